/-
  Models and walks, printed by our own program (wip/gen).
-/
import Derived.Test.YtbmhcapeikebgaaFB
namespace Go.Proofs.Ytbmhcapeikebgaa
open Go Go.GL Go.RowKit




noncomputable def gameroomref_Ints_m (l1 : List Int) : Option (List Int) :=
  asrt ((0 : Int) + (l1.length : Int) ≤ bigN) <| some ([] ++ l1)

set_option maxRecDepth 100000 in
set_option maxHeartbeats 4000000 in
theorem gameroomref_Ints_w {A1 : Option Addr} {c1 : Nat} {n1 : Nat} {l1 : List Int} {r : (List Int)} {w0 w : World} {B : Nat} {fs : List HP} (hm : gameroomref_Ints_m l1 = some r) (hS : Sep w0 B w (fs)) (hr_l1 : RdF w0 B fs A1 (vI l1)) (_hc_l1 : l1.length ≤ c1) (_hn_l1 : n1 = l1.length) :
    Calls Try.prog 93 #[.slice A1 n1 c1] w fun e w' => ∃ v, e = .returned v ∧ ∃ (A3 : Option Addr) (c3 : Nat), v = .slice A3 r.length c3 ∧ Sep w0 B w' (own 3 (.slice A3 r.length c3) (vI r) :: fs) := by
  obtain ⟨i3, hi3, hz3, hs3, hb3⟩ := info_parts Info3
  obtain rfl := _hn_l1
  unfold gameroomref_Ints_m at hm
  replace hm := start_b hm
  refine enter (l := [.slice A1 l1.length c1]) (n := 5) Try.func93 rfl rfl (by simp) (fun a hF => ?_)
  refine reg [] [] [0] [pl 0 (.slice A1 l1.length c1)] hF hS Fol (by kernel_rfl) (by kernel_rfl) (by kernel_rfl) ?_ (fun a w hF hS => ?_)
  · exact obs_nil
  refine seqR ?_
  obtain ⟨hp1, hm⟩ := asrt_b hm
  refine at_run 1 [] [] [3] [pl 3 (.slice A1 l1.length c1)] hF hS (by kernel_rfl) (by kernel_rfl) ?_ (fun a w hF hS => ?_)
  · exact obs_nil
  have hS : Sep w0 B w (own 3 (.slice none 0 0) (vI ([] : List Int)) :: fs) := hS.nil 3
  obtain ⟨A2, c2, w, hrun, hS⟩ := run_app1 (P := Try.prog) (t := 40) (m := ([] : List Int)) (ys := l1) (A2 := A1) (m2 := l1.length) (c2 := c1) (Value.int .i64) (0 : Int) (hS.at_ 0 rfl) (hr_l1 _ (hS.dropN 1)) rfl 40 Und40 hi3 hz3 hs3 (by omega) rfl (fun _ => rfl) hp1
  have hS : Sep w0 B w (own 3 (.slice A2 (([] ++ l1).length) c2) (vI ([] ++ l1)) :: fs) := hS
  refine at_do (d := 4) hF (by kernel_rfl) (by kernel_rfl) hrun (fun a hF => ?_)
  refine at_run 1 [] [] [2] [pl 2 (.slice A2 (([] ++ l1).length) c2)] hF hS (by kernel_rfl) (by kernel_rfl) ?_ (fun a w hF hS => ?_)
  · exact obs_nil
  refine at_end [2] [pl 2 (.slice A2 (([] ++ l1).length) c2)] hF rfl (by kernel_rfl) (fun hF => ?_)
  refine then_n ?_
  refine wp_ret ?_
  have hm : some ([] ++ l1) = some r := hm
  obtain rfl := Option.some.inj hm
  exact retV (rs := [.tmp 2]) (vs := [.slice A2 (([] ++ l1).length) c2]) hF rfl (rv_t (by kernel_rfl) <| rv_nil) rfl ⟨_, rfl, A2, c2, rfl, hS⟩

noncomputable def gameroomref_GridOf_m (g1 : Int) (g2 : Int) (g3 : List Int) : Option (Int × Int × List Int) :=
  (gameroomref_Ints_m g3).bind fun r1 => some (g1, g2, r1)

set_option maxRecDepth 100000 in
set_option maxHeartbeats 4000000 in
theorem gameroomref_GridOf_w {g1 : Int} {g2 : Int} {A1 : Option Addr} {c1 : Nat} {n1 : Nat} {g3 : List Int} {r : (Int × Int × List Int)} {w0 w : World} {B : Nat} {fs : List HP} (hm : gameroomref_GridOf_m g1 g2 g3 = some r) (hS : Sep w0 B w (fs)) (hr_g3 : RdF w0 B fs A1 (vI g3)) (_hc_g3 : g3.length ≤ c1) (_hn_g3 : n1 = g3.length) :
    Calls Try.prog 60 #[.agg #[.int .i64 g1, .int .i64 g2, .slice A1 n1 c1]] w fun e w' => ∃ v, e = .returned v ∧ ∃ (A3 : Option Addr) (c3 : Nat), v = .agg #[.int .i64 r.1, .int .i64 r.2.1, .slice A3 r.2.2.length c3] ∧ Sep w0 B w' (own 3 (.slice A3 r.2.2.length c3) (vI r.2.2) :: fs) := by
  obtain ⟨i3, hi3, hz3, hs3, hb3⟩ := info_parts Info3
  obtain ⟨i40, hi40, hz40, hs40, hb40⟩ := info_parts Info40
  obtain rfl := _hn_g3
  unfold gameroomref_GridOf_m at hm
  replace hm := start_b hm
  refine enter (l := [.agg #[.int .i64 g1, .int .i64 g2, .slice A1 g3.length c1]]) (n := 8) Try.func60 rfl rfl (by simp) (fun a hF => ?_)
  refine seqR ?_
  refine at_do (d := 1) (s := vS (Instr.box 82 (.agg #[.int .i64 g1, .int .i64 g2, .slice A1 g3.length c1]))) (v := .pointer (some ⟨w.heap.size, 0, none⟩)) (w' := w.alloc (.cells #[.int .i64 g1, .int .i64 g2, .slice A1 g3.length c1] 82)) hF (by kernel_rfl) (by kernel_rfl) (by kernel_rfl) (fun a hF => ?_)
  have hS : Sep w0 B (w.alloc (.cells #[.int .i64 g1, .int .i64 g2, .slice A1 g3.length c1] 82)) (blk w.heap.size 82 #[.int .i64 g1, .int .i64 g2, .slice A1 g3.length c1] :: (fs)) := hS.box 82 #[.int .i64 g1, .int .i64 g2, .slice A1 g3.length c1]
  generalize w.heap.size = g4 at hF hS
  generalize w.alloc (.cells #[.int .i64 g1, .int .i64 g2, .slice A1 g3.length c1] 82) = w at hS ⊢
  refine at_do (d := 2) (s := vS (Instr.alloc 82 true (.tuple #[]))) (v := .pointer (some ⟨w.heap.size, 0, none⟩)) (w' := w.alloc (.cells #[.int .i64 0, .int .i64 0, .slice none 0 0] 82)) hF (by kernel_rfl) (by kernel_rfl) (by kernel_rfl) (fun a hF => ?_)
  have hS : Sep w0 B (w.alloc (.cells #[.int .i64 0, .int .i64 0, .slice none 0 0] 82)) (blk w.heap.size 82 #[.int .i64 0, .int .i64 0, .slice none 0 0] :: (blk g4 82 #[.int .i64 g1, .int .i64 g2, .slice A1 g3.length c1] :: fs)) := hS.box 82 #[.int .i64 0, .int .i64 0, .slice none 0 0]
  generalize w.heap.size = g5 at hF hS
  generalize w.alloc (.cells #[.int .i64 0, .int .i64 0, .slice none 0 0] 82) = w at hS ⊢
  refine at_end [1, 2] [pl 1 (.pointer (some ⟨g4, 0, none⟩)), pl 2 (.pointer (some ⟨g5, 0, none⟩))] hF rfl (by kernel_rfl) (fun hF => ?_)
  refine then_n ?_
  refine seqR ?_
  obtain ⟨r1, hr1, hm⟩ := call_b hm
  refine at_run 2 [⟨false, [], vS (Instr.loadAt 40 (.pointer (some ⟨g4, 2, none⟩))), .slice A1 g3.length c1⟩] [none, some (.slice A1 g3.length c1)] [1, 2, 4] [pl 1 (.pointer (some ⟨g4, 0, none⟩)), pl 2 (.pointer (some ⟨g5, 0, none⟩)), pl 4 (.slice A1 g3.length c1)] hF hS (by kernel_rfl) (by kernel_rfl) ?_ (fun a w hF hS => ?_)
  · exact obs_cons (ob_load Agg40 (fun _ _ hS => (hS.at_ 1 rfl).cell rfl)) <| obs_nil
  refine at_call (f := 93) (args := #[.slice A1 g3.length c1]) (d := 5) hF (by kernel_rfl) (by kernel_rfl) Try.func93 (by kernel_rfl) rfl (gameroomref_Ints_w hr1 hS (fun _ hS => (hr_g3 _ (hS.dropN 2))) _hc_g3 rfl) (fun v a w hR hF => ?_)
  clear hS
  obtain ⟨A2, c2, rfl, hS⟩ := hR
  have hS : Sep w0 B w (own 3 (.slice A2 r1.length c2) (vI r1) :: blk g5 82 #[.int .i64 0, .int .i64 0, .slice none 0 0] :: blk g4 82 #[.int .i64 g1, .int .i64 g2, .slice A1 g3.length c1] :: fs) := hS
  refine at_run 1 [] [] [1, 2, 5, 6] [pl 1 (.pointer (some ⟨g4, 0, none⟩)), pl 2 (.pointer (some ⟨g5, 0, none⟩)), pl 5 (.slice A2 r1.length c2), pl 6 (.pointer (some ⟨g4, 2, none⟩))] hF hS (by kernel_rfl) (by kernel_rfl) ?_ (fun a w hF hS => ?_)
  · exact obs_nil
  obtain ⟨w, hrun, hS⟩ := run_put (P := Try.prog) (t := 40) (u := .slice A2 r1.length c2) (i := 2) (hS.at_ 2 rfl) hi40 hs40 rfl (Nat.lt_of_lt_of_eq (Nat.lt_of_succ_le (Nat.le_of_ble_eq_true (by kernel_rfl))) rfl)
  refine at_skip hF (by kernel_rfl) hrun ?_
  have hS : Sep w0 B w (own 3 (.slice A2 r1.length c2) (vI r1) :: blk g5 82 #[.int .i64 0, .int .i64 0, .slice none 0 0] :: blk g4 82 #[.int .i64 g1, .int .i64 g2, .slice A2 r1.length c2] :: fs) := hS
  refine at_end [1, 2] [pl 1 (.pointer (some ⟨g4, 0, none⟩)), pl 2 (.pointer (some ⟨g5, 0, none⟩))] hF rfl (by kernel_rfl) (fun hF => ?_)
  refine then_n ?_
  refine seqR ?_
  refine at_run 1 [⟨false, [], vS (Instr.loadAt 82 (.pointer (some ⟨g4, 0, none⟩))), .agg #[.int .i64 g1, .int .i64 g2, .slice A2 r1.length c2]⟩] [some (.agg #[.int .i64 g1, .int .i64 g2, .slice A2 r1.length c2])] [2, 7] [pl 2 (.pointer (some ⟨g5, 0, none⟩)), pl 7 (.agg #[.int .i64 g1, .int .i64 g2, .slice A2 r1.length c2])] hF hS (by kernel_rfl) (by kernel_rfl) ?_ (fun a w hF hS => ?_)
  · exact obs_cons (ob_loadA (cs := #[.int .i64 g1, .int .i64 g2, .slice A2 r1.length c2]) (by kernel_rfl) (by kernel_rfl) (fun _ _ hS => (hS.at_ 2 rfl).cellsAt 0 (by rfl))) <| obs_nil
  obtain ⟨w, hrun, hS⟩ := run_putA (P := Try.prog) (t := 82) (us := #[.int .i64 g1, .int .i64 g2, .slice A2 r1.length c2]) (o := 0) (hS.at_ 1 rfl) (by kernel_rfl) (all_one (by kernel_rfl)) (Nat.le_of_ble_eq_true (by kernel_rfl))
  refine at_skip hF (by kernel_rfl) hrun ?_
  have hS : Sep w0 B w (own 3 (.slice A2 r1.length c2) (vI r1) :: blk g5 82 #[.int .i64 g1, .int .i64 g2, .slice A2 r1.length c2] :: blk g4 82 #[.int .i64 g1, .int .i64 g2, .slice A2 r1.length c2] :: fs) := hS
  refine at_end [2] [pl 2 (.pointer (some ⟨g5, 0, none⟩))] hF rfl (by kernel_rfl) (fun hF => ?_)
  refine then_n ?_
  refine wp_ret ?_
  have hld0 := run_loadVarA (P := Try.prog) (t := 82) (cs := #[.int .i64 g1, .int .i64 g2, .slice A2 r1.length c2]) (by kernel_rfl) (by kernel_rfl) ((hS.at_ 1 rfl).cellsAt 0 (by rfl))
  have hS := hS.pickN 3 [0] (by decide)
  have hm : some (g1, g2, r1) = some r := hm
  obtain rfl := Option.some.inj hm
  exact retV (rs := [.cell 2 82]) (vs := [.agg #[.int .i64 g1, .int .i64 g2, .slice A2 r1.length c2]]) hF rfl (rv_c (by kernel_rfl) hld0 <| rv_nil) rfl ⟨_, rfl, A2, c2, rfl, hS⟩

noncomputable def rows_May_1_m (c1 : Int) : Option Bool :=
  some ((decide (c1 < 0)) || (decide ((2 : Int) < c1)))

set_option maxRecDepth 100000 in
set_option maxHeartbeats 4000000 in
theorem rows_May_1_w {c1 : Int} {r : Bool} {w0 w : World} {B : Nat} {fs : List HP} (hm : rows_May_1_m c1 = some r) (hS : Sep w0 B w (fs)) :
    Calls Try.prog 147 #[.int .i64 c1] w fun e w' => e = .returned (.bool r) ∧ Sep w0 B w' (fs) := by
  unfold rows_May_1_m at hm
  replace hm := start_b hm
  refine enter (l := [.int .i64 c1]) (n := 9) Try.func147 rfl rfl (by simp) (fun a hF => ?_)
  refine reg [] [] [0] [pl 0 (.int .i64 c1)] hF hS Fol (by kernel_rfl) (by kernel_rfl) (by kernel_rfl) ?_ (fun a w hF hS => ?_)
  · exact obs_nil
  refine reg [] [] [2] [pl 2 (.bool ((decide (c1 < 0)) || (decide ((2 : Int) < c1))))] hF hS Fol (by kernel_rfl) (by kernel_rfl) (by kernel_rfl) ?_ (fun a w hF hS => ?_)
  · exact obs_nil
  refine wp_ret ?_
  have hm : some ((decide (c1 < 0)) || (decide ((2 : Int) < c1))) = some r := hm
  obtain rfl := Option.some.inj hm
  exact retV (rs := [.tmp 2]) (vs := [.bool ((decide (c1 < 0)) || (decide ((2 : Int) < c1)))]) hF rfl (rv_t (by kernel_rfl) <| rv_nil) rfl ⟨rfl, hS⟩

noncomputable def slices_IndexFunc_J3 (z1 : Int) : Option (St Int (Fl Unit Int)) :=
  some (.next (w64 (z1 + 1)))

noncomputable def slices_IndexFunc_J2 (s1 : List Int) (z1 : Int) : Option (St Int (Fl Unit Int)) :=
  asrt (0 ≤ z1 ∧ z1 < (s1.length : Int)) <| (rows_May_1_m (geti s1 z1)).bind fun r1 => if r1 then (some (.done (.ret z1))) else ((slices_IndexFunc_J3 z1))

noncomputable def slices_IndexFunc_J1 : Option Int :=
  some (-1)

noncomputable def slices_IndexFunc_K1 : (Fl Unit Int) → Option Int :=
  fun (x : (Fl Unit Int)) => match x with | .go _ => slices_IndexFunc_J1 | .ret x => some x

noncomputable def slices_IndexFunc_L1 (s1 : List Int) : Int → Option (St Int (Fl Unit Int)) :=
  fun (x : Int) => match x with | z1 => if (decide (z1 < (s1.length : Int))) then ((slices_IndexFunc_J2 s1 z1)) else (some (.done (.go ())))

noncomputable def slices_IndexFunc_m (s1 : List Int) : Option Int :=
  (loop (slices_IndexFunc_L1 s1) 0).bind slices_IndexFunc_K1

set_option maxRecDepth 100000 in
set_option maxHeartbeats 4000000 in
theorem slices_IndexFunc_w {A1 : Option Addr} {c1 : Nat} {n1 : Nat} {s1 : List Int} {r : Int} {w0 w : World} {B : Nat} {fs : List HP} (hm : slices_IndexFunc_m s1 = some r) (hS : Sep w0 B w (fs)) (hr_s1 : RdF w0 B fs A1 (vI s1)) (_hc_s1 : s1.length ≤ c1) (_hn_s1 : n1 = s1.length) :
    Calls Try.prog 134 #[.slice A1 n1 c1, .func (.func 147) #[] #[]] w fun e w' => e = .returned (.int .i64 r) ∧ Sep w0 B w' (fs) := by
  obtain ⟨i3, hi3, hz3, hs3, hb3⟩ := info_parts Info3
  obtain rfl := _hn_s1
  unfold slices_IndexFunc_m at hm
  replace hm := start_b hm
  refine enter (l := [.slice A1 s1.length c1, .func (.func 147) #[] #[]]) (n := 19) Try.func134 rfl rfl (by simp) (fun a hF => ?_)
  refine reg [] [] [0, 1] [pl 0 (.slice A1 s1.length c1), pl 1 (.func (.func 147) #[] #[])] hF hS Fol (by kernel_rfl) (by kernel_rfl) (by kernel_rfl) ?_ (fun a w hF hS => ?_)
  · exact obs_nil
  refine seq_cut (fun a w => Fr 19 [] a ∧ Sep w0 B w (fs) ∧ (slices_IndexFunc_J1).bind some = some r) ?_ ?_
  · rintro a w ⟨hF, hS, hm⟩
    unfold slices_IndexFunc_J1 at hm
    refine reg [] [] [4] [pl 4 (.int .i64 (-1))] hF hS Fol (by kernel_rfl) (by kernel_rfl) (by kernel_rfl) ?_ (fun a w hF hS => ?_)
    · exact obs_nil
    refine wp_ret ?_
    have hm : some (-1) = some r := hm
    obtain rfl := Option.some.inj hm
    exact retV (rs := [.tmp 4]) (vs := [.int .i64 (-1)]) hF rfl (rv_t (by kernel_rfl) <| rv_nil) rfl ⟨rfl, hS⟩
  · refine reg [] [] [0, 1, 7, 8] [pl 0 (.slice A1 s1.length c1), pl 1 (.func (.func 147) #[] #[]), pl 7 (.int .i64 (s1.length : Int)), pl 8 (.int .i64 0)] hF hS Fol (by kernel_rfl) (by kernel_rfl) (by kernel_rfl) ?_ (fun a w hF hS => ?_)
    · exact obs_nil
    refine wp_block ?_
    refine wp_loop_model (S := Int) (R := (Fl Unit Int)) (slices_IndexFunc_L1 s1) (fun x => (slices_IndexFunc_K1 x).bind some) r (fun (x : Int) a w => Fr 19 [pl 0 (.slice A1 s1.length c1), pl 1 (.func (.func 147) #[] #[]), pl 7 (.int .i64 (s1.length : Int)), pl 8 (.int .i64 x)] a ∧ Sep w0 B w (fs)) (assoc_b hm) ⟨hF.weak [0, 1, 7, 8] (by kernel_rfl), hS⟩ ?_
    clear hF hS hm
    rintro nn1 z1 a w ⟨hF, hS⟩ hm
    generalize hφ1 : stK (slices_IndexFunc_L1 s1) nn1 (fun x => (slices_IndexFunc_K1 x).bind some) = φ1 at hm
    unfold slices_IndexFunc_L1 at hm
    dsimp only at hm
    refine reg [] [] [0, 1, 7, 8, 9] [pl 0 (.slice A1 s1.length c1), pl 1 (.func (.func 147) #[] #[]), pl 7 (.int .i64 (s1.length : Int)), pl 8 (.int .i64 z1), pl 9 (.bool (decide (z1 < (s1.length : Int))))] hF hS Fol (by kernel_rfl) (by kernel_rfl) (by kernel_rfl) ?_ (fun a w hF hS => ?_)
    · exact obs_nil
    refine seq_cut (fun a w => Fr 19 [pl 0 (.slice A1 s1.length c1), pl 1 (.func (.func 147) #[] #[]), pl 7 (.int .i64 (s1.length : Int)), pl 8 (.int .i64 z1)] a ∧ Sep w0 B w (fs) ∧ ((slices_IndexFunc_J2 s1 z1)).bind φ1 = some r) ?_ ?_
    · rintro a w ⟨hF, hS, hm⟩
      unfold slices_IndexFunc_J2 at hm
      refine seq_cut (fun a w => Fr 19 [pl 0 (.slice A1 s1.length c1), pl 1 (.func (.func 147) #[] #[]), pl 7 (.int .i64 (s1.length : Int)), pl 8 (.int .i64 z1)] a ∧ Sep w0 B w (fs) ∧ ((slices_IndexFunc_J3 z1)).bind φ1 = some r) ?_ ?_
      · rintro a w ⟨hF, hS, hm⟩
        unfold slices_IndexFunc_J3 at hm
        refine reg1 [] [] [0, 1, 7, 8] [pl 0 (.slice A1 s1.length c1), pl 1 (.func (.func 147) #[] #[]), pl 7 (.int .i64 (s1.length : Int)), pl 8 (.int .i64 (w64 (z1 + 1)))] hF hS Fol (by kernel_rfl) (by kernel_rfl) (by kernel_rfl) ?_ (fun a w hF hS => ?_)
        · exact obs_nil
        refine then_n ?_
        rw [← hφ1] at hm
        exact ⟨(w64 (z1 + 1)), ⟨hF.weak [0, 1, 7, 8] (by kernel_rfl), hS⟩, hm⟩
      · refine wp_block ?_
        refine reg [] [] [0, 1, 5, 7, 8] [pl 0 (.slice A1 s1.length c1), pl 1 (.func (.func 147) #[] #[]), pl 5 (.int .i64 z1), pl 7 (.int .i64 (s1.length : Int)), pl 8 (.int .i64 z1)] hF hS Fol (by kernel_rfl) (by kernel_rfl) (by kernel_rfl) ?_ (fun a w hF hS => ?_)
        · exact obs_nil
        obtain ⟨hp1, hm⟩ := asrt_b hm
        obtain ⟨r1, hr1, hm⟩ := call_b hm
        refine reg [⟨true, [], vS (Instr.indexAt 40 (.slice A1 s1.length c1) (.int .i64 z1)), .pointer (some (sAddr A1 z1))⟩, ⟨false, [], vS (Instr.loadAt 3 (.pointer (some (sAddr A1 z1)))), .int .i64 (geti s1 z1)⟩, ⟨false, [], callFunc 147 #[.int .i64 (geti s1 z1)], .bool r1⟩] [none, none, none, some (.pointer (some (sAddr A1 z1))), some (.int .i64 (geti s1 z1)), some (.bool r1)] [0, 1, 5, 7, 8, 16] [pl 0 (.slice A1 s1.length c1), pl 1 (.func (.func 147) #[] #[]), pl 5 (.int .i64 z1), pl 7 (.int .i64 (s1.length : Int)), pl 8 (.int .i64 z1), pl 16 (.bool r1)] hF hS Fol (by kernel_rfl) (by kernel_rfl) (by kernel_rfl) ?_ (fun a w hF hS => ?_)
        · exact obs_cons (ob_ix1 (f := (Value.int .i64)) (m := s1) Und40 hi3 hs3 (hr_s1 _ (hS.dropN 0)) rfl (fun _ => hp1)) <| obs_cons (ob_get1 (n := s1.length) (m := s1) (Value.int .i64) (0 : Int) Agg3 (fun _ hS => ⟨_, (hr_s1 _ (hS.dropN 0))⟩) (fun _ hS => rfl) (fun _ => hp1)) <| obs_cons (ob_call Try.func147 (by kernel_rfl) rfl (fun _ _ hS => rows_May_1_w hr1 hS )) <| obs_nil
        refine cond_ev (t := 16) (b := r1) hF (by kernel_rfl) (fun hb => ?_) (fun hb => ?_)
        · replace hm := if_t hm hb
          refine reg [] [] [4] [pl 4 (.int .i64 z1)] hF hS Fol (by kernel_rfl) (by kernel_rfl) (by kernel_rfl) ?_ (fun a w hF hS => ?_)
          · exact obs_nil
          refine wp_ret ?_
          refine block_r (then_r (then_r (block_r (then_r ?_))))
          rw [← hφ1] at hm
          replace hm := done_b hm
          unfold slices_IndexFunc_K1 at hm
          try dsimp only at hm
          have hm : some z1 = some r := hm
          obtain rfl := Option.some.inj hm
          exact retV (rs := [.tmp 4]) (vs := [.int .i64 z1]) hF rfl (rv_t (by kernel_rfl) <| rv_nil) rfl ⟨rfl, hS⟩
        · replace hm := if_f hm hb
          refine wp_skip ?_
          refine block_n ?_
          refine then_n ?_
          exact ⟨hF.weak [0, 1, 7, 8] (by kernel_rfl), hS, hm⟩
    · refine cond_ev (t := 9) (b := decide (z1 < (s1.length : Int))) hF (by kernel_rfl) (fun hb => ?_) (fun hb => ?_)
      · replace hm := if_t hm hb
        refine wp_skip ?_
        refine then_n ?_
        exact ⟨hF.weak [0, 1, 7, 8] (by kernel_rfl), hS, hm⟩
      · replace hm := if_f hm hb
        refine wp_exit ?_
        refine then_e (then_e (block_e (then_n ?_)))
        rw [← hφ1] at hm
        replace hm := done_b hm
        unfold slices_IndexFunc_K1 at hm
        try dsimp only at hm
        have hm : (slices_IndexFunc_J1).bind some = some r := hm
        exact ⟨hF.weak [] (by kernel_rfl), hS, hm⟩

noncomputable def slices_ContainsFunc_m (s1 : List Int) : Option Bool :=
  (slices_IndexFunc_m s1).bind fun r1 => some (decide ((0 : Int) ≤ r1))

set_option maxRecDepth 100000 in
set_option maxHeartbeats 4000000 in
theorem slices_ContainsFunc_w {A1 : Option Addr} {c1 : Nat} {n1 : Nat} {s1 : List Int} {r : Bool} {w0 w : World} {B : Nat} {fs : List HP} (hm : slices_ContainsFunc_m s1 = some r) (hS : Sep w0 B w (fs)) (hr_s1 : RdF w0 B fs A1 (vI s1)) (_hc_s1 : s1.length ≤ c1) (_hn_s1 : n1 = s1.length) :
    Calls Try.prog 94 #[.slice A1 n1 c1, .func (.func 147) #[] #[]] w fun e w' => e = .returned (.bool r) ∧ Sep w0 B w' (fs) := by
  obtain ⟨i3, hi3, hz3, hs3, hb3⟩ := info_parts Info3
  obtain rfl := _hn_s1
  unfold slices_ContainsFunc_m at hm
  replace hm := start_b hm
  refine enter (l := [.slice A1 s1.length c1, .func (.func 147) #[] #[]]) (n := 9) Try.func94 rfl rfl (by simp) (fun a hF => ?_)
  refine reg [] [] [0, 1] [pl 0 (.slice A1 s1.length c1), pl 1 (.func (.func 147) #[] #[])] hF hS Fol (by kernel_rfl) (by kernel_rfl) (by kernel_rfl) ?_ (fun a w hF hS => ?_)
  · exact obs_nil
  obtain ⟨r1, hr1, hm⟩ := call_b hm
  refine reg [⟨false, [], callFunc 134 #[.slice A1 s1.length c1, .func (.func 147) #[] #[]], .int .i64 r1⟩] [none, none, some (.int .i64 r1), none, none] [4] [pl 4 (.bool (decide ((0 : Int) ≤ r1)))] hF hS Fol (by kernel_rfl) (by kernel_rfl) (by kernel_rfl) ?_ (fun a w hF hS => ?_)
  · exact obs_cons (ob_call Try.func134 (by kernel_rfl) rfl (fun _ _ hS => slices_IndexFunc_w hr1 hS (fun _ hS => (hr_s1 _ (hS.dropN 0))) _hc_s1 rfl)) <| obs_nil
  refine wp_ret ?_
  have hm : some (decide ((0 : Int) ≤ r1)) = some r := hm
  obtain rfl := Option.some.inj hm
  exact retV (rs := [.tmp 4]) (vs := [.bool (decide ((0 : Int) ≤ r1))]) hF rfl (rv_t (by kernel_rfl) <| rv_nil) rfl ⟨rfl, hS⟩

noncomputable def rows_May_m (g1 : Int) (g2 : Int) (g3 : List Int) : Option Bool :=
  ((if (((((decide ((1 : Int) ≤ g1)) && (decide (g1 ≤ 10))) && (decide ((1 : Int) ≤ g2))) && (decide (g2 ≤ 10))) && ((g3.length : Int) == (w64 (g1 * g2)))) then slices_ContainsFunc_m g3 else some false)).bind fun r1 => some ((((((decide ((1 : Int) ≤ g1)) && (decide (g1 ≤ 10))) && (decide ((1 : Int) ≤ g2))) && (decide (g2 ≤ 10))) && ((g3.length : Int) == (w64 (g1 * g2)))) && (!r1))

set_option maxRecDepth 100000 in
set_option maxHeartbeats 4000000 in
theorem rows_May_w {g1 : Int} {g2 : Int} {A1 : Option Addr} {c1 : Nat} {n1 : Nat} {g3 : List Int} {r : Bool} {w0 w : World} {B : Nat} {fs : List HP} (hm : rows_May_m g1 g2 g3 = some r) (hS : Sep w0 B w (fs)) (hr_g3 : RdF w0 B fs A1 (vI g3)) (_hc_g3 : g3.length ≤ c1) (_hn_g3 : n1 = g3.length) :
    Calls Try.prog 113 #[.agg #[.int .i64 g1, .int .i64 g2, .slice A1 n1 c1]] w fun e w' => e = .returned (.bool r) ∧ Sep w0 B w' (fs) := by
  obtain ⟨i3, hi3, hz3, hs3, hb3⟩ := info_parts Info3
  obtain rfl := _hn_g3
  unfold rows_May_m at hm
  replace hm := start_b hm
  refine enter (l := [.agg #[.int .i64 g1, .int .i64 g2, .slice A1 g3.length c1]]) (n := 38) Try.func113 rfl rfl (by simp) (fun a hF => ?_)
  refine seqR ?_
  refine at_do (d := 1) (s := vS (Instr.box 82 (.agg #[.int .i64 g1, .int .i64 g2, .slice A1 g3.length c1]))) (v := .pointer (some ⟨w.heap.size, 0, none⟩)) (w' := w.alloc (.cells #[.int .i64 g1, .int .i64 g2, .slice A1 g3.length c1] 82)) hF (by kernel_rfl) (by kernel_rfl) (by kernel_rfl) (fun a hF => ?_)
  have hS : Sep w0 B (w.alloc (.cells #[.int .i64 g1, .int .i64 g2, .slice A1 g3.length c1] 82)) (blk w.heap.size 82 #[.int .i64 g1, .int .i64 g2, .slice A1 g3.length c1] :: (fs)) := hS.box 82 #[.int .i64 g1, .int .i64 g2, .slice A1 g3.length c1]
  generalize w.heap.size = g4 at hF hS
  generalize w.alloc (.cells #[.int .i64 g1, .int .i64 g2, .slice A1 g3.length c1] 82) = w at hS ⊢
  refine at_run 1 [] [] [1] [pl 1 (.pointer (some ⟨g4, 0, none⟩))] hF hS (by kernel_rfl) (by kernel_rfl) ?_ (fun a w hF hS => ?_)
  · exact obs_nil
  refine at_end [1] [pl 1 (.pointer (some ⟨g4, 0, none⟩))] hF rfl (by kernel_rfl) (fun hF => ?_)
  refine then_n ?_
  obtain ⟨r1, hr1, hm⟩ := call_b hm
  refine reg [⟨false, [], vS (Instr.loadAt 3 (.pointer (some ⟨g4, 0, none⟩))), .int .i64 g1⟩, ⟨false, [(decide ((1 : Int) ≤ g1), true)], vS (Instr.loadAt 3 (.pointer (some ⟨g4, 0, none⟩))), .int .i64 g1⟩, ⟨false, [((decide ((1 : Int) ≤ g1)) && (decide (g1 ≤ 10)), true)], vS (Instr.loadAt 3 (.pointer (some ⟨g4, 1, none⟩))), .int .i64 g2⟩, ⟨false, [(((decide ((1 : Int) ≤ g1)) && (decide (g1 ≤ 10))) && (decide ((1 : Int) ≤ g2)), true)], vS (Instr.loadAt 3 (.pointer (some ⟨g4, 1, none⟩))), .int .i64 g2⟩, ⟨false, [((((decide ((1 : Int) ≤ g1)) && (decide (g1 ≤ 10))) && (decide ((1 : Int) ≤ g2))) && (decide (g2 ≤ 10)), true)], vS (Instr.loadAt 40 (.pointer (some ⟨g4, 2, none⟩))), .slice A1 g3.length c1⟩, ⟨false, [((((decide ((1 : Int) ≤ g1)) && (decide (g1 ≤ 10))) && (decide ((1 : Int) ≤ g2))) && (decide (g2 ≤ 10)), true)], vS (Instr.loadAt 3 (.pointer (some ⟨g4, 0, none⟩))), .int .i64 g1⟩, ⟨false, [((((decide ((1 : Int) ≤ g1)) && (decide (g1 ≤ 10))) && (decide ((1 : Int) ≤ g2))) && (decide (g2 ≤ 10)), true)], vS (Instr.loadAt 3 (.pointer (some ⟨g4, 1, none⟩))), .int .i64 g2⟩, ⟨false, [(((((decide ((1 : Int) ≤ g1)) && (decide (g1 ≤ 10))) && (decide ((1 : Int) ≤ g2))) && (decide (g2 ≤ 10))) && ((g3.length : Int) == (w64 (g1 * g2))), true)], vS (Instr.loadAt 40 (.pointer (some ⟨g4, 2, none⟩))), .slice A1 g3.length c1⟩, ⟨false, [(((((decide ((1 : Int) ≤ g1)) && (decide (g1 ≤ 10))) && (decide ((1 : Int) ≤ g2))) && (decide (g2 ≤ 10))) && ((g3.length : Int) == (w64 (g1 * g2))), true)], callFunc 94 #[.slice A1 g3.length c1, .func (.func 147) #[] #[]], .bool r1⟩] [none, some (.int .i64 g1), none, none, none, some (.int .i64 g1), none, none, none, none, some (.int .i64 g2), none, none, none, none, some (.int .i64 g2), none, none, none, none, some (.slice A1 g3.length c1), none, none, some (.int .i64 g1), none, some (.int .i64 g2), none, none, none, none, none, some (.slice A1 g3.length c1), some (.bool r1), none, none, none] [2] [pl 2 (.bool ((((((decide ((1 : Int) ≤ g1)) && (decide (g1 ≤ 10))) && (decide ((1 : Int) ≤ g2))) && (decide (g2 ≤ 10))) && ((g3.length : Int) == (w64 (g1 * g2)))) && (!r1)))] hF hS Fol (by kernel_rfl) (by kernel_rfl) (by kernel_rfl) ?_ (fun a w hF hS => ?_)
  · exact obs_cons (ob_load Agg3 (fun _ _ hS => (hS.at_ 0 rfl).cell rfl)) <| obs_cons (ob_load Agg3 (fun _ _ hS => (hS.at_ 0 rfl).cell rfl)) <| obs_cons (ob_load Agg3 (fun _ _ hS => (hS.at_ 0 rfl).cell rfl)) <| obs_cons (ob_load Agg3 (fun _ _ hS => (hS.at_ 0 rfl).cell rfl)) <| obs_cons (ob_load Agg40 (fun _ _ hS => (hS.at_ 0 rfl).cell rfl)) <| obs_cons (ob_load Agg3 (fun _ _ hS => (hS.at_ 0 rfl).cell rfl)) <| obs_cons (ob_load Agg3 (fun _ _ hS => (hS.at_ 0 rfl).cell rfl)) <| obs_cons (ob_load Agg40 (fun _ _ hS => (hS.at_ 0 rfl).cell rfl)) <| obs_cons (ob_call Try.func94 (by kernel_rfl) rfl (fun hy _ hS => slices_ContainsFunc_w (ite_some hr1 (by rw [show (((((decide ((1 : Int) ≤ g1)) && (decide (g1 ≤ 10))) && (decide ((1 : Int) ≤ g2))) && (decide (g2 ≤ 10))) && ((g3.length : Int) == (w64 (g1 * g2)))) = true from hy (((((decide ((1 : Int) ≤ g1)) && (decide (g1 ≤ 10))) && (decide ((1 : Int) ≤ g2))) && (decide (g2 ≤ 10))) && ((g3.length : Int) == (w64 (g1 * g2))), true) (by simp)]; try rfl)) hS (fun _ hS => (hr_g3 _ (hS.dropN 1))) _hc_g3 rfl)) <| obs_nil
  refine wp_ret ?_
  have hS := hS.pickN 1 [] (by decide)
  have hm : some ((((((decide ((1 : Int) ≤ g1)) && (decide (g1 ≤ 10))) && (decide ((1 : Int) ≤ g2))) && (decide (g2 ≤ 10))) && ((g3.length : Int) == (w64 (g1 * g2)))) && (!r1)) = some r := hm
  obtain rfl := Option.some.inj hm
  exact retV (rs := [.tmp 2]) (vs := [.bool ((((((decide ((1 : Int) ≤ g1)) && (decide (g1 ≤ 10))) && (decide ((1 : Int) ≤ g2))) && (decide (g2 ≤ 10))) && ((g3.length : Int) == (w64 (g1 * g2)))) && (!r1))]) hF rfl (rv_t (by kernel_rfl) <| rv_nil) rfl ⟨rfl, hS⟩

noncomputable def slices_Clone_J1 (s1 : List Int) : Option (List Int) :=
  asrt ((0 : Int) + (s1.length : Int) ≤ bigN) <| some (([] : List Int) ++ s1)

noncomputable def slices_Clone_m (s1 : List Int) : Option (List Int) :=
  (slices_Clone_J1 s1)

set_option maxRecDepth 100000 in
set_option maxHeartbeats 4000000 in
theorem slices_Clone_w {A1 : Option Addr} {c1 : Nat} {n1 : Nat} {s1 : List Int} {r : (List Int)} {w0 w : World} {B : Nat} {fs : List HP} (hm : slices_Clone_m s1 = some r) (hS : Sep w0 B w (fs)) (hr_s1 : RdF w0 B fs A1 (vI s1)) (_hc_s1 : s1.length ≤ c1) (_hn_s1 : n1 = s1.length) :
    Calls Try.prog 88 #[.slice A1 n1 c1] w fun e w' => ∃ v, e = .returned v ∧ ∃ (A3 : Option Addr) (c3 : Nat), v = .slice A3 r.length c3 ∧ Sep w0 B w' (own 3 (.slice A3 r.length c3) (vI r) :: fs) := by
  obtain ⟨i3, hi3, hz3, hs3, hb3⟩ := info_parts Info3
  obtain rfl := _hn_s1
  unfold slices_Clone_m at hm
  replace hm := start_b hm
  refine enter (l := [.slice A1 s1.length c1]) (n := 8) Try.func88 rfl rfl (by simp) (fun a hF => ?_)
  refine reg [] [] [0] [pl 0 (.slice A1 s1.length c1)] hF hS Fol (by kernel_rfl) (by kernel_rfl) (by kernel_rfl) ?_ (fun a w hF hS => ?_)
  · exact obs_nil
  refine seq_cut (fun a w => Fr 8 [pl 0 (.slice A1 s1.length c1)] a ∧ Sep w0 B w (fs) ∧ ((slices_Clone_J1 s1)).bind some = some r) ?_ ?_
  · rintro a w ⟨hF, hS, hm⟩
    unfold slices_Clone_J1 at hm
    refine seqR ?_
    obtain ⟨hp1, hm⟩ := asrt_b hm
    refine at_do (d := 5) (s := vS (Instr.buildSlice 40 0 #[])) (v := .slice (some ⟨w.heap.size, 0, none⟩) 0 0) (w' := w.alloc (.cells #[] 3)) hF (by kernel_rfl) (by kernel_rfl) (by kernel_rfl) (fun a hF => ?_)
    have hS : Sep w0 B (w.alloc (.cells #[] 3)) (own 3 (.slice (some (⟨w.heap.size, 0, none⟩ : Addr)) 0 0) (vI ([] : List Int)) :: (fs)) := hS.lit 3 #[] 0 rfl (by omega)
    generalize (some (⟨w.heap.size, 0, none⟩ : Addr)) = g1 at hF hS
    generalize w.alloc (.cells #[] 3) = w at hS ⊢
    refine at_run 1 [] [] [5, 6] [pl 5 (.slice g1 0 0), pl 6 (.slice A1 s1.length c1)] hF hS (by kernel_rfl) (by kernel_rfl) ?_ (fun a w hF hS => ?_)
    · exact obs_nil
    obtain ⟨A2, c2, w, hrun, hS⟩ := run_app1 (P := Try.prog) (t := 40) (m := ([] : List Int)) (ys := s1) (A2 := A1) (m2 := s1.length) (c2 := c1) (Value.int .i64) (0 : Int) (hS.at_ 0 rfl) (hr_s1 _ (hS.dropN 1)) rfl 40 Und40 hi3 hz3 hs3 (by omega) rfl (fun _ => rfl) hp1
    have hS : Sep w0 B w (own 3 (.slice A2 ((([] : List Int) ++ s1).length) c2) (vI (([] : List Int) ++ s1)) :: fs) := hS
    refine at_do (d := 7) hF (by kernel_rfl) (by kernel_rfl) hrun (fun a hF => ?_)
    refine at_run 1 [] [] [2] [pl 2 (.slice A2 ((([] : List Int) ++ s1).length) c2)] hF hS (by kernel_rfl) (by kernel_rfl) ?_ (fun a w hF hS => ?_)
    · exact obs_nil
    refine at_end [2] [pl 2 (.slice A2 ((([] : List Int) ++ s1).length) c2)] hF rfl (by kernel_rfl) (fun hF => ?_)
    refine then_n ?_
    refine wp_ret ?_
    have hm : some (([] : List Int) ++ s1) = some r := hm
    obtain rfl := Option.some.inj hm
    exact retV (rs := [.tmp 2]) (vs := [.slice A2 ((([] : List Int) ++ s1).length) c2]) hF rfl (rv_t (by kernel_rfl) <| rv_nil) rfl ⟨_, rfl, A2, c2, rfl, hS⟩
  · refine reg [⟨true, [], vS (binOp .eql 40 (.slice A1 s1.length c1) (.slice none 0 0)), .bool A1.isNone⟩] [none, some (.bool A1.isNone)] [0, 4] [pl 0 (.slice A1 s1.length c1), pl 4 (.bool A1.isNone)] hF hS Fol (by kernel_rfl) (by kernel_rfl) (by kernel_rfl) ?_ (fun a w hF hS => ?_)
    · exact obs_cons (ob_isnil Und40 rfl) <| obs_nil
    refine cond_ev (t := 4) (b := A1.isNone) hF (by kernel_rfl) (fun hb => ?_) (fun hb => ?_)
    · have hA9 := Option.isNone_iff_eq_none.1 hb
      have hnil9 : s1 = [] := by have h9 := (hr_s1 _ (hS.dropN 0)); rw [hA9] at h9; exact h9.none_nil
      have hm : (some ([] : List Int)).bind some = some r := by rw [hnil9] at hm; simpa [asrt, bigN, slices_Clone_J1] using hm
      refine reg [] [] [2] [pl 2 (.slice none 0 0)] hF hS Fol (by kernel_rfl) (by kernel_rfl) (by kernel_rfl) ?_ (fun a w hF hS => ?_)
      · exact obs_nil
      refine wp_ret ?_
      refine then_r ?_
      have hS : Sep w0 B w (own 3 (.slice none 0 0) (vI ([] : List Int)) :: fs) := hS.nil 3
      have hl1 := (hS.at_ 0 rfl).len1
      have hS := (hS.at_ 0 rfl).reN hl1
      have hS : Sep w0 B w (own 3 (.slice none (([] : List Int).length) 0) (vI ([] : List Int)) :: fs) := hS
      have hm : some ([] : List Int) = some r := hm
      obtain rfl := Option.some.inj hm
      exact retV (rs := [.tmp 2]) (vs := [.slice none (([] : List Int).length) 0]) hF rfl (rv_t (by kernel_rfl) <| rv_nil) rfl ⟨_, rfl, none, 0, rfl, hS⟩
    · refine wp_skip ?_
      refine then_n ?_
      exact ⟨hF.weak [0] (by kernel_rfl), hS, hm⟩

noncomputable def rows_lines_J11 (z4 : Int) (line3 : List Int) : Option (St (List Int × Int) (List Int)) :=
  some (.next (line3, (w64 (z4 + 1))))

noncomputable def rows_lines_J10 (w1 : Int) (z1 : Int) (z2 : Int) (z3 : Int) (line1 : List Int) (z4 : Int) : Option (St (List Int × Int) (List Int)) :=
  asrt ((line1.length : Int) + 1 ≤ bigN) <| (rows_lines_J11 z4) (line1 ++ ([w64 ((w64 ((w64 ((w64 (z1 + (w64 ((geti ([1, 0, 0, 1, 1, 1, (-1), 1] : List Int) (z3 * 2 + 1)) * z4)))) * w1)) + z2)) + (w64 ((geti ([1, 0, 0, 1, 1, 1, (-1), 1] : List Int) (z3 * 2)) * z4)))] : List Int))

noncomputable def rows_lines_J7 (z3 : Int) (l7 : List (List Int)) : Option (St (List (List Int) × Int) (List (List Int))) :=
  some (.next (l7, (w64 (z3 + 1))))

noncomputable def rows_lines_J9 (l5 : List (List Int)) (z3 : Int) (line2 : List Int) : Option (St (List (List Int) × Int) (List (List Int))) :=
  asrt (((l5.length : Int) : Int) + 1 ≤ bigR) <| (rows_lines_J7 z3) (l5 ++ [line2])

noncomputable def rows_lines_K4 (l5 : List (List Int)) (z3 : Int) : (List Int) → Option (St (List (List Int) × Int) (List (List Int))) :=
  fun (x : (List Int)) => match x with | line2 => (rows_lines_J9 l5 z3) line2

noncomputable def rows_lines_L4 (w1 : Int) (k1 : Int) (z1 : Int) (z2 : Int) (z3 : Int) : (List Int × Int) → Option (St (List Int × Int) (List Int)) :=
  fun (x : (List Int × Int)) => match x with | (line1, z4) => if (decide (z4 < k1)) then ((rows_lines_J10 w1 z1 z2 z3 line1 z4)) else (some (.done line1))

noncomputable def rows_lines_J8 (w1 : Int) (k1 : Int) (z1 : Int) (z2 : Int) (l5 : List (List Int)) (z3 : Int) : Option (St (List (List Int) × Int) (List (List Int))) :=
  (loop (rows_lines_L4 w1 k1 z1 z2 z3) (([] : List Int), 0)).bind (rows_lines_K4 l5 z3)

noncomputable def rows_lines_J6 (w1 : Int) (h1 : Int) (k1 : Int) (z1 : Int) (z2 : Int) (l5 : List (List Int)) (z3 : Int) : Option (St (List (List Int) × Int) (List (List Int))) :=
  asrt (0 ≤ z3 ∧ z3 < 4) <| if (((decide ((w64 (z2 + (w64 ((geti ([1, 0, 0, 1, 1, 1, (-1), 1] : List Int) (z3 * 2)) * (w64 (k1 - 1)))))) < 0)) || (decide (w1 ≤ (w64 (z2 + (w64 ((geti ([1, 0, 0, 1, 1, 1, (-1), 1] : List Int) (z3 * 2)) * (w64 (k1 - 1))))))))) || (decide (h1 ≤ (w64 (z1 + (w64 ((geti ([1, 0, 0, 1, 1, 1, (-1), 1] : List Int) (z3 * 2 + 1)) * (w64 (k1 - 1))))))))) then ((rows_lines_J7 z3) l5) else ((rows_lines_J8 w1 k1 z1 z2 l5 z3))

noncomputable def rows_lines_J5 (z2 : Int) (l6 : List (List Int)) : Option (St (List (List Int) × Int) (List (List Int))) :=
  some (.next (l6, (w64 (z2 + 1))))

noncomputable def rows_lines_K3 (z2 : Int) : (List (List Int)) → Option (St (List (List Int) × Int) (List (List Int))) :=
  fun (x : (List (List Int))) => match x with | l6 => (rows_lines_J5 z2) l6

noncomputable def rows_lines_L3 (w1 : Int) (h1 : Int) (k1 : Int) (z1 : Int) (z2 : Int) : (List (List Int) × Int) → Option (St (List (List Int) × Int) (List (List Int))) :=
  fun (x : (List (List Int) × Int)) => match x with | (l5, z3) => if (decide (z3 < 4)) then ((rows_lines_J6 w1 h1 k1 z1 z2 l5 z3)) else (some (.done l5))

noncomputable def rows_lines_J4 (w1 : Int) (h1 : Int) (k1 : Int) (z1 : Int) (l3 : List (List Int)) (z2 : Int) : Option (St (List (List Int) × Int) (List (List Int))) :=
  (loop (rows_lines_L3 w1 h1 k1 z1 z2) (l3, 0)).bind (rows_lines_K3 z2)

noncomputable def rows_lines_J3 (z1 : Int) (l4 : List (List Int)) : Option (St (List (List Int) × Int) (List (List Int))) :=
  some (.next (l4, (w64 (z1 + 1))))

noncomputable def rows_lines_K2 (z1 : Int) : (List (List Int)) → Option (St (List (List Int) × Int) (List (List Int))) :=
  fun (x : (List (List Int))) => match x with | l4 => (rows_lines_J3 z1) l4

noncomputable def rows_lines_L2 (w1 : Int) (h1 : Int) (k1 : Int) (z1 : Int) : (List (List Int) × Int) → Option (St (List (List Int) × Int) (List (List Int))) :=
  fun (x : (List (List Int) × Int)) => match x with | (l3, z2) => if (decide (z2 < w1)) then ((rows_lines_J4 w1 h1 k1 z1 l3 z2)) else (some (.done l3))

noncomputable def rows_lines_J2 (w1 : Int) (h1 : Int) (k1 : Int) (l1 : List (List Int)) (z1 : Int) : Option (St (List (List Int) × Int) (List (List Int))) :=
  (loop (rows_lines_L2 w1 h1 k1 z1) (l1, 0)).bind (rows_lines_K2 z1)

noncomputable def rows_lines_J1 (l2 : List (List Int)) : Option (List (List Int)) :=
  some l2

noncomputable def rows_lines_K1 : (List (List Int)) → Option (List (List Int)) :=
  fun (x : (List (List Int))) => match x with | l2 => rows_lines_J1 l2

noncomputable def rows_lines_L1 (w1 : Int) (h1 : Int) (k1 : Int) : (List (List Int) × Int) → Option (St (List (List Int) × Int) (List (List Int))) :=
  fun (x : (List (List Int) × Int)) => match x with | (l1, z1) => if (decide (z1 < h1)) then ((rows_lines_J2 w1 h1 k1 l1 z1)) else (some (.done l1))

noncomputable def rows_lines_m (w1 : Int) (h1 : Int) (k1 : Int) : Option (List (List Int)) :=
  (loop (rows_lines_L1 w1 h1 k1) (([] : List (List Int)), 0)).bind rows_lines_K1

set_option maxRecDepth 100000 in
set_option maxHeartbeats 4000000 in
theorem rows_lines_w {w1 : Int} {h1 : Int} {k1 : Int} {r : (List (List Int))} {w0 w : World} {B : Nat} {fs : List HP} (hm : rows_lines_m w1 h1 k1 = some r) (hS : Sep w0 B w (fs)) :
    Calls Try.prog 114 #[.int .i64 w1, .int .i64 h1, .int .i64 k1] w fun e w' => ∃ v, e = .returned v ∧ ∃ (A13 : Option Addr) (c13 : Nat) (hd8 : List Hd), v = .slice A13 r.length c13 ∧ Sep w0 B w' (rows 40 3 (.slice A13 r.length c13) hd8 r :: fs) := by
  obtain ⟨i3, hi3, hz3, hs3, hb3⟩ := info_parts Info3
  obtain ⟨i40, hi40, hz40, hs40, hb40⟩ := info_parts Info40
  unfold rows_lines_m at hm
  replace hm := start_b hm
  refine enter (l := [.int .i64 w1, .int .i64 h1, .int .i64 k1]) (n := 89) Try.func114 rfl rfl (by simp) (fun a hF => ?_)
  refine reg [] [] [0, 1, 2] [pl 0 (.int .i64 w1), pl 1 (.int .i64 h1), pl 2 (.int .i64 k1)] hF hS Fol (by kernel_rfl) (by kernel_rfl) (by kernel_rfl) ?_ (fun a w hF hS => ?_)
  · exact obs_nil
  refine reg [] [] [0, 1, 2, 7] [pl 0 (.int .i64 w1), pl 1 (.int .i64 h1), pl 2 (.int .i64 k1), pl 7 (.slice none 0 0)] hF hS Fol (by kernel_rfl) (by kernel_rfl) (by kernel_rfl) ?_ (fun a w hF hS => ?_)
  · exact obs_nil
  refine seq_cut (fun a w => ∃ (l2 : List (List Int)) (A2 : Option Addr) (c2 : Nat) (hd2 : List Hd), Fr 89 [pl 7 (.slice A2 l2.length c2)] a ∧ Sep w0 B w (rows 40 3 (.slice A2 l2.length c2) hd2 l2 :: fs) ∧ (rows_lines_J1 l2).bind some = some r) ?_ ?_
  · rintro a w ⟨l2, A2, c2, hd2, hF, hS, hm⟩
    unfold rows_lines_J1 at hm
    refine reg [] [] [6] [pl 6 (.slice A2 l2.length c2)] hF hS Fol (by kernel_rfl) (by kernel_rfl) (by kernel_rfl) ?_ (fun a w hF hS => ?_)
    · exact obs_nil
    refine wp_ret ?_
    have hm : some l2 = some r := hm
    obtain rfl := Option.some.inj hm
    exact retV (rs := [.tmp 6]) (vs := [.slice A2 l2.length c2]) hF rfl (rv_t (by kernel_rfl) <| rv_nil) rfl ⟨_, rfl, A2, c2, hd2, rfl, hS⟩
  · refine reg [] [] [0, 1, 2, 7, 16, 17] [pl 0 (.int .i64 w1), pl 1 (.int .i64 h1), pl 2 (.int .i64 k1), pl 7 (.slice none 0 0), pl 16 (.int .i64 h1), pl 17 (.int .i64 0)] hF hS Fol (by kernel_rfl) (by kernel_rfl) (by kernel_rfl) ?_ (fun a w hF hS => ?_)
    · exact obs_nil
    refine wp_block ?_
    have hS := hS.nilRows0 40 3
    have hl1 := (hS.at_ 0 rfl).lenR
    have hS := (hS.at_ 0 rfl).reNR hl1
    have hS : Sep w0 B w (rows 40 3 (.slice none (([] : List (List Int)).length) 0) ([]) ([] : List (List Int)) :: fs) := hS
    have hF := hF.cast (t := 7) (v := .slice none 0 0) (v' := .slice none (([] : List (List Int)).length) 0) rfl rfl (congrArg (fun k => Value.slice none k 0) hl1)
    refine wp_loop_model (S := (List (List Int) × Int)) (R := (List (List Int))) (rows_lines_L1 w1 h1 k1) (fun x => (rows_lines_K1 x).bind some) r (fun (x : (List (List Int) × Int)) a w => ∃ (A1 : Option Addr) (c1 : Nat) (hd1 : List Hd), Fr 89 [pl 0 (.int .i64 w1), pl 1 (.int .i64 h1), pl 2 (.int .i64 k1), pl 7 (.slice A1 x.1.length c1), pl 16 (.int .i64 h1), pl 17 (.int .i64 x.2)] a ∧ Sep w0 B w (rows 40 3 (.slice A1 x.1.length c1) hd1 x.1 :: fs)) (assoc_b hm) ⟨none, 0, ([]), hF.weak [0, 1, 2, 7, 16, 17] (by kernel_rfl), hS⟩ ?_
    clear hF hS hm
    rintro nn1 ⟨l1, z1⟩ a w ⟨A1, c1, hd1, hF, hS⟩ hm
    generalize hφ1 : stK (rows_lines_L1 w1 h1 k1) nn1 (fun x => (rows_lines_K1 x).bind some) = φ1 at hm
    unfold rows_lines_L1 at hm
    dsimp only at hF hS hm
    refine reg [] [] [0, 1, 2, 7, 16, 17, 18] [pl 0 (.int .i64 w1), pl 1 (.int .i64 h1), pl 2 (.int .i64 k1), pl 7 (.slice A1 l1.length c1), pl 16 (.int .i64 h1), pl 17 (.int .i64 z1), pl 18 (.bool (decide (z1 < h1)))] hF hS Fol (by kernel_rfl) (by kernel_rfl) (by kernel_rfl) ?_ (fun a w hF hS => ?_)
    · exact obs_nil
    refine seq_cut (fun a w => Fr 89 [pl 0 (.int .i64 w1), pl 1 (.int .i64 h1), pl 2 (.int .i64 k1), pl 7 (.slice A1 l1.length c1), pl 16 (.int .i64 h1), pl 17 (.int .i64 z1)] a ∧ Sep w0 B w (rows 40 3 (.slice A1 l1.length c1) hd1 l1 :: fs) ∧ ((rows_lines_J2 w1 h1 k1 l1 z1)).bind φ1 = some r) ?_ ?_
    · rintro a w ⟨hF, hS, hm⟩
      unfold rows_lines_J2 at hm
      refine seq_cut (fun a w => ∃ (l4 : List (List Int)) (A4 : Option Addr) (c4 : Nat) (hd4 : List Hd), Fr 89 [pl 0 (.int .i64 w1), pl 1 (.int .i64 h1), pl 2 (.int .i64 k1), pl 7 (.slice A4 l4.length c4), pl 16 (.int .i64 h1), pl 17 (.int .i64 z1)] a ∧ Sep w0 B w (rows 40 3 (.slice A4 l4.length c4) hd4 l4 :: fs) ∧ ((rows_lines_J3 z1) l4).bind φ1 = some r) ?_ ?_
      · rintro a w ⟨l4, A4, c4, hd4, hF, hS, hm⟩
        unfold rows_lines_J3 at hm
        refine reg1 [] [] [0, 1, 2, 7, 16, 17] [pl 0 (.int .i64 w1), pl 1 (.int .i64 h1), pl 2 (.int .i64 k1), pl 7 (.slice A4 l4.length c4), pl 16 (.int .i64 h1), pl 17 (.int .i64 (w64 (z1 + 1)))] hF hS Fol (by kernel_rfl) (by kernel_rfl) (by kernel_rfl) ?_ (fun a w hF hS => ?_)
        · exact obs_nil
        refine then_n ?_
        rw [← hφ1] at hm
        exact ⟨(l4, (w64 (z1 + 1))), ⟨A4, c4, hd4, hF.weak [0, 1, 2, 7, 16, 17] (by kernel_rfl), hS⟩, hm⟩
      · refine wp_block ?_
        refine reg [] [] [0, 1, 2, 7, 8, 16, 17] [pl 0 (.int .i64 w1), pl 1 (.int .i64 h1), pl 2 (.int .i64 k1), pl 7 (.slice A1 l1.length c1), pl 8 (.int .i64 z1), pl 16 (.int .i64 h1), pl 17 (.int .i64 z1)] hF hS Fol (by kernel_rfl) (by kernel_rfl) (by kernel_rfl) ?_ (fun a w hF hS => ?_)
        · exact obs_nil
        refine reg [] [] [0, 1, 2, 7, 8, 16, 17, 20, 21] [pl 0 (.int .i64 w1), pl 1 (.int .i64 h1), pl 2 (.int .i64 k1), pl 7 (.slice A1 l1.length c1), pl 8 (.int .i64 z1), pl 16 (.int .i64 h1), pl 17 (.int .i64 z1), pl 20 (.int .i64 w1), pl 21 (.int .i64 0)] hF hS Fol (by kernel_rfl) (by kernel_rfl) (by kernel_rfl) ?_ (fun a w hF hS => ?_)
        · exact obs_nil
        refine wp_block ?_
        refine wp_loop_model (S := (List (List Int) × Int)) (R := (List (List Int))) (rows_lines_L2 w1 h1 k1 z1) (fun x => ((rows_lines_K2 z1) x).bind φ1) r (fun (x : (List (List Int) × Int)) a w => ∃ (A3 : Option Addr) (c3 : Nat) (hd3 : List Hd), Fr 89 [pl 0 (.int .i64 w1), pl 1 (.int .i64 h1), pl 2 (.int .i64 k1), pl 7 (.slice A3 x.1.length c3), pl 8 (.int .i64 z1), pl 16 (.int .i64 h1), pl 17 (.int .i64 z1), pl 20 (.int .i64 w1), pl 21 (.int .i64 x.2)] a ∧ Sep w0 B w (rows 40 3 (.slice A3 x.1.length c3) hd3 x.1 :: fs)) (assoc_b hm) ⟨A1, c1, hd1, hF.weak [0, 1, 2, 7, 8, 16, 17, 20, 21] (by kernel_rfl), hS⟩ ?_
        clear hF hS hm
        rintro nn2 ⟨l3, z2⟩ a w ⟨A3, c3, hd3, hF, hS⟩ hm
        generalize hφ2 : stK (rows_lines_L2 w1 h1 k1 z1) nn2 (fun x => ((rows_lines_K2 z1) x).bind φ1) = φ2 at hm
        unfold rows_lines_L2 at hm
        dsimp only at hF hS hm
        refine reg [] [] [0, 1, 2, 7, 8, 16, 17, 20, 21, 22] [pl 0 (.int .i64 w1), pl 1 (.int .i64 h1), pl 2 (.int .i64 k1), pl 7 (.slice A3 l3.length c3), pl 8 (.int .i64 z1), pl 16 (.int .i64 h1), pl 17 (.int .i64 z1), pl 20 (.int .i64 w1), pl 21 (.int .i64 z2), pl 22 (.bool (decide (z2 < w1)))] hF hS Fol (by kernel_rfl) (by kernel_rfl) (by kernel_rfl) ?_ (fun a w hF hS => ?_)
        · exact obs_nil
        refine seq_cut (fun a w => Fr 89 [pl 0 (.int .i64 w1), pl 1 (.int .i64 h1), pl 2 (.int .i64 k1), pl 7 (.slice A3 l3.length c3), pl 8 (.int .i64 z1), pl 16 (.int .i64 h1), pl 17 (.int .i64 z1), pl 20 (.int .i64 w1), pl 21 (.int .i64 z2)] a ∧ Sep w0 B w (rows 40 3 (.slice A3 l3.length c3) hd3 l3 :: fs) ∧ ((rows_lines_J4 w1 h1 k1 z1 l3 z2)).bind φ2 = some r) ?_ ?_
        · rintro a w ⟨hF, hS, hm⟩
          unfold rows_lines_J4 at hm
          refine seq_cut (fun a w => ∃ (l6 : List (List Int)) (A6 : Option Addr) (c6 : Nat) (hd6 : List Hd), Fr 89 [pl 0 (.int .i64 w1), pl 1 (.int .i64 h1), pl 2 (.int .i64 k1), pl 7 (.slice A6 l6.length c6), pl 8 (.int .i64 z1), pl 16 (.int .i64 h1), pl 17 (.int .i64 z1), pl 20 (.int .i64 w1), pl 21 (.int .i64 z2)] a ∧ Sep w0 B w (rows 40 3 (.slice A6 l6.length c6) hd6 l6 :: fs) ∧ ((rows_lines_J5 z2) l6).bind φ2 = some r) ?_ ?_
          · rintro a w ⟨l6, A6, c6, hd6, hF, hS, hm⟩
            unfold rows_lines_J5 at hm
            refine reg1 [] [] [0, 1, 2, 7, 8, 16, 17, 20, 21] [pl 0 (.int .i64 w1), pl 1 (.int .i64 h1), pl 2 (.int .i64 k1), pl 7 (.slice A6 l6.length c6), pl 8 (.int .i64 z1), pl 16 (.int .i64 h1), pl 17 (.int .i64 z1), pl 20 (.int .i64 w1), pl 21 (.int .i64 (w64 (z2 + 1)))] hF hS Fol (by kernel_rfl) (by kernel_rfl) (by kernel_rfl) ?_ (fun a w hF hS => ?_)
            · exact obs_nil
            refine then_n ?_
            rw [← hφ2] at hm
            exact ⟨(l6, (w64 (z2 + 1))), ⟨A6, c6, hd6, hF.weak [0, 1, 2, 7, 8, 16, 17, 20, 21] (by kernel_rfl), hS⟩, hm⟩
          · refine wp_block ?_
            refine reg [] [] [0, 1, 2, 7, 8, 9, 16, 17, 20, 21] [pl 0 (.int .i64 w1), pl 1 (.int .i64 h1), pl 2 (.int .i64 k1), pl 7 (.slice A3 l3.length c3), pl 8 (.int .i64 z1), pl 9 (.int .i64 z2), pl 16 (.int .i64 h1), pl 17 (.int .i64 z1), pl 20 (.int .i64 w1), pl 21 (.int .i64 z2)] hF hS Fol (by kernel_rfl) (by kernel_rfl) (by kernel_rfl) ?_ (fun a w hF hS => ?_)
            · exact obs_nil
            refine reg [] [] [0, 1, 2, 7, 8, 9, 16, 17, 20, 21, 28, 29] [pl 0 (.int .i64 w1), pl 1 (.int .i64 h1), pl 2 (.int .i64 k1), pl 7 (.slice A3 l3.length c3), pl 8 (.int .i64 z1), pl 9 (.int .i64 z2), pl 16 (.int .i64 h1), pl 17 (.int .i64 z1), pl 20 (.int .i64 w1), pl 21 (.int .i64 z2), pl 28 (.agg (List.toArray (([] : List Value) ++ (arr1 (Value.int .i64) (0 : Int) 8 ([1, 0, 0, 1, 1, 1, (-1), 1] : List Int) ++ ([] : List Value))))), pl 29 (.int .i64 0)] hF hS Fol (by kernel_rfl) (by kernel_rfl) (by kernel_rfl) ?_ (fun a w hF hS => ?_)
            · exact obs_nil
            refine wp_block ?_
            refine wp_loop_model (S := (List (List Int) × Int)) (R := (List (List Int))) (rows_lines_L3 w1 h1 k1 z1 z2) (fun x => ((rows_lines_K3 z2) x).bind φ2) r (fun (x : (List (List Int) × Int)) a w => ∃ (A5 : Option Addr) (c5 : Nat) (hd5 : List Hd), Fr 89 [pl 0 (.int .i64 w1), pl 1 (.int .i64 h1), pl 2 (.int .i64 k1), pl 7 (.slice A5 x.1.length c5), pl 8 (.int .i64 z1), pl 9 (.int .i64 z2), pl 16 (.int .i64 h1), pl 17 (.int .i64 z1), pl 20 (.int .i64 w1), pl 21 (.int .i64 z2), pl 28 (.agg (List.toArray (([] : List Value) ++ (arr1 (Value.int .i64) (0 : Int) 8 ([1, 0, 0, 1, 1, 1, (-1), 1] : List Int) ++ ([] : List Value))))), pl 29 (.int .i64 x.2)] a ∧ Sep w0 B w (rows 40 3 (.slice A5 x.1.length c5) hd5 x.1 :: fs)) (assoc_b hm) ⟨A3, c3, hd3, hF.weak [0, 1, 2, 7, 8, 9, 16, 17, 20, 21, 28, 29] (by kernel_rfl), hS⟩ ?_
            clear hF hS hm
            rintro nn3 ⟨l5, z3⟩ a w ⟨A5, c5, hd5, hF, hS⟩ hm
            generalize hφ3 : stK (rows_lines_L3 w1 h1 k1 z1 z2) nn3 (fun x => ((rows_lines_K3 z2) x).bind φ2) = φ3 at hm
            unfold rows_lines_L3 at hm
            dsimp only at hF hS hm
            refine reg [] [] [0, 1, 2, 7, 8, 9, 16, 17, 20, 21, 28, 29, 30] [pl 0 (.int .i64 w1), pl 1 (.int .i64 h1), pl 2 (.int .i64 k1), pl 7 (.slice A5 l5.length c5), pl 8 (.int .i64 z1), pl 9 (.int .i64 z2), pl 16 (.int .i64 h1), pl 17 (.int .i64 z1), pl 20 (.int .i64 w1), pl 21 (.int .i64 z2), pl 28 (.agg (List.toArray (([] : List Value) ++ (arr1 (Value.int .i64) (0 : Int) 8 ([1, 0, 0, 1, 1, 1, (-1), 1] : List Int) ++ ([] : List Value))))), pl 29 (.int .i64 z3), pl 30 (.bool (decide (z3 < 4)))] hF hS Fol (by kernel_rfl) (by kernel_rfl) (by kernel_rfl) ?_ (fun a w hF hS => ?_)
            · exact obs_nil
            refine seq_cut (fun a w => Fr 89 [pl 0 (.int .i64 w1), pl 1 (.int .i64 h1), pl 2 (.int .i64 k1), pl 7 (.slice A5 l5.length c5), pl 8 (.int .i64 z1), pl 9 (.int .i64 z2), pl 16 (.int .i64 h1), pl 17 (.int .i64 z1), pl 20 (.int .i64 w1), pl 21 (.int .i64 z2), pl 28 (.agg (List.toArray (([] : List Value) ++ (arr1 (Value.int .i64) (0 : Int) 8 ([1, 0, 0, 1, 1, 1, (-1), 1] : List Int) ++ ([] : List Value))))), pl 29 (.int .i64 z3)] a ∧ Sep w0 B w (rows 40 3 (.slice A5 l5.length c5) hd5 l5 :: fs) ∧ ((rows_lines_J6 w1 h1 k1 z1 z2 l5 z3)).bind φ3 = some r) ?_ ?_
            · rintro a w ⟨hF, hS, hm⟩
              unfold rows_lines_J6 at hm
              refine seq_cut (fun a w => ∃ (l7 : List (List Int)) (A7 : Option Addr) (c7 : Nat) (hd7 : List Hd), Fr 89 [pl 0 (.int .i64 w1), pl 1 (.int .i64 h1), pl 2 (.int .i64 k1), pl 7 (.slice A7 l7.length c7), pl 8 (.int .i64 z1), pl 9 (.int .i64 z2), pl 16 (.int .i64 h1), pl 17 (.int .i64 z1), pl 20 (.int .i64 w1), pl 21 (.int .i64 z2), pl 28 (.agg (List.toArray (([] : List Value) ++ (arr1 (Value.int .i64) (0 : Int) 8 ([1, 0, 0, 1, 1, 1, (-1), 1] : List Int) ++ ([] : List Value))))), pl 29 (.int .i64 z3)] a ∧ Sep w0 B w (rows 40 3 (.slice A7 l7.length c7) hd7 l7 :: fs) ∧ ((rows_lines_J7 z3) l7).bind φ3 = some r) ?_ ?_
              · rintro a w ⟨l7, A7, c7, hd7, hF, hS, hm⟩
                unfold rows_lines_J7 at hm
                refine reg1 [] [] [0, 1, 2, 7, 8, 9, 16, 17, 20, 21, 28, 29] [pl 0 (.int .i64 w1), pl 1 (.int .i64 h1), pl 2 (.int .i64 k1), pl 7 (.slice A7 l7.length c7), pl 8 (.int .i64 z1), pl 9 (.int .i64 z2), pl 16 (.int .i64 h1), pl 17 (.int .i64 z1), pl 20 (.int .i64 w1), pl 21 (.int .i64 z2), pl 28 (.agg (List.toArray (([] : List Value) ++ (arr1 (Value.int .i64) (0 : Int) 8 ([1, 0, 0, 1, 1, 1, (-1), 1] : List Int) ++ ([] : List Value))))), pl 29 (.int .i64 (w64 (z3 + 1)))] hF hS Fol (by kernel_rfl) (by kernel_rfl) (by kernel_rfl) ?_ (fun a w hF hS => ?_)
                · exact obs_nil
                refine then_n ?_
                rw [← hφ3] at hm
                exact ⟨(l7, (w64 (z3 + 1))), ⟨A7, c7, hd7, hF.weak [0, 1, 2, 7, 8, 9, 16, 17, 20, 21, 28, 29] (by kernel_rfl), hS⟩, hm⟩
              · refine wp_block ?_
                refine seqR ?_
                obtain ⟨hp1, hm⟩ := asrt_b hm
                refine at_run 1 [⟨true, [], vS (Instr.index 191 (.agg (List.toArray (([] : List Value) ++ (arr1 (Value.int .i64) (0 : Int) 8 ([1, 0, 0, 1, 1, 1, (-1), 1] : List Int) ++ ([] : List Value))))) (.int .i64 z3)), .agg #[.int .i64 (geti ([1, 0, 0, 1, 1, 1, (-1), 1] : List Int) (z3 * 2)), .int .i64 (geti ([1, 0, 0, 1, 1, 1, (-1), 1] : List Int) (z3 * 2 + 1))]⟩] [some (.agg #[.int .i64 (geti ([1, 0, 0, 1, 1, 1, (-1), 1] : List Int) (z3 * 2)), .int .i64 (geti ([1, 0, 0, 1, 1, 1, (-1), 1] : List Int) (z3 * 2 + 1))])] [0, 1, 2, 7, 8, 9, 16, 17, 20, 21, 28, 29, 31] [pl 0 (.int .i64 w1), pl 1 (.int .i64 h1), pl 2 (.int .i64 k1), pl 7 (.slice A5 l5.length c5), pl 8 (.int .i64 z1), pl 9 (.int .i64 z2), pl 16 (.int .i64 h1), pl 17 (.int .i64 z1), pl 20 (.int .i64 w1), pl 21 (.int .i64 z2), pl 28 (.agg (List.toArray (([] : List Value) ++ (arr1 (Value.int .i64) (0 : Int) 8 ([1, 0, 0, 1, 1, 1, (-1), 1] : List Int) ++ ([] : List Value))))), pl 29 (.int .i64 z3), pl 31 (.agg #[.int .i64 (geti ([1, 0, 0, 1, 1, 1, (-1), 1] : List Int) (z3 * 2)), .int .i64 (geti ([1, 0, 0, 1, 1, 1, (-1), 1] : List Int) (z3 * 2 + 1))])] hF hS (by kernel_rfl) (by kernel_rfl) ?_ (fun a w hF hS => ?_)
                · exact obs_cons (ob_idxP2 (f := (Value.int .i64)) (z := (0 : Int)) (m := ([1, 0, 0, 1, 1, 1, (-1), 1] : List Int)) UndA191 (by kernel_rfl) (by kernel_rfl) rfl (fun _ => hp1)) <| obs_nil
                refine at_do (d := 11) (s := vS (Instr.alloc 99 true (.tuple #[]))) (v := .pointer (some ⟨w.heap.size, 0, none⟩)) (w' := w.alloc (.cells #[.int .i64 0, .int .i64 0] 99)) hF (by kernel_rfl) (by kernel_rfl) (by kernel_rfl) (fun a hF => ?_)
                have hS : Sep w0 B (w.alloc (.cells #[.int .i64 0, .int .i64 0] 99)) (blk w.heap.size 99 #[.int .i64 0, .int .i64 0] :: (rows 40 3 (.slice A5 l5.length c5) hd5 l5 :: fs)) := hS.box 99 #[.int .i64 0, .int .i64 0]
                generalize w.heap.size = g1 at hF hS
                generalize w.alloc (.cells #[.int .i64 0, .int .i64 0] 99) = w at hS ⊢
                obtain ⟨w, hrun, hS⟩ := run_putA (P := Try.prog) (t := 99) (us := #[.int .i64 (geti ([1, 0, 0, 1, 1, 1, (-1), 1] : List Int) (z3 * 2)), .int .i64 (geti ([1, 0, 0, 1, 1, 1, (-1), 1] : List Int) (z3 * 2 + 1))]) (o := 0) (hS.at_ 0 rfl) (by kernel_rfl) (all_one (by kernel_rfl)) (Nat.le_of_ble_eq_true (by kernel_rfl))
                refine at_skip hF (by kernel_rfl) hrun ?_
                have hS : Sep w0 B w (blk g1 99 #[.int .i64 (geti ([1, 0, 0, 1, 1, 1, (-1), 1] : List Int) (z3 * 2)), .int .i64 (geti ([1, 0, 0, 1, 1, 1, (-1), 1] : List Int) (z3 * 2 + 1))] :: rows 40 3 (.slice A5 l5.length c5) hd5 l5 :: fs) := hS
                refine at_end [0, 1, 2, 7, 8, 9, 11, 16, 17, 20, 21, 28, 29] [pl 0 (.int .i64 w1), pl 1 (.int .i64 h1), pl 2 (.int .i64 k1), pl 7 (.slice A5 l5.length c5), pl 8 (.int .i64 z1), pl 9 (.int .i64 z2), pl 11 (.pointer (some ⟨g1, 0, none⟩)), pl 16 (.int .i64 h1), pl 17 (.int .i64 z1), pl 20 (.int .i64 w1), pl 21 (.int .i64 z2), pl 28 (.agg (List.toArray (([] : List Value) ++ (arr1 (Value.int .i64) (0 : Int) 8 ([1, 0, 0, 1, 1, 1, (-1), 1] : List Int) ++ ([] : List Value))))), pl 29 (.int .i64 z3)] hF rfl (by kernel_rfl) (fun hF => ?_)
                refine then_n ?_
                refine reg [⟨false, [], vS (Instr.loadAt 3 (.pointer (some ⟨g1, 0, none⟩))), .int .i64 (geti ([1, 0, 0, 1, 1, 1, (-1), 1] : List Int) (z3 * 2))⟩, ⟨false, [], vS (Instr.loadAt 3 (.pointer (some ⟨g1, 1, none⟩))), .int .i64 (geti ([1, 0, 0, 1, 1, 1, (-1), 1] : List Int) (z3 * 2 + 1))⟩] [none, none, some (.int .i64 (geti ([1, 0, 0, 1, 1, 1, (-1), 1] : List Int) (z3 * 2))), none, none, none, none, none, none, some (.int .i64 (geti ([1, 0, 0, 1, 1, 1, (-1), 1] : List Int) (z3 * 2 + 1))), none, none, none, none, none, none] [0, 1, 2, 7, 8, 9, 11, 12, 13, 16, 17, 20, 21, 28, 29] [pl 0 (.int .i64 w1), pl 1 (.int .i64 h1), pl 2 (.int .i64 k1), pl 7 (.slice A5 l5.length c5), pl 8 (.int .i64 z1), pl 9 (.int .i64 z2), pl 11 (.pointer (some ⟨g1, 0, none⟩)), pl 12 (.int .i64 (w64 (z2 + (w64 ((geti ([1, 0, 0, 1, 1, 1, (-1), 1] : List Int) (z3 * 2)) * (w64 (k1 - 1))))))), pl 13 (.int .i64 (w64 (z1 + (w64 ((geti ([1, 0, 0, 1, 1, 1, (-1), 1] : List Int) (z3 * 2 + 1)) * (w64 (k1 - 1))))))), pl 16 (.int .i64 h1), pl 17 (.int .i64 z1), pl 20 (.int .i64 w1), pl 21 (.int .i64 z2), pl 28 (.agg (List.toArray (([] : List Value) ++ (arr1 (Value.int .i64) (0 : Int) 8 ([1, 0, 0, 1, 1, 1, (-1), 1] : List Int) ++ ([] : List Value))))), pl 29 (.int .i64 z3)] hF hS Fol (by kernel_rfl) (by kernel_rfl) (by kernel_rfl) ?_ (fun a w hF hS => ?_)
                · exact obs_cons (ob_load Agg3 (fun _ _ hS => (hS.at_ 0 rfl).cell rfl)) <| obs_cons (ob_load Agg3 (fun _ _ hS => (hS.at_ 0 rfl).cell rfl)) <| obs_nil
                refine seq_cut (fun a w => Fr 89 [pl 0 (.int .i64 w1), pl 1 (.int .i64 h1), pl 2 (.int .i64 k1), pl 7 (.slice A5 l5.length c5), pl 8 (.int .i64 z1), pl 9 (.int .i64 z2), pl 11 (.pointer (some ⟨g1, 0, none⟩)), pl 16 (.int .i64 h1), pl 17 (.int .i64 z1), pl 20 (.int .i64 w1), pl 21 (.int .i64 z2), pl 28 (.agg (List.toArray (([] : List Value) ++ (arr1 (Value.int .i64) (0 : Int) 8 ([1, 0, 0, 1, 1, 1, (-1), 1] : List Int) ++ ([] : List Value))))), pl 29 (.int .i64 z3)] a ∧ Sep w0 B w (rows 40 3 (.slice A5 l5.length c5) hd5 l5 :: blk g1 99 #[.int .i64 (geti ([1, 0, 0, 1, 1, 1, (-1), 1] : List Int) (z3 * 2)), .int .i64 (geti ([1, 0, 0, 1, 1, 1, (-1), 1] : List Int) (z3 * 2 + 1))] :: fs) ∧ ((rows_lines_J8 w1 k1 z1 z2 l5 z3)).bind φ3 = some r) ?_ ?_
                · rintro a w ⟨hF, hS, hm⟩
                  unfold rows_lines_J8 at hm
                  refine reg [] [] [0, 1, 2, 7, 8, 9, 11, 14, 16, 17, 20, 21, 28, 29] [pl 0 (.int .i64 w1), pl 1 (.int .i64 h1), pl 2 (.int .i64 k1), pl 7 (.slice A5 l5.length c5), pl 8 (.int .i64 z1), pl 9 (.int .i64 z2), pl 11 (.pointer (some ⟨g1, 0, none⟩)), pl 14 (.slice none 0 0), pl 16 (.int .i64 h1), pl 17 (.int .i64 z1), pl 20 (.int .i64 w1), pl 21 (.int .i64 z2), pl 28 (.agg (List.toArray (([] : List Value) ++ (arr1 (Value.int .i64) (0 : Int) 8 ([1, 0, 0, 1, 1, 1, (-1), 1] : List Int) ++ ([] : List Value))))), pl 29 (.int .i64 z3)] hF hS Fol (by kernel_rfl) (by kernel_rfl) (by kernel_rfl) ?_ (fun a w hF hS => ?_)
                  · exact obs_nil
                  refine seq_cut (fun a w => ∃ (line2 : List Int) (A9 : Option Addr) (c9 : Nat), Fr 89 [pl 0 (.int .i64 w1), pl 1 (.int .i64 h1), pl 2 (.int .i64 k1), pl 7 (.slice A5 l5.length c5), pl 8 (.int .i64 z1), pl 9 (.int .i64 z2), pl 14 (.slice A9 line2.length c9), pl 16 (.int .i64 h1), pl 17 (.int .i64 z1), pl 20 (.int .i64 w1), pl 21 (.int .i64 z2), pl 28 (.agg (List.toArray (([] : List Value) ++ (arr1 (Value.int .i64) (0 : Int) 8 ([1, 0, 0, 1, 1, 1, (-1), 1] : List Int) ++ ([] : List Value))))), pl 29 (.int .i64 z3)] a ∧ Sep w0 B w (rows 40 3 (.slice A5 l5.length c5) hd5 l5 :: own 3 (.slice A9 line2.length c9) (vI line2) :: fs) ∧ ((rows_lines_J9 l5 z3) line2).bind φ3 = some r) ?_ ?_
                  · rintro a w ⟨line2, A9, c9, hF, hS, hm⟩
                    unfold rows_lines_J9 at hm
                    refine oneR ?_
                    obtain ⟨hp3, hm⟩ := asrt_b hm
                    refine at_run 2 [] [] [0, 1, 2, 8, 9, 16, 17, 20, 21, 28, 29, 81, 82] [pl 0 (.int .i64 w1), pl 1 (.int .i64 h1), pl 2 (.int .i64 k1), pl 8 (.int .i64 z1), pl 9 (.int .i64 z2), pl 16 (.int .i64 h1), pl 17 (.int .i64 z1), pl 20 (.int .i64 w1), pl 21 (.int .i64 z2), pl 28 (.agg (List.toArray (([] : List Value) ++ (arr1 (Value.int .i64) (0 : Int) 8 ([1, 0, 0, 1, 1, 1, (-1), 1] : List Int) ++ ([] : List Value))))), pl 29 (.int .i64 z3), pl 81 (.slice A5 l5.length c5), pl 82 (.slice A9 line2.length c9)] hF hS (by kernel_rfl) (by kernel_rfl) ?_ (fun a w hF hS => ?_)
                    · exact obs_nil
                    refine at_do (d := 83) (s := vS (Instr.buildSlice 125 1 #[(0, .slice A9 line2.length c9)])) (v := .slice (some ⟨w.heap.size, 0, none⟩) 1 1) (w' := w.alloc (.cells #[.slice A9 line2.length c9] 40)) hF (by kernel_rfl) (by kernel_rfl) (by kernel_rfl) (fun a hF => ?_)
                    have hS : Sep w0 B (w.alloc (.cells #[.slice A9 line2.length c9] 40)) (own 40 (.slice (some (⟨w.heap.size, 0, none⟩ : Addr)) 1 1) [.slice A9 line2.length c9] :: (rows 40 3 (.slice A5 l5.length c5) hd5 l5 :: own 3 (.slice A9 line2.length c9) (vI line2) :: fs)) := hS.lit 40 #[.slice A9 line2.length c9] 1 rfl (by omega)
                    generalize (some (⟨w.heap.size, 0, none⟩ : Addr)) = g3 at hF hS
                    generalize w.alloc (.cells #[.slice A9 line2.length c9] 40) = w at hS ⊢
                    have hS := hS.pickN 3 [2, 0, 1] (by decide)
                    have hS : Sep w0 B w (own 3 (.slice A9 line2.length c9) (vI line2) :: own 40 (.slice g3 1 1) [.slice A9 line2.length c9] :: rows 40 3 (.slice A5 l5.length c5) hd5 l5 :: fs) := hS
                    obtain ⟨A12, c12, w, hrun, hS⟩ := run_appRow (P := Try.prog) (t := 125) (A2 := g3) (c2 := 1) (hS.at2 1 rfl) (hS.at_ 1 rfl).rd 125 Und125 hi40 hz40 hs40 hb40 hp3
                    have hS : Sep w0 B w (own 40 (.slice g3 1 1) [.slice A9 line2.length c9] :: rows 40 3 (.slice A12 ((l5 ++ [line2]).length) c12) (hd5 ++ [(A9, c9)]) (l5 ++ [line2]) :: fs) := hS
                    refine at_do (d := 84) hF (by kernel_rfl) (by kernel_rfl) hrun (fun a hF => ?_)
                    refine at_run 1 [] [] [0, 1, 2, 7, 8, 9, 16, 17, 20, 21, 28, 29] [pl 0 (.int .i64 w1), pl 1 (.int .i64 h1), pl 2 (.int .i64 k1), pl 7 (.slice A12 ((l5 ++ [line2]).length) c12), pl 8 (.int .i64 z1), pl 9 (.int .i64 z2), pl 16 (.int .i64 h1), pl 17 (.int .i64 z1), pl 20 (.int .i64 w1), pl 21 (.int .i64 z2), pl 28 (.agg (List.toArray (([] : List Value) ++ (arr1 (Value.int .i64) (0 : Int) 8 ([1, 0, 0, 1, 1, 1, (-1), 1] : List Int) ++ ([] : List Value))))), pl 29 (.int .i64 z3)] hF hS (by kernel_rfl) (by kernel_rfl) ?_ (fun a w hF hS => ?_)
                    · exact obs_nil
                    refine at_end [0, 1, 2, 7, 8, 9, 16, 17, 20, 21, 28, 29] [pl 0 (.int .i64 w1), pl 1 (.int .i64 h1), pl 2 (.int .i64 k1), pl 7 (.slice A12 ((l5 ++ [line2]).length) c12), pl 8 (.int .i64 z1), pl 9 (.int .i64 z2), pl 16 (.int .i64 h1), pl 17 (.int .i64 z1), pl 20 (.int .i64 w1), pl 21 (.int .i64 z2), pl 28 (.agg (List.toArray (([] : List Value) ++ (arr1 (Value.int .i64) (0 : Int) 8 ([1, 0, 0, 1, 1, 1, (-1), 1] : List Int) ++ ([] : List Value))))), pl 29 (.int .i64 z3)] hF rfl (by kernel_rfl) (fun hF => ?_)
                    refine block_n ?_
                    refine then_n ?_
                    have hS := hS.pickN 2 [1] (by decide)
                    exact ⟨(l5 ++ [line2]), A12, c12, (hd5 ++ [(A9, c9)]), hF.weak [0, 1, 2, 7, 8, 9, 16, 17, 20, 21, 28, 29] (by kernel_rfl), hS, hm⟩
                  · refine reg [] [] [0, 1, 2, 7, 8, 9, 11, 14, 16, 17, 20, 21, 28, 29, 58, 59] [pl 0 (.int .i64 w1), pl 1 (.int .i64 h1), pl 2 (.int .i64 k1), pl 7 (.slice A5 l5.length c5), pl 8 (.int .i64 z1), pl 9 (.int .i64 z2), pl 11 (.pointer (some ⟨g1, 0, none⟩)), pl 14 (.slice none 0 0), pl 16 (.int .i64 h1), pl 17 (.int .i64 z1), pl 20 (.int .i64 w1), pl 21 (.int .i64 z2), pl 28 (.agg (List.toArray (([] : List Value) ++ (arr1 (Value.int .i64) (0 : Int) 8 ([1, 0, 0, 1, 1, 1, (-1), 1] : List Int) ++ ([] : List Value))))), pl 29 (.int .i64 z3), pl 58 (.int .i64 k1), pl 59 (.int .i64 0)] hF hS Fol (by kernel_rfl) (by kernel_rfl) (by kernel_rfl) ?_ (fun a w hF hS => ?_)
                    · exact obs_nil
                    refine wp_block ?_
                    have hS : Sep w0 B w (own 3 (.slice none 0 0) (vI ([] : List Int)) :: rows 40 3 (.slice A5 l5.length c5) hd5 l5 :: blk g1 99 #[.int .i64 (geti ([1, 0, 0, 1, 1, 1, (-1), 1] : List Int) (z3 * 2)), .int .i64 (geti ([1, 0, 0, 1, 1, 1, (-1), 1] : List Int) (z3 * 2 + 1))] :: fs) := hS.nil 3
                    have hl2 := (hS.at_ 0 rfl).len1
                    have hS := (hS.at_ 0 rfl).reN hl2
                    have hS : Sep w0 B w (own 3 (.slice none (([] : List Int).length) 0) (vI ([] : List Int)) :: rows 40 3 (.slice A5 l5.length c5) hd5 l5 :: blk g1 99 #[.int .i64 (geti ([1, 0, 0, 1, 1, 1, (-1), 1] : List Int) (z3 * 2)), .int .i64 (geti ([1, 0, 0, 1, 1, 1, (-1), 1] : List Int) (z3 * 2 + 1))] :: fs) := hS
                    have hF := hF.cast (t := 14) (v := .slice none 0 0) (v' := .slice none (([] : List Int).length) 0) rfl rfl (congrArg (fun k => Value.slice none k 0) hl2)
                    have hS := hS.pickN 3 [1, 2, 0] (by decide)
                    refine wp_loop_model (S := (List Int × Int)) (R := (List Int)) (rows_lines_L4 w1 k1 z1 z2 z3) (fun x => ((rows_lines_K4 l5 z3) x).bind φ3) r (fun (x : (List Int × Int)) a w => ∃ (A8 : Option Addr) (c8 : Nat), Fr 89 [pl 0 (.int .i64 w1), pl 1 (.int .i64 h1), pl 2 (.int .i64 k1), pl 7 (.slice A5 l5.length c5), pl 8 (.int .i64 z1), pl 9 (.int .i64 z2), pl 11 (.pointer (some ⟨g1, 0, none⟩)), pl 14 (.slice A8 x.1.length c8), pl 16 (.int .i64 h1), pl 17 (.int .i64 z1), pl 20 (.int .i64 w1), pl 21 (.int .i64 z2), pl 28 (.agg (List.toArray (([] : List Value) ++ (arr1 (Value.int .i64) (0 : Int) 8 ([1, 0, 0, 1, 1, 1, (-1), 1] : List Int) ++ ([] : List Value))))), pl 29 (.int .i64 z3), pl 58 (.int .i64 k1), pl 59 (.int .i64 x.2)] a ∧ Sep w0 B w (rows 40 3 (.slice A5 l5.length c5) hd5 l5 :: blk g1 99 #[.int .i64 (geti ([1, 0, 0, 1, 1, 1, (-1), 1] : List Int) (z3 * 2)), .int .i64 (geti ([1, 0, 0, 1, 1, 1, (-1), 1] : List Int) (z3 * 2 + 1))] :: own 3 (.slice A8 x.1.length c8) (vI x.1) :: fs)) (assoc_b hm) ⟨none, 0, hF.weak [0, 1, 2, 7, 8, 9, 11, 14, 16, 17, 20, 21, 28, 29, 58, 59] (by kernel_rfl), hS⟩ ?_
                    clear hF hS hm
                    rintro nn4 ⟨line1, z4⟩ a w ⟨A8, c8, hF, hS⟩ hm
                    generalize hφ4 : stK (rows_lines_L4 w1 k1 z1 z2 z3) nn4 (fun x => ((rows_lines_K4 l5 z3) x).bind φ3) = φ4 at hm
                    unfold rows_lines_L4 at hm
                    dsimp only at hF hS hm
                    refine reg [] [] [0, 1, 2, 7, 8, 9, 11, 14, 16, 17, 20, 21, 28, 29, 58, 59, 60] [pl 0 (.int .i64 w1), pl 1 (.int .i64 h1), pl 2 (.int .i64 k1), pl 7 (.slice A5 l5.length c5), pl 8 (.int .i64 z1), pl 9 (.int .i64 z2), pl 11 (.pointer (some ⟨g1, 0, none⟩)), pl 14 (.slice A8 line1.length c8), pl 16 (.int .i64 h1), pl 17 (.int .i64 z1), pl 20 (.int .i64 w1), pl 21 (.int .i64 z2), pl 28 (.agg (List.toArray (([] : List Value) ++ (arr1 (Value.int .i64) (0 : Int) 8 ([1, 0, 0, 1, 1, 1, (-1), 1] : List Int) ++ ([] : List Value))))), pl 29 (.int .i64 z3), pl 58 (.int .i64 k1), pl 59 (.int .i64 z4), pl 60 (.bool (decide (z4 < k1)))] hF hS Fol (by kernel_rfl) (by kernel_rfl) (by kernel_rfl) ?_ (fun a w hF hS => ?_)
                    · exact obs_nil
                    refine seq_cut (fun a w => Fr 89 [pl 0 (.int .i64 w1), pl 1 (.int .i64 h1), pl 2 (.int .i64 k1), pl 7 (.slice A5 l5.length c5), pl 8 (.int .i64 z1), pl 9 (.int .i64 z2), pl 11 (.pointer (some ⟨g1, 0, none⟩)), pl 14 (.slice A8 line1.length c8), pl 16 (.int .i64 h1), pl 17 (.int .i64 z1), pl 20 (.int .i64 w1), pl 21 (.int .i64 z2), pl 28 (.agg (List.toArray (([] : List Value) ++ (arr1 (Value.int .i64) (0 : Int) 8 ([1, 0, 0, 1, 1, 1, (-1), 1] : List Int) ++ ([] : List Value))))), pl 29 (.int .i64 z3), pl 58 (.int .i64 k1), pl 59 (.int .i64 z4)] a ∧ Sep w0 B w (rows 40 3 (.slice A5 l5.length c5) hd5 l5 :: blk g1 99 #[.int .i64 (geti ([1, 0, 0, 1, 1, 1, (-1), 1] : List Int) (z3 * 2)), .int .i64 (geti ([1, 0, 0, 1, 1, 1, (-1), 1] : List Int) (z3 * 2 + 1))] :: own 3 (.slice A8 line1.length c8) (vI line1) :: fs) ∧ ((rows_lines_J10 w1 z1 z2 z3 line1 z4)).bind φ4 = some r) ?_ ?_
                    · rintro a w ⟨hF, hS, hm⟩
                      unfold rows_lines_J10 at hm
                      refine seq_cut (fun a w => ∃ (line3 : List Int) (A11 : Option Addr) (c11 : Nat), Fr 89 [pl 0 (.int .i64 w1), pl 1 (.int .i64 h1), pl 2 (.int .i64 k1), pl 7 (.slice A5 l5.length c5), pl 8 (.int .i64 z1), pl 9 (.int .i64 z2), pl 11 (.pointer (some ⟨g1, 0, none⟩)), pl 14 (.slice A11 line3.length c11), pl 16 (.int .i64 h1), pl 17 (.int .i64 z1), pl 20 (.int .i64 w1), pl 21 (.int .i64 z2), pl 28 (.agg (List.toArray (([] : List Value) ++ (arr1 (Value.int .i64) (0 : Int) 8 ([1, 0, 0, 1, 1, 1, (-1), 1] : List Int) ++ ([] : List Value))))), pl 29 (.int .i64 z3), pl 58 (.int .i64 k1), pl 59 (.int .i64 z4)] a ∧ Sep w0 B w (rows 40 3 (.slice A5 l5.length c5) hd5 l5 :: blk g1 99 #[.int .i64 (geti ([1, 0, 0, 1, 1, 1, (-1), 1] : List Int) (z3 * 2)), .int .i64 (geti ([1, 0, 0, 1, 1, 1, (-1), 1] : List Int) (z3 * 2 + 1))] :: own 3 (.slice A11 line3.length c11) (vI line3) :: fs) ∧ ((rows_lines_J11 z4) line3).bind φ4 = some r) ?_ ?_
                      · rintro a w ⟨line3, A11, c11, hF, hS, hm⟩
                        unfold rows_lines_J11 at hm
                        refine reg1 [] [] [0, 1, 2, 7, 8, 9, 11, 14, 16, 17, 20, 21, 28, 29, 58, 59] [pl 0 (.int .i64 w1), pl 1 (.int .i64 h1), pl 2 (.int .i64 k1), pl 7 (.slice A5 l5.length c5), pl 8 (.int .i64 z1), pl 9 (.int .i64 z2), pl 11 (.pointer (some ⟨g1, 0, none⟩)), pl 14 (.slice A11 line3.length c11), pl 16 (.int .i64 h1), pl 17 (.int .i64 z1), pl 20 (.int .i64 w1), pl 21 (.int .i64 z2), pl 28 (.agg (List.toArray (([] : List Value) ++ (arr1 (Value.int .i64) (0 : Int) 8 ([1, 0, 0, 1, 1, 1, (-1), 1] : List Int) ++ ([] : List Value))))), pl 29 (.int .i64 z3), pl 58 (.int .i64 k1), pl 59 (.int .i64 (w64 (z4 + 1)))] hF hS Fol (by kernel_rfl) (by kernel_rfl) (by kernel_rfl) ?_ (fun a w hF hS => ?_)
                        · exact obs_nil
                        refine then_n ?_
                        rw [← hφ4] at hm
                        exact ⟨(line3, (w64 (z4 + 1))), ⟨A11, c11, hF.weak [0, 1, 2, 7, 8, 9, 11, 14, 16, 17, 20, 21, 28, 29, 58, 59] (by kernel_rfl), hS⟩, hm⟩
                      · refine wp_block ?_
                        refine reg [] [] [0, 1, 2, 7, 8, 9, 11, 14, 15, 16, 17, 20, 21, 28, 29, 58, 59] [pl 0 (.int .i64 w1), pl 1 (.int .i64 h1), pl 2 (.int .i64 k1), pl 7 (.slice A5 l5.length c5), pl 8 (.int .i64 z1), pl 9 (.int .i64 z2), pl 11 (.pointer (some ⟨g1, 0, none⟩)), pl 14 (.slice A8 line1.length c8), pl 15 (.int .i64 z4), pl 16 (.int .i64 h1), pl 17 (.int .i64 z1), pl 20 (.int .i64 w1), pl 21 (.int .i64 z2), pl 28 (.agg (List.toArray (([] : List Value) ++ (arr1 (Value.int .i64) (0 : Int) 8 ([1, 0, 0, 1, 1, 1, (-1), 1] : List Int) ++ ([] : List Value))))), pl 29 (.int .i64 z3), pl 58 (.int .i64 k1), pl 59 (.int .i64 z4)] hF hS Fol (by kernel_rfl) (by kernel_rfl) (by kernel_rfl) ?_ (fun a w hF hS => ?_)
                        · exact obs_nil
                        refine oneR ?_
                        obtain ⟨hp2, hm⟩ := asrt_b hm
                        refine at_run 16 [⟨false, [], vS (Instr.loadAt 3 (.pointer (some ⟨g1, 1, none⟩))), .int .i64 (geti ([1, 0, 0, 1, 1, 1, (-1), 1] : List Int) (z3 * 2 + 1))⟩, ⟨false, [], vS (Instr.loadAt 3 (.pointer (some ⟨g1, 0, none⟩))), .int .i64 (geti ([1, 0, 0, 1, 1, 1, (-1), 1] : List Int) (z3 * 2))⟩] [none, none, none, some (.int .i64 (geti ([1, 0, 0, 1, 1, 1, (-1), 1] : List Int) (z3 * 2 + 1))), none, none, none, none, none, none, none, none, some (.int .i64 (geti ([1, 0, 0, 1, 1, 1, (-1), 1] : List Int) (z3 * 2))), none, none, none] [0, 1, 2, 7, 8, 9, 11, 16, 17, 20, 21, 28, 29, 58, 59, 62, 77] [pl 0 (.int .i64 w1), pl 1 (.int .i64 h1), pl 2 (.int .i64 k1), pl 7 (.slice A5 l5.length c5), pl 8 (.int .i64 z1), pl 9 (.int .i64 z2), pl 11 (.pointer (some ⟨g1, 0, none⟩)), pl 16 (.int .i64 h1), pl 17 (.int .i64 z1), pl 20 (.int .i64 w1), pl 21 (.int .i64 z2), pl 28 (.agg (List.toArray (([] : List Value) ++ (arr1 (Value.int .i64) (0 : Int) 8 ([1, 0, 0, 1, 1, 1, (-1), 1] : List Int) ++ ([] : List Value))))), pl 29 (.int .i64 z3), pl 58 (.int .i64 k1), pl 59 (.int .i64 z4), pl 62 (.slice A8 line1.length c8), pl 77 (.int .i64 (w64 ((w64 ((w64 ((w64 (z1 + (w64 ((geti ([1, 0, 0, 1, 1, 1, (-1), 1] : List Int) (z3 * 2 + 1)) * z4)))) * w1)) + z2)) + (w64 ((geti ([1, 0, 0, 1, 1, 1, (-1), 1] : List Int) (z3 * 2)) * z4)))))] hF hS (by kernel_rfl) (by kernel_rfl) ?_ (fun a w hF hS => ?_)
                        · exact obs_cons (ob_load Agg3 (fun _ _ hS => (hS.at_ 1 rfl).cell rfl)) <| obs_cons (ob_load Agg3 (fun _ _ hS => (hS.at_ 1 rfl).cell rfl)) <| obs_nil
                        refine at_do (d := 78) (s := vS (Instr.buildSlice 40 1 #[(0, .int .i64 (w64 ((w64 ((w64 ((w64 (z1 + (w64 ((geti ([1, 0, 0, 1, 1, 1, (-1), 1] : List Int) (z3 * 2 + 1)) * z4)))) * w1)) + z2)) + (w64 ((geti ([1, 0, 0, 1, 1, 1, (-1), 1] : List Int) (z3 * 2)) * z4)))))])) (v := .slice (some ⟨w.heap.size, 0, none⟩) 1 1) (w' := w.alloc (.cells #[.int .i64 (w64 ((w64 ((w64 ((w64 (z1 + (w64 ((geti ([1, 0, 0, 1, 1, 1, (-1), 1] : List Int) (z3 * 2 + 1)) * z4)))) * w1)) + z2)) + (w64 ((geti ([1, 0, 0, 1, 1, 1, (-1), 1] : List Int) (z3 * 2)) * z4))))] 3)) hF (by kernel_rfl) (by kernel_rfl) (by kernel_rfl) (fun a hF => ?_)
                        have hS : Sep w0 B (w.alloc (.cells #[.int .i64 (w64 ((w64 ((w64 ((w64 (z1 + (w64 ((geti ([1, 0, 0, 1, 1, 1, (-1), 1] : List Int) (z3 * 2 + 1)) * z4)))) * w1)) + z2)) + (w64 ((geti ([1, 0, 0, 1, 1, 1, (-1), 1] : List Int) (z3 * 2)) * z4))))] 3)) (own 3 (.slice (some (⟨w.heap.size, 0, none⟩ : Addr)) 1 1) (vI ([w64 ((w64 ((w64 ((w64 (z1 + (w64 ((geti ([1, 0, 0, 1, 1, 1, (-1), 1] : List Int) (z3 * 2 + 1)) * z4)))) * w1)) + z2)) + (w64 ((geti ([1, 0, 0, 1, 1, 1, (-1), 1] : List Int) (z3 * 2)) * z4)))] : List Int)) :: (rows 40 3 (.slice A5 l5.length c5) hd5 l5 :: blk g1 99 #[.int .i64 (geti ([1, 0, 0, 1, 1, 1, (-1), 1] : List Int) (z3 * 2)), .int .i64 (geti ([1, 0, 0, 1, 1, 1, (-1), 1] : List Int) (z3 * 2 + 1))] :: own 3 (.slice A8 line1.length c8) (vI line1) :: fs)) := hS.lit 3 #[.int .i64 (w64 ((w64 ((w64 ((w64 (z1 + (w64 ((geti ([1, 0, 0, 1, 1, 1, (-1), 1] : List Int) (z3 * 2 + 1)) * z4)))) * w1)) + z2)) + (w64 ((geti ([1, 0, 0, 1, 1, 1, (-1), 1] : List Int) (z3 * 2)) * z4))))] 1 rfl (by omega)
                        generalize (some (⟨w.heap.size, 0, none⟩ : Addr)) = g2 at hF hS
                        generalize w.alloc (.cells #[.int .i64 (w64 ((w64 ((w64 ((w64 (z1 + (w64 ((geti ([1, 0, 0, 1, 1, 1, (-1), 1] : List Int) (z3 * 2 + 1)) * z4)))) * w1)) + z2)) + (w64 ((geti ([1, 0, 0, 1, 1, 1, (-1), 1] : List Int) (z3 * 2)) * z4))))] 3) = w at hS ⊢
                        obtain ⟨A10, c10, w, hrun, hS⟩ := run_app1 (P := Try.prog) (t := 40) (m := line1) (ys := ([w64 ((w64 ((w64 ((w64 (z1 + (w64 ((geti ([1, 0, 0, 1, 1, 1, (-1), 1] : List Int) (z3 * 2 + 1)) * z4)))) * w1)) + z2)) + (w64 ((geti ([1, 0, 0, 1, 1, 1, (-1), 1] : List Int) (z3 * 2)) * z4)))] : List Int)) (A2 := g2) (m2 := 1) (c2 := 1) (Value.int .i64) (0 : Int) (hS.at_ 3 rfl) (hS.at_ 0 rfl).rd ((hS.at_ 0 rfl).len1) 40 Und40 hi3 hz3 hs3 (by omega) rfl (fun _ => rfl) hp2
                        have hS : Sep w0 B w (own 3 (.slice g2 1 1) (vI ([w64 ((w64 ((w64 ((w64 (z1 + (w64 ((geti ([1, 0, 0, 1, 1, 1, (-1), 1] : List Int) (z3 * 2 + 1)) * z4)))) * w1)) + z2)) + (w64 ((geti ([1, 0, 0, 1, 1, 1, (-1), 1] : List Int) (z3 * 2)) * z4)))] : List Int)) :: rows 40 3 (.slice A5 l5.length c5) hd5 l5 :: blk g1 99 #[.int .i64 (geti ([1, 0, 0, 1, 1, 1, (-1), 1] : List Int) (z3 * 2)), .int .i64 (geti ([1, 0, 0, 1, 1, 1, (-1), 1] : List Int) (z3 * 2 + 1))] :: own 3 (.slice A10 ((line1 ++ ([w64 ((w64 ((w64 ((w64 (z1 + (w64 ((geti ([1, 0, 0, 1, 1, 1, (-1), 1] : List Int) (z3 * 2 + 1)) * z4)))) * w1)) + z2)) + (w64 ((geti ([1, 0, 0, 1, 1, 1, (-1), 1] : List Int) (z3 * 2)) * z4)))] : List Int)).length) c10) (vI (line1 ++ ([w64 ((w64 ((w64 ((w64 (z1 + (w64 ((geti ([1, 0, 0, 1, 1, 1, (-1), 1] : List Int) (z3 * 2 + 1)) * z4)))) * w1)) + z2)) + (w64 ((geti ([1, 0, 0, 1, 1, 1, (-1), 1] : List Int) (z3 * 2)) * z4)))] : List Int))) :: fs) := hS
                        refine at_do (d := 79) hF (by kernel_rfl) (by kernel_rfl) hrun (fun a hF => ?_)
                        refine at_run 1 [] [] [0, 1, 2, 7, 8, 9, 11, 14, 16, 17, 20, 21, 28, 29, 58, 59] [pl 0 (.int .i64 w1), pl 1 (.int .i64 h1), pl 2 (.int .i64 k1), pl 7 (.slice A5 l5.length c5), pl 8 (.int .i64 z1), pl 9 (.int .i64 z2), pl 11 (.pointer (some ⟨g1, 0, none⟩)), pl 14 (.slice A10 ((line1 ++ ([w64 ((w64 ((w64 ((w64 (z1 + (w64 ((geti ([1, 0, 0, 1, 1, 1, (-1), 1] : List Int) (z3 * 2 + 1)) * z4)))) * w1)) + z2)) + (w64 ((geti ([1, 0, 0, 1, 1, 1, (-1), 1] : List Int) (z3 * 2)) * z4)))] : List Int)).length) c10), pl 16 (.int .i64 h1), pl 17 (.int .i64 z1), pl 20 (.int .i64 w1), pl 21 (.int .i64 z2), pl 28 (.agg (List.toArray (([] : List Value) ++ (arr1 (Value.int .i64) (0 : Int) 8 ([1, 0, 0, 1, 1, 1, (-1), 1] : List Int) ++ ([] : List Value))))), pl 29 (.int .i64 z3), pl 58 (.int .i64 k1), pl 59 (.int .i64 z4)] hF hS (by kernel_rfl) (by kernel_rfl) ?_ (fun a w hF hS => ?_)
                        · exact obs_nil
                        refine at_end [0, 1, 2, 7, 8, 9, 11, 14, 16, 17, 20, 21, 28, 29, 58, 59] [pl 0 (.int .i64 w1), pl 1 (.int .i64 h1), pl 2 (.int .i64 k1), pl 7 (.slice A5 l5.length c5), pl 8 (.int .i64 z1), pl 9 (.int .i64 z2), pl 11 (.pointer (some ⟨g1, 0, none⟩)), pl 14 (.slice A10 ((line1 ++ ([w64 ((w64 ((w64 ((w64 (z1 + (w64 ((geti ([1, 0, 0, 1, 1, 1, (-1), 1] : List Int) (z3 * 2 + 1)) * z4)))) * w1)) + z2)) + (w64 ((geti ([1, 0, 0, 1, 1, 1, (-1), 1] : List Int) (z3 * 2)) * z4)))] : List Int)).length) c10), pl 16 (.int .i64 h1), pl 17 (.int .i64 z1), pl 20 (.int .i64 w1), pl 21 (.int .i64 z2), pl 28 (.agg (List.toArray (([] : List Value) ++ (arr1 (Value.int .i64) (0 : Int) 8 ([1, 0, 0, 1, 1, 1, (-1), 1] : List Int) ++ ([] : List Value))))), pl 29 (.int .i64 z3), pl 58 (.int .i64 k1), pl 59 (.int .i64 z4)] hF rfl (by kernel_rfl) (fun hF => ?_)
                        refine block_n ?_
                        refine then_n ?_
                        have hS := hS.pickN 4 [1, 2, 3] (by decide)
                        exact ⟨(line1 ++ ([w64 ((w64 ((w64 ((w64 (z1 + (w64 ((geti ([1, 0, 0, 1, 1, 1, (-1), 1] : List Int) (z3 * 2 + 1)) * z4)))) * w1)) + z2)) + (w64 ((geti ([1, 0, 0, 1, 1, 1, (-1), 1] : List Int) (z3 * 2)) * z4)))] : List Int)), A10, c10, hF.weak [0, 1, 2, 7, 8, 9, 11, 14, 16, 17, 20, 21, 28, 29, 58, 59] (by kernel_rfl), hS, hm⟩
                    · refine cond_ev (t := 60) (b := decide (z4 < k1)) hF (by kernel_rfl) (fun hb => ?_) (fun hb => ?_)
                      · replace hm := if_t hm hb
                        refine wp_skip ?_
                        refine then_n ?_
                        exact ⟨hF.weak [0, 1, 2, 7, 8, 9, 11, 14, 16, 17, 20, 21, 28, 29, 58, 59] (by kernel_rfl), hS, hm⟩
                      · replace hm := if_f hm hb
                        refine wp_exit ?_
                        refine then_e (then_e (block_e (then_n ?_)))
                        have hS := hS.pickN 3 [0, 2] (by decide)
                        rw [← hφ4] at hm
                        replace hm := done_b hm
                        unfold rows_lines_K4 at hm
                        try dsimp only at hm
                        have hm : ((rows_lines_J9 l5 z3) line1).bind φ3 = some r := hm
                        exact ⟨line1, A8, c8, hF.weak [0, 1, 2, 7, 8, 9, 14, 16, 17, 20, 21, 28, 29] (by kernel_rfl), hS, hm⟩
                · refine reg [] [] [0, 1, 2, 7, 8, 9, 11, 16, 17, 20, 21, 28, 29, 57] [pl 0 (.int .i64 w1), pl 1 (.int .i64 h1), pl 2 (.int .i64 k1), pl 7 (.slice A5 l5.length c5), pl 8 (.int .i64 z1), pl 9 (.int .i64 z2), pl 11 (.pointer (some ⟨g1, 0, none⟩)), pl 16 (.int .i64 h1), pl 17 (.int .i64 z1), pl 20 (.int .i64 w1), pl 21 (.int .i64 z2), pl 28 (.agg (List.toArray (([] : List Value) ++ (arr1 (Value.int .i64) (0 : Int) 8 ([1, 0, 0, 1, 1, 1, (-1), 1] : List Int) ++ ([] : List Value))))), pl 29 (.int .i64 z3), pl 57 (.bool (((decide ((w64 (z2 + (w64 ((geti ([1, 0, 0, 1, 1, 1, (-1), 1] : List Int) (z3 * 2)) * (w64 (k1 - 1)))))) < 0)) || (decide (w1 ≤ (w64 (z2 + (w64 ((geti ([1, 0, 0, 1, 1, 1, (-1), 1] : List Int) (z3 * 2)) * (w64 (k1 - 1))))))))) || (decide (h1 ≤ (w64 (z1 + (w64 ((geti ([1, 0, 0, 1, 1, 1, (-1), 1] : List Int) (z3 * 2 + 1)) * (w64 (k1 - 1))))))))))] hF hS Fol (by kernel_rfl) (by kernel_rfl) (by kernel_rfl) ?_ (fun a w hF hS => ?_)
                  · exact obs_nil
                  refine cond_ev (t := 57) (b := ((decide ((w64 (z2 + (w64 ((geti ([1, 0, 0, 1, 1, 1, (-1), 1] : List Int) (z3 * 2)) * (w64 (k1 - 1)))))) < 0)) || (decide (w1 ≤ (w64 (z2 + (w64 ((geti ([1, 0, 0, 1, 1, 1, (-1), 1] : List Int) (z3 * 2)) * (w64 (k1 - 1))))))))) || (decide (h1 ≤ (w64 (z1 + (w64 ((geti ([1, 0, 0, 1, 1, 1, (-1), 1] : List Int) (z3 * 2 + 1)) * (w64 (k1 - 1))))))))) hF (by kernel_rfl) (fun hb => ?_) (fun hb => ?_)
                  · replace hm := if_t hm hb
                    refine wp_exit ?_
                    refine then_e (block_e (then_n ?_))
                    have hS := hS.pickN 2 [1] (by decide)
                    exact ⟨l5, A5, c5, hd5, hF.weak [0, 1, 2, 7, 8, 9, 16, 17, 20, 21, 28, 29] (by kernel_rfl), hS, hm⟩
                  · replace hm := if_f hm hb
                    refine wp_skip ?_
                    refine then_n ?_
                    have hS := hS.pickN 2 [1, 0] (by decide)
                    exact ⟨hF.weak [0, 1, 2, 7, 8, 9, 11, 16, 17, 20, 21, 28, 29] (by kernel_rfl), hS, hm⟩
            · refine cond_ev (t := 30) (b := decide (z3 < 4)) hF (by kernel_rfl) (fun hb => ?_) (fun hb => ?_)
              · replace hm := if_t hm hb
                refine wp_skip ?_
                refine then_n ?_
                exact ⟨hF.weak [0, 1, 2, 7, 8, 9, 16, 17, 20, 21, 28, 29] (by kernel_rfl), hS, hm⟩
              · replace hm := if_f hm hb
                refine wp_exit ?_
                refine then_e (then_e (block_e (block_n (then_n ?_))))
                rw [← hφ3] at hm
                replace hm := done_b hm
                unfold rows_lines_K3 at hm
                try dsimp only at hm
                have hm : ((rows_lines_J5 z2) l5).bind φ2 = some r := hm
                exact ⟨l5, A5, c5, hd5, hF.weak [0, 1, 2, 7, 8, 16, 17, 20, 21] (by kernel_rfl), hS, hm⟩
        · refine cond_ev (t := 22) (b := decide (z2 < w1)) hF (by kernel_rfl) (fun hb => ?_) (fun hb => ?_)
          · replace hm := if_t hm hb
            refine wp_skip ?_
            refine then_n ?_
            exact ⟨hF.weak [0, 1, 2, 7, 8, 16, 17, 20, 21] (by kernel_rfl), hS, hm⟩
          · replace hm := if_f hm hb
            refine wp_exit ?_
            refine then_e (then_e (block_e (block_n (then_n ?_))))
            rw [← hφ2] at hm
            replace hm := done_b hm
            unfold rows_lines_K2 at hm
            try dsimp only at hm
            have hm : ((rows_lines_J3 z1) l3).bind φ1 = some r := hm
            exact ⟨l3, A3, c3, hd3, hF.weak [0, 1, 2, 7, 16, 17] (by kernel_rfl), hS, hm⟩
    · refine cond_ev (t := 18) (b := decide (z1 < h1)) hF (by kernel_rfl) (fun hb => ?_) (fun hb => ?_)
      · replace hm := if_t hm hb
        refine wp_skip ?_
        refine then_n ?_
        exact ⟨hF.weak [0, 1, 2, 7, 16, 17] (by kernel_rfl), hS, hm⟩
      · replace hm := if_f hm hb
        refine wp_exit ?_
        refine then_e (then_e (block_e (then_n ?_)))
        rw [← hφ1] at hm
        replace hm := done_b hm
        unfold rows_lines_K1 at hm
        try dsimp only at hm
        have hm : (rows_lines_J1 l1).bind some = some r := hm
        exact ⟨l1, A1, c1, hd1, hF.weak [7] (by kernel_rfl), hS, hm⟩

noncomputable def rows_match_owner_J3 (z1 : Int) : Option (St Int (Fl Unit Int)) :=
  some (.next (w64 (z1 + 1)))

noncomputable def rows_match_owner_J2 (m1 : List Int) (line1 : List Int) (z1 : Int) : Option (St Int (Fl Unit Int)) :=
  asrt (0 ≤ z1 ∧ z1 < (line1.length : Int)) <| asrt (0 ≤ (geti line1 z1) ∧ (geti line1 z1) < (m1.length : Int)) <| if ((geti m1 (geti line1 z1)) != (geti m1 (geti line1 0))) then (some (.done (.ret 0))) else ((rows_match_owner_J3 z1))

noncomputable def rows_match_owner_J1 (m1 : List Int) (line1 : List Int) : Option Int :=
  some (geti m1 (geti line1 0))

noncomputable def rows_match_owner_K1 (m1 : List Int) (line1 : List Int) : (Fl Unit Int) → Option Int :=
  fun (x : (Fl Unit Int)) => match x with | .go _ => (rows_match_owner_J1 m1 line1) | .ret x => some x

noncomputable def rows_match_owner_L1 (m1 : List Int) (line1 : List Int) : Int → Option (St Int (Fl Unit Int)) :=
  fun (x : Int) => match x with | z1 => if (decide (z1 < (line1.length : Int))) then ((rows_match_owner_J2 m1 line1 z1)) else (some (.done (.go ())))

noncomputable def rows_match_owner_m (m1 : List Int) (m2 : List (List Int)) (line1 : List Int) : Option Int :=
  asrt (0 ≤ (0 : Int) ∧ (0 : Int) < (line1.length : Int)) <| asrt (0 ≤ (geti line1 0) ∧ (geti line1 0) < (m1.length : Int)) <| (loop (rows_match_owner_L1 m1 line1) 0).bind (rows_match_owner_K1 m1 line1)

set_option maxRecDepth 100000 in
set_option maxHeartbeats 4000000 in
theorem rows_match_owner_w {A1 : Option Addr} {c1 : Nat} {n1 : Nat} {m1 : List Int} {A2 : Option Addr} {c2 : Nat} {n2 : Nat} {hd1 : List Hd} {m2 : List (List Int)} {A3 : Option Addr} {c3 : Nat} {n3 : Nat} {line1 : List Int} {r : Int} {w0 w : World} {B : Nat} {fs : List HP} (hm : rows_match_owner_m m1 m2 line1 = some r) (hS : Sep w0 B w (fs)) (hr_m1 : RdF w0 B fs A1 (vI m1)) (_hc_m1 : m1.length ≤ c1) (_hn_m1 : n1 = m1.length) (hr_m2 : RdRowsF w0 B fs A2 hd1 m2) (_hc_m2 : m2.length ≤ c2) (_hn_m2 : n2 = m2.length) (hr_line1 : RdF w0 B fs A3 (vI line1)) (_hc_line1 : line1.length ≤ c3) (_hn_line1 : n3 = line1.length) :
    Calls Try.prog 165 #[.agg #[.slice A1 n1 c1, .slice A2 n2 c2], .slice A3 n3 c3] w fun e w' => e = .returned (.int .i64 r) ∧ Sep w0 B w' (fs) := by
  obtain ⟨i3, hi3, hz3, hs3, hb3⟩ := info_parts Info3
  obtain rfl := _hn_m1
  obtain rfl := _hn_m2
  obtain rfl := _hn_line1
  unfold rows_match_owner_m at hm
  replace hm := start_b hm
  refine enter (l := [.agg #[.slice A1 m1.length c1, .slice A2 m2.length c2], .slice A3 line1.length c3]) (n := 30) Try.func165 rfl rfl (by simp) (fun a hF => ?_)
  refine seqR ?_
  refine at_do (d := 2) (s := vS (Instr.box 161 (.agg #[.slice A1 m1.length c1, .slice A2 m2.length c2]))) (v := .pointer (some ⟨w.heap.size, 0, none⟩)) (w' := w.alloc (.cells #[.slice A1 m1.length c1, .slice A2 m2.length c2] 161)) hF (by kernel_rfl) (by kernel_rfl) (by kernel_rfl) (fun a hF => ?_)
  have hS : Sep w0 B (w.alloc (.cells #[.slice A1 m1.length c1, .slice A2 m2.length c2] 161)) (blk w.heap.size 161 #[.slice A1 m1.length c1, .slice A2 m2.length c2] :: (fs)) := hS.box 161 #[.slice A1 m1.length c1, .slice A2 m2.length c2]
  generalize w.heap.size = g1 at hF hS
  generalize w.alloc (.cells #[.slice A1 m1.length c1, .slice A2 m2.length c2] 161) = w at hS ⊢
  refine at_run 1 [] [] [1, 2] [pl 1 (.slice A3 line1.length c3), pl 2 (.pointer (some ⟨g1, 0, none⟩))] hF hS (by kernel_rfl) (by kernel_rfl) ?_ (fun a w hF hS => ?_)
  · exact obs_nil
  refine at_end [1, 2] [pl 1 (.slice A3 line1.length c3), pl 2 (.pointer (some ⟨g1, 0, none⟩))] hF rfl (by kernel_rfl) (fun hF => ?_)
  refine then_n ?_
  obtain ⟨hp1, hm⟩ := asrt_b hm
  obtain ⟨hp2, hm⟩ := asrt_b hm
  refine reg [⟨false, [], vS (Instr.loadAt 40 (.pointer (some ⟨g1, 0, none⟩))), .slice A1 m1.length c1⟩, ⟨true, [], vS (Instr.indexAt 40 (.slice A3 line1.length c3) (.int .i64 0)), .pointer (some (sAddr A3 0))⟩, ⟨false, [], vS (Instr.loadAt 3 (.pointer (some (sAddr A3 0)))), .int .i64 (geti line1 0)⟩, ⟨true, [], vS (Instr.indexAt 40 (.slice A1 m1.length c1) (.int .i64 (geti line1 0))), .pointer (some (sAddr A1 (geti line1 0)))⟩, ⟨false, [], vS (Instr.loadAt 3 (.pointer (some (sAddr A1 (geti line1 0))))), .int .i64 (geti m1 (geti line1 0))⟩] [none, some (.slice A1 m1.length c1), none, some (.pointer (some (sAddr A3 0))), some (.int .i64 (geti line1 0)), some (.pointer (some (sAddr A1 (geti line1 0)))), some (.int .i64 (geti m1 (geti line1 0))), none] [1, 2, 5] [pl 1 (.slice A3 line1.length c3), pl 2 (.pointer (some ⟨g1, 0, none⟩)), pl 5 (.int .i64 (geti m1 (geti line1 0)))] hF hS Fol (by kernel_rfl) (by kernel_rfl) (by kernel_rfl) ?_ (fun a w hF hS => ?_)
  · exact obs_cons (ob_load Agg40 (fun _ _ hS => (hS.at_ 0 rfl).cell rfl)) <| obs_cons (ob_ix1 (f := (Value.int .i64)) (m := line1) Und40 hi3 hs3 (hr_line1 _ (hS.dropN 1)) rfl (fun _ => hp1)) <| obs_cons (ob_get1 (n := line1.length) (m := line1) (Value.int .i64) (0 : Int) Agg3 (fun _ hS => ⟨_, (hr_line1 _ (hS.dropN 1))⟩) (fun _ hS => rfl) (fun _ => hp1)) <| obs_cons (ob_ix1 (f := (Value.int .i64)) (m := m1) Und40 hi3 hs3 (hr_m1 _ (hS.dropN 1)) rfl (fun _ => hp2)) <| obs_cons (ob_get1 (n := m1.length) (m := m1) (Value.int .i64) (0 : Int) Agg3 (fun _ hS => ⟨_, (hr_m1 _ (hS.dropN 1))⟩) (fun _ hS => rfl) (fun _ => hp2)) <| obs_nil
  refine seq_cut (fun a w => Fr 30 [pl 5 (.int .i64 (geti m1 (geti line1 0)))] a ∧ Sep w0 B w (fs) ∧ ((rows_match_owner_J1 m1 line1)).bind some = some r) ?_ ?_
  · rintro a w ⟨hF, hS, hm⟩
    unfold rows_match_owner_J1 at hm
    refine reg [] [] [4] [pl 4 (.int .i64 (geti m1 (geti line1 0)))] hF hS Fol (by kernel_rfl) (by kernel_rfl) (by kernel_rfl) ?_ (fun a w hF hS => ?_)
    · exact obs_nil
    refine wp_ret ?_
    have hm : some (geti m1 (geti line1 0)) = some r := hm
    obtain rfl := Option.some.inj hm
    exact retV (rs := [.tmp 4]) (vs := [.int .i64 (geti m1 (geti line1 0))]) hF rfl (rv_t (by kernel_rfl) <| rv_nil) rfl ⟨rfl, hS⟩
  · refine reg [] [] [2, 5, 15, 16, 17] [pl 2 (.pointer (some ⟨g1, 0, none⟩)), pl 5 (.int .i64 (geti m1 (geti line1 0))), pl 15 (.slice A3 line1.length c3), pl 16 (.int .i64 (line1.length : Int)), pl 17 (.int .i64 0)] hF hS Fol (by kernel_rfl) (by kernel_rfl) (by kernel_rfl) ?_ (fun a w hF hS => ?_)
    · exact obs_nil
    refine wp_block ?_
    refine wp_loop_model (S := Int) (R := (Fl Unit Int)) (rows_match_owner_L1 m1 line1) (fun x => ((rows_match_owner_K1 m1 line1) x).bind some) r (fun (x : Int) a w => Fr 30 [pl 2 (.pointer (some ⟨g1, 0, none⟩)), pl 5 (.int .i64 (geti m1 (geti line1 0))), pl 15 (.slice A3 line1.length c3), pl 16 (.int .i64 (line1.length : Int)), pl 17 (.int .i64 x)] a ∧ Sep w0 B w (blk g1 161 #[.slice A1 m1.length c1, .slice A2 m2.length c2] :: fs)) (assoc_b hm) ⟨hF.weak [2, 5, 15, 16, 17] (by kernel_rfl), hS⟩ ?_
    clear hF hS hm
    rintro nn1 z1 a w ⟨hF, hS⟩ hm
    generalize hφ1 : stK (rows_match_owner_L1 m1 line1) nn1 (fun x => ((rows_match_owner_K1 m1 line1) x).bind some) = φ1 at hm
    unfold rows_match_owner_L1 at hm
    dsimp only at hm
    refine reg [] [] [2, 5, 15, 16, 17, 18] [pl 2 (.pointer (some ⟨g1, 0, none⟩)), pl 5 (.int .i64 (geti m1 (geti line1 0))), pl 15 (.slice A3 line1.length c3), pl 16 (.int .i64 (line1.length : Int)), pl 17 (.int .i64 z1), pl 18 (.bool (decide (z1 < (line1.length : Int))))] hF hS Fol (by kernel_rfl) (by kernel_rfl) (by kernel_rfl) ?_ (fun a w hF hS => ?_)
    · exact obs_nil
    refine seq_cut (fun a w => Fr 30 [pl 2 (.pointer (some ⟨g1, 0, none⟩)), pl 5 (.int .i64 (geti m1 (geti line1 0))), pl 15 (.slice A3 line1.length c3), pl 16 (.int .i64 (line1.length : Int)), pl 17 (.int .i64 z1)] a ∧ Sep w0 B w (blk g1 161 #[.slice A1 m1.length c1, .slice A2 m2.length c2] :: fs) ∧ ((rows_match_owner_J2 m1 line1 z1)).bind φ1 = some r) ?_ ?_
    · rintro a w ⟨hF, hS, hm⟩
      unfold rows_match_owner_J2 at hm
      refine seq_cut (fun a w => Fr 30 [pl 2 (.pointer (some ⟨g1, 0, none⟩)), pl 5 (.int .i64 (geti m1 (geti line1 0))), pl 15 (.slice A3 line1.length c3), pl 16 (.int .i64 (line1.length : Int)), pl 17 (.int .i64 z1)] a ∧ Sep w0 B w (blk g1 161 #[.slice A1 m1.length c1, .slice A2 m2.length c2] :: fs) ∧ ((rows_match_owner_J3 z1)).bind φ1 = some r) ?_ ?_
      · rintro a w ⟨hF, hS, hm⟩
        unfold rows_match_owner_J3 at hm
        refine reg1 [] [] [2, 5, 15, 16, 17] [pl 2 (.pointer (some ⟨g1, 0, none⟩)), pl 5 (.int .i64 (geti m1 (geti line1 0))), pl 15 (.slice A3 line1.length c3), pl 16 (.int .i64 (line1.length : Int)), pl 17 (.int .i64 (w64 (z1 + 1)))] hF hS Fol (by kernel_rfl) (by kernel_rfl) (by kernel_rfl) ?_ (fun a w hF hS => ?_)
        · exact obs_nil
        refine then_n ?_
        rw [← hφ1] at hm
        exact ⟨(w64 (z1 + 1)), ⟨hF.weak [2, 5, 15, 16, 17] (by kernel_rfl), hS⟩, hm⟩
      · refine wp_block ?_
        obtain ⟨hp3, hm⟩ := asrt_b hm
        refine reg [⟨true, [], vS (Instr.indexAt 40 (.slice A3 line1.length c3) (.int .i64 z1)), .pointer (some (sAddr A3 z1))⟩, ⟨false, [], vS (Instr.loadAt 3 (.pointer (some (sAddr A3 z1)))), .int .i64 (geti line1 z1)⟩] [some (.pointer (some (sAddr A3 z1))), some (.int .i64 (geti line1 z1)), none] [2, 5, 7, 15, 16, 17] [pl 2 (.pointer (some ⟨g1, 0, none⟩)), pl 5 (.int .i64 (geti m1 (geti line1 0))), pl 7 (.int .i64 (geti line1 z1)), pl 15 (.slice A3 line1.length c3), pl 16 (.int .i64 (line1.length : Int)), pl 17 (.int .i64 z1)] hF hS Fol (by kernel_rfl) (by kernel_rfl) (by kernel_rfl) ?_ (fun a w hF hS => ?_)
        · exact obs_cons (ob_ix1 (f := (Value.int .i64)) (m := line1) Und40 hi3 hs3 (hr_line1 _ (hS.dropN 1)) rfl (fun _ => hp3)) <| obs_cons (ob_get1 (n := line1.length) (m := line1) (Value.int .i64) (0 : Int) Agg3 (fun _ hS => ⟨_, (hr_line1 _ (hS.dropN 1))⟩) (fun _ hS => rfl) (fun _ => hp3)) <| obs_nil
        obtain ⟨hp4, hm⟩ := asrt_b hm
        refine reg [⟨false, [], vS (Instr.loadAt 40 (.pointer (some ⟨g1, 0, none⟩))), .slice A1 m1.length c1⟩, ⟨true, [], vS (Instr.indexAt 40 (.slice A1 m1.length c1) (.int .i64 (geti line1 z1))), .pointer (some (sAddr A1 (geti line1 z1)))⟩, ⟨false, [], vS (Instr.loadAt 3 (.pointer (some (sAddr A1 (geti line1 z1))))), .int .i64 (geti m1 (geti line1 z1))⟩] [none, some (.slice A1 m1.length c1), none, some (.pointer (some (sAddr A1 (geti line1 z1)))), some (.int .i64 (geti m1 (geti line1 z1))), none, none] [2, 5, 15, 16, 17, 27] [pl 2 (.pointer (some ⟨g1, 0, none⟩)), pl 5 (.int .i64 (geti m1 (geti line1 0))), pl 15 (.slice A3 line1.length c3), pl 16 (.int .i64 (line1.length : Int)), pl 17 (.int .i64 z1), pl 27 (.bool ((geti m1 (geti line1 z1)) != (geti m1 (geti line1 0))))] hF hS Fol (by kernel_rfl) (by kernel_rfl) (by kernel_rfl) ?_ (fun a w hF hS => ?_)
        · exact obs_cons (ob_load Agg40 (fun _ _ hS => (hS.at_ 0 rfl).cell rfl)) <| obs_cons (ob_ix1 (f := (Value.int .i64)) (m := m1) Und40 hi3 hs3 (hr_m1 _ (hS.dropN 1)) rfl (fun _ => hp4)) <| obs_cons (ob_get1 (n := m1.length) (m := m1) (Value.int .i64) (0 : Int) Agg3 (fun _ hS => ⟨_, (hr_m1 _ (hS.dropN 1))⟩) (fun _ hS => rfl) (fun _ => hp4)) <| obs_nil
        refine cond_ev (t := 27) (b := ((geti m1 (geti line1 z1)) != (geti m1 (geti line1 0)))) hF (by kernel_rfl) (fun hb => ?_) (fun hb => ?_)
        · replace hm := if_t hm hb
          refine reg [] [] [4] [pl 4 (.int .i64 0)] hF hS Fol (by kernel_rfl) (by kernel_rfl) (by kernel_rfl) ?_ (fun a w hF hS => ?_)
          · exact obs_nil
          refine wp_ret ?_
          refine block_r (then_r (then_r (block_r (then_r ?_))))
          rw [← hφ1] at hm
          replace hm := done_b hm
          unfold rows_match_owner_K1 at hm
          try dsimp only at hm
          have hS := hS.pickN 1 [] (by decide)
          have hm : some 0 = some r := hm
          obtain rfl := Option.some.inj hm
          exact retV (rs := [.tmp 4]) (vs := [.int .i64 0]) hF rfl (rv_t (by kernel_rfl) <| rv_nil) rfl ⟨rfl, hS⟩
        · replace hm := if_f hm hb
          refine wp_skip ?_
          refine block_n ?_
          refine then_n ?_
          exact ⟨hF.weak [2, 5, 15, 16, 17] (by kernel_rfl), hS, hm⟩
    · refine cond_ev (t := 18) (b := decide (z1 < (line1.length : Int))) hF (by kernel_rfl) (fun hb => ?_) (fun hb => ?_)
      · replace hm := if_t hm hb
        refine wp_skip ?_
        refine then_n ?_
        exact ⟨hF.weak [2, 5, 15, 16, 17] (by kernel_rfl), hS, hm⟩
      · replace hm := if_f hm hb
        refine wp_exit ?_
        refine then_e (then_e (block_e (then_n ?_)))
        have hS := hS.pickN 1 [] (by decide)
        rw [← hφ1] at hm
        replace hm := done_b hm
        unfold rows_match_owner_K1 at hm
        try dsimp only at hm
        have hm : ((rows_match_owner_J1 m1 line1)).bind some = some r := hm
        exact ⟨hF.weak [5] (by kernel_rfl), hS, hm⟩

noncomputable def rows_match_won_J3 (z1 : Int) (n5 : Int) : Option (St (Int × Int) Int) :=
  some (.next (n5, (w64 (z1 + 1))))

noncomputable def rows_match_won_J2 (m1 : List Int) (m2 : List (List Int)) (n3 : Int) (z1 : Int) : Option (St (Int × Int) Int) :=
  asrt (0 ≤ z1 ∧ z1 < (m2.length : Int)) <| (rows_match_owner_m m1 m2 (geti2 m2 z1)).bind fun r1 => (rows_match_won_J3 z1) (bOr n3 r1)

noncomputable def rows_match_won_J1 (n4 : Int) : Option Int :=
  some n4

noncomputable def rows_match_won_K1 : Int → Option Int :=
  fun (x : Int) => match x with | n4 => rows_match_won_J1 n4

noncomputable def rows_match_won_L1 (m1 : List Int) (m2 : List (List Int)) : (Int × Int) → Option (St (Int × Int) Int) :=
  fun (x : (Int × Int)) => match x with | (n3, z1) => if (decide (z1 < (m2.length : Int))) then ((rows_match_won_J2 m1 m2 n3 z1)) else (some (.done n3))

noncomputable def rows_match_won_m (m1 : List Int) (m2 : List (List Int)) : Option Int :=
  (loop (rows_match_won_L1 m1 m2) (0, 0)).bind rows_match_won_K1

set_option maxRecDepth 100000 in
set_option maxHeartbeats 4000000 in
theorem rows_match_won_w {A1 : Option Addr} {c1 : Nat} {n1 : Nat} {m1 : List Int} {A2 : Option Addr} {c2 : Nat} {n2 : Nat} {hd1 : List Hd} {m2 : List (List Int)} {r : Int} {w0 w : World} {B : Nat} {fs : List HP} (hm : rows_match_won_m m1 m2 = some r) (hS : Sep w0 B w (fs)) (hr_m1 : RdF w0 B fs A1 (vI m1)) (_hc_m1 : m1.length ≤ c1) (_hn_m1 : n1 = m1.length) (hr_m2 : RdRowsF w0 B fs A2 hd1 m2) (_hc_m2 : m2.length ≤ c2) (_hn_m2 : n2 = m2.length) :
    Calls Try.prog 148 #[.agg #[.slice A1 n1 c1, .slice A2 n2 c2]] w fun e w' => e = .returned (.int .i64 r) ∧ Sep w0 B w' (fs) := by
  obtain ⟨i3, hi3, hz3, hs3, hb3⟩ := info_parts Info3
  obtain ⟨i40, hi40, hz40, hs40, hb40⟩ := info_parts Info40
  obtain rfl := _hn_m1
  obtain rfl := _hn_m2
  unfold rows_match_won_m at hm
  replace hm := start_b hm
  refine enter (l := [.agg #[.slice A1 m1.length c1, .slice A2 m2.length c2]]) (n := 20) Try.func148 rfl rfl (by simp) (fun a hF => ?_)
  refine seqR ?_
  refine at_do (d := 1) (s := vS (Instr.box 161 (.agg #[.slice A1 m1.length c1, .slice A2 m2.length c2]))) (v := .pointer (some ⟨w.heap.size, 0, none⟩)) (w' := w.alloc (.cells #[.slice A1 m1.length c1, .slice A2 m2.length c2] 161)) hF (by kernel_rfl) (by kernel_rfl) (by kernel_rfl) (fun a hF => ?_)
  have hS : Sep w0 B (w.alloc (.cells #[.slice A1 m1.length c1, .slice A2 m2.length c2] 161)) (blk w.heap.size 161 #[.slice A1 m1.length c1, .slice A2 m2.length c2] :: (fs)) := hS.box 161 #[.slice A1 m1.length c1, .slice A2 m2.length c2]
  generalize w.heap.size = g1 at hF hS
  generalize w.alloc (.cells #[.slice A1 m1.length c1, .slice A2 m2.length c2] 161) = w at hS ⊢
  refine at_run 1 [] [] [1] [pl 1 (.pointer (some ⟨g1, 0, none⟩))] hF hS (by kernel_rfl) (by kernel_rfl) ?_ (fun a w hF hS => ?_)
  · exact obs_nil
  refine at_end [1] [pl 1 (.pointer (some ⟨g1, 0, none⟩))] hF rfl (by kernel_rfl) (fun hF => ?_)
  refine then_n ?_
  refine reg [] [] [1, 3] [pl 1 (.pointer (some ⟨g1, 0, none⟩)), pl 3 (.int .i64 0)] hF hS Fol (by kernel_rfl) (by kernel_rfl) (by kernel_rfl) ?_ (fun a w hF hS => ?_)
  · exact obs_nil
  refine seq_cut (fun a w => ∃ (n4 : Int), Fr 20 [pl 3 (.int .i64 n4)] a ∧ Sep w0 B w (fs) ∧ (rows_match_won_J1 n4).bind some = some r) ?_ ?_
  · rintro a w ⟨n4, hF, hS, hm⟩
    unfold rows_match_won_J1 at hm
    refine reg [] [] [2] [pl 2 (.int .i64 n4)] hF hS Fol (by kernel_rfl) (by kernel_rfl) (by kernel_rfl) ?_ (fun a w hF hS => ?_)
    · exact obs_nil
    refine wp_ret ?_
    have hm : some n4 = some r := hm
    obtain rfl := Option.some.inj hm
    exact retV (rs := [.tmp 2]) (vs := [.int .i64 n4]) hF rfl (rv_t (by kernel_rfl) <| rv_nil) rfl ⟨rfl, hS⟩
  · refine reg [⟨false, [], vS (Instr.loadAt 125 (.pointer (some ⟨g1, 1, none⟩))), .slice A2 m2.length c2⟩] [none, some (.slice A2 m2.length c2), none, none] [1, 3, 7, 8, 9] [pl 1 (.pointer (some ⟨g1, 0, none⟩)), pl 3 (.int .i64 0), pl 7 (.slice A2 m2.length c2), pl 8 (.int .i64 (m2.length : Int)), pl 9 (.int .i64 0)] hF hS Fol (by kernel_rfl) (by kernel_rfl) (by kernel_rfl) ?_ (fun a w hF hS => ?_)
    · exact obs_cons (ob_load Agg125 (fun _ _ hS => (hS.at_ 0 rfl).cell rfl)) <| obs_nil
    refine wp_block ?_
    refine wp_loop_model (S := (Int × Int)) (R := Int) (rows_match_won_L1 m1 m2) (fun x => (rows_match_won_K1 x).bind some) r (fun (x : (Int × Int)) a w => Fr 20 [pl 1 (.pointer (some ⟨g1, 0, none⟩)), pl 3 (.int .i64 x.1), pl 7 (.slice A2 m2.length c2), pl 8 (.int .i64 (m2.length : Int)), pl 9 (.int .i64 x.2)] a ∧ Sep w0 B w (blk g1 161 #[.slice A1 m1.length c1, .slice A2 m2.length c2] :: fs)) (assoc_b hm) ⟨hF.weak [1, 3, 7, 8, 9] (by kernel_rfl), hS⟩ ?_
    clear hF hS hm
    rintro nn1 ⟨n3, z1⟩ a w ⟨hF, hS⟩ hm
    generalize hφ1 : stK (rows_match_won_L1 m1 m2) nn1 (fun x => (rows_match_won_K1 x).bind some) = φ1 at hm
    unfold rows_match_won_L1 at hm
    dsimp only at hF hS hm
    refine reg [] [] [1, 3, 7, 8, 9, 10] [pl 1 (.pointer (some ⟨g1, 0, none⟩)), pl 3 (.int .i64 n3), pl 7 (.slice A2 m2.length c2), pl 8 (.int .i64 (m2.length : Int)), pl 9 (.int .i64 z1), pl 10 (.bool (decide (z1 < (m2.length : Int))))] hF hS Fol (by kernel_rfl) (by kernel_rfl) (by kernel_rfl) ?_ (fun a w hF hS => ?_)
    · exact obs_nil
    refine seq_cut (fun a w => Fr 20 [pl 1 (.pointer (some ⟨g1, 0, none⟩)), pl 3 (.int .i64 n3), pl 7 (.slice A2 m2.length c2), pl 8 (.int .i64 (m2.length : Int)), pl 9 (.int .i64 z1)] a ∧ Sep w0 B w (blk g1 161 #[.slice A1 m1.length c1, .slice A2 m2.length c2] :: fs) ∧ ((rows_match_won_J2 m1 m2 n3 z1)).bind φ1 = some r) ?_ ?_
    · rintro a w ⟨hF, hS, hm⟩
      unfold rows_match_won_J2 at hm
      refine seq_cut (fun a w => ∃ (n5 : Int), Fr 20 [pl 1 (.pointer (some ⟨g1, 0, none⟩)), pl 3 (.int .i64 n5), pl 7 (.slice A2 m2.length c2), pl 8 (.int .i64 (m2.length : Int)), pl 9 (.int .i64 z1)] a ∧ Sep w0 B w (blk g1 161 #[.slice A1 m1.length c1, .slice A2 m2.length c2] :: fs) ∧ ((rows_match_won_J3 z1) n5).bind φ1 = some r) ?_ ?_
      · rintro a w ⟨n5, hF, hS, hm⟩
        unfold rows_match_won_J3 at hm
        refine reg1 [] [] [1, 3, 7, 8, 9] [pl 1 (.pointer (some ⟨g1, 0, none⟩)), pl 3 (.int .i64 n5), pl 7 (.slice A2 m2.length c2), pl 8 (.int .i64 (m2.length : Int)), pl 9 (.int .i64 (w64 (z1 + 1)))] hF hS Fol (by kernel_rfl) (by kernel_rfl) (by kernel_rfl) ?_ (fun a w hF hS => ?_)
        · exact obs_nil
        refine then_n ?_
        rw [← hφ1] at hm
        exact ⟨(n5, (w64 (z1 + 1))), ⟨hF.weak [1, 3, 7, 8, 9] (by kernel_rfl), hS⟩, hm⟩
      · refine wp_block ?_
        obtain ⟨hp1, hm⟩ := asrt_b hm
        refine reg [⟨true, [], vS (Instr.indexAt 125 (.slice A2 m2.length c2) (.int .i64 z1)), .pointer (some (sAddr A2 z1))⟩, ⟨false, [], vS (Instr.loadAt 40 (.pointer (some (sAddr A2 z1)))), .slice (hdA hd1 z1) ((geti2 m2 z1).length) (hdC hd1 z1)⟩] [some (.pointer (some (sAddr A2 z1))), some (.slice (hdA hd1 z1) ((geti2 m2 z1).length) (hdC hd1 z1)), none] [1, 3, 5, 7, 8, 9] [pl 1 (.pointer (some ⟨g1, 0, none⟩)), pl 3 (.int .i64 n3), pl 5 (.slice (hdA hd1 z1) ((geti2 m2 z1).length) (hdC hd1 z1)), pl 7 (.slice A2 m2.length c2), pl 8 (.int .i64 (m2.length : Int)), pl 9 (.int .i64 z1)] hF hS Fol (by kernel_rfl) (by kernel_rfl) (by kernel_rfl) ?_ (fun a w hF hS => ?_)
        · exact obs_cons (ob_ixRn Und125 hi40 hs40 (hr_m2 _ (hS.dropN 1)) rfl (fun _ => hp1)) <| obs_cons (ob_getR Agg40 (fun _ hS => ⟨_, (hr_m2 _ (hS.dropN 1))⟩) (fun _ => hp1)) <| obs_nil
        obtain ⟨r1, hr1, hm⟩ := call_b hm
        refine reg1 [⟨false, [], vS (Instr.loadAt 161 (.pointer (some ⟨g1, 0, none⟩))), .agg #[.slice A1 m1.length c1, .slice A2 m2.length c2]⟩, ⟨false, [], callFunc 165 #[.agg #[.slice A1 m1.length c1, .slice A2 m2.length c2], .slice (hdA hd1 z1) ((geti2 m2 z1).length) (hdC hd1 z1)], .int .i64 r1⟩] [none, some (.agg #[.slice A1 m1.length c1, .slice A2 m2.length c2]), none, some (.int .i64 r1), none, none] [1, 3, 7, 8, 9] [pl 1 (.pointer (some ⟨g1, 0, none⟩)), pl 3 (.int .i64 (bOr n3 r1)), pl 7 (.slice A2 m2.length c2), pl 8 (.int .i64 (m2.length : Int)), pl 9 (.int .i64 z1)] hF hS Fol (by kernel_rfl) (by kernel_rfl) (by kernel_rfl) ?_ (fun a w hF hS => ?_)
        · exact obs_cons (ob_loadA (cs := #[.slice A1 m1.length c1, .slice A2 m2.length c2]) (by kernel_rfl) (by kernel_rfl) (fun _ _ hS => (hS.at_ 0 rfl).cellsAt 0 (by rfl))) <| obs_cons (ob_call Try.func165 (by kernel_rfl) rfl (fun _ _ hS => rows_match_owner_w hr1 hS (fun _ hS => (hr_m1 _ (hS.dropN 1))) _hc_m1 rfl (fun _ hS => (hr_m2 _ (hS.dropN 1))) _hc_m2 rfl (fun _ hS => ((hr_m2 _ (hS.dropN 1)).row _ hp1).1) ((hr_m2 _ (hS.dropN 1)).row _ hp1).2 rfl)) <| obs_nil
        refine block_n ?_
        refine then_n ?_
        exact ⟨(bOr n3 r1), hF.weak [1, 3, 7, 8, 9] (by kernel_rfl), hS, hm⟩
    · refine cond_ev (t := 10) (b := decide (z1 < (m2.length : Int))) hF (by kernel_rfl) (fun hb => ?_) (fun hb => ?_)
      · replace hm := if_t hm hb
        refine wp_skip ?_
        refine then_n ?_
        exact ⟨hF.weak [1, 3, 7, 8, 9] (by kernel_rfl), hS, hm⟩
      · replace hm := if_f hm hb
        refine wp_exit ?_
        refine then_e (then_e (block_e (then_n ?_)))
        have hS := hS.pickN 1 [] (by decide)
        rw [← hφ1] at hm
        replace hm := done_b hm
        unfold rows_match_won_K1 at hm
        try dsimp only at hm
        have hm : (rows_match_won_J1 n3).bind some = some r := hm
        exact ⟨n3, hF.weak [3] (by kernel_rfl), hS, hm⟩

noncomputable def rows_match_value_2_J4 (z1 : Int) (m6 : List Int) (best3 : Int) (where3 : List Int) : Option (St (List Int × Int × List Int × Int) (Int × List Int × List Int)) :=
  some (.next (m6, best3, where3, (w64 (z1 + 1))))

noncomputable def rows_match_value_2_J6 (z1 : Int) (r2 : (Int × List Int × List Int)) (best4 : Int) (where4 : List Int) : Option (St (List Int × Int × List Int × Int) (Int × List Int × List Int)) :=
  if ((w64 (0 - r2.1)) == best4) then (asrt ((where4.length : Int) + 1 ≤ bigN) <| (rows_match_value_2_J4 z1) (r2.2.2.set (Int.toNat z1) 0) best4 (where4 ++ ([z1] : List Int))) else ((rows_match_value_2_J4 z1) (r2.2.2.set (Int.toNat z1) 0) best4 where4)

noncomputable def rows_match_value_2_J5 (rec_rows_match_value_2 : List Int → List (List Int) → Int → Option (Int × List Int × List Int)) (m1 : List Int) (m2 : List (List Int)) (who1 : Int) (m4 : List Int) (best1 : Int) (where1 : List Int) (z1 : Int) : Option (St (List Int × Int × List Int × Int) (Int × List Int × List Int)) :=
  asrt (0 ≤ z1 ∧ z1 < (m1.length : Int)) <| (rec_rows_match_value_2 (m4.set (Int.toNat z1) who1) m2 (w64 (3 - who1))).bind fun r2 => asrt (0 ≤ z1 ∧ z1 < (m1.length : Int)) <| if (decide (best1 < (w64 (0 - r2.1)))) then ((rows_match_value_2_J6 z1 r2) (w64 (0 - r2.1)) ([] : List Int)) else ((rows_match_value_2_J6 z1 r2) best1 where1)

noncomputable def rows_match_value_2_J3 (rec_rows_match_value_2 : List Int → List (List Int) → Int → Option (Int × List Int × List Int)) (m1 : List Int) (m2 : List (List Int)) (who1 : Int) (m4 : List Int) (best1 : Int) (where1 : List Int) (z1 : Int) : Option (St (List Int × Int × List Int × Int) (Int × List Int × List Int)) :=
  asrt (0 ≤ z1 ∧ z1 < (m1.length : Int)) <| if ((geti m4 z1) != 0) then ((rows_match_value_2_J4 z1) m4 best1 where1) else ((rows_match_value_2_J5 rec_rows_match_value_2 m1 m2 who1 m4 best1 where1 z1))

noncomputable def rows_match_value_2_J7 (best2 : Int) (where2 : List Int) (m5 : List Int) : Option (Int × List Int × List Int) :=
  some (best2, where2, m5)

noncomputable def rows_match_value_2_J2 (best2 : Int) (where2 : List Int) (m5 : List Int) : Option (Int × List Int × List Int) :=
  if (decide (best2 < (-1))) then (some (0, ([] : List Int), m5)) else ((rows_match_value_2_J7 best2 where2 m5))

noncomputable def rows_match_value_2_K1 : (Int × List Int × List Int) → Option (Int × List Int × List Int) :=
  fun (x : (Int × List Int × List Int)) => match x with | (best2, where2, m5) => rows_match_value_2_J2 best2 where2 m5

noncomputable def rows_match_value_2_L1 (rec_rows_match_value_2 : List Int → List (List Int) → Int → Option (Int × List Int × List Int)) (m1 : List Int) (m2 : List (List Int)) (who1 : Int) : (List Int × Int × List Int × Int) → Option (St (List Int × Int × List Int × Int) (Int × List Int × List Int)) :=
  fun (x : (List Int × Int × List Int × Int)) => match x with | (m4, best1, where1, z1) => if (decide (z1 < (m1.length : Int))) then ((rows_match_value_2_J3 rec_rows_match_value_2 m1 m2 who1 m4 best1 where1 z1)) else (some (.done (best1, where1, m4)))

noncomputable def rows_match_value_2_J1 (rec_rows_match_value_2 : List Int → List (List Int) → Int → Option (Int × List Int × List Int)) (m1 : List Int) (m2 : List (List Int)) (who1 : Int) : Option (Int × List Int × List Int) :=
  (loop (rows_match_value_2_L1 rec_rows_match_value_2 m1 m2 who1) (m1, (-2), ([] : List Int), 0)).bind rows_match_value_2_K1

noncomputable def rows_match_value_2_B (rec_rows_match_value_2 : List Int → List (List Int) → Int → Option (Int × List Int × List Int)) (m1 : List Int) (m2 : List (List Int)) (who1 : Int) : Option (Int × List Int × List Int) :=
  (rows_match_won_m m1 m2).bind fun r1 => if (r1 == 0) then ((rows_match_value_2_J1 rec_rows_match_value_2 m1 m2 who1)) else (if (r1 == who1) then (some (1, ([] : List Int), m1)) else (some ((-1), ([] : List Int), m1)))

noncomputable def rows_match_value_2_mF : Nat → List Int → List (List Int) → Int → Option (Int × List Int × List Int)
  | 0 => fun _ _ _ => none
  | n + 1 => fun m1 m2 who1 => rows_match_value_2_B (rows_match_value_2_mF n) m1 m2 who1

noncomputable def rows_match_value_2_m (m1 : List Int) (m2 : List (List Int)) (who1 : Int) : Option (Int × List Int × List Int) :=
  recM fun n => rows_match_value_2_mF n m1 m2 who1

set_option maxRecDepth 100000 in
set_option maxHeartbeats 4000000 in
theorem rows_match_value_2_wB {rec_rows_match_value_2 : List Int → List (List Int) → Int → Option (Int × List Int × List Int)} (ih_rows_match_value_2 : ∀ {A1 : Option Addr} {c1 : Nat} {n1 : Nat} {m1 : List Int} {A2 : Option Addr} {c2 : Nat} {n2 : Nat} {hd1 : List Hd} {m2 : List (List Int)} {who1 : Int} {r : (Int × List Int × List Int)} {w0 w : World} {B : Nat} {fs : List HP} (_ : rec_rows_match_value_2 m1 m2 who1 = some r) (_ : Sep w0 B w (own 3 (.slice A1 n1 c1) (vI m1) :: fs)) (hr_m2 : RdRowsF w0 B fs A2 hd1 m2) (_hc_m2 : m2.length ≤ c2) (_hn_m2 : n2 = m2.length), Calls Try.prog 115 #[.agg #[.slice A1 n1 c1, .slice A2 n2 c2], .int .i64 who1] w fun e w' => ∃ v, e = .returned v ∧ ∃ (A9 : Option Addr) (c9 : Nat), v = .tuple #[.int .i64 r.1, .slice A9 r.2.1.length c9] ∧ Sep w0 B w' (own 3 (.slice A1 n1 c1) (vI r.2.2) :: own 3 (.slice A9 r.2.1.length c9) (vI r.2.1) :: fs)) {A1 : Option Addr} {c1 : Nat} {n1 : Nat} {m1 : List Int} {A2 : Option Addr} {c2 : Nat} {n2 : Nat} {hd1 : List Hd} {m2 : List (List Int)} {who1 : Int} {r : (Int × List Int × List Int)} {w0 w : World} {B : Nat} {fs : List HP} (hm : rows_match_value_2_B rec_rows_match_value_2 m1 m2 who1 = some r) (hS : Sep w0 B w (own 3 (.slice A1 n1 c1) (vI m1) :: fs)) (hr_m2 : RdRowsF w0 B fs A2 hd1 m2) (_hc_m2 : m2.length ≤ c2) (_hn_m2 : n2 = m2.length) :
    Calls Try.prog 115 #[.agg #[.slice A1 n1 c1, .slice A2 n2 c2], .int .i64 who1] w fun e w' => ∃ v, e = .returned v ∧ ∃ (A9 : Option Addr) (c9 : Nat), v = .tuple #[.int .i64 r.1, .slice A9 r.2.1.length c9] ∧ Sep w0 B w' (own 3 (.slice A1 n1 c1) (vI r.2.2) :: own 3 (.slice A9 r.2.1.length c9) (vI r.2.1) :: fs) := by
  obtain ⟨i3, hi3, hz3, hs3, hb3⟩ := info_parts Info3
  obtain rfl := (hS.at_ 0 rfl).len1
  obtain rfl := _hn_m2
  unfold rows_match_value_2_B at hm
  replace hm := start_b hm
  refine enter (l := [.agg #[.slice A1 m1.length c1, .slice A2 m2.length c2], .int .i64 who1]) (n := 64) Try.func115 rfl rfl (by simp) (fun a hF => ?_)
  refine seqR ?_
  refine at_do (d := 2) (s := vS (Instr.box 161 (.agg #[.slice A1 m1.length c1, .slice A2 m2.length c2]))) (v := .pointer (some ⟨w.heap.size, 0, none⟩)) (w' := w.alloc (.cells #[.slice A1 m1.length c1, .slice A2 m2.length c2] 161)) hF (by kernel_rfl) (by kernel_rfl) (by kernel_rfl) (fun a hF => ?_)
  have hS : Sep w0 B (w.alloc (.cells #[.slice A1 m1.length c1, .slice A2 m2.length c2] 161)) (blk w.heap.size 161 #[.slice A1 m1.length c1, .slice A2 m2.length c2] :: (own 3 (.slice A1 m1.length c1) (vI m1) :: fs)) := hS.box 161 #[.slice A1 m1.length c1, .slice A2 m2.length c2]
  generalize w.heap.size = g1 at hF hS
  generalize w.alloc (.cells #[.slice A1 m1.length c1, .slice A2 m2.length c2] 161) = w at hS ⊢
  refine at_run 2 [] [] [1, 2] [pl 1 (.int .i64 who1), pl 2 (.pointer (some ⟨g1, 0, none⟩))] hF hS (by kernel_rfl) (by kernel_rfl) ?_ (fun a w hF hS => ?_)
  · exact obs_nil
  refine at_end [1, 2] [pl 1 (.int .i64 who1), pl 2 (.pointer (some ⟨g1, 0, none⟩))] hF rfl (by kernel_rfl) (fun hF => ?_)
  refine then_n ?_
  refine seq_cut (fun a w => Fr 64 [pl 1 (.int .i64 who1), pl 2 (.pointer (some ⟨g1, 0, none⟩))] a ∧ Sep w0 B w (blk g1 161 #[.slice A1 m1.length c1, .slice A2 m2.length c2] :: own 3 (.slice A1 m1.length c1) (vI m1) :: fs) ∧ ((rows_match_value_2_J1 rec_rows_match_value_2 m1 m2 who1)).bind some = some r) ?_ ?_
  · rintro a w ⟨hF, hS, hm⟩
    unfold rows_match_value_2_J1 at hm
    refine reg [] [] [1, 2, 6, 7] [pl 1 (.int .i64 who1), pl 2 (.pointer (some ⟨g1, 0, none⟩)), pl 6 (.int .i64 (-2)), pl 7 (.slice none 0 0)] hF hS Fol (by kernel_rfl) (by kernel_rfl) (by kernel_rfl) ?_ (fun a w hF hS => ?_)
    · exact obs_nil
    refine seq_cut (fun a w => ∃ (best2 : Int) (where2 : List Int) (m5 : List Int) (A4 : Option Addr) (c4 : Nat), Fr 64 [pl 6 (.int .i64 best2), pl 7 (.slice A4 where2.length c4)] a ∧ Sep w0 B w (own 3 (.slice A4 where2.length c4) (vI where2) :: own 3 (.slice A1 m1.length c1) (vI m5) :: fs) ∧ (rows_match_value_2_J2 best2 where2 m5).bind some = some r) ?_ ?_
    · rintro a w ⟨best2, where2, m5, A4, c4, hF, hS, hm⟩
      unfold rows_match_value_2_J2 at hm
      refine seq_cut (fun a w => Fr 64 [pl 6 (.int .i64 best2), pl 7 (.slice A4 where2.length c4)] a ∧ Sep w0 B w (own 3 (.slice A4 where2.length c4) (vI where2) :: own 3 (.slice A1 m1.length c1) (vI m5) :: fs) ∧ ((rows_match_value_2_J7 best2 where2 m5)).bind some = some r) ?_ ?_
      · rintro a w ⟨hF, hS, hm⟩
        unfold rows_match_value_2_J7 at hm
        refine reg [] [] [4, 5] [pl 4 (.int .i64 best2), pl 5 (.slice A4 where2.length c4)] hF hS Fol (by kernel_rfl) (by kernel_rfl) (by kernel_rfl) ?_ (fun a w hF hS => ?_)
        · exact obs_nil
        refine wp_ret ?_
        have hS := hS.pickN 2 [1, 0] (by decide)
        have hm : some (best2, where2, m5) = some r := hm
        obtain rfl := Option.some.inj hm
        exact retV (rs := [.tmp 4, .tmp 5]) (vs := [.int .i64 best2, .slice A4 where2.length c4]) hF rfl (rv_t (by kernel_rfl) <| rv_t (by kernel_rfl) <| rv_nil) rfl ⟨_, rfl, A4, c4, rfl, hS⟩
      · refine reg [] [] [6, 7, 61] [pl 6 (.int .i64 best2), pl 7 (.slice A4 where2.length c4), pl 61 (.bool (decide (best2 < (-1))))] hF hS Fol (by kernel_rfl) (by kernel_rfl) (by kernel_rfl) ?_ (fun a w hF hS => ?_)
        · exact obs_nil
        refine cond_ev (t := 61) (b := decide (best2 < (-1))) hF (by kernel_rfl) (fun hb => ?_) (fun hb => ?_)
        · replace hm := if_t hm hb
          refine reg [] [] [4, 5] [pl 4 (.int .i64 0), pl 5 (.slice none 0 0)] hF hS Fol (by kernel_rfl) (by kernel_rfl) (by kernel_rfl) ?_ (fun a w hF hS => ?_)
          · exact obs_nil
          refine wp_ret ?_
          refine then_r ?_
          have hS : Sep w0 B w (own 3 (.slice none 0 0) (vI ([] : List Int)) :: own 3 (.slice A4 where2.length c4) (vI where2) :: own 3 (.slice A1 m1.length c1) (vI m5) :: fs) := hS.nil 3
          have hl5 := (hS.at_ 0 rfl).len1
          have hS := (hS.at_ 0 rfl).reN hl5
          have hS : Sep w0 B w (own 3 (.slice none (([] : List Int).length) 0) (vI ([] : List Int)) :: own 3 (.slice A4 where2.length c4) (vI where2) :: own 3 (.slice A1 m1.length c1) (vI m5) :: fs) := hS
          have hS := hS.pickN 3 [2, 0] (by decide)
          have hm : some (0, ([] : List Int), m5) = some r := hm
          obtain rfl := Option.some.inj hm
          exact retV (rs := [.tmp 4, .tmp 5]) (vs := [.int .i64 0, .slice none (([] : List Int).length) 0]) hF rfl (rv_t (by kernel_rfl) <| rv_t (by kernel_rfl) <| rv_nil) rfl ⟨_, rfl, none, 0, rfl, hS⟩
        · replace hm := if_f hm hb
          refine wp_skip ?_
          refine then_n ?_
          exact ⟨hF.weak [6, 7] (by kernel_rfl), hS, hm⟩
    · refine reg [⟨false, [], vS (Instr.loadAt 40 (.pointer (some ⟨g1, 0, none⟩))), .slice A1 m1.length c1⟩] [none, some (.slice A1 m1.length c1), none, none] [1, 2, 6, 7, 20, 21, 22] [pl 1 (.int .i64 who1), pl 2 (.pointer (some ⟨g1, 0, none⟩)), pl 6 (.int .i64 (-2)), pl 7 (.slice none 0 0), pl 20 (.slice A1 m1.length c1), pl 21 (.int .i64 (m1.length : Int)), pl 22 (.int .i64 0)] hF hS Fol (by kernel_rfl) (by kernel_rfl) (by kernel_rfl) ?_ (fun a w hF hS => ?_)
      · exact obs_cons (ob_load Agg40 (fun _ _ hS => (hS.at_ 0 rfl).cell rfl)) <| obs_nil
      refine wp_block ?_
      have hS : Sep w0 B w (own 3 (.slice none 0 0) (vI ([] : List Int)) :: blk g1 161 #[.slice A1 m1.length c1, .slice A2 m2.length c2] :: own 3 (.slice A1 m1.length c1) (vI m1) :: fs) := hS.nil 3
      have hl3 := (hS.at_ 0 rfl).len1
      have hS := (hS.at_ 0 rfl).reN hl3
      have hS : Sep w0 B w (own 3 (.slice none (([] : List Int).length) 0) (vI ([] : List Int)) :: blk g1 161 #[.slice A1 m1.length c1, .slice A2 m2.length c2] :: own 3 (.slice A1 m1.length c1) (vI m1) :: fs) := hS
      have hF := hF.cast (t := 7) (v := .slice none 0 0) (v' := .slice none (([] : List Int).length) 0) rfl rfl (congrArg (fun k => Value.slice none k 0) hl3)
      have hS := hS.pickN 3 [1, 2, 0] (by decide)
      refine wp_loop_model (S := (List Int × Int × List Int × Int)) (R := (Int × List Int × List Int)) (rows_match_value_2_L1 rec_rows_match_value_2 m1 m2 who1) (fun x => (rows_match_value_2_K1 x).bind some) r (fun (x : (List Int × Int × List Int × Int)) a w => ∃ (A3 : Option Addr) (c3 : Nat), Fr 64 [pl 1 (.int .i64 who1), pl 2 (.pointer (some ⟨g1, 0, none⟩)), pl 6 (.int .i64 x.2.1), pl 7 (.slice A3 x.2.2.1.length c3), pl 20 (.slice A1 m1.length c1), pl 21 (.int .i64 (m1.length : Int)), pl 22 (.int .i64 x.2.2.2)] a ∧ Sep w0 B w (blk g1 161 #[.slice A1 m1.length c1, .slice A2 m2.length c2] :: own 3 (.slice A1 m1.length c1) (vI x.1) :: own 3 (.slice A3 x.2.2.1.length c3) (vI x.2.2.1) :: fs)) (assoc_b hm) ⟨none, 0, hF.weak [1, 2, 6, 7, 20, 21, 22] (by kernel_rfl), hS⟩ ?_
      clear hF hS hm
      rintro nn1 ⟨m4, best1, where1, z1⟩ a w ⟨A3, c3, hF, hS⟩ hm
      generalize hφ1 : stK (rows_match_value_2_L1 rec_rows_match_value_2 m1 m2 who1) nn1 (fun x => (rows_match_value_2_K1 x).bind some) = φ1 at hm
      unfold rows_match_value_2_L1 at hm
      dsimp only at hF hS hm
      refine reg [] [] [1, 2, 6, 7, 20, 21, 22, 23] [pl 1 (.int .i64 who1), pl 2 (.pointer (some ⟨g1, 0, none⟩)), pl 6 (.int .i64 best1), pl 7 (.slice A3 where1.length c3), pl 20 (.slice A1 m1.length c1), pl 21 (.int .i64 (m1.length : Int)), pl 22 (.int .i64 z1), pl 23 (.bool (decide (z1 < (m1.length : Int))))] hF hS Fol (by kernel_rfl) (by kernel_rfl) (by kernel_rfl) ?_ (fun a w hF hS => ?_)
      · exact obs_nil
      refine seq_cut (fun a w => Fr 64 [pl 1 (.int .i64 who1), pl 2 (.pointer (some ⟨g1, 0, none⟩)), pl 6 (.int .i64 best1), pl 7 (.slice A3 where1.length c3), pl 20 (.slice A1 m1.length c1), pl 21 (.int .i64 (m1.length : Int)), pl 22 (.int .i64 z1)] a ∧ Sep w0 B w (blk g1 161 #[.slice A1 m1.length c1, .slice A2 m2.length c2] :: own 3 (.slice A1 m1.length c1) (vI m4) :: own 3 (.slice A3 where1.length c3) (vI where1) :: fs) ∧ ((rows_match_value_2_J3 rec_rows_match_value_2 m1 m2 who1 m4 best1 where1 z1)).bind φ1 = some r) ?_ ?_
      · rintro a w ⟨hF, hS, hm⟩
        unfold rows_match_value_2_J3 at hm
        refine seq_cut (fun a w => ∃ (m6 : List Int) (best3 : Int) (where3 : List Int) (A5 : Option Addr) (c5 : Nat), Fr 64 [pl 1 (.int .i64 who1), pl 2 (.pointer (some ⟨g1, 0, none⟩)), pl 6 (.int .i64 best3), pl 7 (.slice A5 where3.length c5), pl 20 (.slice A1 m1.length c1), pl 21 (.int .i64 (m1.length : Int)), pl 22 (.int .i64 z1)] a ∧ Sep w0 B w (blk g1 161 #[.slice A1 m1.length c1, .slice A2 m2.length c2] :: own 3 (.slice A1 m1.length c1) (vI m6) :: own 3 (.slice A5 where3.length c5) (vI where3) :: fs) ∧ ((rows_match_value_2_J4 z1) m6 best3 where3).bind φ1 = some r) ?_ ?_
        · rintro a w ⟨m6, best3, where3, A5, c5, hF, hS, hm⟩
          unfold rows_match_value_2_J4 at hm
          refine reg1 [] [] [1, 2, 6, 7, 20, 21, 22] [pl 1 (.int .i64 who1), pl 2 (.pointer (some ⟨g1, 0, none⟩)), pl 6 (.int .i64 best3), pl 7 (.slice A5 where3.length c5), pl 20 (.slice A1 m1.length c1), pl 21 (.int .i64 (m1.length : Int)), pl 22 (.int .i64 (w64 (z1 + 1)))] hF hS Fol (by kernel_rfl) (by kernel_rfl) (by kernel_rfl) ?_ (fun a w hF hS => ?_)
          · exact obs_nil
          refine then_n ?_
          rw [← hφ1] at hm
          exact ⟨(m6, best3, where3, (w64 (z1 + 1))), ⟨A5, c5, hF.weak [1, 2, 6, 7, 20, 21, 22] (by kernel_rfl), hS⟩, hm⟩
        · refine wp_block ?_
          obtain ⟨hp1, hm⟩ := asrt_b hm
          refine reg [⟨true, [], vS (Instr.indexAt 40 (.slice A1 m1.length c1) (.int .i64 z1)), .pointer (some (sAddr A1 z1))⟩, ⟨false, [], vS (Instr.loadAt 3 (.pointer (some (sAddr A1 z1)))), .int .i64 (geti m4 z1)⟩] [none, some (.pointer (some (sAddr A1 z1))), some (.int .i64 (geti m4 z1)), none, none] [1, 2, 6, 7, 8, 9, 20, 21, 22] [pl 1 (.int .i64 who1), pl 2 (.pointer (some ⟨g1, 0, none⟩)), pl 6 (.int .i64 best1), pl 7 (.slice A3 where1.length c3), pl 8 (.int .i64 z1), pl 9 (.int .i64 (geti m4 z1)), pl 20 (.slice A1 m1.length c1), pl 21 (.int .i64 (m1.length : Int)), pl 22 (.int .i64 z1)] hF hS Fol (by kernel_rfl) (by kernel_rfl) (by kernel_rfl) ?_ (fun a w hF hS => ?_)
          · exact obs_cons (ob_ix1 (f := (Value.int .i64)) (m := m4) Und40 hi3 hs3 (hS.at_ 1 rfl).rd ((hS.at_ 1 rfl).len1) (fun _ => hp1)) <| obs_cons (ob_get1 (n := m1.length) (m := m4) (Value.int .i64) (0 : Int) Agg3 (fun _ hS => ⟨_, (hS.at_ 1 rfl).rd⟩) (fun _ hS => ((hS.at_ 1 rfl).len1)) (fun _ => hp1)) <| obs_nil
          refine seq_cut (fun a w => Fr 64 [pl 1 (.int .i64 who1), pl 2 (.pointer (some ⟨g1, 0, none⟩)), pl 6 (.int .i64 best1), pl 7 (.slice A3 where1.length c3), pl 8 (.int .i64 z1), pl 20 (.slice A1 m1.length c1), pl 21 (.int .i64 (m1.length : Int)), pl 22 (.int .i64 z1)] a ∧ Sep w0 B w (blk g1 161 #[.slice A1 m1.length c1, .slice A2 m2.length c2] :: own 3 (.slice A1 m1.length c1) (vI m4) :: own 3 (.slice A3 where1.length c3) (vI where1) :: fs) ∧ ((rows_match_value_2_J5 rec_rows_match_value_2 m1 m2 who1 m4 best1 where1 z1)).bind φ1 = some r) ?_ ?_
          · rintro a w ⟨hF, hS, hm⟩
            unfold rows_match_value_2_J5 at hm
            refine seqR ?_
            obtain ⟨hp2, hm⟩ := asrt_b hm
            refine at_run 5 [⟨false, [], vS (Instr.loadAt 40 (.pointer (some ⟨g1, 0, none⟩))), .slice A1 m1.length c1⟩, ⟨true, [], vS (Instr.indexAt 40 (.slice A1 m1.length c1) (.int .i64 z1)), .pointer (some (sAddr A1 z1))⟩] [none, some (.slice A1 m1.length c1), none, none, some (.pointer (some (sAddr A1 z1)))] [1, 2, 6, 7, 8, 20, 21, 22, 32, 33] [pl 1 (.int .i64 who1), pl 2 (.pointer (some ⟨g1, 0, none⟩)), pl 6 (.int .i64 best1), pl 7 (.slice A3 where1.length c3), pl 8 (.int .i64 z1), pl 20 (.slice A1 m1.length c1), pl 21 (.int .i64 (m1.length : Int)), pl 22 (.int .i64 z1), pl 32 (.int .i64 who1), pl 33 (.pointer (some (sAddr A1 z1)))] hF hS (by kernel_rfl) (by kernel_rfl) ?_ (fun a w hF hS => ?_)
            · exact obs_cons (ob_load Agg40 (fun _ _ hS => (hS.at_ 0 rfl).cell rfl)) <| obs_cons (ob_ix1 (f := (Value.int .i64)) (m := m4) Und40 hi3 hs3 (hS.at_ 1 rfl).rd ((hS.at_ 1 rfl).len1) (fun _ => hp2)) <| obs_nil
            obtain ⟨w, hrun, hS⟩ := run_set1 (P := Try.prog) (t := 3) (x := who1) (Value.int .i64) (hS.at_ 1 rfl) hi3 hs3 rfl rfl hp2
            refine at_skip hF (by kernel_rfl) hrun ?_
            have hS : Sep w0 B w (blk g1 161 #[.slice A1 m1.length c1, .slice A2 m2.length c2] :: own 3 (.slice A1 m1.length c1) (vI (m4.set (Int.toNat z1) who1)) :: own 3 (.slice A3 where1.length c3) (vI where1) :: fs) := hS
            refine at_end [1, 2, 6, 7, 8, 20, 21, 22] [pl 1 (.int .i64 who1), pl 2 (.pointer (some ⟨g1, 0, none⟩)), pl 6 (.int .i64 best1), pl 7 (.slice A3 where1.length c3), pl 8 (.int .i64 z1), pl 20 (.slice A1 m1.length c1), pl 21 (.int .i64 (m1.length : Int)), pl 22 (.int .i64 z1)] hF rfl (by kernel_rfl) (fun hF => ?_)
            refine then_n ?_
            refine seqR ?_
            obtain ⟨r2, hr2, hm⟩ := call_b hm
            refine at_run 3 [⟨false, [], vS (Instr.loadAt 161 (.pointer (some ⟨g1, 0, none⟩))), .agg #[.slice A1 m1.length c1, .slice A2 m2.length c2]⟩] [some (.agg #[.slice A1 m1.length c1, .slice A2 m2.length c2]), none, none] [1, 2, 6, 7, 8, 20, 21, 22, 35, 37] [pl 1 (.int .i64 who1), pl 2 (.pointer (some ⟨g1, 0, none⟩)), pl 6 (.int .i64 best1), pl 7 (.slice A3 where1.length c3), pl 8 (.int .i64 z1), pl 20 (.slice A1 m1.length c1), pl 21 (.int .i64 (m1.length : Int)), pl 22 (.int .i64 z1), pl 35 (.agg #[.slice A1 m1.length c1, .slice A2 m2.length c2]), pl 37 (.int .i64 (w64 (3 - who1)))] hF hS (by kernel_rfl) (by kernel_rfl) ?_ (fun a w hF hS => ?_)
            · exact obs_cons (ob_loadA (cs := #[.slice A1 m1.length c1, .slice A2 m2.length c2]) (by kernel_rfl) (by kernel_rfl) (fun _ _ hS => (hS.at_ 0 rfl).cellsAt 0 (by rfl))) <| obs_nil
            have hS : Sep w0 B w (own 3 (.slice A1 m1.length c1) (vI (m4.set (Int.toNat z1) who1)) :: blk g1 161 #[.slice A1 m1.length c1, .slice A2 m2.length c2] :: own 3 (.slice A3 where1.length c3) (vI where1) :: fs) := hS.pickN 3 [1, 0, 2] (by decide)
            refine at_call (f := 115) (args := #[.agg #[.slice A1 m1.length c1, .slice A2 m2.length c2], .int .i64 (w64 (3 - who1))]) (d := 38) hF (by kernel_rfl) (by kernel_rfl) Try.func115 (by kernel_rfl) rfl (ih_rows_match_value_2 hr2 hS (fun _ hS => (hr_m2 _ (hS.dropN 2))) _hc_m2 rfl) (fun v a w hR hF => ?_)
            clear hS
            obtain ⟨A6, c6, rfl, hS⟩ := hR
            have hS : Sep w0 B w (own 3 (.slice A1 m1.length c1) (vI r2.2.2) :: own 3 (.slice A6 r2.2.1.length c6) (vI r2.2.1) :: blk g1 161 #[.slice A1 m1.length c1, .slice A2 m2.length c2] :: own 3 (.slice A3 where1.length c3) (vI where1) :: fs) := hS
            refine at_run 5 [] [] [1, 2, 6, 7, 8, 10, 20, 21, 22] [pl 1 (.int .i64 who1), pl 2 (.pointer (some ⟨g1, 0, none⟩)), pl 6 (.int .i64 best1), pl 7 (.slice A3 where1.length c3), pl 8 (.int .i64 z1), pl 10 (.int .i64 r2.1), pl 20 (.slice A1 m1.length c1), pl 21 (.int .i64 (m1.length : Int)), pl 22 (.int .i64 z1)] hF hS (by kernel_rfl) (by kernel_rfl) ?_ (fun a w hF hS => ?_)
            · exact obs_nil
            refine at_end [1, 2, 6, 7, 8, 10, 20, 21, 22] [pl 1 (.int .i64 who1), pl 2 (.pointer (some ⟨g1, 0, none⟩)), pl 6 (.int .i64 best1), pl 7 (.slice A3 where1.length c3), pl 8 (.int .i64 z1), pl 10 (.int .i64 r2.1), pl 20 (.slice A1 m1.length c1), pl 21 (.int .i64 (m1.length : Int)), pl 22 (.int .i64 z1)] hF rfl (by kernel_rfl) (fun hF => ?_)
            refine then_n ?_
            refine seqR ?_
            obtain ⟨hp3, hm⟩ := asrt_b hm
            refine at_run 4 [⟨false, [], vS (Instr.loadAt 40 (.pointer (some ⟨g1, 0, none⟩))), .slice A1 m1.length c1⟩, ⟨true, [], vS (Instr.indexAt 40 (.slice A1 m1.length c1) (.int .i64 z1)), .pointer (some (sAddr A1 z1))⟩] [none, some (.slice A1 m1.length c1), none, some (.pointer (some (sAddr A1 z1)))] [1, 2, 6, 7, 8, 10, 20, 21, 22, 44] [pl 1 (.int .i64 who1), pl 2 (.pointer (some ⟨g1, 0, none⟩)), pl 6 (.int .i64 best1), pl 7 (.slice A3 where1.length c3), pl 8 (.int .i64 z1), pl 10 (.int .i64 r2.1), pl 20 (.slice A1 m1.length c1), pl 21 (.int .i64 (m1.length : Int)), pl 22 (.int .i64 z1), pl 44 (.pointer (some (sAddr A1 z1)))] hF hS (by kernel_rfl) (by kernel_rfl) ?_ (fun a w hF hS => ?_)
            · exact obs_cons (ob_load Agg40 (fun _ _ hS => (hS.at_ 2 rfl).cell rfl)) <| obs_cons (ob_ix1 (f := (Value.int .i64)) (m := r2.2.2) Und40 hi3 hs3 (hS.at_ 0 rfl).rd ((hS.at_ 0 rfl).len1) (fun _ => hp3)) <| obs_nil
            obtain ⟨w, hrun, hS⟩ := run_set1 (P := Try.prog) (t := 3) (x := 0) (Value.int .i64) (hS.at_ 0 rfl) hi3 hs3 rfl rfl hp3
            refine at_skip hF (by kernel_rfl) hrun ?_
            have hS : Sep w0 B w (own 3 (.slice A1 m1.length c1) (vI (r2.2.2.set (Int.toNat z1) 0)) :: own 3 (.slice A6 r2.2.1.length c6) (vI r2.2.1) :: blk g1 161 #[.slice A1 m1.length c1, .slice A2 m2.length c2] :: own 3 (.slice A3 where1.length c3) (vI where1) :: fs) := hS
            refine at_end [1, 2, 6, 7, 8, 10, 20, 21, 22] [pl 1 (.int .i64 who1), pl 2 (.pointer (some ⟨g1, 0, none⟩)), pl 6 (.int .i64 best1), pl 7 (.slice A3 where1.length c3), pl 8 (.int .i64 z1), pl 10 (.int .i64 r2.1), pl 20 (.slice A1 m1.length c1), pl 21 (.int .i64 (m1.length : Int)), pl 22 (.int .i64 z1)] hF rfl (by kernel_rfl) (fun hF => ?_)
            refine then_n ?_
            refine seq_cut (fun a w => ∃ (best4 : Int) (where4 : List Int) (A7 : Option Addr) (c7 : Nat), Fr 64 [pl 1 (.int .i64 who1), pl 2 (.pointer (some ⟨g1, 0, none⟩)), pl 6 (.int .i64 best4), pl 7 (.slice A7 where4.length c7), pl 8 (.int .i64 z1), pl 10 (.int .i64 r2.1), pl 20 (.slice A1 m1.length c1), pl 21 (.int .i64 (m1.length : Int)), pl 22 (.int .i64 z1)] a ∧ Sep w0 B w (blk g1 161 #[.slice A1 m1.length c1, .slice A2 m2.length c2] :: own 3 (.slice A1 m1.length c1) (vI (r2.2.2.set (Int.toNat z1) 0)) :: own 3 (.slice A7 where4.length c7) (vI where4) :: fs) ∧ ((rows_match_value_2_J6 z1 r2) best4 where4).bind φ1 = some r) ?_ ?_
            · rintro a w ⟨best4, where4, A7, c7, hF, hS, hm⟩
              unfold rows_match_value_2_J6 at hm
              refine reg [] [] [1, 2, 6, 7, 8, 20, 21, 22, 54] [pl 1 (.int .i64 who1), pl 2 (.pointer (some ⟨g1, 0, none⟩)), pl 6 (.int .i64 best4), pl 7 (.slice A7 where4.length c7), pl 8 (.int .i64 z1), pl 20 (.slice A1 m1.length c1), pl 21 (.int .i64 (m1.length : Int)), pl 22 (.int .i64 z1), pl 54 (.bool ((w64 (0 - r2.1)) == best4))] hF hS Fol (by kernel_rfl) (by kernel_rfl) (by kernel_rfl) ?_ (fun a w hF hS => ?_)
              · exact obs_nil
              refine cond_ev (t := 54) (b := ((w64 (0 - r2.1)) == best4)) hF (by kernel_rfl) (fun hb => ?_) (fun hb => ?_)
              · replace hm := if_t hm hb
                refine oneR ?_
                obtain ⟨hp4, hm⟩ := asrt_b hm
                refine at_run 2 [] [] [1, 2, 6, 20, 21, 22, 55, 56] [pl 1 (.int .i64 who1), pl 2 (.pointer (some ⟨g1, 0, none⟩)), pl 6 (.int .i64 best4), pl 20 (.slice A1 m1.length c1), pl 21 (.int .i64 (m1.length : Int)), pl 22 (.int .i64 z1), pl 55 (.slice A7 where4.length c7), pl 56 (.int .i64 z1)] hF hS (by kernel_rfl) (by kernel_rfl) ?_ (fun a w hF hS => ?_)
                · exact obs_nil
                refine at_do (d := 57) (s := vS (Instr.buildSlice 40 1 #[(0, .int .i64 z1)])) (v := .slice (some ⟨w.heap.size, 0, none⟩) 1 1) (w' := w.alloc (.cells #[.int .i64 z1] 3)) hF (by kernel_rfl) (by kernel_rfl) (by kernel_rfl) (fun a hF => ?_)
                have hS : Sep w0 B (w.alloc (.cells #[.int .i64 z1] 3)) (own 3 (.slice (some (⟨w.heap.size, 0, none⟩ : Addr)) 1 1) (vI ([z1] : List Int)) :: (blk g1 161 #[.slice A1 m1.length c1, .slice A2 m2.length c2] :: own 3 (.slice A1 m1.length c1) (vI (r2.2.2.set (Int.toNat z1) 0)) :: own 3 (.slice A7 where4.length c7) (vI where4) :: fs)) := hS.lit 3 #[.int .i64 z1] 1 rfl (by omega)
                generalize (some (⟨w.heap.size, 0, none⟩ : Addr)) = g2 at hF hS
                generalize w.alloc (.cells #[.int .i64 z1] 3) = w at hS ⊢
                obtain ⟨A8, c8, w, hrun, hS⟩ := run_app1 (P := Try.prog) (t := 40) (m := where4) (ys := ([z1] : List Int)) (A2 := g2) (m2 := 1) (c2 := 1) (Value.int .i64) (0 : Int) (hS.at_ 3 rfl) (hS.at_ 0 rfl).rd ((hS.at_ 0 rfl).len1) 40 Und40 hi3 hz3 hs3 (by omega) rfl (fun _ => rfl) hp4
                have hS : Sep w0 B w (own 3 (.slice g2 1 1) (vI ([z1] : List Int)) :: blk g1 161 #[.slice A1 m1.length c1, .slice A2 m2.length c2] :: own 3 (.slice A1 m1.length c1) (vI (r2.2.2.set (Int.toNat z1) 0)) :: own 3 (.slice A8 ((where4 ++ ([z1] : List Int)).length) c8) (vI (where4 ++ ([z1] : List Int))) :: fs) := hS
                refine at_do (d := 58) hF (by kernel_rfl) (by kernel_rfl) hrun (fun a hF => ?_)
                refine at_run 1 [] [] [1, 2, 6, 7, 20, 21, 22] [pl 1 (.int .i64 who1), pl 2 (.pointer (some ⟨g1, 0, none⟩)), pl 6 (.int .i64 best4), pl 7 (.slice A8 ((where4 ++ ([z1] : List Int)).length) c8), pl 20 (.slice A1 m1.length c1), pl 21 (.int .i64 (m1.length : Int)), pl 22 (.int .i64 z1)] hF hS (by kernel_rfl) (by kernel_rfl) ?_ (fun a w hF hS => ?_)
                · exact obs_nil
                refine at_end [1, 2, 6, 7, 20, 21, 22] [pl 1 (.int .i64 who1), pl 2 (.pointer (some ⟨g1, 0, none⟩)), pl 6 (.int .i64 best4), pl 7 (.slice A8 ((where4 ++ ([z1] : List Int)).length) c8), pl 20 (.slice A1 m1.length c1), pl 21 (.int .i64 (m1.length : Int)), pl 22 (.int .i64 z1)] hF rfl (by kernel_rfl) (fun hF => ?_)
                refine block_n ?_
                refine then_n ?_
                have hS := hS.pickN 4 [1, 2, 3] (by decide)
                exact ⟨(r2.2.2.set (Int.toNat z1) 0), best4, (where4 ++ ([z1] : List Int)), A8, c8, hF.weak [1, 2, 6, 7, 20, 21, 22] (by kernel_rfl), hS, hm⟩
              · replace hm := if_f hm hb
                refine wp_skip ?_
                refine block_n ?_
                refine then_n ?_
                exact ⟨(r2.2.2.set (Int.toNat z1) 0), best4, where4, A7, c7, hF.weak [1, 2, 6, 7, 20, 21, 22] (by kernel_rfl), hS, hm⟩
            · refine reg [] [] [1, 2, 6, 7, 8, 10, 20, 21, 22, 48] [pl 1 (.int .i64 who1), pl 2 (.pointer (some ⟨g1, 0, none⟩)), pl 6 (.int .i64 best1), pl 7 (.slice A3 where1.length c3), pl 8 (.int .i64 z1), pl 10 (.int .i64 r2.1), pl 20 (.slice A1 m1.length c1), pl 21 (.int .i64 (m1.length : Int)), pl 22 (.int .i64 z1), pl 48 (.bool (decide (best1 < (w64 (0 - r2.1)))))] hF hS Fol (by kernel_rfl) (by kernel_rfl) (by kernel_rfl) ?_ (fun a w hF hS => ?_)
              · exact obs_nil
              refine cond_ev (t := 48) (b := decide (best1 < (w64 (0 - r2.1)))) hF (by kernel_rfl) (fun hb => ?_) (fun hb => ?_)
              · replace hm := if_t hm hb
                refine reg1 [] [] [1, 2, 6, 7, 8, 10, 20, 21, 22] [pl 1 (.int .i64 who1), pl 2 (.pointer (some ⟨g1, 0, none⟩)), pl 6 (.int .i64 (w64 (0 - r2.1))), pl 7 (.slice none 0 0), pl 8 (.int .i64 z1), pl 10 (.int .i64 r2.1), pl 20 (.slice A1 m1.length c1), pl 21 (.int .i64 (m1.length : Int)), pl 22 (.int .i64 z1)] hF hS Fol (by kernel_rfl) (by kernel_rfl) (by kernel_rfl) ?_ (fun a w hF hS => ?_)
                · exact obs_nil
                refine then_n ?_
                have hS : Sep w0 B w (own 3 (.slice none 0 0) (vI ([] : List Int)) :: own 3 (.slice A1 m1.length c1) (vI (r2.2.2.set (Int.toNat z1) 0)) :: own 3 (.slice A6 r2.2.1.length c6) (vI r2.2.1) :: blk g1 161 #[.slice A1 m1.length c1, .slice A2 m2.length c2] :: own 3 (.slice A3 where1.length c3) (vI where1) :: fs) := hS.nil 3
                have hl4 := (hS.at_ 0 rfl).len1
                have hS := (hS.at_ 0 rfl).reN hl4
                have hS : Sep w0 B w (own 3 (.slice none (([] : List Int).length) 0) (vI ([] : List Int)) :: own 3 (.slice A1 m1.length c1) (vI (r2.2.2.set (Int.toNat z1) 0)) :: own 3 (.slice A6 r2.2.1.length c6) (vI r2.2.1) :: blk g1 161 #[.slice A1 m1.length c1, .slice A2 m2.length c2] :: own 3 (.slice A3 where1.length c3) (vI where1) :: fs) := hS
                have hF := hF.cast (t := 7) (v := .slice none 0 0) (v' := .slice none (([] : List Int).length) 0) rfl rfl (congrArg (fun k => Value.slice none k 0) hl4)
                have hS := hS.pickN 5 [3, 1, 0] (by decide)
                exact ⟨(w64 (0 - r2.1)), ([] : List Int), none, 0, hF.weak [1, 2, 6, 7, 8, 10, 20, 21, 22] (by kernel_rfl), hS, hm⟩
              · replace hm := if_f hm hb
                refine wp_skip ?_
                refine then_n ?_
                have hS := hS.pickN 4 [2, 0, 3] (by decide)
                exact ⟨best1, where1, A3, c3, hF.weak [1, 2, 6, 7, 8, 10, 20, 21, 22] (by kernel_rfl), hS, hm⟩
          · refine reg [] [] [1, 2, 6, 7, 8, 20, 21, 22, 28] [pl 1 (.int .i64 who1), pl 2 (.pointer (some ⟨g1, 0, none⟩)), pl 6 (.int .i64 best1), pl 7 (.slice A3 where1.length c3), pl 8 (.int .i64 z1), pl 20 (.slice A1 m1.length c1), pl 21 (.int .i64 (m1.length : Int)), pl 22 (.int .i64 z1), pl 28 (.bool ((geti m4 z1) != 0))] hF hS Fol (by kernel_rfl) (by kernel_rfl) (by kernel_rfl) ?_ (fun a w hF hS => ?_)
            · exact obs_nil
            refine cond_ev (t := 28) (b := ((geti m4 z1) != 0)) hF (by kernel_rfl) (fun hb => ?_) (fun hb => ?_)
            · replace hm := if_t hm hb
              refine wp_exit ?_
              refine then_e (block_e (then_n ?_))
              exact ⟨m4, best1, where1, A3, c3, hF.weak [1, 2, 6, 7, 20, 21, 22] (by kernel_rfl), hS, hm⟩
            · replace hm := if_f hm hb
              refine wp_skip ?_
              refine then_n ?_
              exact ⟨hF.weak [1, 2, 6, 7, 8, 20, 21, 22] (by kernel_rfl), hS, hm⟩
      · refine cond_ev (t := 23) (b := decide (z1 < (m1.length : Int))) hF (by kernel_rfl) (fun hb => ?_) (fun hb => ?_)
        · replace hm := if_t hm hb
          refine wp_skip ?_
          refine then_n ?_
          exact ⟨hF.weak [1, 2, 6, 7, 20, 21, 22] (by kernel_rfl), hS, hm⟩
        · replace hm := if_f hm hb
          refine wp_exit ?_
          refine then_e (then_e (block_e (then_n ?_)))
          have hS := hS.pickN 3 [2, 1] (by decide)
          rw [← hφ1] at hm
          replace hm := done_b hm
          unfold rows_match_value_2_K1 at hm
          try dsimp only at hm
          have hm : (rows_match_value_2_J2 best1 where1 m4).bind some = some r := hm
          exact ⟨best1, where1, m4, A3, c3, hF.weak [6, 7] (by kernel_rfl), hS, hm⟩
  · obtain ⟨r1, hr1, hm⟩ := call_b hm
    refine reg [⟨false, [], vS (Instr.loadAt 161 (.pointer (some ⟨g1, 0, none⟩))), .agg #[.slice A1 m1.length c1, .slice A2 m2.length c2]⟩, ⟨false, [], callFunc 148 #[.agg #[.slice A1 m1.length c1, .slice A2 m2.length c2]], .int .i64 r1⟩] [some (.agg #[.slice A1 m1.length c1, .slice A2 m2.length c2]), some (.int .i64 r1)] [1, 2, 13] [pl 1 (.int .i64 who1), pl 2 (.pointer (some ⟨g1, 0, none⟩)), pl 13 (.int .i64 r1)] hF hS Fol (by kernel_rfl) (by kernel_rfl) (by kernel_rfl) ?_ (fun a w hF hS => ?_)
    · exact obs_cons (ob_loadA (cs := #[.slice A1 m1.length c1, .slice A2 m2.length c2]) (by kernel_rfl) (by kernel_rfl) (fun _ _ hS => (hS.at_ 0 rfl).cellsAt 0 (by rfl))) <| obs_cons (ob_call Try.func148 (by kernel_rfl) rfl (fun _ _ hS => rows_match_won_w hr1 hS (fun _ hS => (hS.at_ 1 rfl).rd) ((hS.at_ 1 rfl).cap1) rfl (fun _ hS => (hr_m2 _ (hS.dropN 2))) _hc_m2 rfl)) <| obs_nil
    refine wp_block ?_
    refine reg [] [] [1, 2, 13, 14] [pl 1 (.int .i64 who1), pl 2 (.pointer (some ⟨g1, 0, none⟩)), pl 13 (.int .i64 r1), pl 14 (.bool (r1 == 0))] hF hS Fol (by kernel_rfl) (by kernel_rfl) (by kernel_rfl) ?_ (fun a w hF hS => ?_)
    · exact obs_nil
    refine cond_ev (t := 14) (b := (r1 == 0)) hF (by kernel_rfl) (fun hb => ?_) (fun hb => ?_)
    · replace hm := if_t hm hb
      refine wp_skip ?_
      refine block_n ?_
      refine then_n ?_
      exact ⟨hF.weak [1, 2] (by kernel_rfl), hS, hm⟩
    · replace hm := if_f hm hb
      refine reg [] [] [16] [pl 16 (.bool (r1 == who1))] hF hS Fol (by kernel_rfl) (by kernel_rfl) (by kernel_rfl) ?_ (fun a w hF hS => ?_)
      · exact obs_nil
      refine cond_ev (t := 16) (b := (r1 == who1)) hF (by kernel_rfl) (fun hb => ?_) (fun hb => ?_)
      · replace hm := if_t hm hb
        refine reg [] [] [4, 5] [pl 4 (.int .i64 1), pl 5 (.slice none 0 0)] hF hS Fol (by kernel_rfl) (by kernel_rfl) (by kernel_rfl) ?_ (fun a w hF hS => ?_)
        · exact obs_nil
        refine wp_ret ?_
        refine block_r (then_r ?_)
        have hS : Sep w0 B w (own 3 (.slice none 0 0) (vI ([] : List Int)) :: blk g1 161 #[.slice A1 m1.length c1, .slice A2 m2.length c2] :: own 3 (.slice A1 m1.length c1) (vI m1) :: fs) := hS.nil 3
        have hl1 := (hS.at_ 0 rfl).len1
        have hS := (hS.at_ 0 rfl).reN hl1
        have hS : Sep w0 B w (own 3 (.slice none (([] : List Int).length) 0) (vI ([] : List Int)) :: blk g1 161 #[.slice A1 m1.length c1, .slice A2 m2.length c2] :: own 3 (.slice A1 m1.length c1) (vI m1) :: fs) := hS
        have hS := hS.pickN 3 [2, 0] (by decide)
        have hm : some (1, ([] : List Int), m1) = some r := hm
        obtain rfl := Option.some.inj hm
        exact retV (rs := [.tmp 4, .tmp 5]) (vs := [.int .i64 1, .slice none (([] : List Int).length) 0]) hF rfl (rv_t (by kernel_rfl) <| rv_t (by kernel_rfl) <| rv_nil) rfl ⟨_, rfl, none, 0, rfl, hS⟩
      · replace hm := if_f hm hb
        refine reg [] [] [4, 5] [pl 4 (.int .i64 (-1)), pl 5 (.slice none 0 0)] hF hS Fol (by kernel_rfl) (by kernel_rfl) (by kernel_rfl) ?_ (fun a w hF hS => ?_)
        · exact obs_nil
        refine wp_ret ?_
        refine block_r (then_r ?_)
        have hS : Sep w0 B w (own 3 (.slice none 0 0) (vI ([] : List Int)) :: blk g1 161 #[.slice A1 m1.length c1, .slice A2 m2.length c2] :: own 3 (.slice A1 m1.length c1) (vI m1) :: fs) := hS.nil 3
        have hl2 := (hS.at_ 0 rfl).len1
        have hS := (hS.at_ 0 rfl).reN hl2
        have hS : Sep w0 B w (own 3 (.slice none (([] : List Int).length) 0) (vI ([] : List Int)) :: blk g1 161 #[.slice A1 m1.length c1, .slice A2 m2.length c2] :: own 3 (.slice A1 m1.length c1) (vI m1) :: fs) := hS
        have hS := hS.pickN 3 [2, 0] (by decide)
        have hm : some ((-1), ([] : List Int), m1) = some r := hm
        obtain rfl := Option.some.inj hm
        exact retV (rs := [.tmp 4, .tmp 5]) (vs := [.int .i64 (-1), .slice none (([] : List Int).length) 0]) hF rfl (rv_t (by kernel_rfl) <| rv_t (by kernel_rfl) <| rv_nil) rfl ⟨_, rfl, none, 0, rfl, hS⟩

theorem rows_match_value_2_w {A1 : Option Addr} {c1 : Nat} {n1 : Nat} {m1 : List Int} {A2 : Option Addr} {c2 : Nat} {n2 : Nat} {hd1 : List Hd} {m2 : List (List Int)} {who1 : Int} {r : (Int × List Int × List Int)} {w0 w : World} {B : Nat} {fs : List HP} (hm : rows_match_value_2_m m1 m2 who1 = some r) (hS : Sep w0 B w (own 3 (.slice A1 n1 c1) (vI m1) :: fs)) (hr_m2 : RdRowsF w0 B fs A2 hd1 m2) (_hc_m2 : m2.length ≤ c2) (_hn_m2 : n2 = m2.length) :
    Calls Try.prog 115 #[.agg #[.slice A1 n1 c1, .slice A2 n2 c2], .int .i64 who1] w fun e w' => ∃ v, e = .returned v ∧ ∃ (A9 : Option Addr) (c9 : Nat), v = .tuple #[.int .i64 r.1, .slice A9 r.2.1.length c9] ∧ Sep w0 B w' (own 3 (.slice A1 n1 c1) (vI r.2.2) :: own 3 (.slice A9 r.2.1.length c9) (vI r.2.1) :: fs) := by
  have key : ∀ (n : Nat) {A1 : Option Addr} {c1 : Nat} {n1 : Nat} {m1 : List Int} {A2 : Option Addr} {c2 : Nat} {n2 : Nat} {hd1 : List Hd} {m2 : List (List Int)} {who1 : Int} {r : (Int × List Int × List Int)} {w0 w : World} {B : Nat} {fs : List HP} (_ : rows_match_value_2_mF n m1 m2 who1 = some r) (_ : Sep w0 B w (own 3 (.slice A1 n1 c1) (vI m1) :: fs)) (hr_m2 : RdRowsF w0 B fs A2 hd1 m2) (_hc_m2 : m2.length ≤ c2) (_hn_m2 : n2 = m2.length), Calls Try.prog 115 #[.agg #[.slice A1 n1 c1, .slice A2 n2 c2], .int .i64 who1] w fun e w' => ∃ v, e = .returned v ∧ ∃ (A9 : Option Addr) (c9 : Nat), v = .tuple #[.int .i64 r.1, .slice A9 r.2.1.length c9] ∧ Sep w0 B w' (own 3 (.slice A1 n1 c1) (vI r.2.2) :: own 3 (.slice A9 r.2.1.length c9) (vI r.2.1) :: fs) := by
    intro n
    induction n with
    | zero => intros; rename_i hm0 _ _ _ _; cases hm0
    | succ n ih => intros; rename_i hm0 hS0 h0 h1 h2; exact rows_match_value_2_wB (rec_rows_match_value_2 := rows_match_value_2_mF n) (fun hm hS h0 h1 h2 => ih hm hS h0 h1 h2) hm0 hS0 h0 h1 h2
  obtain ⟨n, hn⟩ := recM_some hm
  exact key n hn hS hr_m2 _hc_m2 _hn_m2

theorem rows_match_value_2_J5_le_rows_match_value_2 {rec_rows_match_value_21 rec_rows_match_value_22 : List Int → List (List Int) → Int → Option (Int × List Int × List Int)} (h_rec_rows_match_value_2 : ∀ a0 a1 a2, Le (rec_rows_match_value_21 a0 a1 a2) (rec_rows_match_value_22 a0 a1 a2)) (m1 : List Int) (m2 : List (List Int)) (who1 : Int) (m4 : List Int) (best1 : Int) (where1 : List Int) (z1 : Int) : Le (rows_match_value_2_J5 rec_rows_match_value_21 m1 m2 who1 m4 best1 where1 z1) (rows_match_value_2_J5 rec_rows_match_value_22 m1 m2 who1 m4 best1 where1 z1) := by
  unfold rows_match_value_2_J5
  repeat' (first | with_reducible exact Le.refl _ | with_reducible exact h_rec_rows_match_value_2 _ _ _ | refine Le.asrt ?_ | refine Le.ite ?_ ?_ | refine Le.bind ?_ (fun _ => ?_) | refine Le.loop2 (fun _ => ?_) | refine Le.elim2 (fun _ => ?_) (fun _ => ?_))

theorem rows_match_value_2_J3_le_rows_match_value_2 {rec_rows_match_value_21 rec_rows_match_value_22 : List Int → List (List Int) → Int → Option (Int × List Int × List Int)} (h_rec_rows_match_value_2 : ∀ a0 a1 a2, Le (rec_rows_match_value_21 a0 a1 a2) (rec_rows_match_value_22 a0 a1 a2)) (m1 : List Int) (m2 : List (List Int)) (who1 : Int) (m4 : List Int) (best1 : Int) (where1 : List Int) (z1 : Int) : Le (rows_match_value_2_J3 rec_rows_match_value_21 m1 m2 who1 m4 best1 where1 z1) (rows_match_value_2_J3 rec_rows_match_value_22 m1 m2 who1 m4 best1 where1 z1) := by
  unfold rows_match_value_2_J3
  repeat' (first | with_reducible exact Le.refl _ | with_reducible exact h_rec_rows_match_value_2 _ _ _ | with_reducible exact rows_match_value_2_J5_le_rows_match_value_2 h_rec_rows_match_value_2 _ _ _ _ _ _ _ | refine Le.asrt ?_ | refine Le.ite ?_ ?_ | refine Le.bind ?_ (fun _ => ?_) | refine Le.loop2 (fun _ => ?_) | refine Le.elim2 (fun _ => ?_) (fun _ => ?_))

theorem rows_match_value_2_L1_le_rows_match_value_2 {rec_rows_match_value_21 rec_rows_match_value_22 : List Int → List (List Int) → Int → Option (Int × List Int × List Int)} (h_rec_rows_match_value_2 : ∀ a0 a1 a2, Le (rec_rows_match_value_21 a0 a1 a2) (rec_rows_match_value_22 a0 a1 a2)) (m1 : List Int) (m2 : List (List Int)) (who1 : Int) (x : (List Int × Int × List Int × Int)) : Le (rows_match_value_2_L1 rec_rows_match_value_21 m1 m2 who1 x) (rows_match_value_2_L1 rec_rows_match_value_22 m1 m2 who1 x) := by
  rcases x with ⟨m4, best1, where1, z1⟩
  all_goals
    unfold rows_match_value_2_L1
    try dsimp only
    repeat' (first | with_reducible exact Le.refl _ | with_reducible exact h_rec_rows_match_value_2 _ _ _ | with_reducible exact rows_match_value_2_J3_le_rows_match_value_2 h_rec_rows_match_value_2 _ _ _ _ _ _ _ | refine Le.asrt ?_ | refine Le.ite ?_ ?_ | refine Le.bind ?_ (fun _ => ?_) | refine Le.loop2 (fun _ => ?_) | refine Le.elim2 (fun _ => ?_) (fun _ => ?_))

theorem rows_match_value_2_J1_le_rows_match_value_2 {rec_rows_match_value_21 rec_rows_match_value_22 : List Int → List (List Int) → Int → Option (Int × List Int × List Int)} (h_rec_rows_match_value_2 : ∀ a0 a1 a2, Le (rec_rows_match_value_21 a0 a1 a2) (rec_rows_match_value_22 a0 a1 a2)) (m1 : List Int) (m2 : List (List Int)) (who1 : Int) : Le (rows_match_value_2_J1 rec_rows_match_value_21 m1 m2 who1) (rows_match_value_2_J1 rec_rows_match_value_22 m1 m2 who1) := by
  unfold rows_match_value_2_J1
  repeat' (first | with_reducible exact Le.refl _ | with_reducible exact h_rec_rows_match_value_2 _ _ _ | with_reducible exact rows_match_value_2_L1_le_rows_match_value_2 h_rec_rows_match_value_2 _ _ _ _ | refine Le.asrt ?_ | refine Le.ite ?_ ?_ | refine Le.bind ?_ (fun _ => ?_) | refine Le.loop2 (fun _ => ?_) | refine Le.elim2 (fun _ => ?_) (fun _ => ?_))

theorem rows_match_value_2_B_le {rec_rows_match_value_21 rec_rows_match_value_22 : List Int → List (List Int) → Int → Option (Int × List Int × List Int)} (h_rec_rows_match_value_2 : ∀ a0 a1 a2, Le (rec_rows_match_value_21 a0 a1 a2) (rec_rows_match_value_22 a0 a1 a2)) (m1 : List Int) (m2 : List (List Int)) (who1 : Int) : Le (rows_match_value_2_B rec_rows_match_value_21 m1 m2 who1) (rows_match_value_2_B rec_rows_match_value_22 m1 m2 who1) := by
  unfold rows_match_value_2_B
  repeat' (first | with_reducible exact Le.refl _ | with_reducible exact h_rec_rows_match_value_2 _ _ _ | with_reducible exact rows_match_value_2_J1_le_rows_match_value_2 h_rec_rows_match_value_2 _ _ _ | refine Le.asrt ?_ | refine Le.ite ?_ ?_ | refine Le.bind ?_ (fun _ => ?_) | refine Le.loop2 (fun _ => ?_) | refine Le.elim2 (fun _ => ?_) (fun _ => ?_))

theorem rows_match_value_2_mF_le : ∀ (n : Nat) (m1 : List Int) (m2 : List (List Int)) (who1 : Int), Le (rows_match_value_2_mF n m1 m2 who1) (rows_match_value_2_mF (n + 1) m1 m2 who1)
  | 0, _, _, _ => fun _ h => by cases h
  | n + 1, _, _, _ => rows_match_value_2_B_le (fun a0 a1 a2 => rows_match_value_2_mF_le n a0 a1 a2) _ _ _

theorem rows_match_value_2_m_of (N : Nat) (m1 : List Int) (m2 : List (List Int)) (who1 : Int) {r : (Int × List Int × List Int)} (h : rows_match_value_2_mF N m1 m2 who1 = some r) : rows_match_value_2_m m1 m2 who1 = some r :=
  recM_mono (fun n => rows_match_value_2_mF_le n _ _ _) h

noncomputable def rows_Solve_J4 (g3 : List Int) (many1 : List Int) (z1 : Int) : Option (St (List Int × Int) (List Int)) :=
  some (.next ((many1.set (Int.toNat (geti g3 z1)) (w64 ((geti many1 (geti g3 z1)) + 1))), (w64 (z1 + 1))))

noncomputable def rows_Solve_J3 (g3 : List Int) (many1 : List Int) (z1 : Int) : Option (St (List Int × Int) (List Int)) :=
  asrt (0 ≤ z1 ∧ z1 < (g3.length : Int)) <| asrt (0 ≤ (geti g3 z1) ∧ (geti g3 z1) < 3) <| asrt (0 ≤ (geti g3 z1) ∧ (geti g3 z1) < 3) <| asrt ((geti g3 z1) < (many1.length : Int)) <| (rows_Solve_J4 g3 many1 z1)

noncomputable def rows_Solve_J6 (n2 : Int) (where1 : List Int) : Option (Int × List Int × Int) :=
  some (n2, where1, 0)

noncomputable def rows_Solve_J5 (g1 : Int) (g2 : Int) (g3 : List Int) (k1 : Int) (many2 : List Int) : Option (Int × List Int × Int) :=
  (slices_Clone_m g3).bind fun r2 => (rows_lines_m g1 g2 k1).bind fun r3 => (rows_match_value_2_m r2 r3 (w64 (1 + (w64 ((geti many2 1) - (geti many2 2)))))).bind fun r4 => rows_Solve_J6 r4.1 r4.2.1

noncomputable def rows_Solve_J2 (g1 : Int) (g2 : Int) (g3 : List Int) (k1 : Int) (many2 : List Int) : Option (Int × List Int × Int) :=
  asrt (0 ≤ (1 : Int) ∧ (1 : Int) < 3) <| asrt (0 ≤ (2 : Int) ∧ (2 : Int) < 3) <| if (((w64 ((geti many2 1) - (geti many2 2))) != 0) && ((w64 ((geti many2 1) - (geti many2 2))) != 1)) then (some (0, ([] : List Int), 7)) else (asrt (0 ≤ (0 : Int) ∧ (0 : Int) < 3) <| if (decide ((9 : Int) < (geti many2 0))) then (some (0, ([] : List Int), 2)) else ((rows_Solve_J5 g1 g2 g3 k1 many2)))

noncomputable def rows_Solve_K1 (g1 : Int) (g2 : Int) (g3 : List Int) (k1 : Int) : (List Int) → Option (Int × List Int × Int) :=
  fun (x : (List Int)) => match x with | many2 => (rows_Solve_J2 g1 g2 g3 k1) many2

noncomputable def rows_Solve_L1 (g3 : List Int) : (List Int × Int) → Option (St (List Int × Int) (List Int)) :=
  fun (x : (List Int × Int)) => match x with | (many1, z1) => if (decide (z1 < (g3.length : Int))) then ((rows_Solve_J3 g3 many1 z1)) else (some (.done many1))

noncomputable def rows_Solve_J1 (g1 : Int) (g2 : Int) (g3 : List Int) (k1 : Int) : Option (Int × List Int × Int) :=
  (loop (rows_Solve_L1 g3) ((List.replicate 3 (0 : Int)), 0)).bind (rows_Solve_K1 g1 g2 g3 k1)

noncomputable def rows_Solve_m (g1 : Int) (g2 : Int) (g3 : List Int) (k1 : Int) : Option (Int × List Int × Int) :=
  (rows_May_m g1 g2 g3).bind fun r1 => if (!r1) then (some (0, ([] : List Int), 12)) else (if ((decide (k1 < 1)) || (decide ((10 : Int) < k1))) then (some (0, ([] : List Int), 3)) else ((rows_Solve_J1 g1 g2 g3 k1)))

set_option maxRecDepth 100000 in
set_option maxHeartbeats 4000000 in
theorem rows_Solve_w {g1 : Int} {g2 : Int} {A1 : Option Addr} {c1 : Nat} {n1 : Nat} {g3 : List Int} {k1 : Int} {r : (Int × List Int × Int)} {w0 w : World} {B : Nat} {fs : List HP} (hm : rows_Solve_m g1 g2 g3 k1 = some r) (hS : Sep w0 B w (fs)) (hr_g3 : RdF w0 B fs A1 (vI g3)) (_hc_g3 : g3.length ≤ c1) (_hn_g3 : n1 = g3.length) :
    Calls Try.prog 59 #[.agg #[.int .i64 g1, .int .i64 g2, .slice A1 n1 c1], .int .i64 k1] w fun e w' => ∃ v, e = .returned v ∧ ∃ (A9 : Option Addr) (c9 : Nat), v = .tuple #[.int .i64 r.1, .slice A9 r.2.1.length c9, .int .i64 r.2.2] ∧ Sep w0 B w' (own 3 (.slice A9 r.2.1.length c9) (vI r.2.1) :: fs) := by
  obtain ⟨i3, hi3, hz3, hs3, hb3⟩ := info_parts Info3
  obtain rfl := _hn_g3
  unfold rows_Solve_m at hm
  replace hm := start_b hm
  refine enter (l := [.agg #[.int .i64 g1, .int .i64 g2, .slice A1 g3.length c1], .int .i64 k1]) (n := 71) Try.func59 rfl rfl (by simp) (fun a hF => ?_)
  refine seqR ?_
  refine at_do (d := 2) (s := vS (Instr.box 82 (.agg #[.int .i64 g1, .int .i64 g2, .slice A1 g3.length c1]))) (v := .pointer (some ⟨w.heap.size, 0, none⟩)) (w' := w.alloc (.cells #[.int .i64 g1, .int .i64 g2, .slice A1 g3.length c1] 82)) hF (by kernel_rfl) (by kernel_rfl) (by kernel_rfl) (fun a hF => ?_)
  have hS : Sep w0 B (w.alloc (.cells #[.int .i64 g1, .int .i64 g2, .slice A1 g3.length c1] 82)) (blk w.heap.size 82 #[.int .i64 g1, .int .i64 g2, .slice A1 g3.length c1] :: (fs)) := hS.box 82 #[.int .i64 g1, .int .i64 g2, .slice A1 g3.length c1]
  generalize w.heap.size = g4 at hF hS
  generalize w.alloc (.cells #[.int .i64 g1, .int .i64 g2, .slice A1 g3.length c1] 82) = w at hS ⊢
  refine at_run 3 [] [] [1, 2] [pl 1 (.int .i64 k1), pl 2 (.pointer (some ⟨g4, 0, none⟩))] hF hS (by kernel_rfl) (by kernel_rfl) ?_ (fun a w hF hS => ?_)
  · exact obs_nil
  refine at_end [1, 2] [pl 1 (.int .i64 k1), pl 2 (.pointer (some ⟨g4, 0, none⟩))] hF rfl (by kernel_rfl) (fun hF => ?_)
  refine then_n ?_
  refine seq_cut (fun a w => Fr 71 [pl 1 (.int .i64 k1), pl 2 (.pointer (some ⟨g4, 0, none⟩))] a ∧ Sep w0 B w (blk g4 82 #[.int .i64 g1, .int .i64 g2, .slice A1 g3.length c1] :: fs) ∧ ((rows_Solve_J1 g1 g2 g3 k1)).bind some = some r) ?_ ?_
  · rintro a w ⟨hF, hS, hm⟩
    unfold rows_Solve_J1 at hm
    refine seqR ?_
    refine at_do (d := 7) (s := vS (Instr.alloc 158 true (.tuple #[]))) (v := .pointer (some ⟨w.heap.size, 0, none⟩)) (w' := w.alloc (.cells (List.toArray (([] : List Value) ++ (arr1 (Value.int .i64) (0 : Int) 3 (List.replicate 3 (0 : Int)) ++ ([] : List Value)))) 158)) hF (by kernel_rfl) (by kernel_rfl) (by kernel_rfl) (fun a hF => ?_)
    have hS : Sep w0 B (w.alloc (.cells (List.toArray (([] : List Value) ++ (arr1 (Value.int .i64) (0 : Int) 3 (List.replicate 3 (0 : Int)) ++ ([] : List Value)))) 158)) (blk w.heap.size 158 (List.toArray (([] : List Value) ++ (arr1 (Value.int .i64) (0 : Int) 3 (List.replicate 3 (0 : Int)) ++ ([] : List Value)))) :: (blk g4 82 #[.int .i64 g1, .int .i64 g2, .slice A1 g3.length c1] :: fs)) := hS.box 158 (List.toArray (([] : List Value) ++ (arr1 (Value.int .i64) (0 : Int) 3 (List.replicate 3 (0 : Int)) ++ ([] : List Value))))
    generalize w.heap.size = g5 at hF hS
    generalize w.alloc (.cells (List.toArray (([] : List Value) ++ (arr1 (Value.int .i64) (0 : Int) 3 (List.replicate 3 (0 : Int)) ++ ([] : List Value)))) 158) = w at hS ⊢
    refine at_end [1, 2, 7] [pl 1 (.int .i64 k1), pl 2 (.pointer (some ⟨g4, 0, none⟩)), pl 7 (.pointer (some ⟨g5, 0, none⟩))] hF rfl (by kernel_rfl) (fun hF => ?_)
    refine then_n ?_
    refine seq_cut (fun a w => ∃ (many2 : List Int), Fr 71 [pl 1 (.int .i64 k1), pl 2 (.pointer (some ⟨g4, 0, none⟩)), pl 7 (.pointer (some ⟨g5, 0, none⟩))] a ∧ Sep w0 B w (blk g4 82 #[.int .i64 g1, .int .i64 g2, .slice A1 g3.length c1] :: blk g5 158 (List.toArray (([] : List Value) ++ (arr1 (Value.int .i64) (0 : Int) 3 many2 ++ ([] : List Value)))) :: fs) ∧ ((rows_Solve_J2 g1 g2 g3 k1) many2).bind some = some r) ?_ ?_
    · rintro a w ⟨many2, hF, hS, hm⟩
      unfold rows_Solve_J2 at hm
      obtain ⟨hp5, hm⟩ := asrt_b hm
      obtain ⟨hp6, hm⟩ := asrt_b hm
      refine reg [⟨true, [], vS (Instr.indexAt 158 (.pointer (some ⟨g5, 0, none⟩)) (.int .i64 1)), .pointer (some ((⟨g5, 0, none⟩ : Addr).add (Int.toNat 1 * 1)))⟩, ⟨false, [], vS (Instr.loadAt 3 (.pointer (some ((⟨g5, 0, none⟩ : Addr).add (Int.toNat 1 * 1))))), .int .i64 (geti many2 1)⟩, ⟨true, [], vS (Instr.indexAt 158 (.pointer (some ⟨g5, 0, none⟩)) (.int .i64 2)), .pointer (some ((⟨g5, 0, none⟩ : Addr).add (Int.toNat 2 * 1)))⟩, ⟨false, [], vS (Instr.loadAt 3 (.pointer (some ((⟨g5, 0, none⟩ : Addr).add (Int.toNat 2 * 1))))), .int .i64 (geti many2 2)⟩] [some (.pointer (some ((⟨g5, 0, none⟩ : Addr).add (Int.toNat 1 * 1)))), some (.int .i64 (geti many2 1)), some (.pointer (some ((⟨g5, 0, none⟩ : Addr).add (Int.toNat 2 * 1)))), some (.int .i64 (geti many2 2)), none, none] [1, 2, 7, 10] [pl 1 (.int .i64 k1), pl 2 (.pointer (some ⟨g4, 0, none⟩)), pl 7 (.pointer (some ⟨g5, 0, none⟩)), pl 10 (.int .i64 (w64 ((geti many2 1) - (geti many2 2))))] hF hS Fol (by kernel_rfl) (by kernel_rfl) (by kernel_rfl) ?_ (fun a w hF hS => ?_)
      · exact obs_cons (ob_ixA UndA158 hi3 hs3 (fun _ => hp5)) <| obs_cons (ob_getA (m := many2) (Value.int .i64) (0 : Int) 3 ([] : List Value) ([] : List Value) 1 Agg3 rfl (fun _ hS => ⟨_, _, _, _, _, hS.at_ 1 rfl⟩) (fun hy => by have h0 := hp5; omega)) <| obs_cons (ob_ixA UndA158 hi3 hs3 (fun _ => hp6)) <| obs_cons (ob_getA (m := many2) (Value.int .i64) (0 : Int) 3 ([] : List Value) ([] : List Value) 2 Agg3 rfl (fun _ hS => ⟨_, _, _, _, _, hS.at_ 1 rfl⟩) (fun hy => by have h0 := hp6; omega)) <| obs_nil
      refine seq_cut (fun a w => Fr 71 [pl 1 (.int .i64 k1), pl 2 (.pointer (some ⟨g4, 0, none⟩)), pl 10 (.int .i64 (w64 ((geti many2 1) - (geti many2 2))))] a ∧ Sep w0 B w (blk g4 82 #[.int .i64 g1, .int .i64 g2, .slice A1 g3.length c1] :: fs) ∧ ((rows_Solve_J5 g1 g2 g3 k1 many2)).bind some = some r) ?_ ?_
      · rintro a w ⟨hF, hS, hm⟩
        unfold rows_Solve_J5 at hm
        refine seq_cut (fun a w => ∃ (n2 : Int) (where1 : List Int) (A8 : Option Addr) (c8 : Nat), Fr 71 [pl 11 (.int .i64 n2), pl 12 (.slice A8 where1.length c8)] a ∧ Sep w0 B w (own 3 (.slice A8 where1.length c8) (vI where1) :: fs) ∧ (rows_Solve_J6 n2 where1).bind some = some r) ?_ ?_
        · rintro a w ⟨n2, where1, A8, c8, hF, hS, hm⟩
          unfold rows_Solve_J6 at hm
          refine reg [] [] [4, 5, 6] [pl 4 (.int .i64 n2), pl 5 (.slice A8 where1.length c8), pl 6 (.int .i64 0)] hF hS Fol (by kernel_rfl) (by kernel_rfl) (by kernel_rfl) ?_ (fun a w hF hS => ?_)
          · exact obs_nil
          refine wp_ret ?_
          have hm : some (n2, where1, 0) = some r := hm
          obtain rfl := Option.some.inj hm
          exact retV (rs := [.tmp 4, .tmp 5, .tmp 6]) (vs := [.int .i64 n2, .slice A8 where1.length c8, .int .i64 0]) hF rfl (rv_t (by kernel_rfl) <| rv_t (by kernel_rfl) <| rv_t (by kernel_rfl) <| rv_nil) rfl ⟨_, rfl, A8, c8, rfl, hS⟩
        · obtain ⟨r2, hr2, hm⟩ := call_b hm
          obtain ⟨r3, hr3, hm⟩ := call_b hm
          obtain ⟨r4, hr4, hm⟩ := call_b hm
          refine regMix5 [0, 1, 3, 4, 5, 6, 7, 10, 11] [] 9 #[true, true, false, true, true, true, true, true, false, false, true, true, false, false, false, false, false, false] [⟨false, [], vS (Instr.loadAt 40 (.pointer (some ⟨g4, 2, none⟩))), .slice A1 g3.length c1⟩, ⟨false, [], vS (Instr.loadAt 3 (.pointer (some ⟨g4, 0, none⟩))), .int .i64 g1⟩, ⟨false, [], vS (Instr.loadAt 3 (.pointer (some ⟨g4, 1, none⟩))), .int .i64 g2⟩] [none, some (.slice A1 g3.length c1), none, some (.int .i64 g1), none, some (.int .i64 g2), none, none, none] [55, 58, 60, 61, 65] [pl 55 (.slice A1 g3.length c1), pl 58 (.int .i64 g1), pl 60 (.int .i64 g2), pl 61 (.int .i64 k1), pl 65 (.int .i64 (w64 (1 + (w64 ((geti many2 1) - (geti many2 2))))))] hF hS Fol (by kernel_rfl) (by kernel_rfl) (by kernel_rfl) (by kernel_rfl) ?_ (fun a w hF hS => ?_)
          · exact obs_cons (ob_load Agg40 (fun _ _ hS => (hS.at_ 0 rfl).cell rfl)) <| obs_cons (ob_load Agg3 (fun _ _ hS => (hS.at_ 0 rfl).cell rfl)) <| obs_cons (ob_load Agg3 (fun _ _ hS => (hS.at_ 0 rfl).cell rfl)) <| obs_nil
          refine any_step [2] (by kernel_rfl) rfl ?_
          refine (all_cons ?_ all_nil)
          · refine any_op (listed' := #[true, true, true, true, true, true, true, true, false, false, true, true, false, false, false, false, false, false]) (by kernel_rfl) (by kernel_rfl) ?_
            refine at_call (f := 88) (args := #[.slice A1 g3.length c1]) (d := 56) hF (by kernel_rfl) (by kernel_rfl) Try.func88 (by kernel_rfl) rfl (slices_Clone_w hr2 hS (fun _ hS => (hr_g3 _ (hS.dropN 1))) _hc_g3 rfl) (fun v a w hR hF => ?_)
            clear hS
            obtain ⟨A5, c5, rfl, hS⟩ := hR
            have hS : Sep w0 B w (own 3 (.slice A5 r2.length c5) (vI r2) :: blk g4 82 #[.int .i64 g1, .int .i64 g2, .slice A1 g3.length c1] :: fs) := hS
            refine any_fin rfl (hS.pickN 2 [1] (by decide)) ?_
            refine any_step [8] (by kernel_rfl) rfl ?_
            refine (all_cons ?_ all_nil)
            · refine any_op (listed' := #[true, true, true, true, true, true, true, true, true, false, true, true, false, false, false, false, false, false]) (by kernel_rfl) (by kernel_rfl) ?_
              refine at_call (f := 114) (args := #[.int .i64 g1, .int .i64 g2, .int .i64 k1]) (d := 62) hF (by kernel_rfl) (by kernel_rfl) Try.func114 (by kernel_rfl) rfl (rows_lines_w hr3 hS ) (fun v a w hR hF => ?_)
              clear hS
              obtain ⟨A6, c6, hd2, rfl, hS⟩ := hR
              have hS : Sep w0 B w (rows 40 3 (.slice A6 r3.length c6) hd2 r3 :: own 3 (.slice A5 r2.length c5) (vI r2) :: blk g4 82 #[.int .i64 g1, .int .i64 g2, .slice A1 g3.length c1] :: fs) := hS
              refine any_fin rfl (hS.pickN 3 [2] (by decide)) ?_
              refine any_step [9] (by kernel_rfl) rfl ?_
              refine (all_cons ?_ all_nil)
              · refine any_op (listed' := #[true, true, true, true, true, true, true, true, true, true, true, true, false, false, false, false, false, false]) (by kernel_rfl) (by kernel_rfl) ?_
                refine at_runW 1 [] [] [63, 65] [pl 63 (.agg #[.slice A5 r2.length c5, .slice A6 r3.length c6]), pl 65 (.int .i64 (w64 (1 + (w64 ((geti many2 1) - (geti many2 2))))))] hF hS (by kernel_rfl) (by kernel_rfl) ?_ (fun a hF => ?_)
                · exact obs_nil
                refine any_finI rfl (fun h => h) ?_
                refine any_step [12] (by kernel_rfl) rfl ?_
                refine (all_cons ?_ all_nil)
                · refine any_op (listed' := #[true, true, true, true, true, true, true, true, true, true, true, true, true, false, false, false, false, false]) (by kernel_rfl) (by kernel_rfl) ?_
                  have hS : Sep w0 B w (own 3 (.slice A5 r2.length c5) (vI r2) :: rows 40 3 (.slice A6 r3.length c6) hd2 r3 :: blk g4 82 #[.int .i64 g1, .int .i64 g2, .slice A1 g3.length c1] :: fs) := hS.pickN 3 [1, 0, 2] (by decide)
                  refine at_call (f := 115) (args := #[.agg #[.slice A5 r2.length c5, .slice A6 r3.length c6], .int .i64 (w64 (1 + (w64 ((geti many2 1) - (geti many2 2)))))]) (d := 66) hF (by kernel_rfl) (by kernel_rfl) Try.func115 (by kernel_rfl) rfl (rows_match_value_2_w hr4 hS (fun _ hS => (hS.at_ 0 rfl).rdRows) ((hS.dropN 1).at_ 0 rfl).rowsLen.2 ((hS.dropN 1).at_ 0 rfl).lenR) (fun v a w hR hF => ?_)
                  clear hS
                  obtain ⟨A7, c7, rfl, hS⟩ := hR
                  have hS : Sep w0 B w (own 3 (.slice A5 r2.length c5) (vI r4.2.2) :: own 3 (.slice A7 r4.2.1.length c7) (vI r4.2.1) :: rows 40 3 (.slice A6 r3.length c6) hd2 r3 :: blk g4 82 #[.int .i64 g1, .int .i64 g2, .slice A1 g3.length c1] :: fs) := hS
                  refine any_fin rfl (hS.pickN 4 [3] (by decide)) ?_
                  refine any_step [13] (by kernel_rfl) rfl ?_
                  refine (all_cons ?_ all_nil)
                  · refine any_op (listed' := #[true, true, true, true, true, true, true, true, true, true, true, true, true, true, false, false, false, false]) (by kernel_rfl) (by kernel_rfl) ?_
                    refine at_runW 1 [] [] [53] [pl 53 (.tuple #[.int .i64 r4.1, .slice A7 r4.2.1.length c7])] hF hS (by kernel_rfl) (by kernel_rfl) ?_ (fun a hF => ?_)
                    · exact obs_nil
                    refine any_finI rfl (fun h => h) ?_
                    refine any_step [14, 15] (by kernel_rfl) rfl ?_
                    refine (all_cons ?_ (all_cons ?_ all_nil))
                    · refine any_op (listed' := #[true, true, true, true, true, true, true, true, true, true, true, true, true, true, true, false, false, false]) (by kernel_rfl) (by kernel_rfl) ?_
                      refine at_runW 1 [] [] [53, 67] [pl 53 (.tuple #[.int .i64 r4.1, .slice A7 r4.2.1.length c7]), pl 67 (.int .i64 r4.1)] hF hS (by kernel_rfl) (by kernel_rfl) ?_ (fun a hF => ?_)
                      · exact obs_nil
                      refine any_finI rfl (fun h => h) ?_
                      refine any_step [15, 16] (by kernel_rfl) rfl ?_
                      refine (all_cons ?_ (all_cons ?_ all_nil))
                      · refine any_op (listed' := #[true, true, true, true, true, true, true, true, true, true, true, true, true, true, true, true, false, false]) (by kernel_rfl) (by kernel_rfl) ?_
                        refine at_runW 1 [] [] [67, 68] [pl 67 (.int .i64 r4.1), pl 68 (.slice A7 r4.2.1.length c7)] hF hS (by kernel_rfl) (by kernel_rfl) ?_ (fun a hF => ?_)
                        · exact obs_nil
                        refine any_finI rfl (fun h => h) ?_
                        refine any_step [16] (by kernel_rfl) rfl ?_
                        refine (all_cons ?_ all_nil)
                        · refine any_op (listed' := #[true, true, true, true, true, true, true, true, true, true, true, true, true, true, true, true, true, false]) (by kernel_rfl) (by kernel_rfl) ?_
                          refine at_runW 1 [] [] [11, 68] [pl 11 (.int .i64 r4.1), pl 68 (.slice A7 r4.2.1.length c7)] hF hS (by kernel_rfl) (by kernel_rfl) ?_ (fun a hF => ?_)
                          · exact obs_nil
                          refine any_finI rfl (fun h => h) ?_
                          refine any_step [17] (by kernel_rfl) rfl ?_
                          refine (all_cons ?_ all_nil)
                          · refine any_op (listed' := #[true, true, true, true, true, true, true, true, true, true, true, true, true, true, true, true, true, true]) (by kernel_rfl) (by kernel_rfl) ?_
                            refine at_runW 1 [] [] [11, 12] [pl 11 (.int .i64 r4.1), pl 12 (.slice A7 r4.2.1.length c7)] hF hS (by kernel_rfl) (by kernel_rfl) ?_ (fun a hF => ?_)
                            · exact obs_nil
                            refine any_finI rfl (fun h => h) ?_
                            refine any_end (by kernel_rfl) ?_
                            refine np_n ?_
                            refine then_n ?_
                            have hS := hS.pickN 4 [1] (by decide)
                            exact ⟨r4.1, r4.2.1, A7, c7, hF.weak [11, 12] (by kernel_rfl), hS, hm⟩
                      · refine any_op (listed' := #[true, true, true, true, true, true, true, true, true, true, true, true, true, true, true, false, true, false]) (by kernel_rfl) (by kernel_rfl) ?_
                        refine at_runW 1 [] [] [11, 53] [pl 11 (.int .i64 r4.1), pl 53 (.tuple #[.int .i64 r4.1, .slice A7 r4.2.1.length c7])] hF hS (by kernel_rfl) (by kernel_rfl) ?_ (fun a hF => ?_)
                        · exact obs_nil
                        refine any_finI rfl (fun h => h) ?_
                        refine any_step [15] (by kernel_rfl) rfl ?_
                        refine (all_cons ?_ all_nil)
                        · refine any_op (listed' := #[true, true, true, true, true, true, true, true, true, true, true, true, true, true, true, true, true, false]) (by kernel_rfl) (by kernel_rfl) ?_
                          refine at_runW 1 [] [] [11, 68] [pl 11 (.int .i64 r4.1), pl 68 (.slice A7 r4.2.1.length c7)] hF hS (by kernel_rfl) (by kernel_rfl) ?_ (fun a hF => ?_)
                          · exact obs_nil
                          refine any_finI rfl (fun h => h) ?_
                          refine any_step [17] (by kernel_rfl) rfl ?_
                          refine (all_cons ?_ all_nil)
                          · refine any_op (listed' := #[true, true, true, true, true, true, true, true, true, true, true, true, true, true, true, true, true, true]) (by kernel_rfl) (by kernel_rfl) ?_
                            refine at_runW 1 [] [] [11, 12] [pl 11 (.int .i64 r4.1), pl 12 (.slice A7 r4.2.1.length c7)] hF hS (by kernel_rfl) (by kernel_rfl) ?_ (fun a hF => ?_)
                            · exact obs_nil
                            refine any_finI rfl (fun h => h) ?_
                            refine any_end (by kernel_rfl) ?_
                            refine np_n ?_
                            refine then_n ?_
                            have hS := hS.pickN 4 [1] (by decide)
                            exact ⟨r4.1, r4.2.1, A7, c7, hF.weak [11, 12] (by kernel_rfl), hS, hm⟩
                    · refine any_op (listed' := #[true, true, true, true, true, true, true, true, true, true, true, true, true, true, false, true, false, false]) (by kernel_rfl) (by kernel_rfl) ?_
                      refine at_runW 1 [] [] [53, 68] [pl 53 (.tuple #[.int .i64 r4.1, .slice A7 r4.2.1.length c7]), pl 68 (.slice A7 r4.2.1.length c7)] hF hS (by kernel_rfl) (by kernel_rfl) ?_ (fun a hF => ?_)
                      · exact obs_nil
                      refine any_finI rfl (fun h => h) ?_
                      refine any_step [14] (by kernel_rfl) rfl ?_
                      refine (all_cons ?_ all_nil)
                      · refine any_op (listed' := #[true, true, true, true, true, true, true, true, true, true, true, true, true, true, true, true, false, false]) (by kernel_rfl) (by kernel_rfl) ?_
                        refine at_runW 1 [] [] [67, 68] [pl 67 (.int .i64 r4.1), pl 68 (.slice A7 r4.2.1.length c7)] hF hS (by kernel_rfl) (by kernel_rfl) ?_ (fun a hF => ?_)
                        · exact obs_nil
                        refine any_finI rfl (fun h => h) ?_
                        refine any_step [16] (by kernel_rfl) rfl ?_
                        refine (all_cons ?_ all_nil)
                        · refine any_op (listed' := #[true, true, true, true, true, true, true, true, true, true, true, true, true, true, true, true, true, false]) (by kernel_rfl) (by kernel_rfl) ?_
                          refine at_runW 1 [] [] [11, 68] [pl 11 (.int .i64 r4.1), pl 68 (.slice A7 r4.2.1.length c7)] hF hS (by kernel_rfl) (by kernel_rfl) ?_ (fun a hF => ?_)
                          · exact obs_nil
                          refine any_finI rfl (fun h => h) ?_
                          refine any_step [17] (by kernel_rfl) rfl ?_
                          refine (all_cons ?_ all_nil)
                          · refine any_op (listed' := #[true, true, true, true, true, true, true, true, true, true, true, true, true, true, true, true, true, true]) (by kernel_rfl) (by kernel_rfl) ?_
                            refine at_runW 1 [] [] [11, 12] [pl 11 (.int .i64 r4.1), pl 12 (.slice A7 r4.2.1.length c7)] hF hS (by kernel_rfl) (by kernel_rfl) ?_ (fun a hF => ?_)
                            · exact obs_nil
                            refine any_finI rfl (fun h => h) ?_
                            refine any_end (by kernel_rfl) ?_
                            refine np_n ?_
                            refine then_n ?_
                            have hS := hS.pickN 4 [1] (by decide)
                            exact ⟨r4.1, r4.2.1, A7, c7, hF.weak [11, 12] (by kernel_rfl), hS, hm⟩
      · refine wp_block ?_
        refine reg [] [] [1, 2, 7, 10, 42] [pl 1 (.int .i64 k1), pl 2 (.pointer (some ⟨g4, 0, none⟩)), pl 7 (.pointer (some ⟨g5, 0, none⟩)), pl 10 (.int .i64 (w64 ((geti many2 1) - (geti many2 2)))), pl 42 (.bool (((w64 ((geti many2 1) - (geti many2 2))) != 0) && ((w64 ((geti many2 1) - (geti many2 2))) != 1)))] hF hS Fol (by kernel_rfl) (by kernel_rfl) (by kernel_rfl) ?_ (fun a w hF hS => ?_)
        · exact obs_nil
        refine cond_ev (t := 42) (b := ((w64 ((geti many2 1) - (geti many2 2))) != 0) && ((w64 ((geti many2 1) - (geti many2 2))) != 1)) hF (by kernel_rfl) (fun hb => ?_) (fun hb => ?_)
        · replace hm := if_t hm hb
          refine reg [] [] [4, 5, 6] [pl 4 (.int .i64 0), pl 5 (.slice none 0 0), pl 6 (.int .i64 7)] hF hS Fol (by kernel_rfl) (by kernel_rfl) (by kernel_rfl) ?_ (fun a w hF hS => ?_)
          · exact obs_nil
          refine wp_ret ?_
          refine block_r (then_r ?_)
          have hS : Sep w0 B w (own 3 (.slice none 0 0) (vI ([] : List Int)) :: blk g4 82 #[.int .i64 g1, .int .i64 g2, .slice A1 g3.length c1] :: blk g5 158 (List.toArray (([] : List Value) ++ (arr1 (Value.int .i64) (0 : Int) 3 many2 ++ ([] : List Value)))) :: fs) := hS.nil 3
          have hl3 := (hS.at_ 0 rfl).len1
          have hS := (hS.at_ 0 rfl).reN hl3
          have hS : Sep w0 B w (own 3 (.slice none (([] : List Int).length) 0) (vI ([] : List Int)) :: blk g4 82 #[.int .i64 g1, .int .i64 g2, .slice A1 g3.length c1] :: blk g5 158 (List.toArray (([] : List Value) ++ (arr1 (Value.int .i64) (0 : Int) 3 many2 ++ ([] : List Value)))) :: fs) := hS
          have hS := hS.pickN 3 [0] (by decide)
          have hm : some (0, ([] : List Int), 7) = some r := hm
          obtain rfl := Option.some.inj hm
          exact retV (rs := [.tmp 4, .tmp 5, .tmp 6]) (vs := [.int .i64 0, .slice none (([] : List Int).length) 0, .int .i64 7]) hF rfl (rv_t (by kernel_rfl) <| rv_t (by kernel_rfl) <| rv_t (by kernel_rfl) <| rv_nil) rfl ⟨_, rfl, none, 0, rfl, hS⟩
        · replace hm := if_f hm hb
          obtain ⟨hp7, hm⟩ := asrt_b hm
          refine reg [⟨true, [], vS (Instr.indexAt 158 (.pointer (some ⟨g5, 0, none⟩)) (.int .i64 0)), .pointer (some ((⟨g5, 0, none⟩ : Addr).add (Int.toNat 0 * 1)))⟩, ⟨false, [], vS (Instr.loadAt 3 (.pointer (some ((⟨g5, 0, none⟩ : Addr).add (Int.toNat 0 * 1))))), .int .i64 (geti many2 0)⟩] [some (.pointer (some ((⟨g5, 0, none⟩ : Addr).add (Int.toNat 0 * 1)))), some (.int .i64 (geti many2 0)), none, none] [1, 2, 10, 49] [pl 1 (.int .i64 k1), pl 2 (.pointer (some ⟨g4, 0, none⟩)), pl 10 (.int .i64 (w64 ((geti many2 1) - (geti many2 2)))), pl 49 (.bool (decide ((9 : Int) < (geti many2 0))))] hF hS Fol (by kernel_rfl) (by kernel_rfl) (by kernel_rfl) ?_ (fun a w hF hS => ?_)
          · exact obs_cons (ob_ixA UndA158 hi3 hs3 (fun _ => hp7)) <| obs_cons (ob_getA (m := many2) (Value.int .i64) (0 : Int) 3 ([] : List Value) ([] : List Value) 0 Agg3 rfl (fun _ hS => ⟨_, _, _, _, _, hS.at_ 1 rfl⟩) (fun hy => by have h0 := hp7; omega)) <| obs_nil
          refine cond_ev (t := 49) (b := decide ((9 : Int) < (geti many2 0))) hF (by kernel_rfl) (fun hb => ?_) (fun hb => ?_)
          · replace hm := if_t hm hb
            refine reg [] [] [4, 5, 6] [pl 4 (.int .i64 0), pl 5 (.slice none 0 0), pl 6 (.int .i64 2)] hF hS Fol (by kernel_rfl) (by kernel_rfl) (by kernel_rfl) ?_ (fun a w hF hS => ?_)
            · exact obs_nil
            refine wp_ret ?_
            refine block_r (then_r ?_)
            have hS : Sep w0 B w (own 3 (.slice none 0 0) (vI ([] : List Int)) :: blk g4 82 #[.int .i64 g1, .int .i64 g2, .slice A1 g3.length c1] :: blk g5 158 (List.toArray (([] : List Value) ++ (arr1 (Value.int .i64) (0 : Int) 3 many2 ++ ([] : List Value)))) :: fs) := hS.nil 3
            have hl4 := (hS.at_ 0 rfl).len1
            have hS := (hS.at_ 0 rfl).reN hl4
            have hS : Sep w0 B w (own 3 (.slice none (([] : List Int).length) 0) (vI ([] : List Int)) :: blk g4 82 #[.int .i64 g1, .int .i64 g2, .slice A1 g3.length c1] :: blk g5 158 (List.toArray (([] : List Value) ++ (arr1 (Value.int .i64) (0 : Int) 3 many2 ++ ([] : List Value)))) :: fs) := hS
            have hS := hS.pickN 3 [0] (by decide)
            have hm : some (0, ([] : List Int), 2) = some r := hm
            obtain rfl := Option.some.inj hm
            exact retV (rs := [.tmp 4, .tmp 5, .tmp 6]) (vs := [.int .i64 0, .slice none (([] : List Int).length) 0, .int .i64 2]) hF rfl (rv_t (by kernel_rfl) <| rv_t (by kernel_rfl) <| rv_t (by kernel_rfl) <| rv_nil) rfl ⟨_, rfl, none, 0, rfl, hS⟩
          · replace hm := if_f hm hb
            refine wp_skip ?_
            refine block_n ?_
            refine then_n ?_
            have hS := hS.pickN 2 [0] (by decide)
            exact ⟨hF.weak [1, 2, 10] (by kernel_rfl), hS, hm⟩
    · refine reg [⟨false, [], vS (Instr.loadAt 40 (.pointer (some ⟨g4, 2, none⟩))), .slice A1 g3.length c1⟩] [none, some (.slice A1 g3.length c1), none, none] [1, 2, 7, 25, 26, 27] [pl 1 (.int .i64 k1), pl 2 (.pointer (some ⟨g4, 0, none⟩)), pl 7 (.pointer (some ⟨g5, 0, none⟩)), pl 25 (.slice A1 g3.length c1), pl 26 (.int .i64 (g3.length : Int)), pl 27 (.int .i64 0)] hF hS Fol (by kernel_rfl) (by kernel_rfl) (by kernel_rfl) ?_ (fun a w hF hS => ?_)
      · exact obs_cons (ob_load Agg40 (fun _ _ hS => (hS.at_ 1 rfl).cell rfl)) <| obs_nil
      refine wp_block ?_
      have hS := hS.pickN 2 [1, 0] (by decide)
      refine wp_loop_model (S := (List Int × Int)) (R := (List Int)) (rows_Solve_L1 g3) (fun x => ((rows_Solve_K1 g1 g2 g3 k1) x).bind some) r (fun (x : (List Int × Int)) a w => Fr 71 [pl 1 (.int .i64 k1), pl 2 (.pointer (some ⟨g4, 0, none⟩)), pl 7 (.pointer (some ⟨g5, 0, none⟩)), pl 25 (.slice A1 g3.length c1), pl 26 (.int .i64 (g3.length : Int)), pl 27 (.int .i64 x.2)] a ∧ Sep w0 B w (blk g4 82 #[.int .i64 g1, .int .i64 g2, .slice A1 g3.length c1] :: blk g5 158 (List.toArray (([] : List Value) ++ (arr1 (Value.int .i64) (0 : Int) 3 x.1 ++ ([] : List Value)))) :: fs)) (assoc_b hm) ⟨hF.weak [1, 2, 7, 25, 26, 27] (by kernel_rfl), hS⟩ ?_
      clear hF hS hm
      rintro nn1 ⟨many1, z1⟩ a w ⟨hF, hS⟩ hm
      generalize hφ1 : stK (rows_Solve_L1 g3) nn1 (fun x => ((rows_Solve_K1 g1 g2 g3 k1) x).bind some) = φ1 at hm
      unfold rows_Solve_L1 at hm
      dsimp only at hF hS hm
      refine reg [] [] [1, 2, 7, 25, 26, 27, 28] [pl 1 (.int .i64 k1), pl 2 (.pointer (some ⟨g4, 0, none⟩)), pl 7 (.pointer (some ⟨g5, 0, none⟩)), pl 25 (.slice A1 g3.length c1), pl 26 (.int .i64 (g3.length : Int)), pl 27 (.int .i64 z1), pl 28 (.bool (decide (z1 < (g3.length : Int))))] hF hS Fol (by kernel_rfl) (by kernel_rfl) (by kernel_rfl) ?_ (fun a w hF hS => ?_)
      · exact obs_nil
      refine seq_cut (fun a w => Fr 71 [pl 1 (.int .i64 k1), pl 2 (.pointer (some ⟨g4, 0, none⟩)), pl 7 (.pointer (some ⟨g5, 0, none⟩)), pl 25 (.slice A1 g3.length c1), pl 26 (.int .i64 (g3.length : Int)), pl 27 (.int .i64 z1)] a ∧ Sep w0 B w (blk g4 82 #[.int .i64 g1, .int .i64 g2, .slice A1 g3.length c1] :: blk g5 158 (List.toArray (([] : List Value) ++ (arr1 (Value.int .i64) (0 : Int) 3 many1 ++ ([] : List Value)))) :: fs) ∧ ((rows_Solve_J3 g3 many1 z1)).bind φ1 = some r) ?_ ?_
      · rintro a w ⟨hF, hS, hm⟩
        unfold rows_Solve_J3 at hm
        refine seq_cut (fun a w => Fr 71 [pl 1 (.int .i64 k1), pl 2 (.pointer (some ⟨g4, 0, none⟩)), pl 7 (.pointer (some ⟨g5, 0, none⟩)), pl 25 (.slice A1 g3.length c1), pl 26 (.int .i64 (g3.length : Int)), pl 27 (.int .i64 z1)] a ∧ Sep w0 B w (blk g4 82 #[.int .i64 g1, .int .i64 g2, .slice A1 g3.length c1] :: blk g5 158 (List.toArray (([] : List Value) ++ (arr1 (Value.int .i64) (0 : Int) 3 (many1.set (Int.toNat (geti g3 z1)) (w64 ((geti many1 (geti g3 z1)) + 1))) ++ ([] : List Value)))) :: fs) ∧ ((rows_Solve_J4 g3 many1 z1)).bind φ1 = some r) ?_ ?_
        · rintro a w ⟨hF, hS, hm⟩
          unfold rows_Solve_J4 at hm
          refine reg1 [] [] [1, 2, 7, 25, 26, 27] [pl 1 (.int .i64 k1), pl 2 (.pointer (some ⟨g4, 0, none⟩)), pl 7 (.pointer (some ⟨g5, 0, none⟩)), pl 25 (.slice A1 g3.length c1), pl 26 (.int .i64 (g3.length : Int)), pl 27 (.int .i64 (w64 (z1 + 1)))] hF hS Fol (by kernel_rfl) (by kernel_rfl) (by kernel_rfl) ?_ (fun a w hF hS => ?_)
          · exact obs_nil
          refine then_n ?_
          rw [← hφ1] at hm
          exact ⟨((many1.set (Int.toNat (geti g3 z1)) (w64 ((geti many1 (geti g3 z1)) + 1))), (w64 (z1 + 1))), ⟨hF.weak [1, 2, 7, 25, 26, 27] (by kernel_rfl), hS⟩, hm⟩
        · refine wp_block ?_
          obtain ⟨hp1, hm⟩ := asrt_b hm
          refine reg [⟨true, [], vS (Instr.indexAt 40 (.slice A1 g3.length c1) (.int .i64 z1)), .pointer (some (sAddr A1 z1))⟩, ⟨false, [], vS (Instr.loadAt 3 (.pointer (some (sAddr A1 z1)))), .int .i64 (geti g3 z1)⟩] [some (.pointer (some (sAddr A1 z1))), some (.int .i64 (geti g3 z1)), none] [1, 2, 7, 9, 25, 26, 27] [pl 1 (.int .i64 k1), pl 2 (.pointer (some ⟨g4, 0, none⟩)), pl 7 (.pointer (some ⟨g5, 0, none⟩)), pl 9 (.int .i64 (geti g3 z1)), pl 25 (.slice A1 g3.length c1), pl 26 (.int .i64 (g3.length : Int)), pl 27 (.int .i64 z1)] hF hS Fol (by kernel_rfl) (by kernel_rfl) (by kernel_rfl) ?_ (fun a w hF hS => ?_)
          · exact obs_cons (ob_ix1 (f := (Value.int .i64)) (m := g3) Und40 hi3 hs3 (hr_g3 _ (hS.dropN 2)) rfl (fun _ => hp1)) <| obs_cons (ob_get1 (n := g3.length) (m := g3) (Value.int .i64) (0 : Int) Agg3 (fun _ hS => ⟨_, (hr_g3 _ (hS.dropN 2))⟩) (fun _ hS => rfl) (fun _ => hp1)) <| obs_nil
          refine oneR ?_
          obtain ⟨hp2, hm⟩ := asrt_b hm
          obtain ⟨hp3, hm⟩ := asrt_b hm
          obtain ⟨hp4, hm⟩ := asrt_b hm
          refine at_run 5 [⟨true, [], vS (Instr.indexAt 158 (.pointer (some ⟨g5, 0, none⟩)) (.int .i64 (geti g3 z1))), .pointer (some ((⟨g5, 0, none⟩ : Addr).add (Int.toNat (geti g3 z1) * 1)))⟩, ⟨false, [], vS (Instr.loadAt 3 (.pointer (some ((⟨g5, 0, none⟩ : Addr).add (Int.toNat (geti g3 z1) * 1))))), .int .i64 (geti many1 (geti g3 z1))⟩, ⟨true, [], vS (Instr.indexAt 158 (.pointer (some ⟨g5, 0, none⟩)) (.int .i64 (geti g3 z1))), .pointer (some ((⟨g5, 0, none⟩ : Addr).add (Int.toNat (geti g3 z1) * 1)))⟩] [none, some (.pointer (some ((⟨g5, 0, none⟩ : Addr).add (Int.toNat (geti g3 z1) * 1)))), some (.int .i64 (geti many1 (geti g3 z1))), none, some (.pointer (some ((⟨g5, 0, none⟩ : Addr).add (Int.toNat (geti g3 z1) * 1))))] [1, 2, 7, 25, 26, 27, 34, 35] [pl 1 (.int .i64 k1), pl 2 (.pointer (some ⟨g4, 0, none⟩)), pl 7 (.pointer (some ⟨g5, 0, none⟩)), pl 25 (.slice A1 g3.length c1), pl 26 (.int .i64 (g3.length : Int)), pl 27 (.int .i64 z1), pl 34 (.int .i64 (w64 ((geti many1 (geti g3 z1)) + 1))), pl 35 (.pointer (some ((⟨g5, 0, none⟩ : Addr).add (Int.toNat (geti g3 z1) * 1))))] hF hS (by kernel_rfl) (by kernel_rfl) ?_ (fun a w hF hS => ?_)
          · exact obs_cons (ob_ixA UndA158 hi3 hs3 (fun _ => hp2)) <| obs_cons (ob_getA (m := many1) (Value.int .i64) (0 : Int) 3 ([] : List Value) ([] : List Value) (geti g3 z1) Agg3 rfl (fun _ hS => ⟨_, _, _, _, _, hS.at_ 1 rfl⟩) (fun hy => by have h0 := hp2; omega)) <| obs_cons (ob_ixA UndA158 hi3 hs3 (fun _ => hp3)) <| obs_nil
          obtain ⟨w, hrun, hS⟩ := run_setA (P := Try.prog) (t := 3) (x := (w64 ((geti many1 (geti g3 z1)) + 1))) (i := (geti g3 z1)) (m := many1) (d := Int.toNat (geti g3 z1) * 1) (Value.int .i64) (0 : Int) 3 ([] : List Value) ([] : List Value) (hS.at_ 1 rfl) rfl hi3 hs3 rfl (by have h0 := hp3; omega) (by have h0 := hp3; have h9 := hp4; omega)
          refine at_skip hF (by kernel_rfl) hrun ?_
          have hS : Sep w0 B w (blk g4 82 #[.int .i64 g1, .int .i64 g2, .slice A1 g3.length c1] :: blk g5 158 (List.toArray (([] : List Value) ++ (arr1 (Value.int .i64) (0 : Int) 3 (many1.set (Int.toNat (geti g3 z1)) (w64 ((geti many1 (geti g3 z1)) + 1))) ++ ([] : List Value)))) :: fs) := hS
          refine at_end [1, 2, 7, 25, 26, 27] [pl 1 (.int .i64 k1), pl 2 (.pointer (some ⟨g4, 0, none⟩)), pl 7 (.pointer (some ⟨g5, 0, none⟩)), pl 25 (.slice A1 g3.length c1), pl 26 (.int .i64 (g3.length : Int)), pl 27 (.int .i64 z1)] hF rfl (by kernel_rfl) (fun hF => ?_)
          refine block_n ?_
          refine then_n ?_
          exact ⟨hF.weak [1, 2, 7, 25, 26, 27] (by kernel_rfl), hS, hm⟩
      · refine cond_ev (t := 28) (b := decide (z1 < (g3.length : Int))) hF (by kernel_rfl) (fun hb => ?_) (fun hb => ?_)
        · replace hm := if_t hm hb
          refine wp_skip ?_
          refine then_n ?_
          exact ⟨hF.weak [1, 2, 7, 25, 26, 27] (by kernel_rfl), hS, hm⟩
        · replace hm := if_f hm hb
          refine wp_exit ?_
          refine then_e (then_e (block_e (then_n ?_)))
          rw [← hφ1] at hm
          replace hm := done_b hm
          unfold rows_Solve_K1 at hm
          try dsimp only at hm
          have hm : ((rows_Solve_J2 g1 g2 g3 k1) many1).bind some = some r := hm
          exact ⟨many1, hF.weak [1, 2, 7] (by kernel_rfl), hS, hm⟩
  · refine wp_block ?_
    obtain ⟨r1, hr1, hm⟩ := call_b hm
    refine reg [⟨false, [], vS (Instr.loadAt 82 (.pointer (some ⟨g4, 0, none⟩))), .agg #[.int .i64 g1, .int .i64 g2, .slice A1 g3.length c1]⟩, ⟨false, [], callFunc 113 #[.agg #[.int .i64 g1, .int .i64 g2, .slice A1 g3.length c1]], .bool r1⟩] [some (.agg #[.int .i64 g1, .int .i64 g2, .slice A1 g3.length c1]), some (.bool r1), none, none] [1, 2, 13] [pl 1 (.int .i64 k1), pl 2 (.pointer (some ⟨g4, 0, none⟩)), pl 13 (.bool (!r1))] hF hS Fol (by kernel_rfl) (by kernel_rfl) (by kernel_rfl) ?_ (fun a w hF hS => ?_)
    · exact obs_cons (ob_loadA (cs := #[.int .i64 g1, .int .i64 g2, .slice A1 g3.length c1]) (by kernel_rfl) (by kernel_rfl) (fun _ _ hS => (hS.at_ 0 rfl).cellsAt 0 (by rfl))) <| obs_cons (ob_call Try.func113 (by kernel_rfl) rfl (fun _ _ hS => rows_May_w hr1 hS (fun _ hS => (hr_g3 _ (hS.dropN 1))) _hc_g3 rfl)) <| obs_nil
    refine cond_ev (t := 13) (b := !r1) hF (by kernel_rfl) (fun hb => ?_) (fun hb => ?_)
    · replace hm := if_t hm hb
      refine reg [] [] [4, 5, 6] [pl 4 (.int .i64 0), pl 5 (.slice none 0 0), pl 6 (.int .i64 12)] hF hS Fol (by kernel_rfl) (by kernel_rfl) (by kernel_rfl) ?_ (fun a w hF hS => ?_)
      · exact obs_nil
      refine wp_ret ?_
      refine block_r (then_r ?_)
      have hS : Sep w0 B w (own 3 (.slice none 0 0) (vI ([] : List Int)) :: blk g4 82 #[.int .i64 g1, .int .i64 g2, .slice A1 g3.length c1] :: fs) := hS.nil 3
      have hl1 := (hS.at_ 0 rfl).len1
      have hS := (hS.at_ 0 rfl).reN hl1
      have hS : Sep w0 B w (own 3 (.slice none (([] : List Int).length) 0) (vI ([] : List Int)) :: blk g4 82 #[.int .i64 g1, .int .i64 g2, .slice A1 g3.length c1] :: fs) := hS
      have hS := hS.pickN 2 [0] (by decide)
      have hm : some (0, ([] : List Int), 12) = some r := hm
      obtain rfl := Option.some.inj hm
      exact retV (rs := [.tmp 4, .tmp 5, .tmp 6]) (vs := [.int .i64 0, .slice none (([] : List Int).length) 0, .int .i64 12]) hF rfl (rv_t (by kernel_rfl) <| rv_t (by kernel_rfl) <| rv_t (by kernel_rfl) <| rv_nil) rfl ⟨_, rfl, none, 0, rfl, hS⟩
    · replace hm := if_f hm hb
      refine reg [] [] [1, 2, 17] [pl 1 (.int .i64 k1), pl 2 (.pointer (some ⟨g4, 0, none⟩)), pl 17 (.bool ((decide (k1 < 1)) || (decide ((10 : Int) < k1))))] hF hS Fol (by kernel_rfl) (by kernel_rfl) (by kernel_rfl) ?_ (fun a w hF hS => ?_)
      · exact obs_nil
      refine cond_ev (t := 17) (b := (decide (k1 < 1)) || (decide ((10 : Int) < k1))) hF (by kernel_rfl) (fun hb => ?_) (fun hb => ?_)
      · replace hm := if_t hm hb
        refine reg [] [] [4, 5, 6] [pl 4 (.int .i64 0), pl 5 (.slice none 0 0), pl 6 (.int .i64 3)] hF hS Fol (by kernel_rfl) (by kernel_rfl) (by kernel_rfl) ?_ (fun a w hF hS => ?_)
        · exact obs_nil
        refine wp_ret ?_
        refine block_r (then_r ?_)
        have hS : Sep w0 B w (own 3 (.slice none 0 0) (vI ([] : List Int)) :: blk g4 82 #[.int .i64 g1, .int .i64 g2, .slice A1 g3.length c1] :: fs) := hS.nil 3
        have hl2 := (hS.at_ 0 rfl).len1
        have hS := (hS.at_ 0 rfl).reN hl2
        have hS : Sep w0 B w (own 3 (.slice none (([] : List Int).length) 0) (vI ([] : List Int)) :: blk g4 82 #[.int .i64 g1, .int .i64 g2, .slice A1 g3.length c1] :: fs) := hS
        have hS := hS.pickN 2 [0] (by decide)
        have hm : some (0, ([] : List Int), 3) = some r := hm
        obtain rfl := Option.some.inj hm
        exact retV (rs := [.tmp 4, .tmp 5, .tmp 6]) (vs := [.int .i64 0, .slice none (([] : List Int).length) 0, .int .i64 3]) hF rfl (rv_t (by kernel_rfl) <| rv_t (by kernel_rfl) <| rv_t (by kernel_rfl) <| rv_nil) rfl ⟨_, rfl, none, 0, rfl, hS⟩
      · replace hm := if_f hm hb
        refine wp_skip ?_
        refine block_n ?_
        refine then_n ?_
        exact ⟨hF.weak [1, 2] (by kernel_rfl), hS, hm⟩

noncomputable def gameroomref_within_m (n1 : Int) (low1 : Int) (high1 : Int) : Option Bool :=
  some ((decide (low1 ≤ n1)) && (decide (n1 ≤ high1)))

set_option maxRecDepth 100000 in
set_option maxHeartbeats 4000000 in
theorem gameroomref_within_w {n1 : Int} {low1 : Int} {high1 : Int} {r : Bool} {w0 w : World} {B : Nat} {fs : List HP} (hm : gameroomref_within_m n1 low1 high1 = some r) (hS : Sep w0 B w (fs)) :
    Calls Try.prog 90 #[.int .i64 n1, .int .i64 low1, .int .i64 high1] w fun e w' => e = .returned (.bool r) ∧ Sep w0 B w' (fs) := by
  unfold gameroomref_within_m at hm
  replace hm := start_b hm
  refine enter (l := [.int .i64 n1, .int .i64 low1, .int .i64 high1]) (n := 15) Try.func90 rfl rfl (by simp) (fun a hF => ?_)
  refine reg [] [] [0, 1, 2] [pl 0 (.int .i64 n1), pl 1 (.int .i64 low1), pl 2 (.int .i64 high1)] hF hS Fol (by kernel_rfl) (by kernel_rfl) (by kernel_rfl) ?_ (fun a w hF hS => ?_)
  · exact obs_nil
  refine reg [] [] [6] [pl 6 (.bool ((decide (low1 ≤ n1)) && (decide (n1 ≤ high1))))] hF hS Fol (by kernel_rfl) (by kernel_rfl) (by kernel_rfl) ?_ (fun a w hF hS => ?_)
  · exact obs_nil
  refine wp_ret ?_
  have hm : some ((decide (low1 ≤ n1)) && (decide (n1 ≤ high1))) = some r := hm
  obtain rfl := Option.some.inj hm
  exact retV (rs := [.tmp 6]) (vs := [.bool ((decide (low1 ≤ n1)) && (decide (n1 ≤ high1)))]) hF rfl (rv_t (by kernel_rfl) <| rv_nil) rfl ⟨rfl, hS⟩

noncomputable def gameroomref_GridMay_J4 (i1 : Int) : Option (St Int (Fl Unit Bool)) :=
  some (.next (w64 (i1 + 1)))

noncomputable def gameroomref_GridMay_J3 (g3 : List Int) (i1 : Int) : Option (St Int (Fl Unit Bool)) :=
  asrt (0 ≤ i1 ∧ i1 < (g3.length : Int)) <| (gameroomref_within_m (geti g3 i1) 0 2).bind fun r3 => if (!r3) then (some (.done (.ret false))) else ((gameroomref_GridMay_J4 i1))

noncomputable def gameroomref_GridMay_J2 : Option Bool :=
  some true

noncomputable def gameroomref_GridMay_K1 : (Fl Unit Bool) → Option Bool :=
  fun (x : (Fl Unit Bool)) => match x with | .go _ => gameroomref_GridMay_J2 | .ret x => some x

noncomputable def gameroomref_GridMay_L1 (g3 : List Int) : Int → Option (St Int (Fl Unit Bool)) :=
  fun (x : Int) => match x with | i1 => if (decide (i1 < (g3.length : Int))) then ((gameroomref_GridMay_J3 g3 i1)) else (some (.done (.go ())))

noncomputable def gameroomref_GridMay_J1 (g3 : List Int) : Option Bool :=
  (loop (gameroomref_GridMay_L1 g3) 0).bind gameroomref_GridMay_K1

noncomputable def gameroomref_GridMay_m (g1 : Int) (g2 : Int) (g3 : List Int) : Option Bool :=
  (gameroomref_within_m g1 1 10).bind fun r1 => ((if (!(!r1)) then gameroomref_within_m g2 1 10 else some false)).bind fun r2 => if (((!r1) || (!r2)) || ((g3.length : Int) != (w64 (g1 * g2)))) then (some false) else ((gameroomref_GridMay_J1 g3))

set_option maxRecDepth 100000 in
set_option maxHeartbeats 4000000 in
theorem gameroomref_GridMay_w {g1 : Int} {g2 : Int} {A1 : Option Addr} {c1 : Nat} {n1 : Nat} {g3 : List Int} {r : Bool} {w0 w : World} {B : Nat} {fs : List HP} (hm : gameroomref_GridMay_m g1 g2 g3 = some r) (hS : Sep w0 B w (fs)) (hr_g3 : RdF w0 B fs A1 (vI g3)) (_hc_g3 : g3.length ≤ c1) (_hn_g3 : n1 = g3.length) :
    Calls Try.prog 61 #[.agg #[.int .i64 g1, .int .i64 g2, .slice A1 n1 c1]] w fun e w' => e = .returned (.bool r) ∧ Sep w0 B w' (fs) := by
  obtain ⟨i3, hi3, hz3, hs3, hb3⟩ := info_parts Info3
  obtain rfl := _hn_g3
  unfold gameroomref_GridMay_m at hm
  replace hm := start_b hm
  refine enter (l := [.agg #[.int .i64 g1, .int .i64 g2, .slice A1 g3.length c1]]) (n := 39) Try.func61 rfl rfl (by simp) (fun a hF => ?_)
  refine seqR ?_
  refine at_do (d := 1) (s := vS (Instr.box 82 (.agg #[.int .i64 g1, .int .i64 g2, .slice A1 g3.length c1]))) (v := .pointer (some ⟨w.heap.size, 0, none⟩)) (w' := w.alloc (.cells #[.int .i64 g1, .int .i64 g2, .slice A1 g3.length c1] 82)) hF (by kernel_rfl) (by kernel_rfl) (by kernel_rfl) (fun a hF => ?_)
  have hS : Sep w0 B (w.alloc (.cells #[.int .i64 g1, .int .i64 g2, .slice A1 g3.length c1] 82)) (blk w.heap.size 82 #[.int .i64 g1, .int .i64 g2, .slice A1 g3.length c1] :: (fs)) := hS.box 82 #[.int .i64 g1, .int .i64 g2, .slice A1 g3.length c1]
  generalize w.heap.size = g4 at hF hS
  generalize w.alloc (.cells #[.int .i64 g1, .int .i64 g2, .slice A1 g3.length c1] 82) = w at hS ⊢
  refine at_run 1 [] [] [1] [pl 1 (.pointer (some ⟨g4, 0, none⟩))] hF hS (by kernel_rfl) (by kernel_rfl) ?_ (fun a w hF hS => ?_)
  · exact obs_nil
  refine at_end [1] [pl 1 (.pointer (some ⟨g4, 0, none⟩))] hF rfl (by kernel_rfl) (fun hF => ?_)
  refine then_n ?_
  refine seq_cut (fun a w => Fr 39 [pl 1 (.pointer (some ⟨g4, 0, none⟩))] a ∧ Sep w0 B w (blk g4 82 #[.int .i64 g1, .int .i64 g2, .slice A1 g3.length c1] :: fs) ∧ ((gameroomref_GridMay_J1 g3)).bind some = some r) ?_ ?_
  · rintro a w ⟨hF, hS, hm⟩
    unfold gameroomref_GridMay_J1 at hm
    refine seq_cut (fun a w => Fr 39 [] a ∧ Sep w0 B w (fs) ∧ (gameroomref_GridMay_J2).bind some = some r) ?_ ?_
    · rintro a w ⟨hF, hS, hm⟩
      unfold gameroomref_GridMay_J2 at hm
      refine reg [] [] [2] [pl 2 (.bool true)] hF hS Fol (by kernel_rfl) (by kernel_rfl) (by kernel_rfl) ?_ (fun a w hF hS => ?_)
      · exact obs_nil
      refine wp_ret ?_
      have hm : some true = some r := hm
      obtain rfl := Option.some.inj hm
      exact retV (rs := [.tmp 2]) (vs := [.bool true]) hF rfl (rv_t (by kernel_rfl) <| rv_nil) rfl ⟨rfl, hS⟩
    · refine reg [] [] [1, 3] [pl 1 (.pointer (some ⟨g4, 0, none⟩)), pl 3 (.int .i64 0)] hF hS Fol (by kernel_rfl) (by kernel_rfl) (by kernel_rfl) ?_ (fun a w hF hS => ?_)
      · exact obs_nil
      refine wp_block ?_
      refine wp_loop_model (S := Int) (R := (Fl Unit Bool)) (gameroomref_GridMay_L1 g3) (fun x => (gameroomref_GridMay_K1 x).bind some) r (fun (x : Int) a w => Fr 39 [pl 1 (.pointer (some ⟨g4, 0, none⟩)), pl 3 (.int .i64 x)] a ∧ Sep w0 B w (blk g4 82 #[.int .i64 g1, .int .i64 g2, .slice A1 g3.length c1] :: fs)) (assoc_b hm) ⟨hF.weak [1, 3] (by kernel_rfl), hS⟩ ?_
      clear hF hS hm
      rintro nn1 i1 a w ⟨hF, hS⟩ hm
      generalize hφ1 : stK (gameroomref_GridMay_L1 g3) nn1 (fun x => (gameroomref_GridMay_K1 x).bind some) = φ1 at hm
      unfold gameroomref_GridMay_L1 at hm
      dsimp only at hm
      refine seq_cut (fun a w => Fr 39 [pl 1 (.pointer (some ⟨g4, 0, none⟩)), pl 3 (.int .i64 i1)] a ∧ Sep w0 B w (blk g4 82 #[.int .i64 g1, .int .i64 g2, .slice A1 g3.length c1] :: fs) ∧ ((gameroomref_GridMay_J3 g3 i1)).bind φ1 = some r) ?_ ?_
      · rintro a w ⟨hF, hS, hm⟩
        unfold gameroomref_GridMay_J3 at hm
        refine seq_cut (fun a w => Fr 39 [pl 1 (.pointer (some ⟨g4, 0, none⟩)), pl 3 (.int .i64 i1)] a ∧ Sep w0 B w (blk g4 82 #[.int .i64 g1, .int .i64 g2, .slice A1 g3.length c1] :: fs) ∧ ((gameroomref_GridMay_J4 i1)).bind φ1 = some r) ?_ ?_
        · rintro a w ⟨hF, hS, hm⟩
          unfold gameroomref_GridMay_J4 at hm
          refine reg1 [] [] [1, 3] [pl 1 (.pointer (some ⟨g4, 0, none⟩)), pl 3 (.int .i64 (w64 (i1 + 1)))] hF hS Fol (by kernel_rfl) (by kernel_rfl) (by kernel_rfl) ?_ (fun a w hF hS => ?_)
          · exact obs_nil
          refine then_n ?_
          rw [← hφ1] at hm
          exact ⟨(w64 (i1 + 1)), ⟨hF.weak [1, 3] (by kernel_rfl), hS⟩, hm⟩
        · refine wp_block ?_
          obtain ⟨hp1, hm⟩ := asrt_b hm
          obtain ⟨r3, hr3, hm⟩ := call_b hm
          refine reg [⟨false, [], vS (Instr.loadAt 40 (.pointer (some ⟨g4, 2, none⟩))), .slice A1 g3.length c1⟩, ⟨true, [], vS (Instr.indexAt 40 (.slice A1 g3.length c1) (.int .i64 i1)), .pointer (some (sAddr A1 i1))⟩, ⟨false, [], vS (Instr.loadAt 3 (.pointer (some (sAddr A1 i1)))), .int .i64 (geti g3 i1)⟩, ⟨false, [], callFunc 90 #[.int .i64 (geti g3 i1), .int .i64 0, .int .i64 2], .bool r3⟩] [none, some (.slice A1 g3.length c1), none, some (.pointer (some (sAddr A1 i1))), some (.int .i64 (geti g3 i1)), some (.bool r3), none] [1, 3, 38] [pl 1 (.pointer (some ⟨g4, 0, none⟩)), pl 3 (.int .i64 i1), pl 38 (.bool (!r3))] hF hS Fol (by kernel_rfl) (by kernel_rfl) (by kernel_rfl) ?_ (fun a w hF hS => ?_)
          · exact obs_cons (ob_load Agg40 (fun _ _ hS => (hS.at_ 0 rfl).cell rfl)) <| obs_cons (ob_ix1 (f := (Value.int .i64)) (m := g3) Und40 hi3 hs3 (hr_g3 _ (hS.dropN 1)) rfl (fun _ => hp1)) <| obs_cons (ob_get1 (n := g3.length) (m := g3) (Value.int .i64) (0 : Int) Agg3 (fun _ hS => ⟨_, (hr_g3 _ (hS.dropN 1))⟩) (fun _ hS => rfl) (fun _ => hp1)) <| obs_cons (ob_call Try.func90 (by kernel_rfl) rfl (fun _ _ hS => gameroomref_within_w hr3 hS )) <| obs_nil
          refine cond_ev (t := 38) (b := !r3) hF (by kernel_rfl) (fun hb => ?_) (fun hb => ?_)
          · replace hm := if_t hm hb
            refine reg [] [] [2] [pl 2 (.bool false)] hF hS Fol (by kernel_rfl) (by kernel_rfl) (by kernel_rfl) ?_ (fun a w hF hS => ?_)
            · exact obs_nil
            refine wp_ret ?_
            refine block_r (then_r (then_r (block_r (then_r ?_))))
            rw [← hφ1] at hm
            replace hm := done_b hm
            unfold gameroomref_GridMay_K1 at hm
            try dsimp only at hm
            have hS := hS.pickN 1 [] (by decide)
            have hm : some false = some r := hm
            obtain rfl := Option.some.inj hm
            exact retV (rs := [.tmp 2]) (vs := [.bool false]) hF rfl (rv_t (by kernel_rfl) <| rv_nil) rfl ⟨rfl, hS⟩
          · replace hm := if_f hm hb
            refine wp_skip ?_
            refine block_n ?_
            refine then_n ?_
            exact ⟨hF.weak [1, 3] (by kernel_rfl), hS, hm⟩
      · refine reg [⟨false, [], vS (Instr.loadAt 40 (.pointer (some ⟨g4, 2, none⟩))), .slice A1 g3.length c1⟩] [none, none, some (.slice A1 g3.length c1), none, none] [1, 3, 29] [pl 1 (.pointer (some ⟨g4, 0, none⟩)), pl 3 (.int .i64 i1), pl 29 (.bool (decide (i1 < (g3.length : Int))))] hF hS Fol (by kernel_rfl) (by kernel_rfl) (by kernel_rfl) ?_ (fun a w hF hS => ?_)
        · exact obs_cons (ob_load Agg40 (fun _ _ hS => (hS.at_ 0 rfl).cell rfl)) <| obs_nil
        refine cond_ev (t := 29) (b := decide (i1 < (g3.length : Int))) hF (by kernel_rfl) (fun hb => ?_) (fun hb => ?_)
        · replace hm := if_t hm hb
          refine wp_skip ?_
          refine then_n ?_
          exact ⟨hF.weak [1, 3] (by kernel_rfl), hS, hm⟩
        · replace hm := if_f hm hb
          refine wp_exit ?_
          refine then_e (then_e (block_e (then_n ?_)))
          have hS := hS.pickN 1 [] (by decide)
          rw [← hφ1] at hm
          replace hm := done_b hm
          unfold gameroomref_GridMay_K1 at hm
          try dsimp only at hm
          have hm : (gameroomref_GridMay_J2).bind some = some r := hm
          exact ⟨hF.weak [] (by kernel_rfl), hS, hm⟩
  · obtain ⟨r1, hr1, hm⟩ := call_b hm
    obtain ⟨r2, hr2, hm⟩ := call_b hm
    refine reg [⟨false, [], vS (Instr.loadAt 3 (.pointer (some ⟨g4, 0, none⟩))), .int .i64 g1⟩, ⟨false, [], callFunc 90 #[.int .i64 g1, .int .i64 1, .int .i64 10], .bool r1⟩, ⟨false, [(!r1, false)], vS (Instr.loadAt 3 (.pointer (some ⟨g4, 1, none⟩))), .int .i64 g2⟩, ⟨false, [(!r1, false)], callFunc 90 #[.int .i64 g2, .int .i64 1, .int .i64 10], .bool r2⟩, ⟨false, [((!r1) || (!r2), false)], vS (Instr.loadAt 40 (.pointer (some ⟨g4, 2, none⟩))), .slice A1 g3.length c1⟩, ⟨false, [((!r1) || (!r2), false)], vS (Instr.loadAt 3 (.pointer (some ⟨g4, 0, none⟩))), .int .i64 g1⟩, ⟨false, [((!r1) || (!r2), false)], vS (Instr.loadAt 3 (.pointer (some ⟨g4, 1, none⟩))), .int .i64 g2⟩] [none, some (.int .i64 g1), some (.bool r1), none, none, none, some (.int .i64 g2), some (.bool r2), none, none, none, none, some (.slice A1 g3.length c1), none, none, some (.int .i64 g1), none, some (.int .i64 g2), none, none, none] [1, 24] [pl 1 (.pointer (some ⟨g4, 0, none⟩)), pl 24 (.bool (((!r1) || (!r2)) || ((g3.length : Int) != (w64 (g1 * g2)))))] hF hS Fol (by kernel_rfl) (by kernel_rfl) (by kernel_rfl) ?_ (fun a w hF hS => ?_)
    · exact obs_cons (ob_load Agg3 (fun _ _ hS => (hS.at_ 0 rfl).cell rfl)) <| obs_cons (ob_call Try.func90 (by kernel_rfl) rfl (fun _ _ hS => gameroomref_within_w hr1 hS )) <| obs_cons (ob_load Agg3 (fun _ _ hS => (hS.at_ 0 rfl).cell rfl)) <| obs_cons (ob_call Try.func90 (by kernel_rfl) rfl (fun hy _ hS => gameroomref_within_w (ite_some hr2 (by rw [show (!r1) = false from hy (!r1, false) (by simp)]; try rfl)) hS )) <| obs_cons (ob_load Agg40 (fun _ _ hS => (hS.at_ 0 rfl).cell rfl)) <| obs_cons (ob_load Agg3 (fun _ _ hS => (hS.at_ 0 rfl).cell rfl)) <| obs_cons (ob_load Agg3 (fun _ _ hS => (hS.at_ 0 rfl).cell rfl)) <| obs_nil
    refine cond_ev (t := 24) (b := ((!r1) || (!r2)) || ((g3.length : Int) != (w64 (g1 * g2)))) hF (by kernel_rfl) (fun hb => ?_) (fun hb => ?_)
    · replace hm := if_t hm hb
      refine reg [] [] [2] [pl 2 (.bool false)] hF hS Fol (by kernel_rfl) (by kernel_rfl) (by kernel_rfl) ?_ (fun a w hF hS => ?_)
      · exact obs_nil
      refine wp_ret ?_
      refine then_r ?_
      have hS := hS.pickN 1 [] (by decide)
      have hm : some false = some r := hm
      obtain rfl := Option.some.inj hm
      exact retV (rs := [.tmp 2]) (vs := [.bool false]) hF rfl (rv_t (by kernel_rfl) <| rv_nil) rfl ⟨rfl, hS⟩
    · replace hm := if_f hm hb
      refine wp_skip ?_
      refine then_n ?_
      exact ⟨hF.weak [1] (by kernel_rfl), hS, hm⟩

noncomputable def gameroomref_GridMover_J3 (i1 : Int) (n5 : Int) : Option (St (Int × Int) Int) :=
  some (.next (n5, (w64 (i1 + 1))))

noncomputable def gameroomref_GridMover_J4 (g3 : List Int) (i1 : Int) (n4 : Int) : Option (St (Int × Int) Int) :=
  asrt (0 ≤ i1 ∧ i1 < (g3.length : Int)) <| if ((geti g3 i1) == 2) then ((gameroomref_GridMover_J3 i1) (w64 (n4 - 1))) else ((gameroomref_GridMover_J3 i1) n4)

noncomputable def gameroomref_GridMover_J2 (g3 : List Int) (n2 : Int) (i1 : Int) : Option (St (Int × Int) Int) :=
  asrt (0 ≤ i1 ∧ i1 < (g3.length : Int)) <| if ((geti g3 i1) == 1) then ((gameroomref_GridMover_J4 g3 i1) (w64 (n2 + 1))) else ((gameroomref_GridMover_J4 g3 i1) n2)

noncomputable def gameroomref_GridMover_J6 : Option Int :=
  some 0

noncomputable def gameroomref_GridMover_J5 (n3 : Int) : Option Int :=
  if (n3 == 1) then (some 2) else (gameroomref_GridMover_J6)

noncomputable def gameroomref_GridMover_J1 (n3 : Int) : Option Int :=
  if (n3 == 0) then (some 1) else ((gameroomref_GridMover_J5 n3))

noncomputable def gameroomref_GridMover_K1 : Int → Option Int :=
  fun (x : Int) => match x with | n3 => gameroomref_GridMover_J1 n3

noncomputable def gameroomref_GridMover_L1 (g3 : List Int) : (Int × Int) → Option (St (Int × Int) Int) :=
  fun (x : (Int × Int)) => match x with | (n2, i1) => if (decide (i1 < (g3.length : Int))) then ((gameroomref_GridMover_J2 g3 n2 i1)) else (some (.done n2))

noncomputable def gameroomref_GridMover_m (g1 : Int) (g2 : Int) (g3 : List Int) : Option Int :=
  (loop (gameroomref_GridMover_L1 g3) (0, 0)).bind gameroomref_GridMover_K1

set_option maxRecDepth 100000 in
set_option maxHeartbeats 4000000 in
theorem gameroomref_GridMover_w {g1 : Int} {g2 : Int} {A1 : Option Addr} {c1 : Nat} {n1 : Nat} {g3 : List Int} {r : Int} {w0 w : World} {B : Nat} {fs : List HP} (hm : gameroomref_GridMover_m g1 g2 g3 = some r) (hS : Sep w0 B w (fs)) (hr_g3 : RdF w0 B fs A1 (vI g3)) (_hc_g3 : g3.length ≤ c1) (_hn_g3 : n1 = g3.length) :
    Calls Try.prog 62 #[.agg #[.int .i64 g1, .int .i64 g2, .slice A1 n1 c1]] w fun e w' => e = .returned (.int .i64 r) ∧ Sep w0 B w' (fs) := by
  obtain ⟨i3, hi3, hz3, hs3, hb3⟩ := info_parts Info3
  obtain rfl := _hn_g3
  unfold gameroomref_GridMover_m at hm
  replace hm := start_b hm
  refine enter (l := [.agg #[.int .i64 g1, .int .i64 g2, .slice A1 g3.length c1]]) (n := 32) Try.func62 rfl rfl (by simp) (fun a hF => ?_)
  refine seqR ?_
  refine at_do (d := 1) (s := vS (Instr.box 82 (.agg #[.int .i64 g1, .int .i64 g2, .slice A1 g3.length c1]))) (v := .pointer (some ⟨w.heap.size, 0, none⟩)) (w' := w.alloc (.cells #[.int .i64 g1, .int .i64 g2, .slice A1 g3.length c1] 82)) hF (by kernel_rfl) (by kernel_rfl) (by kernel_rfl) (fun a hF => ?_)
  have hS : Sep w0 B (w.alloc (.cells #[.int .i64 g1, .int .i64 g2, .slice A1 g3.length c1] 82)) (blk w.heap.size 82 #[.int .i64 g1, .int .i64 g2, .slice A1 g3.length c1] :: (fs)) := hS.box 82 #[.int .i64 g1, .int .i64 g2, .slice A1 g3.length c1]
  generalize w.heap.size = g4 at hF hS
  generalize w.alloc (.cells #[.int .i64 g1, .int .i64 g2, .slice A1 g3.length c1] 82) = w at hS ⊢
  refine at_run 1 [] [] [1] [pl 1 (.pointer (some ⟨g4, 0, none⟩))] hF hS (by kernel_rfl) (by kernel_rfl) ?_ (fun a w hF hS => ?_)
  · exact obs_nil
  refine at_end [1] [pl 1 (.pointer (some ⟨g4, 0, none⟩))] hF rfl (by kernel_rfl) (fun hF => ?_)
  refine then_n ?_
  refine reg [] [] [1, 3] [pl 1 (.pointer (some ⟨g4, 0, none⟩)), pl 3 (.int .i64 0)] hF hS Fol (by kernel_rfl) (by kernel_rfl) (by kernel_rfl) ?_ (fun a w hF hS => ?_)
  · exact obs_nil
  refine seq_cut (fun a w => ∃ (n3 : Int), Fr 32 [pl 3 (.int .i64 n3)] a ∧ Sep w0 B w (fs) ∧ (gameroomref_GridMover_J1 n3).bind some = some r) ?_ ?_
  · rintro a w ⟨n3, hF, hS, hm⟩
    unfold gameroomref_GridMover_J1 at hm
    refine seq_cut (fun a w => Fr 32 [pl 3 (.int .i64 n3)] a ∧ Sep w0 B w (fs) ∧ ((gameroomref_GridMover_J5 n3)).bind some = some r) ?_ ?_
    · rintro a w ⟨hF, hS, hm⟩
      unfold gameroomref_GridMover_J5 at hm
      refine seq_cut (fun a w => Fr 32 [] a ∧ Sep w0 B w (fs) ∧ (gameroomref_GridMover_J6).bind some = some r) ?_ ?_
      · rintro a w ⟨hF, hS, hm⟩
        unfold gameroomref_GridMover_J6 at hm
        refine reg [] [] [2] [pl 2 (.int .i64 0)] hF hS Fol (by kernel_rfl) (by kernel_rfl) (by kernel_rfl) ?_ (fun a w hF hS => ?_)
        · exact obs_nil
        refine wp_ret ?_
        have hm : some 0 = some r := hm
        obtain rfl := Option.some.inj hm
        exact retV (rs := [.tmp 2]) (vs := [.int .i64 0]) hF rfl (rv_t (by kernel_rfl) <| rv_nil) rfl ⟨rfl, hS⟩
      · refine reg [] [] [31] [pl 31 (.bool (n3 == 1))] hF hS Fol (by kernel_rfl) (by kernel_rfl) (by kernel_rfl) ?_ (fun a w hF hS => ?_)
        · exact obs_nil
        refine cond_ev (t := 31) (b := (n3 == 1)) hF (by kernel_rfl) (fun hb => ?_) (fun hb => ?_)
        · replace hm := if_t hm hb
          refine reg [] [] [2] [pl 2 (.int .i64 2)] hF hS Fol (by kernel_rfl) (by kernel_rfl) (by kernel_rfl) ?_ (fun a w hF hS => ?_)
          · exact obs_nil
          refine wp_ret ?_
          refine then_r ?_
          have hm : some 2 = some r := hm
          obtain rfl := Option.some.inj hm
          exact retV (rs := [.tmp 2]) (vs := [.int .i64 2]) hF rfl (rv_t (by kernel_rfl) <| rv_nil) rfl ⟨rfl, hS⟩
        · replace hm := if_f hm hb
          refine wp_skip ?_
          refine then_n ?_
          exact ⟨hF.weak [] (by kernel_rfl), hS, hm⟩
    · refine reg [] [] [3, 29] [pl 3 (.int .i64 n3), pl 29 (.bool (n3 == 0))] hF hS Fol (by kernel_rfl) (by kernel_rfl) (by kernel_rfl) ?_ (fun a w hF hS => ?_)
      · exact obs_nil
      refine cond_ev (t := 29) (b := (n3 == 0)) hF (by kernel_rfl) (fun hb => ?_) (fun hb => ?_)
      · replace hm := if_t hm hb
        refine reg [] [] [2] [pl 2 (.int .i64 1)] hF hS Fol (by kernel_rfl) (by kernel_rfl) (by kernel_rfl) ?_ (fun a w hF hS => ?_)
        · exact obs_nil
        refine wp_ret ?_
        refine then_r ?_
        have hm : some 1 = some r := hm
        obtain rfl := Option.some.inj hm
        exact retV (rs := [.tmp 2]) (vs := [.int .i64 1]) hF rfl (rv_t (by kernel_rfl) <| rv_nil) rfl ⟨rfl, hS⟩
      · replace hm := if_f hm hb
        refine wp_skip ?_
        refine then_n ?_
        exact ⟨hF.weak [3] (by kernel_rfl), hS, hm⟩
  · refine reg [] [] [1, 3, 4] [pl 1 (.pointer (some ⟨g4, 0, none⟩)), pl 3 (.int .i64 0), pl 4 (.int .i64 0)] hF hS Fol (by kernel_rfl) (by kernel_rfl) (by kernel_rfl) ?_ (fun a w hF hS => ?_)
    · exact obs_nil
    refine wp_block ?_
    refine wp_loop_model (S := (Int × Int)) (R := Int) (gameroomref_GridMover_L1 g3) (fun x => (gameroomref_GridMover_K1 x).bind some) r (fun (x : (Int × Int)) a w => Fr 32 [pl 1 (.pointer (some ⟨g4, 0, none⟩)), pl 3 (.int .i64 x.1), pl 4 (.int .i64 x.2)] a ∧ Sep w0 B w (blk g4 82 #[.int .i64 g1, .int .i64 g2, .slice A1 g3.length c1] :: fs)) (assoc_b hm) ⟨hF.weak [1, 3, 4] (by kernel_rfl), hS⟩ ?_
    clear hF hS hm
    rintro nn1 ⟨n2, i1⟩ a w ⟨hF, hS⟩ hm
    generalize hφ1 : stK (gameroomref_GridMover_L1 g3) nn1 (fun x => (gameroomref_GridMover_K1 x).bind some) = φ1 at hm
    unfold gameroomref_GridMover_L1 at hm
    dsimp only at hF hS hm
    refine seq_cut (fun a w => Fr 32 [pl 1 (.pointer (some ⟨g4, 0, none⟩)), pl 3 (.int .i64 n2), pl 4 (.int .i64 i1)] a ∧ Sep w0 B w (blk g4 82 #[.int .i64 g1, .int .i64 g2, .slice A1 g3.length c1] :: fs) ∧ ((gameroomref_GridMover_J2 g3 n2 i1)).bind φ1 = some r) ?_ ?_
    · rintro a w ⟨hF, hS, hm⟩
      unfold gameroomref_GridMover_J2 at hm
      refine seq_cut (fun a w => ∃ (n5 : Int), Fr 32 [pl 1 (.pointer (some ⟨g4, 0, none⟩)), pl 3 (.int .i64 n5), pl 4 (.int .i64 i1)] a ∧ Sep w0 B w (blk g4 82 #[.int .i64 g1, .int .i64 g2, .slice A1 g3.length c1] :: fs) ∧ ((gameroomref_GridMover_J3 i1) n5).bind φ1 = some r) ?_ ?_
      · rintro a w ⟨n5, hF, hS, hm⟩
        unfold gameroomref_GridMover_J3 at hm
        refine reg1 [] [] [1, 3, 4] [pl 1 (.pointer (some ⟨g4, 0, none⟩)), pl 3 (.int .i64 n5), pl 4 (.int .i64 (w64 (i1 + 1)))] hF hS Fol (by kernel_rfl) (by kernel_rfl) (by kernel_rfl) ?_ (fun a w hF hS => ?_)
        · exact obs_nil
        refine then_n ?_
        rw [← hφ1] at hm
        exact ⟨(n5, (w64 (i1 + 1))), ⟨hF.weak [1, 3, 4] (by kernel_rfl), hS⟩, hm⟩
      · refine wp_block ?_
        refine seq_cut (fun a w => ∃ (n4 : Int), Fr 32 [pl 1 (.pointer (some ⟨g4, 0, none⟩)), pl 3 (.int .i64 n4), pl 4 (.int .i64 i1)] a ∧ Sep w0 B w (blk g4 82 #[.int .i64 g1, .int .i64 g2, .slice A1 g3.length c1] :: fs) ∧ ((gameroomref_GridMover_J4 g3 i1) n4).bind φ1 = some r) ?_ ?_
        · rintro a w ⟨n4, hF, hS, hm⟩
          unfold gameroomref_GridMover_J4 at hm
          obtain ⟨hp2, hm⟩ := asrt_b hm
          refine reg [⟨false, [], vS (Instr.loadAt 40 (.pointer (some ⟨g4, 2, none⟩))), .slice A1 g3.length c1⟩, ⟨true, [], vS (Instr.indexAt 40 (.slice A1 g3.length c1) (.int .i64 i1)), .pointer (some (sAddr A1 i1))⟩, ⟨false, [], vS (Instr.loadAt 3 (.pointer (some (sAddr A1 i1)))), .int .i64 (geti g3 i1)⟩] [none, some (.slice A1 g3.length c1), none, some (.pointer (some (sAddr A1 i1))), some (.int .i64 (geti g3 i1)), none] [1, 3, 4, 25] [pl 1 (.pointer (some ⟨g4, 0, none⟩)), pl 3 (.int .i64 n4), pl 4 (.int .i64 i1), pl 25 (.bool ((geti g3 i1) == 2))] hF hS Fol (by kernel_rfl) (by kernel_rfl) (by kernel_rfl) ?_ (fun a w hF hS => ?_)
          · exact obs_cons (ob_load Agg40 (fun _ _ hS => (hS.at_ 0 rfl).cell rfl)) <| obs_cons (ob_ix1 (f := (Value.int .i64)) (m := g3) Und40 hi3 hs3 (hr_g3 _ (hS.dropN 1)) rfl (fun _ => hp2)) <| obs_cons (ob_get1 (n := g3.length) (m := g3) (Value.int .i64) (0 : Int) Agg3 (fun _ hS => ⟨_, (hr_g3 _ (hS.dropN 1))⟩) (fun _ hS => rfl) (fun _ => hp2)) <| obs_nil
          refine cond_ev (t := 25) (b := ((geti g3 i1) == 2)) hF (by kernel_rfl) (fun hb => ?_) (fun hb => ?_)
          · replace hm := if_t hm hb
            refine reg1 [] [] [1, 3, 4] [pl 1 (.pointer (some ⟨g4, 0, none⟩)), pl 3 (.int .i64 (w64 (n4 - 1))), pl 4 (.int .i64 i1)] hF hS Fol (by kernel_rfl) (by kernel_rfl) (by kernel_rfl) ?_ (fun a w hF hS => ?_)
            · exact obs_nil
            refine block_n ?_
            refine then_n ?_
            exact ⟨(w64 (n4 - 1)), hF.weak [1, 3, 4] (by kernel_rfl), hS, hm⟩
          · replace hm := if_f hm hb
            refine wp_skip ?_
            refine block_n ?_
            refine then_n ?_
            exact ⟨n4, hF.weak [1, 3, 4] (by kernel_rfl), hS, hm⟩
        · obtain ⟨hp1, hm⟩ := asrt_b hm
          refine reg [⟨false, [], vS (Instr.loadAt 40 (.pointer (some ⟨g4, 2, none⟩))), .slice A1 g3.length c1⟩, ⟨true, [], vS (Instr.indexAt 40 (.slice A1 g3.length c1) (.int .i64 i1)), .pointer (some (sAddr A1 i1))⟩, ⟨false, [], vS (Instr.loadAt 3 (.pointer (some (sAddr A1 i1)))), .int .i64 (geti g3 i1)⟩] [none, some (.slice A1 g3.length c1), none, some (.pointer (some (sAddr A1 i1))), some (.int .i64 (geti g3 i1)), none] [1, 3, 4, 17] [pl 1 (.pointer (some ⟨g4, 0, none⟩)), pl 3 (.int .i64 n2), pl 4 (.int .i64 i1), pl 17 (.bool ((geti g3 i1) == 1))] hF hS Fol (by kernel_rfl) (by kernel_rfl) (by kernel_rfl) ?_ (fun a w hF hS => ?_)
          · exact obs_cons (ob_load Agg40 (fun _ _ hS => (hS.at_ 0 rfl).cell rfl)) <| obs_cons (ob_ix1 (f := (Value.int .i64)) (m := g3) Und40 hi3 hs3 (hr_g3 _ (hS.dropN 1)) rfl (fun _ => hp1)) <| obs_cons (ob_get1 (n := g3.length) (m := g3) (Value.int .i64) (0 : Int) Agg3 (fun _ hS => ⟨_, (hr_g3 _ (hS.dropN 1))⟩) (fun _ hS => rfl) (fun _ => hp1)) <| obs_nil
          refine cond_ev (t := 17) (b := ((geti g3 i1) == 1)) hF (by kernel_rfl) (fun hb => ?_) (fun hb => ?_)
          · replace hm := if_t hm hb
            refine reg1 [] [] [1, 3, 4] [pl 1 (.pointer (some ⟨g4, 0, none⟩)), pl 3 (.int .i64 (w64 (n2 + 1))), pl 4 (.int .i64 i1)] hF hS Fol (by kernel_rfl) (by kernel_rfl) (by kernel_rfl) ?_ (fun a w hF hS => ?_)
            · exact obs_nil
            refine then_n ?_
            exact ⟨(w64 (n2 + 1)), hF.weak [1, 3, 4] (by kernel_rfl), hS, hm⟩
          · replace hm := if_f hm hb
            refine wp_skip ?_
            refine then_n ?_
            exact ⟨n2, hF.weak [1, 3, 4] (by kernel_rfl), hS, hm⟩
    · refine reg [⟨false, [], vS (Instr.loadAt 40 (.pointer (some ⟨g4, 2, none⟩))), .slice A1 g3.length c1⟩] [none, none, some (.slice A1 g3.length c1), none, none] [1, 3, 4, 9] [pl 1 (.pointer (some ⟨g4, 0, none⟩)), pl 3 (.int .i64 n2), pl 4 (.int .i64 i1), pl 9 (.bool (decide (i1 < (g3.length : Int))))] hF hS Fol (by kernel_rfl) (by kernel_rfl) (by kernel_rfl) ?_ (fun a w hF hS => ?_)
      · exact obs_cons (ob_load Agg40 (fun _ _ hS => (hS.at_ 0 rfl).cell rfl)) <| obs_nil
      refine cond_ev (t := 9) (b := decide (i1 < (g3.length : Int))) hF (by kernel_rfl) (fun hb => ?_) (fun hb => ?_)
      · replace hm := if_t hm hb
        refine wp_skip ?_
        refine then_n ?_
        exact ⟨hF.weak [1, 3, 4] (by kernel_rfl), hS, hm⟩
      · replace hm := if_f hm hb
        refine wp_exit ?_
        refine then_e (then_e (block_e (then_n ?_)))
        have hS := hS.pickN 1 [] (by decide)
        rw [← hφ1] at hm
        replace hm := done_b hm
        unfold gameroomref_GridMover_K1 at hm
        try dsimp only at hm
        have hm : (gameroomref_GridMover_J1 n2).bind some = some r := hm
        exact ⟨n2, hF.weak [3] (by kernel_rfl), hS, hm⟩

noncomputable def gameroomref_OpenPlaces_J3 (i1 : Int) (n4 : Int) : Option (St (Int × Int) Int) :=
  some (.next (n4, (w64 (i1 + 1))))

noncomputable def gameroomref_OpenPlaces_J2 (g3 : List Int) (n2 : Int) (i1 : Int) : Option (St (Int × Int) Int) :=
  asrt (0 ≤ i1 ∧ i1 < (g3.length : Int)) <| if ((geti g3 i1) == 0) then ((gameroomref_OpenPlaces_J3 i1) (w64 (n2 + 1))) else ((gameroomref_OpenPlaces_J3 i1) n2)

noncomputable def gameroomref_OpenPlaces_J1 (n3 : Int) : Option Int :=
  some n3

noncomputable def gameroomref_OpenPlaces_K1 : Int → Option Int :=
  fun (x : Int) => match x with | n3 => gameroomref_OpenPlaces_J1 n3

noncomputable def gameroomref_OpenPlaces_L1 (g3 : List Int) : (Int × Int) → Option (St (Int × Int) Int) :=
  fun (x : (Int × Int)) => match x with | (n2, i1) => if (decide (i1 < (g3.length : Int))) then ((gameroomref_OpenPlaces_J2 g3 n2 i1)) else (some (.done n2))

noncomputable def gameroomref_OpenPlaces_m (g1 : Int) (g2 : Int) (g3 : List Int) : Option Int :=
  (loop (gameroomref_OpenPlaces_L1 g3) (0, 0)).bind gameroomref_OpenPlaces_K1

set_option maxRecDepth 100000 in
set_option maxHeartbeats 4000000 in
theorem gameroomref_OpenPlaces_w {g1 : Int} {g2 : Int} {A1 : Option Addr} {c1 : Nat} {n1 : Nat} {g3 : List Int} {r : Int} {w0 w : World} {B : Nat} {fs : List HP} (hm : gameroomref_OpenPlaces_m g1 g2 g3 = some r) (hS : Sep w0 B w (fs)) (hr_g3 : RdF w0 B fs A1 (vI g3)) (_hc_g3 : g3.length ≤ c1) (_hn_g3 : n1 = g3.length) :
    Calls Try.prog 63 #[.agg #[.int .i64 g1, .int .i64 g2, .slice A1 n1 c1]] w fun e w' => e = .returned (.int .i64 r) ∧ Sep w0 B w' (fs) := by
  obtain ⟨i3, hi3, hz3, hs3, hb3⟩ := info_parts Info3
  obtain rfl := _hn_g3
  unfold gameroomref_OpenPlaces_m at hm
  replace hm := start_b hm
  refine enter (l := [.agg #[.int .i64 g1, .int .i64 g2, .slice A1 g3.length c1]]) (n := 21) Try.func63 rfl rfl (by simp) (fun a hF => ?_)
  refine seqR ?_
  refine at_do (d := 1) (s := vS (Instr.box 82 (.agg #[.int .i64 g1, .int .i64 g2, .slice A1 g3.length c1]))) (v := .pointer (some ⟨w.heap.size, 0, none⟩)) (w' := w.alloc (.cells #[.int .i64 g1, .int .i64 g2, .slice A1 g3.length c1] 82)) hF (by kernel_rfl) (by kernel_rfl) (by kernel_rfl) (fun a hF => ?_)
  have hS : Sep w0 B (w.alloc (.cells #[.int .i64 g1, .int .i64 g2, .slice A1 g3.length c1] 82)) (blk w.heap.size 82 #[.int .i64 g1, .int .i64 g2, .slice A1 g3.length c1] :: (fs)) := hS.box 82 #[.int .i64 g1, .int .i64 g2, .slice A1 g3.length c1]
  generalize w.heap.size = g4 at hF hS
  generalize w.alloc (.cells #[.int .i64 g1, .int .i64 g2, .slice A1 g3.length c1] 82) = w at hS ⊢
  refine at_run 1 [] [] [1] [pl 1 (.pointer (some ⟨g4, 0, none⟩))] hF hS (by kernel_rfl) (by kernel_rfl) ?_ (fun a w hF hS => ?_)
  · exact obs_nil
  refine at_end [1] [pl 1 (.pointer (some ⟨g4, 0, none⟩))] hF rfl (by kernel_rfl) (fun hF => ?_)
  refine then_n ?_
  refine reg [] [] [1, 3] [pl 1 (.pointer (some ⟨g4, 0, none⟩)), pl 3 (.int .i64 0)] hF hS Fol (by kernel_rfl) (by kernel_rfl) (by kernel_rfl) ?_ (fun a w hF hS => ?_)
  · exact obs_nil
  refine seq_cut (fun a w => ∃ (n3 : Int), Fr 21 [pl 3 (.int .i64 n3)] a ∧ Sep w0 B w (fs) ∧ (gameroomref_OpenPlaces_J1 n3).bind some = some r) ?_ ?_
  · rintro a w ⟨n3, hF, hS, hm⟩
    unfold gameroomref_OpenPlaces_J1 at hm
    refine reg [] [] [2] [pl 2 (.int .i64 n3)] hF hS Fol (by kernel_rfl) (by kernel_rfl) (by kernel_rfl) ?_ (fun a w hF hS => ?_)
    · exact obs_nil
    refine wp_ret ?_
    have hm : some n3 = some r := hm
    obtain rfl := Option.some.inj hm
    exact retV (rs := [.tmp 2]) (vs := [.int .i64 n3]) hF rfl (rv_t (by kernel_rfl) <| rv_nil) rfl ⟨rfl, hS⟩
  · refine reg [] [] [1, 3, 4] [pl 1 (.pointer (some ⟨g4, 0, none⟩)), pl 3 (.int .i64 0), pl 4 (.int .i64 0)] hF hS Fol (by kernel_rfl) (by kernel_rfl) (by kernel_rfl) ?_ (fun a w hF hS => ?_)
    · exact obs_nil
    refine wp_block ?_
    refine wp_loop_model (S := (Int × Int)) (R := Int) (gameroomref_OpenPlaces_L1 g3) (fun x => (gameroomref_OpenPlaces_K1 x).bind some) r (fun (x : (Int × Int)) a w => Fr 21 [pl 1 (.pointer (some ⟨g4, 0, none⟩)), pl 3 (.int .i64 x.1), pl 4 (.int .i64 x.2)] a ∧ Sep w0 B w (blk g4 82 #[.int .i64 g1, .int .i64 g2, .slice A1 g3.length c1] :: fs)) (assoc_b hm) ⟨hF.weak [1, 3, 4] (by kernel_rfl), hS⟩ ?_
    clear hF hS hm
    rintro nn1 ⟨n2, i1⟩ a w ⟨hF, hS⟩ hm
    generalize hφ1 : stK (gameroomref_OpenPlaces_L1 g3) nn1 (fun x => (gameroomref_OpenPlaces_K1 x).bind some) = φ1 at hm
    unfold gameroomref_OpenPlaces_L1 at hm
    dsimp only at hF hS hm
    refine seq_cut (fun a w => Fr 21 [pl 1 (.pointer (some ⟨g4, 0, none⟩)), pl 3 (.int .i64 n2), pl 4 (.int .i64 i1)] a ∧ Sep w0 B w (blk g4 82 #[.int .i64 g1, .int .i64 g2, .slice A1 g3.length c1] :: fs) ∧ ((gameroomref_OpenPlaces_J2 g3 n2 i1)).bind φ1 = some r) ?_ ?_
    · rintro a w ⟨hF, hS, hm⟩
      unfold gameroomref_OpenPlaces_J2 at hm
      refine seq_cut (fun a w => ∃ (n4 : Int), Fr 21 [pl 1 (.pointer (some ⟨g4, 0, none⟩)), pl 3 (.int .i64 n4), pl 4 (.int .i64 i1)] a ∧ Sep w0 B w (blk g4 82 #[.int .i64 g1, .int .i64 g2, .slice A1 g3.length c1] :: fs) ∧ ((gameroomref_OpenPlaces_J3 i1) n4).bind φ1 = some r) ?_ ?_
      · rintro a w ⟨n4, hF, hS, hm⟩
        unfold gameroomref_OpenPlaces_J3 at hm
        refine reg1 [] [] [1, 3, 4] [pl 1 (.pointer (some ⟨g4, 0, none⟩)), pl 3 (.int .i64 n4), pl 4 (.int .i64 (w64 (i1 + 1)))] hF hS Fol (by kernel_rfl) (by kernel_rfl) (by kernel_rfl) ?_ (fun a w hF hS => ?_)
        · exact obs_nil
        refine then_n ?_
        rw [← hφ1] at hm
        exact ⟨(n4, (w64 (i1 + 1))), ⟨hF.weak [1, 3, 4] (by kernel_rfl), hS⟩, hm⟩
      · refine wp_block ?_
        obtain ⟨hp1, hm⟩ := asrt_b hm
        refine reg [⟨false, [], vS (Instr.loadAt 40 (.pointer (some ⟨g4, 2, none⟩))), .slice A1 g3.length c1⟩, ⟨true, [], vS (Instr.indexAt 40 (.slice A1 g3.length c1) (.int .i64 i1)), .pointer (some (sAddr A1 i1))⟩, ⟨false, [], vS (Instr.loadAt 3 (.pointer (some (sAddr A1 i1)))), .int .i64 (geti g3 i1)⟩] [none, some (.slice A1 g3.length c1), none, some (.pointer (some (sAddr A1 i1))), some (.int .i64 (geti g3 i1)), none] [1, 3, 4, 17] [pl 1 (.pointer (some ⟨g4, 0, none⟩)), pl 3 (.int .i64 n2), pl 4 (.int .i64 i1), pl 17 (.bool ((geti g3 i1) == 0))] hF hS Fol (by kernel_rfl) (by kernel_rfl) (by kernel_rfl) ?_ (fun a w hF hS => ?_)
        · exact obs_cons (ob_load Agg40 (fun _ _ hS => (hS.at_ 0 rfl).cell rfl)) <| obs_cons (ob_ix1 (f := (Value.int .i64)) (m := g3) Und40 hi3 hs3 (hr_g3 _ (hS.dropN 1)) rfl (fun _ => hp1)) <| obs_cons (ob_get1 (n := g3.length) (m := g3) (Value.int .i64) (0 : Int) Agg3 (fun _ hS => ⟨_, (hr_g3 _ (hS.dropN 1))⟩) (fun _ hS => rfl) (fun _ => hp1)) <| obs_nil
        refine cond_ev (t := 17) (b := ((geti g3 i1) == 0)) hF (by kernel_rfl) (fun hb => ?_) (fun hb => ?_)
        · replace hm := if_t hm hb
          refine reg1 [] [] [1, 3, 4] [pl 1 (.pointer (some ⟨g4, 0, none⟩)), pl 3 (.int .i64 (w64 (n2 + 1))), pl 4 (.int .i64 i1)] hF hS Fol (by kernel_rfl) (by kernel_rfl) (by kernel_rfl) ?_ (fun a w hF hS => ?_)
          · exact obs_nil
          refine block_n ?_
          refine then_n ?_
          exact ⟨(w64 (n2 + 1)), hF.weak [1, 3, 4] (by kernel_rfl), hS, hm⟩
        · replace hm := if_f hm hb
          refine wp_skip ?_
          refine block_n ?_
          refine then_n ?_
          exact ⟨n2, hF.weak [1, 3, 4] (by kernel_rfl), hS, hm⟩
    · refine reg [⟨false, [], vS (Instr.loadAt 40 (.pointer (some ⟨g4, 2, none⟩))), .slice A1 g3.length c1⟩] [none, none, some (.slice A1 g3.length c1), none, none] [1, 3, 4, 9] [pl 1 (.pointer (some ⟨g4, 0, none⟩)), pl 3 (.int .i64 n2), pl 4 (.int .i64 i1), pl 9 (.bool (decide (i1 < (g3.length : Int))))] hF hS Fol (by kernel_rfl) (by kernel_rfl) (by kernel_rfl) ?_ (fun a w hF hS => ?_)
      · exact obs_cons (ob_load Agg40 (fun _ _ hS => (hS.at_ 0 rfl).cell rfl)) <| obs_nil
      refine cond_ev (t := 9) (b := decide (i1 < (g3.length : Int))) hF (by kernel_rfl) (fun hb => ?_) (fun hb => ?_)
      · replace hm := if_t hm hb
        refine wp_skip ?_
        refine then_n ?_
        exact ⟨hF.weak [1, 3, 4] (by kernel_rfl), hS, hm⟩
      · replace hm := if_f hm hb
        refine wp_exit ?_
        refine then_e (then_e (block_e (then_n ?_)))
        have hS := hS.pickN 1 [] (by decide)
        rw [← hφ1] at hm
        replace hm := done_b hm
        unfold gameroomref_OpenPlaces_K1 at hm
        try dsimp only at hm
        have hm : (gameroomref_OpenPlaces_J1 n2).bind some = some r := hm
        exact ⟨n2, hF.weak [3] (by kernel_rfl), hS, hm⟩

noncomputable def gameroomref_rowFrom_J3 (i1 : Int) : Option (St Int (Fl Unit Int)) :=
  some (.next (w64 (i1 + 1)))

noncomputable def gameroomref_rowFrom_J2 (g1 : Int) (g2 : Int) (g3 : List Int) (x1 : Int) (y1 : Int) (dx1 : Int) (dy1 : Int) (i1 : Int) : Option (St Int (Fl Unit Int)) :=
  (gameroomref_within_m (w64 (x1 + (w64 (dx1 * i1)))) 0 (w64 (g1 - 1))).bind fun r1 => ((if (!(!r1)) then gameroomref_within_m (w64 (y1 + (w64 (dy1 * i1)))) 0 (w64 (g2 - 1)) else some false)).bind fun r2 => asrt (((!r1) || (!r2)) = false → 0 ≤ (w64 ((w64 ((w64 (y1 + (w64 (dy1 * i1)))) * g1)) + (w64 (x1 + (w64 (dx1 * i1)))))) ∧ (w64 ((w64 ((w64 (y1 + (w64 (dy1 * i1)))) * g1)) + (w64 (x1 + (w64 (dx1 * i1)))))) < (g3.length : Int)) <| if (((!r1) || (!r2)) || ((geti g3 (w64 ((w64 ((w64 (y1 + (w64 (dy1 * i1)))) * g1)) + (w64 (x1 + (w64 (dx1 * i1))))))) != (geti g3 (w64 ((w64 (y1 * g1)) + x1))))) then (some (.done (.ret 0))) else ((gameroomref_rowFrom_J3 i1))

noncomputable def gameroomref_rowFrom_J1 (g1 : Int) (g3 : List Int) (x1 : Int) (y1 : Int) : Option Int :=
  some (geti g3 (w64 ((w64 (y1 * g1)) + x1)))

noncomputable def gameroomref_rowFrom_K1 (g1 : Int) (g3 : List Int) (x1 : Int) (y1 : Int) : (Fl Unit Int) → Option Int :=
  fun (x : (Fl Unit Int)) => match x with | .go _ => (gameroomref_rowFrom_J1 g1 g3 x1 y1) | .ret x => some x

noncomputable def gameroomref_rowFrom_L1 (g1 : Int) (g2 : Int) (g3 : List Int) (x1 : Int) (y1 : Int) (dx1 : Int) (dy1 : Int) (k1 : Int) : Int → Option (St Int (Fl Unit Int)) :=
  fun (x : Int) => match x with | i1 => if (decide (i1 < k1)) then ((gameroomref_rowFrom_J2 g1 g2 g3 x1 y1 dx1 dy1 i1)) else (some (.done (.go ())))

noncomputable def gameroomref_rowFrom_m (g1 : Int) (g2 : Int) (g3 : List Int) (x1 : Int) (y1 : Int) (dx1 : Int) (dy1 : Int) (k1 : Int) : Option Int :=
  asrt (0 ≤ (w64 ((w64 (y1 * g1)) + x1)) ∧ (w64 ((w64 (y1 * g1)) + x1)) < (g3.length : Int)) <| (loop (gameroomref_rowFrom_L1 g1 g2 g3 x1 y1 dx1 dy1 k1) 0).bind (gameroomref_rowFrom_K1 g1 g3 x1 y1)

set_option maxRecDepth 100000 in
set_option maxHeartbeats 4000000 in
theorem gameroomref_rowFrom_w {g1 : Int} {g2 : Int} {A1 : Option Addr} {c1 : Nat} {n1 : Nat} {g3 : List Int} {x1 : Int} {y1 : Int} {dx1 : Int} {dy1 : Int} {k1 : Int} {r : Int} {w0 w : World} {B : Nat} {fs : List HP} (hm : gameroomref_rowFrom_m g1 g2 g3 x1 y1 dx1 dy1 k1 = some r) (hS : Sep w0 B w (fs)) (hr_g3 : RdF w0 B fs A1 (vI g3)) (_hc_g3 : g3.length ≤ c1) (_hn_g3 : n1 = g3.length) :
    Calls Try.prog 149 #[.agg #[.int .i64 g1, .int .i64 g2, .slice A1 n1 c1], .int .i64 x1, .int .i64 y1, .int .i64 dx1, .int .i64 dy1, .int .i64 k1] w fun e w' => e = .returned (.int .i64 r) ∧ Sep w0 B w' (fs) := by
  obtain ⟨i3, hi3, hz3, hs3, hb3⟩ := info_parts Info3
  obtain rfl := _hn_g3
  unfold gameroomref_rowFrom_m at hm
  replace hm := start_b hm
  refine enter (l := [.agg #[.int .i64 g1, .int .i64 g2, .slice A1 g3.length c1], .int .i64 x1, .int .i64 y1, .int .i64 dx1, .int .i64 dy1, .int .i64 k1]) (n := 71) Try.func149 rfl rfl (by simp) (fun a hF => ?_)
  refine seqR ?_
  refine at_do (d := 6) (s := vS (Instr.box 82 (.agg #[.int .i64 g1, .int .i64 g2, .slice A1 g3.length c1]))) (v := .pointer (some ⟨w.heap.size, 0, none⟩)) (w' := w.alloc (.cells #[.int .i64 g1, .int .i64 g2, .slice A1 g3.length c1] 82)) hF (by kernel_rfl) (by kernel_rfl) (by kernel_rfl) (fun a hF => ?_)
  have hS : Sep w0 B (w.alloc (.cells #[.int .i64 g1, .int .i64 g2, .slice A1 g3.length c1] 82)) (blk w.heap.size 82 #[.int .i64 g1, .int .i64 g2, .slice A1 g3.length c1] :: (fs)) := hS.box 82 #[.int .i64 g1, .int .i64 g2, .slice A1 g3.length c1]
  generalize w.heap.size = g4 at hF hS
  generalize w.alloc (.cells #[.int .i64 g1, .int .i64 g2, .slice A1 g3.length c1] 82) = w at hS ⊢
  refine at_run 1 [] [] [1, 2, 3, 4, 5, 6] [pl 1 (.int .i64 x1), pl 2 (.int .i64 y1), pl 3 (.int .i64 dx1), pl 4 (.int .i64 dy1), pl 5 (.int .i64 k1), pl 6 (.pointer (some ⟨g4, 0, none⟩))] hF hS (by kernel_rfl) (by kernel_rfl) ?_ (fun a w hF hS => ?_)
  · exact obs_nil
  refine at_end [1, 2, 3, 4, 5, 6] [pl 1 (.int .i64 x1), pl 2 (.int .i64 y1), pl 3 (.int .i64 dx1), pl 4 (.int .i64 dy1), pl 5 (.int .i64 k1), pl 6 (.pointer (some ⟨g4, 0, none⟩))] hF rfl (by kernel_rfl) (fun hF => ?_)
  refine then_n ?_
  obtain ⟨hp1, hm⟩ := asrt_b hm
  refine reg [⟨false, [], vS (Instr.loadAt 40 (.pointer (some ⟨g4, 2, none⟩))), .slice A1 g3.length c1⟩, ⟨false, [], vS (Instr.loadAt 3 (.pointer (some ⟨g4, 0, none⟩))), .int .i64 g1⟩, ⟨true, [], vS (Instr.indexAt 40 (.slice A1 g3.length c1) (.int .i64 (w64 ((w64 (y1 * g1)) + x1)))), .pointer (some (sAddr A1 (w64 ((w64 (y1 * g1)) + x1))))⟩, ⟨false, [], vS (Instr.loadAt 3 (.pointer (some (sAddr A1 (w64 ((w64 (y1 * g1)) + x1)))))), .int .i64 (geti g3 (w64 ((w64 (y1 * g1)) + x1)))⟩] [none, some (.slice A1 g3.length c1), none, none, some (.int .i64 g1), none, none, none, some (.pointer (some (sAddr A1 (w64 ((w64 (y1 * g1)) + x1))))), some (.int .i64 (geti g3 (w64 ((w64 (y1 * g1)) + x1)))), none] [1, 2, 3, 4, 5, 6, 13] [pl 1 (.int .i64 x1), pl 2 (.int .i64 y1), pl 3 (.int .i64 dx1), pl 4 (.int .i64 dy1), pl 5 (.int .i64 k1), pl 6 (.pointer (some ⟨g4, 0, none⟩)), pl 13 (.int .i64 (geti g3 (w64 ((w64 (y1 * g1)) + x1))))] hF hS Fol (by kernel_rfl) (by kernel_rfl) (by kernel_rfl) ?_ (fun a w hF hS => ?_)
  · exact obs_cons (ob_load Agg40 (fun _ _ hS => (hS.at_ 0 rfl).cell rfl)) <| obs_cons (ob_load Agg3 (fun _ _ hS => (hS.at_ 0 rfl).cell rfl)) <| obs_cons (ob_ix1 (f := (Value.int .i64)) (m := g3) Und40 hi3 hs3 (hr_g3 _ (hS.dropN 1)) rfl (fun _ => hp1)) <| obs_cons (ob_get1 (n := g3.length) (m := g3) (Value.int .i64) (0 : Int) Agg3 (fun _ hS => ⟨_, (hr_g3 _ (hS.dropN 1))⟩) (fun _ hS => rfl) (fun _ => hp1)) <| obs_nil
  refine seq_cut (fun a w => Fr 71 [pl 13 (.int .i64 (geti g3 (w64 ((w64 (y1 * g1)) + x1))))] a ∧ Sep w0 B w (fs) ∧ ((gameroomref_rowFrom_J1 g1 g3 x1 y1)).bind some = some r) ?_ ?_
  · rintro a w ⟨hF, hS, hm⟩
    unfold gameroomref_rowFrom_J1 at hm
    refine reg [] [] [12] [pl 12 (.int .i64 (geti g3 (w64 ((w64 (y1 * g1)) + x1))))] hF hS Fol (by kernel_rfl) (by kernel_rfl) (by kernel_rfl) ?_ (fun a w hF hS => ?_)
    · exact obs_nil
    refine wp_ret ?_
    have hm : some (geti g3 (w64 ((w64 (y1 * g1)) + x1))) = some r := hm
    obtain rfl := Option.some.inj hm
    exact retV (rs := [.tmp 12]) (vs := [.int .i64 (geti g3 (w64 ((w64 (y1 * g1)) + x1)))]) hF rfl (rv_t (by kernel_rfl) <| rv_nil) rfl ⟨rfl, hS⟩
  · refine reg [] [] [1, 2, 3, 4, 5, 6, 13, 14] [pl 1 (.int .i64 x1), pl 2 (.int .i64 y1), pl 3 (.int .i64 dx1), pl 4 (.int .i64 dy1), pl 5 (.int .i64 k1), pl 6 (.pointer (some ⟨g4, 0, none⟩)), pl 13 (.int .i64 (geti g3 (w64 ((w64 (y1 * g1)) + x1)))), pl 14 (.int .i64 0)] hF hS Fol (by kernel_rfl) (by kernel_rfl) (by kernel_rfl) ?_ (fun a w hF hS => ?_)
    · exact obs_nil
    refine wp_block ?_
    refine wp_loop_model (S := Int) (R := (Fl Unit Int)) (gameroomref_rowFrom_L1 g1 g2 g3 x1 y1 dx1 dy1 k1) (fun x => ((gameroomref_rowFrom_K1 g1 g3 x1 y1) x).bind some) r (fun (x : Int) a w => Fr 71 [pl 1 (.int .i64 x1), pl 2 (.int .i64 y1), pl 3 (.int .i64 dx1), pl 4 (.int .i64 dy1), pl 5 (.int .i64 k1), pl 6 (.pointer (some ⟨g4, 0, none⟩)), pl 13 (.int .i64 (geti g3 (w64 ((w64 (y1 * g1)) + x1)))), pl 14 (.int .i64 x)] a ∧ Sep w0 B w (blk g4 82 #[.int .i64 g1, .int .i64 g2, .slice A1 g3.length c1] :: fs)) (assoc_b hm) ⟨hF.weak [1, 2, 3, 4, 5, 6, 13, 14] (by kernel_rfl), hS⟩ ?_
    clear hF hS hm
    rintro nn1 i1 a w ⟨hF, hS⟩ hm
    generalize hφ1 : stK (gameroomref_rowFrom_L1 g1 g2 g3 x1 y1 dx1 dy1 k1) nn1 (fun x => ((gameroomref_rowFrom_K1 g1 g3 x1 y1) x).bind some) = φ1 at hm
    unfold gameroomref_rowFrom_L1 at hm
    dsimp only at hm
    refine seq_cut (fun a w => Fr 71 [pl 1 (.int .i64 x1), pl 2 (.int .i64 y1), pl 3 (.int .i64 dx1), pl 4 (.int .i64 dy1), pl 5 (.int .i64 k1), pl 6 (.pointer (some ⟨g4, 0, none⟩)), pl 13 (.int .i64 (geti g3 (w64 ((w64 (y1 * g1)) + x1)))), pl 14 (.int .i64 i1)] a ∧ Sep w0 B w (blk g4 82 #[.int .i64 g1, .int .i64 g2, .slice A1 g3.length c1] :: fs) ∧ ((gameroomref_rowFrom_J2 g1 g2 g3 x1 y1 dx1 dy1 i1)).bind φ1 = some r) ?_ ?_
    · rintro a w ⟨hF, hS, hm⟩
      unfold gameroomref_rowFrom_J2 at hm
      refine seq_cut (fun a w => Fr 71 [pl 1 (.int .i64 x1), pl 2 (.int .i64 y1), pl 3 (.int .i64 dx1), pl 4 (.int .i64 dy1), pl 5 (.int .i64 k1), pl 6 (.pointer (some ⟨g4, 0, none⟩)), pl 13 (.int .i64 (geti g3 (w64 ((w64 (y1 * g1)) + x1)))), pl 14 (.int .i64 i1)] a ∧ Sep w0 B w (blk g4 82 #[.int .i64 g1, .int .i64 g2, .slice A1 g3.length c1] :: fs) ∧ ((gameroomref_rowFrom_J3 i1)).bind φ1 = some r) ?_ ?_
      · rintro a w ⟨hF, hS, hm⟩
        unfold gameroomref_rowFrom_J3 at hm
        refine reg1 [] [] [1, 2, 3, 4, 5, 6, 13, 14] [pl 1 (.int .i64 x1), pl 2 (.int .i64 y1), pl 3 (.int .i64 dx1), pl 4 (.int .i64 dy1), pl 5 (.int .i64 k1), pl 6 (.pointer (some ⟨g4, 0, none⟩)), pl 13 (.int .i64 (geti g3 (w64 ((w64 (y1 * g1)) + x1)))), pl 14 (.int .i64 (w64 (i1 + 1)))] hF hS Fol (by kernel_rfl) (by kernel_rfl) (by kernel_rfl) ?_ (fun a w hF hS => ?_)
        · exact obs_nil
        refine then_n ?_
        rw [← hφ1] at hm
        exact ⟨(w64 (i1 + 1)), ⟨hF.weak [1, 2, 3, 4, 5, 6, 13, 14] (by kernel_rfl), hS⟩, hm⟩
      · refine wp_block ?_
        refine reg [] [] [1, 2, 3, 4, 5, 6, 13, 14, 15, 16] [pl 1 (.int .i64 x1), pl 2 (.int .i64 y1), pl 3 (.int .i64 dx1), pl 4 (.int .i64 dy1), pl 5 (.int .i64 k1), pl 6 (.pointer (some ⟨g4, 0, none⟩)), pl 13 (.int .i64 (geti g3 (w64 ((w64 (y1 * g1)) + x1)))), pl 14 (.int .i64 i1), pl 15 (.int .i64 (w64 (x1 + (w64 (dx1 * i1))))), pl 16 (.int .i64 (w64 (y1 + (w64 (dy1 * i1)))))] hF hS Fol (by kernel_rfl) (by kernel_rfl) (by kernel_rfl) ?_ (fun a w hF hS => ?_)
        · exact obs_nil
        obtain ⟨r1, hr1, hm⟩ := call_b hm
        obtain ⟨r2, hr2, hm⟩ := call_b hm
        obtain ⟨hp2, hm⟩ := asrt_b hm
        refine reg [⟨false, [], vS (Instr.loadAt 3 (.pointer (some ⟨g4, 0, none⟩))), .int .i64 g1⟩, ⟨false, [], callFunc 90 #[.int .i64 (w64 (x1 + (w64 (dx1 * i1)))), .int .i64 0, .int .i64 (w64 (g1 - 1))], .bool r1⟩, ⟨false, [(!r1, false)], vS (Instr.loadAt 3 (.pointer (some ⟨g4, 1, none⟩))), .int .i64 g2⟩, ⟨false, [(!r1, false)], callFunc 90 #[.int .i64 (w64 (y1 + (w64 (dy1 * i1)))), .int .i64 0, .int .i64 (w64 (g2 - 1))], .bool r2⟩, ⟨false, [((!r1) || (!r2), false)], vS (Instr.loadAt 40 (.pointer (some ⟨g4, 2, none⟩))), .slice A1 g3.length c1⟩, ⟨false, [((!r1) || (!r2), false)], vS (Instr.loadAt 3 (.pointer (some ⟨g4, 0, none⟩))), .int .i64 g1⟩, ⟨true, [((!r1) || (!r2), false)], vS (Instr.indexAt 40 (.slice A1 g3.length c1) (.int .i64 (w64 ((w64 ((w64 (y1 + (w64 (dy1 * i1)))) * g1)) + (w64 (x1 + (w64 (dx1 * i1)))))))), .pointer (some (sAddr A1 (w64 ((w64 ((w64 (y1 + (w64 (dy1 * i1)))) * g1)) + (w64 (x1 + (w64 (dx1 * i1))))))))⟩, ⟨false, [((!r1) || (!r2), false)], vS (Instr.loadAt 3 (.pointer (some (sAddr A1 (w64 ((w64 ((w64 (y1 + (w64 (dy1 * i1)))) * g1)) + (w64 (x1 + (w64 (dx1 * i1)))))))))), .int .i64 (geti g3 (w64 ((w64 ((w64 (y1 + (w64 (dy1 * i1)))) * g1)) + (w64 (x1 + (w64 (dx1 * i1)))))))⟩] [none, none, some (.int .i64 g1), none, some (.bool r1), none, none, none, none, some (.int .i64 g2), none, some (.bool r2), none, none, none, none, some (.slice A1 g3.length c1), none, none, some (.int .i64 g1), none, none, none, some (.pointer (some (sAddr A1 (w64 ((w64 ((w64 (y1 + (w64 (dy1 * i1)))) * g1)) + (w64 (x1 + (w64 (dx1 * i1))))))))), some (.int .i64 (geti g3 (w64 ((w64 ((w64 (y1 + (w64 (dy1 * i1)))) * g1)) + (w64 (x1 + (w64 (dx1 * i1)))))))), none, none, none] [1, 2, 3, 4, 5, 6, 13, 14, 69] [pl 1 (.int .i64 x1), pl 2 (.int .i64 y1), pl 3 (.int .i64 dx1), pl 4 (.int .i64 dy1), pl 5 (.int .i64 k1), pl 6 (.pointer (some ⟨g4, 0, none⟩)), pl 13 (.int .i64 (geti g3 (w64 ((w64 (y1 * g1)) + x1)))), pl 14 (.int .i64 i1), pl 69 (.bool (((!r1) || (!r2)) || ((geti g3 (w64 ((w64 ((w64 (y1 + (w64 (dy1 * i1)))) * g1)) + (w64 (x1 + (w64 (dx1 * i1))))))) != (geti g3 (w64 ((w64 (y1 * g1)) + x1))))))] hF hS Fol (by kernel_rfl) (by kernel_rfl) (by kernel_rfl) ?_ (fun a w hF hS => ?_)
        · exact obs_cons (ob_load Agg3 (fun _ _ hS => (hS.at_ 0 rfl).cell rfl)) <| obs_cons (ob_call Try.func90 (by kernel_rfl) rfl (fun _ _ hS => gameroomref_within_w hr1 hS )) <| obs_cons (ob_load Agg3 (fun _ _ hS => (hS.at_ 0 rfl).cell rfl)) <| obs_cons (ob_call Try.func90 (by kernel_rfl) rfl (fun hy _ hS => gameroomref_within_w (ite_some hr2 (by rw [show (!r1) = false from hy (!r1, false) (by simp)]; try rfl)) hS )) <| obs_cons (ob_load Agg40 (fun _ _ hS => (hS.at_ 0 rfl).cell rfl)) <| obs_cons (ob_load Agg3 (fun _ _ hS => (hS.at_ 0 rfl).cell rfl)) <| obs_cons (ob_ix1 (f := (Value.int .i64)) (m := g3) Und40 hi3 hs3 (hr_g3 _ (hS.dropN 1)) rfl (fun hy => hp2 (hy ((!r1) || (!r2), false) (by simp)))) <| obs_cons (ob_get1 (n := g3.length) (m := g3) (Value.int .i64) (0 : Int) Agg3 (fun _ hS => ⟨_, (hr_g3 _ (hS.dropN 1))⟩) (fun _ hS => rfl) (fun hy => hp2 (hy ((!r1) || (!r2), false) (by simp)))) <| obs_nil
        refine cond_ev (t := 69) (b := ((!r1) || (!r2)) || ((geti g3 (w64 ((w64 ((w64 (y1 + (w64 (dy1 * i1)))) * g1)) + (w64 (x1 + (w64 (dx1 * i1))))))) != (geti g3 (w64 ((w64 (y1 * g1)) + x1))))) hF (by kernel_rfl) (fun hb => ?_) (fun hb => ?_)
        · replace hm := if_t hm hb
          refine reg [] [] [12] [pl 12 (.int .i64 0)] hF hS Fol (by kernel_rfl) (by kernel_rfl) (by kernel_rfl) ?_ (fun a w hF hS => ?_)
          · exact obs_nil
          refine wp_ret ?_
          refine block_r (then_r (then_r (block_r (then_r ?_))))
          rw [← hφ1] at hm
          replace hm := done_b hm
          unfold gameroomref_rowFrom_K1 at hm
          try dsimp only at hm
          have hS := hS.pickN 1 [] (by decide)
          have hm : some 0 = some r := hm
          obtain rfl := Option.some.inj hm
          exact retV (rs := [.tmp 12]) (vs := [.int .i64 0]) hF rfl (rv_t (by kernel_rfl) <| rv_nil) rfl ⟨rfl, hS⟩
        · replace hm := if_f hm hb
          refine wp_skip ?_
          refine block_n ?_
          refine then_n ?_
          exact ⟨hF.weak [1, 2, 3, 4, 5, 6, 13, 14] (by kernel_rfl), hS, hm⟩
    · refine reg [] [] [1, 2, 3, 4, 5, 6, 13, 14, 29] [pl 1 (.int .i64 x1), pl 2 (.int .i64 y1), pl 3 (.int .i64 dx1), pl 4 (.int .i64 dy1), pl 5 (.int .i64 k1), pl 6 (.pointer (some ⟨g4, 0, none⟩)), pl 13 (.int .i64 (geti g3 (w64 ((w64 (y1 * g1)) + x1)))), pl 14 (.int .i64 i1), pl 29 (.bool (decide (i1 < k1)))] hF hS Fol (by kernel_rfl) (by kernel_rfl) (by kernel_rfl) ?_ (fun a w hF hS => ?_)
      · exact obs_nil
      refine cond_ev (t := 29) (b := decide (i1 < k1)) hF (by kernel_rfl) (fun hb => ?_) (fun hb => ?_)
      · replace hm := if_t hm hb
        refine wp_skip ?_
        refine then_n ?_
        exact ⟨hF.weak [1, 2, 3, 4, 5, 6, 13, 14] (by kernel_rfl), hS, hm⟩
      · replace hm := if_f hm hb
        refine wp_exit ?_
        refine then_e (then_e (block_e (then_n ?_)))
        have hS := hS.pickN 1 [] (by decide)
        rw [← hφ1] at hm
        replace hm := done_b hm
        unfold gameroomref_rowFrom_K1 at hm
        try dsimp only at hm
        have hm : ((gameroomref_rowFrom_J1 g1 g3 x1 y1)).bind some = some r := hm
        exact ⟨hF.weak [13] (by kernel_rfl), hS, hm⟩

noncomputable def gameroomref_WonOf_J10 (g1 : Int) (y1 : Int) (x1 : Int) (d1 : Int) (in7 : List Bool) (i1 : Int) : Option (St (List Bool × Int) (List Bool × Bool × Bool)) :=
  some (.next ((in7.set (Int.toNat (w64 ((w64 ((w64 ((w64 (y1 + (w64 ((geti ([0, 1, 1, (-1)] : List Int) d1) * i1)))) * g1)) + x1)) + (w64 ((geti ([1, 0, 1, 1] : List Int) d1) * i1))))) true), (w64 (i1 + 1))))

noncomputable def gameroomref_WonOf_J9 (g1 : Int) (g3 : List Int) (y1 : Int) (x1 : Int) (d1 : Int) (in7 : List Bool) (i1 : Int) : Option (St (List Bool × Int) (List Bool × Bool × Bool)) :=
  asrt (0 ≤ (w64 ((w64 ((w64 ((w64 (y1 + (w64 ((geti ([0, 1, 1, (-1)] : List Int) d1) * i1)))) * g1)) + x1)) + (w64 ((geti ([1, 0, 1, 1] : List Int) d1) * i1)))) ∧ (w64 ((w64 ((w64 ((w64 (y1 + (w64 ((geti ([0, 1, 1, (-1)] : List Int) d1) * i1)))) * g1)) + x1)) + (w64 ((geti ([1, 0, 1, 1] : List Int) d1) * i1)))) < (((Int.toNat (g3.length : Int)) : Nat) : Int)) <| (gameroomref_WonOf_J10 g1 y1 x1 d1 in7 i1)

noncomputable def gameroomref_WonOf_J7 (d1 : Int) (in8 : List Bool) (one7 : Bool) (two7 : Bool) : Option (St (List Bool × Bool × Bool × Int) (List Bool × Bool × Bool)) :=
  some (.next (in8, one7, two7, (w64 (d1 + 1))))
end Go.Proofs.Ytbmhcapeikebgaa
