/-
  Models and walks, printed by our own program (wip/gen).
-/
import Derived.Test.YtdjjomghggplpaaFB
import Derived.Test.YtdjjomghggplpaaLibSc
import Derived.Test.YtdjjomghggplpaaFE
import Derived.Test.YtdjjomghggplpaaLibPl
import Derived.Test.YtdjjomghggplpaaSH
namespace Go.Proofs.Ytdjjomghggplpaa
open Go Go.GL Go.RowKit




noncomputable def gameroomref_Ints_m  (l1 : List Int) : Option (List Int) :=
  asrt ((0 : Int) + (l1.length : Int) ≤ bigN) <| some ([] ++ l1)

set_option maxRecDepth 100000 in
set_option maxHeartbeats 4000000 in
theorem gameroomref_Ints_w  {A1 : Option Addr} {c1 : Nat} {n1 : Nat} {l1 : List Int} {r : (List Int)} {w0 w : World} {B : Nat} {fs : List HP} (hm : gameroomref_Ints_m l1 = some r) (hS : Sep w0 B w (fs)) (hr_l1 : RdF w0 B fs A1 (vI l1)) (_hc_l1 : l1.length ≤ c1) (_hn_l1 : n1 = l1.length) :
    Calls Try.prog 45 #[.slice A1 n1 c1] w fun e w' => ∃ v, e = .returned v ∧ ∃ (A3 : Option Addr) (c3 : Nat), v = .slice A3 r.length c3 ∧ Sep w0 B w' (own 3 (.slice A3 r.length c3) (vI r) :: fs) := by
  obtain ⟨i3, hi3, hz3, hs3, hb3⟩ := info_parts Info3
  obtain rfl := _hn_l1
  unfold gameroomref_Ints_m at hm
  replace hm := start_b hm
  refine enter (l := [.slice A1 l1.length c1]) (n := 5) Try.func45 rfl rfl (by simp) (fun a hF => ?_)
  refine reg [] [] [0] [pl 0 (.slice A1 l1.length c1)] hF hS Fol (by kernel_rfl) (by kernel_rfl) (by kernel_rfl) ?_ (fun a w hF hS => ?_)
  · exact obs_nil
  refine seqR ?_
  obtain ⟨hp1, hm⟩ := asrt_b hm
  refine at_run 1 [] [] [3] [pl 3 (.slice A1 l1.length c1)] hF hS (by kernel_rfl) (by kernel_rfl) ?_ (fun a w hF hS => ?_)
  · exact obs_nil
  have hS : Sep w0 B w (own 3 (.slice none 0 0) (vI ([] : List Int)) :: fs) := hS.nil 3
  obtain ⟨A2, c2, w, hrun, hS⟩ := run_app1 (P := Try.prog) (t := 22) (m := ([] : List Int)) (ys := l1) (A2 := A1) (m2 := l1.length) (c2 := c1) (Value.int .i64) (0 : Int) (hS.at_ 0 rfl) (hr_l1 _ (hS.dropN 1)) rfl 22 Und22 hi3 hz3 hs3 (by omega) rfl (fun _ => rfl) hp1
  have hS : Sep w0 B w (own 3 (.slice A2 (([] ++ l1).length) c2) (vI ([] ++ l1)) :: fs) := hS
  refine at_do (d := 4) hF (by kernel_rfl) (by kernel_rfl) hrun (fun a hF => ?_)
  refine at_run 1 [] [] [2] [pl 2 (.slice A2 (([] ++ l1).length) c2)] hF hS (by kernel_rfl) (by kernel_rfl) ?_ (fun a w hF hS => ?_)
  · exact obs_nil
  refine at_end [2] [pl 2 (.slice A2 (([] ++ l1).length) c2)] hF rfl (by kernel_rfl) (fun hF => ?_)
  refine then_n ?_
  refine wpIn_ret ?_
  have hm : some ([] ++ l1) = some r := hm
  obtain rfl := Option.some.inj hm
  exact retV (rs := [.tmp 2]) (vs := [.slice A2 (([] ++ l1).length) c2]) hF rfl (rv_t (by kernel_rfl) <| rv_nil) rfl ⟨_, rfl, A2, c2, rfl, hS⟩

noncomputable def gameroomref_GridOf_m  (g1 : Int) (g2 : Int) (g3 : List Int) : Option (Int × Int × List Int) :=
  (gameroomref_Ints_m g3).bind fun r1 => some (g1, g2, r1)

set_option maxRecDepth 100000 in
set_option maxHeartbeats 4000000 in
theorem gameroomref_GridOf_w  {g1 : Int} {g2 : Int} {A1 : Option Addr} {c1 : Nat} {n1 : Nat} {g3 : List Int} {r : (Int × Int × List Int)} {w0 w : World} {B : Nat} {fs : List HP} (hm : gameroomref_GridOf_m g1 g2 g3 = some r) (hS : Sep w0 B w (fs)) (hr_g3 : RdF w0 B fs A1 (vI g3)) (_hc_g3 : g3.length ≤ c1) (_hn_g3 : n1 = g3.length) :
    Calls Try.prog 10 #[.agg #[.int .i64 g1, .int .i64 g2, .slice A1 n1 c1]] w fun e w' => ∃ v, e = .returned v ∧ ∃ (A3 : Option Addr) (c3 : Nat), v = .agg #[.int .i64 r.1, .int .i64 r.2.1, .slice A3 r.2.2.length c3] ∧ Sep w0 B w' (own 3 (.slice A3 r.2.2.length c3) (vI r.2.2) :: fs) := by
  obtain ⟨i3, hi3, hz3, hs3, hb3⟩ := info_parts Info3
  obtain ⟨i22, hi22, hz22, hs22, hb22⟩ := info_parts Info22
  obtain rfl := _hn_g3
  unfold gameroomref_GridOf_m at hm
  replace hm := start_b hm
  refine enter (l := [.agg #[.int .i64 g1, .int .i64 g2, .slice A1 g3.length c1]]) (n := 8) Try.func10 rfl rfl (by simp) (fun a hF => ?_)
  refine seqR ?_
  refine at_do (d := 1) (s := vS (Instr.box 24 (.agg #[.int .i64 g1, .int .i64 g2, .slice A1 g3.length c1]))) (v := .pointer (some ⟨w.heap.size, 0, none⟩)) (w' := w.alloc (.cells #[.int .i64 g1, .int .i64 g2, .slice A1 g3.length c1] 24)) hF (by kernel_rfl) (by kernel_rfl) (by kernel_rfl) (fun a hF => ?_)
  have hS : Sep w0 B (w.alloc (.cells #[.int .i64 g1, .int .i64 g2, .slice A1 g3.length c1] 24)) (blk w.heap.size 24 #[.int .i64 g1, .int .i64 g2, .slice A1 g3.length c1] :: (fs)) := hS.box 24 #[.int .i64 g1, .int .i64 g2, .slice A1 g3.length c1]
  generalize w.heap.size = g4 at hF hS
  generalize w.alloc (.cells #[.int .i64 g1, .int .i64 g2, .slice A1 g3.length c1] 24) = w at hS ⊢
  refine at_do (d := 2) (s := vS (Instr.alloc 24 true (.tuple #[]))) (v := .pointer (some ⟨w.heap.size, 0, none⟩)) (w' := w.alloc (.cells #[.int .i64 0, .int .i64 0, .slice none 0 0] 24)) hF (by kernel_rfl) (by kernel_rfl) (by kernel_rfl) (fun a hF => ?_)
  have hS : Sep w0 B (w.alloc (.cells #[.int .i64 0, .int .i64 0, .slice none 0 0] 24)) (blk w.heap.size 24 #[.int .i64 0, .int .i64 0, .slice none 0 0] :: (blk g4 24 #[.int .i64 g1, .int .i64 g2, .slice A1 g3.length c1] :: fs)) := hS.box 24 #[.int .i64 0, .int .i64 0, .slice none 0 0]
  generalize w.heap.size = g5 at hF hS
  generalize w.alloc (.cells #[.int .i64 0, .int .i64 0, .slice none 0 0] 24) = w at hS ⊢
  refine at_end [1, 2] [pl 1 (.pointer (some ⟨g4, 0, none⟩)), pl 2 (.pointer (some ⟨g5, 0, none⟩))] hF rfl (by kernel_rfl) (fun hF => ?_)
  refine then_n ?_
  refine seqR ?_
  obtain ⟨r1, hr1, hm⟩ := call_b hm
  refine at_run 2 [⟨false, [], vS (Instr.loadAt 22 (.pointer (some ⟨g4, 2, none⟩))), .slice A1 g3.length c1⟩] [none, some (.slice A1 g3.length c1)] [1, 2, 4] [pl 1 (.pointer (some ⟨g4, 0, none⟩)), pl 2 (.pointer (some ⟨g5, 0, none⟩)), pl 4 (.slice A1 g3.length c1)] hF hS (by kernel_rfl) (by kernel_rfl) ?_ (fun a w hF hS => ?_)
  · exact obs_cons (ob_load Agg22 (fun _ _ hS => (hS.at_ 1 rfl).cell rfl)) <| obs_nil
  refine at_call (f := 45) (args := #[.slice A1 g3.length c1]) (d := 5) hF (by kernel_rfl) (by kernel_rfl) Try.func45 (by kernel_rfl) rfl (gameroomref_Ints_w hr1 hS (fun _ hS => (hr_g3 _ (hS.dropN 2))) _hc_g3 rfl) (fun v a w hR hF => ?_)
  clear hS
  obtain ⟨A2, c2, rfl, hS⟩ := hR
  have hS : Sep w0 B w (own 3 (.slice A2 r1.length c2) (vI r1) :: blk g5 24 #[.int .i64 0, .int .i64 0, .slice none 0 0] :: blk g4 24 #[.int .i64 g1, .int .i64 g2, .slice A1 g3.length c1] :: fs) := hS
  refine at_run 1 [] [] [1, 2, 5, 6] [pl 1 (.pointer (some ⟨g4, 0, none⟩)), pl 2 (.pointer (some ⟨g5, 0, none⟩)), pl 5 (.slice A2 r1.length c2), pl 6 (.pointer (some ⟨g4, 2, none⟩))] hF hS (by kernel_rfl) (by kernel_rfl) ?_ (fun a w hF hS => ?_)
  · exact obs_nil
  obtain ⟨w, hrun, hS⟩ := run_put (P := Try.prog) (t := 22) (u := .slice A2 r1.length c2) (i := 2) (hS.at_ 2 rfl) hi22 hs22 rfl (Nat.lt_of_lt_of_eq (Nat.lt_of_succ_le (Nat.le_of_ble_eq_true (by kernel_rfl))) rfl)
  refine at_skip hF (by kernel_rfl) hrun ?_
  have hS : Sep w0 B w (own 3 (.slice A2 r1.length c2) (vI r1) :: blk g5 24 #[.int .i64 0, .int .i64 0, .slice none 0 0] :: blk g4 24 #[.int .i64 g1, .int .i64 g2, .slice A2 r1.length c2] :: fs) := hS
  refine at_end [1, 2] [pl 1 (.pointer (some ⟨g4, 0, none⟩)), pl 2 (.pointer (some ⟨g5, 0, none⟩))] hF rfl (by kernel_rfl) (fun hF => ?_)
  refine then_n ?_
  refine seqR ?_
  refine at_run 1 [⟨false, [], vS (Instr.loadAt 24 (.pointer (some ⟨g4, 0, none⟩))), .agg #[.int .i64 g1, .int .i64 g2, .slice A2 r1.length c2]⟩] [some (.agg #[.int .i64 g1, .int .i64 g2, .slice A2 r1.length c2])] [2, 7] [pl 2 (.pointer (some ⟨g5, 0, none⟩)), pl 7 (.agg #[.int .i64 g1, .int .i64 g2, .slice A2 r1.length c2])] hF hS (by kernel_rfl) (by kernel_rfl) ?_ (fun a w hF hS => ?_)
  · exact obs_cons (ob_loadA (cs := #[.int .i64 g1, .int .i64 g2, .slice A2 r1.length c2]) (by kernel_rfl) (by kernel_rfl) (fun _ _ hS => (hS.at_ 2 rfl).cellsAt 0 (by rfl))) <| obs_nil
  obtain ⟨w, hrun, hS⟩ := run_putA (P := Try.prog) (t := 24) (us := #[.int .i64 g1, .int .i64 g2, .slice A2 r1.length c2]) (o := 0) (hS.at_ 1 rfl) (by kernel_rfl) (all_one (by kernel_rfl)) (Nat.le_of_ble_eq_true (by kernel_rfl))
  refine at_skip hF (by kernel_rfl) hrun ?_
  have hS : Sep w0 B w (own 3 (.slice A2 r1.length c2) (vI r1) :: blk g5 24 #[.int .i64 g1, .int .i64 g2, .slice A2 r1.length c2] :: blk g4 24 #[.int .i64 g1, .int .i64 g2, .slice A2 r1.length c2] :: fs) := hS
  refine at_end [2] [pl 2 (.pointer (some ⟨g5, 0, none⟩))] hF rfl (by kernel_rfl) (fun hF => ?_)
  refine then_n ?_
  refine wpIn_ret ?_
  have hld0 := run_loadVarA (P := Try.prog) (t := 24) (cs := #[.int .i64 g1, .int .i64 g2, .slice A2 r1.length c2]) (by kernel_rfl) (by kernel_rfl) ((hS.at_ 1 rfl).cellsAt 0 (by rfl))
  have hS := hS.pickN 3 [0] (by decide)
  have hm : some (g1, g2, r1) = some r := hm
  obtain rfl := Option.some.inj hm
  exact retV (rs := [.cell 2 24]) (vs := [.agg #[.int .i64 g1, .int .i64 g2, .slice A2 r1.length c2]]) hF rfl (rv_c (by kernel_rfl) hld0 <| rv_nil) rfl ⟨_, rfl, A2, c2, rfl, hS⟩

noncomputable def rows_May_1_m  (c1 : Int) : Option Bool :=
  some ((decide (c1 < 0)) || (decide ((2 : Int) < c1)))

set_option maxRecDepth 100000 in
set_option maxHeartbeats 4000000 in
theorem rows_May_1_w  {c1 : Int} {r : Bool} {w0 w : World} {B : Nat} {fs : List HP} (hm : rows_May_1_m c1 = some r) (hS : Sep w0 B w (fs)) :
    Calls Try.prog 105 #[.int .i64 c1] w fun e w' => e = .returned (.bool r) ∧ Sep w0 B w' (fs) := by
  unfold rows_May_1_m at hm
  replace hm := start_b hm
  refine enter (l := [.int .i64 c1]) (n := 9) Try.func105 rfl rfl (by simp) (fun a hF => ?_)
  refine reg [] [] [0] [pl 0 (.int .i64 c1)] hF hS Fol (by kernel_rfl) (by kernel_rfl) (by kernel_rfl) ?_ (fun a w hF hS => ?_)
  · exact obs_nil
  refine reg [] [] [2] [pl 2 (.bool ((decide (c1 < 0)) || (decide ((2 : Int) < c1))))] hF hS Fol (by kernel_rfl) (by kernel_rfl) (by kernel_rfl) ?_ (fun a w hF hS => ?_)
  · exact obs_nil
  refine wpIn_ret ?_
  have hm : some ((decide (c1 < 0)) || (decide ((2 : Int) < c1))) = some r := hm
  obtain rfl := Option.some.inj hm
  exact retV (rs := [.tmp 2]) (vs := [.bool ((decide (c1 < 0)) || (decide ((2 : Int) < c1)))]) hF rfl (rv_t (by kernel_rfl) <| rv_nil) rfl ⟨rfl, hS⟩

noncomputable def slices_IndexFunc_J3  (z1 : Int) : Option (St Int (Fl Unit Int)) :=
  some (.next (w64 (z1 + 1)))

noncomputable def slices_IndexFunc_J2  (s1 : List Int) (z1 : Int) : Option (St Int (Fl Unit Int)) :=
  asrt (0 ≤ z1 ∧ z1 < (s1.length : Int)) <| (rows_May_1_m (geti s1 z1)).bind fun r1 => if r1 then (some (.done (.ret z1))) else ((slices_IndexFunc_J3 z1))

noncomputable def slices_IndexFunc_J1  : Option Int :=
  some (-1)

noncomputable def slices_IndexFunc_K1  : (Fl Unit Int) → Option Int :=
  fun (x : (Fl Unit Int)) => match x with | .go _ => slices_IndexFunc_J1 | .ret x => some x

noncomputable def slices_IndexFunc_L1  (s1 : List Int) : Int → Option (St Int (Fl Unit Int)) :=
  fun (x : Int) => match x with | z1 => if (decide (z1 < (s1.length : Int))) then ((slices_IndexFunc_J2 s1 z1)) else (some (.done (.go ())))

noncomputable def slices_IndexFunc_m  (s1 : List Int) : Option Int :=
  (loop (slices_IndexFunc_L1 s1) 0).bind slices_IndexFunc_K1

set_option maxRecDepth 100000 in
set_option maxHeartbeats 4000000 in
theorem slices_IndexFunc_w  {A1 : Option Addr} {c1 : Nat} {n1 : Nat} {s1 : List Int} {r : Int} {w0 w : World} {B : Nat} {fs : List HP} (hm : slices_IndexFunc_m s1 = some r) (hS : Sep w0 B w (fs)) (hr_s1 : RdF w0 B fs A1 (vI s1)) (_hc_s1 : s1.length ≤ c1) (_hn_s1 : n1 = s1.length) :
    Calls Try.prog 107 #[.slice A1 n1 c1, .func (.func 105) #[] #[]] w fun e w' => e = .returned (.int .i64 r) ∧ Sep w0 B w' (fs) := by
  obtain ⟨i3, hi3, hz3, hs3, hb3⟩ := info_parts Info3
  obtain rfl := _hn_s1
  unfold slices_IndexFunc_m at hm
  replace hm := start_b hm
  refine enter (l := [.slice A1 s1.length c1, .func (.func 105) #[] #[]]) (n := 19) Try.func107 rfl rfl (by simp) (fun a hF => ?_)
  refine reg [] [] [0, 1] [pl 0 (.slice A1 s1.length c1), pl 1 (.func (.func 105) #[] #[])] hF hS Fol (by kernel_rfl) (by kernel_rfl) (by kernel_rfl) ?_ (fun a w hF hS => ?_)
  · exact obs_nil
  refine seq_cut (fun a w => Fr 19 [] a ∧ Sep w0 B w (fs) ∧ (slices_IndexFunc_J1).bind some = some r) ?_ ?_
  · rintro a w ⟨hF, hS, hm⟩
    unfold slices_IndexFunc_J1 at hm
    refine reg [] [] [4] [pl 4 (.int .i64 (-1))] hF hS Fol (by kernel_rfl) (by kernel_rfl) (by kernel_rfl) ?_ (fun a w hF hS => ?_)
    · exact obs_nil
    refine wpIn_ret ?_
    have hm : some (-1) = some r := hm
    obtain rfl := Option.some.inj hm
    exact retV (rs := [.tmp 4]) (vs := [.int .i64 (-1)]) hF rfl (rv_t (by kernel_rfl) <| rv_nil) rfl ⟨rfl, hS⟩
  · refine reg [] [] [0, 1, 7, 8] [pl 0 (.slice A1 s1.length c1), pl 1 (.func (.func 105) #[] #[]), pl 7 (.int .i64 (s1.length : Int)), pl 8 (.int .i64 0)] hF hS Fol (by kernel_rfl) (by kernel_rfl) (by kernel_rfl) ?_ (fun a w hF hS => ?_)
    · exact obs_nil
    refine wpIn_block ?_
    refine wp_loop_model (S := Int) (R := (Fl Unit Int)) (slices_IndexFunc_L1 s1) (fun x => (slices_IndexFunc_K1 x).bind some) r (fun (x : Int) a w => Fr 19 [pl 0 (.slice A1 s1.length c1), pl 1 (.func (.func 105) #[] #[]), pl 7 (.int .i64 (s1.length : Int)), pl 8 (.int .i64 x)] a ∧ Sep w0 B w (fs)) (assoc_b hm) ⟨hF.weak [0, 1, 7, 8] (by kernel_rfl), hS⟩ ?_
    clear hF hS hm
    rintro nn1 z1 a w ⟨hF, hS⟩ hm
    generalize hφ1 : stK (slices_IndexFunc_L1 s1) nn1 (fun x => (slices_IndexFunc_K1 x).bind some) = φ1 at hm
    unfold slices_IndexFunc_L1 at hm
    dsimp only at hm
    refine reg [] [] [0, 1, 7, 8, 9] [pl 0 (.slice A1 s1.length c1), pl 1 (.func (.func 105) #[] #[]), pl 7 (.int .i64 (s1.length : Int)), pl 8 (.int .i64 z1), pl 9 (.bool (decide (z1 < (s1.length : Int))))] hF hS Fol (by kernel_rfl) (by kernel_rfl) (by kernel_rfl) ?_ (fun a w hF hS => ?_)
    · exact obs_nil
    refine seq_cut (fun a w => Fr 19 [pl 0 (.slice A1 s1.length c1), pl 1 (.func (.func 105) #[] #[]), pl 7 (.int .i64 (s1.length : Int)), pl 8 (.int .i64 z1)] a ∧ Sep w0 B w (fs) ∧ ((slices_IndexFunc_J2 s1 z1)).bind φ1 = some r) ?_ ?_
    · rintro a w ⟨hF, hS, hm⟩
      unfold slices_IndexFunc_J2 at hm
      refine seq_cut (fun a w => Fr 19 [pl 0 (.slice A1 s1.length c1), pl 1 (.func (.func 105) #[] #[]), pl 7 (.int .i64 (s1.length : Int)), pl 8 (.int .i64 z1)] a ∧ Sep w0 B w (fs) ∧ ((slices_IndexFunc_J3 z1)).bind φ1 = some r) ?_ ?_
      · rintro a w ⟨hF, hS, hm⟩
        unfold slices_IndexFunc_J3 at hm
        refine reg1 [] [] [0, 1, 7, 8] [pl 0 (.slice A1 s1.length c1), pl 1 (.func (.func 105) #[] #[]), pl 7 (.int .i64 (s1.length : Int)), pl 8 (.int .i64 (w64 (z1 + 1)))] hF hS Fol (by kernel_rfl) (by kernel_rfl) (by kernel_rfl) ?_ (fun a w hF hS => ?_)
        · exact obs_nil
        refine then_n ?_
        rw [← hφ1] at hm
        exact ⟨(w64 (z1 + 1)), ⟨hF.weak [0, 1, 7, 8] (by kernel_rfl), hS⟩, hm⟩
      · refine wpIn_block ?_
        refine reg [] [] [0, 1, 5, 7, 8] [pl 0 (.slice A1 s1.length c1), pl 1 (.func (.func 105) #[] #[]), pl 5 (.int .i64 z1), pl 7 (.int .i64 (s1.length : Int)), pl 8 (.int .i64 z1)] hF hS Fol (by kernel_rfl) (by kernel_rfl) (by kernel_rfl) ?_ (fun a w hF hS => ?_)
        · exact obs_nil
        obtain ⟨hp1, hm⟩ := asrt_b hm
        obtain ⟨r1, hr1, hm⟩ := call_b hm
        refine reg [⟨true, [], vS (Instr.indexAt 22 (.slice A1 s1.length c1) (.int .i64 z1)), .pointer (some (sAddr A1 z1))⟩, ⟨false, [], vS (Instr.loadAt 3 (.pointer (some (sAddr A1 z1)))), .int .i64 (geti s1 z1)⟩, ⟨false, [], callFunc 105 #[.int .i64 (geti s1 z1)], .bool r1⟩] [none, none, none, some (.pointer (some (sAddr A1 z1))), some (.int .i64 (geti s1 z1)), some (.bool r1)] [0, 1, 5, 7, 8, 16] [pl 0 (.slice A1 s1.length c1), pl 1 (.func (.func 105) #[] #[]), pl 5 (.int .i64 z1), pl 7 (.int .i64 (s1.length : Int)), pl 8 (.int .i64 z1), pl 16 (.bool r1)] hF hS Fol (by kernel_rfl) (by kernel_rfl) (by kernel_rfl) ?_ (fun a w hF hS => ?_)
        · exact obs_cons (ob_ix1 (f := (Value.int .i64)) (m := s1) Und22 hi3 hs3 (hr_s1 _ (hS.dropN 0)) rfl (fun _ => hp1)) <| obs_cons (ob_get1 (n := s1.length) (m := s1) (Value.int .i64) (0 : Int) Agg3 (fun _ hS => ⟨_, (hr_s1 _ (hS.dropN 0))⟩) (fun _ hS => rfl) (fun _ => hp1)) <| obs_cons (ob_call Try.func105 (by kernel_rfl) rfl (fun _ _ hS => rows_May_1_w hr1 hS )) <| obs_nil
        refine cond_ev (t := 16) (b := r1) hF (by kernel_rfl) (fun hb => ?_) (fun hb => ?_)
        · replace hm := if_t hm hb
          refine reg [] [] [4] [pl 4 (.int .i64 z1)] hF hS Fol (by kernel_rfl) (by kernel_rfl) (by kernel_rfl) ?_ (fun a w hF hS => ?_)
          · exact obs_nil
          refine wpIn_ret ?_
          refine block_r (then_r (then_r (block_r (then_r ?_))))
          rw [← hφ1] at hm
          replace hm := done_b hm
          unfold slices_IndexFunc_K1 at hm
          try dsimp only at hm
          have hm : some z1 = some r := hm
          obtain rfl := Option.some.inj hm
          exact retV (rs := [.tmp 4]) (vs := [.int .i64 z1]) hF rfl (rv_t (by kernel_rfl) <| rv_nil) rfl ⟨rfl, hS⟩
        · replace hm := if_f hm hb
          refine wpIn_skip ?_
          refine block_n ?_
          refine then_n ?_
          exact ⟨hF.weak [0, 1, 7, 8] (by kernel_rfl), hS, hm⟩
    · refine cond_ev (t := 9) (b := decide (z1 < (s1.length : Int))) hF (by kernel_rfl) (fun hb => ?_) (fun hb => ?_)
      · replace hm := if_t hm hb
        refine wpIn_skip ?_
        refine then_n ?_
        exact ⟨hF.weak [0, 1, 7, 8] (by kernel_rfl), hS, hm⟩
      · replace hm := if_f hm hb
        refine wpIn_exit ?_
        refine then_e (then_e (block_e (then_n ?_)))
        rw [← hφ1] at hm
        replace hm := done_b hm
        unfold slices_IndexFunc_K1 at hm
        try dsimp only at hm
        have hm : (slices_IndexFunc_J1).bind some = some r := hm
        exact ⟨hF.weak [] (by kernel_rfl), hS, hm⟩

noncomputable def slices_ContainsFunc_m  (s1 : List Int) : Option Bool :=
  (slices_IndexFunc_m s1).bind fun r1 => some (decide ((0 : Int) ≤ r1))

set_option maxRecDepth 100000 in
set_option maxHeartbeats 4000000 in
theorem slices_ContainsFunc_w  {A1 : Option Addr} {c1 : Nat} {n1 : Nat} {s1 : List Int} {r : Bool} {w0 w : World} {B : Nat} {fs : List HP} (hm : slices_ContainsFunc_m s1 = some r) (hS : Sep w0 B w (fs)) (hr_s1 : RdF w0 B fs A1 (vI s1)) (_hc_s1 : s1.length ≤ c1) (_hn_s1 : n1 = s1.length) :
    Calls Try.prog 50 #[.slice A1 n1 c1, .func (.func 105) #[] #[]] w fun e w' => e = .returned (.bool r) ∧ Sep w0 B w' (fs) := by
  obtain ⟨i3, hi3, hz3, hs3, hb3⟩ := info_parts Info3
  obtain rfl := _hn_s1
  unfold slices_ContainsFunc_m at hm
  replace hm := start_b hm
  refine enter (l := [.slice A1 s1.length c1, .func (.func 105) #[] #[]]) (n := 9) Try.func50 rfl rfl (by simp) (fun a hF => ?_)
  refine reg [] [] [0, 1] [pl 0 (.slice A1 s1.length c1), pl 1 (.func (.func 105) #[] #[])] hF hS Fol (by kernel_rfl) (by kernel_rfl) (by kernel_rfl) ?_ (fun a w hF hS => ?_)
  · exact obs_nil
  obtain ⟨r1, hr1, hm⟩ := call_b hm
  refine reg [⟨false, [], callFunc 107 #[.slice A1 s1.length c1, .func (.func 105) #[] #[]], .int .i64 r1⟩] [none, none, some (.int .i64 r1), none, none] [4] [pl 4 (.bool (decide ((0 : Int) ≤ r1)))] hF hS Fol (by kernel_rfl) (by kernel_rfl) (by kernel_rfl) ?_ (fun a w hF hS => ?_)
  · exact obs_cons (ob_call Try.func107 (by kernel_rfl) rfl (fun _ _ hS => slices_IndexFunc_w hr1 hS (fun _ hS => (hr_s1 _ (hS.dropN 0))) _hc_s1 rfl)) <| obs_nil
  refine wpIn_ret ?_
  have hm : some (decide ((0 : Int) ≤ r1)) = some r := hm
  obtain rfl := Option.some.inj hm
  exact retV (rs := [.tmp 4]) (vs := [.bool (decide ((0 : Int) ≤ r1))]) hF rfl (rv_t (by kernel_rfl) <| rv_nil) rfl ⟨rfl, hS⟩

noncomputable def rows_May_m  (g1 : Int) (g2 : Int) (g3 : List Int) : Option Bool :=
  ((if (((((decide ((1 : Int) ≤ g1)) && (decide (g1 ≤ 10))) && (decide ((1 : Int) ≤ g2))) && (decide (g2 ≤ 10))) && ((g3.length : Int) == (w64 (g1 * g2)))) then slices_ContainsFunc_m g3 else some false)).bind fun r1 => some ((((((decide ((1 : Int) ≤ g1)) && (decide (g1 ≤ 10))) && (decide ((1 : Int) ≤ g2))) && (decide (g2 ≤ 10))) && ((g3.length : Int) == (w64 (g1 * g2)))) && (!r1))

set_option maxRecDepth 100000 in
set_option maxHeartbeats 4000000 in
theorem rows_May_w  {g1 : Int} {g2 : Int} {A1 : Option Addr} {c1 : Nat} {n1 : Nat} {g3 : List Int} {r : Bool} {w0 w : World} {B : Nat} {fs : List HP} (hm : rows_May_m g1 g2 g3 = some r) (hS : Sep w0 B w (fs)) (hr_g3 : RdF w0 B fs A1 (vI g3)) (_hc_g3 : g3.length ≤ c1) (_hn_g3 : n1 = g3.length) :
    Calls Try.prog 42 #[.agg #[.int .i64 g1, .int .i64 g2, .slice A1 n1 c1]] w fun e w' => e = .returned (.bool r) ∧ Sep w0 B w' (fs) := by
  obtain ⟨i3, hi3, hz3, hs3, hb3⟩ := info_parts Info3
  obtain rfl := _hn_g3
  unfold rows_May_m at hm
  replace hm := start_b hm
  refine enter (l := [.agg #[.int .i64 g1, .int .i64 g2, .slice A1 g3.length c1]]) (n := 38) Try.func42 rfl rfl (by simp) (fun a hF => ?_)
  refine seqR ?_
  refine at_do (d := 1) (s := vS (Instr.box 24 (.agg #[.int .i64 g1, .int .i64 g2, .slice A1 g3.length c1]))) (v := .pointer (some ⟨w.heap.size, 0, none⟩)) (w' := w.alloc (.cells #[.int .i64 g1, .int .i64 g2, .slice A1 g3.length c1] 24)) hF (by kernel_rfl) (by kernel_rfl) (by kernel_rfl) (fun a hF => ?_)
  have hS : Sep w0 B (w.alloc (.cells #[.int .i64 g1, .int .i64 g2, .slice A1 g3.length c1] 24)) (blk w.heap.size 24 #[.int .i64 g1, .int .i64 g2, .slice A1 g3.length c1] :: (fs)) := hS.box 24 #[.int .i64 g1, .int .i64 g2, .slice A1 g3.length c1]
  generalize w.heap.size = g4 at hF hS
  generalize w.alloc (.cells #[.int .i64 g1, .int .i64 g2, .slice A1 g3.length c1] 24) = w at hS ⊢
  refine at_run 1 [] [] [1] [pl 1 (.pointer (some ⟨g4, 0, none⟩))] hF hS (by kernel_rfl) (by kernel_rfl) ?_ (fun a w hF hS => ?_)
  · exact obs_nil
  refine at_end [1] [pl 1 (.pointer (some ⟨g4, 0, none⟩))] hF rfl (by kernel_rfl) (fun hF => ?_)
  refine then_n ?_
  obtain ⟨r1, hr1, hm⟩ := call_b hm
  refine reg [⟨false, [], vS (Instr.loadAt 3 (.pointer (some ⟨g4, 0, none⟩))), .int .i64 g1⟩, ⟨false, [(decide ((1 : Int) ≤ g1), true)], vS (Instr.loadAt 3 (.pointer (some ⟨g4, 0, none⟩))), .int .i64 g1⟩, ⟨false, [((decide ((1 : Int) ≤ g1)) && (decide (g1 ≤ 10)), true)], vS (Instr.loadAt 3 (.pointer (some ⟨g4, 1, none⟩))), .int .i64 g2⟩, ⟨false, [(((decide ((1 : Int) ≤ g1)) && (decide (g1 ≤ 10))) && (decide ((1 : Int) ≤ g2)), true)], vS (Instr.loadAt 3 (.pointer (some ⟨g4, 1, none⟩))), .int .i64 g2⟩, ⟨false, [((((decide ((1 : Int) ≤ g1)) && (decide (g1 ≤ 10))) && (decide ((1 : Int) ≤ g2))) && (decide (g2 ≤ 10)), true)], vS (Instr.loadAt 22 (.pointer (some ⟨g4, 2, none⟩))), .slice A1 g3.length c1⟩, ⟨false, [((((decide ((1 : Int) ≤ g1)) && (decide (g1 ≤ 10))) && (decide ((1 : Int) ≤ g2))) && (decide (g2 ≤ 10)), true)], vS (Instr.loadAt 3 (.pointer (some ⟨g4, 0, none⟩))), .int .i64 g1⟩, ⟨false, [((((decide ((1 : Int) ≤ g1)) && (decide (g1 ≤ 10))) && (decide ((1 : Int) ≤ g2))) && (decide (g2 ≤ 10)), true)], vS (Instr.loadAt 3 (.pointer (some ⟨g4, 1, none⟩))), .int .i64 g2⟩, ⟨false, [(((((decide ((1 : Int) ≤ g1)) && (decide (g1 ≤ 10))) && (decide ((1 : Int) ≤ g2))) && (decide (g2 ≤ 10))) && ((g3.length : Int) == (w64 (g1 * g2))), true)], vS (Instr.loadAt 22 (.pointer (some ⟨g4, 2, none⟩))), .slice A1 g3.length c1⟩, ⟨false, [(((((decide ((1 : Int) ≤ g1)) && (decide (g1 ≤ 10))) && (decide ((1 : Int) ≤ g2))) && (decide (g2 ≤ 10))) && ((g3.length : Int) == (w64 (g1 * g2))), true)], callFunc 50 #[.slice A1 g3.length c1, .func (.func 105) #[] #[]], .bool r1⟩] [none, some (.int .i64 g1), none, none, none, some (.int .i64 g1), none, none, none, none, some (.int .i64 g2), none, none, none, none, some (.int .i64 g2), none, none, none, none, some (.slice A1 g3.length c1), none, none, some (.int .i64 g1), none, some (.int .i64 g2), none, none, none, none, none, some (.slice A1 g3.length c1), some (.bool r1), none, none, none] [2] [pl 2 (.bool ((((((decide ((1 : Int) ≤ g1)) && (decide (g1 ≤ 10))) && (decide ((1 : Int) ≤ g2))) && (decide (g2 ≤ 10))) && ((g3.length : Int) == (w64 (g1 * g2)))) && (!r1)))] hF hS Fol (by kernel_rfl) (by kernel_rfl) (by kernel_rfl) ?_ (fun a w hF hS => ?_)
  · exact obs_cons (ob_load Agg3 (fun _ _ hS => (hS.at_ 0 rfl).cell rfl)) <| obs_cons (ob_load Agg3 (fun _ _ hS => (hS.at_ 0 rfl).cell rfl)) <| obs_cons (ob_load Agg3 (fun _ _ hS => (hS.at_ 0 rfl).cell rfl)) <| obs_cons (ob_load Agg3 (fun _ _ hS => (hS.at_ 0 rfl).cell rfl)) <| obs_cons (ob_load Agg22 (fun _ _ hS => (hS.at_ 0 rfl).cell rfl)) <| obs_cons (ob_load Agg3 (fun _ _ hS => (hS.at_ 0 rfl).cell rfl)) <| obs_cons (ob_load Agg3 (fun _ _ hS => (hS.at_ 0 rfl).cell rfl)) <| obs_cons (ob_load Agg22 (fun _ _ hS => (hS.at_ 0 rfl).cell rfl)) <| obs_cons (ob_call Try.func50 (by kernel_rfl) rfl (fun hy _ hS => slices_ContainsFunc_w (ite_some hr1 (by rw [show (((((decide ((1 : Int) ≤ g1)) && (decide (g1 ≤ 10))) && (decide ((1 : Int) ≤ g2))) && (decide (g2 ≤ 10))) && ((g3.length : Int) == (w64 (g1 * g2)))) = true from hy (((((decide ((1 : Int) ≤ g1)) && (decide (g1 ≤ 10))) && (decide ((1 : Int) ≤ g2))) && (decide (g2 ≤ 10))) && ((g3.length : Int) == (w64 (g1 * g2))), true) (by simp)]; try rfl)) hS (fun _ hS => (hr_g3 _ (hS.dropN 1))) _hc_g3 rfl)) <| obs_nil
  refine wpIn_ret ?_
  have hS := hS.pickN 1 [] (by decide)
  have hm : some ((((((decide ((1 : Int) ≤ g1)) && (decide (g1 ≤ 10))) && (decide ((1 : Int) ≤ g2))) && (decide (g2 ≤ 10))) && ((g3.length : Int) == (w64 (g1 * g2)))) && (!r1)) = some r := hm
  obtain rfl := Option.some.inj hm
  exact retV (rs := [.tmp 2]) (vs := [.bool ((((((decide ((1 : Int) ≤ g1)) && (decide (g1 ≤ 10))) && (decide ((1 : Int) ≤ g2))) && (decide (g2 ≤ 10))) && ((g3.length : Int) == (w64 (g1 * g2)))) && (!r1))]) hF rfl (rv_t (by kernel_rfl) <| rv_nil) rfl ⟨rfl, hS⟩

noncomputable def stones_near_J4  (l4 : List Int) : Option (List Int) :=
  some l4

noncomputable def stones_near_J3  (g1 : Int) (g3 : List Int) (at1 : Int) (l3 : List Int) : Option (List Int) :=
  if (decide ((w64 (at1 + g1)) < (g3.length : Int))) then (asrt ((l3.length : Int) + 1 ≤ bigN) <| stones_near_J4 (l3 ++ ([w64 (at1 + g1)] : List Int))) else (stones_near_J4 l3)

noncomputable def stones_near_J2  (g1 : Int) (g3 : List Int) (at1 : Int) (l2 : List Int) : Option (List Int) :=
  if (decide (g1 ≤ at1)) then (asrt ((l2.length : Int) + 1 ≤ bigN) <| (stones_near_J3 g1 g3 at1) (l2 ++ ([w64 (at1 - g1)] : List Int))) else ((stones_near_J3 g1 g3 at1) l2)

noncomputable def stones_near_J1  (g1 : Int) (g3 : List Int) (at1 : Int) (l1 : List Int) : Option (List Int) :=
  asrt (g1 ≠ (0 : Int)) <| if (decide ((Int.tmod at1 g1) < (w64 (g1 - 1)))) then (asrt ((l1.length : Int) + 1 ≤ bigN) <| (stones_near_J2 g1 g3 at1) (l1 ++ ([w64 (at1 + 1)] : List Int))) else ((stones_near_J2 g1 g3 at1) l1)

noncomputable def stones_near_m  (g1 : Int) (g2 : Int) (g3 : List Int) (at1 : Int) : Option (List Int) :=
  asrt (g1 ≠ (0 : Int)) <| if (decide ((0 : Int) < (Int.tmod at1 g1))) then (asrt ((0 : Int) + 1 ≤ bigN) <| (stones_near_J1 g1 g3 at1) ([] ++ ([w64 (at1 - 1)] : List Int))) else ((stones_near_J1 g1 g3 at1) ([] : List Int))

set_option maxRecDepth 100000 in
set_option maxHeartbeats 4000000 in
theorem stones_near_w  {g1 : Int} {g2 : Int} {A1 : Option Addr} {c1 : Nat} {n1 : Nat} {g3 : List Int} {at1 : Int} {r : (List Int)} {w0 w : World} {B : Nat} {fs : List HP} (hm : stones_near_m g1 g2 g3 at1 = some r) (hS : Sep w0 B w (fs)) (hr_g3 : RdF w0 B fs A1 (vI g3)) (_hc_g3 : g3.length ≤ c1) (_hn_g3 : n1 = g3.length) :
    Calls Try.prog 106 #[.agg #[.int .i64 g1, .int .i64 g2, .slice A1 n1 c1], .int .i64 at1] w fun e w' => ∃ v, e = .returned v ∧ ∃ (A10 : Option Addr) (c10 : Nat), v = .slice A10 r.length c10 ∧ Sep w0 B w' (own 3 (.slice A10 r.length c10) (vI r) :: fs) := by
  obtain ⟨i3, hi3, hz3, hs3, hb3⟩ := info_parts Info3
  obtain rfl := _hn_g3
  unfold stones_near_m at hm
  replace hm := start_b hm
  refine enter (l := [.agg #[.int .i64 g1, .int .i64 g2, .slice A1 g3.length c1], .int .i64 at1]) (n := 56) Try.func106 rfl rfl (by simp) (fun a hF => ?_)
  refine seqR ?_
  refine at_do (d := 2) (s := vS (Instr.box 24 (.agg #[.int .i64 g1, .int .i64 g2, .slice A1 g3.length c1]))) (v := .pointer (some ⟨w.heap.size, 0, none⟩)) (w' := w.alloc (.cells #[.int .i64 g1, .int .i64 g2, .slice A1 g3.length c1] 24)) hF (by kernel_rfl) (by kernel_rfl) (by kernel_rfl) (fun a hF => ?_)
  have hS : Sep w0 B (w.alloc (.cells #[.int .i64 g1, .int .i64 g2, .slice A1 g3.length c1] 24)) (blk w.heap.size 24 #[.int .i64 g1, .int .i64 g2, .slice A1 g3.length c1] :: (fs)) := hS.box 24 #[.int .i64 g1, .int .i64 g2, .slice A1 g3.length c1]
  generalize w.heap.size = g4 at hF hS
  generalize w.alloc (.cells #[.int .i64 g1, .int .i64 g2, .slice A1 g3.length c1] 24) = w at hS ⊢
  refine at_run 1 [] [] [1, 2] [pl 1 (.int .i64 at1), pl 2 (.pointer (some ⟨g4, 0, none⟩))] hF hS (by kernel_rfl) (by kernel_rfl) ?_ (fun a w hF hS => ?_)
  · exact obs_nil
  refine at_end [1, 2] [pl 1 (.int .i64 at1), pl 2 (.pointer (some ⟨g4, 0, none⟩))] hF rfl (by kernel_rfl) (fun hF => ?_)
  refine then_n ?_
  refine reg [] [] [1, 2, 5] [pl 1 (.int .i64 at1), pl 2 (.pointer (some ⟨g4, 0, none⟩)), pl 5 (.slice none 0 0)] hF hS Fol (by kernel_rfl) (by kernel_rfl) (by kernel_rfl) ?_ (fun a w hF hS => ?_)
  · exact obs_nil
  refine seq_cut (fun a w => ∃ (l1 : List Int) (A3 : Option Addr) (c3 : Nat), Fr 56 [pl 1 (.int .i64 at1), pl 2 (.pointer (some ⟨g4, 0, none⟩)), pl 5 (.slice A3 l1.length c3)] a ∧ Sep w0 B w (blk g4 24 #[.int .i64 g1, .int .i64 g2, .slice A1 g3.length c1] :: own 3 (.slice A3 l1.length c3) (vI l1) :: fs) ∧ ((stones_near_J1 g1 g3 at1) l1).bind some = some r) ?_ ?_
  · rintro a w ⟨l1, A3, c3, hF, hS, hm⟩
    unfold stones_near_J1 at hm
    refine seq_cut (fun a w => ∃ (l2 : List Int) (A5 : Option Addr) (c5 : Nat), Fr 56 [pl 1 (.int .i64 at1), pl 2 (.pointer (some ⟨g4, 0, none⟩)), pl 5 (.slice A5 l2.length c5)] a ∧ Sep w0 B w (blk g4 24 #[.int .i64 g1, .int .i64 g2, .slice A1 g3.length c1] :: own 3 (.slice A5 l2.length c5) (vI l2) :: fs) ∧ ((stones_near_J2 g1 g3 at1) l2).bind some = some r) ?_ ?_
    · rintro a w ⟨l2, A5, c5, hF, hS, hm⟩
      unfold stones_near_J2 at hm
      refine seq_cut (fun a w => ∃ (l3 : List Int) (A7 : Option Addr) (c7 : Nat), Fr 56 [pl 1 (.int .i64 at1), pl 2 (.pointer (some ⟨g4, 0, none⟩)), pl 5 (.slice A7 l3.length c7)] a ∧ Sep w0 B w (blk g4 24 #[.int .i64 g1, .int .i64 g2, .slice A1 g3.length c1] :: own 3 (.slice A7 l3.length c7) (vI l3) :: fs) ∧ ((stones_near_J3 g1 g3 at1) l3).bind some = some r) ?_ ?_
      · rintro a w ⟨l3, A7, c7, hF, hS, hm⟩
        unfold stones_near_J3 at hm
        refine seq_cut (fun a w => ∃ (l4 : List Int) (A9 : Option Addr) (c9 : Nat), Fr 56 [pl 5 (.slice A9 l4.length c9)] a ∧ Sep w0 B w (own 3 (.slice A9 l4.length c9) (vI l4) :: fs) ∧ (stones_near_J4 l4).bind some = some r) ?_ ?_
        · rintro a w ⟨l4, A9, c9, hF, hS, hm⟩
          unfold stones_near_J4 at hm
          refine reg [] [] [4] [pl 4 (.slice A9 l4.length c9)] hF hS Fol (by kernel_rfl) (by kernel_rfl) (by kernel_rfl) ?_ (fun a w hF hS => ?_)
          · exact obs_nil
          refine wpIn_ret ?_
          have hm : some l4 = some r := hm
          obtain rfl := Option.some.inj hm
          exact retV (rs := [.tmp 4]) (vs := [.slice A9 l4.length c9]) hF rfl (rv_t (by kernel_rfl) <| rv_nil) rfl ⟨_, rfl, A9, c9, rfl, hS⟩
        · refine reg [⟨false, [], vS (Instr.loadAt 3 (.pointer (some ⟨g4, 0, none⟩))), .int .i64 g1⟩, ⟨false, [], vS (Instr.loadAt 22 (.pointer (some ⟨g4, 2, none⟩))), .slice A1 g3.length c1⟩] [none, none, some (.int .i64 g1), none, none, some (.slice A1 g3.length c1), none, none] [1, 2, 5, 47] [pl 1 (.int .i64 at1), pl 2 (.pointer (some ⟨g4, 0, none⟩)), pl 5 (.slice A7 l3.length c7), pl 47 (.bool (decide ((w64 (at1 + g1)) < (g3.length : Int))))] hF hS Fol (by kernel_rfl) (by kernel_rfl) (by kernel_rfl) ?_ (fun a w hF hS => ?_)
          · exact obs_cons (ob_load Agg3 (fun _ _ hS => (hS.at_ 0 rfl).cell rfl)) <| obs_cons (ob_load Agg22 (fun _ _ hS => (hS.at_ 0 rfl).cell rfl)) <| obs_nil
          refine cond_ev (t := 47) (b := decide ((w64 (at1 + g1)) < (g3.length : Int))) hF (by kernel_rfl) (fun hb => ?_) (fun hb => ?_)
          · replace hm := if_t hm hb
            refine oneR ?_
            obtain ⟨hp6, hm⟩ := asrt_b hm
            refine at_run 5 [⟨false, [], vS (Instr.loadAt 3 (.pointer (some ⟨g4, 0, none⟩))), .int .i64 g1⟩] [none, none, none, some (.int .i64 g1), none] [48, 52] [pl 48 (.slice A7 l3.length c7), pl 52 (.int .i64 (w64 (at1 + g1)))] hF hS (by kernel_rfl) (by kernel_rfl) ?_ (fun a w hF hS => ?_)
            · exact obs_cons (ob_load Agg3 (fun _ _ hS => (hS.at_ 0 rfl).cell rfl)) <| obs_nil
            refine at_do (d := 53) (s := vS (Instr.buildSlice 22 1 #[(0, .int .i64 (w64 (at1 + g1)))])) (v := .slice (some ⟨w.heap.size, 0, none⟩) 1 1) (w' := w.alloc (.cells #[.int .i64 (w64 (at1 + g1))] 3)) hF (by kernel_rfl) (by kernel_rfl) (by kernel_rfl) (fun a hF => ?_)
            have hS : Sep w0 B (w.alloc (.cells #[.int .i64 (w64 (at1 + g1))] 3)) (own 3 (.slice (some (⟨w.heap.size, 0, none⟩ : Addr)) 1 1) (vI ([w64 (at1 + g1)] : List Int)) :: (blk g4 24 #[.int .i64 g1, .int .i64 g2, .slice A1 g3.length c1] :: own 3 (.slice A7 l3.length c7) (vI l3) :: fs)) := hS.lit 3 #[.int .i64 (w64 (at1 + g1))] 1 rfl (by omega)
            generalize (some (⟨w.heap.size, 0, none⟩ : Addr)) = g8 at hF hS
            generalize w.alloc (.cells #[.int .i64 (w64 (at1 + g1))] 3) = w at hS ⊢
            obtain ⟨A8, c8, w, hrun, hS⟩ := run_app1 (P := Try.prog) (t := 22) (m := l3) (ys := ([w64 (at1 + g1)] : List Int)) (A2 := g8) (m2 := 1) (c2 := 1) (Value.int .i64) (0 : Int) (hS.at_ 2 rfl) (hS.at_ 0 rfl).rd ((hS.at_ 0 rfl).len1) 22 Und22 hi3 hz3 hs3 (by omega) rfl (fun _ => rfl) hp6
            have hS : Sep w0 B w (own 3 (.slice g8 1 1) (vI ([w64 (at1 + g1)] : List Int)) :: blk g4 24 #[.int .i64 g1, .int .i64 g2, .slice A1 g3.length c1] :: own 3 (.slice A8 ((l3 ++ ([w64 (at1 + g1)] : List Int)).length) c8) (vI (l3 ++ ([w64 (at1 + g1)] : List Int))) :: fs) := hS
            refine at_do (d := 54) hF (by kernel_rfl) (by kernel_rfl) hrun (fun a hF => ?_)
            refine at_run 1 [] [] [5] [pl 5 (.slice A8 ((l3 ++ ([w64 (at1 + g1)] : List Int)).length) c8)] hF hS (by kernel_rfl) (by kernel_rfl) ?_ (fun a w hF hS => ?_)
            · exact obs_nil
            refine at_end [5] [pl 5 (.slice A8 ((l3 ++ ([w64 (at1 + g1)] : List Int)).length) c8)] hF rfl (by kernel_rfl) (fun hF => ?_)
            refine then_n ?_
            have hS := hS.pickN 3 [2] (by decide)
            exact ⟨(l3 ++ ([w64 (at1 + g1)] : List Int)), A8, c8, hF.weak [5] (by kernel_rfl), hS, hm⟩
          · replace hm := if_f hm hb
            refine wpIn_skip ?_
            refine then_n ?_
            have hS := hS.pickN 2 [1] (by decide)
            exact ⟨l3, A7, c7, hF.weak [5] (by kernel_rfl), hS, hm⟩
      · refine reg [⟨false, [], vS (Instr.loadAt 3 (.pointer (some ⟨g4, 0, none⟩))), .int .i64 g1⟩] [none, none, some (.int .i64 g1), none] [1, 2, 5, 32] [pl 1 (.int .i64 at1), pl 2 (.pointer (some ⟨g4, 0, none⟩)), pl 5 (.slice A5 l2.length c5), pl 32 (.bool (decide (g1 ≤ at1)))] hF hS Fol (by kernel_rfl) (by kernel_rfl) (by kernel_rfl) ?_ (fun a w hF hS => ?_)
        · exact obs_cons (ob_load Agg3 (fun _ _ hS => (hS.at_ 0 rfl).cell rfl)) <| obs_nil
        refine cond_ev (t := 32) (b := decide (g1 ≤ at1)) hF (by kernel_rfl) (fun hb => ?_) (fun hb => ?_)
        · replace hm := if_t hm hb
          refine oneR ?_
          obtain ⟨hp5, hm⟩ := asrt_b hm
          refine at_run 5 [⟨false, [], vS (Instr.loadAt 3 (.pointer (some ⟨g4, 0, none⟩))), .int .i64 g1⟩] [none, none, none, some (.int .i64 g1), none] [1, 2, 33, 37] [pl 1 (.int .i64 at1), pl 2 (.pointer (some ⟨g4, 0, none⟩)), pl 33 (.slice A5 l2.length c5), pl 37 (.int .i64 (w64 (at1 - g1)))] hF hS (by kernel_rfl) (by kernel_rfl) ?_ (fun a w hF hS => ?_)
          · exact obs_cons (ob_load Agg3 (fun _ _ hS => (hS.at_ 0 rfl).cell rfl)) <| obs_nil
          refine at_do (d := 38) (s := vS (Instr.buildSlice 22 1 #[(0, .int .i64 (w64 (at1 - g1)))])) (v := .slice (some ⟨w.heap.size, 0, none⟩) 1 1) (w' := w.alloc (.cells #[.int .i64 (w64 (at1 - g1))] 3)) hF (by kernel_rfl) (by kernel_rfl) (by kernel_rfl) (fun a hF => ?_)
          have hS : Sep w0 B (w.alloc (.cells #[.int .i64 (w64 (at1 - g1))] 3)) (own 3 (.slice (some (⟨w.heap.size, 0, none⟩ : Addr)) 1 1) (vI ([w64 (at1 - g1)] : List Int)) :: (blk g4 24 #[.int .i64 g1, .int .i64 g2, .slice A1 g3.length c1] :: own 3 (.slice A5 l2.length c5) (vI l2) :: fs)) := hS.lit 3 #[.int .i64 (w64 (at1 - g1))] 1 rfl (by omega)
          generalize (some (⟨w.heap.size, 0, none⟩ : Addr)) = g7 at hF hS
          generalize w.alloc (.cells #[.int .i64 (w64 (at1 - g1))] 3) = w at hS ⊢
          obtain ⟨A6, c6, w, hrun, hS⟩ := run_app1 (P := Try.prog) (t := 22) (m := l2) (ys := ([w64 (at1 - g1)] : List Int)) (A2 := g7) (m2 := 1) (c2 := 1) (Value.int .i64) (0 : Int) (hS.at_ 2 rfl) (hS.at_ 0 rfl).rd ((hS.at_ 0 rfl).len1) 22 Und22 hi3 hz3 hs3 (by omega) rfl (fun _ => rfl) hp5
          have hS : Sep w0 B w (own 3 (.slice g7 1 1) (vI ([w64 (at1 - g1)] : List Int)) :: blk g4 24 #[.int .i64 g1, .int .i64 g2, .slice A1 g3.length c1] :: own 3 (.slice A6 ((l2 ++ ([w64 (at1 - g1)] : List Int)).length) c6) (vI (l2 ++ ([w64 (at1 - g1)] : List Int))) :: fs) := hS
          refine at_do (d := 39) hF (by kernel_rfl) (by kernel_rfl) hrun (fun a hF => ?_)
          refine at_run 1 [] [] [1, 2, 5] [pl 1 (.int .i64 at1), pl 2 (.pointer (some ⟨g4, 0, none⟩)), pl 5 (.slice A6 ((l2 ++ ([w64 (at1 - g1)] : List Int)).length) c6)] hF hS (by kernel_rfl) (by kernel_rfl) ?_ (fun a w hF hS => ?_)
          · exact obs_nil
          refine at_end [1, 2, 5] [pl 1 (.int .i64 at1), pl 2 (.pointer (some ⟨g4, 0, none⟩)), pl 5 (.slice A6 ((l2 ++ ([w64 (at1 - g1)] : List Int)).length) c6)] hF rfl (by kernel_rfl) (fun hF => ?_)
          refine then_n ?_
          have hS := hS.pickN 3 [1, 2] (by decide)
          exact ⟨(l2 ++ ([w64 (at1 - g1)] : List Int)), A6, c6, hF.weak [1, 2, 5] (by kernel_rfl), hS, hm⟩
        · replace hm := if_f hm hb
          refine wpIn_skip ?_
          refine then_n ?_
          exact ⟨l2, A5, c5, hF.weak [1, 2, 5] (by kernel_rfl), hS, hm⟩
    · obtain ⟨hp3, hm⟩ := asrt_b hm
      refine reg [⟨false, [], vS (Instr.loadAt 3 (.pointer (some ⟨g4, 0, none⟩))), .int .i64 g1⟩, ⟨true, [], vS (Op.intDiv .rem .i64 at1 g1), .int .i64 (Int.tmod at1 g1)⟩, ⟨false, [], vS (Instr.loadAt 3 (.pointer (some ⟨g4, 0, none⟩))), .int .i64 g1⟩] [none, none, some (.int .i64 g1), some (.int .i64 (Int.tmod at1 g1)), none, some (.int .i64 g1), none, none] [1, 2, 5, 23] [pl 1 (.int .i64 at1), pl 2 (.pointer (some ⟨g4, 0, none⟩)), pl 5 (.slice A3 l1.length c3), pl 23 (.bool (decide ((Int.tmod at1 g1) < (w64 (g1 - 1)))))] hF hS Fol (by kernel_rfl) (by kernel_rfl) (by kernel_rfl) ?_ (fun a w hF hS => ?_)
      · exact obs_cons (ob_load Agg3 (fun _ _ hS => (hS.at_ 0 rfl).cell rfl)) <| obs_cons (ob_rem rfl (fun _ => hp3)) <| obs_cons (ob_load Agg3 (fun _ _ hS => (hS.at_ 0 rfl).cell rfl)) <| obs_nil
      refine cond_ev (t := 23) (b := decide ((Int.tmod at1 g1) < (w64 (g1 - 1)))) hF (by kernel_rfl) (fun hb => ?_) (fun hb => ?_)
      · replace hm := if_t hm hb
        refine oneR ?_
        obtain ⟨hp4, hm⟩ := asrt_b hm
        refine at_run 3 [] [] [1, 2, 24, 26] [pl 1 (.int .i64 at1), pl 2 (.pointer (some ⟨g4, 0, none⟩)), pl 24 (.slice A3 l1.length c3), pl 26 (.int .i64 (w64 (at1 + 1)))] hF hS (by kernel_rfl) (by kernel_rfl) ?_ (fun a w hF hS => ?_)
        · exact obs_nil
        refine at_do (d := 27) (s := vS (Instr.buildSlice 22 1 #[(0, .int .i64 (w64 (at1 + 1)))])) (v := .slice (some ⟨w.heap.size, 0, none⟩) 1 1) (w' := w.alloc (.cells #[.int .i64 (w64 (at1 + 1))] 3)) hF (by kernel_rfl) (by kernel_rfl) (by kernel_rfl) (fun a hF => ?_)
        have hS : Sep w0 B (w.alloc (.cells #[.int .i64 (w64 (at1 + 1))] 3)) (own 3 (.slice (some (⟨w.heap.size, 0, none⟩ : Addr)) 1 1) (vI ([w64 (at1 + 1)] : List Int)) :: (blk g4 24 #[.int .i64 g1, .int .i64 g2, .slice A1 g3.length c1] :: own 3 (.slice A3 l1.length c3) (vI l1) :: fs)) := hS.lit 3 #[.int .i64 (w64 (at1 + 1))] 1 rfl (by omega)
        generalize (some (⟨w.heap.size, 0, none⟩ : Addr)) = g6 at hF hS
        generalize w.alloc (.cells #[.int .i64 (w64 (at1 + 1))] 3) = w at hS ⊢
        obtain ⟨A4, c4, w, hrun, hS⟩ := run_app1 (P := Try.prog) (t := 22) (m := l1) (ys := ([w64 (at1 + 1)] : List Int)) (A2 := g6) (m2 := 1) (c2 := 1) (Value.int .i64) (0 : Int) (hS.at_ 2 rfl) (hS.at_ 0 rfl).rd ((hS.at_ 0 rfl).len1) 22 Und22 hi3 hz3 hs3 (by omega) rfl (fun _ => rfl) hp4
        have hS : Sep w0 B w (own 3 (.slice g6 1 1) (vI ([w64 (at1 + 1)] : List Int)) :: blk g4 24 #[.int .i64 g1, .int .i64 g2, .slice A1 g3.length c1] :: own 3 (.slice A4 ((l1 ++ ([w64 (at1 + 1)] : List Int)).length) c4) (vI (l1 ++ ([w64 (at1 + 1)] : List Int))) :: fs) := hS
        refine at_do (d := 28) hF (by kernel_rfl) (by kernel_rfl) hrun (fun a hF => ?_)
        refine at_run 1 [] [] [1, 2, 5] [pl 1 (.int .i64 at1), pl 2 (.pointer (some ⟨g4, 0, none⟩)), pl 5 (.slice A4 ((l1 ++ ([w64 (at1 + 1)] : List Int)).length) c4)] hF hS (by kernel_rfl) (by kernel_rfl) ?_ (fun a w hF hS => ?_)
        · exact obs_nil
        refine at_end [1, 2, 5] [pl 1 (.int .i64 at1), pl 2 (.pointer (some ⟨g4, 0, none⟩)), pl 5 (.slice A4 ((l1 ++ ([w64 (at1 + 1)] : List Int)).length) c4)] hF rfl (by kernel_rfl) (fun hF => ?_)
        refine then_n ?_
        have hS := hS.pickN 3 [1, 2] (by decide)
        exact ⟨(l1 ++ ([w64 (at1 + 1)] : List Int)), A4, c4, hF.weak [1, 2, 5] (by kernel_rfl), hS, hm⟩
      · replace hm := if_f hm hb
        refine wpIn_skip ?_
        refine then_n ?_
        exact ⟨l1, A3, c3, hF.weak [1, 2, 5] (by kernel_rfl), hS, hm⟩
  · obtain ⟨hp1, hm⟩ := asrt_b hm
    refine reg [⟨false, [], vS (Instr.loadAt 3 (.pointer (some ⟨g4, 0, none⟩))), .int .i64 g1⟩, ⟨true, [], vS (Op.intDiv .rem .i64 at1 g1), .int .i64 (Int.tmod at1 g1)⟩] [none, none, some (.int .i64 g1), some (.int .i64 (Int.tmod at1 g1)), none] [1, 2, 5, 10] [pl 1 (.int .i64 at1), pl 2 (.pointer (some ⟨g4, 0, none⟩)), pl 5 (.slice none 0 0), pl 10 (.bool (decide ((0 : Int) < (Int.tmod at1 g1))))] hF hS Fol (by kernel_rfl) (by kernel_rfl) (by kernel_rfl) ?_ (fun a w hF hS => ?_)
    · exact obs_cons (ob_load Agg3 (fun _ _ hS => (hS.at_ 0 rfl).cell rfl)) <| obs_cons (ob_rem rfl (fun _ => hp1)) <| obs_nil
    refine cond_ev (t := 10) (b := decide ((0 : Int) < (Int.tmod at1 g1))) hF (by kernel_rfl) (fun hb => ?_) (fun hb => ?_)
    · replace hm := if_t hm hb
      refine oneR ?_
      obtain ⟨hp2, hm⟩ := asrt_b hm
      refine at_run 3 [] [] [1, 2, 11, 13] [pl 1 (.int .i64 at1), pl 2 (.pointer (some ⟨g4, 0, none⟩)), pl 11 (.slice none 0 0), pl 13 (.int .i64 (w64 (at1 - 1)))] hF hS (by kernel_rfl) (by kernel_rfl) ?_ (fun a w hF hS => ?_)
      · exact obs_nil
      refine at_do (d := 14) (s := vS (Instr.buildSlice 22 1 #[(0, .int .i64 (w64 (at1 - 1)))])) (v := .slice (some ⟨w.heap.size, 0, none⟩) 1 1) (w' := w.alloc (.cells #[.int .i64 (w64 (at1 - 1))] 3)) hF (by kernel_rfl) (by kernel_rfl) (by kernel_rfl) (fun a hF => ?_)
      have hS : Sep w0 B (w.alloc (.cells #[.int .i64 (w64 (at1 - 1))] 3)) (own 3 (.slice (some (⟨w.heap.size, 0, none⟩ : Addr)) 1 1) (vI ([w64 (at1 - 1)] : List Int)) :: (blk g4 24 #[.int .i64 g1, .int .i64 g2, .slice A1 g3.length c1] :: fs)) := hS.lit 3 #[.int .i64 (w64 (at1 - 1))] 1 rfl (by omega)
      generalize (some (⟨w.heap.size, 0, none⟩ : Addr)) = g5 at hF hS
      generalize w.alloc (.cells #[.int .i64 (w64 (at1 - 1))] 3) = w at hS ⊢
      have hS : Sep w0 B w (own 3 (.slice none 0 0) (vI ([] : List Int)) :: own 3 (.slice g5 1 1) (vI ([w64 (at1 - 1)] : List Int)) :: blk g4 24 #[.int .i64 g1, .int .i64 g2, .slice A1 g3.length c1] :: fs) := hS.nil 3
      obtain ⟨A2, c2, w, hrun, hS⟩ := run_app1 (P := Try.prog) (t := 22) (m := ([] : List Int)) (ys := ([w64 (at1 - 1)] : List Int)) (A2 := g5) (m2 := 1) (c2 := 1) (Value.int .i64) (0 : Int) (hS.at_ 0 rfl) (hS.at_ 1 rfl).rd ((hS.at_ 1 rfl).len1) 22 Und22 hi3 hz3 hs3 (by omega) rfl (fun _ => rfl) hp2
      have hS : Sep w0 B w (own 3 (.slice A2 (([] ++ ([w64 (at1 - 1)] : List Int)).length) c2) (vI ([] ++ ([w64 (at1 - 1)] : List Int))) :: own 3 (.slice g5 1 1) (vI ([w64 (at1 - 1)] : List Int)) :: blk g4 24 #[.int .i64 g1, .int .i64 g2, .slice A1 g3.length c1] :: fs) := hS
      refine at_do (d := 15) hF (by kernel_rfl) (by kernel_rfl) hrun (fun a hF => ?_)
      refine at_run 1 [] [] [1, 2, 5] [pl 1 (.int .i64 at1), pl 2 (.pointer (some ⟨g4, 0, none⟩)), pl 5 (.slice A2 (([] ++ ([w64 (at1 - 1)] : List Int)).length) c2)] hF hS (by kernel_rfl) (by kernel_rfl) ?_ (fun a w hF hS => ?_)
      · exact obs_nil
      refine at_end [1, 2, 5] [pl 1 (.int .i64 at1), pl 2 (.pointer (some ⟨g4, 0, none⟩)), pl 5 (.slice A2 (([] ++ ([w64 (at1 - 1)] : List Int)).length) c2)] hF rfl (by kernel_rfl) (fun hF => ?_)
      refine then_n ?_
      have hS := hS.pickN 3 [2, 0] (by decide)
      exact ⟨([] ++ ([w64 (at1 - 1)] : List Int)), A2, c2, hF.weak [1, 2, 5] (by kernel_rfl), hS, hm⟩
    · replace hm := if_f hm hb
      refine wpIn_skip ?_
      refine then_n ?_
      have hS : Sep w0 B w (own 3 (.slice none 0 0) (vI ([] : List Int)) :: blk g4 24 #[.int .i64 g1, .int .i64 g2, .slice A1 g3.length c1] :: fs) := hS.nil 3
      have hl1 := (hS.at_ 0 rfl).len1
      have hS := (hS.at_ 0 rfl).reN hl1
      have hS : Sep w0 B w (own 3 (.slice none (([] : List Int).length) 0) (vI ([] : List Int)) :: blk g4 24 #[.int .i64 g1, .int .i64 g2, .slice A1 g3.length c1] :: fs) := hS
      have hF := hF.cast (t := 5) (v := .slice none 0 0) (v' := .slice none (([] : List Int).length) 0) rfl rfl (congrArg (fun k => Value.slice none k 0) hl1)
      have hS := hS.pickN 2 [1, 0] (by decide)
      exact ⟨([] : List Int), none, 0, hF.weak [1, 2, 5] (by kernel_rfl), hS, hm⟩

noncomputable def stones_Areas_1_m  (c1 : Int) : Option Bool :=
  some (c1 == 0)

set_option maxRecDepth 100000 in
set_option maxHeartbeats 4000000 in
theorem stones_Areas_1_w  {c1 : Int} {r : Bool} {w0 w : World} {B : Nat} {fs : List HP} (hm : stones_Areas_1_m c1 = some r) (hS : Sep w0 B w (fs)) :
    Calls Try.prog 44 #[.int .i64 c1] w fun e w' => e = .returned (.bool r) ∧ Sep w0 B w' (fs) := by
  unfold stones_Areas_1_m at hm
  replace hm := start_b hm
  refine enter (l := [.int .i64 c1]) (n := 5) Try.func44 rfl rfl (by simp) (fun a hF => ?_)
  refine reg [] [] [0] [pl 0 (.int .i64 c1)] hF hS Fol (by kernel_rfl) (by kernel_rfl) (by kernel_rfl) ?_ (fun a w hF hS => ?_)
  · exact obs_nil
  refine reg [] [] [2] [pl 2 (.bool (c1 == 0))] hF hS Fol (by kernel_rfl) (by kernel_rfl) (by kernel_rfl) ?_ (fun a w hF hS => ?_)
  · exact obs_nil
  refine wpIn_ret ?_
  have hm : some (c1 == 0) = some r := hm
  obtain rfl := Option.some.inj hm
  exact retV (rs := [.tmp 2]) (vs := [.bool (c1 == 0)]) hF rfl (rv_t (by kernel_rfl) <| rv_nil) rfl ⟨rfl, hS⟩

noncomputable def slices_Sort_2_m (x1 : List Int) : Option (List Int) :=
  asrt ((x1.length : Int) ≤ bigN) <| some (sortI x1)

theorem slices_Sort_2_w {A1 : Option Addr} {c1 : Nat} {n1 : Nat} {x1 : List Int} {r : (List Int)} {w0 w : World} {B : Nat} {fs : List HP} (hm : slices_Sort_2_m x1 = some r) (hS : Sep w0 B w (own 3 (.slice A1 n1 c1) (vI x1) :: fs)) :
    Calls Try.prog 53 #[.slice A1 n1 c1] w fun e w' => ∃ v, e = .returned v ∧ v = .tuple #[] ∧ Sep w0 B w' (own 3 (.slice A1 n1 c1) (vI r) :: fs) := by
  unfold slices_Sort_2_m at hm
  obtain ⟨hb, hm⟩ := asrt_b (start_b hm)
  obtain rfl := Option.some.inj hm
  exact sort_own SortL hS hb

noncomputable def stones_spread_J5  (z1 : Int) (in5 : List Int) (border5 : List Int) (seen4 : List Bool) : Option (St (List Int × List Int × List Bool × Int) (List Int × List Int × List Bool)) :=
  some (.next (in5, border5, seen4, (w64 (z1 + 1))))

noncomputable def stones_spread_J6  (g3 : List Int) (r1 : (List Int)) (in3 : List Int) (border3 : List Int) (seen2 : List Bool) (z1 : Int) : Option (St (List Int × List Int × List Bool × Int) (List Int × List Int × List Bool)) :=
  asrt (0 ≤ (geti r1 z1) ∧ (geti r1 z1) < (((Int.toNat (g3.length : Int)) : Nat) : Int)) <| asrt (0 ≤ (geti r1 z1) ∧ (geti r1 z1) < (g3.length : Int)) <| (stones_Areas_1_m (geti g3 (geti r1 z1))).bind fun r2 => if r2 then (asrt ((in3.length : Int) + 1 ≤ bigN) <| (stones_spread_J5 z1) (in3 ++ ([geti r1 z1] : List Int)) border3 (seen2.set (Int.toNat (geti r1 z1)) true)) else (asrt ((border3.length : Int) + 1 ≤ bigN) <| (stones_spread_J5 z1) in3 (border3 ++ ([geti r1 z1] : List Int)) (seen2.set (Int.toNat (geti r1 z1)) true))

noncomputable def stones_spread_J4  (g3 : List Int) (r1 : (List Int)) (in3 : List Int) (border3 : List Int) (seen2 : List Bool) (z1 : Int) : Option (St (List Int × List Int × List Bool × Int) (List Int × List Int × List Bool)) :=
  asrt (0 ≤ z1 ∧ z1 < (r1.length : Int)) <| asrt (0 ≤ (geti r1 z1) ∧ (geti r1 z1) < (((Int.toNat (g3.length : Int)) : Nat) : Int)) <| if (getb seen2 (geti r1 z1)) then ((stones_spread_J5 z1) in3 border3 seen2) else ((stones_spread_J6 g3 r1 in3 border3 seen2 z1))

noncomputable def stones_spread_J3  (i1 : Int) (in4 : List Int) (border4 : List Int) (seen3 : List Bool) : Option (St (List Int × List Int × List Bool × Int) (List Int × List Int)) :=
  some (.next (in4, border4, seen3, (w64 (i1 + 1))))

noncomputable def stones_spread_K2  (i1 : Int) : (List Int × List Int × List Bool) → Option (St (List Int × List Int × List Bool × Int) (List Int × List Int)) :=
  fun (x : (List Int × List Int × List Bool)) => match x with | (in4, border4, seen3) => (stones_spread_J3 i1) in4 border4 seen3

noncomputable def stones_spread_L2  (g3 : List Int) (r1 : (List Int)) : (List Int × List Int × List Bool × Int) → Option (St (List Int × List Int × List Bool × Int) (List Int × List Int × List Bool)) :=
  fun (x : (List Int × List Int × List Bool × Int)) => match x with | (in3, border3, seen2, z1) => if (decide (z1 < (r1.length : Int))) then ((stones_spread_J4 g3 r1 in3 border3 seen2 z1)) else (some (.done (in3, border3, seen2)))

noncomputable def stones_spread_J2  (g1 : Int) (g2 : Int) (g3 : List Int) (in1 : List Int) (border1 : List Int) (seen1 : List Bool) (i1 : Int) : Option (St (List Int × List Int × List Bool × Int) (List Int × List Int)) :=
  asrt (0 ≤ i1 ∧ i1 < (in1.length : Int)) <| (stones_near_m g1 g2 g3 (geti in1 i1)).bind fun r1 => (loop (stones_spread_L2 g3 r1) (in1, border1, seen1, 0)).bind (stones_spread_K2 i1)

noncomputable def stones_spread_J1  (in2 : List Int) (border2 : List Int) : Option (List Int × List Int) :=
  (slices_Sort_2_m in2).bind fun r3 => (slices_Sort_2_m border2).bind fun r4 => some (r3, r4)

noncomputable def stones_spread_K1  : (List Int × List Int) → Option (List Int × List Int) :=
  fun (x : (List Int × List Int)) => match x with | (in2, border2) => stones_spread_J1 in2 border2

noncomputable def stones_spread_L1  (g1 : Int) (g2 : Int) (g3 : List Int) : (List Int × List Int × List Bool × Int) → Option (St (List Int × List Int × List Bool × Int) (List Int × List Int)) :=
  fun (x : (List Int × List Int × List Bool × Int)) => match x with | (in1, border1, seen1, i1) => if (decide (i1 < (in1.length : Int))) then ((stones_spread_J2 g1 g2 g3 in1 border1 seen1 i1)) else (some (.done (in1, border1)))

noncomputable def stones_spread_m  (g1 : Int) (g2 : Int) (g3 : List Int) (from1 : Int) : Option (List Int × List Int) :=
  asrt ((0 : Int) ≤ (g3.length : Int) ∧ (g3.length : Int) ≤ bigN) <| asrt (0 ≤ from1 ∧ from1 < (((Int.toNat (g3.length : Int)) : Nat) : Int)) <| (loop (stones_spread_L1 g1 g2 g3) (([from1] : List Int), ([] : List Int), ((List.replicate (Int.toNat (g3.length : Int)) false).set (Int.toNat from1) true), 0)).bind stones_spread_K1

set_option maxRecDepth 100000 in
set_option maxHeartbeats 4000000 in
theorem stones_spread_w  {g1 : Int} {g2 : Int} {A1 : Option Addr} {c1 : Nat} {n1 : Nat} {g3 : List Int} {from1 : Int} {r : (List Int × List Int)} {w0 w : World} {B : Nat} {fs : List HP} (hm : stones_spread_m g1 g2 g3 from1 = some r) (hS : Sep w0 B w (fs)) (hr_g3 : RdF w0 B fs A1 (vI g3)) (_hc_g3 : g3.length ≤ c1) (_hn_g3 : n1 = g3.length) :
    Calls Try.prog 43 #[.agg #[.int .i64 g1, .int .i64 g2, .slice A1 n1 c1], .int .i64 from1, .func (.func 44) #[] #[]] w fun e w' => ∃ v, e = .returned v ∧ ∃ (A16 : Option Addr) (c16 : Nat) (A17 : Option Addr) (c17 : Nat), v = .tuple #[.slice A16 r.1.length c16, .slice A17 r.2.length c17] ∧ Sep w0 B w' (own 3 (.slice A16 r.1.length c16) (vI r.1) :: own 3 (.slice A17 r.2.length c17) (vI r.2) :: fs) := by
  obtain ⟨i3, hi3, hz3, hs3, hb3⟩ := info_parts Info3
  obtain ⟨i4, hi4, hz4, hs4, hb4⟩ := info_parts Info4
  obtain rfl := _hn_g3
  unfold stones_spread_m at hm
  replace hm := start_b hm
  refine enter (l := [.agg #[.int .i64 g1, .int .i64 g2, .slice A1 g3.length c1], .int .i64 from1, .func (.func 44) #[] #[]]) (n := 67) Try.func43 rfl rfl (by simp) (fun a hF => ?_)
  refine seqR ?_
  refine at_do (d := 3) (s := vS (Instr.box 24 (.agg #[.int .i64 g1, .int .i64 g2, .slice A1 g3.length c1]))) (v := .pointer (some ⟨w.heap.size, 0, none⟩)) (w' := w.alloc (.cells #[.int .i64 g1, .int .i64 g2, .slice A1 g3.length c1] 24)) hF (by kernel_rfl) (by kernel_rfl) (by kernel_rfl) (fun a hF => ?_)
  have hS : Sep w0 B (w.alloc (.cells #[.int .i64 g1, .int .i64 g2, .slice A1 g3.length c1] 24)) (blk w.heap.size 24 #[.int .i64 g1, .int .i64 g2, .slice A1 g3.length c1] :: (fs)) := hS.box 24 #[.int .i64 g1, .int .i64 g2, .slice A1 g3.length c1]
  generalize w.heap.size = g4 at hF hS
  generalize w.alloc (.cells #[.int .i64 g1, .int .i64 g2, .slice A1 g3.length c1] 24) = w at hS ⊢
  refine at_run 2 [] [] [1, 2, 3, 7] [pl 1 (.int .i64 from1), pl 2 (.func (.func 44) #[] #[]), pl 3 (.pointer (some ⟨g4, 0, none⟩)), pl 7 (.slice none 0 0)] hF hS (by kernel_rfl) (by kernel_rfl) ?_ (fun a w hF hS => ?_)
  · exact obs_nil
  refine at_end [1, 2, 3, 7] [pl 1 (.int .i64 from1), pl 2 (.func (.func 44) #[] #[]), pl 3 (.pointer (some ⟨g4, 0, none⟩)), pl 7 (.slice none 0 0)] hF rfl (by kernel_rfl) (fun hF => ?_)
  refine then_n ?_
  refine seqR ?_
  obtain ⟨hp1, hm⟩ := asrt_b hm
  refine at_run 3 [⟨false, [], vS (Instr.loadAt 22 (.pointer (some ⟨g4, 2, none⟩))), .slice A1 g3.length c1⟩] [none, some (.slice A1 g3.length c1), none] [1, 2, 3, 7, 14] [pl 1 (.int .i64 from1), pl 2 (.func (.func 44) #[] #[]), pl 3 (.pointer (some ⟨g4, 0, none⟩)), pl 7 (.slice none 0 0), pl 14 (.int .i64 (g3.length : Int))] hF hS (by kernel_rfl) (by kernel_rfl) ?_ (fun a w hF hS => ?_)
  · exact obs_cons (ob_load Agg22 (fun _ _ hS => (hS.at_ 0 rfl).cell rfl)) <| obs_nil
  obtain ⟨A2, c2, w, hrun, hS⟩ := run_mk1 (P := Try.prog) (t := 86) Value.bool false hS .i64 .i64 Und86 hi4 hz4 hs4 (by omega) rfl hp1
  have hS : Sep w0 B w (own 4 (.slice A2 (Int.toNat (g3.length : Int)) c2) (vB (List.replicate (Int.toNat (g3.length : Int)) false)) :: blk g4 24 #[.int .i64 g1, .int .i64 g2, .slice A1 g3.length c1] :: fs) := hS
  refine at_do (d := 15) hF (by kernel_rfl) (by kernel_rfl) hrun (fun a hF => ?_)
  refine at_run 1 [] [] [1, 2, 3, 7, 8] [pl 1 (.int .i64 from1), pl 2 (.func (.func 44) #[] #[]), pl 3 (.pointer (some ⟨g4, 0, none⟩)), pl 7 (.slice none 0 0), pl 8 (.slice A2 (Int.toNat (g3.length : Int)) c2)] hF hS (by kernel_rfl) (by kernel_rfl) ?_ (fun a w hF hS => ?_)
  · exact obs_nil
  refine at_end [1, 2, 3, 7, 8] [pl 1 (.int .i64 from1), pl 2 (.func (.func 44) #[] #[]), pl 3 (.pointer (some ⟨g4, 0, none⟩)), pl 7 (.slice none 0 0), pl 8 (.slice A2 (Int.toNat (g3.length : Int)) c2)] hF rfl (by kernel_rfl) (fun hF => ?_)
  refine then_n ?_
  refine seqR ?_
  obtain ⟨hp2, hm⟩ := asrt_b hm
  refine at_run 3 [⟨true, [], vS (Instr.indexAt 86 (.slice A2 (Int.toNat (g3.length : Int)) c2) (.int .i64 from1)), .pointer (some (sAddr A2 from1))⟩] [none, none, some (.pointer (some (sAddr A2 from1)))] [1, 2, 3, 7, 8, 18] [pl 1 (.int .i64 from1), pl 2 (.func (.func 44) #[] #[]), pl 3 (.pointer (some ⟨g4, 0, none⟩)), pl 7 (.slice none 0 0), pl 8 (.slice A2 (Int.toNat (g3.length : Int)) c2), pl 18 (.pointer (some (sAddr A2 from1)))] hF hS (by kernel_rfl) (by kernel_rfl) ?_ (fun a w hF hS => ?_)
  · exact obs_cons (ob_ix1 (f := Value.bool) (m := (List.replicate (Int.toNat (g3.length : Int)) false)) Und86 hi4 hs4 (hS.at_ 0 rfl).rd ((hS.at_ 0 rfl).len1) (fun _ => hp2)) <| obs_nil
  obtain ⟨w, hrun, hS⟩ := run_set1 (P := Try.prog) (t := 4) (x := true) Value.bool (hS.at_ 0 rfl) hi4 hs4 rfl rfl hp2
  refine at_skip hF (by kernel_rfl) hrun ?_
  have hS : Sep w0 B w (own 4 (.slice A2 (Int.toNat (g3.length : Int)) c2) (vB ((List.replicate (Int.toNat (g3.length : Int)) false).set (Int.toNat from1) true)) :: blk g4 24 #[.int .i64 g1, .int .i64 g2, .slice A1 g3.length c1] :: fs) := hS
  refine at_end [1, 2, 3, 7, 8] [pl 1 (.int .i64 from1), pl 2 (.func (.func 44) #[] #[]), pl 3 (.pointer (some ⟨g4, 0, none⟩)), pl 7 (.slice none 0 0), pl 8 (.slice A2 (Int.toNat (g3.length : Int)) c2)] hF rfl (by kernel_rfl) (fun hF => ?_)
  refine then_n ?_
  refine seqR ?_
  refine at_run 1 [] [] [2, 3, 7, 8, 19] [pl 2 (.func (.func 44) #[] #[]), pl 3 (.pointer (some ⟨g4, 0, none⟩)), pl 7 (.slice none 0 0), pl 8 (.slice A2 (Int.toNat (g3.length : Int)) c2), pl 19 (.int .i64 from1)] hF hS (by kernel_rfl) (by kernel_rfl) ?_ (fun a w hF hS => ?_)
  · exact obs_nil
  refine at_do (d := 20) (s := vS (Instr.buildSlice 22 1 #[(0, .int .i64 from1)])) (v := .slice (some ⟨w.heap.size, 0, none⟩) 1 1) (w' := w.alloc (.cells #[.int .i64 from1] 3)) hF (by kernel_rfl) (by kernel_rfl) (by kernel_rfl) (fun a hF => ?_)
  have hS : Sep w0 B (w.alloc (.cells #[.int .i64 from1] 3)) (own 3 (.slice (some (⟨w.heap.size, 0, none⟩ : Addr)) 1 1) (vI ([from1] : List Int)) :: (own 4 (.slice A2 (Int.toNat (g3.length : Int)) c2) (vB ((List.replicate (Int.toNat (g3.length : Int)) false).set (Int.toNat from1) true)) :: blk g4 24 #[.int .i64 g1, .int .i64 g2, .slice A1 g3.length c1] :: fs)) := hS.lit 3 #[.int .i64 from1] 1 rfl (by omega)
  generalize (some (⟨w.heap.size, 0, none⟩ : Addr)) = g5 at hF hS
  generalize w.alloc (.cells #[.int .i64 from1] 3) = w at hS ⊢
  refine at_run 1 [] [] [2, 3, 6, 7, 8] [pl 2 (.func (.func 44) #[] #[]), pl 3 (.pointer (some ⟨g4, 0, none⟩)), pl 6 (.slice g5 1 1), pl 7 (.slice none 0 0), pl 8 (.slice A2 (Int.toNat (g3.length : Int)) c2)] hF hS (by kernel_rfl) (by kernel_rfl) ?_ (fun a w hF hS => ?_)
  · exact obs_nil
  refine at_end [2, 3, 6, 7, 8] [pl 2 (.func (.func 44) #[] #[]), pl 3 (.pointer (some ⟨g4, 0, none⟩)), pl 6 (.slice g5 1 1), pl 7 (.slice none 0 0), pl 8 (.slice A2 (Int.toNat (g3.length : Int)) c2)] hF rfl (by kernel_rfl) (fun hF => ?_)
  refine then_n ?_
  refine seq_cut (fun a w => ∃ (in2 : List Int) (border2 : List Int) (A5 : Option Addr) (c5 : Nat) (A6 : Option Addr) (c6 : Nat), Fr 67 [pl 6 (.slice A5 in2.length c5), pl 7 (.slice A6 border2.length c6)] a ∧ Sep w0 B w (own 3 (.slice A5 in2.length c5) (vI in2) :: own 3 (.slice A6 border2.length c6) (vI border2) :: fs) ∧ (stones_spread_J1 in2 border2).bind some = some r) ?_ ?_
  · rintro a w ⟨in2, border2, A5, c5, A6, c6, hF, hS, hm⟩
    unfold stones_spread_J1 at hm
    refine seqR ?_
    obtain ⟨r3, hr3, hm⟩ := call_b hm
    refine at_run 1 [] [] [6, 7, 61] [pl 6 (.slice A5 in2.length c5), pl 7 (.slice A6 border2.length c6), pl 61 (.slice A5 in2.length c5)] hF hS (by kernel_rfl) (by kernel_rfl) ?_ (fun a w hF hS => ?_)
    · exact obs_nil
    refine at_call (f := 53) (args := #[.slice A5 in2.length c5]) (d := 62) hF (by kernel_rfl) (by kernel_rfl) Try.func53 (by kernel_rfl) rfl (slices_Sort_2_w hr3 hS ) (fun v a w hR hF => ?_)
    clear hS
    obtain ⟨rfl, hS⟩ := hR
    have hS : Sep w0 B w (own 3 (.slice A5 in2.length c5) (vI r3) :: own 3 (.slice A6 border2.length c6) (vI border2) :: fs) := hS
    refine at_end [6, 7] [pl 6 (.slice A5 in2.length c5), pl 7 (.slice A6 border2.length c6)] hF rfl (by kernel_rfl) (fun hF => ?_)
    refine then_n ?_
    refine seqR ?_
    obtain ⟨r4, hr4, hm⟩ := call_b hm
    refine at_run 1 [] [] [6, 7, 63] [pl 6 (.slice A5 in2.length c5), pl 7 (.slice A6 border2.length c6), pl 63 (.slice A6 border2.length c6)] hF hS (by kernel_rfl) (by kernel_rfl) ?_ (fun a w hF hS => ?_)
    · exact obs_nil
    have hS : Sep w0 B w (own 3 (.slice A6 border2.length c6) (vI border2) :: own 3 (.slice A5 in2.length c5) (vI r3) :: fs) := hS.pickN 2 [1, 0] (by decide)
    refine at_call (f := 53) (args := #[.slice A6 border2.length c6]) (d := 64) hF (by kernel_rfl) (by kernel_rfl) Try.func53 (by kernel_rfl) rfl (slices_Sort_2_w hr4 hS ) (fun v a w hR hF => ?_)
    clear hS
    obtain ⟨rfl, hS⟩ := hR
    have hS : Sep w0 B w (own 3 (.slice A6 border2.length c6) (vI r4) :: own 3 (.slice A5 in2.length c5) (vI r3) :: fs) := hS
    refine at_end [6, 7] [pl 6 (.slice A5 in2.length c5), pl 7 (.slice A6 border2.length c6)] hF rfl (by kernel_rfl) (fun hF => ?_)
    refine then_n ?_
    refine reg [] [] [6, 7] [pl 6 (.slice A5 in2.length c5), pl 7 (.slice A6 border2.length c6)] hF hS Fol (by kernel_rfl) (by kernel_rfl) (by kernel_rfl) ?_ (fun a w hF hS => ?_)
    · exact obs_nil
    refine wpIn_ret ?_
    have hl3 := (hS.at_ 1 rfl).len1
    have hS := (hS.at_ 1 rfl).reN hl3
    have hS : Sep w0 B w (own 3 (.slice A6 border2.length c6) (vI r4) :: own 3 (.slice A5 r3.length c5) (vI r3) :: fs) := hS
    have hF := hF.cast (t := 6) (v := .slice A5 in2.length c5) (v' := .slice A5 r3.length c5) rfl rfl (congrArg (fun k => Value.slice A5 k c5) hl3)
    have hl4 := (hS.at_ 0 rfl).len1
    have hS := (hS.at_ 0 rfl).reN hl4
    have hS : Sep w0 B w (own 3 (.slice A6 r4.length c6) (vI r4) :: own 3 (.slice A5 r3.length c5) (vI r3) :: fs) := hS
    have hF := hF.cast (t := 7) (v := .slice A6 border2.length c6) (v' := .slice A6 r4.length c6) rfl rfl (congrArg (fun k => Value.slice A6 k c6) hl4)
    have hS := hS.pickN 2 [1, 0] (by decide)
    have hm : some (r3, r4) = some r := hm
    obtain rfl := Option.some.inj hm
    exact retV (rs := [.tmp 6, .tmp 7]) (vs := [.slice A5 r3.length c5, .slice A6 r4.length c6]) hF rfl (rv_t (by kernel_rfl) <| rv_t (by kernel_rfl) <| rv_nil) rfl ⟨_, rfl, A5, c5, A6, c6, rfl, hS⟩
  · refine reg [] [] [2, 3, 6, 7, 8, 9] [pl 2 (.func (.func 44) #[] #[]), pl 3 (.pointer (some ⟨g4, 0, none⟩)), pl 6 (.slice g5 1 1), pl 7 (.slice none 0 0), pl 8 (.slice A2 (Int.toNat (g3.length : Int)) c2), pl 9 (.int .i64 0)] hF hS Fol (by kernel_rfl) (by kernel_rfl) (by kernel_rfl) ?_ (fun a w hF hS => ?_)
    · exact obs_nil
    refine wpIn_block ?_
    have hl1 := (hS.at_ 0 rfl).len1
    have hS := (hS.at_ 0 rfl).reN hl1
    have hS : Sep w0 B w (own 3 (.slice g5 (([from1] : List Int).length) 1) (vI ([from1] : List Int)) :: own 4 (.slice A2 (Int.toNat (g3.length : Int)) c2) (vB ((List.replicate (Int.toNat (g3.length : Int)) false).set (Int.toNat from1) true)) :: blk g4 24 #[.int .i64 g1, .int .i64 g2, .slice A1 g3.length c1] :: fs) := hS
    have hF := hF.cast (t := 6) (v := .slice g5 1 1) (v' := .slice g5 (([from1] : List Int).length) 1) rfl rfl (congrArg (fun k => Value.slice g5 k 1) hl1)
    have hS : Sep w0 B w (own 3 (.slice none 0 0) (vI ([] : List Int)) :: own 3 (.slice g5 (([from1] : List Int).length) 1) (vI ([from1] : List Int)) :: own 4 (.slice A2 (Int.toNat (g3.length : Int)) c2) (vB ((List.replicate (Int.toNat (g3.length : Int)) false).set (Int.toNat from1) true)) :: blk g4 24 #[.int .i64 g1, .int .i64 g2, .slice A1 g3.length c1] :: fs) := hS.nil 3
    have hl2 := (hS.at_ 0 rfl).len1
    have hS := (hS.at_ 0 rfl).reN hl2
    have hS : Sep w0 B w (own 3 (.slice none (([] : List Int).length) 0) (vI ([] : List Int)) :: own 3 (.slice g5 (([from1] : List Int).length) 1) (vI ([from1] : List Int)) :: own 4 (.slice A2 (Int.toNat (g3.length : Int)) c2) (vB ((List.replicate (Int.toNat (g3.length : Int)) false).set (Int.toNat from1) true)) :: blk g4 24 #[.int .i64 g1, .int .i64 g2, .slice A1 g3.length c1] :: fs) := hS
    have hF := hF.cast (t := 7) (v := .slice none 0 0) (v' := .slice none (([] : List Int).length) 0) rfl rfl (congrArg (fun k => Value.slice none k 0) hl2)
    have hS := hS.pickN 4 [3, 1, 0, 2] (by decide)
    refine wp_loop_model (S := (List Int × List Int × List Bool × Int)) (R := (List Int × List Int)) (stones_spread_L1 g1 g2 g3) (fun x => (stones_spread_K1 x).bind some) r (fun (x : (List Int × List Int × List Bool × Int)) a w => ∃ (A3 : Option Addr) (c3 : Nat) (A4 : Option Addr) (c4 : Nat), Fr 67 [pl 2 (.func (.func 44) #[] #[]), pl 3 (.pointer (some ⟨g4, 0, none⟩)), pl 6 (.slice A3 x.1.length c3), pl 7 (.slice A4 x.2.1.length c4), pl 8 (.slice A2 (Int.toNat (g3.length : Int)) c2), pl 9 (.int .i64 x.2.2.2)] a ∧ Sep w0 B w (blk g4 24 #[.int .i64 g1, .int .i64 g2, .slice A1 g3.length c1] :: own 3 (.slice A3 x.1.length c3) (vI x.1) :: own 3 (.slice A4 x.2.1.length c4) (vI x.2.1) :: own 4 (.slice A2 (Int.toNat (g3.length : Int)) c2) (vB x.2.2.1) :: fs)) (assoc_b hm) ⟨g5, 1, none, 0, hF.weak [2, 3, 6, 7, 8, 9] (by kernel_rfl), hS⟩ ?_
    clear hF hS hm
    rintro nn1 ⟨in1, border1, seen1, i1⟩ a w ⟨A3, c3, A4, c4, hF, hS⟩ hm
    generalize hφ1 : stK (stones_spread_L1 g1 g2 g3) nn1 (fun x => (stones_spread_K1 x).bind some) = φ1 at hm
    unfold stones_spread_L1 at hm
    dsimp only at hF hS hm
    refine seq_cut (fun a w => Fr 67 [pl 2 (.func (.func 44) #[] #[]), pl 3 (.pointer (some ⟨g4, 0, none⟩)), pl 6 (.slice A3 in1.length c3), pl 7 (.slice A4 border1.length c4), pl 8 (.slice A2 (Int.toNat (g3.length : Int)) c2), pl 9 (.int .i64 i1)] a ∧ Sep w0 B w (blk g4 24 #[.int .i64 g1, .int .i64 g2, .slice A1 g3.length c1] :: own 3 (.slice A3 in1.length c3) (vI in1) :: own 3 (.slice A4 border1.length c4) (vI border1) :: own 4 (.slice A2 (Int.toNat (g3.length : Int)) c2) (vB seen1) :: fs) ∧ ((stones_spread_J2 g1 g2 g3 in1 border1 seen1 i1)).bind φ1 = some r) ?_ ?_
    · rintro a w ⟨hF, hS, hm⟩
      unfold stones_spread_J2 at hm
      refine seq_cut (fun a w => ∃ (in4 : List Int) (border4 : List Int) (seen3 : List Bool) (A10 : Option Addr) (c10 : Nat) (A11 : Option Addr) (c11 : Nat), Fr 67 [pl 2 (.func (.func 44) #[] #[]), pl 3 (.pointer (some ⟨g4, 0, none⟩)), pl 6 (.slice A10 in4.length c10), pl 7 (.slice A11 border4.length c11), pl 8 (.slice A2 (Int.toNat (g3.length : Int)) c2), pl 9 (.int .i64 i1)] a ∧ Sep w0 B w (blk g4 24 #[.int .i64 g1, .int .i64 g2, .slice A1 g3.length c1] :: own 3 (.slice A10 in4.length c10) (vI in4) :: own 3 (.slice A11 border4.length c11) (vI border4) :: own 4 (.slice A2 (Int.toNat (g3.length : Int)) c2) (vB seen3) :: fs) ∧ ((stones_spread_J3 i1) in4 border4 seen3).bind φ1 = some r) ?_ ?_
      · rintro a w ⟨in4, border4, seen3, A10, c10, A11, c11, hF, hS, hm⟩
        unfold stones_spread_J3 at hm
        refine reg1 [] [] [2, 3, 6, 7, 8, 9] [pl 2 (.func (.func 44) #[] #[]), pl 3 (.pointer (some ⟨g4, 0, none⟩)), pl 6 (.slice A10 in4.length c10), pl 7 (.slice A11 border4.length c11), pl 8 (.slice A2 (Int.toNat (g3.length : Int)) c2), pl 9 (.int .i64 (w64 (i1 + 1)))] hF hS Fol (by kernel_rfl) (by kernel_rfl) (by kernel_rfl) ?_ (fun a w hF hS => ?_)
        · exact obs_nil
        refine then_n ?_
        rw [← hφ1] at hm
        exact ⟨(in4, border4, seen3, (w64 (i1 + 1))), ⟨A10, c10, A11, c11, hF.weak [2, 3, 6, 7, 8, 9] (by kernel_rfl), hS⟩, hm⟩
      · refine wpIn_block ?_
        refine wpIn_seq ?_
        obtain ⟨hp3, hm⟩ := asrt_b hm
        obtain ⟨r1, hr1, hm⟩ := call_b hm
        refine regMix4 [0, 1, 2, 3, 4, 7] [5, 6] [⟨false, [], vS (Instr.loadAt 24 (.pointer (some ⟨g4, 0, none⟩))), .agg #[.int .i64 g1, .int .i64 g2, .slice A1 g3.length c1]⟩, ⟨true, [], vS (Instr.indexAt 22 (.slice A3 in1.length c3) (.int .i64 i1)), .pointer (some (sAddr A3 i1))⟩, ⟨false, [], vS (Instr.loadAt 3 (.pointer (some (sAddr A3 i1)))), .int .i64 (geti in1 i1)⟩] [some (.agg #[.int .i64 g1, .int .i64 g2, .slice A1 g3.length c1]), none, none, some (.pointer (some (sAddr A3 i1))), some (.int .i64 (geti in1 i1)), none] [2, 3, 6, 7, 8, 9, 27, 31, 34] [pl 2 (.func (.func 44) #[] #[]), pl 3 (.pointer (some ⟨g4, 0, none⟩)), pl 6 (.slice A3 in1.length c3), pl 7 (.slice A4 border1.length c4), pl 8 (.slice A2 (Int.toNat (g3.length : Int)) c2), pl 9 (.int .i64 i1), pl 27 (.agg #[.int .i64 g1, .int .i64 g2, .slice A1 g3.length c1]), pl 31 (.int .i64 (geti in1 i1)), pl 34 (.int .i64 0)] hF hS Fol (by kernel_rfl) (by kernel_rfl) (by kernel_rfl) (by kernel_rfl) (by kernel_rfl) ?_ (fun a w hF hS => ?_)
        · exact obs_cons (ob_loadA (cs := #[.int .i64 g1, .int .i64 g2, .slice A1 g3.length c1]) (by kernel_rfl) (by kernel_rfl) (fun _ _ hS => (hS.at_ 0 rfl).cellsAt 0 (by rfl))) <| obs_cons (ob_ix1 (f := (Value.int .i64)) (m := in1) Und22 hi3 hs3 (hS.at_ 1 rfl).rd rfl (fun _ => hp3)) <| obs_cons (ob_get1 (n := in1.length) (m := in1) (Value.int .i64) (0 : Int) Agg3 (fun _ hS => ⟨_, (hS.at_ 1 rfl).rd⟩) (fun _ hS => rfl) (fun _ => hp3)) <| obs_nil
        refine at_call (f := 106) (args := #[.agg #[.int .i64 g1, .int .i64 g2, .slice A1 g3.length c1], .int .i64 (geti in1 i1)]) (d := 32) hF (by kernel_rfl) (by kernel_rfl) Try.func106 (by kernel_rfl) rfl (stones_near_w hr1 hS (fun _ hS => (hr_g3 _ (hS.dropN 4))) _hc_g3 rfl) (fun v a w hR hF => ?_)
        clear hS
        obtain ⟨A7, c7, rfl, hS⟩ := hR
        have hS : Sep w0 B w (own 3 (.slice A7 r1.length c7) (vI r1) :: blk g4 24 #[.int .i64 g1, .int .i64 g2, .slice A1 g3.length c1] :: own 3 (.slice A3 in1.length c3) (vI in1) :: own 3 (.slice A4 border1.length c4) (vI border1) :: own 4 (.slice A2 (Int.toNat (g3.length : Int)) c2) (vB seen1) :: fs) := hS
        refine at_run 1 [] [] [2, 3, 6, 7, 8, 9, 32, 33, 34] [pl 2 (.func (.func 44) #[] #[]), pl 3 (.pointer (some ⟨g4, 0, none⟩)), pl 6 (.slice A3 in1.length c3), pl 7 (.slice A4 border1.length c4), pl 8 (.slice A2 (Int.toNat (g3.length : Int)) c2), pl 9 (.int .i64 i1), pl 32 (.slice A7 r1.length c7), pl 33 (.int .i64 (r1.length : Int)), pl 34 (.int .i64 0)] hF hS (by kernel_rfl) (by kernel_rfl) ?_ (fun a w hF hS => ?_)
        · exact obs_nil
        refine at_end [2, 3, 6, 7, 8, 9, 32, 33, 34] [pl 2 (.func (.func 44) #[] #[]), pl 3 (.pointer (some ⟨g4, 0, none⟩)), pl 6 (.slice A3 in1.length c3), pl 7 (.slice A4 border1.length c4), pl 8 (.slice A2 (Int.toNat (g3.length : Int)) c2), pl 9 (.int .i64 i1), pl 32 (.slice A7 r1.length c7), pl 33 (.int .i64 (r1.length : Int)), pl 34 (.int .i64 0)] hF rfl (by kernel_rfl) (fun hF => ?_)
        refine np_n ?_
        refine then_n ?_
        refine wpIn_block ?_
        have hS := hS.pickN 5 [1, 2, 3, 4, 0] (by decide)
        refine wp_loop_model (S := (List Int × List Int × List Bool × Int)) (R := (List Int × List Int × List Bool)) (stones_spread_L2 g3 r1) (fun x => ((stones_spread_K2 i1) x).bind φ1) r (fun (x : (List Int × List Int × List Bool × Int)) a w => ∃ (A8 : Option Addr) (c8 : Nat) (A9 : Option Addr) (c9 : Nat), Fr 67 [pl 2 (.func (.func 44) #[] #[]), pl 3 (.pointer (some ⟨g4, 0, none⟩)), pl 6 (.slice A8 x.1.length c8), pl 7 (.slice A9 x.2.1.length c9), pl 8 (.slice A2 (Int.toNat (g3.length : Int)) c2), pl 9 (.int .i64 i1), pl 32 (.slice A7 r1.length c7), pl 33 (.int .i64 (r1.length : Int)), pl 34 (.int .i64 x.2.2.2)] a ∧ Sep w0 B w (blk g4 24 #[.int .i64 g1, .int .i64 g2, .slice A1 g3.length c1] :: own 3 (.slice A8 x.1.length c8) (vI x.1) :: own 3 (.slice A9 x.2.1.length c9) (vI x.2.1) :: own 4 (.slice A2 (Int.toNat (g3.length : Int)) c2) (vB x.2.2.1) :: own 3 (.slice A7 r1.length c7) (vI r1) :: fs)) (assoc_b hm) ⟨A3, c3, A4, c4, hF.weak [2, 3, 6, 7, 8, 9, 32, 33, 34] (by kernel_rfl), hS⟩ ?_
        clear hF hS hm
        rintro nn2 ⟨in3, border3, seen2, z1⟩ a w ⟨A8, c8, A9, c9, hF, hS⟩ hm
        generalize hφ2 : stK (stones_spread_L2 g3 r1) nn2 (fun x => ((stones_spread_K2 i1) x).bind φ1) = φ2 at hm
        unfold stones_spread_L2 at hm
        dsimp only at hF hS hm
        refine reg [] [] [2, 3, 6, 7, 8, 9, 32, 33, 34, 35] [pl 2 (.func (.func 44) #[] #[]), pl 3 (.pointer (some ⟨g4, 0, none⟩)), pl 6 (.slice A8 in3.length c8), pl 7 (.slice A9 border3.length c9), pl 8 (.slice A2 (Int.toNat (g3.length : Int)) c2), pl 9 (.int .i64 i1), pl 32 (.slice A7 r1.length c7), pl 33 (.int .i64 (r1.length : Int)), pl 34 (.int .i64 z1), pl 35 (.bool (decide (z1 < (r1.length : Int))))] hF hS Fol (by kernel_rfl) (by kernel_rfl) (by kernel_rfl) ?_ (fun a w hF hS => ?_)
        · exact obs_nil
        refine seq_cut (fun a w => Fr 67 [pl 2 (.func (.func 44) #[] #[]), pl 3 (.pointer (some ⟨g4, 0, none⟩)), pl 6 (.slice A8 in3.length c8), pl 7 (.slice A9 border3.length c9), pl 8 (.slice A2 (Int.toNat (g3.length : Int)) c2), pl 9 (.int .i64 i1), pl 32 (.slice A7 r1.length c7), pl 33 (.int .i64 (r1.length : Int)), pl 34 (.int .i64 z1)] a ∧ Sep w0 B w (blk g4 24 #[.int .i64 g1, .int .i64 g2, .slice A1 g3.length c1] :: own 3 (.slice A8 in3.length c8) (vI in3) :: own 3 (.slice A9 border3.length c9) (vI border3) :: own 4 (.slice A2 (Int.toNat (g3.length : Int)) c2) (vB seen2) :: own 3 (.slice A7 r1.length c7) (vI r1) :: fs) ∧ ((stones_spread_J4 g3 r1 in3 border3 seen2 z1)).bind φ2 = some r) ?_ ?_
        · rintro a w ⟨hF, hS, hm⟩
          unfold stones_spread_J4 at hm
          refine seq_cut (fun a w => ∃ (in5 : List Int) (border5 : List Int) (seen4 : List Bool) (A12 : Option Addr) (c12 : Nat) (A13 : Option Addr) (c13 : Nat), Fr 67 [pl 2 (.func (.func 44) #[] #[]), pl 3 (.pointer (some ⟨g4, 0, none⟩)), pl 6 (.slice A12 in5.length c12), pl 7 (.slice A13 border5.length c13), pl 8 (.slice A2 (Int.toNat (g3.length : Int)) c2), pl 9 (.int .i64 i1), pl 32 (.slice A7 r1.length c7), pl 33 (.int .i64 (r1.length : Int)), pl 34 (.int .i64 z1)] a ∧ Sep w0 B w (blk g4 24 #[.int .i64 g1, .int .i64 g2, .slice A1 g3.length c1] :: own 3 (.slice A12 in5.length c12) (vI in5) :: own 3 (.slice A13 border5.length c13) (vI border5) :: own 4 (.slice A2 (Int.toNat (g3.length : Int)) c2) (vB seen4) :: own 3 (.slice A7 r1.length c7) (vI r1) :: fs) ∧ ((stones_spread_J5 z1) in5 border5 seen4).bind φ2 = some r) ?_ ?_
          · rintro a w ⟨in5, border5, seen4, A12, c12, A13, c13, hF, hS, hm⟩
            unfold stones_spread_J5 at hm
            refine reg1 [] [] [2, 3, 6, 7, 8, 9, 32, 33, 34] [pl 2 (.func (.func 44) #[] #[]), pl 3 (.pointer (some ⟨g4, 0, none⟩)), pl 6 (.slice A12 in5.length c12), pl 7 (.slice A13 border5.length c13), pl 8 (.slice A2 (Int.toNat (g3.length : Int)) c2), pl 9 (.int .i64 i1), pl 32 (.slice A7 r1.length c7), pl 33 (.int .i64 (r1.length : Int)), pl 34 (.int .i64 (w64 (z1 + 1)))] hF hS Fol (by kernel_rfl) (by kernel_rfl) (by kernel_rfl) ?_ (fun a w hF hS => ?_)
            · exact obs_nil
            refine then_n ?_
            rw [← hφ2] at hm
            exact ⟨(in5, border5, seen4, (w64 (z1 + 1))), ⟨A12, c12, A13, c13, hF.weak [2, 3, 6, 7, 8, 9, 32, 33, 34] (by kernel_rfl), hS⟩, hm⟩
          · refine wpIn_block ?_
            obtain ⟨hp4, hm⟩ := asrt_b hm
            refine reg [⟨true, [], vS (Instr.indexAt 22 (.slice A7 r1.length c7) (.int .i64 z1)), .pointer (some (sAddr A7 z1))⟩, ⟨false, [], vS (Instr.loadAt 3 (.pointer (some (sAddr A7 z1)))), .int .i64 (geti r1 z1)⟩] [some (.pointer (some (sAddr A7 z1))), some (.int .i64 (geti r1 z1)), none] [2, 3, 6, 7, 8, 9, 11, 32, 33, 34] [pl 2 (.func (.func 44) #[] #[]), pl 3 (.pointer (some ⟨g4, 0, none⟩)), pl 6 (.slice A8 in3.length c8), pl 7 (.slice A9 border3.length c9), pl 8 (.slice A2 (Int.toNat (g3.length : Int)) c2), pl 9 (.int .i64 i1), pl 11 (.int .i64 (geti r1 z1)), pl 32 (.slice A7 r1.length c7), pl 33 (.int .i64 (r1.length : Int)), pl 34 (.int .i64 z1)] hF hS Fol (by kernel_rfl) (by kernel_rfl) (by kernel_rfl) ?_ (fun a w hF hS => ?_)
            · exact obs_cons (ob_ix1 (f := (Value.int .i64)) (m := r1) Und22 hi3 hs3 (hS.at_ 4 rfl).rd rfl (fun _ => hp4)) <| obs_cons (ob_get1 (n := r1.length) (m := r1) (Value.int .i64) (0 : Int) Agg3 (fun _ hS => ⟨_, (hS.at_ 4 rfl).rd⟩) (fun _ hS => rfl) (fun _ => hp4)) <| obs_nil
            refine seq_cut (fun a w => Fr 67 [pl 2 (.func (.func 44) #[] #[]), pl 3 (.pointer (some ⟨g4, 0, none⟩)), pl 6 (.slice A8 in3.length c8), pl 7 (.slice A9 border3.length c9), pl 8 (.slice A2 (Int.toNat (g3.length : Int)) c2), pl 9 (.int .i64 i1), pl 11 (.int .i64 (geti r1 z1)), pl 32 (.slice A7 r1.length c7), pl 33 (.int .i64 (r1.length : Int)), pl 34 (.int .i64 z1)] a ∧ Sep w0 B w (blk g4 24 #[.int .i64 g1, .int .i64 g2, .slice A1 g3.length c1] :: own 3 (.slice A8 in3.length c8) (vI in3) :: own 3 (.slice A9 border3.length c9) (vI border3) :: own 4 (.slice A2 (Int.toNat (g3.length : Int)) c2) (vB seen2) :: own 3 (.slice A7 r1.length c7) (vI r1) :: fs) ∧ ((stones_spread_J6 g3 r1 in3 border3 seen2 z1)).bind φ2 = some r) ?_ ?_
            · rintro a w ⟨hF, hS, hm⟩
              unfold stones_spread_J6 at hm
              refine seqR ?_
              obtain ⟨hp6, hm⟩ := asrt_b hm
              refine at_run 3 [⟨true, [], vS (Instr.indexAt 86 (.slice A2 (Int.toNat (g3.length : Int)) c2) (.int .i64 (geti r1 z1))), .pointer (some (sAddr A2 (geti r1 z1)))⟩] [none, none, some (.pointer (some (sAddr A2 (geti r1 z1))))] [2, 3, 6, 7, 8, 9, 11, 32, 33, 34, 44] [pl 2 (.func (.func 44) #[] #[]), pl 3 (.pointer (some ⟨g4, 0, none⟩)), pl 6 (.slice A8 in3.length c8), pl 7 (.slice A9 border3.length c9), pl 8 (.slice A2 (Int.toNat (g3.length : Int)) c2), pl 9 (.int .i64 i1), pl 11 (.int .i64 (geti r1 z1)), pl 32 (.slice A7 r1.length c7), pl 33 (.int .i64 (r1.length : Int)), pl 34 (.int .i64 z1), pl 44 (.pointer (some (sAddr A2 (geti r1 z1))))] hF hS (by kernel_rfl) (by kernel_rfl) ?_ (fun a w hF hS => ?_)
              · exact obs_cons (ob_ix1 (f := Value.bool) (m := seen2) Und86 hi4 hs4 (hS.at_ 3 rfl).rd ((hS.at_ 3 rfl).len1) (fun _ => hp6)) <| obs_nil
              obtain ⟨w, hrun, hS⟩ := run_set1 (P := Try.prog) (t := 4) (x := true) Value.bool (hS.at_ 3 rfl) hi4 hs4 rfl rfl hp6
              refine at_skip hF (by kernel_rfl) hrun ?_
              have hS : Sep w0 B w (blk g4 24 #[.int .i64 g1, .int .i64 g2, .slice A1 g3.length c1] :: own 3 (.slice A8 in3.length c8) (vI in3) :: own 3 (.slice A9 border3.length c9) (vI border3) :: own 4 (.slice A2 (Int.toNat (g3.length : Int)) c2) (vB (seen2.set (Int.toNat (geti r1 z1)) true)) :: own 3 (.slice A7 r1.length c7) (vI r1) :: fs) := hS
              refine at_end [2, 3, 6, 7, 8, 9, 11, 32, 33, 34] [pl 2 (.func (.func 44) #[] #[]), pl 3 (.pointer (some ⟨g4, 0, none⟩)), pl 6 (.slice A8 in3.length c8), pl 7 (.slice A9 border3.length c9), pl 8 (.slice A2 (Int.toNat (g3.length : Int)) c2), pl 9 (.int .i64 i1), pl 11 (.int .i64 (geti r1 z1)), pl 32 (.slice A7 r1.length c7), pl 33 (.int .i64 (r1.length : Int)), pl 34 (.int .i64 z1)] hF rfl (by kernel_rfl) (fun hF => ?_)
              refine then_n ?_
              obtain ⟨hp7, hm⟩ := asrt_b hm
              obtain ⟨r2, hr2, hm⟩ := call_b hm
              refine reg [⟨false, [], vS (Instr.loadAt 22 (.pointer (some ⟨g4, 2, none⟩))), .slice A1 g3.length c1⟩, ⟨true, [], vS (Instr.indexAt 22 (.slice A1 g3.length c1) (.int .i64 (geti r1 z1))), .pointer (some (sAddr A1 (geti r1 z1)))⟩, ⟨false, [], vS (Instr.loadAt 3 (.pointer (some (sAddr A1 (geti r1 z1))))), .int .i64 (geti g3 (geti r1 z1))⟩, ⟨false, [], callFunc 44 #[.int .i64 (geti g3 (geti r1 z1))], .bool r2⟩] [none, none, some (.slice A1 g3.length c1), none, some (.pointer (some (sAddr A1 (geti r1 z1)))), some (.int .i64 (geti g3 (geti r1 z1))), some (.bool r2)] [2, 3, 6, 7, 8, 9, 11, 32, 33, 34, 51] [pl 2 (.func (.func 44) #[] #[]), pl 3 (.pointer (some ⟨g4, 0, none⟩)), pl 6 (.slice A8 in3.length c8), pl 7 (.slice A9 border3.length c9), pl 8 (.slice A2 (Int.toNat (g3.length : Int)) c2), pl 9 (.int .i64 i1), pl 11 (.int .i64 (geti r1 z1)), pl 32 (.slice A7 r1.length c7), pl 33 (.int .i64 (r1.length : Int)), pl 34 (.int .i64 z1), pl 51 (.bool r2)] hF hS Fol (by kernel_rfl) (by kernel_rfl) (by kernel_rfl) ?_ (fun a w hF hS => ?_)
              · exact obs_cons (ob_load Agg22 (fun _ _ hS => (hS.at_ 0 rfl).cell rfl)) <| obs_cons (ob_ix1 (f := (Value.int .i64)) (m := g3) Und22 hi3 hs3 (hr_g3 _ (hS.dropN 5)) rfl (fun _ => hp7)) <| obs_cons (ob_get1 (n := g3.length) (m := g3) (Value.int .i64) (0 : Int) Agg3 (fun _ hS => ⟨_, (hr_g3 _ (hS.dropN 5))⟩) (fun _ hS => rfl) (fun _ => hp7)) <| obs_cons (ob_call Try.func44 (by kernel_rfl) rfl (fun _ _ hS => stones_Areas_1_w hr2 hS )) <| obs_nil
              refine cond_ev (t := 51) (b := r2) hF (by kernel_rfl) (fun hb => ?_) (fun hb => ?_)
              · replace hm := if_t hm hb
                refine oneR ?_
                obtain ⟨hp8, hm⟩ := asrt_b hm
                refine at_run 2 [] [] [2, 3, 7, 8, 9, 32, 33, 34, 52, 53] [pl 2 (.func (.func 44) #[] #[]), pl 3 (.pointer (some ⟨g4, 0, none⟩)), pl 7 (.slice A9 border3.length c9), pl 8 (.slice A2 (Int.toNat (g3.length : Int)) c2), pl 9 (.int .i64 i1), pl 32 (.slice A7 r1.length c7), pl 33 (.int .i64 (r1.length : Int)), pl 34 (.int .i64 z1), pl 52 (.slice A8 in3.length c8), pl 53 (.int .i64 (geti r1 z1))] hF hS (by kernel_rfl) (by kernel_rfl) ?_ (fun a w hF hS => ?_)
                · exact obs_nil
                refine at_do (d := 54) (s := vS (Instr.buildSlice 22 1 #[(0, .int .i64 (geti r1 z1))])) (v := .slice (some ⟨w.heap.size, 0, none⟩) 1 1) (w' := w.alloc (.cells #[.int .i64 (geti r1 z1)] 3)) hF (by kernel_rfl) (by kernel_rfl) (by kernel_rfl) (fun a hF => ?_)
                have hS : Sep w0 B (w.alloc (.cells #[.int .i64 (geti r1 z1)] 3)) (own 3 (.slice (some (⟨w.heap.size, 0, none⟩ : Addr)) 1 1) (vI ([geti r1 z1] : List Int)) :: (blk g4 24 #[.int .i64 g1, .int .i64 g2, .slice A1 g3.length c1] :: own 3 (.slice A8 in3.length c8) (vI in3) :: own 3 (.slice A9 border3.length c9) (vI border3) :: own 4 (.slice A2 (Int.toNat (g3.length : Int)) c2) (vB (seen2.set (Int.toNat (geti r1 z1)) true)) :: own 3 (.slice A7 r1.length c7) (vI r1) :: fs)) := hS.lit 3 #[.int .i64 (geti r1 z1)] 1 rfl (by omega)
                generalize (some (⟨w.heap.size, 0, none⟩ : Addr)) = g6 at hF hS
                generalize w.alloc (.cells #[.int .i64 (geti r1 z1)] 3) = w at hS ⊢
                obtain ⟨A14, c14, w, hrun, hS⟩ := run_app1 (P := Try.prog) (t := 22) (m := in3) (ys := ([geti r1 z1] : List Int)) (A2 := g6) (m2 := 1) (c2 := 1) (Value.int .i64) (0 : Int) (hS.at_ 2 rfl) (hS.at_ 0 rfl).rd ((hS.at_ 0 rfl).len1) 22 Und22 hi3 hz3 hs3 (by omega) rfl (fun _ => rfl) hp8
                have hS : Sep w0 B w (own 3 (.slice g6 1 1) (vI ([geti r1 z1] : List Int)) :: blk g4 24 #[.int .i64 g1, .int .i64 g2, .slice A1 g3.length c1] :: own 3 (.slice A14 ((in3 ++ ([geti r1 z1] : List Int)).length) c14) (vI (in3 ++ ([geti r1 z1] : List Int))) :: own 3 (.slice A9 border3.length c9) (vI border3) :: own 4 (.slice A2 (Int.toNat (g3.length : Int)) c2) (vB (seen2.set (Int.toNat (geti r1 z1)) true)) :: own 3 (.slice A7 r1.length c7) (vI r1) :: fs) := hS
                refine at_do (d := 55) hF (by kernel_rfl) (by kernel_rfl) hrun (fun a hF => ?_)
                refine at_run 1 [] [] [2, 3, 6, 7, 8, 9, 32, 33, 34] [pl 2 (.func (.func 44) #[] #[]), pl 3 (.pointer (some ⟨g4, 0, none⟩)), pl 6 (.slice A14 ((in3 ++ ([geti r1 z1] : List Int)).length) c14), pl 7 (.slice A9 border3.length c9), pl 8 (.slice A2 (Int.toNat (g3.length : Int)) c2), pl 9 (.int .i64 i1), pl 32 (.slice A7 r1.length c7), pl 33 (.int .i64 (r1.length : Int)), pl 34 (.int .i64 z1)] hF hS (by kernel_rfl) (by kernel_rfl) ?_ (fun a w hF hS => ?_)
                · exact obs_nil
                refine at_end [2, 3, 6, 7, 8, 9, 32, 33, 34] [pl 2 (.func (.func 44) #[] #[]), pl 3 (.pointer (some ⟨g4, 0, none⟩)), pl 6 (.slice A14 ((in3 ++ ([geti r1 z1] : List Int)).length) c14), pl 7 (.slice A9 border3.length c9), pl 8 (.slice A2 (Int.toNat (g3.length : Int)) c2), pl 9 (.int .i64 i1), pl 32 (.slice A7 r1.length c7), pl 33 (.int .i64 (r1.length : Int)), pl 34 (.int .i64 z1)] hF rfl (by kernel_rfl) (fun hF => ?_)
                refine block_n ?_
                refine then_n ?_
                have hS := hS.pickN 6 [1, 2, 3, 4, 5] (by decide)
                exact ⟨(in3 ++ ([geti r1 z1] : List Int)), border3, (seen2.set (Int.toNat (geti r1 z1)) true), A14, c14, A9, c9, hF.weak [2, 3, 6, 7, 8, 9, 32, 33, 34] (by kernel_rfl), hS, hm⟩
              · replace hm := if_f hm hb
                refine oneR ?_
                obtain ⟨hp9, hm⟩ := asrt_b hm
                refine at_run 2 [] [] [2, 3, 6, 8, 9, 32, 33, 34, 56, 57] [pl 2 (.func (.func 44) #[] #[]), pl 3 (.pointer (some ⟨g4, 0, none⟩)), pl 6 (.slice A8 in3.length c8), pl 8 (.slice A2 (Int.toNat (g3.length : Int)) c2), pl 9 (.int .i64 i1), pl 32 (.slice A7 r1.length c7), pl 33 (.int .i64 (r1.length : Int)), pl 34 (.int .i64 z1), pl 56 (.slice A9 border3.length c9), pl 57 (.int .i64 (geti r1 z1))] hF hS (by kernel_rfl) (by kernel_rfl) ?_ (fun a w hF hS => ?_)
                · exact obs_nil
                refine at_do (d := 58) (s := vS (Instr.buildSlice 22 1 #[(0, .int .i64 (geti r1 z1))])) (v := .slice (some ⟨w.heap.size, 0, none⟩) 1 1) (w' := w.alloc (.cells #[.int .i64 (geti r1 z1)] 3)) hF (by kernel_rfl) (by kernel_rfl) (by kernel_rfl) (fun a hF => ?_)
                have hS : Sep w0 B (w.alloc (.cells #[.int .i64 (geti r1 z1)] 3)) (own 3 (.slice (some (⟨w.heap.size, 0, none⟩ : Addr)) 1 1) (vI ([geti r1 z1] : List Int)) :: (blk g4 24 #[.int .i64 g1, .int .i64 g2, .slice A1 g3.length c1] :: own 3 (.slice A8 in3.length c8) (vI in3) :: own 3 (.slice A9 border3.length c9) (vI border3) :: own 4 (.slice A2 (Int.toNat (g3.length : Int)) c2) (vB (seen2.set (Int.toNat (geti r1 z1)) true)) :: own 3 (.slice A7 r1.length c7) (vI r1) :: fs)) := hS.lit 3 #[.int .i64 (geti r1 z1)] 1 rfl (by omega)
                generalize (some (⟨w.heap.size, 0, none⟩ : Addr)) = g7 at hF hS
                generalize w.alloc (.cells #[.int .i64 (geti r1 z1)] 3) = w at hS ⊢
                obtain ⟨A15, c15, w, hrun, hS⟩ := run_app1 (P := Try.prog) (t := 22) (m := border3) (ys := ([geti r1 z1] : List Int)) (A2 := g7) (m2 := 1) (c2 := 1) (Value.int .i64) (0 : Int) (hS.at_ 3 rfl) (hS.at_ 0 rfl).rd ((hS.at_ 0 rfl).len1) 22 Und22 hi3 hz3 hs3 (by omega) rfl (fun _ => rfl) hp9
                have hS : Sep w0 B w (own 3 (.slice g7 1 1) (vI ([geti r1 z1] : List Int)) :: blk g4 24 #[.int .i64 g1, .int .i64 g2, .slice A1 g3.length c1] :: own 3 (.slice A8 in3.length c8) (vI in3) :: own 3 (.slice A15 ((border3 ++ ([geti r1 z1] : List Int)).length) c15) (vI (border3 ++ ([geti r1 z1] : List Int))) :: own 4 (.slice A2 (Int.toNat (g3.length : Int)) c2) (vB (seen2.set (Int.toNat (geti r1 z1)) true)) :: own 3 (.slice A7 r1.length c7) (vI r1) :: fs) := hS
                refine at_do (d := 59) hF (by kernel_rfl) (by kernel_rfl) hrun (fun a hF => ?_)
                refine at_run 1 [] [] [2, 3, 6, 7, 8, 9, 32, 33, 34] [pl 2 (.func (.func 44) #[] #[]), pl 3 (.pointer (some ⟨g4, 0, none⟩)), pl 6 (.slice A8 in3.length c8), pl 7 (.slice A15 ((border3 ++ ([geti r1 z1] : List Int)).length) c15), pl 8 (.slice A2 (Int.toNat (g3.length : Int)) c2), pl 9 (.int .i64 i1), pl 32 (.slice A7 r1.length c7), pl 33 (.int .i64 (r1.length : Int)), pl 34 (.int .i64 z1)] hF hS (by kernel_rfl) (by kernel_rfl) ?_ (fun a w hF hS => ?_)
                · exact obs_nil
                refine at_end [2, 3, 6, 7, 8, 9, 32, 33, 34] [pl 2 (.func (.func 44) #[] #[]), pl 3 (.pointer (some ⟨g4, 0, none⟩)), pl 6 (.slice A8 in3.length c8), pl 7 (.slice A15 ((border3 ++ ([geti r1 z1] : List Int)).length) c15), pl 8 (.slice A2 (Int.toNat (g3.length : Int)) c2), pl 9 (.int .i64 i1), pl 32 (.slice A7 r1.length c7), pl 33 (.int .i64 (r1.length : Int)), pl 34 (.int .i64 z1)] hF rfl (by kernel_rfl) (fun hF => ?_)
                refine block_n ?_
                refine then_n ?_
                have hS := hS.pickN 6 [1, 2, 3, 4, 5] (by decide)
                exact ⟨in3, (border3 ++ ([geti r1 z1] : List Int)), (seen2.set (Int.toNat (geti r1 z1)) true), A8, c8, A15, c15, hF.weak [2, 3, 6, 7, 8, 9, 32, 33, 34] (by kernel_rfl), hS, hm⟩
            · obtain ⟨hp5, hm⟩ := asrt_b hm
              refine reg [⟨true, [], vS (Instr.indexAt 86 (.slice A2 (Int.toNat (g3.length : Int)) c2) (.int .i64 (geti r1 z1))), .pointer (some (sAddr A2 (geti r1 z1)))⟩, ⟨false, [], vS (Instr.loadAt 4 (.pointer (some (sAddr A2 (geti r1 z1))))), .bool (getb seen2 (geti r1 z1))⟩] [none, none, some (.pointer (some (sAddr A2 (geti r1 z1)))), some (.bool (getb seen2 (geti r1 z1)))] [2, 3, 6, 7, 8, 9, 11, 32, 33, 34, 41] [pl 2 (.func (.func 44) #[] #[]), pl 3 (.pointer (some ⟨g4, 0, none⟩)), pl 6 (.slice A8 in3.length c8), pl 7 (.slice A9 border3.length c9), pl 8 (.slice A2 (Int.toNat (g3.length : Int)) c2), pl 9 (.int .i64 i1), pl 11 (.int .i64 (geti r1 z1)), pl 32 (.slice A7 r1.length c7), pl 33 (.int .i64 (r1.length : Int)), pl 34 (.int .i64 z1), pl 41 (.bool (getb seen2 (geti r1 z1)))] hF hS Fol (by kernel_rfl) (by kernel_rfl) (by kernel_rfl) ?_ (fun a w hF hS => ?_)
              · exact obs_cons (ob_ix1 (f := Value.bool) (m := seen2) Und86 hi4 hs4 (hS.at_ 3 rfl).rd ((hS.at_ 3 rfl).len1) (fun _ => hp5)) <| obs_cons (ob_get1 (n := (Int.toNat (g3.length : Int))) (m := seen2) Value.bool false Agg4 (fun _ hS => ⟨_, (hS.at_ 3 rfl).rd⟩) (fun _ hS => ((hS.at_ 3 rfl).len1)) (fun _ => hp5)) <| obs_nil
              refine cond_ev (t := 41) (b := getb seen2 (geti r1 z1)) hF (by kernel_rfl) (fun hb => ?_) (fun hb => ?_)
              · replace hm := if_t hm hb
                refine wpIn_exit ?_
                refine then_e (block_e (then_n ?_))
                exact ⟨in3, border3, seen2, A8, c8, A9, c9, hF.weak [2, 3, 6, 7, 8, 9, 32, 33, 34] (by kernel_rfl), hS, hm⟩
              · replace hm := if_f hm hb
                refine wpIn_skip ?_
                refine then_n ?_
                exact ⟨hF.weak [2, 3, 6, 7, 8, 9, 11, 32, 33, 34] (by kernel_rfl), hS, hm⟩
        · refine cond_ev (t := 35) (b := decide (z1 < (r1.length : Int))) hF (by kernel_rfl) (fun hb => ?_) (fun hb => ?_)
          · replace hm := if_t hm hb
            refine wpIn_skip ?_
            refine then_n ?_
            exact ⟨hF.weak [2, 3, 6, 7, 8, 9, 32, 33, 34] (by kernel_rfl), hS, hm⟩
          · replace hm := if_f hm hb
            refine wpIn_exit ?_
            refine then_e (then_e (block_e (block_n (then_n ?_))))
            have hS := hS.pickN 5 [0, 1, 2, 3] (by decide)
            rw [← hφ2] at hm
            replace hm := done_b hm
            unfold stones_spread_K2 at hm
            try dsimp only at hm
            have hm : ((stones_spread_J3 i1) in3 border3 seen2).bind φ1 = some r := hm
            exact ⟨in3, border3, seen2, A8, c8, A9, c9, hF.weak [2, 3, 6, 7, 8, 9] (by kernel_rfl), hS, hm⟩
    · refine reg [] [] [2, 3, 6, 7, 8, 9, 24] [pl 2 (.func (.func 44) #[] #[]), pl 3 (.pointer (some ⟨g4, 0, none⟩)), pl 6 (.slice A3 in1.length c3), pl 7 (.slice A4 border1.length c4), pl 8 (.slice A2 (Int.toNat (g3.length : Int)) c2), pl 9 (.int .i64 i1), pl 24 (.bool (decide (i1 < (in1.length : Int))))] hF hS Fol (by kernel_rfl) (by kernel_rfl) (by kernel_rfl) ?_ (fun a w hF hS => ?_)
      · exact obs_nil
      refine cond_ev (t := 24) (b := decide (i1 < (in1.length : Int))) hF (by kernel_rfl) (fun hb => ?_) (fun hb => ?_)
      · replace hm := if_t hm hb
        refine wpIn_skip ?_
        refine then_n ?_
        exact ⟨hF.weak [2, 3, 6, 7, 8, 9] (by kernel_rfl), hS, hm⟩
      · replace hm := if_f hm hb
        refine wpIn_exit ?_
        refine then_e (then_e (block_e (then_n ?_)))
        have hS := hS.pickN 4 [1, 2] (by decide)
        rw [← hφ1] at hm
        replace hm := done_b hm
        unfold stones_spread_K1 at hm
        try dsimp only at hm
        have hm : (stones_spread_J1 in1 border1).bind some = some r := hm
        exact ⟨in1, border1, A3, c3, A4, c4, hF.weak [6, 7] (by kernel_rfl), hS, hm⟩

noncomputable def stones_Areas_J9  (g3 : List Int) (r2 : (List Int × List Int)) (who1 : Int) (z2 : Int) : Option (St (Int × Int) Int) :=
  some (.next ((bOr who1 (geti g3 (geti r2.2 z2))), (w64 (z2 + 1))))

noncomputable def stones_Areas_J8  (g3 : List Int) (r2 : (List Int × List Int)) (who1 : Int) (z2 : Int) : Option (St (Int × Int) Int) :=
  asrt (0 ≤ z2 ∧ z2 < (r2.2.length : Int)) <| asrt (0 ≤ (geti r2.2 z2) ∧ (geti r2.2 z2) < (g3.length : Int)) <| (stones_Areas_J9 g3 r2 who1 z2)

noncomputable def stones_Areas_J12  (r2 : (List Int × List Int)) (done3 : List Bool) (z3 : Int) : Option (St (List Bool × Int) (List Bool)) :=
  some (.next ((done3.set (Int.toNat (geti r2.1 z3)) true), (w64 (z3 + 1))))

noncomputable def stones_Areas_J11  (g3 : List Int) (r2 : (List Int × List Int)) (done3 : List Bool) (z3 : Int) : Option (St (List Bool × Int) (List Bool)) :=
  asrt (0 ≤ z3 ∧ z3 < (r2.1.length : Int)) <| asrt (0 ≤ (geti r2.1 z3) ∧ (geti r2.1 z3) < (((Int.toNat (g3.length : Int)) : Nat) : Int)) <| (stones_Areas_J12 r2 done3 z3)

noncomputable def stones_Areas_L3  (g3 : List Int) (r2 : (List Int × List Int)) : (List Bool × Int) → Option (St (List Bool × Int) (List Bool)) :=
  fun (x : (List Bool × Int)) => match x with | (done3, z3) => if (decide (z3 < (r2.1.length : Int))) then ((stones_Areas_J11 g3 r2 done3 z3)) else (some (.done done3))

noncomputable def stones_Areas_J4  (z1 : Int) (many3 : List Int) (done2 : List Bool) : Option (St (List Int × List Bool × Int) (List Int)) :=
  some (.next (many3, done2, (w64 (z1 + 1))))

noncomputable def stones_Areas_J10  (many1 : List Int) (z1 : Int) (r2 : (List Int × List Int)) (who2 : Int) (done4 : List Bool) : Option (St (List Int × List Bool × Int) (List Int)) :=
  asrt (0 ≤ (Int.tmod who2 3) ∧ (Int.tmod who2 3) < 4) <| asrt (0 ≤ (Int.tmod who2 3) ∧ (Int.tmod who2 3) < 4) <| asrt ((Int.tmod who2 3) < (many1.length : Int)) <| (stones_Areas_J4 z1) (many1.set (Int.toNat (Int.tmod who2 3)) (w64 ((geti many1 (Int.tmod who2 3)) + (r2.1.length : Int)))) done4

noncomputable def stones_Areas_K3  (many1 : List Int) (z1 : Int) (r2 : (List Int × List Int)) (who2 : Int) : (List Bool) → Option (St (List Int × List Bool × Int) (List Int)) :=
  fun (x : (List Bool)) => match x with | done4 => (stones_Areas_J10 many1 z1 r2 who2) done4

noncomputable def stones_Areas_J7  (g3 : List Int) (many1 : List Int) (done1 : List Bool) (z1 : Int) (r2 : (List Int × List Int)) (who2 : Int) : Option (St (List Int × List Bool × Int) (List Int)) :=
  (loop (stones_Areas_L3 g3 r2) (done1, 0)).bind (stones_Areas_K3 many1 z1 r2 who2)

noncomputable def stones_Areas_K2  (g3 : List Int) (many1 : List Int) (done1 : List Bool) (z1 : Int) (r2 : (List Int × List Int)) : Int → Option (St (List Int × List Bool × Int) (List Int)) :=
  fun (x : Int) => match x with | who2 => (stones_Areas_J7 g3 many1 done1 z1 r2) who2

noncomputable def stones_Areas_L2  (g3 : List Int) (r2 : (List Int × List Int)) : (Int × Int) → Option (St (Int × Int) Int) :=
  fun (x : (Int × Int)) => match x with | (who1, z2) => if (decide (z2 < (r2.2.length : Int))) then ((stones_Areas_J8 g3 r2 who1 z2)) else (some (.done who1))

noncomputable def stones_Areas_J6  (g1 : Int) (g2 : Int) (g3 : List Int) (many1 : List Int) (done1 : List Bool) (z1 : Int) : Option (St (List Int × List Bool × Int) (List Int)) :=
  (stones_spread_m g1 g2 g3 z1).bind fun r2 => (loop (stones_Areas_L2 g3 r2) (0, 0)).bind (stones_Areas_K2 g3 many1 done1 z1 r2)

noncomputable def stones_Areas_J5  (g1 : Int) (g2 : Int) (g3 : List Int) (many1 : List Int) (done1 : List Bool) (z1 : Int) : Option (St (List Int × List Bool × Int) (List Int)) :=
  asrt (0 ≤ z1 ∧ z1 < (((Int.toNat (g3.length : Int)) : Nat) : Int)) <| if (getb done1 z1) then ((stones_Areas_J4 z1) many1 done1) else ((stones_Areas_J6 g1 g2 g3 many1 done1 z1))

noncomputable def stones_Areas_J3  (g1 : Int) (g2 : Int) (g3 : List Int) (many1 : List Int) (done1 : List Bool) (z1 : Int) : Option (St (List Int × List Bool × Int) (List Int)) :=
  asrt (0 ≤ z1 ∧ z1 < (g3.length : Int)) <| if (decide ((0 : Int) < (geti g3 z1))) then (asrt (0 ≤ (geti g3 z1) ∧ (geti g3 z1) < 4) <| asrt (0 ≤ (geti g3 z1) ∧ (geti g3 z1) < 4) <| asrt ((geti g3 z1) < (many1.length : Int)) <| (stones_Areas_J4 z1) (many1.set (Int.toNat (geti g3 z1)) (w64 ((geti many1 (geti g3 z1)) + 1))) done1) else ((stones_Areas_J5 g1 g2 g3 many1 done1 z1))

noncomputable def stones_Areas_J2  (many2 : List Int) : Option (Int × Int × Int × Int) :=
  asrt (0 ≤ (1 : Int) ∧ (1 : Int) < 4) <| asrt (0 ≤ (2 : Int) ∧ (2 : Int) < 4) <| asrt (0 ≤ (0 : Int) ∧ (0 : Int) < 4) <| some ((geti many2 1), (geti many2 2), (geti many2 0), 0)

noncomputable def stones_Areas_K1  : (List Int) → Option (Int × Int × Int × Int) :=
  fun (x : (List Int)) => match x with | many2 => stones_Areas_J2 many2

noncomputable def stones_Areas_L1  (g1 : Int) (g2 : Int) (g3 : List Int) : (List Int × List Bool × Int) → Option (St (List Int × List Bool × Int) (List Int)) :=
  fun (x : (List Int × List Bool × Int)) => match x with | (many1, done1, z1) => if (decide (z1 < (g3.length : Int))) then ((stones_Areas_J3 g1 g2 g3 many1 done1 z1)) else (some (.done many1))

noncomputable def stones_Areas_J1  (g1 : Int) (g2 : Int) (g3 : List Int) : Option (Int × Int × Int × Int) :=
  asrt ((0 : Int) ≤ (g3.length : Int) ∧ (g3.length : Int) ≤ bigN) <| (loop (stones_Areas_L1 g1 g2 g3) ((List.replicate 4 (0 : Int)), (List.replicate (Int.toNat (g3.length : Int)) false), 0)).bind stones_Areas_K1

noncomputable def stones_Areas_m  (g1 : Int) (g2 : Int) (g3 : List Int) : Option (Int × Int × Int × Int) :=
  (rows_May_m g1 g2 g3).bind fun r1 => if (!r1) then (some (0, 0, 0, 12)) else ((stones_Areas_J1 g1 g2 g3))

set_option maxRecDepth 100000 in
set_option maxHeartbeats 4000000 in
theorem stones_Areas_w  {g1 : Int} {g2 : Int} {A1 : Option Addr} {c1 : Nat} {n1 : Nat} {g3 : List Int} {r : (Int × Int × Int × Int)} {w0 w : World} {B : Nat} {fs : List HP} (hm : stones_Areas_m g1 g2 g3 = some r) (hS : Sep w0 B w (fs)) (hr_g3 : RdF w0 B fs A1 (vI g3)) (_hc_g3 : g3.length ≤ c1) (_hn_g3 : n1 = g3.length) :
    Calls Try.prog 9 #[.agg #[.int .i64 g1, .int .i64 g2, .slice A1 n1 c1]] w fun e w' => e = .returned (.tuple #[.int .i64 r.1, .int .i64 r.2.1, .int .i64 r.2.2.1, .int .i64 r.2.2.2]) ∧ Sep w0 B w' (fs) := by
  obtain ⟨i3, hi3, hz3, hs3, hb3⟩ := info_parts Info3
  obtain ⟨i4, hi4, hz4, hs4, hb4⟩ := info_parts Info4
  obtain rfl := _hn_g3
  unfold stones_Areas_m at hm
  replace hm := start_b hm
  refine enter (l := [.agg #[.int .i64 g1, .int .i64 g2, .slice A1 g3.length c1]]) (n := 88) Try.func9 rfl rfl (by simp) (fun a hF => ?_)
  refine seqR ?_
  refine at_do (d := 1) (s := vS (Instr.box 24 (.agg #[.int .i64 g1, .int .i64 g2, .slice A1 g3.length c1]))) (v := .pointer (some ⟨w.heap.size, 0, none⟩)) (w' := w.alloc (.cells #[.int .i64 g1, .int .i64 g2, .slice A1 g3.length c1] 24)) hF (by kernel_rfl) (by kernel_rfl) (by kernel_rfl) (fun a hF => ?_)
  have hS : Sep w0 B (w.alloc (.cells #[.int .i64 g1, .int .i64 g2, .slice A1 g3.length c1] 24)) (blk w.heap.size 24 #[.int .i64 g1, .int .i64 g2, .slice A1 g3.length c1] :: (fs)) := hS.box 24 #[.int .i64 g1, .int .i64 g2, .slice A1 g3.length c1]
  generalize w.heap.size = g4 at hF hS
  generalize w.alloc (.cells #[.int .i64 g1, .int .i64 g2, .slice A1 g3.length c1] 24) = w at hS ⊢
  refine at_run 4 [] [] [1] [pl 1 (.pointer (some ⟨g4, 0, none⟩))] hF hS (by kernel_rfl) (by kernel_rfl) ?_ (fun a w hF hS => ?_)
  · exact obs_nil
  refine at_end [1] [pl 1 (.pointer (some ⟨g4, 0, none⟩))] hF rfl (by kernel_rfl) (fun hF => ?_)
  refine then_n ?_
  refine seq_cut (fun a w => Fr 88 [pl 1 (.pointer (some ⟨g4, 0, none⟩))] a ∧ Sep w0 B w (blk g4 24 #[.int .i64 g1, .int .i64 g2, .slice A1 g3.length c1] :: fs) ∧ ((stones_Areas_J1 g1 g2 g3)).bind some = some r) ?_ ?_
  · rintro a w ⟨hF, hS, hm⟩
    unfold stones_Areas_J1 at hm
    refine seqR ?_
    refine at_do (d := 6) (s := vS (Instr.alloc 85 true (.tuple #[]))) (v := .pointer (some ⟨w.heap.size, 0, none⟩)) (w' := w.alloc (.cells (List.toArray (([] : List Value) ++ (arr1 (Value.int .i64) (0 : Int) 4 (List.replicate 4 (0 : Int)) ++ ([] : List Value)))) 85)) hF (by kernel_rfl) (by kernel_rfl) (by kernel_rfl) (fun a hF => ?_)
    have hS : Sep w0 B (w.alloc (.cells (List.toArray (([] : List Value) ++ (arr1 (Value.int .i64) (0 : Int) 4 (List.replicate 4 (0 : Int)) ++ ([] : List Value)))) 85)) (blk w.heap.size 85 (List.toArray (([] : List Value) ++ (arr1 (Value.int .i64) (0 : Int) 4 (List.replicate 4 (0 : Int)) ++ ([] : List Value)))) :: (blk g4 24 #[.int .i64 g1, .int .i64 g2, .slice A1 g3.length c1] :: fs)) := hS.box 85 (List.toArray (([] : List Value) ++ (arr1 (Value.int .i64) (0 : Int) 4 (List.replicate 4 (0 : Int)) ++ ([] : List Value))))
    generalize w.heap.size = g5 at hF hS
    generalize w.alloc (.cells (List.toArray (([] : List Value) ++ (arr1 (Value.int .i64) (0 : Int) 4 (List.replicate 4 (0 : Int)) ++ ([] : List Value)))) 85) = w at hS ⊢
    refine at_end [1, 6] [pl 1 (.pointer (some ⟨g4, 0, none⟩)), pl 6 (.pointer (some ⟨g5, 0, none⟩))] hF rfl (by kernel_rfl) (fun hF => ?_)
    refine then_n ?_
    refine seqR ?_
    obtain ⟨hp1, hm⟩ := asrt_b hm
    refine at_run 3 [⟨false, [], vS (Instr.loadAt 22 (.pointer (some ⟨g4, 2, none⟩))), .slice A1 g3.length c1⟩] [none, some (.slice A1 g3.length c1), none] [1, 6, 22] [pl 1 (.pointer (some ⟨g4, 0, none⟩)), pl 6 (.pointer (some ⟨g5, 0, none⟩)), pl 22 (.int .i64 (g3.length : Int))] hF hS (by kernel_rfl) (by kernel_rfl) ?_ (fun a w hF hS => ?_)
    · exact obs_cons (ob_load Agg22 (fun _ _ hS => (hS.at_ 1 rfl).cell rfl)) <| obs_nil
    obtain ⟨A2, c2, w, hrun, hS⟩ := run_mk1 (P := Try.prog) (t := 86) Value.bool false hS .i64 .i64 Und86 hi4 hz4 hs4 (by omega) rfl hp1
    have hS : Sep w0 B w (own 4 (.slice A2 (Int.toNat (g3.length : Int)) c2) (vB (List.replicate (Int.toNat (g3.length : Int)) false)) :: blk g5 85 (List.toArray (([] : List Value) ++ (arr1 (Value.int .i64) (0 : Int) 4 (List.replicate 4 (0 : Int)) ++ ([] : List Value)))) :: blk g4 24 #[.int .i64 g1, .int .i64 g2, .slice A1 g3.length c1] :: fs) := hS
    refine at_do (d := 23) hF (by kernel_rfl) (by kernel_rfl) hrun (fun a hF => ?_)
    refine at_run 1 [] [] [1, 6, 7] [pl 1 (.pointer (some ⟨g4, 0, none⟩)), pl 6 (.pointer (some ⟨g5, 0, none⟩)), pl 7 (.slice A2 (Int.toNat (g3.length : Int)) c2)] hF hS (by kernel_rfl) (by kernel_rfl) ?_ (fun a w hF hS => ?_)
    · exact obs_nil
    refine at_end [1, 6, 7] [pl 1 (.pointer (some ⟨g4, 0, none⟩)), pl 6 (.pointer (some ⟨g5, 0, none⟩)), pl 7 (.slice A2 (Int.toNat (g3.length : Int)) c2)] hF rfl (by kernel_rfl) (fun hF => ?_)
    refine then_n ?_
    refine seq_cut (fun a w => ∃ (many2 : List Int), Fr 88 [pl 6 (.pointer (some ⟨g5, 0, none⟩))] a ∧ Sep w0 B w (blk g5 85 (List.toArray (([] : List Value) ++ (arr1 (Value.int .i64) (0 : Int) 4 many2 ++ ([] : List Value)))) :: fs) ∧ (stones_Areas_J2 many2).bind some = some r) ?_ ?_
    · rintro a w ⟨many2, hF, hS, hm⟩
      unfold stones_Areas_J2 at hm
      obtain ⟨hp14, hm⟩ := asrt_b hm
      obtain ⟨hp15, hm⟩ := asrt_b hm
      obtain ⟨hp16, hm⟩ := asrt_b hm
      refine reg [⟨true, [], vS (Instr.indexAt 85 (.pointer (some ⟨g5, 0, none⟩)) (.int .i64 1)), .pointer (some ((⟨g5, 0, none⟩ : Addr).add (Int.toNat 1 * 1)))⟩, ⟨false, [], vS (Instr.loadAt 3 (.pointer (some ((⟨g5, 0, none⟩ : Addr).add (Int.toNat 1 * 1))))), .int .i64 (geti many2 1)⟩, ⟨true, [], vS (Instr.indexAt 85 (.pointer (some ⟨g5, 0, none⟩)) (.int .i64 2)), .pointer (some ((⟨g5, 0, none⟩ : Addr).add (Int.toNat 2 * 1)))⟩, ⟨false, [], vS (Instr.loadAt 3 (.pointer (some ((⟨g5, 0, none⟩ : Addr).add (Int.toNat 2 * 1))))), .int .i64 (geti many2 2)⟩, ⟨true, [], vS (Instr.indexAt 85 (.pointer (some ⟨g5, 0, none⟩)) (.int .i64 0)), .pointer (some ((⟨g5, 0, none⟩ : Addr).add (Int.toNat 0 * 1)))⟩, ⟨false, [], vS (Instr.loadAt 3 (.pointer (some ((⟨g5, 0, none⟩ : Addr).add (Int.toNat 0 * 1))))), .int .i64 (geti many2 0)⟩] [some (.pointer (some ((⟨g5, 0, none⟩ : Addr).add (Int.toNat 1 * 1)))), some (.int .i64 (geti many2 1)), some (.pointer (some ((⟨g5, 0, none⟩ : Addr).add (Int.toNat 2 * 1)))), some (.int .i64 (geti many2 2)), some (.pointer (some ((⟨g5, 0, none⟩ : Addr).add (Int.toNat 0 * 1)))), some (.int .i64 (geti many2 0)), none, none, none, none] [2, 3, 4, 5] [pl 2 (.int .i64 (geti many2 1)), pl 3 (.int .i64 (geti many2 2)), pl 4 (.int .i64 (geti many2 0)), pl 5 (.int .i64 0)] hF hS Fol (by kernel_rfl) (by kernel_rfl) (by kernel_rfl) ?_ (fun a w hF hS => ?_)
      · exact obs_cons (ob_ixA UndA85 hi3 hs3 (fun _ => hp14)) <| obs_cons (ob_getA (m := many2) (Value.int .i64) (0 : Int) 4 ([] : List Value) ([] : List Value) 1 Agg3 rfl (fun _ hS => ⟨_, _, _, _, _, hS.at_ 0 rfl⟩) (fun hy => by have h0 := hp14; omega)) <| obs_cons (ob_ixA UndA85 hi3 hs3 (fun _ => hp15)) <| obs_cons (ob_getA (m := many2) (Value.int .i64) (0 : Int) 4 ([] : List Value) ([] : List Value) 2 Agg3 rfl (fun _ hS => ⟨_, _, _, _, _, hS.at_ 0 rfl⟩) (fun hy => by have h0 := hp15; omega)) <| obs_cons (ob_ixA UndA85 hi3 hs3 (fun _ => hp16)) <| obs_cons (ob_getA (m := many2) (Value.int .i64) (0 : Int) 4 ([] : List Value) ([] : List Value) 0 Agg3 rfl (fun _ hS => ⟨_, _, _, _, _, hS.at_ 0 rfl⟩) (fun hy => by have h0 := hp16; omega)) <| obs_nil
      refine wpIn_ret ?_
      have hS := hS.pickN 1 [] (by decide)
      have hm : some ((geti many2 1), (geti many2 2), (geti many2 0), 0) = some r := hm
      obtain rfl := Option.some.inj hm
      exact retV (rs := [.tmp 2, .tmp 3, .tmp 4, .tmp 5]) (vs := [.int .i64 (geti many2 1), .int .i64 (geti many2 2), .int .i64 (geti many2 0), .int .i64 0]) hF rfl (rv_t (by kernel_rfl) <| rv_t (by kernel_rfl) <| rv_t (by kernel_rfl) <| rv_t (by kernel_rfl) <| rv_nil) rfl ⟨rfl, hS⟩
    · refine reg [⟨false, [], vS (Instr.loadAt 22 (.pointer (some ⟨g4, 2, none⟩))), .slice A1 g3.length c1⟩] [none, some (.slice A1 g3.length c1), none, none] [1, 6, 7, 25, 26, 27] [pl 1 (.pointer (some ⟨g4, 0, none⟩)), pl 6 (.pointer (some ⟨g5, 0, none⟩)), pl 7 (.slice A2 (Int.toNat (g3.length : Int)) c2), pl 25 (.slice A1 g3.length c1), pl 26 (.int .i64 (g3.length : Int)), pl 27 (.int .i64 0)] hF hS Fol (by kernel_rfl) (by kernel_rfl) (by kernel_rfl) ?_ (fun a w hF hS => ?_)
      · exact obs_cons (ob_load Agg22 (fun _ _ hS => (hS.at_ 2 rfl).cell rfl)) <| obs_nil
      refine wpIn_block ?_
      have hS := hS.pickN 3 [2, 1, 0] (by decide)
      refine wp_loop_model (S := (List Int × List Bool × Int)) (R := (List Int)) (stones_Areas_L1 g1 g2 g3) (fun x => (stones_Areas_K1 x).bind some) r (fun (x : (List Int × List Bool × Int)) a w => Fr 88 [pl 1 (.pointer (some ⟨g4, 0, none⟩)), pl 6 (.pointer (some ⟨g5, 0, none⟩)), pl 7 (.slice A2 (Int.toNat (g3.length : Int)) c2), pl 25 (.slice A1 g3.length c1), pl 26 (.int .i64 (g3.length : Int)), pl 27 (.int .i64 x.2.2)] a ∧ Sep w0 B w (blk g4 24 #[.int .i64 g1, .int .i64 g2, .slice A1 g3.length c1] :: blk g5 85 (List.toArray (([] : List Value) ++ (arr1 (Value.int .i64) (0 : Int) 4 x.1 ++ ([] : List Value)))) :: own 4 (.slice A2 (Int.toNat (g3.length : Int)) c2) (vB x.2.1) :: fs)) (assoc_b hm) ⟨hF.weak [1, 6, 7, 25, 26, 27] (by kernel_rfl), hS⟩ ?_
      clear hF hS hm
      rintro nn1 ⟨many1, done1, z1⟩ a w ⟨hF, hS⟩ hm
      generalize hφ1 : stK (stones_Areas_L1 g1 g2 g3) nn1 (fun x => (stones_Areas_K1 x).bind some) = φ1 at hm
      unfold stones_Areas_L1 at hm
      dsimp only at hF hS hm
      refine reg [] [] [1, 6, 7, 25, 26, 27, 28] [pl 1 (.pointer (some ⟨g4, 0, none⟩)), pl 6 (.pointer (some ⟨g5, 0, none⟩)), pl 7 (.slice A2 (Int.toNat (g3.length : Int)) c2), pl 25 (.slice A1 g3.length c1), pl 26 (.int .i64 (g3.length : Int)), pl 27 (.int .i64 z1), pl 28 (.bool (decide (z1 < (g3.length : Int))))] hF hS Fol (by kernel_rfl) (by kernel_rfl) (by kernel_rfl) ?_ (fun a w hF hS => ?_)
      · exact obs_nil
      refine seq_cut (fun a w => Fr 88 [pl 1 (.pointer (some ⟨g4, 0, none⟩)), pl 6 (.pointer (some ⟨g5, 0, none⟩)), pl 7 (.slice A2 (Int.toNat (g3.length : Int)) c2), pl 25 (.slice A1 g3.length c1), pl 26 (.int .i64 (g3.length : Int)), pl 27 (.int .i64 z1)] a ∧ Sep w0 B w (blk g4 24 #[.int .i64 g1, .int .i64 g2, .slice A1 g3.length c1] :: blk g5 85 (List.toArray (([] : List Value) ++ (arr1 (Value.int .i64) (0 : Int) 4 many1 ++ ([] : List Value)))) :: own 4 (.slice A2 (Int.toNat (g3.length : Int)) c2) (vB done1) :: fs) ∧ ((stones_Areas_J3 g1 g2 g3 many1 done1 z1)).bind φ1 = some r) ?_ ?_
      · rintro a w ⟨hF, hS, hm⟩
        unfold stones_Areas_J3 at hm
        refine seq_cut (fun a w => ∃ (many3 : List Int) (done2 : List Bool), Fr 88 [pl 1 (.pointer (some ⟨g4, 0, none⟩)), pl 6 (.pointer (some ⟨g5, 0, none⟩)), pl 7 (.slice A2 (Int.toNat (g3.length : Int)) c2), pl 25 (.slice A1 g3.length c1), pl 26 (.int .i64 (g3.length : Int)), pl 27 (.int .i64 z1)] a ∧ Sep w0 B w (blk g4 24 #[.int .i64 g1, .int .i64 g2, .slice A1 g3.length c1] :: blk g5 85 (List.toArray (([] : List Value) ++ (arr1 (Value.int .i64) (0 : Int) 4 many3 ++ ([] : List Value)))) :: own 4 (.slice A2 (Int.toNat (g3.length : Int)) c2) (vB done2) :: fs) ∧ ((stones_Areas_J4 z1) many3 done2).bind φ1 = some r) ?_ ?_
        · rintro a w ⟨many3, done2, hF, hS, hm⟩
          unfold stones_Areas_J4 at hm
          refine reg1 [] [] [1, 6, 7, 25, 26, 27] [pl 1 (.pointer (some ⟨g4, 0, none⟩)), pl 6 (.pointer (some ⟨g5, 0, none⟩)), pl 7 (.slice A2 (Int.toNat (g3.length : Int)) c2), pl 25 (.slice A1 g3.length c1), pl 26 (.int .i64 (g3.length : Int)), pl 27 (.int .i64 (w64 (z1 + 1)))] hF hS Fol (by kernel_rfl) (by kernel_rfl) (by kernel_rfl) ?_ (fun a w hF hS => ?_)
          · exact obs_nil
          refine then_n ?_
          rw [← hφ1] at hm
          exact ⟨(many3, done2, (w64 (z1 + 1))), ⟨hF.weak [1, 6, 7, 25, 26, 27] (by kernel_rfl), hS⟩, hm⟩
        · refine wpIn_block ?_
          obtain ⟨hp2, hm⟩ := asrt_b hm
          refine reg [⟨true, [], vS (Instr.indexAt 22 (.slice A1 g3.length c1) (.int .i64 z1)), .pointer (some (sAddr A1 z1))⟩, ⟨false, [], vS (Instr.loadAt 3 (.pointer (some (sAddr A1 z1)))), .int .i64 (geti g3 z1)⟩] [none, some (.pointer (some (sAddr A1 z1))), some (.int .i64 (geti g3 z1)), none, none] [1, 6, 7, 8, 9, 25, 26, 27] [pl 1 (.pointer (some ⟨g4, 0, none⟩)), pl 6 (.pointer (some ⟨g5, 0, none⟩)), pl 7 (.slice A2 (Int.toNat (g3.length : Int)) c2), pl 8 (.int .i64 z1), pl 9 (.int .i64 (geti g3 z1)), pl 25 (.slice A1 g3.length c1), pl 26 (.int .i64 (g3.length : Int)), pl 27 (.int .i64 z1)] hF hS Fol (by kernel_rfl) (by kernel_rfl) (by kernel_rfl) ?_ (fun a w hF hS => ?_)
          · exact obs_cons (ob_ix1 (f := (Value.int .i64)) (m := g3) Und22 hi3 hs3 (hr_g3 _ (hS.dropN 3)) rfl (fun _ => hp2)) <| obs_cons (ob_get1 (n := g3.length) (m := g3) (Value.int .i64) (0 : Int) Agg3 (fun _ hS => ⟨_, (hr_g3 _ (hS.dropN 3))⟩) (fun _ hS => rfl) (fun _ => hp2)) <| obs_nil
          refine seq_cut (fun a w => Fr 88 [pl 1 (.pointer (some ⟨g4, 0, none⟩)), pl 6 (.pointer (some ⟨g5, 0, none⟩)), pl 7 (.slice A2 (Int.toNat (g3.length : Int)) c2), pl 8 (.int .i64 z1), pl 25 (.slice A1 g3.length c1), pl 26 (.int .i64 (g3.length : Int)), pl 27 (.int .i64 z1)] a ∧ Sep w0 B w (blk g4 24 #[.int .i64 g1, .int .i64 g2, .slice A1 g3.length c1] :: blk g5 85 (List.toArray (([] : List Value) ++ (arr1 (Value.int .i64) (0 : Int) 4 many1 ++ ([] : List Value)))) :: own 4 (.slice A2 (Int.toNat (g3.length : Int)) c2) (vB done1) :: fs) ∧ ((stones_Areas_J5 g1 g2 g3 many1 done1 z1)).bind φ1 = some r) ?_ ?_
          · rintro a w ⟨hF, hS, hm⟩
            unfold stones_Areas_J5 at hm
            refine seq_cut (fun a w => Fr 88 [pl 1 (.pointer (some ⟨g4, 0, none⟩)), pl 6 (.pointer (some ⟨g5, 0, none⟩)), pl 7 (.slice A2 (Int.toNat (g3.length : Int)) c2), pl 8 (.int .i64 z1), pl 25 (.slice A1 g3.length c1), pl 26 (.int .i64 (g3.length : Int)), pl 27 (.int .i64 z1)] a ∧ Sep w0 B w (blk g4 24 #[.int .i64 g1, .int .i64 g2, .slice A1 g3.length c1] :: blk g5 85 (List.toArray (([] : List Value) ++ (arr1 (Value.int .i64) (0 : Int) 4 many1 ++ ([] : List Value)))) :: own 4 (.slice A2 (Int.toNat (g3.length : Int)) c2) (vB done1) :: fs) ∧ ((stones_Areas_J6 g1 g2 g3 many1 done1 z1)).bind φ1 = some r) ?_ ?_
            · rintro a w ⟨hF, hS, hm⟩
              unfold stones_Areas_J6 at hm
              refine seqR ?_
              obtain ⟨r2, hr2, hm⟩ := call_b hm
              refine at_run 2 [⟨false, [], vS (Instr.loadAt 24 (.pointer (some ⟨g4, 0, none⟩))), .agg #[.int .i64 g1, .int .i64 g2, .slice A1 g3.length c1]⟩] [some (.agg #[.int .i64 g1, .int .i64 g2, .slice A1 g3.length c1]), none] [1, 6, 7, 25, 26, 27, 44, 45] [pl 1 (.pointer (some ⟨g4, 0, none⟩)), pl 6 (.pointer (some ⟨g5, 0, none⟩)), pl 7 (.slice A2 (Int.toNat (g3.length : Int)) c2), pl 25 (.slice A1 g3.length c1), pl 26 (.int .i64 (g3.length : Int)), pl 27 (.int .i64 z1), pl 44 (.agg #[.int .i64 g1, .int .i64 g2, .slice A1 g3.length c1]), pl 45 (.int .i64 z1)] hF hS (by kernel_rfl) (by kernel_rfl) ?_ (fun a w hF hS => ?_)
              · exact obs_cons (ob_loadA (cs := #[.int .i64 g1, .int .i64 g2, .slice A1 g3.length c1]) (by kernel_rfl) (by kernel_rfl) (fun _ _ hS => (hS.at_ 0 rfl).cellsAt 0 (by rfl))) <| obs_nil
              refine at_call (f := 43) (args := #[.agg #[.int .i64 g1, .int .i64 g2, .slice A1 g3.length c1], .int .i64 z1, .func (.func 44) #[] #[]]) (d := 46) hF (by kernel_rfl) (by kernel_rfl) Try.func43 (by kernel_rfl) rfl (stones_spread_w hr2 hS (fun _ hS => (hr_g3 _ (hS.dropN 3))) _hc_g3 rfl) (fun v a w hR hF => ?_)
              clear hS
              obtain ⟨A3, c3, A4, c4, rfl, hS⟩ := hR
              have hS : Sep w0 B w (own 3 (.slice A3 r2.1.length c3) (vI r2.1) :: own 3 (.slice A4 r2.2.length c4) (vI r2.2) :: blk g4 24 #[.int .i64 g1, .int .i64 g2, .slice A1 g3.length c1] :: blk g5 85 (List.toArray (([] : List Value) ++ (arr1 (Value.int .i64) (0 : Int) 4 many1 ++ ([] : List Value)))) :: own 4 (.slice A2 (Int.toNat (g3.length : Int)) c2) (vB done1) :: fs) := hS
              refine at_run 5 [] [] [1, 6, 7, 10, 11, 25, 26, 27] [pl 1 (.pointer (some ⟨g4, 0, none⟩)), pl 6 (.pointer (some ⟨g5, 0, none⟩)), pl 7 (.slice A2 (Int.toNat (g3.length : Int)) c2), pl 10 (.slice A3 r2.1.length c3), pl 11 (.slice A4 r2.2.length c4), pl 25 (.slice A1 g3.length c1), pl 26 (.int .i64 (g3.length : Int)), pl 27 (.int .i64 z1)] hF hS (by kernel_rfl) (by kernel_rfl) ?_ (fun a w hF hS => ?_)
              · exact obs_nil
              refine at_end [1, 6, 7, 10, 11, 25, 26, 27] [pl 1 (.pointer (some ⟨g4, 0, none⟩)), pl 6 (.pointer (some ⟨g5, 0, none⟩)), pl 7 (.slice A2 (Int.toNat (g3.length : Int)) c2), pl 10 (.slice A3 r2.1.length c3), pl 11 (.slice A4 r2.2.length c4), pl 25 (.slice A1 g3.length c1), pl 26 (.int .i64 (g3.length : Int)), pl 27 (.int .i64 z1)] hF rfl (by kernel_rfl) (fun hF => ?_)
              refine then_n ?_
              refine reg [] [] [1, 6, 7, 10, 11, 12, 25, 26, 27] [pl 1 (.pointer (some ⟨g4, 0, none⟩)), pl 6 (.pointer (some ⟨g5, 0, none⟩)), pl 7 (.slice A2 (Int.toNat (g3.length : Int)) c2), pl 10 (.slice A3 r2.1.length c3), pl 11 (.slice A4 r2.2.length c4), pl 12 (.int .i64 0), pl 25 (.slice A1 g3.length c1), pl 26 (.int .i64 (g3.length : Int)), pl 27 (.int .i64 z1)] hF hS Fol (by kernel_rfl) (by kernel_rfl) (by kernel_rfl) ?_ (fun a w hF hS => ?_)
              · exact obs_nil
              refine seq_cut (fun a w => ∃ (who2 : Int), Fr 88 [pl 1 (.pointer (some ⟨g4, 0, none⟩)), pl 6 (.pointer (some ⟨g5, 0, none⟩)), pl 7 (.slice A2 (Int.toNat (g3.length : Int)) c2), pl 10 (.slice A3 r2.1.length c3), pl 12 (.int .i64 who2), pl 25 (.slice A1 g3.length c1), pl 26 (.int .i64 (g3.length : Int)), pl 27 (.int .i64 z1)] a ∧ Sep w0 B w (blk g4 24 #[.int .i64 g1, .int .i64 g2, .slice A1 g3.length c1] :: blk g5 85 (List.toArray (([] : List Value) ++ (arr1 (Value.int .i64) (0 : Int) 4 many1 ++ ([] : List Value)))) :: own 4 (.slice A2 (Int.toNat (g3.length : Int)) c2) (vB done1) :: own 3 (.slice A3 r2.1.length c3) (vI r2.1) :: fs) ∧ ((stones_Areas_J7 g3 many1 done1 z1 r2) who2).bind φ1 = some r) ?_ ?_
              · rintro a w ⟨who2, hF, hS, hm⟩
                unfold stones_Areas_J7 at hm
                refine seq_cut (fun a w => ∃ (done4 : List Bool), Fr 88 [pl 1 (.pointer (some ⟨g4, 0, none⟩)), pl 6 (.pointer (some ⟨g5, 0, none⟩)), pl 7 (.slice A2 (Int.toNat (g3.length : Int)) c2), pl 10 (.slice A3 r2.1.length c3), pl 12 (.int .i64 who2), pl 25 (.slice A1 g3.length c1), pl 26 (.int .i64 (g3.length : Int)), pl 27 (.int .i64 z1)] a ∧ Sep w0 B w (blk g4 24 #[.int .i64 g1, .int .i64 g2, .slice A1 g3.length c1] :: blk g5 85 (List.toArray (([] : List Value) ++ (arr1 (Value.int .i64) (0 : Int) 4 many1 ++ ([] : List Value)))) :: own 4 (.slice A2 (Int.toNat (g3.length : Int)) c2) (vB done4) :: own 3 (.slice A3 r2.1.length c3) (vI r2.1) :: fs) ∧ ((stones_Areas_J10 many1 z1 r2 who2) done4).bind φ1 = some r) ?_ ?_
                · rintro a w ⟨done4, hF, hS, hm⟩
                  unfold stones_Areas_J10 at hm
                  refine oneR ?_
                  obtain ⟨hp11, hm⟩ := asrt_b hm
                  obtain ⟨hp12, hm⟩ := asrt_b hm
                  obtain ⟨hp13, hm⟩ := asrt_b hm
                  refine at_run 8 [⟨true, [], vS (Instr.indexAt 85 (.pointer (some ⟨g5, 0, none⟩)) (.int .i64 (Int.tmod who2 3))), .pointer (some ((⟨g5, 0, none⟩ : Addr).add (Int.toNat (Int.tmod who2 3) * 1)))⟩, ⟨false, [], vS (Instr.loadAt 3 (.pointer (some ((⟨g5, 0, none⟩ : Addr).add (Int.toNat (Int.tmod who2 3) * 1))))), .int .i64 (geti many1 (Int.tmod who2 3))⟩, ⟨true, [], vS (Instr.indexAt 85 (.pointer (some ⟨g5, 0, none⟩)) (.int .i64 (Int.tmod who2 3))), .pointer (some ((⟨g5, 0, none⟩ : Addr).add (Int.toNat (Int.tmod who2 3) * 1)))⟩] [none, none, some (.pointer (some ((⟨g5, 0, none⟩ : Addr).add (Int.toNat (Int.tmod who2 3) * 1)))), some (.int .i64 (geti many1 (Int.tmod who2 3))), none, none, none, some (.pointer (some ((⟨g5, 0, none⟩ : Addr).add (Int.toNat (Int.tmod who2 3) * 1))))] [1, 6, 7, 25, 26, 27, 79, 80] [pl 1 (.pointer (some ⟨g4, 0, none⟩)), pl 6 (.pointer (some ⟨g5, 0, none⟩)), pl 7 (.slice A2 (Int.toNat (g3.length : Int)) c2), pl 25 (.slice A1 g3.length c1), pl 26 (.int .i64 (g3.length : Int)), pl 27 (.int .i64 z1), pl 79 (.int .i64 (w64 ((geti many1 (Int.tmod who2 3)) + (r2.1.length : Int)))), pl 80 (.pointer (some ((⟨g5, 0, none⟩ : Addr).add (Int.toNat (Int.tmod who2 3) * 1))))] hF hS (by kernel_rfl) (by kernel_rfl) ?_ (fun a w hF hS => ?_)
                  · exact obs_cons (ob_ixA UndA85 hi3 hs3 (fun _ => hp11)) <| obs_cons (ob_getA (m := many1) (Value.int .i64) (0 : Int) 4 ([] : List Value) ([] : List Value) (Int.tmod who2 3) Agg3 rfl (fun _ hS => ⟨_, _, _, _, _, hS.at_ 1 rfl⟩) (fun hy => by have h0 := hp11; omega)) <| obs_cons (ob_ixA UndA85 hi3 hs3 (fun _ => hp12)) <| obs_nil
                  obtain ⟨w, hrun, hS⟩ := run_setA (P := Try.prog) (t := 3) (x := (w64 ((geti many1 (Int.tmod who2 3)) + (r2.1.length : Int)))) (i := (Int.tmod who2 3)) (m := many1) (d := Int.toNat (Int.tmod who2 3) * 1) (Value.int .i64) (0 : Int) 4 ([] : List Value) ([] : List Value) (hS.at_ 1 rfl) rfl hi3 hs3 rfl (by have h0 := hp12; omega) (by have h0 := hp12; have h9 := hp13; omega)
                  refine at_skip hF (by kernel_rfl) hrun ?_
                  have hS : Sep w0 B w (blk g4 24 #[.int .i64 g1, .int .i64 g2, .slice A1 g3.length c1] :: blk g5 85 (List.toArray (([] : List Value) ++ (arr1 (Value.int .i64) (0 : Int) 4 (many1.set (Int.toNat (Int.tmod who2 3)) (w64 ((geti many1 (Int.tmod who2 3)) + (r2.1.length : Int)))) ++ ([] : List Value)))) :: own 4 (.slice A2 (Int.toNat (g3.length : Int)) c2) (vB done4) :: own 3 (.slice A3 r2.1.length c3) (vI r2.1) :: fs) := hS
                  refine at_end [1, 6, 7, 25, 26, 27] [pl 1 (.pointer (some ⟨g4, 0, none⟩)), pl 6 (.pointer (some ⟨g5, 0, none⟩)), pl 7 (.slice A2 (Int.toNat (g3.length : Int)) c2), pl 25 (.slice A1 g3.length c1), pl 26 (.int .i64 (g3.length : Int)), pl 27 (.int .i64 z1)] hF rfl (by kernel_rfl) (fun hF => ?_)
                  refine block_n ?_
                  refine then_n ?_
                  have hS := hS.pickN 4 [0, 1, 2] (by decide)
                  exact ⟨(many1.set (Int.toNat (Int.tmod who2 3)) (w64 ((geti many1 (Int.tmod who2 3)) + (r2.1.length : Int)))), done4, hF.weak [1, 6, 7, 25, 26, 27] (by kernel_rfl), hS, hm⟩
                · refine reg [] [] [1, 6, 7, 10, 12, 25, 26, 27, 63, 64, 65] [pl 1 (.pointer (some ⟨g4, 0, none⟩)), pl 6 (.pointer (some ⟨g5, 0, none⟩)), pl 7 (.slice A2 (Int.toNat (g3.length : Int)) c2), pl 10 (.slice A3 r2.1.length c3), pl 12 (.int .i64 who2), pl 25 (.slice A1 g3.length c1), pl 26 (.int .i64 (g3.length : Int)), pl 27 (.int .i64 z1), pl 63 (.slice A3 r2.1.length c3), pl 64 (.int .i64 (r2.1.length : Int)), pl 65 (.int .i64 0)] hF hS Fol (by kernel_rfl) (by kernel_rfl) (by kernel_rfl) ?_ (fun a w hF hS => ?_)
                  · exact obs_nil
                  refine wpIn_block ?_
                  refine wp_loop_model (S := (List Bool × Int)) (R := (List Bool)) (stones_Areas_L3 g3 r2) (fun x => ((stones_Areas_K3 many1 z1 r2 who2) x).bind φ1) r (fun (x : (List Bool × Int)) a w => Fr 88 [pl 1 (.pointer (some ⟨g4, 0, none⟩)), pl 6 (.pointer (some ⟨g5, 0, none⟩)), pl 7 (.slice A2 (Int.toNat (g3.length : Int)) c2), pl 10 (.slice A3 r2.1.length c3), pl 12 (.int .i64 who2), pl 25 (.slice A1 g3.length c1), pl 26 (.int .i64 (g3.length : Int)), pl 27 (.int .i64 z1), pl 63 (.slice A3 r2.1.length c3), pl 64 (.int .i64 (r2.1.length : Int)), pl 65 (.int .i64 x.2)] a ∧ Sep w0 B w (blk g4 24 #[.int .i64 g1, .int .i64 g2, .slice A1 g3.length c1] :: blk g5 85 (List.toArray (([] : List Value) ++ (arr1 (Value.int .i64) (0 : Int) 4 many1 ++ ([] : List Value)))) :: own 4 (.slice A2 (Int.toNat (g3.length : Int)) c2) (vB x.1) :: own 3 (.slice A3 r2.1.length c3) (vI r2.1) :: fs)) (assoc_b hm) ⟨hF.weak [1, 6, 7, 10, 12, 25, 26, 27, 63, 64, 65] (by kernel_rfl), hS⟩ ?_
                  clear hF hS hm
                  rintro nn3 ⟨done3, z3⟩ a w ⟨hF, hS⟩ hm
                  generalize hφ3 : stK (stones_Areas_L3 g3 r2) nn3 (fun x => ((stones_Areas_K3 many1 z1 r2 who2) x).bind φ1) = φ3 at hm
                  unfold stones_Areas_L3 at hm
                  dsimp only at hF hS hm
                  refine reg [] [] [1, 6, 7, 10, 12, 25, 26, 27, 63, 64, 65, 66] [pl 1 (.pointer (some ⟨g4, 0, none⟩)), pl 6 (.pointer (some ⟨g5, 0, none⟩)), pl 7 (.slice A2 (Int.toNat (g3.length : Int)) c2), pl 10 (.slice A3 r2.1.length c3), pl 12 (.int .i64 who2), pl 25 (.slice A1 g3.length c1), pl 26 (.int .i64 (g3.length : Int)), pl 27 (.int .i64 z1), pl 63 (.slice A3 r2.1.length c3), pl 64 (.int .i64 (r2.1.length : Int)), pl 65 (.int .i64 z3), pl 66 (.bool (decide (z3 < (r2.1.length : Int))))] hF hS Fol (by kernel_rfl) (by kernel_rfl) (by kernel_rfl) ?_ (fun a w hF hS => ?_)
                  · exact obs_nil
                  refine seq_cut (fun a w => Fr 88 [pl 1 (.pointer (some ⟨g4, 0, none⟩)), pl 6 (.pointer (some ⟨g5, 0, none⟩)), pl 7 (.slice A2 (Int.toNat (g3.length : Int)) c2), pl 10 (.slice A3 r2.1.length c3), pl 12 (.int .i64 who2), pl 25 (.slice A1 g3.length c1), pl 26 (.int .i64 (g3.length : Int)), pl 27 (.int .i64 z1), pl 63 (.slice A3 r2.1.length c3), pl 64 (.int .i64 (r2.1.length : Int)), pl 65 (.int .i64 z3)] a ∧ Sep w0 B w (blk g4 24 #[.int .i64 g1, .int .i64 g2, .slice A1 g3.length c1] :: blk g5 85 (List.toArray (([] : List Value) ++ (arr1 (Value.int .i64) (0 : Int) 4 many1 ++ ([] : List Value)))) :: own 4 (.slice A2 (Int.toNat (g3.length : Int)) c2) (vB done3) :: own 3 (.slice A3 r2.1.length c3) (vI r2.1) :: fs) ∧ ((stones_Areas_J11 g3 r2 done3 z3)).bind φ3 = some r) ?_ ?_
                  · rintro a w ⟨hF, hS, hm⟩
                    unfold stones_Areas_J11 at hm
                    refine seq_cut (fun a w => Fr 88 [pl 1 (.pointer (some ⟨g4, 0, none⟩)), pl 6 (.pointer (some ⟨g5, 0, none⟩)), pl 7 (.slice A2 (Int.toNat (g3.length : Int)) c2), pl 10 (.slice A3 r2.1.length c3), pl 12 (.int .i64 who2), pl 25 (.slice A1 g3.length c1), pl 26 (.int .i64 (g3.length : Int)), pl 27 (.int .i64 z1), pl 63 (.slice A3 r2.1.length c3), pl 64 (.int .i64 (r2.1.length : Int)), pl 65 (.int .i64 z3)] a ∧ Sep w0 B w (blk g4 24 #[.int .i64 g1, .int .i64 g2, .slice A1 g3.length c1] :: blk g5 85 (List.toArray (([] : List Value) ++ (arr1 (Value.int .i64) (0 : Int) 4 many1 ++ ([] : List Value)))) :: own 4 (.slice A2 (Int.toNat (g3.length : Int)) c2) (vB (done3.set (Int.toNat (geti r2.1 z3)) true)) :: own 3 (.slice A3 r2.1.length c3) (vI r2.1) :: fs) ∧ ((stones_Areas_J12 r2 done3 z3)).bind φ3 = some r) ?_ ?_
                    · rintro a w ⟨hF, hS, hm⟩
                      unfold stones_Areas_J12 at hm
                      refine reg1 [] [] [1, 6, 7, 10, 12, 25, 26, 27, 63, 64, 65] [pl 1 (.pointer (some ⟨g4, 0, none⟩)), pl 6 (.pointer (some ⟨g5, 0, none⟩)), pl 7 (.slice A2 (Int.toNat (g3.length : Int)) c2), pl 10 (.slice A3 r2.1.length c3), pl 12 (.int .i64 who2), pl 25 (.slice A1 g3.length c1), pl 26 (.int .i64 (g3.length : Int)), pl 27 (.int .i64 z1), pl 63 (.slice A3 r2.1.length c3), pl 64 (.int .i64 (r2.1.length : Int)), pl 65 (.int .i64 (w64 (z3 + 1)))] hF hS Fol (by kernel_rfl) (by kernel_rfl) (by kernel_rfl) ?_ (fun a w hF hS => ?_)
                      · exact obs_nil
                      refine then_n ?_
                      rw [← hφ3] at hm
                      exact ⟨((done3.set (Int.toNat (geti r2.1 z3)) true), (w64 (z3 + 1))), ⟨hF.weak [1, 6, 7, 10, 12, 25, 26, 27, 63, 64, 65] (by kernel_rfl), hS⟩, hm⟩
                    · refine wpIn_block ?_
                      obtain ⟨hp9, hm⟩ := asrt_b hm
                      refine reg [⟨true, [], vS (Instr.indexAt 22 (.slice A3 r2.1.length c3) (.int .i64 z3)), .pointer (some (sAddr A3 z3))⟩, ⟨false, [], vS (Instr.loadAt 3 (.pointer (some (sAddr A3 z3)))), .int .i64 (geti r2.1 z3)⟩] [some (.pointer (some (sAddr A3 z3))), some (.int .i64 (geti r2.1 z3)), none] [1, 6, 7, 10, 12, 16, 25, 26, 27, 63, 64, 65] [pl 1 (.pointer (some ⟨g4, 0, none⟩)), pl 6 (.pointer (some ⟨g5, 0, none⟩)), pl 7 (.slice A2 (Int.toNat (g3.length : Int)) c2), pl 10 (.slice A3 r2.1.length c3), pl 12 (.int .i64 who2), pl 16 (.int .i64 (geti r2.1 z3)), pl 25 (.slice A1 g3.length c1), pl 26 (.int .i64 (g3.length : Int)), pl 27 (.int .i64 z1), pl 63 (.slice A3 r2.1.length c3), pl 64 (.int .i64 (r2.1.length : Int)), pl 65 (.int .i64 z3)] hF hS Fol (by kernel_rfl) (by kernel_rfl) (by kernel_rfl) ?_ (fun a w hF hS => ?_)
                      · exact obs_cons (ob_ix1 (f := (Value.int .i64)) (m := r2.1) Und22 hi3 hs3 (hS.at_ 3 rfl).rd rfl (fun _ => hp9)) <| obs_cons (ob_get1 (n := r2.1.length) (m := r2.1) (Value.int .i64) (0 : Int) Agg3 (fun _ hS => ⟨_, (hS.at_ 3 rfl).rd⟩) (fun _ hS => rfl) (fun _ => hp9)) <| obs_nil
                      refine oneR ?_
                      obtain ⟨hp10, hm⟩ := asrt_b hm
                      refine at_run 3 [⟨true, [], vS (Instr.indexAt 86 (.slice A2 (Int.toNat (g3.length : Int)) c2) (.int .i64 (geti r2.1 z3))), .pointer (some (sAddr A2 (geti r2.1 z3)))⟩] [none, none, some (.pointer (some (sAddr A2 (geti r2.1 z3))))] [1, 6, 7, 10, 12, 25, 26, 27, 63, 64, 65, 71] [pl 1 (.pointer (some ⟨g4, 0, none⟩)), pl 6 (.pointer (some ⟨g5, 0, none⟩)), pl 7 (.slice A2 (Int.toNat (g3.length : Int)) c2), pl 10 (.slice A3 r2.1.length c3), pl 12 (.int .i64 who2), pl 25 (.slice A1 g3.length c1), pl 26 (.int .i64 (g3.length : Int)), pl 27 (.int .i64 z1), pl 63 (.slice A3 r2.1.length c3), pl 64 (.int .i64 (r2.1.length : Int)), pl 65 (.int .i64 z3), pl 71 (.pointer (some (sAddr A2 (geti r2.1 z3))))] hF hS (by kernel_rfl) (by kernel_rfl) ?_ (fun a w hF hS => ?_)
                      · exact obs_cons (ob_ix1 (f := Value.bool) (m := done3) Und86 hi4 hs4 (hS.at_ 2 rfl).rd ((hS.at_ 2 rfl).len1) (fun _ => hp10)) <| obs_nil
                      obtain ⟨w, hrun, hS⟩ := run_set1 (P := Try.prog) (t := 4) (x := true) Value.bool (hS.at_ 2 rfl) hi4 hs4 rfl rfl hp10
                      refine at_skip hF (by kernel_rfl) hrun ?_
                      have hS : Sep w0 B w (blk g4 24 #[.int .i64 g1, .int .i64 g2, .slice A1 g3.length c1] :: blk g5 85 (List.toArray (([] : List Value) ++ (arr1 (Value.int .i64) (0 : Int) 4 many1 ++ ([] : List Value)))) :: own 4 (.slice A2 (Int.toNat (g3.length : Int)) c2) (vB (done3.set (Int.toNat (geti r2.1 z3)) true)) :: own 3 (.slice A3 r2.1.length c3) (vI r2.1) :: fs) := hS
                      refine at_end [1, 6, 7, 10, 12, 25, 26, 27, 63, 64, 65] [pl 1 (.pointer (some ⟨g4, 0, none⟩)), pl 6 (.pointer (some ⟨g5, 0, none⟩)), pl 7 (.slice A2 (Int.toNat (g3.length : Int)) c2), pl 10 (.slice A3 r2.1.length c3), pl 12 (.int .i64 who2), pl 25 (.slice A1 g3.length c1), pl 26 (.int .i64 (g3.length : Int)), pl 27 (.int .i64 z1), pl 63 (.slice A3 r2.1.length c3), pl 64 (.int .i64 (r2.1.length : Int)), pl 65 (.int .i64 z3)] hF rfl (by kernel_rfl) (fun hF => ?_)
                      refine block_n ?_
                      refine then_n ?_
                      exact ⟨hF.weak [1, 6, 7, 10, 12, 25, 26, 27, 63, 64, 65] (by kernel_rfl), hS, hm⟩
                  · refine cond_ev (t := 66) (b := decide (z3 < (r2.1.length : Int))) hF (by kernel_rfl) (fun hb => ?_) (fun hb => ?_)
                    · replace hm := if_t hm hb
                      refine wpIn_skip ?_
                      refine then_n ?_
                      exact ⟨hF.weak [1, 6, 7, 10, 12, 25, 26, 27, 63, 64, 65] (by kernel_rfl), hS, hm⟩
                    · replace hm := if_f hm hb
                      refine wpIn_exit ?_
                      refine then_e (then_e (block_e (then_n ?_)))
                      rw [← hφ3] at hm
                      replace hm := done_b hm
                      unfold stones_Areas_K3 at hm
                      try dsimp only at hm
                      have hm : ((stones_Areas_J10 many1 z1 r2 who2) done3).bind φ1 = some r := hm
                      exact ⟨done3, hF.weak [1, 6, 7, 10, 12, 25, 26, 27] (by kernel_rfl), hS, hm⟩
              · refine reg [] [] [1, 6, 7, 10, 12, 25, 26, 27, 49, 50, 51] [pl 1 (.pointer (some ⟨g4, 0, none⟩)), pl 6 (.pointer (some ⟨g5, 0, none⟩)), pl 7 (.slice A2 (Int.toNat (g3.length : Int)) c2), pl 10 (.slice A3 r2.1.length c3), pl 12 (.int .i64 0), pl 25 (.slice A1 g3.length c1), pl 26 (.int .i64 (g3.length : Int)), pl 27 (.int .i64 z1), pl 49 (.slice A4 r2.2.length c4), pl 50 (.int .i64 (r2.2.length : Int)), pl 51 (.int .i64 0)] hF hS Fol (by kernel_rfl) (by kernel_rfl) (by kernel_rfl) ?_ (fun a w hF hS => ?_)
                · exact obs_nil
                refine wpIn_block ?_
                have hS := hS.pickN 5 [2, 3, 4, 0, 1] (by decide)
                refine wp_loop_model (S := (Int × Int)) (R := Int) (stones_Areas_L2 g3 r2) (fun x => ((stones_Areas_K2 g3 many1 done1 z1 r2) x).bind φ1) r (fun (x : (Int × Int)) a w => Fr 88 [pl 1 (.pointer (some ⟨g4, 0, none⟩)), pl 6 (.pointer (some ⟨g5, 0, none⟩)), pl 7 (.slice A2 (Int.toNat (g3.length : Int)) c2), pl 10 (.slice A3 r2.1.length c3), pl 12 (.int .i64 x.1), pl 25 (.slice A1 g3.length c1), pl 26 (.int .i64 (g3.length : Int)), pl 27 (.int .i64 z1), pl 49 (.slice A4 r2.2.length c4), pl 50 (.int .i64 (r2.2.length : Int)), pl 51 (.int .i64 x.2)] a ∧ Sep w0 B w (blk g4 24 #[.int .i64 g1, .int .i64 g2, .slice A1 g3.length c1] :: blk g5 85 (List.toArray (([] : List Value) ++ (arr1 (Value.int .i64) (0 : Int) 4 many1 ++ ([] : List Value)))) :: own 4 (.slice A2 (Int.toNat (g3.length : Int)) c2) (vB done1) :: own 3 (.slice A3 r2.1.length c3) (vI r2.1) :: own 3 (.slice A4 r2.2.length c4) (vI r2.2) :: fs)) (assoc_b hm) ⟨hF.weak [1, 6, 7, 10, 12, 25, 26, 27, 49, 50, 51] (by kernel_rfl), hS⟩ ?_
                clear hF hS hm
                rintro nn2 ⟨who1, z2⟩ a w ⟨hF, hS⟩ hm
                generalize hφ2 : stK (stones_Areas_L2 g3 r2) nn2 (fun x => ((stones_Areas_K2 g3 many1 done1 z1 r2) x).bind φ1) = φ2 at hm
                unfold stones_Areas_L2 at hm
                dsimp only at hF hS hm
                refine reg [] [] [1, 6, 7, 10, 12, 25, 26, 27, 49, 50, 51, 52] [pl 1 (.pointer (some ⟨g4, 0, none⟩)), pl 6 (.pointer (some ⟨g5, 0, none⟩)), pl 7 (.slice A2 (Int.toNat (g3.length : Int)) c2), pl 10 (.slice A3 r2.1.length c3), pl 12 (.int .i64 who1), pl 25 (.slice A1 g3.length c1), pl 26 (.int .i64 (g3.length : Int)), pl 27 (.int .i64 z1), pl 49 (.slice A4 r2.2.length c4), pl 50 (.int .i64 (r2.2.length : Int)), pl 51 (.int .i64 z2), pl 52 (.bool (decide (z2 < (r2.2.length : Int))))] hF hS Fol (by kernel_rfl) (by kernel_rfl) (by kernel_rfl) ?_ (fun a w hF hS => ?_)
                · exact obs_nil
                refine seq_cut (fun a w => Fr 88 [pl 1 (.pointer (some ⟨g4, 0, none⟩)), pl 6 (.pointer (some ⟨g5, 0, none⟩)), pl 7 (.slice A2 (Int.toNat (g3.length : Int)) c2), pl 10 (.slice A3 r2.1.length c3), pl 12 (.int .i64 who1), pl 25 (.slice A1 g3.length c1), pl 26 (.int .i64 (g3.length : Int)), pl 27 (.int .i64 z1), pl 49 (.slice A4 r2.2.length c4), pl 50 (.int .i64 (r2.2.length : Int)), pl 51 (.int .i64 z2)] a ∧ Sep w0 B w (blk g4 24 #[.int .i64 g1, .int .i64 g2, .slice A1 g3.length c1] :: blk g5 85 (List.toArray (([] : List Value) ++ (arr1 (Value.int .i64) (0 : Int) 4 many1 ++ ([] : List Value)))) :: own 4 (.slice A2 (Int.toNat (g3.length : Int)) c2) (vB done1) :: own 3 (.slice A3 r2.1.length c3) (vI r2.1) :: own 3 (.slice A4 r2.2.length c4) (vI r2.2) :: fs) ∧ ((stones_Areas_J8 g3 r2 who1 z2)).bind φ2 = some r) ?_ ?_
                · rintro a w ⟨hF, hS, hm⟩
                  unfold stones_Areas_J8 at hm
                  refine seq_cut (fun a w => Fr 88 [pl 1 (.pointer (some ⟨g4, 0, none⟩)), pl 6 (.pointer (some ⟨g5, 0, none⟩)), pl 7 (.slice A2 (Int.toNat (g3.length : Int)) c2), pl 10 (.slice A3 r2.1.length c3), pl 12 (.int .i64 (bOr who1 (geti g3 (geti r2.2 z2)))), pl 25 (.slice A1 g3.length c1), pl 26 (.int .i64 (g3.length : Int)), pl 27 (.int .i64 z1), pl 49 (.slice A4 r2.2.length c4), pl 50 (.int .i64 (r2.2.length : Int)), pl 51 (.int .i64 z2)] a ∧ Sep w0 B w (blk g4 24 #[.int .i64 g1, .int .i64 g2, .slice A1 g3.length c1] :: blk g5 85 (List.toArray (([] : List Value) ++ (arr1 (Value.int .i64) (0 : Int) 4 many1 ++ ([] : List Value)))) :: own 4 (.slice A2 (Int.toNat (g3.length : Int)) c2) (vB done1) :: own 3 (.slice A3 r2.1.length c3) (vI r2.1) :: own 3 (.slice A4 r2.2.length c4) (vI r2.2) :: fs) ∧ ((stones_Areas_J9 g3 r2 who1 z2)).bind φ2 = some r) ?_ ?_
                  · rintro a w ⟨hF, hS, hm⟩
                    unfold stones_Areas_J9 at hm
                    refine reg1 [] [] [1, 6, 7, 10, 12, 25, 26, 27, 49, 50, 51] [pl 1 (.pointer (some ⟨g4, 0, none⟩)), pl 6 (.pointer (some ⟨g5, 0, none⟩)), pl 7 (.slice A2 (Int.toNat (g3.length : Int)) c2), pl 10 (.slice A3 r2.1.length c3), pl 12 (.int .i64 (bOr who1 (geti g3 (geti r2.2 z2)))), pl 25 (.slice A1 g3.length c1), pl 26 (.int .i64 (g3.length : Int)), pl 27 (.int .i64 z1), pl 49 (.slice A4 r2.2.length c4), pl 50 (.int .i64 (r2.2.length : Int)), pl 51 (.int .i64 (w64 (z2 + 1)))] hF hS Fol (by kernel_rfl) (by kernel_rfl) (by kernel_rfl) ?_ (fun a w hF hS => ?_)
                    · exact obs_nil
                    refine then_n ?_
                    rw [← hφ2] at hm
                    exact ⟨((bOr who1 (geti g3 (geti r2.2 z2))), (w64 (z2 + 1))), ⟨hF.weak [1, 6, 7, 10, 12, 25, 26, 27, 49, 50, 51] (by kernel_rfl), hS⟩, hm⟩
                  · refine wpIn_block ?_
                    obtain ⟨hp7, hm⟩ := asrt_b hm
                    refine reg [⟨true, [], vS (Instr.indexAt 22 (.slice A4 r2.2.length c4) (.int .i64 z2)), .pointer (some (sAddr A4 z2))⟩, ⟨false, [], vS (Instr.loadAt 3 (.pointer (some (sAddr A4 z2)))), .int .i64 (geti r2.2 z2)⟩] [some (.pointer (some (sAddr A4 z2))), some (.int .i64 (geti r2.2 z2)), none] [1, 6, 7, 10, 12, 14, 25, 26, 27, 49, 50, 51] [pl 1 (.pointer (some ⟨g4, 0, none⟩)), pl 6 (.pointer (some ⟨g5, 0, none⟩)), pl 7 (.slice A2 (Int.toNat (g3.length : Int)) c2), pl 10 (.slice A3 r2.1.length c3), pl 12 (.int .i64 who1), pl 14 (.int .i64 (geti r2.2 z2)), pl 25 (.slice A1 g3.length c1), pl 26 (.int .i64 (g3.length : Int)), pl 27 (.int .i64 z1), pl 49 (.slice A4 r2.2.length c4), pl 50 (.int .i64 (r2.2.length : Int)), pl 51 (.int .i64 z2)] hF hS Fol (by kernel_rfl) (by kernel_rfl) (by kernel_rfl) ?_ (fun a w hF hS => ?_)
                    · exact obs_cons (ob_ix1 (f := (Value.int .i64)) (m := r2.2) Und22 hi3 hs3 (hS.at_ 4 rfl).rd rfl (fun _ => hp7)) <| obs_cons (ob_get1 (n := r2.2.length) (m := r2.2) (Value.int .i64) (0 : Int) Agg3 (fun _ hS => ⟨_, (hS.at_ 4 rfl).rd⟩) (fun _ hS => rfl) (fun _ => hp7)) <| obs_nil
                    obtain ⟨hp8, hm⟩ := asrt_b hm
                    refine reg1 [⟨false, [], vS (Instr.loadAt 22 (.pointer (some ⟨g4, 2, none⟩))), .slice A1 g3.length c1⟩, ⟨true, [], vS (Instr.indexAt 22 (.slice A1 g3.length c1) (.int .i64 (geti r2.2 z2))), .pointer (some (sAddr A1 (geti r2.2 z2)))⟩, ⟨false, [], vS (Instr.loadAt 3 (.pointer (some (sAddr A1 (geti r2.2 z2))))), .int .i64 (geti g3 (geti r2.2 z2))⟩] [none, none, some (.slice A1 g3.length c1), none, some (.pointer (some (sAddr A1 (geti r2.2 z2)))), some (.int .i64 (geti g3 (geti r2.2 z2))), none, none] [1, 6, 7, 10, 12, 25, 26, 27, 49, 50, 51] [pl 1 (.pointer (some ⟨g4, 0, none⟩)), pl 6 (.pointer (some ⟨g5, 0, none⟩)), pl 7 (.slice A2 (Int.toNat (g3.length : Int)) c2), pl 10 (.slice A3 r2.1.length c3), pl 12 (.int .i64 (bOr who1 (geti g3 (geti r2.2 z2)))), pl 25 (.slice A1 g3.length c1), pl 26 (.int .i64 (g3.length : Int)), pl 27 (.int .i64 z1), pl 49 (.slice A4 r2.2.length c4), pl 50 (.int .i64 (r2.2.length : Int)), pl 51 (.int .i64 z2)] hF hS Fol (by kernel_rfl) (by kernel_rfl) (by kernel_rfl) ?_ (fun a w hF hS => ?_)
                    · exact obs_cons (ob_load Agg22 (fun _ _ hS => (hS.at_ 0 rfl).cell rfl)) <| obs_cons (ob_ix1 (f := (Value.int .i64)) (m := g3) Und22 hi3 hs3 (hr_g3 _ (hS.dropN 5)) rfl (fun _ => hp8)) <| obs_cons (ob_get1 (n := g3.length) (m := g3) (Value.int .i64) (0 : Int) Agg3 (fun _ hS => ⟨_, (hr_g3 _ (hS.dropN 5))⟩) (fun _ hS => rfl) (fun _ => hp8)) <| obs_nil
                    refine block_n ?_
                    refine then_n ?_
                    exact ⟨hF.weak [1, 6, 7, 10, 12, 25, 26, 27, 49, 50, 51] (by kernel_rfl), hS, hm⟩
                · refine cond_ev (t := 52) (b := decide (z2 < (r2.2.length : Int))) hF (by kernel_rfl) (fun hb => ?_) (fun hb => ?_)
                  · replace hm := if_t hm hb
                    refine wpIn_skip ?_
                    refine then_n ?_
                    exact ⟨hF.weak [1, 6, 7, 10, 12, 25, 26, 27, 49, 50, 51] (by kernel_rfl), hS, hm⟩
                  · replace hm := if_f hm hb
                    refine wpIn_exit ?_
                    refine then_e (then_e (block_e (then_n ?_)))
                    have hS := hS.pickN 5 [0, 1, 2, 3] (by decide)
                    rw [← hφ2] at hm
                    replace hm := done_b hm
                    unfold stones_Areas_K2 at hm
                    try dsimp only at hm
                    have hm : ((stones_Areas_J7 g3 many1 done1 z1 r2) who1).bind φ1 = some r := hm
                    exact ⟨who1, hF.weak [1, 6, 7, 10, 12, 25, 26, 27] (by kernel_rfl), hS, hm⟩
            · obtain ⟨hp6, hm⟩ := asrt_b hm
              refine reg [⟨true, [], vS (Instr.indexAt 86 (.slice A2 (Int.toNat (g3.length : Int)) c2) (.int .i64 z1)), .pointer (some (sAddr A2 z1))⟩, ⟨false, [], vS (Instr.loadAt 4 (.pointer (some (sAddr A2 z1)))), .bool (getb done1 z1)⟩] [none, none, some (.pointer (some (sAddr A2 z1))), some (.bool (getb done1 z1))] [1, 6, 7, 8, 25, 26, 27, 42] [pl 1 (.pointer (some ⟨g4, 0, none⟩)), pl 6 (.pointer (some ⟨g5, 0, none⟩)), pl 7 (.slice A2 (Int.toNat (g3.length : Int)) c2), pl 8 (.int .i64 z1), pl 25 (.slice A1 g3.length c1), pl 26 (.int .i64 (g3.length : Int)), pl 27 (.int .i64 z1), pl 42 (.bool (getb done1 z1))] hF hS Fol (by kernel_rfl) (by kernel_rfl) (by kernel_rfl) ?_ (fun a w hF hS => ?_)
              · exact obs_cons (ob_ix1 (f := Value.bool) (m := done1) Und86 hi4 hs4 (hS.at_ 2 rfl).rd ((hS.at_ 2 rfl).len1) (fun _ => hp6)) <| obs_cons (ob_get1 (n := (Int.toNat (g3.length : Int))) (m := done1) Value.bool false Agg4 (fun _ hS => ⟨_, (hS.at_ 2 rfl).rd⟩) (fun _ hS => ((hS.at_ 2 rfl).len1)) (fun _ => hp6)) <| obs_nil
              refine cond_ev (t := 42) (b := getb done1 z1) hF (by kernel_rfl) (fun hb => ?_) (fun hb => ?_)
              · replace hm := if_t hm hb
                refine wpIn_exit ?_
                refine then_e (block_e (then_n ?_))
                exact ⟨many1, done1, hF.weak [1, 6, 7, 25, 26, 27] (by kernel_rfl), hS, hm⟩
              · replace hm := if_f hm hb
                refine wpIn_skip ?_
                refine then_n ?_
                exact ⟨hF.weak [1, 6, 7, 8, 25, 26, 27] (by kernel_rfl), hS, hm⟩
          · refine reg [] [] [1, 6, 7, 8, 9, 25, 26, 27, 33] [pl 1 (.pointer (some ⟨g4, 0, none⟩)), pl 6 (.pointer (some ⟨g5, 0, none⟩)), pl 7 (.slice A2 (Int.toNat (g3.length : Int)) c2), pl 8 (.int .i64 z1), pl 9 (.int .i64 (geti g3 z1)), pl 25 (.slice A1 g3.length c1), pl 26 (.int .i64 (g3.length : Int)), pl 27 (.int .i64 z1), pl 33 (.bool (decide ((0 : Int) < (geti g3 z1))))] hF hS Fol (by kernel_rfl) (by kernel_rfl) (by kernel_rfl) ?_ (fun a w hF hS => ?_)
            · exact obs_nil
            refine cond_ev (t := 33) (b := decide ((0 : Int) < (geti g3 z1))) hF (by kernel_rfl) (fun hb => ?_) (fun hb => ?_)
            · replace hm := if_t hm hb
              refine seqR ?_
              obtain ⟨hp3, hm⟩ := asrt_b hm
              obtain ⟨hp4, hm⟩ := asrt_b hm
              obtain ⟨hp5, hm⟩ := asrt_b hm
              refine at_run 5 [⟨true, [], vS (Instr.indexAt 85 (.pointer (some ⟨g5, 0, none⟩)) (.int .i64 (geti g3 z1))), .pointer (some ((⟨g5, 0, none⟩ : Addr).add (Int.toNat (geti g3 z1) * 1)))⟩, ⟨false, [], vS (Instr.loadAt 3 (.pointer (some ((⟨g5, 0, none⟩ : Addr).add (Int.toNat (geti g3 z1) * 1))))), .int .i64 (geti many1 (geti g3 z1))⟩, ⟨true, [], vS (Instr.indexAt 85 (.pointer (some ⟨g5, 0, none⟩)) (.int .i64 (geti g3 z1))), .pointer (some ((⟨g5, 0, none⟩ : Addr).add (Int.toNat (geti g3 z1) * 1)))⟩] [none, some (.pointer (some ((⟨g5, 0, none⟩ : Addr).add (Int.toNat (geti g3 z1) * 1)))), some (.int .i64 (geti many1 (geti g3 z1))), none, some (.pointer (some ((⟨g5, 0, none⟩ : Addr).add (Int.toNat (geti g3 z1) * 1))))] [1, 6, 7, 25, 26, 27, 37, 38] [pl 1 (.pointer (some ⟨g4, 0, none⟩)), pl 6 (.pointer (some ⟨g5, 0, none⟩)), pl 7 (.slice A2 (Int.toNat (g3.length : Int)) c2), pl 25 (.slice A1 g3.length c1), pl 26 (.int .i64 (g3.length : Int)), pl 27 (.int .i64 z1), pl 37 (.int .i64 (w64 ((geti many1 (geti g3 z1)) + 1))), pl 38 (.pointer (some ((⟨g5, 0, none⟩ : Addr).add (Int.toNat (geti g3 z1) * 1))))] hF hS (by kernel_rfl) (by kernel_rfl) ?_ (fun a w hF hS => ?_)
              · exact obs_cons (ob_ixA UndA85 hi3 hs3 (fun _ => hp3)) <| obs_cons (ob_getA (m := many1) (Value.int .i64) (0 : Int) 4 ([] : List Value) ([] : List Value) (geti g3 z1) Agg3 rfl (fun _ hS => ⟨_, _, _, _, _, hS.at_ 1 rfl⟩) (fun hy => by have h0 := hp3; omega)) <| obs_cons (ob_ixA UndA85 hi3 hs3 (fun _ => hp4)) <| obs_nil
              obtain ⟨w, hrun, hS⟩ := run_setA (P := Try.prog) (t := 3) (x := (w64 ((geti many1 (geti g3 z1)) + 1))) (i := (geti g3 z1)) (m := many1) (d := Int.toNat (geti g3 z1) * 1) (Value.int .i64) (0 : Int) 4 ([] : List Value) ([] : List Value) (hS.at_ 1 rfl) rfl hi3 hs3 rfl (by have h0 := hp4; omega) (by have h0 := hp4; have h9 := hp5; omega)
              refine at_skip hF (by kernel_rfl) hrun ?_
              have hS : Sep w0 B w (blk g4 24 #[.int .i64 g1, .int .i64 g2, .slice A1 g3.length c1] :: blk g5 85 (List.toArray (([] : List Value) ++ (arr1 (Value.int .i64) (0 : Int) 4 (many1.set (Int.toNat (geti g3 z1)) (w64 ((geti many1 (geti g3 z1)) + 1))) ++ ([] : List Value)))) :: own 4 (.slice A2 (Int.toNat (g3.length : Int)) c2) (vB done1) :: fs) := hS
              refine at_end [1, 6, 7, 25, 26, 27] [pl 1 (.pointer (some ⟨g4, 0, none⟩)), pl 6 (.pointer (some ⟨g5, 0, none⟩)), pl 7 (.slice A2 (Int.toNat (g3.length : Int)) c2), pl 25 (.slice A1 g3.length c1), pl 26 (.int .i64 (g3.length : Int)), pl 27 (.int .i64 z1)] hF rfl (by kernel_rfl) (fun hF => ?_)
              refine then_n ?_
              refine wpIn_exit ?_
              refine then_e (block_e (then_n ?_))
              exact ⟨(many1.set (Int.toNat (geti g3 z1)) (w64 ((geti many1 (geti g3 z1)) + 1))), done1, hF.weak [1, 6, 7, 25, 26, 27] (by kernel_rfl), hS, hm⟩
            · replace hm := if_f hm hb
              refine wpIn_skip ?_
              refine then_n ?_
              exact ⟨hF.weak [1, 6, 7, 8, 25, 26, 27] (by kernel_rfl), hS, hm⟩
      · refine cond_ev (t := 28) (b := decide (z1 < (g3.length : Int))) hF (by kernel_rfl) (fun hb => ?_) (fun hb => ?_)
        · replace hm := if_t hm hb
          refine wpIn_skip ?_
          refine then_n ?_
          exact ⟨hF.weak [1, 6, 7, 25, 26, 27] (by kernel_rfl), hS, hm⟩
        · replace hm := if_f hm hb
          refine wpIn_exit ?_
          refine then_e (then_e (block_e (then_n ?_)))
          have hS := hS.pickN 3 [1] (by decide)
          rw [← hφ1] at hm
          replace hm := done_b hm
          unfold stones_Areas_K1 at hm
          try dsimp only at hm
          have hm : (stones_Areas_J2 many1).bind some = some r := hm
          exact ⟨many1, hF.weak [6] (by kernel_rfl), hS, hm⟩
  · obtain ⟨r1, hr1, hm⟩ := call_b hm
    refine reg [⟨false, [], vS (Instr.loadAt 24 (.pointer (some ⟨g4, 0, none⟩))), .agg #[.int .i64 g1, .int .i64 g2, .slice A1 g3.length c1]⟩, ⟨false, [], callFunc 42 #[.agg #[.int .i64 g1, .int .i64 g2, .slice A1 g3.length c1]], .bool r1⟩] [some (.agg #[.int .i64 g1, .int .i64 g2, .slice A1 g3.length c1]), some (.bool r1), none] [1, 19] [pl 1 (.pointer (some ⟨g4, 0, none⟩)), pl 19 (.bool (!r1))] hF hS Fol (by kernel_rfl) (by kernel_rfl) (by kernel_rfl) ?_ (fun a w hF hS => ?_)
    · exact obs_cons (ob_loadA (cs := #[.int .i64 g1, .int .i64 g2, .slice A1 g3.length c1]) (by kernel_rfl) (by kernel_rfl) (fun _ _ hS => (hS.at_ 0 rfl).cellsAt 0 (by rfl))) <| obs_cons (ob_call Try.func42 (by kernel_rfl) rfl (fun _ _ hS => rows_May_w hr1 hS (fun _ hS => (hr_g3 _ (hS.dropN 1))) _hc_g3 rfl)) <| obs_nil
    refine cond_ev (t := 19) (b := !r1) hF (by kernel_rfl) (fun hb => ?_) (fun hb => ?_)
    · replace hm := if_t hm hb
      refine reg [] [] [2, 3, 4, 5] [pl 2 (.int .i64 0), pl 3 (.int .i64 0), pl 4 (.int .i64 0), pl 5 (.int .i64 12)] hF hS Fol (by kernel_rfl) (by kernel_rfl) (by kernel_rfl) ?_ (fun a w hF hS => ?_)
      · exact obs_nil
      refine wpIn_ret ?_
      refine then_r ?_
      have hS := hS.pickN 1 [] (by decide)
      have hm : some (0, 0, 0, 12) = some r := hm
      obtain rfl := Option.some.inj hm
      exact retV (rs := [.tmp 2, .tmp 3, .tmp 4, .tmp 5]) (vs := [.int .i64 0, .int .i64 0, .int .i64 0, .int .i64 12]) hF rfl (rv_t (by kernel_rfl) <| rv_t (by kernel_rfl) <| rv_t (by kernel_rfl) <| rv_t (by kernel_rfl) <| rv_nil) rfl ⟨rfl, hS⟩
    · replace hm := if_f hm hb
      refine wpIn_skip ?_
      refine then_n ?_
      exact ⟨hF.weak [1] (by kernel_rfl), hS, hm⟩

noncomputable def stones_Alive_1_m  (c1 : Int) (p11 : Int) : Option Bool :=
  some (c1 == p11)

set_option maxRecDepth 100000 in
set_option maxHeartbeats 4000000 in
theorem stones_Alive_1_w  {c1 : Int} {g1 : Nat} {p11 : Int} {r : Bool} {w0 w : World} {B : Nat} {fs : List HP} (hm : stones_Alive_1_m c1 p11 = some r) (hS : Sep w0 B w (blk g1 3 #[.int .i64 p11] :: fs)) :
    Calls Try.prog 47 #[.int .i64 c1, .pointer (some ⟨g1, 0, none⟩)] w fun e w' => e = .returned (.bool r) ∧ Sep w0 B w' (blk g1 3 #[.int .i64 p11] :: fs) := by
  unfold stones_Alive_1_m at hm
  replace hm := start_b hm
  refine enter (l := [.int .i64 c1, .pointer (some ⟨g1, 0, none⟩)]) (n := 7) Try.func47 rfl rfl (by simp) (fun a hF => ?_)
  refine reg [] [] [0, 1] [pl 0 (.int .i64 c1), pl 1 (.pointer (some ⟨g1, 0, none⟩))] hF hS Fol (by kernel_rfl) (by kernel_rfl) (by kernel_rfl) ?_ (fun a w hF hS => ?_)
  · exact obs_nil
  refine reg [⟨false, [], vS (Instr.loadAt 3 (.pointer (some ⟨g1, 0, none⟩))), .int .i64 p11⟩] [none, some (.int .i64 p11), none, none] [3] [pl 3 (.bool (c1 == p11))] hF hS Fol (by kernel_rfl) (by kernel_rfl) (by kernel_rfl) ?_ (fun a w hF hS => ?_)
  · exact obs_cons (ob_load Agg3 (fun _ _ hS => (hS.at_ 0 rfl).cell rfl)) <| obs_nil
  refine wpIn_ret ?_
  have hm : some (c1 == p11) = some r := hm
  obtain rfl := Option.some.inj hm
  exact retV (rs := [.tmp 3]) (vs := [.bool (c1 == p11)]) hF rfl (rv_t (by kernel_rfl) <| rv_nil) rfl ⟨rfl, hS⟩

noncomputable def stones_spread_2_J5  (z1 : Int) (in5 : List Int) (border5 : List Int) (seen4 : List Bool) : Option (St (List Int × List Int × List Bool × Int) (List Int × List Int × List Bool)) :=
  some (.next (in5, border5, seen4, (w64 (z1 + 1))))

noncomputable def stones_spread_2_J6  (g3 : List Int) (v1 : Int) (r1 : (List Int)) (in3 : List Int) (border3 : List Int) (seen2 : List Bool) (z1 : Int) : Option (St (List Int × List Int × List Bool × Int) (List Int × List Int × List Bool)) :=
  asrt (0 ≤ (geti r1 z1) ∧ (geti r1 z1) < (((Int.toNat (g3.length : Int)) : Nat) : Int)) <| asrt (0 ≤ (geti r1 z1) ∧ (geti r1 z1) < (g3.length : Int)) <| (stones_Alive_1_m (geti g3 (geti r1 z1)) v1).bind fun r2 => if r2 then (asrt ((in3.length : Int) + 1 ≤ bigN) <| (stones_spread_2_J5 z1) (in3 ++ ([geti r1 z1] : List Int)) border3 (seen2.set (Int.toNat (geti r1 z1)) true)) else (asrt ((border3.length : Int) + 1 ≤ bigN) <| (stones_spread_2_J5 z1) in3 (border3 ++ ([geti r1 z1] : List Int)) (seen2.set (Int.toNat (geti r1 z1)) true))

noncomputable def stones_spread_2_J4  (g3 : List Int) (v1 : Int) (r1 : (List Int)) (in3 : List Int) (border3 : List Int) (seen2 : List Bool) (z1 : Int) : Option (St (List Int × List Int × List Bool × Int) (List Int × List Int × List Bool)) :=
  asrt (0 ≤ z1 ∧ z1 < (r1.length : Int)) <| asrt (0 ≤ (geti r1 z1) ∧ (geti r1 z1) < (((Int.toNat (g3.length : Int)) : Nat) : Int)) <| if (getb seen2 (geti r1 z1)) then ((stones_spread_2_J5 z1) in3 border3 seen2) else ((stones_spread_2_J6 g3 v1 r1 in3 border3 seen2 z1))

noncomputable def stones_spread_2_J3  (i1 : Int) (in4 : List Int) (border4 : List Int) (seen3 : List Bool) : Option (St (List Int × List Int × List Bool × Int) (List Int × List Int)) :=
  some (.next (in4, border4, seen3, (w64 (i1 + 1))))

noncomputable def stones_spread_2_K2  (i1 : Int) : (List Int × List Int × List Bool) → Option (St (List Int × List Int × List Bool × Int) (List Int × List Int)) :=
  fun (x : (List Int × List Int × List Bool)) => match x with | (in4, border4, seen3) => (stones_spread_2_J3 i1) in4 border4 seen3

noncomputable def stones_spread_2_L2  (g3 : List Int) (v1 : Int) (r1 : (List Int)) : (List Int × List Int × List Bool × Int) → Option (St (List Int × List Int × List Bool × Int) (List Int × List Int × List Bool)) :=
  fun (x : (List Int × List Int × List Bool × Int)) => match x with | (in3, border3, seen2, z1) => if (decide (z1 < (r1.length : Int))) then ((stones_spread_2_J4 g3 v1 r1 in3 border3 seen2 z1)) else (some (.done (in3, border3, seen2)))

noncomputable def stones_spread_2_J2  (g1 : Int) (g2 : Int) (g3 : List Int) (v1 : Int) (in1 : List Int) (border1 : List Int) (seen1 : List Bool) (i1 : Int) : Option (St (List Int × List Int × List Bool × Int) (List Int × List Int)) :=
  asrt (0 ≤ i1 ∧ i1 < (in1.length : Int)) <| (stones_near_m g1 g2 g3 (geti in1 i1)).bind fun r1 => (loop (stones_spread_2_L2 g3 v1 r1) (in1, border1, seen1, 0)).bind (stones_spread_2_K2 i1)

noncomputable def stones_spread_2_J1  (in2 : List Int) (border2 : List Int) : Option (List Int × List Int) :=
  (slices_Sort_2_m in2).bind fun r3 => (slices_Sort_2_m border2).bind fun r4 => some (r3, r4)

noncomputable def stones_spread_2_K1  : (List Int × List Int) → Option (List Int × List Int) :=
  fun (x : (List Int × List Int)) => match x with | (in2, border2) => stones_spread_2_J1 in2 border2

noncomputable def stones_spread_2_L1  (g1 : Int) (g2 : Int) (g3 : List Int) (v1 : Int) : (List Int × List Int × List Bool × Int) → Option (St (List Int × List Int × List Bool × Int) (List Int × List Int)) :=
  fun (x : (List Int × List Int × List Bool × Int)) => match x with | (in1, border1, seen1, i1) => if (decide (i1 < (in1.length : Int))) then ((stones_spread_2_J2 g1 g2 g3 v1 in1 border1 seen1 i1)) else (some (.done (in1, border1)))

noncomputable def stones_spread_2_m  (g1 : Int) (g2 : Int) (g3 : List Int) (from1 : Int) (v1 : Int) : Option (List Int × List Int) :=
  asrt ((0 : Int) ≤ (g3.length : Int) ∧ (g3.length : Int) ≤ bigN) <| asrt (0 ≤ from1 ∧ from1 < (((Int.toNat (g3.length : Int)) : Nat) : Int)) <| (loop (stones_spread_2_L1 g1 g2 g3 v1) (([from1] : List Int), ([] : List Int), ((List.replicate (Int.toNat (g3.length : Int)) false).set (Int.toNat from1) true), 0)).bind stones_spread_2_K1

set_option maxRecDepth 100000 in
set_option maxHeartbeats 4000000 in
theorem stones_spread_2_w  {g1 : Int} {g2 : Int} {A1 : Option Addr} {c1 : Nat} {n1 : Nat} {g3 : List Int} {from1 : Int} {g4 : Nat} {v1 : Int} {r : (List Int × List Int)} {w0 w : World} {B : Nat} {fs : List HP} (hm : stones_spread_2_m g1 g2 g3 from1 v1 = some r) (hS : Sep w0 B w (blk g4 3 #[.int .i64 v1] :: fs)) (hr_g3 : RdF w0 B fs A1 (vI g3)) (_hc_g3 : g3.length ≤ c1) (_hn_g3 : n1 = g3.length) :
    Calls Try.prog 43 #[.agg #[.int .i64 g1, .int .i64 g2, .slice A1 n1 c1], .int .i64 from1, .func (.func 47) #[] #[.pointer (some ⟨g4, 0, none⟩)]] w fun e w' => ∃ v, e = .returned v ∧ ∃ (A16 : Option Addr) (c16 : Nat) (A17 : Option Addr) (c17 : Nat), v = .tuple #[.slice A16 r.1.length c16, .slice A17 r.2.length c17] ∧ Sep w0 B w' (blk g4 3 #[.int .i64 v1] :: own 3 (.slice A16 r.1.length c16) (vI r.1) :: own 3 (.slice A17 r.2.length c17) (vI r.2) :: fs) := by
  obtain ⟨i3, hi3, hz3, hs3, hb3⟩ := info_parts Info3
  obtain ⟨i4, hi4, hz4, hs4, hb4⟩ := info_parts Info4
  obtain rfl := _hn_g3
  unfold stones_spread_2_m at hm
  replace hm := start_b hm
  refine enter (l := [.agg #[.int .i64 g1, .int .i64 g2, .slice A1 g3.length c1], .int .i64 from1, .func (.func 47) #[] #[.pointer (some ⟨g4, 0, none⟩)]]) (n := 67) Try.func43 rfl rfl (by simp) (fun a hF => ?_)
  refine seqR ?_
  refine at_do (d := 3) (s := vS (Instr.box 24 (.agg #[.int .i64 g1, .int .i64 g2, .slice A1 g3.length c1]))) (v := .pointer (some ⟨w.heap.size, 0, none⟩)) (w' := w.alloc (.cells #[.int .i64 g1, .int .i64 g2, .slice A1 g3.length c1] 24)) hF (by kernel_rfl) (by kernel_rfl) (by kernel_rfl) (fun a hF => ?_)
  have hS : Sep w0 B (w.alloc (.cells #[.int .i64 g1, .int .i64 g2, .slice A1 g3.length c1] 24)) (blk w.heap.size 24 #[.int .i64 g1, .int .i64 g2, .slice A1 g3.length c1] :: (blk g4 3 #[.int .i64 v1] :: fs)) := hS.box 24 #[.int .i64 g1, .int .i64 g2, .slice A1 g3.length c1]
  generalize w.heap.size = g5 at hF hS
  generalize w.alloc (.cells #[.int .i64 g1, .int .i64 g2, .slice A1 g3.length c1] 24) = w at hS ⊢
  refine at_run 2 [] [] [1, 2, 3, 7] [pl 1 (.int .i64 from1), pl 2 (.func (.func 47) #[] #[.pointer (some ⟨g4, 0, none⟩)]), pl 3 (.pointer (some ⟨g5, 0, none⟩)), pl 7 (.slice none 0 0)] hF hS (by kernel_rfl) (by kernel_rfl) ?_ (fun a w hF hS => ?_)
  · exact obs_nil
  refine at_end [1, 2, 3, 7] [pl 1 (.int .i64 from1), pl 2 (.func (.func 47) #[] #[.pointer (some ⟨g4, 0, none⟩)]), pl 3 (.pointer (some ⟨g5, 0, none⟩)), pl 7 (.slice none 0 0)] hF rfl (by kernel_rfl) (fun hF => ?_)
  refine then_n ?_
  refine seqR ?_
  obtain ⟨hp1, hm⟩ := asrt_b hm
  refine at_run 3 [⟨false, [], vS (Instr.loadAt 22 (.pointer (some ⟨g5, 2, none⟩))), .slice A1 g3.length c1⟩] [none, some (.slice A1 g3.length c1), none] [1, 2, 3, 7, 14] [pl 1 (.int .i64 from1), pl 2 (.func (.func 47) #[] #[.pointer (some ⟨g4, 0, none⟩)]), pl 3 (.pointer (some ⟨g5, 0, none⟩)), pl 7 (.slice none 0 0), pl 14 (.int .i64 (g3.length : Int))] hF hS (by kernel_rfl) (by kernel_rfl) ?_ (fun a w hF hS => ?_)
  · exact obs_cons (ob_load Agg22 (fun _ _ hS => (hS.at_ 0 rfl).cell rfl)) <| obs_nil
  obtain ⟨A2, c2, w, hrun, hS⟩ := run_mk1 (P := Try.prog) (t := 86) Value.bool false hS .i64 .i64 Und86 hi4 hz4 hs4 (by omega) rfl hp1
  have hS : Sep w0 B w (own 4 (.slice A2 (Int.toNat (g3.length : Int)) c2) (vB (List.replicate (Int.toNat (g3.length : Int)) false)) :: blk g5 24 #[.int .i64 g1, .int .i64 g2, .slice A1 g3.length c1] :: blk g4 3 #[.int .i64 v1] :: fs) := hS
  refine at_do (d := 15) hF (by kernel_rfl) (by kernel_rfl) hrun (fun a hF => ?_)
  refine at_run 1 [] [] [1, 2, 3, 7, 8] [pl 1 (.int .i64 from1), pl 2 (.func (.func 47) #[] #[.pointer (some ⟨g4, 0, none⟩)]), pl 3 (.pointer (some ⟨g5, 0, none⟩)), pl 7 (.slice none 0 0), pl 8 (.slice A2 (Int.toNat (g3.length : Int)) c2)] hF hS (by kernel_rfl) (by kernel_rfl) ?_ (fun a w hF hS => ?_)
  · exact obs_nil
  refine at_end [1, 2, 3, 7, 8] [pl 1 (.int .i64 from1), pl 2 (.func (.func 47) #[] #[.pointer (some ⟨g4, 0, none⟩)]), pl 3 (.pointer (some ⟨g5, 0, none⟩)), pl 7 (.slice none 0 0), pl 8 (.slice A2 (Int.toNat (g3.length : Int)) c2)] hF rfl (by kernel_rfl) (fun hF => ?_)
  refine then_n ?_
  refine seqR ?_
  obtain ⟨hp2, hm⟩ := asrt_b hm
  refine at_run 3 [⟨true, [], vS (Instr.indexAt 86 (.slice A2 (Int.toNat (g3.length : Int)) c2) (.int .i64 from1)), .pointer (some (sAddr A2 from1))⟩] [none, none, some (.pointer (some (sAddr A2 from1)))] [1, 2, 3, 7, 8, 18] [pl 1 (.int .i64 from1), pl 2 (.func (.func 47) #[] #[.pointer (some ⟨g4, 0, none⟩)]), pl 3 (.pointer (some ⟨g5, 0, none⟩)), pl 7 (.slice none 0 0), pl 8 (.slice A2 (Int.toNat (g3.length : Int)) c2), pl 18 (.pointer (some (sAddr A2 from1)))] hF hS (by kernel_rfl) (by kernel_rfl) ?_ (fun a w hF hS => ?_)
  · exact obs_cons (ob_ix1 (f := Value.bool) (m := (List.replicate (Int.toNat (g3.length : Int)) false)) Und86 hi4 hs4 (hS.at_ 0 rfl).rd ((hS.at_ 0 rfl).len1) (fun _ => hp2)) <| obs_nil
  obtain ⟨w, hrun, hS⟩ := run_set1 (P := Try.prog) (t := 4) (x := true) Value.bool (hS.at_ 0 rfl) hi4 hs4 rfl rfl hp2
  refine at_skip hF (by kernel_rfl) hrun ?_
  have hS : Sep w0 B w (own 4 (.slice A2 (Int.toNat (g3.length : Int)) c2) (vB ((List.replicate (Int.toNat (g3.length : Int)) false).set (Int.toNat from1) true)) :: blk g5 24 #[.int .i64 g1, .int .i64 g2, .slice A1 g3.length c1] :: blk g4 3 #[.int .i64 v1] :: fs) := hS
  refine at_end [1, 2, 3, 7, 8] [pl 1 (.int .i64 from1), pl 2 (.func (.func 47) #[] #[.pointer (some ⟨g4, 0, none⟩)]), pl 3 (.pointer (some ⟨g5, 0, none⟩)), pl 7 (.slice none 0 0), pl 8 (.slice A2 (Int.toNat (g3.length : Int)) c2)] hF rfl (by kernel_rfl) (fun hF => ?_)
  refine then_n ?_
  refine seqR ?_
  refine at_run 1 [] [] [2, 3, 7, 8, 19] [pl 2 (.func (.func 47) #[] #[.pointer (some ⟨g4, 0, none⟩)]), pl 3 (.pointer (some ⟨g5, 0, none⟩)), pl 7 (.slice none 0 0), pl 8 (.slice A2 (Int.toNat (g3.length : Int)) c2), pl 19 (.int .i64 from1)] hF hS (by kernel_rfl) (by kernel_rfl) ?_ (fun a w hF hS => ?_)
  · exact obs_nil
  refine at_do (d := 20) (s := vS (Instr.buildSlice 22 1 #[(0, .int .i64 from1)])) (v := .slice (some ⟨w.heap.size, 0, none⟩) 1 1) (w' := w.alloc (.cells #[.int .i64 from1] 3)) hF (by kernel_rfl) (by kernel_rfl) (by kernel_rfl) (fun a hF => ?_)
  have hS : Sep w0 B (w.alloc (.cells #[.int .i64 from1] 3)) (own 3 (.slice (some (⟨w.heap.size, 0, none⟩ : Addr)) 1 1) (vI ([from1] : List Int)) :: (own 4 (.slice A2 (Int.toNat (g3.length : Int)) c2) (vB ((List.replicate (Int.toNat (g3.length : Int)) false).set (Int.toNat from1) true)) :: blk g5 24 #[.int .i64 g1, .int .i64 g2, .slice A1 g3.length c1] :: blk g4 3 #[.int .i64 v1] :: fs)) := hS.lit 3 #[.int .i64 from1] 1 rfl (by omega)
  generalize (some (⟨w.heap.size, 0, none⟩ : Addr)) = g6 at hF hS
  generalize w.alloc (.cells #[.int .i64 from1] 3) = w at hS ⊢
  refine at_run 1 [] [] [2, 3, 6, 7, 8] [pl 2 (.func (.func 47) #[] #[.pointer (some ⟨g4, 0, none⟩)]), pl 3 (.pointer (some ⟨g5, 0, none⟩)), pl 6 (.slice g6 1 1), pl 7 (.slice none 0 0), pl 8 (.slice A2 (Int.toNat (g3.length : Int)) c2)] hF hS (by kernel_rfl) (by kernel_rfl) ?_ (fun a w hF hS => ?_)
  · exact obs_nil
  refine at_end [2, 3, 6, 7, 8] [pl 2 (.func (.func 47) #[] #[.pointer (some ⟨g4, 0, none⟩)]), pl 3 (.pointer (some ⟨g5, 0, none⟩)), pl 6 (.slice g6 1 1), pl 7 (.slice none 0 0), pl 8 (.slice A2 (Int.toNat (g3.length : Int)) c2)] hF rfl (by kernel_rfl) (fun hF => ?_)
  refine then_n ?_
  refine seq_cut (fun a w => ∃ (in2 : List Int) (border2 : List Int) (A5 : Option Addr) (c5 : Nat) (A6 : Option Addr) (c6 : Nat), Fr 67 [pl 6 (.slice A5 in2.length c5), pl 7 (.slice A6 border2.length c6)] a ∧ Sep w0 B w (own 3 (.slice A5 in2.length c5) (vI in2) :: own 3 (.slice A6 border2.length c6) (vI border2) :: blk g4 3 #[.int .i64 v1] :: fs) ∧ (stones_spread_2_J1 in2 border2).bind some = some r) ?_ ?_
  · rintro a w ⟨in2, border2, A5, c5, A6, c6, hF, hS, hm⟩
    unfold stones_spread_2_J1 at hm
    refine seqR ?_
    obtain ⟨r3, hr3, hm⟩ := call_b hm
    refine at_run 1 [] [] [6, 7, 61] [pl 6 (.slice A5 in2.length c5), pl 7 (.slice A6 border2.length c6), pl 61 (.slice A5 in2.length c5)] hF hS (by kernel_rfl) (by kernel_rfl) ?_ (fun a w hF hS => ?_)
    · exact obs_nil
    refine at_call (f := 53) (args := #[.slice A5 in2.length c5]) (d := 62) hF (by kernel_rfl) (by kernel_rfl) Try.func53 (by kernel_rfl) rfl (slices_Sort_2_w hr3 hS ) (fun v a w hR hF => ?_)
    clear hS
    obtain ⟨rfl, hS⟩ := hR
    have hS : Sep w0 B w (own 3 (.slice A5 in2.length c5) (vI r3) :: own 3 (.slice A6 border2.length c6) (vI border2) :: blk g4 3 #[.int .i64 v1] :: fs) := hS
    refine at_end [6, 7] [pl 6 (.slice A5 in2.length c5), pl 7 (.slice A6 border2.length c6)] hF rfl (by kernel_rfl) (fun hF => ?_)
    refine then_n ?_
    refine seqR ?_
    obtain ⟨r4, hr4, hm⟩ := call_b hm
    refine at_run 1 [] [] [6, 7, 63] [pl 6 (.slice A5 in2.length c5), pl 7 (.slice A6 border2.length c6), pl 63 (.slice A6 border2.length c6)] hF hS (by kernel_rfl) (by kernel_rfl) ?_ (fun a w hF hS => ?_)
    · exact obs_nil
    have hS : Sep w0 B w (own 3 (.slice A6 border2.length c6) (vI border2) :: own 3 (.slice A5 in2.length c5) (vI r3) :: blk g4 3 #[.int .i64 v1] :: fs) := hS.pickN 3 [1, 0, 2] (by decide)
    refine at_call (f := 53) (args := #[.slice A6 border2.length c6]) (d := 64) hF (by kernel_rfl) (by kernel_rfl) Try.func53 (by kernel_rfl) rfl (slices_Sort_2_w hr4 hS ) (fun v a w hR hF => ?_)
    clear hS
    obtain ⟨rfl, hS⟩ := hR
    have hS : Sep w0 B w (own 3 (.slice A6 border2.length c6) (vI r4) :: own 3 (.slice A5 in2.length c5) (vI r3) :: blk g4 3 #[.int .i64 v1] :: fs) := hS
    refine at_end [6, 7] [pl 6 (.slice A5 in2.length c5), pl 7 (.slice A6 border2.length c6)] hF rfl (by kernel_rfl) (fun hF => ?_)
    refine then_n ?_
    refine reg [] [] [6, 7] [pl 6 (.slice A5 in2.length c5), pl 7 (.slice A6 border2.length c6)] hF hS Fol (by kernel_rfl) (by kernel_rfl) (by kernel_rfl) ?_ (fun a w hF hS => ?_)
    · exact obs_nil
    refine wpIn_ret ?_
    have hl3 := (hS.at_ 1 rfl).len1
    have hS := (hS.at_ 1 rfl).reN hl3
    have hS : Sep w0 B w (own 3 (.slice A6 border2.length c6) (vI r4) :: own 3 (.slice A5 r3.length c5) (vI r3) :: blk g4 3 #[.int .i64 v1] :: fs) := hS
    have hF := hF.cast (t := 6) (v := .slice A5 in2.length c5) (v' := .slice A5 r3.length c5) rfl rfl (congrArg (fun k => Value.slice A5 k c5) hl3)
    have hl4 := (hS.at_ 0 rfl).len1
    have hS := (hS.at_ 0 rfl).reN hl4
    have hS : Sep w0 B w (own 3 (.slice A6 r4.length c6) (vI r4) :: own 3 (.slice A5 r3.length c5) (vI r3) :: blk g4 3 #[.int .i64 v1] :: fs) := hS
    have hF := hF.cast (t := 7) (v := .slice A6 border2.length c6) (v' := .slice A6 r4.length c6) rfl rfl (congrArg (fun k => Value.slice A6 k c6) hl4)
    have hS := hS.pickN 3 [2, 1, 0] (by decide)
    have hm : some (r3, r4) = some r := hm
    obtain rfl := Option.some.inj hm
    exact retV (rs := [.tmp 6, .tmp 7]) (vs := [.slice A5 r3.length c5, .slice A6 r4.length c6]) hF rfl (rv_t (by kernel_rfl) <| rv_t (by kernel_rfl) <| rv_nil) rfl ⟨_, rfl, A5, c5, A6, c6, rfl, hS⟩
  · refine reg [] [] [2, 3, 6, 7, 8, 9] [pl 2 (.func (.func 47) #[] #[.pointer (some ⟨g4, 0, none⟩)]), pl 3 (.pointer (some ⟨g5, 0, none⟩)), pl 6 (.slice g6 1 1), pl 7 (.slice none 0 0), pl 8 (.slice A2 (Int.toNat (g3.length : Int)) c2), pl 9 (.int .i64 0)] hF hS Fol (by kernel_rfl) (by kernel_rfl) (by kernel_rfl) ?_ (fun a w hF hS => ?_)
    · exact obs_nil
    refine wpIn_block ?_
    have hl1 := (hS.at_ 0 rfl).len1
    have hS := (hS.at_ 0 rfl).reN hl1
    have hS : Sep w0 B w (own 3 (.slice g6 (([from1] : List Int).length) 1) (vI ([from1] : List Int)) :: own 4 (.slice A2 (Int.toNat (g3.length : Int)) c2) (vB ((List.replicate (Int.toNat (g3.length : Int)) false).set (Int.toNat from1) true)) :: blk g5 24 #[.int .i64 g1, .int .i64 g2, .slice A1 g3.length c1] :: blk g4 3 #[.int .i64 v1] :: fs) := hS
    have hF := hF.cast (t := 6) (v := .slice g6 1 1) (v' := .slice g6 (([from1] : List Int).length) 1) rfl rfl (congrArg (fun k => Value.slice g6 k 1) hl1)
    have hS : Sep w0 B w (own 3 (.slice none 0 0) (vI ([] : List Int)) :: own 3 (.slice g6 (([from1] : List Int).length) 1) (vI ([from1] : List Int)) :: own 4 (.slice A2 (Int.toNat (g3.length : Int)) c2) (vB ((List.replicate (Int.toNat (g3.length : Int)) false).set (Int.toNat from1) true)) :: blk g5 24 #[.int .i64 g1, .int .i64 g2, .slice A1 g3.length c1] :: blk g4 3 #[.int .i64 v1] :: fs) := hS.nil 3
    have hl2 := (hS.at_ 0 rfl).len1
    have hS := (hS.at_ 0 rfl).reN hl2
    have hS : Sep w0 B w (own 3 (.slice none (([] : List Int).length) 0) (vI ([] : List Int)) :: own 3 (.slice g6 (([from1] : List Int).length) 1) (vI ([from1] : List Int)) :: own 4 (.slice A2 (Int.toNat (g3.length : Int)) c2) (vB ((List.replicate (Int.toNat (g3.length : Int)) false).set (Int.toNat from1) true)) :: blk g5 24 #[.int .i64 g1, .int .i64 g2, .slice A1 g3.length c1] :: blk g4 3 #[.int .i64 v1] :: fs) := hS
    have hF := hF.cast (t := 7) (v := .slice none 0 0) (v' := .slice none (([] : List Int).length) 0) rfl rfl (congrArg (fun k => Value.slice none k 0) hl2)
    have hS := hS.pickN 5 [4, 3, 1, 0, 2] (by decide)
    refine wp_loop_model (S := (List Int × List Int × List Bool × Int)) (R := (List Int × List Int)) (stones_spread_2_L1 g1 g2 g3 v1) (fun x => (stones_spread_2_K1 x).bind some) r (fun (x : (List Int × List Int × List Bool × Int)) a w => ∃ (A3 : Option Addr) (c3 : Nat) (A4 : Option Addr) (c4 : Nat), Fr 67 [pl 2 (.func (.func 47) #[] #[.pointer (some ⟨g4, 0, none⟩)]), pl 3 (.pointer (some ⟨g5, 0, none⟩)), pl 6 (.slice A3 x.1.length c3), pl 7 (.slice A4 x.2.1.length c4), pl 8 (.slice A2 (Int.toNat (g3.length : Int)) c2), pl 9 (.int .i64 x.2.2.2)] a ∧ Sep w0 B w (blk g4 3 #[.int .i64 v1] :: blk g5 24 #[.int .i64 g1, .int .i64 g2, .slice A1 g3.length c1] :: own 3 (.slice A3 x.1.length c3) (vI x.1) :: own 3 (.slice A4 x.2.1.length c4) (vI x.2.1) :: own 4 (.slice A2 (Int.toNat (g3.length : Int)) c2) (vB x.2.2.1) :: fs)) (assoc_b hm) ⟨g6, 1, none, 0, hF.weak [2, 3, 6, 7, 8, 9] (by kernel_rfl), hS⟩ ?_
    clear hF hS hm
    rintro nn1 ⟨in1, border1, seen1, i1⟩ a w ⟨A3, c3, A4, c4, hF, hS⟩ hm
    generalize hφ1 : stK (stones_spread_2_L1 g1 g2 g3 v1) nn1 (fun x => (stones_spread_2_K1 x).bind some) = φ1 at hm
    unfold stones_spread_2_L1 at hm
    dsimp only at hF hS hm
    refine seq_cut (fun a w => Fr 67 [pl 2 (.func (.func 47) #[] #[.pointer (some ⟨g4, 0, none⟩)]), pl 3 (.pointer (some ⟨g5, 0, none⟩)), pl 6 (.slice A3 in1.length c3), pl 7 (.slice A4 border1.length c4), pl 8 (.slice A2 (Int.toNat (g3.length : Int)) c2), pl 9 (.int .i64 i1)] a ∧ Sep w0 B w (blk g4 3 #[.int .i64 v1] :: blk g5 24 #[.int .i64 g1, .int .i64 g2, .slice A1 g3.length c1] :: own 3 (.slice A3 in1.length c3) (vI in1) :: own 3 (.slice A4 border1.length c4) (vI border1) :: own 4 (.slice A2 (Int.toNat (g3.length : Int)) c2) (vB seen1) :: fs) ∧ ((stones_spread_2_J2 g1 g2 g3 v1 in1 border1 seen1 i1)).bind φ1 = some r) ?_ ?_
    · rintro a w ⟨hF, hS, hm⟩
      unfold stones_spread_2_J2 at hm
      refine seq_cut (fun a w => ∃ (in4 : List Int) (border4 : List Int) (seen3 : List Bool) (A10 : Option Addr) (c10 : Nat) (A11 : Option Addr) (c11 : Nat), Fr 67 [pl 2 (.func (.func 47) #[] #[.pointer (some ⟨g4, 0, none⟩)]), pl 3 (.pointer (some ⟨g5, 0, none⟩)), pl 6 (.slice A10 in4.length c10), pl 7 (.slice A11 border4.length c11), pl 8 (.slice A2 (Int.toNat (g3.length : Int)) c2), pl 9 (.int .i64 i1)] a ∧ Sep w0 B w (blk g4 3 #[.int .i64 v1] :: blk g5 24 #[.int .i64 g1, .int .i64 g2, .slice A1 g3.length c1] :: own 3 (.slice A10 in4.length c10) (vI in4) :: own 3 (.slice A11 border4.length c11) (vI border4) :: own 4 (.slice A2 (Int.toNat (g3.length : Int)) c2) (vB seen3) :: fs) ∧ ((stones_spread_2_J3 i1) in4 border4 seen3).bind φ1 = some r) ?_ ?_
      · rintro a w ⟨in4, border4, seen3, A10, c10, A11, c11, hF, hS, hm⟩
        unfold stones_spread_2_J3 at hm
        refine reg1 [] [] [2, 3, 6, 7, 8, 9] [pl 2 (.func (.func 47) #[] #[.pointer (some ⟨g4, 0, none⟩)]), pl 3 (.pointer (some ⟨g5, 0, none⟩)), pl 6 (.slice A10 in4.length c10), pl 7 (.slice A11 border4.length c11), pl 8 (.slice A2 (Int.toNat (g3.length : Int)) c2), pl 9 (.int .i64 (w64 (i1 + 1)))] hF hS Fol (by kernel_rfl) (by kernel_rfl) (by kernel_rfl) ?_ (fun a w hF hS => ?_)
        · exact obs_nil
        refine then_n ?_
        rw [← hφ1] at hm
        exact ⟨(in4, border4, seen3, (w64 (i1 + 1))), ⟨A10, c10, A11, c11, hF.weak [2, 3, 6, 7, 8, 9] (by kernel_rfl), hS⟩, hm⟩
      · refine wpIn_block ?_
        refine wpIn_seq ?_
        obtain ⟨hp3, hm⟩ := asrt_b hm
        obtain ⟨r1, hr1, hm⟩ := call_b hm
        refine regMix4 [0, 1, 2, 3, 4, 7] [5, 6] [⟨false, [], vS (Instr.loadAt 24 (.pointer (some ⟨g5, 0, none⟩))), .agg #[.int .i64 g1, .int .i64 g2, .slice A1 g3.length c1]⟩, ⟨true, [], vS (Instr.indexAt 22 (.slice A3 in1.length c3) (.int .i64 i1)), .pointer (some (sAddr A3 i1))⟩, ⟨false, [], vS (Instr.loadAt 3 (.pointer (some (sAddr A3 i1)))), .int .i64 (geti in1 i1)⟩] [some (.agg #[.int .i64 g1, .int .i64 g2, .slice A1 g3.length c1]), none, none, some (.pointer (some (sAddr A3 i1))), some (.int .i64 (geti in1 i1)), none] [2, 3, 6, 7, 8, 9, 27, 31, 34] [pl 2 (.func (.func 47) #[] #[.pointer (some ⟨g4, 0, none⟩)]), pl 3 (.pointer (some ⟨g5, 0, none⟩)), pl 6 (.slice A3 in1.length c3), pl 7 (.slice A4 border1.length c4), pl 8 (.slice A2 (Int.toNat (g3.length : Int)) c2), pl 9 (.int .i64 i1), pl 27 (.agg #[.int .i64 g1, .int .i64 g2, .slice A1 g3.length c1]), pl 31 (.int .i64 (geti in1 i1)), pl 34 (.int .i64 0)] hF hS Fol (by kernel_rfl) (by kernel_rfl) (by kernel_rfl) (by kernel_rfl) (by kernel_rfl) ?_ (fun a w hF hS => ?_)
        · exact obs_cons (ob_loadA (cs := #[.int .i64 g1, .int .i64 g2, .slice A1 g3.length c1]) (by kernel_rfl) (by kernel_rfl) (fun _ _ hS => (hS.at_ 1 rfl).cellsAt 0 (by rfl))) <| obs_cons (ob_ix1 (f := (Value.int .i64)) (m := in1) Und22 hi3 hs3 (hS.at_ 2 rfl).rd rfl (fun _ => hp3)) <| obs_cons (ob_get1 (n := in1.length) (m := in1) (Value.int .i64) (0 : Int) Agg3 (fun _ hS => ⟨_, (hS.at_ 2 rfl).rd⟩) (fun _ hS => rfl) (fun _ => hp3)) <| obs_nil
        refine at_call (f := 106) (args := #[.agg #[.int .i64 g1, .int .i64 g2, .slice A1 g3.length c1], .int .i64 (geti in1 i1)]) (d := 32) hF (by kernel_rfl) (by kernel_rfl) Try.func106 (by kernel_rfl) rfl (stones_near_w hr1 hS (fun _ hS => (hr_g3 _ (hS.dropN 5))) _hc_g3 rfl) (fun v a w hR hF => ?_)
        clear hS
        obtain ⟨A7, c7, rfl, hS⟩ := hR
        have hS : Sep w0 B w (own 3 (.slice A7 r1.length c7) (vI r1) :: blk g4 3 #[.int .i64 v1] :: blk g5 24 #[.int .i64 g1, .int .i64 g2, .slice A1 g3.length c1] :: own 3 (.slice A3 in1.length c3) (vI in1) :: own 3 (.slice A4 border1.length c4) (vI border1) :: own 4 (.slice A2 (Int.toNat (g3.length : Int)) c2) (vB seen1) :: fs) := hS
        refine at_run 1 [] [] [2, 3, 6, 7, 8, 9, 32, 33, 34] [pl 2 (.func (.func 47) #[] #[.pointer (some ⟨g4, 0, none⟩)]), pl 3 (.pointer (some ⟨g5, 0, none⟩)), pl 6 (.slice A3 in1.length c3), pl 7 (.slice A4 border1.length c4), pl 8 (.slice A2 (Int.toNat (g3.length : Int)) c2), pl 9 (.int .i64 i1), pl 32 (.slice A7 r1.length c7), pl 33 (.int .i64 (r1.length : Int)), pl 34 (.int .i64 0)] hF hS (by kernel_rfl) (by kernel_rfl) ?_ (fun a w hF hS => ?_)
        · exact obs_nil
        refine at_end [2, 3, 6, 7, 8, 9, 32, 33, 34] [pl 2 (.func (.func 47) #[] #[.pointer (some ⟨g4, 0, none⟩)]), pl 3 (.pointer (some ⟨g5, 0, none⟩)), pl 6 (.slice A3 in1.length c3), pl 7 (.slice A4 border1.length c4), pl 8 (.slice A2 (Int.toNat (g3.length : Int)) c2), pl 9 (.int .i64 i1), pl 32 (.slice A7 r1.length c7), pl 33 (.int .i64 (r1.length : Int)), pl 34 (.int .i64 0)] hF rfl (by kernel_rfl) (fun hF => ?_)
        refine np_n ?_
        refine then_n ?_
        refine wpIn_block ?_
        have hS := hS.pickN 6 [1, 2, 3, 4, 5, 0] (by decide)
        refine wp_loop_model (S := (List Int × List Int × List Bool × Int)) (R := (List Int × List Int × List Bool)) (stones_spread_2_L2 g3 v1 r1) (fun x => ((stones_spread_2_K2 i1) x).bind φ1) r (fun (x : (List Int × List Int × List Bool × Int)) a w => ∃ (A8 : Option Addr) (c8 : Nat) (A9 : Option Addr) (c9 : Nat), Fr 67 [pl 2 (.func (.func 47) #[] #[.pointer (some ⟨g4, 0, none⟩)]), pl 3 (.pointer (some ⟨g5, 0, none⟩)), pl 6 (.slice A8 x.1.length c8), pl 7 (.slice A9 x.2.1.length c9), pl 8 (.slice A2 (Int.toNat (g3.length : Int)) c2), pl 9 (.int .i64 i1), pl 32 (.slice A7 r1.length c7), pl 33 (.int .i64 (r1.length : Int)), pl 34 (.int .i64 x.2.2.2)] a ∧ Sep w0 B w (blk g4 3 #[.int .i64 v1] :: blk g5 24 #[.int .i64 g1, .int .i64 g2, .slice A1 g3.length c1] :: own 3 (.slice A8 x.1.length c8) (vI x.1) :: own 3 (.slice A9 x.2.1.length c9) (vI x.2.1) :: own 4 (.slice A2 (Int.toNat (g3.length : Int)) c2) (vB x.2.2.1) :: own 3 (.slice A7 r1.length c7) (vI r1) :: fs)) (assoc_b hm) ⟨A3, c3, A4, c4, hF.weak [2, 3, 6, 7, 8, 9, 32, 33, 34] (by kernel_rfl), hS⟩ ?_
        clear hF hS hm
        rintro nn2 ⟨in3, border3, seen2, z1⟩ a w ⟨A8, c8, A9, c9, hF, hS⟩ hm
        generalize hφ2 : stK (stones_spread_2_L2 g3 v1 r1) nn2 (fun x => ((stones_spread_2_K2 i1) x).bind φ1) = φ2 at hm
        unfold stones_spread_2_L2 at hm
        dsimp only at hF hS hm
        refine reg [] [] [2, 3, 6, 7, 8, 9, 32, 33, 34, 35] [pl 2 (.func (.func 47) #[] #[.pointer (some ⟨g4, 0, none⟩)]), pl 3 (.pointer (some ⟨g5, 0, none⟩)), pl 6 (.slice A8 in3.length c8), pl 7 (.slice A9 border3.length c9), pl 8 (.slice A2 (Int.toNat (g3.length : Int)) c2), pl 9 (.int .i64 i1), pl 32 (.slice A7 r1.length c7), pl 33 (.int .i64 (r1.length : Int)), pl 34 (.int .i64 z1), pl 35 (.bool (decide (z1 < (r1.length : Int))))] hF hS Fol (by kernel_rfl) (by kernel_rfl) (by kernel_rfl) ?_ (fun a w hF hS => ?_)
        · exact obs_nil
        refine seq_cut (fun a w => Fr 67 [pl 2 (.func (.func 47) #[] #[.pointer (some ⟨g4, 0, none⟩)]), pl 3 (.pointer (some ⟨g5, 0, none⟩)), pl 6 (.slice A8 in3.length c8), pl 7 (.slice A9 border3.length c9), pl 8 (.slice A2 (Int.toNat (g3.length : Int)) c2), pl 9 (.int .i64 i1), pl 32 (.slice A7 r1.length c7), pl 33 (.int .i64 (r1.length : Int)), pl 34 (.int .i64 z1)] a ∧ Sep w0 B w (blk g4 3 #[.int .i64 v1] :: blk g5 24 #[.int .i64 g1, .int .i64 g2, .slice A1 g3.length c1] :: own 3 (.slice A8 in3.length c8) (vI in3) :: own 3 (.slice A9 border3.length c9) (vI border3) :: own 4 (.slice A2 (Int.toNat (g3.length : Int)) c2) (vB seen2) :: own 3 (.slice A7 r1.length c7) (vI r1) :: fs) ∧ ((stones_spread_2_J4 g3 v1 r1 in3 border3 seen2 z1)).bind φ2 = some r) ?_ ?_
        · rintro a w ⟨hF, hS, hm⟩
          unfold stones_spread_2_J4 at hm
          refine seq_cut (fun a w => ∃ (in5 : List Int) (border5 : List Int) (seen4 : List Bool) (A12 : Option Addr) (c12 : Nat) (A13 : Option Addr) (c13 : Nat), Fr 67 [pl 2 (.func (.func 47) #[] #[.pointer (some ⟨g4, 0, none⟩)]), pl 3 (.pointer (some ⟨g5, 0, none⟩)), pl 6 (.slice A12 in5.length c12), pl 7 (.slice A13 border5.length c13), pl 8 (.slice A2 (Int.toNat (g3.length : Int)) c2), pl 9 (.int .i64 i1), pl 32 (.slice A7 r1.length c7), pl 33 (.int .i64 (r1.length : Int)), pl 34 (.int .i64 z1)] a ∧ Sep w0 B w (blk g4 3 #[.int .i64 v1] :: blk g5 24 #[.int .i64 g1, .int .i64 g2, .slice A1 g3.length c1] :: own 3 (.slice A12 in5.length c12) (vI in5) :: own 3 (.slice A13 border5.length c13) (vI border5) :: own 4 (.slice A2 (Int.toNat (g3.length : Int)) c2) (vB seen4) :: own 3 (.slice A7 r1.length c7) (vI r1) :: fs) ∧ ((stones_spread_2_J5 z1) in5 border5 seen4).bind φ2 = some r) ?_ ?_
          · rintro a w ⟨in5, border5, seen4, A12, c12, A13, c13, hF, hS, hm⟩
            unfold stones_spread_2_J5 at hm
            refine reg1 [] [] [2, 3, 6, 7, 8, 9, 32, 33, 34] [pl 2 (.func (.func 47) #[] #[.pointer (some ⟨g4, 0, none⟩)]), pl 3 (.pointer (some ⟨g5, 0, none⟩)), pl 6 (.slice A12 in5.length c12), pl 7 (.slice A13 border5.length c13), pl 8 (.slice A2 (Int.toNat (g3.length : Int)) c2), pl 9 (.int .i64 i1), pl 32 (.slice A7 r1.length c7), pl 33 (.int .i64 (r1.length : Int)), pl 34 (.int .i64 (w64 (z1 + 1)))] hF hS Fol (by kernel_rfl) (by kernel_rfl) (by kernel_rfl) ?_ (fun a w hF hS => ?_)
            · exact obs_nil
            refine then_n ?_
            rw [← hφ2] at hm
            exact ⟨(in5, border5, seen4, (w64 (z1 + 1))), ⟨A12, c12, A13, c13, hF.weak [2, 3, 6, 7, 8, 9, 32, 33, 34] (by kernel_rfl), hS⟩, hm⟩
          · refine wpIn_block ?_
            obtain ⟨hp4, hm⟩ := asrt_b hm
            refine reg [⟨true, [], vS (Instr.indexAt 22 (.slice A7 r1.length c7) (.int .i64 z1)), .pointer (some (sAddr A7 z1))⟩, ⟨false, [], vS (Instr.loadAt 3 (.pointer (some (sAddr A7 z1)))), .int .i64 (geti r1 z1)⟩] [some (.pointer (some (sAddr A7 z1))), some (.int .i64 (geti r1 z1)), none] [2, 3, 6, 7, 8, 9, 11, 32, 33, 34] [pl 2 (.func (.func 47) #[] #[.pointer (some ⟨g4, 0, none⟩)]), pl 3 (.pointer (some ⟨g5, 0, none⟩)), pl 6 (.slice A8 in3.length c8), pl 7 (.slice A9 border3.length c9), pl 8 (.slice A2 (Int.toNat (g3.length : Int)) c2), pl 9 (.int .i64 i1), pl 11 (.int .i64 (geti r1 z1)), pl 32 (.slice A7 r1.length c7), pl 33 (.int .i64 (r1.length : Int)), pl 34 (.int .i64 z1)] hF hS Fol (by kernel_rfl) (by kernel_rfl) (by kernel_rfl) ?_ (fun a w hF hS => ?_)
            · exact obs_cons (ob_ix1 (f := (Value.int .i64)) (m := r1) Und22 hi3 hs3 (hS.at_ 5 rfl).rd rfl (fun _ => hp4)) <| obs_cons (ob_get1 (n := r1.length) (m := r1) (Value.int .i64) (0 : Int) Agg3 (fun _ hS => ⟨_, (hS.at_ 5 rfl).rd⟩) (fun _ hS => rfl) (fun _ => hp4)) <| obs_nil
            refine seq_cut (fun a w => Fr 67 [pl 2 (.func (.func 47) #[] #[.pointer (some ⟨g4, 0, none⟩)]), pl 3 (.pointer (some ⟨g5, 0, none⟩)), pl 6 (.slice A8 in3.length c8), pl 7 (.slice A9 border3.length c9), pl 8 (.slice A2 (Int.toNat (g3.length : Int)) c2), pl 9 (.int .i64 i1), pl 11 (.int .i64 (geti r1 z1)), pl 32 (.slice A7 r1.length c7), pl 33 (.int .i64 (r1.length : Int)), pl 34 (.int .i64 z1)] a ∧ Sep w0 B w (blk g4 3 #[.int .i64 v1] :: blk g5 24 #[.int .i64 g1, .int .i64 g2, .slice A1 g3.length c1] :: own 3 (.slice A8 in3.length c8) (vI in3) :: own 3 (.slice A9 border3.length c9) (vI border3) :: own 4 (.slice A2 (Int.toNat (g3.length : Int)) c2) (vB seen2) :: own 3 (.slice A7 r1.length c7) (vI r1) :: fs) ∧ ((stones_spread_2_J6 g3 v1 r1 in3 border3 seen2 z1)).bind φ2 = some r) ?_ ?_
            · rintro a w ⟨hF, hS, hm⟩
              unfold stones_spread_2_J6 at hm
              refine seqR ?_
              obtain ⟨hp6, hm⟩ := asrt_b hm
              refine at_run 3 [⟨true, [], vS (Instr.indexAt 86 (.slice A2 (Int.toNat (g3.length : Int)) c2) (.int .i64 (geti r1 z1))), .pointer (some (sAddr A2 (geti r1 z1)))⟩] [none, none, some (.pointer (some (sAddr A2 (geti r1 z1))))] [2, 3, 6, 7, 8, 9, 11, 32, 33, 34, 44] [pl 2 (.func (.func 47) #[] #[.pointer (some ⟨g4, 0, none⟩)]), pl 3 (.pointer (some ⟨g5, 0, none⟩)), pl 6 (.slice A8 in3.length c8), pl 7 (.slice A9 border3.length c9), pl 8 (.slice A2 (Int.toNat (g3.length : Int)) c2), pl 9 (.int .i64 i1), pl 11 (.int .i64 (geti r1 z1)), pl 32 (.slice A7 r1.length c7), pl 33 (.int .i64 (r1.length : Int)), pl 34 (.int .i64 z1), pl 44 (.pointer (some (sAddr A2 (geti r1 z1))))] hF hS (by kernel_rfl) (by kernel_rfl) ?_ (fun a w hF hS => ?_)
              · exact obs_cons (ob_ix1 (f := Value.bool) (m := seen2) Und86 hi4 hs4 (hS.at_ 4 rfl).rd ((hS.at_ 4 rfl).len1) (fun _ => hp6)) <| obs_nil
              obtain ⟨w, hrun, hS⟩ := run_set1 (P := Try.prog) (t := 4) (x := true) Value.bool (hS.at_ 4 rfl) hi4 hs4 rfl rfl hp6
              refine at_skip hF (by kernel_rfl) hrun ?_
              have hS : Sep w0 B w (blk g4 3 #[.int .i64 v1] :: blk g5 24 #[.int .i64 g1, .int .i64 g2, .slice A1 g3.length c1] :: own 3 (.slice A8 in3.length c8) (vI in3) :: own 3 (.slice A9 border3.length c9) (vI border3) :: own 4 (.slice A2 (Int.toNat (g3.length : Int)) c2) (vB (seen2.set (Int.toNat (geti r1 z1)) true)) :: own 3 (.slice A7 r1.length c7) (vI r1) :: fs) := hS
              refine at_end [2, 3, 6, 7, 8, 9, 11, 32, 33, 34] [pl 2 (.func (.func 47) #[] #[.pointer (some ⟨g4, 0, none⟩)]), pl 3 (.pointer (some ⟨g5, 0, none⟩)), pl 6 (.slice A8 in3.length c8), pl 7 (.slice A9 border3.length c9), pl 8 (.slice A2 (Int.toNat (g3.length : Int)) c2), pl 9 (.int .i64 i1), pl 11 (.int .i64 (geti r1 z1)), pl 32 (.slice A7 r1.length c7), pl 33 (.int .i64 (r1.length : Int)), pl 34 (.int .i64 z1)] hF rfl (by kernel_rfl) (fun hF => ?_)
              refine then_n ?_
              obtain ⟨hp7, hm⟩ := asrt_b hm
              obtain ⟨r2, hr2, hm⟩ := call_b hm
              refine reg [⟨false, [], vS (Instr.loadAt 22 (.pointer (some ⟨g5, 2, none⟩))), .slice A1 g3.length c1⟩, ⟨true, [], vS (Instr.indexAt 22 (.slice A1 g3.length c1) (.int .i64 (geti r1 z1))), .pointer (some (sAddr A1 (geti r1 z1)))⟩, ⟨false, [], vS (Instr.loadAt 3 (.pointer (some (sAddr A1 (geti r1 z1))))), .int .i64 (geti g3 (geti r1 z1))⟩, ⟨false, [], callFunc 47 #[.int .i64 (geti g3 (geti r1 z1)), .pointer (some ⟨g4, 0, none⟩)], .bool r2⟩] [none, none, some (.slice A1 g3.length c1), none, some (.pointer (some (sAddr A1 (geti r1 z1)))), some (.int .i64 (geti g3 (geti r1 z1))), some (.bool r2)] [2, 3, 6, 7, 8, 9, 11, 32, 33, 34, 51] [pl 2 (.func (.func 47) #[] #[.pointer (some ⟨g4, 0, none⟩)]), pl 3 (.pointer (some ⟨g5, 0, none⟩)), pl 6 (.slice A8 in3.length c8), pl 7 (.slice A9 border3.length c9), pl 8 (.slice A2 (Int.toNat (g3.length : Int)) c2), pl 9 (.int .i64 i1), pl 11 (.int .i64 (geti r1 z1)), pl 32 (.slice A7 r1.length c7), pl 33 (.int .i64 (r1.length : Int)), pl 34 (.int .i64 z1), pl 51 (.bool r2)] hF hS Fol (by kernel_rfl) (by kernel_rfl) (by kernel_rfl) ?_ (fun a w hF hS => ?_)
              · exact obs_cons (ob_load Agg22 (fun _ _ hS => (hS.at_ 1 rfl).cell rfl)) <| obs_cons (ob_ix1 (f := (Value.int .i64)) (m := g3) Und22 hi3 hs3 (hr_g3 _ (hS.dropN 6)) rfl (fun _ => hp7)) <| obs_cons (ob_get1 (n := g3.length) (m := g3) (Value.int .i64) (0 : Int) Agg3 (fun _ hS => ⟨_, (hr_g3 _ (hS.dropN 6))⟩) (fun _ hS => rfl) (fun _ => hp7)) <| obs_cons (ob_call Try.func47 (by kernel_rfl) rfl (fun _ _ hS => stones_Alive_1_w hr2 hS )) <| obs_nil
              refine cond_ev (t := 51) (b := r2) hF (by kernel_rfl) (fun hb => ?_) (fun hb => ?_)
              · replace hm := if_t hm hb
                refine oneR ?_
                obtain ⟨hp8, hm⟩ := asrt_b hm
                refine at_run 2 [] [] [2, 3, 7, 8, 9, 32, 33, 34, 52, 53] [pl 2 (.func (.func 47) #[] #[.pointer (some ⟨g4, 0, none⟩)]), pl 3 (.pointer (some ⟨g5, 0, none⟩)), pl 7 (.slice A9 border3.length c9), pl 8 (.slice A2 (Int.toNat (g3.length : Int)) c2), pl 9 (.int .i64 i1), pl 32 (.slice A7 r1.length c7), pl 33 (.int .i64 (r1.length : Int)), pl 34 (.int .i64 z1), pl 52 (.slice A8 in3.length c8), pl 53 (.int .i64 (geti r1 z1))] hF hS (by kernel_rfl) (by kernel_rfl) ?_ (fun a w hF hS => ?_)
                · exact obs_nil
                refine at_do (d := 54) (s := vS (Instr.buildSlice 22 1 #[(0, .int .i64 (geti r1 z1))])) (v := .slice (some ⟨w.heap.size, 0, none⟩) 1 1) (w' := w.alloc (.cells #[.int .i64 (geti r1 z1)] 3)) hF (by kernel_rfl) (by kernel_rfl) (by kernel_rfl) (fun a hF => ?_)
                have hS : Sep w0 B (w.alloc (.cells #[.int .i64 (geti r1 z1)] 3)) (own 3 (.slice (some (⟨w.heap.size, 0, none⟩ : Addr)) 1 1) (vI ([geti r1 z1] : List Int)) :: (blk g4 3 #[.int .i64 v1] :: blk g5 24 #[.int .i64 g1, .int .i64 g2, .slice A1 g3.length c1] :: own 3 (.slice A8 in3.length c8) (vI in3) :: own 3 (.slice A9 border3.length c9) (vI border3) :: own 4 (.slice A2 (Int.toNat (g3.length : Int)) c2) (vB (seen2.set (Int.toNat (geti r1 z1)) true)) :: own 3 (.slice A7 r1.length c7) (vI r1) :: fs)) := hS.lit 3 #[.int .i64 (geti r1 z1)] 1 rfl (by omega)
                generalize (some (⟨w.heap.size, 0, none⟩ : Addr)) = g7 at hF hS
                generalize w.alloc (.cells #[.int .i64 (geti r1 z1)] 3) = w at hS ⊢
                obtain ⟨A14, c14, w, hrun, hS⟩ := run_app1 (P := Try.prog) (t := 22) (m := in3) (ys := ([geti r1 z1] : List Int)) (A2 := g7) (m2 := 1) (c2 := 1) (Value.int .i64) (0 : Int) (hS.at_ 3 rfl) (hS.at_ 0 rfl).rd ((hS.at_ 0 rfl).len1) 22 Und22 hi3 hz3 hs3 (by omega) rfl (fun _ => rfl) hp8
                have hS : Sep w0 B w (own 3 (.slice g7 1 1) (vI ([geti r1 z1] : List Int)) :: blk g4 3 #[.int .i64 v1] :: blk g5 24 #[.int .i64 g1, .int .i64 g2, .slice A1 g3.length c1] :: own 3 (.slice A14 ((in3 ++ ([geti r1 z1] : List Int)).length) c14) (vI (in3 ++ ([geti r1 z1] : List Int))) :: own 3 (.slice A9 border3.length c9) (vI border3) :: own 4 (.slice A2 (Int.toNat (g3.length : Int)) c2) (vB (seen2.set (Int.toNat (geti r1 z1)) true)) :: own 3 (.slice A7 r1.length c7) (vI r1) :: fs) := hS
                refine at_do (d := 55) hF (by kernel_rfl) (by kernel_rfl) hrun (fun a hF => ?_)
                refine at_run 1 [] [] [2, 3, 6, 7, 8, 9, 32, 33, 34] [pl 2 (.func (.func 47) #[] #[.pointer (some ⟨g4, 0, none⟩)]), pl 3 (.pointer (some ⟨g5, 0, none⟩)), pl 6 (.slice A14 ((in3 ++ ([geti r1 z1] : List Int)).length) c14), pl 7 (.slice A9 border3.length c9), pl 8 (.slice A2 (Int.toNat (g3.length : Int)) c2), pl 9 (.int .i64 i1), pl 32 (.slice A7 r1.length c7), pl 33 (.int .i64 (r1.length : Int)), pl 34 (.int .i64 z1)] hF hS (by kernel_rfl) (by kernel_rfl) ?_ (fun a w hF hS => ?_)
                · exact obs_nil
                refine at_end [2, 3, 6, 7, 8, 9, 32, 33, 34] [pl 2 (.func (.func 47) #[] #[.pointer (some ⟨g4, 0, none⟩)]), pl 3 (.pointer (some ⟨g5, 0, none⟩)), pl 6 (.slice A14 ((in3 ++ ([geti r1 z1] : List Int)).length) c14), pl 7 (.slice A9 border3.length c9), pl 8 (.slice A2 (Int.toNat (g3.length : Int)) c2), pl 9 (.int .i64 i1), pl 32 (.slice A7 r1.length c7), pl 33 (.int .i64 (r1.length : Int)), pl 34 (.int .i64 z1)] hF rfl (by kernel_rfl) (fun hF => ?_)
                refine block_n ?_
                refine then_n ?_
                have hS := hS.pickN 7 [1, 2, 3, 4, 5, 6] (by decide)
                exact ⟨(in3 ++ ([geti r1 z1] : List Int)), border3, (seen2.set (Int.toNat (geti r1 z1)) true), A14, c14, A9, c9, hF.weak [2, 3, 6, 7, 8, 9, 32, 33, 34] (by kernel_rfl), hS, hm⟩
              · replace hm := if_f hm hb
                refine oneR ?_
                obtain ⟨hp9, hm⟩ := asrt_b hm
                refine at_run 2 [] [] [2, 3, 6, 8, 9, 32, 33, 34, 56, 57] [pl 2 (.func (.func 47) #[] #[.pointer (some ⟨g4, 0, none⟩)]), pl 3 (.pointer (some ⟨g5, 0, none⟩)), pl 6 (.slice A8 in3.length c8), pl 8 (.slice A2 (Int.toNat (g3.length : Int)) c2), pl 9 (.int .i64 i1), pl 32 (.slice A7 r1.length c7), pl 33 (.int .i64 (r1.length : Int)), pl 34 (.int .i64 z1), pl 56 (.slice A9 border3.length c9), pl 57 (.int .i64 (geti r1 z1))] hF hS (by kernel_rfl) (by kernel_rfl) ?_ (fun a w hF hS => ?_)
                · exact obs_nil
                refine at_do (d := 58) (s := vS (Instr.buildSlice 22 1 #[(0, .int .i64 (geti r1 z1))])) (v := .slice (some ⟨w.heap.size, 0, none⟩) 1 1) (w' := w.alloc (.cells #[.int .i64 (geti r1 z1)] 3)) hF (by kernel_rfl) (by kernel_rfl) (by kernel_rfl) (fun a hF => ?_)
                have hS : Sep w0 B (w.alloc (.cells #[.int .i64 (geti r1 z1)] 3)) (own 3 (.slice (some (⟨w.heap.size, 0, none⟩ : Addr)) 1 1) (vI ([geti r1 z1] : List Int)) :: (blk g4 3 #[.int .i64 v1] :: blk g5 24 #[.int .i64 g1, .int .i64 g2, .slice A1 g3.length c1] :: own 3 (.slice A8 in3.length c8) (vI in3) :: own 3 (.slice A9 border3.length c9) (vI border3) :: own 4 (.slice A2 (Int.toNat (g3.length : Int)) c2) (vB (seen2.set (Int.toNat (geti r1 z1)) true)) :: own 3 (.slice A7 r1.length c7) (vI r1) :: fs)) := hS.lit 3 #[.int .i64 (geti r1 z1)] 1 rfl (by omega)
                generalize (some (⟨w.heap.size, 0, none⟩ : Addr)) = g8 at hF hS
                generalize w.alloc (.cells #[.int .i64 (geti r1 z1)] 3) = w at hS ⊢
                obtain ⟨A15, c15, w, hrun, hS⟩ := run_app1 (P := Try.prog) (t := 22) (m := border3) (ys := ([geti r1 z1] : List Int)) (A2 := g8) (m2 := 1) (c2 := 1) (Value.int .i64) (0 : Int) (hS.at_ 4 rfl) (hS.at_ 0 rfl).rd ((hS.at_ 0 rfl).len1) 22 Und22 hi3 hz3 hs3 (by omega) rfl (fun _ => rfl) hp9
                have hS : Sep w0 B w (own 3 (.slice g8 1 1) (vI ([geti r1 z1] : List Int)) :: blk g4 3 #[.int .i64 v1] :: blk g5 24 #[.int .i64 g1, .int .i64 g2, .slice A1 g3.length c1] :: own 3 (.slice A8 in3.length c8) (vI in3) :: own 3 (.slice A15 ((border3 ++ ([geti r1 z1] : List Int)).length) c15) (vI (border3 ++ ([geti r1 z1] : List Int))) :: own 4 (.slice A2 (Int.toNat (g3.length : Int)) c2) (vB (seen2.set (Int.toNat (geti r1 z1)) true)) :: own 3 (.slice A7 r1.length c7) (vI r1) :: fs) := hS
                refine at_do (d := 59) hF (by kernel_rfl) (by kernel_rfl) hrun (fun a hF => ?_)
                refine at_run 1 [] [] [2, 3, 6, 7, 8, 9, 32, 33, 34] [pl 2 (.func (.func 47) #[] #[.pointer (some ⟨g4, 0, none⟩)]), pl 3 (.pointer (some ⟨g5, 0, none⟩)), pl 6 (.slice A8 in3.length c8), pl 7 (.slice A15 ((border3 ++ ([geti r1 z1] : List Int)).length) c15), pl 8 (.slice A2 (Int.toNat (g3.length : Int)) c2), pl 9 (.int .i64 i1), pl 32 (.slice A7 r1.length c7), pl 33 (.int .i64 (r1.length : Int)), pl 34 (.int .i64 z1)] hF hS (by kernel_rfl) (by kernel_rfl) ?_ (fun a w hF hS => ?_)
                · exact obs_nil
                refine at_end [2, 3, 6, 7, 8, 9, 32, 33, 34] [pl 2 (.func (.func 47) #[] #[.pointer (some ⟨g4, 0, none⟩)]), pl 3 (.pointer (some ⟨g5, 0, none⟩)), pl 6 (.slice A8 in3.length c8), pl 7 (.slice A15 ((border3 ++ ([geti r1 z1] : List Int)).length) c15), pl 8 (.slice A2 (Int.toNat (g3.length : Int)) c2), pl 9 (.int .i64 i1), pl 32 (.slice A7 r1.length c7), pl 33 (.int .i64 (r1.length : Int)), pl 34 (.int .i64 z1)] hF rfl (by kernel_rfl) (fun hF => ?_)
                refine block_n ?_
                refine then_n ?_
                have hS := hS.pickN 7 [1, 2, 3, 4, 5, 6] (by decide)
                exact ⟨in3, (border3 ++ ([geti r1 z1] : List Int)), (seen2.set (Int.toNat (geti r1 z1)) true), A8, c8, A15, c15, hF.weak [2, 3, 6, 7, 8, 9, 32, 33, 34] (by kernel_rfl), hS, hm⟩
            · obtain ⟨hp5, hm⟩ := asrt_b hm
              refine reg [⟨true, [], vS (Instr.indexAt 86 (.slice A2 (Int.toNat (g3.length : Int)) c2) (.int .i64 (geti r1 z1))), .pointer (some (sAddr A2 (geti r1 z1)))⟩, ⟨false, [], vS (Instr.loadAt 4 (.pointer (some (sAddr A2 (geti r1 z1))))), .bool (getb seen2 (geti r1 z1))⟩] [none, none, some (.pointer (some (sAddr A2 (geti r1 z1)))), some (.bool (getb seen2 (geti r1 z1)))] [2, 3, 6, 7, 8, 9, 11, 32, 33, 34, 41] [pl 2 (.func (.func 47) #[] #[.pointer (some ⟨g4, 0, none⟩)]), pl 3 (.pointer (some ⟨g5, 0, none⟩)), pl 6 (.slice A8 in3.length c8), pl 7 (.slice A9 border3.length c9), pl 8 (.slice A2 (Int.toNat (g3.length : Int)) c2), pl 9 (.int .i64 i1), pl 11 (.int .i64 (geti r1 z1)), pl 32 (.slice A7 r1.length c7), pl 33 (.int .i64 (r1.length : Int)), pl 34 (.int .i64 z1), pl 41 (.bool (getb seen2 (geti r1 z1)))] hF hS Fol (by kernel_rfl) (by kernel_rfl) (by kernel_rfl) ?_ (fun a w hF hS => ?_)
              · exact obs_cons (ob_ix1 (f := Value.bool) (m := seen2) Und86 hi4 hs4 (hS.at_ 4 rfl).rd ((hS.at_ 4 rfl).len1) (fun _ => hp5)) <| obs_cons (ob_get1 (n := (Int.toNat (g3.length : Int))) (m := seen2) Value.bool false Agg4 (fun _ hS => ⟨_, (hS.at_ 4 rfl).rd⟩) (fun _ hS => ((hS.at_ 4 rfl).len1)) (fun _ => hp5)) <| obs_nil
              refine cond_ev (t := 41) (b := getb seen2 (geti r1 z1)) hF (by kernel_rfl) (fun hb => ?_) (fun hb => ?_)
              · replace hm := if_t hm hb
                refine wpIn_exit ?_
                refine then_e (block_e (then_n ?_))
                exact ⟨in3, border3, seen2, A8, c8, A9, c9, hF.weak [2, 3, 6, 7, 8, 9, 32, 33, 34] (by kernel_rfl), hS, hm⟩
              · replace hm := if_f hm hb
                refine wpIn_skip ?_
                refine then_n ?_
                exact ⟨hF.weak [2, 3, 6, 7, 8, 9, 11, 32, 33, 34] (by kernel_rfl), hS, hm⟩
        · refine cond_ev (t := 35) (b := decide (z1 < (r1.length : Int))) hF (by kernel_rfl) (fun hb => ?_) (fun hb => ?_)
          · replace hm := if_t hm hb
            refine wpIn_skip ?_
            refine then_n ?_
            exact ⟨hF.weak [2, 3, 6, 7, 8, 9, 32, 33, 34] (by kernel_rfl), hS, hm⟩
          · replace hm := if_f hm hb
            refine wpIn_exit ?_
            refine then_e (then_e (block_e (block_n (then_n ?_))))
            have hS := hS.pickN 6 [0, 1, 2, 3, 4] (by decide)
            rw [← hφ2] at hm
            replace hm := done_b hm
            unfold stones_spread_2_K2 at hm
            try dsimp only at hm
            have hm : ((stones_spread_2_J3 i1) in3 border3 seen2).bind φ1 = some r := hm
            exact ⟨in3, border3, seen2, A8, c8, A9, c9, hF.weak [2, 3, 6, 7, 8, 9] (by kernel_rfl), hS, hm⟩
    · refine reg [] [] [2, 3, 6, 7, 8, 9, 24] [pl 2 (.func (.func 47) #[] #[.pointer (some ⟨g4, 0, none⟩)]), pl 3 (.pointer (some ⟨g5, 0, none⟩)), pl 6 (.slice A3 in1.length c3), pl 7 (.slice A4 border1.length c4), pl 8 (.slice A2 (Int.toNat (g3.length : Int)) c2), pl 9 (.int .i64 i1), pl 24 (.bool (decide (i1 < (in1.length : Int))))] hF hS Fol (by kernel_rfl) (by kernel_rfl) (by kernel_rfl) ?_ (fun a w hF hS => ?_)
      · exact obs_nil
      refine cond_ev (t := 24) (b := decide (i1 < (in1.length : Int))) hF (by kernel_rfl) (fun hb => ?_) (fun hb => ?_)
      · replace hm := if_t hm hb
        refine wpIn_skip ?_
        refine then_n ?_
        exact ⟨hF.weak [2, 3, 6, 7, 8, 9] (by kernel_rfl), hS, hm⟩
      · replace hm := if_f hm hb
        refine wpIn_exit ?_
        refine then_e (then_e (block_e (then_n ?_)))
        have hS := hS.pickN 5 [2, 3, 0] (by decide)
        rw [← hφ1] at hm
        replace hm := done_b hm
        unfold stones_spread_2_K1 at hm
        try dsimp only at hm
        have hm : (stones_spread_2_J1 in1 border1).bind some = some r := hm
        exact ⟨in1, border1, A3, c3, A4, c4, hF.weak [6, 7] (by kernel_rfl), hS, hm⟩

noncomputable def stones_parts_J7  (r2 : (List Int × List Int)) (done3 : List Bool) (z2 : Int) : Option (St (List Bool × Int) (List Bool)) :=
  some (.next ((done3.set (Int.toNat (geti r2.1 z2)) true), (w64 (z2 + 1))))

noncomputable def stones_parts_J6  (g3 : List Int) (r2 : (List Int × List Int)) (done3 : List Bool) (z2 : Int) : Option (St (List Bool × Int) (List Bool)) :=
  asrt (0 ≤ z2 ∧ z2 < (r2.1.length : Int)) <| asrt (0 ≤ (geti r2.1 z2) ∧ (geti r2.1 z2) < (((Int.toNat (g3.length : Int)) : Nat) : Int)) <| (stones_parts_J7 r2 done3 z2)

noncomputable def stones_parts_J3  (z1 : Int) (l3 : List (List Int × List Int × Bool)) (done2 : List Bool) : Option (St (List (List Int × List Int × Bool) × List Bool × Int) (List (List Int × List Int × Bool))) :=
  some (.next (l3, done2, (w64 (z1 + 1))))

noncomputable def stones_parts_J5  (l1 : List (List Int × List Int × Bool)) (z1 : Int) (r2 : (List Int × List Int)) (done4 : List Bool) : Option (St (List (List Int × List Int × Bool) × List Bool × Int) (List (List Int × List Int × Bool))) :=
  asrt (((l1.length : Int) : Int) + 1 ≤ bigK) <| (stones_parts_J3 z1) (l1 ++ [(r2.1, r2.2, false)]) done4

noncomputable def stones_parts_K2  (l1 : List (List Int × List Int × Bool)) (z1 : Int) (r2 : (List Int × List Int)) : (List Bool) → Option (St (List (List Int × List Int × Bool) × List Bool × Int) (List (List Int × List Int × Bool))) :=
  fun (x : (List Bool)) => match x with | done4 => (stones_parts_J5 l1 z1 r2) done4

noncomputable def stones_parts_L2  (g3 : List Int) (r2 : (List Int × List Int)) : (List Bool × Int) → Option (St (List Bool × Int) (List Bool)) :=
  fun (x : (List Bool × Int)) => match x with | (done3, z2) => if (decide (z2 < (r2.1.length : Int))) then ((stones_parts_J6 g3 r2 done3 z2)) else (some (.done done3))

noncomputable def stones_parts_J4  (g1 : Int) (g2 : Int) (g3 : List Int) (v1 : Int) (l1 : List (List Int × List Int × Bool)) (done1 : List Bool) (z1 : Int) : Option (St (List (List Int × List Int × Bool) × List Bool × Int) (List (List Int × List Int × Bool))) :=
  (stones_spread_2_m g1 g2 g3 z1 v1).bind fun r2 => (loop (stones_parts_L2 g3 r2) (done1, 0)).bind (stones_parts_K2 l1 z1 r2)

noncomputable def stones_parts_J2  (g1 : Int) (g2 : Int) (g3 : List Int) (v1 : Int) (l1 : List (List Int × List Int × Bool)) (done1 : List Bool) (z1 : Int) : Option (St (List (List Int × List Int × Bool) × List Bool × Int) (List (List Int × List Int × Bool))) :=
  asrt (0 ≤ z1 ∧ z1 < (g3.length : Int)) <| (stones_Alive_1_m (geti g3 z1) v1).bind fun r1 => asrt ((!r1) = false → 0 ≤ z1 ∧ z1 < (((Int.toNat (g3.length : Int)) : Nat) : Int)) <| if ((!r1) || (getb done1 z1)) then ((stones_parts_J3 z1) l1 done1) else ((stones_parts_J4 g1 g2 g3 v1 l1 done1 z1))

noncomputable def stones_parts_J1  (l2 : List (List Int × List Int × Bool)) : Option (List (List Int × List Int × Bool)) :=
  some l2

noncomputable def stones_parts_K1  : (List (List Int × List Int × Bool)) → Option (List (List Int × List Int × Bool)) :=
  fun (x : (List (List Int × List Int × Bool))) => match x with | l2 => stones_parts_J1 l2

noncomputable def stones_parts_L1  (g1 : Int) (g2 : Int) (g3 : List Int) (v1 : Int) : (List (List Int × List Int × Bool) × List Bool × Int) → Option (St (List (List Int × List Int × Bool) × List Bool × Int) (List (List Int × List Int × Bool))) :=
  fun (x : (List (List Int × List Int × Bool) × List Bool × Int)) => match x with | (l1, done1, z1) => if (decide (z1 < (g3.length : Int))) then ((stones_parts_J2 g1 g2 g3 v1 l1 done1 z1)) else (some (.done l1))
end Go.Proofs.Ytdjjomghggplpaa
