/-
  Models and walks, printed by our own program (wip/gen).
-/
import Derived.Test.YtjfloofoobllaaaFB
import Derived.Test.YtjfloofoobllaaaLibMV
import Derived.Test.YtjfloofoobllaaaLibSk
import Derived.Test.YtjfloofoobllaaaLibSu
import Derived.Test.YtjfloofoobllaaaFM
import Derived.Test.YtjfloofoobllaaaLibSt
import Derived.Test.YtjfloofoobllaaaSF
namespace Go.Proofs.Ytjfloofoobllaaa
open Go Go.GL Go.RowKit




noncomputable def gameroomref_Ints_m  (l1 : List Int) : Option (List Int) :=
  asrt ((0 : Int) + (l1.length : Int) ≤ bigN) <| some ([] ++ l1)

set_option maxRecDepth 100000 in
set_option maxHeartbeats 4000000 in
theorem gameroomref_Ints_w  {A1 : Option Addr} {c1 : Nat} {n1 : Nat} {l1 : List Int} {r : (List Int)} {w0 w : World} {B : Nat} {fs : List HP} (hm : gameroomref_Ints_m l1 = some r) (hS : Sep w0 B w (fs)) (hr_l1 : RdF w0 B fs A1 (vI l1)) (_hc_l1 : l1.length ≤ c1) (_hn_l1 : n1 = l1.length) :
    Calls Try.prog 42 #[.slice A1 n1 c1] w fun e w' => ∃ v, e = .returned v ∧ ∃ (A3 : Option Addr) (c3 : Nat), v = .slice A3 r.length c3 ∧ Sep w0 B w' (own 3 (.slice A3 r.length c3) (vI r) :: fs) := by
  obtain ⟨i3, hi3, hz3, hs3, hb3⟩ := info_parts Info3
  obtain rfl := _hn_l1
  unfold gameroomref_Ints_m at hm
  replace hm := start_b hm
  refine enter (l := [.slice A1 l1.length c1]) (n := 5) Try.func42 rfl rfl (by simp) (fun a hF => ?_)
  refine reg [] [] [0] [pl 0 (.slice A1 l1.length c1)] hF hS Fol (by kernel_rfl) (by kernel_rfl) (by kernel_rfl) ?_ (fun a w hF hS => ?_)
  · exact obs_nil
  refine seqR ?_
  obtain ⟨hp1, hm⟩ := asrt_b hm
  refine at_run 1 [] [] [3] [pl 3 (.slice A1 l1.length c1)] hF hS (by kernel_rfl) (by kernel_rfl) ?_ (fun a w hF hS => ?_)
  · exact obs_nil
  have hS : Sep w0 B w (own 3 (.slice none 0 0) (vI ([] : List Int)) :: fs) := hS.nil 3
  obtain ⟨A2, c2, w, hrun, hS⟩ := run_app1 (P := Try.prog) (t := 22) (m := ([] : List Int)) (ys := l1) (A2 := A1) (m2 := l1.length) (c2 := c1) (Value.int .i64) (0 : Int) (hS.at_ 0 rfl) (hr_l1 _ (hS.dropN 1)) rfl 22 Und22 hi3 hz3 hs3 (by omega) rfl (fun _ => rfl) hp1
  have hS : Sep w0 B w (own 3 (.slice A2 (([] ++ l1).length) c2) (vI ([] ++ l1)) :: fs) := hS
  refine at_do (d := 4) hF (by kernel_rfl) (by kernel_rfl) hrun (fun a hF => ?_)
  refine at_run 1 [] [] [2] [pl 2 (.slice A2 (([] ++ l1).length) c2)] hF hS (by kernel_rfl) (by kernel_rfl) ?_ (fun a w hF hS => ?_)
  · exact obs_nil
  refine at_end [2] [pl 2 (.slice A2 (([] ++ l1).length) c2)] hF rfl (by kernel_rfl) (fun hF => ?_)
  refine then_n ?_
  refine wpIn_ret ?_
  have hm : some ([] ++ l1) = some r := hm
  obtain rfl := Option.some.inj hm
  exact retV (rs := [.tmp 2]) (vs := [.slice A2 (([] ++ l1).length) c2]) hF rfl (rv_t (by kernel_rfl) <| rv_nil) rfl ⟨_, rfl, A2, c2, rfl, hS⟩

noncomputable def gameroomref_GridOf_m  (g1 : Int) (g2 : Int) (g3 : List Int) : Option (Int × Int × List Int) :=
  (gameroomref_Ints_m g3).bind fun r1 => some (g1, g2, r1)

set_option maxRecDepth 100000 in
set_option maxHeartbeats 4000000 in
theorem gameroomref_GridOf_w  {g1 : Int} {g2 : Int} {A1 : Option Addr} {c1 : Nat} {n1 : Nat} {g3 : List Int} {r : (Int × Int × List Int)} {w0 w : World} {B : Nat} {fs : List HP} (hm : gameroomref_GridOf_m g1 g2 g3 = some r) (hS : Sep w0 B w (fs)) (hr_g3 : RdF w0 B fs A1 (vI g3)) (_hc_g3 : g3.length ≤ c1) (_hn_g3 : n1 = g3.length) :
    Calls Try.prog 9 #[.agg #[.int .i64 g1, .int .i64 g2, .slice A1 n1 c1]] w fun e w' => ∃ v, e = .returned v ∧ ∃ (A3 : Option Addr) (c3 : Nat), v = .agg #[.int .i64 r.1, .int .i64 r.2.1, .slice A3 r.2.2.length c3] ∧ Sep w0 B w' (own 3 (.slice A3 r.2.2.length c3) (vI r.2.2) :: fs) := by
  obtain ⟨i3, hi3, hz3, hs3, hb3⟩ := info_parts Info3
  obtain ⟨i22, hi22, hz22, hs22, hb22⟩ := info_parts Info22
  obtain rfl := _hn_g3
  unfold gameroomref_GridOf_m at hm
  replace hm := start_b hm
  refine enter (l := [.agg #[.int .i64 g1, .int .i64 g2, .slice A1 g3.length c1]]) (n := 8) Try.func9 rfl rfl (by simp) (fun a hF => ?_)
  refine seqR ?_
  refine at_do (d := 1) (s := vS (Instr.box 24 (.agg #[.int .i64 g1, .int .i64 g2, .slice A1 g3.length c1]))) (v := .pointer (some ⟨w.heap.size, 0, none⟩)) (w' := w.alloc (.cells #[.int .i64 g1, .int .i64 g2, .slice A1 g3.length c1] 24)) hF (by kernel_rfl) (by kernel_rfl) (by kernel_rfl) (fun a hF => ?_)
  have hS : Sep w0 B (w.alloc (.cells #[.int .i64 g1, .int .i64 g2, .slice A1 g3.length c1] 24)) (blk w.heap.size 24 #[.int .i64 g1, .int .i64 g2, .slice A1 g3.length c1] :: (fs)) := hS.box 24 #[.int .i64 g1, .int .i64 g2, .slice A1 g3.length c1]
  generalize w.heap.size = g4 at hF hS
  generalize w.alloc (.cells #[.int .i64 g1, .int .i64 g2, .slice A1 g3.length c1] 24) = w at hS ⊢
  refine at_do (d := 2) (s := vS (Instr.alloc 24 true (.tuple #[]))) (v := .pointer (some ⟨w.heap.size, 0, none⟩)) (w' := w.alloc (.cells #[.int .i64 0, .int .i64 0, .slice none 0 0] 24)) hF (by kernel_rfl) (by kernel_rfl) (by kernel_rfl) (fun a hF => ?_)
  have hS : Sep w0 B (w.alloc (.cells #[.int .i64 0, .int .i64 0, .slice none 0 0] 24)) (blk w.heap.size 24 #[.int .i64 0, .int .i64 0, .slice none 0 0] :: (blk g4 24 #[.int .i64 g1, .int .i64 g2, .slice A1 g3.length c1] :: fs)) := hS.box 24 #[.int .i64 0, .int .i64 0, .slice none 0 0]
  generalize w.heap.size = g5 at hF hS
  generalize w.alloc (.cells #[.int .i64 0, .int .i64 0, .slice none 0 0] 24) = w at hS ⊢
  refine at_end [1, 2] [pl 1 (.pointer (some ⟨g4, 0, none⟩)), pl 2 (.pointer (some ⟨g5, 0, none⟩))] hF rfl (by kernel_rfl) (fun hF => ?_)
  refine then_n ?_
  refine seqR ?_
  obtain ⟨r1, hr1, hm⟩ := call_b hm
  refine at_run 2 [⟨false, [], vS (Instr.loadAt 22 (.pointer (some ⟨g4, 2, none⟩))), .slice A1 g3.length c1⟩] [none, some (.slice A1 g3.length c1)] [1, 2, 4] [pl 1 (.pointer (some ⟨g4, 0, none⟩)), pl 2 (.pointer (some ⟨g5, 0, none⟩)), pl 4 (.slice A1 g3.length c1)] hF hS (by kernel_rfl) (by kernel_rfl) ?_ (fun a w hF hS => ?_)
  · exact obs_cons (ob_load Agg22 (fun _ _ hS => (hS.at_ 1 rfl).cell rfl)) <| obs_nil
  refine at_call (f := 42) (args := #[.slice A1 g3.length c1]) (d := 5) hF (by kernel_rfl) (by kernel_rfl) Try.func42 (by kernel_rfl) rfl (gameroomref_Ints_w hr1 hS (fun _ hS => (hr_g3 _ (hS.dropN 2))) _hc_g3 rfl) (fun v a w hR hF => ?_)
  clear hS
  obtain ⟨A2, c2, rfl, hS⟩ := hR
  have hS : Sep w0 B w (own 3 (.slice A2 r1.length c2) (vI r1) :: blk g5 24 #[.int .i64 0, .int .i64 0, .slice none 0 0] :: blk g4 24 #[.int .i64 g1, .int .i64 g2, .slice A1 g3.length c1] :: fs) := hS
  refine at_run 1 [] [] [1, 2, 5, 6] [pl 1 (.pointer (some ⟨g4, 0, none⟩)), pl 2 (.pointer (some ⟨g5, 0, none⟩)), pl 5 (.slice A2 r1.length c2), pl 6 (.pointer (some ⟨g4, 2, none⟩))] hF hS (by kernel_rfl) (by kernel_rfl) ?_ (fun a w hF hS => ?_)
  · exact obs_nil
  obtain ⟨w, hrun, hS⟩ := run_put (P := Try.prog) (t := 22) (u := .slice A2 r1.length c2) (i := 2) (hS.at_ 2 rfl) hi22 hs22 rfl (Nat.lt_of_lt_of_eq (Nat.lt_of_succ_le (Nat.le_of_ble_eq_true (by kernel_rfl))) rfl)
  refine at_skip hF (by kernel_rfl) hrun ?_
  have hS : Sep w0 B w (own 3 (.slice A2 r1.length c2) (vI r1) :: blk g5 24 #[.int .i64 0, .int .i64 0, .slice none 0 0] :: blk g4 24 #[.int .i64 g1, .int .i64 g2, .slice A2 r1.length c2] :: fs) := hS
  refine at_end [1, 2] [pl 1 (.pointer (some ⟨g4, 0, none⟩)), pl 2 (.pointer (some ⟨g5, 0, none⟩))] hF rfl (by kernel_rfl) (fun hF => ?_)
  refine then_n ?_
  refine seqR ?_
  refine at_run 1 [⟨false, [], vS (Instr.loadAt 24 (.pointer (some ⟨g4, 0, none⟩))), .agg #[.int .i64 g1, .int .i64 g2, .slice A2 r1.length c2]⟩] [some (.agg #[.int .i64 g1, .int .i64 g2, .slice A2 r1.length c2])] [2, 7] [pl 2 (.pointer (some ⟨g5, 0, none⟩)), pl 7 (.agg #[.int .i64 g1, .int .i64 g2, .slice A2 r1.length c2])] hF hS (by kernel_rfl) (by kernel_rfl) ?_ (fun a w hF hS => ?_)
  · exact obs_cons (ob_loadA (cs := #[.int .i64 g1, .int .i64 g2, .slice A2 r1.length c2]) (by kernel_rfl) (by kernel_rfl) (fun _ _ hS => (hS.at_ 2 rfl).cellsAt 0 (by rfl))) <| obs_nil
  obtain ⟨w, hrun, hS⟩ := run_putA (P := Try.prog) (t := 24) (us := #[.int .i64 g1, .int .i64 g2, .slice A2 r1.length c2]) (o := 0) (hS.at_ 1 rfl) (by kernel_rfl) (all_one (by kernel_rfl)) (Nat.le_of_ble_eq_true (by kernel_rfl))
  refine at_skip hF (by kernel_rfl) hrun ?_
  have hS : Sep w0 B w (own 3 (.slice A2 r1.length c2) (vI r1) :: blk g5 24 #[.int .i64 g1, .int .i64 g2, .slice A2 r1.length c2] :: blk g4 24 #[.int .i64 g1, .int .i64 g2, .slice A2 r1.length c2] :: fs) := hS
  refine at_end [2] [pl 2 (.pointer (some ⟨g5, 0, none⟩))] hF rfl (by kernel_rfl) (fun hF => ?_)
  refine then_n ?_
  refine wpIn_ret ?_
  have hld0 := run_loadVarA (P := Try.prog) (t := 24) (cs := #[.int .i64 g1, .int .i64 g2, .slice A2 r1.length c2]) (by kernel_rfl) (by kernel_rfl) ((hS.at_ 1 rfl).cellsAt 0 (by rfl))
  have hS := hS.pickN 3 [0] (by decide)
  have hm : some (g1, g2, r1) = some r := hm
  obtain rfl := Option.some.inj hm
  exact retV (rs := [.cell 2 24]) (vs := [.agg #[.int .i64 g1, .int .i64 g2, .slice A2 r1.length c2]]) hF rfl (rv_c (by kernel_rfl) hld0 <| rv_nil) rfl ⟨_, rfl, A2, c2, rfl, hS⟩

noncomputable def rows_May_1_m  (c1 : Int) : Option Bool :=
  some ((decide (c1 < 0)) || (decide ((2 : Int) < c1)))

set_option maxRecDepth 100000 in
set_option maxHeartbeats 4000000 in
theorem rows_May_1_w  {c1 : Int} {r : Bool} {w0 w : World} {B : Nat} {fs : List HP} (hm : rows_May_1_m c1 = some r) (hS : Sep w0 B w (fs)) :
    Calls Try.prog 87 #[.int .i64 c1] w fun e w' => e = .returned (.bool r) ∧ Sep w0 B w' (fs) := by
  unfold rows_May_1_m at hm
  replace hm := start_b hm
  refine enter (l := [.int .i64 c1]) (n := 9) Try.func87 rfl rfl (by simp) (fun a hF => ?_)
  refine reg [] [] [0] [pl 0 (.int .i64 c1)] hF hS Fol (by kernel_rfl) (by kernel_rfl) (by kernel_rfl) ?_ (fun a w hF hS => ?_)
  · exact obs_nil
  refine reg [] [] [2] [pl 2 (.bool ((decide (c1 < 0)) || (decide ((2 : Int) < c1))))] hF hS Fol (by kernel_rfl) (by kernel_rfl) (by kernel_rfl) ?_ (fun a w hF hS => ?_)
  · exact obs_nil
  refine wpIn_ret ?_
  have hm : some ((decide (c1 < 0)) || (decide ((2 : Int) < c1))) = some r := hm
  obtain rfl := Option.some.inj hm
  exact retV (rs := [.tmp 2]) (vs := [.bool ((decide (c1 < 0)) || (decide ((2 : Int) < c1)))]) hF rfl (rv_t (by kernel_rfl) <| rv_nil) rfl ⟨rfl, hS⟩

noncomputable def slices_IndexFunc_J3  (z1 : Int) : Option (St Int (Fl Unit Int)) :=
  some (.next (w64 (z1 + 1)))

noncomputable def slices_IndexFunc_J2  (s1 : List Int) (z1 : Int) : Option (St Int (Fl Unit Int)) :=
  asrt (0 ≤ z1 ∧ z1 < (s1.length : Int)) <| (rows_May_1_m (geti s1 z1)).bind fun r1 => if r1 then (some (.done (.ret z1))) else ((slices_IndexFunc_J3 z1))

noncomputable def slices_IndexFunc_J1  : Option Int :=
  some (-1)

noncomputable def slices_IndexFunc_K1  : (Fl Unit Int) → Option Int :=
  fun (x : (Fl Unit Int)) => match x with | .go _ => slices_IndexFunc_J1 | .ret x => some x

noncomputable def slices_IndexFunc_L1  (s1 : List Int) : Int → Option (St Int (Fl Unit Int)) :=
  fun (x : Int) => match x with | z1 => if (decide (z1 < (s1.length : Int))) then ((slices_IndexFunc_J2 s1 z1)) else (some (.done (.go ())))

noncomputable def slices_IndexFunc_m  (s1 : List Int) : Option Int :=
  (loop (slices_IndexFunc_L1 s1) 0).bind slices_IndexFunc_K1

set_option maxRecDepth 100000 in
set_option maxHeartbeats 4000000 in
theorem slices_IndexFunc_w  {A1 : Option Addr} {c1 : Nat} {n1 : Nat} {s1 : List Int} {r : Int} {w0 w : World} {B : Nat} {fs : List HP} (hm : slices_IndexFunc_m s1 = some r) (hS : Sep w0 B w (fs)) (hr_s1 : RdF w0 B fs A1 (vI s1)) (_hc_s1 : s1.length ≤ c1) (_hn_s1 : n1 = s1.length) :
    Calls Try.prog 91 #[.slice A1 n1 c1, .func (.func 87) #[] #[]] w fun e w' => e = .returned (.int .i64 r) ∧ Sep w0 B w' (fs) := by
  obtain ⟨i3, hi3, hz3, hs3, hb3⟩ := info_parts Info3
  obtain rfl := _hn_s1
  unfold slices_IndexFunc_m at hm
  replace hm := start_b hm
  refine enter (l := [.slice A1 s1.length c1, .func (.func 87) #[] #[]]) (n := 19) Try.func91 rfl rfl (by simp) (fun a hF => ?_)
  refine reg [] [] [0, 1] [pl 0 (.slice A1 s1.length c1), pl 1 (.func (.func 87) #[] #[])] hF hS Fol (by kernel_rfl) (by kernel_rfl) (by kernel_rfl) ?_ (fun a w hF hS => ?_)
  · exact obs_nil
  refine seq_cut (fun a w => Fr 19 [] a ∧ Sep w0 B w (fs) ∧ (slices_IndexFunc_J1).bind some = some r) ?_ ?_
  · rintro a w ⟨hF, hS, hm⟩
    unfold slices_IndexFunc_J1 at hm
    refine reg [] [] [4] [pl 4 (.int .i64 (-1))] hF hS Fol (by kernel_rfl) (by kernel_rfl) (by kernel_rfl) ?_ (fun a w hF hS => ?_)
    · exact obs_nil
    refine wpIn_ret ?_
    have hm : some (-1) = some r := hm
    obtain rfl := Option.some.inj hm
    exact retV (rs := [.tmp 4]) (vs := [.int .i64 (-1)]) hF rfl (rv_t (by kernel_rfl) <| rv_nil) rfl ⟨rfl, hS⟩
  · refine reg [] [] [0, 1, 7, 8] [pl 0 (.slice A1 s1.length c1), pl 1 (.func (.func 87) #[] #[]), pl 7 (.int .i64 (s1.length : Int)), pl 8 (.int .i64 0)] hF hS Fol (by kernel_rfl) (by kernel_rfl) (by kernel_rfl) ?_ (fun a w hF hS => ?_)
    · exact obs_nil
    refine wpIn_block ?_
    refine wp_loop_model (S := Int) (R := (Fl Unit Int)) (slices_IndexFunc_L1 s1) (fun x => (slices_IndexFunc_K1 x).bind some) r (fun (x : Int) a w => Fr 19 [pl 0 (.slice A1 s1.length c1), pl 1 (.func (.func 87) #[] #[]), pl 7 (.int .i64 (s1.length : Int)), pl 8 (.int .i64 x)] a ∧ Sep w0 B w (fs)) (assoc_b hm) ⟨hF.weak [0, 1, 7, 8] (by kernel_rfl), hS⟩ ?_
    clear hF hS hm
    rintro nn1 z1 a w ⟨hF, hS⟩ hm
    generalize hφ1 : stK (slices_IndexFunc_L1 s1) nn1 (fun x => (slices_IndexFunc_K1 x).bind some) = φ1 at hm
    unfold slices_IndexFunc_L1 at hm
    dsimp only at hm
    refine reg [] [] [0, 1, 7, 8, 9] [pl 0 (.slice A1 s1.length c1), pl 1 (.func (.func 87) #[] #[]), pl 7 (.int .i64 (s1.length : Int)), pl 8 (.int .i64 z1), pl 9 (.bool (decide (z1 < (s1.length : Int))))] hF hS Fol (by kernel_rfl) (by kernel_rfl) (by kernel_rfl) ?_ (fun a w hF hS => ?_)
    · exact obs_nil
    refine seq_cut (fun a w => Fr 19 [pl 0 (.slice A1 s1.length c1), pl 1 (.func (.func 87) #[] #[]), pl 7 (.int .i64 (s1.length : Int)), pl 8 (.int .i64 z1)] a ∧ Sep w0 B w (fs) ∧ ((slices_IndexFunc_J2 s1 z1)).bind φ1 = some r) ?_ ?_
    · rintro a w ⟨hF, hS, hm⟩
      unfold slices_IndexFunc_J2 at hm
      refine seq_cut (fun a w => Fr 19 [pl 0 (.slice A1 s1.length c1), pl 1 (.func (.func 87) #[] #[]), pl 7 (.int .i64 (s1.length : Int)), pl 8 (.int .i64 z1)] a ∧ Sep w0 B w (fs) ∧ ((slices_IndexFunc_J3 z1)).bind φ1 = some r) ?_ ?_
      · rintro a w ⟨hF, hS, hm⟩
        unfold slices_IndexFunc_J3 at hm
        refine reg1 [] [] [0, 1, 7, 8] [pl 0 (.slice A1 s1.length c1), pl 1 (.func (.func 87) #[] #[]), pl 7 (.int .i64 (s1.length : Int)), pl 8 (.int .i64 (w64 (z1 + 1)))] hF hS Fol (by kernel_rfl) (by kernel_rfl) (by kernel_rfl) ?_ (fun a w hF hS => ?_)
        · exact obs_nil
        refine then_n ?_
        rw [← hφ1] at hm
        exact ⟨(w64 (z1 + 1)), ⟨hF.weak [0, 1, 7, 8] (by kernel_rfl), hS⟩, hm⟩
      · refine wpIn_block ?_
        refine reg [] [] [0, 1, 5, 7, 8] [pl 0 (.slice A1 s1.length c1), pl 1 (.func (.func 87) #[] #[]), pl 5 (.int .i64 z1), pl 7 (.int .i64 (s1.length : Int)), pl 8 (.int .i64 z1)] hF hS Fol (by kernel_rfl) (by kernel_rfl) (by kernel_rfl) ?_ (fun a w hF hS => ?_)
        · exact obs_nil
        obtain ⟨hp1, hm⟩ := asrt_b hm
        obtain ⟨r1, hr1, hm⟩ := call_b hm
        refine reg [⟨true, [], vS (Instr.indexAt 22 (.slice A1 s1.length c1) (.int .i64 z1)), .pointer (some (sAddr A1 z1))⟩, ⟨false, [], vS (Instr.loadAt 3 (.pointer (some (sAddr A1 z1)))), .int .i64 (geti s1 z1)⟩, ⟨false, [], callFunc 87 #[.int .i64 (geti s1 z1)], .bool r1⟩] [none, none, none, some (.pointer (some (sAddr A1 z1))), some (.int .i64 (geti s1 z1)), some (.bool r1)] [0, 1, 5, 7, 8, 16] [pl 0 (.slice A1 s1.length c1), pl 1 (.func (.func 87) #[] #[]), pl 5 (.int .i64 z1), pl 7 (.int .i64 (s1.length : Int)), pl 8 (.int .i64 z1), pl 16 (.bool r1)] hF hS Fol (by kernel_rfl) (by kernel_rfl) (by kernel_rfl) ?_ (fun a w hF hS => ?_)
        · exact obs_cons (ob_ix1 (f := (Value.int .i64)) (m := s1) Und22 hi3 hs3 (hr_s1 _ (hS.dropN 0)) rfl (fun _ => hp1)) <| obs_cons (ob_get1 (n := s1.length) (m := s1) (Value.int .i64) (0 : Int) Agg3 (fun _ hS => ⟨_, (hr_s1 _ (hS.dropN 0))⟩) (fun _ hS => rfl) (fun _ => hp1)) <| obs_cons (ob_call Try.func87 (by kernel_rfl) rfl (fun _ _ hS => rows_May_1_w hr1 hS )) <| obs_nil
        refine cond_ev (t := 16) (b := r1) hF (by kernel_rfl) (fun hb => ?_) (fun hb => ?_)
        · replace hm := if_t hm hb
          refine reg [] [] [4] [pl 4 (.int .i64 z1)] hF hS Fol (by kernel_rfl) (by kernel_rfl) (by kernel_rfl) ?_ (fun a w hF hS => ?_)
          · exact obs_nil
          refine wpIn_ret ?_
          refine block_r (then_r (then_r (block_r (then_r ?_))))
          rw [← hφ1] at hm
          replace hm := done_b hm
          unfold slices_IndexFunc_K1 at hm
          try dsimp only at hm
          have hm : some z1 = some r := hm
          obtain rfl := Option.some.inj hm
          exact retV (rs := [.tmp 4]) (vs := [.int .i64 z1]) hF rfl (rv_t (by kernel_rfl) <| rv_nil) rfl ⟨rfl, hS⟩
        · replace hm := if_f hm hb
          refine wpIn_skip ?_
          refine block_n ?_
          refine then_n ?_
          exact ⟨hF.weak [0, 1, 7, 8] (by kernel_rfl), hS, hm⟩
    · refine cond_ev (t := 9) (b := decide (z1 < (s1.length : Int))) hF (by kernel_rfl) (fun hb => ?_) (fun hb => ?_)
      · replace hm := if_t hm hb
        refine wpIn_skip ?_
        refine then_n ?_
        exact ⟨hF.weak [0, 1, 7, 8] (by kernel_rfl), hS, hm⟩
      · replace hm := if_f hm hb
        refine wpIn_exit ?_
        refine then_e (then_e (block_e (then_n ?_)))
        rw [← hφ1] at hm
        replace hm := done_b hm
        unfold slices_IndexFunc_K1 at hm
        try dsimp only at hm
        have hm : (slices_IndexFunc_J1).bind some = some r := hm
        exact ⟨hF.weak [] (by kernel_rfl), hS, hm⟩

noncomputable def slices_ContainsFunc_m  (s1 : List Int) : Option Bool :=
  (slices_IndexFunc_m s1).bind fun r1 => some (decide ((0 : Int) ≤ r1))

set_option maxRecDepth 100000 in
set_option maxHeartbeats 4000000 in
theorem slices_ContainsFunc_w  {A1 : Option Addr} {c1 : Nat} {n1 : Nat} {s1 : List Int} {r : Bool} {w0 w : World} {B : Nat} {fs : List HP} (hm : slices_ContainsFunc_m s1 = some r) (hS : Sep w0 B w (fs)) (hr_s1 : RdF w0 B fs A1 (vI s1)) (_hc_s1 : s1.length ≤ c1) (_hn_s1 : n1 = s1.length) :
    Calls Try.prog 52 #[.slice A1 n1 c1, .func (.func 87) #[] #[]] w fun e w' => e = .returned (.bool r) ∧ Sep w0 B w' (fs) := by
  obtain ⟨i3, hi3, hz3, hs3, hb3⟩ := info_parts Info3
  obtain rfl := _hn_s1
  unfold slices_ContainsFunc_m at hm
  replace hm := start_b hm
  refine enter (l := [.slice A1 s1.length c1, .func (.func 87) #[] #[]]) (n := 9) Try.func52 rfl rfl (by simp) (fun a hF => ?_)
  refine reg [] [] [0, 1] [pl 0 (.slice A1 s1.length c1), pl 1 (.func (.func 87) #[] #[])] hF hS Fol (by kernel_rfl) (by kernel_rfl) (by kernel_rfl) ?_ (fun a w hF hS => ?_)
  · exact obs_nil
  obtain ⟨r1, hr1, hm⟩ := call_b hm
  refine reg [⟨false, [], callFunc 91 #[.slice A1 s1.length c1, .func (.func 87) #[] #[]], .int .i64 r1⟩] [none, none, some (.int .i64 r1), none, none] [4] [pl 4 (.bool (decide ((0 : Int) ≤ r1)))] hF hS Fol (by kernel_rfl) (by kernel_rfl) (by kernel_rfl) ?_ (fun a w hF hS => ?_)
  · exact obs_cons (ob_call Try.func91 (by kernel_rfl) rfl (fun _ _ hS => slices_IndexFunc_w hr1 hS (fun _ hS => (hr_s1 _ (hS.dropN 0))) _hc_s1 rfl)) <| obs_nil
  refine wpIn_ret ?_
  have hm : some (decide ((0 : Int) ≤ r1)) = some r := hm
  obtain rfl := Option.some.inj hm
  exact retV (rs := [.tmp 4]) (vs := [.bool (decide ((0 : Int) ≤ r1))]) hF rfl (rv_t (by kernel_rfl) <| rv_nil) rfl ⟨rfl, hS⟩

noncomputable def rows_May_m  (g1 : Int) (g2 : Int) (g3 : List Int) : Option Bool :=
  ((if (((((decide ((1 : Int) ≤ g1)) && (decide (g1 ≤ 10))) && (decide ((1 : Int) ≤ g2))) && (decide (g2 ≤ 10))) && ((g3.length : Int) == (w64 (g1 * g2)))) then slices_ContainsFunc_m g3 else some false)).bind fun r1 => some ((((((decide ((1 : Int) ≤ g1)) && (decide (g1 ≤ 10))) && (decide ((1 : Int) ≤ g2))) && (decide (g2 ≤ 10))) && ((g3.length : Int) == (w64 (g1 * g2)))) && (!r1))

set_option maxRecDepth 100000 in
set_option maxHeartbeats 4000000 in
theorem rows_May_w  {g1 : Int} {g2 : Int} {A1 : Option Addr} {c1 : Nat} {n1 : Nat} {g3 : List Int} {r : Bool} {w0 w : World} {B : Nat} {fs : List HP} (hm : rows_May_m g1 g2 g3 = some r) (hS : Sep w0 B w (fs)) (hr_g3 : RdF w0 B fs A1 (vI g3)) (_hc_g3 : g3.length ≤ c1) (_hn_g3 : n1 = g3.length) :
    Calls Try.prog 38 #[.agg #[.int .i64 g1, .int .i64 g2, .slice A1 n1 c1]] w fun e w' => e = .returned (.bool r) ∧ Sep w0 B w' (fs) := by
  obtain ⟨i3, hi3, hz3, hs3, hb3⟩ := info_parts Info3
  obtain rfl := _hn_g3
  unfold rows_May_m at hm
  replace hm := start_b hm
  refine enter (l := [.agg #[.int .i64 g1, .int .i64 g2, .slice A1 g3.length c1]]) (n := 38) Try.func38 rfl rfl (by simp) (fun a hF => ?_)
  refine seqR ?_
  refine at_do (d := 1) (s := vS (Instr.box 24 (.agg #[.int .i64 g1, .int .i64 g2, .slice A1 g3.length c1]))) (v := .pointer (some ⟨w.heap.size, 0, none⟩)) (w' := w.alloc (.cells #[.int .i64 g1, .int .i64 g2, .slice A1 g3.length c1] 24)) hF (by kernel_rfl) (by kernel_rfl) (by kernel_rfl) (fun a hF => ?_)
  have hS : Sep w0 B (w.alloc (.cells #[.int .i64 g1, .int .i64 g2, .slice A1 g3.length c1] 24)) (blk w.heap.size 24 #[.int .i64 g1, .int .i64 g2, .slice A1 g3.length c1] :: (fs)) := hS.box 24 #[.int .i64 g1, .int .i64 g2, .slice A1 g3.length c1]
  generalize w.heap.size = g4 at hF hS
  generalize w.alloc (.cells #[.int .i64 g1, .int .i64 g2, .slice A1 g3.length c1] 24) = w at hS ⊢
  refine at_run 1 [] [] [1] [pl 1 (.pointer (some ⟨g4, 0, none⟩))] hF hS (by kernel_rfl) (by kernel_rfl) ?_ (fun a w hF hS => ?_)
  · exact obs_nil
  refine at_end [1] [pl 1 (.pointer (some ⟨g4, 0, none⟩))] hF rfl (by kernel_rfl) (fun hF => ?_)
  refine then_n ?_
  obtain ⟨r1, hr1, hm⟩ := call_b hm
  refine reg [⟨false, [], vS (Instr.loadAt 3 (.pointer (some ⟨g4, 0, none⟩))), .int .i64 g1⟩, ⟨false, [(decide ((1 : Int) ≤ g1), true)], vS (Instr.loadAt 3 (.pointer (some ⟨g4, 0, none⟩))), .int .i64 g1⟩, ⟨false, [((decide ((1 : Int) ≤ g1)) && (decide (g1 ≤ 10)), true)], vS (Instr.loadAt 3 (.pointer (some ⟨g4, 1, none⟩))), .int .i64 g2⟩, ⟨false, [(((decide ((1 : Int) ≤ g1)) && (decide (g1 ≤ 10))) && (decide ((1 : Int) ≤ g2)), true)], vS (Instr.loadAt 3 (.pointer (some ⟨g4, 1, none⟩))), .int .i64 g2⟩, ⟨false, [((((decide ((1 : Int) ≤ g1)) && (decide (g1 ≤ 10))) && (decide ((1 : Int) ≤ g2))) && (decide (g2 ≤ 10)), true)], vS (Instr.loadAt 22 (.pointer (some ⟨g4, 2, none⟩))), .slice A1 g3.length c1⟩, ⟨false, [((((decide ((1 : Int) ≤ g1)) && (decide (g1 ≤ 10))) && (decide ((1 : Int) ≤ g2))) && (decide (g2 ≤ 10)), true)], vS (Instr.loadAt 3 (.pointer (some ⟨g4, 0, none⟩))), .int .i64 g1⟩, ⟨false, [((((decide ((1 : Int) ≤ g1)) && (decide (g1 ≤ 10))) && (decide ((1 : Int) ≤ g2))) && (decide (g2 ≤ 10)), true)], vS (Instr.loadAt 3 (.pointer (some ⟨g4, 1, none⟩))), .int .i64 g2⟩, ⟨false, [(((((decide ((1 : Int) ≤ g1)) && (decide (g1 ≤ 10))) && (decide ((1 : Int) ≤ g2))) && (decide (g2 ≤ 10))) && ((g3.length : Int) == (w64 (g1 * g2))), true)], vS (Instr.loadAt 22 (.pointer (some ⟨g4, 2, none⟩))), .slice A1 g3.length c1⟩, ⟨false, [(((((decide ((1 : Int) ≤ g1)) && (decide (g1 ≤ 10))) && (decide ((1 : Int) ≤ g2))) && (decide (g2 ≤ 10))) && ((g3.length : Int) == (w64 (g1 * g2))), true)], callFunc 52 #[.slice A1 g3.length c1, .func (.func 87) #[] #[]], .bool r1⟩] [none, some (.int .i64 g1), none, none, none, some (.int .i64 g1), none, none, none, none, some (.int .i64 g2), none, none, none, none, some (.int .i64 g2), none, none, none, none, some (.slice A1 g3.length c1), none, none, some (.int .i64 g1), none, some (.int .i64 g2), none, none, none, none, none, some (.slice A1 g3.length c1), some (.bool r1), none, none, none] [2] [pl 2 (.bool ((((((decide ((1 : Int) ≤ g1)) && (decide (g1 ≤ 10))) && (decide ((1 : Int) ≤ g2))) && (decide (g2 ≤ 10))) && ((g3.length : Int) == (w64 (g1 * g2)))) && (!r1)))] hF hS Fol (by kernel_rfl) (by kernel_rfl) (by kernel_rfl) ?_ (fun a w hF hS => ?_)
  · exact obs_cons (ob_load Agg3 (fun _ _ hS => (hS.at_ 0 rfl).cell rfl)) <| obs_cons (ob_load Agg3 (fun _ _ hS => (hS.at_ 0 rfl).cell rfl)) <| obs_cons (ob_load Agg3 (fun _ _ hS => (hS.at_ 0 rfl).cell rfl)) <| obs_cons (ob_load Agg3 (fun _ _ hS => (hS.at_ 0 rfl).cell rfl)) <| obs_cons (ob_load Agg22 (fun _ _ hS => (hS.at_ 0 rfl).cell rfl)) <| obs_cons (ob_load Agg3 (fun _ _ hS => (hS.at_ 0 rfl).cell rfl)) <| obs_cons (ob_load Agg3 (fun _ _ hS => (hS.at_ 0 rfl).cell rfl)) <| obs_cons (ob_load Agg22 (fun _ _ hS => (hS.at_ 0 rfl).cell rfl)) <| obs_cons (ob_call Try.func52 (by kernel_rfl) rfl (fun hy _ hS => slices_ContainsFunc_w (ite_some hr1 (by rw [show (((((decide ((1 : Int) ≤ g1)) && (decide (g1 ≤ 10))) && (decide ((1 : Int) ≤ g2))) && (decide (g2 ≤ 10))) && ((g3.length : Int) == (w64 (g1 * g2)))) = true from hy (((((decide ((1 : Int) ≤ g1)) && (decide (g1 ≤ 10))) && (decide ((1 : Int) ≤ g2))) && (decide (g2 ≤ 10))) && ((g3.length : Int) == (w64 (g1 * g2))), true) (by simp)]; try rfl)) hS (fun _ hS => (hr_g3 _ (hS.dropN 1))) _hc_g3 rfl)) <| obs_nil
  refine wpIn_ret ?_
  have hS := hS.pickN 1 [] (by decide)
  have hm : some ((((((decide ((1 : Int) ≤ g1)) && (decide (g1 ≤ 10))) && (decide ((1 : Int) ≤ g2))) && (decide (g2 ≤ 10))) && ((g3.length : Int) == (w64 (g1 * g2)))) && (!r1)) = some r := hm
  obtain rfl := Option.some.inj hm
  exact retV (rs := [.tmp 2]) (vs := [.bool ((((((decide ((1 : Int) ≤ g1)) && (decide (g1 ≤ 10))) && (decide ((1 : Int) ≤ g2))) && (decide (g2 ≤ 10))) && ((g3.length : Int) == (w64 (g1 * g2)))) && (!r1))]) hF rfl (rv_t (by kernel_rfl) <| rv_nil) rfl ⟨rfl, hS⟩

noncomputable def pegs_many_J3  (z1 : Int) (n4 : Int) : Option (St (Int × Int) Int) :=
  some (.next (n4, (w64 (z1 + 1))))

noncomputable def pegs_many_J2  (g3 : List Int) (kind1 : Int) (n2 : Int) (z1 : Int) : Option (St (Int × Int) Int) :=
  asrt (0 ≤ z1 ∧ z1 < (g3.length : Int)) <| if ((geti g3 z1) == kind1) then ((pegs_many_J3 z1) (w64 (n2 + 1))) else ((pegs_many_J3 z1) n2)

noncomputable def pegs_many_J1  (n3 : Int) : Option Int :=
  some n3

noncomputable def pegs_many_K1  : Int → Option Int :=
  fun (x : Int) => match x with | n3 => pegs_many_J1 n3

noncomputable def pegs_many_L1  (g3 : List Int) (kind1 : Int) : (Int × Int) → Option (St (Int × Int) Int) :=
  fun (x : (Int × Int)) => match x with | (n2, z1) => if (decide (z1 < (g3.length : Int))) then ((pegs_many_J2 g3 kind1 n2 z1)) else (some (.done n2))

noncomputable def pegs_many_m  (g1 : Int) (g2 : Int) (g3 : List Int) (kind1 : Int) : Option Int :=
  (loop (pegs_many_L1 g3 kind1) (0, 0)).bind pegs_many_K1

set_option maxRecDepth 100000 in
set_option maxHeartbeats 4000000 in
theorem pegs_many_w  {g1 : Int} {g2 : Int} {A1 : Option Addr} {c1 : Nat} {n1 : Nat} {g3 : List Int} {kind1 : Int} {r : Int} {w0 w : World} {B : Nat} {fs : List HP} (hm : pegs_many_m g1 g2 g3 kind1 = some r) (hS : Sep w0 B w (fs)) (hr_g3 : RdF w0 B fs A1 (vI g3)) (_hc_g3 : g3.length ≤ c1) (_hn_g3 : n1 = g3.length) :
    Calls Try.prog 69 #[.agg #[.int .i64 g1, .int .i64 g2, .slice A1 n1 c1], .int .i64 kind1] w fun e w' => e = .returned (.int .i64 r) ∧ Sep w0 B w' (fs) := by
  obtain ⟨i3, hi3, hz3, hs3, hb3⟩ := info_parts Info3
  obtain rfl := _hn_g3
  unfold pegs_many_m at hm
  replace hm := start_b hm
  refine enter (l := [.agg #[.int .i64 g1, .int .i64 g2, .slice A1 g3.length c1], .int .i64 kind1]) (n := 22) Try.func69 rfl rfl (by simp) (fun a hF => ?_)
  refine seqR ?_
  refine at_do (d := 2) (s := vS (Instr.box 24 (.agg #[.int .i64 g1, .int .i64 g2, .slice A1 g3.length c1]))) (v := .pointer (some ⟨w.heap.size, 0, none⟩)) (w' := w.alloc (.cells #[.int .i64 g1, .int .i64 g2, .slice A1 g3.length c1] 24)) hF (by kernel_rfl) (by kernel_rfl) (by kernel_rfl) (fun a hF => ?_)
  have hS : Sep w0 B (w.alloc (.cells #[.int .i64 g1, .int .i64 g2, .slice A1 g3.length c1] 24)) (blk w.heap.size 24 #[.int .i64 g1, .int .i64 g2, .slice A1 g3.length c1] :: (fs)) := hS.box 24 #[.int .i64 g1, .int .i64 g2, .slice A1 g3.length c1]
  generalize w.heap.size = g4 at hF hS
  generalize w.alloc (.cells #[.int .i64 g1, .int .i64 g2, .slice A1 g3.length c1] 24) = w at hS ⊢
  refine at_run 1 [] [] [1, 2] [pl 1 (.int .i64 kind1), pl 2 (.pointer (some ⟨g4, 0, none⟩))] hF hS (by kernel_rfl) (by kernel_rfl) ?_ (fun a w hF hS => ?_)
  · exact obs_nil
  refine at_end [1, 2] [pl 1 (.int .i64 kind1), pl 2 (.pointer (some ⟨g4, 0, none⟩))] hF rfl (by kernel_rfl) (fun hF => ?_)
  refine then_n ?_
  refine reg [] [] [1, 2, 5] [pl 1 (.int .i64 kind1), pl 2 (.pointer (some ⟨g4, 0, none⟩)), pl 5 (.int .i64 0)] hF hS Fol (by kernel_rfl) (by kernel_rfl) (by kernel_rfl) ?_ (fun a w hF hS => ?_)
  · exact obs_nil
  refine seq_cut (fun a w => ∃ (n3 : Int), Fr 22 [pl 5 (.int .i64 n3)] a ∧ Sep w0 B w (fs) ∧ (pegs_many_J1 n3).bind some = some r) ?_ ?_
  · rintro a w ⟨n3, hF, hS, hm⟩
    unfold pegs_many_J1 at hm
    refine reg [] [] [4] [pl 4 (.int .i64 n3)] hF hS Fol (by kernel_rfl) (by kernel_rfl) (by kernel_rfl) ?_ (fun a w hF hS => ?_)
    · exact obs_nil
    refine wpIn_ret ?_
    have hm : some n3 = some r := hm
    obtain rfl := Option.some.inj hm
    exact retV (rs := [.tmp 4]) (vs := [.int .i64 n3]) hF rfl (rv_t (by kernel_rfl) <| rv_nil) rfl ⟨rfl, hS⟩
  · refine reg [⟨false, [], vS (Instr.loadAt 22 (.pointer (some ⟨g4, 2, none⟩))), .slice A1 g3.length c1⟩] [none, some (.slice A1 g3.length c1), none, none] [1, 5, 9, 10, 11] [pl 1 (.int .i64 kind1), pl 5 (.int .i64 0), pl 9 (.slice A1 g3.length c1), pl 10 (.int .i64 (g3.length : Int)), pl 11 (.int .i64 0)] hF hS Fol (by kernel_rfl) (by kernel_rfl) (by kernel_rfl) ?_ (fun a w hF hS => ?_)
    · exact obs_cons (ob_load Agg22 (fun _ _ hS => (hS.at_ 0 rfl).cell rfl)) <| obs_nil
    refine wpIn_block ?_
    have hS := hS.pickN 1 [] (by decide)
    refine wp_loop_model (S := (Int × Int)) (R := Int) (pegs_many_L1 g3 kind1) (fun x => (pegs_many_K1 x).bind some) r (fun (x : (Int × Int)) a w => Fr 22 [pl 1 (.int .i64 kind1), pl 5 (.int .i64 x.1), pl 9 (.slice A1 g3.length c1), pl 10 (.int .i64 (g3.length : Int)), pl 11 (.int .i64 x.2)] a ∧ Sep w0 B w (fs)) (assoc_b hm) ⟨hF.weak [1, 5, 9, 10, 11] (by kernel_rfl), hS⟩ ?_
    clear hF hS hm
    rintro nn1 ⟨n2, z1⟩ a w ⟨hF, hS⟩ hm
    generalize hφ1 : stK (pegs_many_L1 g3 kind1) nn1 (fun x => (pegs_many_K1 x).bind some) = φ1 at hm
    unfold pegs_many_L1 at hm
    dsimp only at hF hS hm
    refine reg [] [] [1, 5, 9, 10, 11, 12] [pl 1 (.int .i64 kind1), pl 5 (.int .i64 n2), pl 9 (.slice A1 g3.length c1), pl 10 (.int .i64 (g3.length : Int)), pl 11 (.int .i64 z1), pl 12 (.bool (decide (z1 < (g3.length : Int))))] hF hS Fol (by kernel_rfl) (by kernel_rfl) (by kernel_rfl) ?_ (fun a w hF hS => ?_)
    · exact obs_nil
    refine seq_cut (fun a w => Fr 22 [pl 1 (.int .i64 kind1), pl 5 (.int .i64 n2), pl 9 (.slice A1 g3.length c1), pl 10 (.int .i64 (g3.length : Int)), pl 11 (.int .i64 z1)] a ∧ Sep w0 B w (fs) ∧ ((pegs_many_J2 g3 kind1 n2 z1)).bind φ1 = some r) ?_ ?_
    · rintro a w ⟨hF, hS, hm⟩
      unfold pegs_many_J2 at hm
      refine seq_cut (fun a w => ∃ (n4 : Int), Fr 22 [pl 1 (.int .i64 kind1), pl 5 (.int .i64 n4), pl 9 (.slice A1 g3.length c1), pl 10 (.int .i64 (g3.length : Int)), pl 11 (.int .i64 z1)] a ∧ Sep w0 B w (fs) ∧ ((pegs_many_J3 z1) n4).bind φ1 = some r) ?_ ?_
      · rintro a w ⟨n4, hF, hS, hm⟩
        unfold pegs_many_J3 at hm
        refine reg1 [] [] [1, 5, 9, 10, 11] [pl 1 (.int .i64 kind1), pl 5 (.int .i64 n4), pl 9 (.slice A1 g3.length c1), pl 10 (.int .i64 (g3.length : Int)), pl 11 (.int .i64 (w64 (z1 + 1)))] hF hS Fol (by kernel_rfl) (by kernel_rfl) (by kernel_rfl) ?_ (fun a w hF hS => ?_)
        · exact obs_nil
        refine then_n ?_
        rw [← hφ1] at hm
        exact ⟨(n4, (w64 (z1 + 1))), ⟨hF.weak [1, 5, 9, 10, 11] (by kernel_rfl), hS⟩, hm⟩
      · refine wpIn_block ?_
        obtain ⟨hp1, hm⟩ := asrt_b hm
        refine reg [⟨true, [], vS (Instr.indexAt 22 (.slice A1 g3.length c1) (.int .i64 z1)), .pointer (some (sAddr A1 z1))⟩, ⟨false, [], vS (Instr.loadAt 3 (.pointer (some (sAddr A1 z1)))), .int .i64 (geti g3 z1)⟩] [some (.pointer (some (sAddr A1 z1))), some (.int .i64 (geti g3 z1)), none] [1, 5, 7, 9, 10, 11] [pl 1 (.int .i64 kind1), pl 5 (.int .i64 n2), pl 7 (.int .i64 (geti g3 z1)), pl 9 (.slice A1 g3.length c1), pl 10 (.int .i64 (g3.length : Int)), pl 11 (.int .i64 z1)] hF hS Fol (by kernel_rfl) (by kernel_rfl) (by kernel_rfl) ?_ (fun a w hF hS => ?_)
        · exact obs_cons (ob_ix1 (f := (Value.int .i64)) (m := g3) Und22 hi3 hs3 (hr_g3 _ (hS.dropN 0)) rfl (fun _ => hp1)) <| obs_cons (ob_get1 (n := g3.length) (m := g3) (Value.int .i64) (0 : Int) Agg3 (fun _ hS => ⟨_, (hr_g3 _ (hS.dropN 0))⟩) (fun _ hS => rfl) (fun _ => hp1)) <| obs_nil
        refine reg [] [] [1, 5, 9, 10, 11, 17] [pl 1 (.int .i64 kind1), pl 5 (.int .i64 n2), pl 9 (.slice A1 g3.length c1), pl 10 (.int .i64 (g3.length : Int)), pl 11 (.int .i64 z1), pl 17 (.bool ((geti g3 z1) == kind1))] hF hS Fol (by kernel_rfl) (by kernel_rfl) (by kernel_rfl) ?_ (fun a w hF hS => ?_)
        · exact obs_nil
        refine cond_ev (t := 17) (b := ((geti g3 z1) == kind1)) hF (by kernel_rfl) (fun hb => ?_) (fun hb => ?_)
        · replace hm := if_t hm hb
          refine reg1 [] [] [1, 5, 9, 10, 11] [pl 1 (.int .i64 kind1), pl 5 (.int .i64 (w64 (n2 + 1))), pl 9 (.slice A1 g3.length c1), pl 10 (.int .i64 (g3.length : Int)), pl 11 (.int .i64 z1)] hF hS Fol (by kernel_rfl) (by kernel_rfl) (by kernel_rfl) ?_ (fun a w hF hS => ?_)
          · exact obs_nil
          refine block_n ?_
          refine then_n ?_
          exact ⟨(w64 (n2 + 1)), hF.weak [1, 5, 9, 10, 11] (by kernel_rfl), hS, hm⟩
        · replace hm := if_f hm hb
          refine wpIn_skip ?_
          refine block_n ?_
          refine then_n ?_
          exact ⟨n2, hF.weak [1, 5, 9, 10, 11] (by kernel_rfl), hS, hm⟩
    · refine cond_ev (t := 12) (b := decide (z1 < (g3.length : Int))) hF (by kernel_rfl) (fun hb => ?_) (fun hb => ?_)
      · replace hm := if_t hm hb
        refine wpIn_skip ?_
        refine then_n ?_
        exact ⟨hF.weak [1, 5, 9, 10, 11] (by kernel_rfl), hS, hm⟩
      · replace hm := if_f hm hb
        refine wpIn_exit ?_
        refine then_e (then_e (block_e (then_n ?_)))
        rw [← hφ1] at hm
        replace hm := done_b hm
        unfold pegs_many_K1 at hm
        try dsimp only at hm
        have hm : (pegs_many_J1 n2).bind some = some r := hm
        exact ⟨n2, hF.weak [5] (by kernel_rfl), hS, hm⟩

noncomputable def pegs_great_m  (g1 : Int) (g2 : Int) (g3 : List Int) : Option Bool :=
  (pegs_many_m g1 g2 g3 1).bind fun r1 => ((if (!(decide ((7 : Int) < r1))) then pegs_many_m g1 g2 g3 1 else some 0)).bind fun r2 => ((if (!(decide ((7 : Int) < r1))) then pegs_many_m g1 g2 g3 0 else some 0)).bind fun r3 => some ((decide ((7 : Int) < r1)) || (decide ((20 : Int) < (w64 (r2 + r3)))))

set_option maxRecDepth 100000 in
set_option maxHeartbeats 4000000 in
theorem pegs_great_w  {g1 : Int} {g2 : Int} {A1 : Option Addr} {c1 : Nat} {n1 : Nat} {g3 : List Int} {r : Bool} {w0 w : World} {B : Nat} {fs : List HP} (hm : pegs_great_m g1 g2 g3 = some r) (hS : Sep w0 B w (fs)) (hr_g3 : RdF w0 B fs A1 (vI g3)) (_hc_g3 : g3.length ≤ c1) (_hn_g3 : n1 = g3.length) :
    Calls Try.prog 67 #[.agg #[.int .i64 g1, .int .i64 g2, .slice A1 n1 c1]] w fun e w' => e = .returned (.bool r) ∧ Sep w0 B w' (fs) := by
  obtain ⟨i3, hi3, hz3, hs3, hb3⟩ := info_parts Info3
  obtain rfl := _hn_g3
  unfold pegs_great_m at hm
  replace hm := start_b hm
  refine enter (l := [.agg #[.int .i64 g1, .int .i64 g2, .slice A1 g3.length c1]]) (n := 14) Try.func67 rfl rfl (by simp) (fun a hF => ?_)
  refine seqR ?_
  refine at_do (d := 1) (s := vS (Instr.box 24 (.agg #[.int .i64 g1, .int .i64 g2, .slice A1 g3.length c1]))) (v := .pointer (some ⟨w.heap.size, 0, none⟩)) (w' := w.alloc (.cells #[.int .i64 g1, .int .i64 g2, .slice A1 g3.length c1] 24)) hF (by kernel_rfl) (by kernel_rfl) (by kernel_rfl) (fun a hF => ?_)
  have hS : Sep w0 B (w.alloc (.cells #[.int .i64 g1, .int .i64 g2, .slice A1 g3.length c1] 24)) (blk w.heap.size 24 #[.int .i64 g1, .int .i64 g2, .slice A1 g3.length c1] :: (fs)) := hS.box 24 #[.int .i64 g1, .int .i64 g2, .slice A1 g3.length c1]
  generalize w.heap.size = g4 at hF hS
  generalize w.alloc (.cells #[.int .i64 g1, .int .i64 g2, .slice A1 g3.length c1] 24) = w at hS ⊢
  refine at_run 1 [] [] [1] [pl 1 (.pointer (some ⟨g4, 0, none⟩))] hF hS (by kernel_rfl) (by kernel_rfl) ?_ (fun a w hF hS => ?_)
  · exact obs_nil
  refine at_end [1] [pl 1 (.pointer (some ⟨g4, 0, none⟩))] hF rfl (by kernel_rfl) (fun hF => ?_)
  refine then_n ?_
  obtain ⟨r1, hr1, hm⟩ := call_b hm
  obtain ⟨r2, hr2, hm⟩ := call_b hm
  obtain ⟨r3, hr3, hm⟩ := call_b hm
  refine reg [⟨false, [], vS (Instr.loadAt 24 (.pointer (some ⟨g4, 0, none⟩))), .agg #[.int .i64 g1, .int .i64 g2, .slice A1 g3.length c1]⟩, ⟨false, [], callFunc 69 #[.agg #[.int .i64 g1, .int .i64 g2, .slice A1 g3.length c1], .int .i64 1], .int .i64 r1⟩, ⟨false, [(decide ((7 : Int) < r1), false)], vS (Instr.loadAt 24 (.pointer (some ⟨g4, 0, none⟩))), .agg #[.int .i64 g1, .int .i64 g2, .slice A1 g3.length c1]⟩, ⟨false, [(decide ((7 : Int) < r1), false)], callFunc 69 #[.agg #[.int .i64 g1, .int .i64 g2, .slice A1 g3.length c1], .int .i64 1], .int .i64 r2⟩, ⟨false, [(decide ((7 : Int) < r1), false)], vS (Instr.loadAt 24 (.pointer (some ⟨g4, 0, none⟩))), .agg #[.int .i64 g1, .int .i64 g2, .slice A1 g3.length c1]⟩, ⟨false, [(decide ((7 : Int) < r1), false)], callFunc 69 #[.agg #[.int .i64 g1, .int .i64 g2, .slice A1 g3.length c1], .int .i64 0], .int .i64 r3⟩] [some (.agg #[.int .i64 g1, .int .i64 g2, .slice A1 g3.length c1]), some (.int .i64 r1), none, none, some (.agg #[.int .i64 g1, .int .i64 g2, .slice A1 g3.length c1]), some (.int .i64 r2), some (.agg #[.int .i64 g1, .int .i64 g2, .slice A1 g3.length c1]), some (.int .i64 r3), none, none, none, none] [2] [pl 2 (.bool ((decide ((7 : Int) < r1)) || (decide ((20 : Int) < (w64 (r2 + r3))))))] hF hS Fol (by kernel_rfl) (by kernel_rfl) (by kernel_rfl) ?_ (fun a w hF hS => ?_)
  · exact obs_cons (ob_loadA (cs := #[.int .i64 g1, .int .i64 g2, .slice A1 g3.length c1]) (by kernel_rfl) (by kernel_rfl) (fun _ _ hS => (hS.at_ 0 rfl).cellsAt 0 (by rfl))) <| obs_cons (ob_call Try.func69 (by kernel_rfl) rfl (fun _ _ hS => pegs_many_w hr1 hS (fun _ hS => (hr_g3 _ (hS.dropN 1))) _hc_g3 rfl)) <| obs_cons (ob_loadA (cs := #[.int .i64 g1, .int .i64 g2, .slice A1 g3.length c1]) (by kernel_rfl) (by kernel_rfl) (fun _ _ hS => (hS.at_ 0 rfl).cellsAt 0 (by rfl))) <| obs_cons (ob_call Try.func69 (by kernel_rfl) rfl (fun hy _ hS => pegs_many_w (ite_some hr2 (by rw [show (decide ((7 : Int) < r1)) = false from hy (decide ((7 : Int) < r1), false) (by simp)]; try rfl)) hS (fun _ hS => (hr_g3 _ (hS.dropN 1))) _hc_g3 rfl)) <| obs_cons (ob_loadA (cs := #[.int .i64 g1, .int .i64 g2, .slice A1 g3.length c1]) (by kernel_rfl) (by kernel_rfl) (fun _ _ hS => (hS.at_ 0 rfl).cellsAt 0 (by rfl))) <| obs_cons (ob_call Try.func69 (by kernel_rfl) rfl (fun hy _ hS => pegs_many_w (ite_some hr3 (by rw [show (decide ((7 : Int) < r1)) = false from hy (decide ((7 : Int) < r1), false) (by simp)]; try rfl)) hS (fun _ hS => (hr_g3 _ (hS.dropN 1))) _hc_g3 rfl)) <| obs_nil
  refine wpIn_ret ?_
  have hS := hS.pickN 1 [] (by decide)
  have hm : some ((decide ((7 : Int) < r1)) || (decide ((20 : Int) < (w64 (r2 + r3))))) = some r := hm
  obtain rfl := Option.some.inj hm
  exact retV (rs := [.tmp 2]) (vs := [.bool ((decide ((7 : Int) < r1)) || (decide ((20 : Int) < (w64 (r2 + r3)))))]) hF rfl (rv_t (by kernel_rfl) <| rv_nil) rfl ⟨rfl, hS⟩

noncomputable def slices_Clone_J1  (s1 : List Int) : Option (List Int) :=
  asrt ((0 : Int) + (s1.length : Int) ≤ bigN) <| some (([] : List Int) ++ s1)

noncomputable def slices_Clone_m  (s1 : List Int) : Option (List Int) :=
  (slices_Clone_J1 s1)

set_option maxRecDepth 100000 in
set_option maxHeartbeats 4000000 in
theorem slices_Clone_w  {A1 : Option Addr} {c1 : Nat} {n1 : Nat} {s1 : List Int} {r : (List Int)} {w0 w : World} {B : Nat} {fs : List HP} (hm : slices_Clone_m s1 = some r) (hS : Sep w0 B w (fs)) (hr_s1 : RdF w0 B fs A1 (vI s1)) (_hc_s1 : s1.length ≤ c1) (_hn_s1 : n1 = s1.length) :
    Calls Try.prog 39 #[.slice A1 n1 c1] w fun e w' => ∃ v, e = .returned v ∧ ∃ (A3 : Option Addr) (c3 : Nat), v = .slice A3 r.length c3 ∧ Sep w0 B w' (own 3 (.slice A3 r.length c3) (vI r) :: fs) := by
  obtain ⟨i3, hi3, hz3, hs3, hb3⟩ := info_parts Info3
  obtain rfl := _hn_s1
  unfold slices_Clone_m at hm
  replace hm := start_b hm
  refine enter (l := [.slice A1 s1.length c1]) (n := 8) Try.func39 rfl rfl (by simp) (fun a hF => ?_)
  refine reg [] [] [0] [pl 0 (.slice A1 s1.length c1)] hF hS Fol (by kernel_rfl) (by kernel_rfl) (by kernel_rfl) ?_ (fun a w hF hS => ?_)
  · exact obs_nil
  refine seq_cut (fun a w => Fr 8 [pl 0 (.slice A1 s1.length c1)] a ∧ Sep w0 B w (fs) ∧ ((slices_Clone_J1 s1)).bind some = some r) ?_ ?_
  · rintro a w ⟨hF, hS, hm⟩
    unfold slices_Clone_J1 at hm
    refine seqR ?_
    obtain ⟨hp1, hm⟩ := asrt_b hm
    refine at_do (d := 5) (s := vS (Instr.buildSlice 22 0 #[])) (v := .slice (some ⟨w.heap.size, 0, none⟩) 0 0) (w' := w.alloc (.cells #[] 3)) hF (by kernel_rfl) (by kernel_rfl) (by kernel_rfl) (fun a hF => ?_)
    have hS : Sep w0 B (w.alloc (.cells #[] 3)) (own 3 (.slice (some (⟨w.heap.size, 0, none⟩ : Addr)) 0 0) (vI ([] : List Int)) :: (fs)) := hS.lit 3 #[] 0 rfl (by omega)
    generalize (some (⟨w.heap.size, 0, none⟩ : Addr)) = g1 at hF hS
    generalize w.alloc (.cells #[] 3) = w at hS ⊢
    refine at_run 1 [] [] [5, 6] [pl 5 (.slice g1 0 0), pl 6 (.slice A1 s1.length c1)] hF hS (by kernel_rfl) (by kernel_rfl) ?_ (fun a w hF hS => ?_)
    · exact obs_nil
    obtain ⟨A2, c2, w, hrun, hS⟩ := run_app1 (P := Try.prog) (t := 22) (m := ([] : List Int)) (ys := s1) (A2 := A1) (m2 := s1.length) (c2 := c1) (Value.int .i64) (0 : Int) (hS.at_ 0 rfl) (hr_s1 _ (hS.dropN 1)) rfl 22 Und22 hi3 hz3 hs3 (by omega) rfl (fun _ => rfl) hp1
    have hS : Sep w0 B w (own 3 (.slice A2 ((([] : List Int) ++ s1).length) c2) (vI (([] : List Int) ++ s1)) :: fs) := hS
    refine at_do (d := 7) hF (by kernel_rfl) (by kernel_rfl) hrun (fun a hF => ?_)
    refine at_run 1 [] [] [2] [pl 2 (.slice A2 ((([] : List Int) ++ s1).length) c2)] hF hS (by kernel_rfl) (by kernel_rfl) ?_ (fun a w hF hS => ?_)
    · exact obs_nil
    refine at_end [2] [pl 2 (.slice A2 ((([] : List Int) ++ s1).length) c2)] hF rfl (by kernel_rfl) (fun hF => ?_)
    refine then_n ?_
    refine wpIn_ret ?_
    have hm : some (([] : List Int) ++ s1) = some r := hm
    obtain rfl := Option.some.inj hm
    exact retV (rs := [.tmp 2]) (vs := [.slice A2 ((([] : List Int) ++ s1).length) c2]) hF rfl (rv_t (by kernel_rfl) <| rv_nil) rfl ⟨_, rfl, A2, c2, rfl, hS⟩
  · refine reg [⟨true, [], vS (binOp .eql 22 (.slice A1 s1.length c1) (.slice none 0 0)), .bool A1.isNone⟩] [none, some (.bool A1.isNone)] [0, 4] [pl 0 (.slice A1 s1.length c1), pl 4 (.bool A1.isNone)] hF hS Fol (by kernel_rfl) (by kernel_rfl) (by kernel_rfl) ?_ (fun a w hF hS => ?_)
    · exact obs_cons (ob_isnil Und22 rfl) <| obs_nil
    refine cond_ev (t := 4) (b := A1.isNone) hF (by kernel_rfl) (fun hb => ?_) (fun hb => ?_)
    · have hA9 := Option.isNone_iff_eq_none.1 hb
      have hnil9 : s1 = [] := by have h9 := (hr_s1 _ (hS.dropN 0)); rw [hA9] at h9; exact h9.none_nil
      have hm : (some ([] : List Int)).bind some = some r := by rw [hnil9] at hm; simpa [asrt, bigN, slices_Clone_J1] using hm
      refine reg [] [] [2] [pl 2 (.slice none 0 0)] hF hS Fol (by kernel_rfl) (by kernel_rfl) (by kernel_rfl) ?_ (fun a w hF hS => ?_)
      · exact obs_nil
      refine wpIn_ret ?_
      refine then_r ?_
      have hS : Sep w0 B w (own 3 (.slice none 0 0) (vI ([] : List Int)) :: fs) := hS.nil 3
      have hl1 := (hS.at_ 0 rfl).len1
      have hS := (hS.at_ 0 rfl).reN hl1
      have hS : Sep w0 B w (own 3 (.slice none (([] : List Int).length) 0) (vI ([] : List Int)) :: fs) := hS
      have hm : some ([] : List Int) = some r := hm
      obtain rfl := Option.some.inj hm
      exact retV (rs := [.tmp 2]) (vs := [.slice none (([] : List Int).length) 0]) hF rfl (rv_t (by kernel_rfl) <| rv_nil) rfl ⟨_, rfl, none, 0, rfl, hS⟩
    · refine wpIn_skip ?_
      refine then_n ?_
      exact ⟨hF.weak [0] (by kernel_rfl), hS, hm⟩

noncomputable def pegs_jump_2_m (x1 : List (Int × Int × Int)) : Option (List (Int × Int × Int)) :=
  asrt (midOk x1) <| asrt ((x1.length : Int) ≤ bigN) <| some (sortK cfJ x1)

theorem pegs_jump_2_w {A1 : Option Addr} {c1 : Nat} {n1 : Nat} {x1 : List (Int × Int × Int)} {r : (List (Int × Int × Int))} {w0 w : World} {B : Nat} {fs : List HP} (hm : pegs_jump_2_m x1 = some r) (hS : Sep w0 B w (ownK 119 3 A1 n1 c1 (List.flatMap enc119 x1) :: fs)) :
    Calls Try.prog 132 #[.slice A1 n1 c1, .func (.func 133) #[] #[]] w fun e w' => ∃ v, e = .returned v ∧ v = .tuple #[] ∧ Sep w0 B w' (ownK 119 3 A1 n1 c1 (List.flatMap enc119 r) :: fs) := by
  unfold pegs_jump_2_m at hm
  obtain ⟨hd, hm⟩ := asrt_b (start_b hm)
  obtain ⟨hb, hm⟩ := asrt_b hm
  obtain rfl := Option.some.inj hm
  exact sortJ_own SortFL encK119 SortFA SortFZ SortFE SortFC hd hS hb

noncomputable def pegs_jumps_J5  (z2 : Int) (l5 : List (Int × Int × Int)) : Option (St (List (Int × Int × Int) × Int) (List (Int × Int × Int))) :=
  some (.next (l5, (w64 (z2 + 1))))

noncomputable def pegs_jumps_J6  (g1 : Int) (g3 : List Int) (z1 : Int) (l3 : List (Int × Int × Int)) (z2 : Int) : Option (St (List (Int × Int × Int) × Int) (List (Int × Int × Int))) :=
  asrt (0 ≤ z1 ∧ z1 < (g3.length : Int)) <| asrt (((geti g3 z1) != 2) = true → 0 ≤ (w64 ((w64 ((w64 ((w64 ((w64 (Int.tdiv z1 g1)) + (geti ([1, 0, (-1), 0, 0, 1, 0, (-1)] : List Int) (z2 * 2 + 1)))) * g1)) + (Int.tmod z1 g1))) + (geti ([1, 0, (-1), 0, 0, 1, 0, (-1)] : List Int) (z2 * 2)))) ∧ (w64 ((w64 ((w64 ((w64 ((w64 (Int.tdiv z1 g1)) + (geti ([1, 0, (-1), 0, 0, 1, 0, (-1)] : List Int) (z2 * 2 + 1)))) * g1)) + (Int.tmod z1 g1))) + (geti ([1, 0, (-1), 0, 0, 1, 0, (-1)] : List Int) (z2 * 2)))) < (g3.length : Int)) <| asrt ((((geti g3 z1) != 2) && ((geti g3 (w64 ((w64 ((w64 ((w64 ((w64 (Int.tdiv z1 g1)) + (geti ([1, 0, (-1), 0, 0, 1, 0, (-1)] : List Int) (z2 * 2 + 1)))) * g1)) + (Int.tmod z1 g1))) + (geti ([1, 0, (-1), 0, 0, 1, 0, (-1)] : List Int) (z2 * 2))))) != 2)) = true → 0 ≤ (w64 ((w64 ((w64 ((w64 (Int.tdiv z1 g1)) + (w64 (2 * (geti ([1, 0, (-1), 0, 0, 1, 0, (-1)] : List Int) (z2 * 2 + 1)))))) * g1)) + (w64 ((Int.tmod z1 g1) + (w64 (2 * (geti ([1, 0, (-1), 0, 0, 1, 0, (-1)] : List Int) (z2 * 2)))))))) ∧ (w64 ((w64 ((w64 ((w64 (Int.tdiv z1 g1)) + (w64 (2 * (geti ([1, 0, (-1), 0, 0, 1, 0, (-1)] : List Int) (z2 * 2 + 1)))))) * g1)) + (w64 ((Int.tmod z1 g1) + (w64 (2 * (geti ([1, 0, (-1), 0, 0, 1, 0, (-1)] : List Int) (z2 * 2)))))))) < (g3.length : Int)) <| if ((((geti g3 z1) != 2) && ((geti g3 (w64 ((w64 ((w64 ((w64 ((w64 (Int.tdiv z1 g1)) + (geti ([1, 0, (-1), 0, 0, 1, 0, (-1)] : List Int) (z2 * 2 + 1)))) * g1)) + (Int.tmod z1 g1))) + (geti ([1, 0, (-1), 0, 0, 1, 0, (-1)] : List Int) (z2 * 2))))) != 2)) && ((geti g3 (w64 ((w64 ((w64 ((w64 (Int.tdiv z1 g1)) + (w64 (2 * (geti ([1, 0, (-1), 0, 0, 1, 0, (-1)] : List Int) (z2 * 2 + 1)))))) * g1)) + (w64 ((Int.tmod z1 g1) + (w64 (2 * (geti ([1, 0, (-1), 0, 0, 1, 0, (-1)] : List Int) (z2 * 2))))))))) != 2)) then (asrt ((l3.length : Int) + 1 ≤ bigT) <| (pegs_jumps_J5 z2) (l3 ++ ([(z1, w64 ((w64 ((w64 ((w64 ((w64 (Int.tdiv z1 g1)) + (geti ([1, 0, (-1), 0, 0, 1, 0, (-1)] : List Int) (z2 * 2 + 1)))) * g1)) + (Int.tmod z1 g1))) + (geti ([1, 0, (-1), 0, 0, 1, 0, (-1)] : List Int) (z2 * 2))), w64 ((w64 ((w64 ((w64 (Int.tdiv z1 g1)) + (w64 (2 * (geti ([1, 0, (-1), 0, 0, 1, 0, (-1)] : List Int) (z2 * 2 + 1)))))) * g1)) + (w64 ((Int.tmod z1 g1) + (w64 (2 * (geti ([1, 0, (-1), 0, 0, 1, 0, (-1)] : List Int) (z2 * 2))))))))] : List (Int × Int × Int)))) else ((pegs_jumps_J5 z2) l3)

noncomputable def pegs_jumps_J4  (g1 : Int) (g2 : Int) (g3 : List Int) (z1 : Int) (l3 : List (Int × Int × Int)) (z2 : Int) : Option (St (List (Int × Int × Int) × Int) (List (Int × Int × Int))) :=
  asrt (0 ≤ z2 ∧ z2 < 4) <| if ((((decide ((w64 ((Int.tmod z1 g1) + (w64 (2 * (geti ([1, 0, (-1), 0, 0, 1, 0, (-1)] : List Int) (z2 * 2)))))) < 0)) || (decide (g1 ≤ (w64 ((Int.tmod z1 g1) + (w64 (2 * (geti ([1, 0, (-1), 0, 0, 1, 0, (-1)] : List Int) (z2 * 2))))))))) || (decide ((w64 ((w64 (Int.tdiv z1 g1)) + (w64 (2 * (geti ([1, 0, (-1), 0, 0, 1, 0, (-1)] : List Int) (z2 * 2 + 1)))))) < 0))) || (decide (g2 ≤ (w64 ((w64 (Int.tdiv z1 g1)) + (w64 (2 * (geti ([1, 0, (-1), 0, 0, 1, 0, (-1)] : List Int) (z2 * 2 + 1))))))))) then ((pegs_jumps_J5 z2) l3) else ((pegs_jumps_J6 g1 g3 z1 l3 z2))

noncomputable def pegs_jumps_J3  (z1 : Int) (l4 : List (Int × Int × Int)) : Option (St (List (Int × Int × Int) × Int) (List (Int × Int × Int))) :=
  some (.next (l4, (w64 (z1 + 1))))

noncomputable def pegs_jumps_K2  (z1 : Int) : (List (Int × Int × Int)) → Option (St (List (Int × Int × Int) × Int) (List (Int × Int × Int))) :=
  fun (x : (List (Int × Int × Int))) => match x with | l4 => (pegs_jumps_J3 z1) l4

noncomputable def pegs_jumps_L2  (g1 : Int) (g2 : Int) (g3 : List Int) (z1 : Int) : (List (Int × Int × Int) × Int) → Option (St (List (Int × Int × Int) × Int) (List (Int × Int × Int))) :=
  fun (x : (List (Int × Int × Int) × Int)) => match x with | (l3, z2) => if (decide (z2 < 4)) then ((pegs_jumps_J4 g1 g2 g3 z1 l3 z2)) else (some (.done l3))

noncomputable def pegs_jumps_J2  (g1 : Int) (g2 : Int) (g3 : List Int) (l1 : List (Int × Int × Int)) (z1 : Int) : Option (St (List (Int × Int × Int) × Int) (List (Int × Int × Int))) :=
  asrt (g1 ≠ (0 : Int)) <| asrt (g1 ≠ (0 : Int)) <| (loop (pegs_jumps_L2 g1 g2 g3 z1) (l1, 0)).bind (pegs_jumps_K2 z1)

noncomputable def pegs_jumps_J1  (l2 : List (Int × Int × Int)) : Option (List (Int × Int × Int)) :=
  (pegs_jump_2_m l2).bind fun r1 => some r1

noncomputable def pegs_jumps_K1  : (List (Int × Int × Int)) → Option (List (Int × Int × Int)) :=
  fun (x : (List (Int × Int × Int))) => match x with | l2 => pegs_jumps_J1 l2

noncomputable def pegs_jumps_L1  (g1 : Int) (g2 : Int) (g3 : List Int) : (List (Int × Int × Int) × Int) → Option (St (List (Int × Int × Int) × Int) (List (Int × Int × Int))) :=
  fun (x : (List (Int × Int × Int) × Int)) => match x with | (l1, z1) => if (decide (z1 < (g3.length : Int))) then ((pegs_jumps_J2 g1 g2 g3 l1 z1)) else (some (.done l1))

noncomputable def pegs_jumps_m  (g1 : Int) (g2 : Int) (g3 : List Int) : Option (List (Int × Int × Int)) :=
  (loop (pegs_jumps_L1 g1 g2 g3) (([] : List (Int × Int × Int)), 0)).bind pegs_jumps_K1

set_option maxRecDepth 100000 in
set_option maxHeartbeats 4000000 in
theorem pegs_jumps_w  {g1 : Int} {g2 : Int} {A1 : Option Addr} {c1 : Nat} {n1 : Nat} {g3 : List Int} {r : (List (Int × Int × Int))} {w0 w : World} {B : Nat} {fs : List HP} (hm : pegs_jumps_m g1 g2 g3 = some r) (hS : Sep w0 B w (fs)) (hr_g3 : RdF w0 B fs A1 (vI g3)) (_hc_g3 : g3.length ≤ c1) (_hn_g3 : n1 = g3.length) :
    Calls Try.prog 105 #[.agg #[.int .i64 g1, .int .i64 g2, .slice A1 n1 c1]] w fun e w' => ∃ v, e = .returned v ∧ ∃ (A8 : Option Addr) (c8 : Nat), v = .slice A8 r.length c8 ∧ Sep w0 B w' (ownK 119 3 A8 r.length c8 (List.flatMap enc119 r) :: fs) := by
  obtain ⟨i3, hi3, hz3, hs3, hb3⟩ := info_parts Info3
  obtain ⟨i119, hi119, hz119, hs119, hb119⟩ := info_parts Info119
  obtain rfl := _hn_g3
  unfold pegs_jumps_m at hm
  replace hm := start_b hm
  refine enter (l := [.agg #[.int .i64 g1, .int .i64 g2, .slice A1 g3.length c1]]) (n := 118) Try.func105 rfl rfl (by simp) (fun a hF => ?_)
  refine seqR ?_
  refine at_do (d := 1) (s := vS (Instr.box 24 (.agg #[.int .i64 g1, .int .i64 g2, .slice A1 g3.length c1]))) (v := .pointer (some ⟨w.heap.size, 0, none⟩)) (w' := w.alloc (.cells #[.int .i64 g1, .int .i64 g2, .slice A1 g3.length c1] 24)) hF (by kernel_rfl) (by kernel_rfl) (by kernel_rfl) (fun a hF => ?_)
  have hS : Sep w0 B (w.alloc (.cells #[.int .i64 g1, .int .i64 g2, .slice A1 g3.length c1] 24)) (blk w.heap.size 24 #[.int .i64 g1, .int .i64 g2, .slice A1 g3.length c1] :: (fs)) := hS.box 24 #[.int .i64 g1, .int .i64 g2, .slice A1 g3.length c1]
  generalize w.heap.size = g4 at hF hS
  generalize w.alloc (.cells #[.int .i64 g1, .int .i64 g2, .slice A1 g3.length c1] 24) = w at hS ⊢
  refine at_run 1 [] [] [1] [pl 1 (.pointer (some ⟨g4, 0, none⟩))] hF hS (by kernel_rfl) (by kernel_rfl) ?_ (fun a w hF hS => ?_)
  · exact obs_nil
  refine at_end [1] [pl 1 (.pointer (some ⟨g4, 0, none⟩))] hF rfl (by kernel_rfl) (fun hF => ?_)
  refine then_n ?_
  refine reg [] [] [1, 3] [pl 1 (.pointer (some ⟨g4, 0, none⟩)), pl 3 (.slice none 0 0)] hF hS Fol (by kernel_rfl) (by kernel_rfl) (by kernel_rfl) ?_ (fun a w hF hS => ?_)
  · exact obs_nil
  refine seq_cut (fun a w => ∃ (l2 : List (Int × Int × Int)) (A3 : Option Addr) (c3 : Nat), Fr 118 [pl 3 (.slice A3 l2.length c3)] a ∧ Sep w0 B w (ownK 119 3 A3 l2.length c3 (List.flatMap enc119 l2) :: fs) ∧ (pegs_jumps_J1 l2).bind some = some r) ?_ ?_
  · rintro a w ⟨l2, A3, c3, hF, hS, hm⟩
    unfold pegs_jumps_J1 at hm
    refine seqR ?_
    obtain ⟨r1, hr1, hm⟩ := call_b hm
    refine at_run 1 [] [] [3, 115] [pl 3 (.slice A3 l2.length c3), pl 115 (.slice A3 l2.length c3)] hF hS (by kernel_rfl) (by kernel_rfl) ?_ (fun a w hF hS => ?_)
    · exact obs_nil
    refine at_call (f := 132) (args := #[.slice A3 l2.length c3, .func (.func 133) #[] #[]]) (d := 116) hF (by kernel_rfl) (by kernel_rfl) Try.func132 (by kernel_rfl) rfl (pegs_jump_2_w hr1 hS ) (fun v a w hR hF => ?_)
    clear hS
    obtain ⟨rfl, hS⟩ := hR
    have hS : Sep w0 B w (ownK 119 3 A3 l2.length c3 (List.flatMap enc119 r1) :: fs) := hS
    refine at_end [3] [pl 3 (.slice A3 l2.length c3)] hF rfl (by kernel_rfl) (fun hF => ?_)
    refine then_n ?_
    refine reg [] [] [2] [pl 2 (.slice A3 l2.length c3)] hF hS Fol (by kernel_rfl) (by kernel_rfl) (by kernel_rfl) ?_ (fun a w hF hS => ?_)
    · exact obs_nil
    refine wpIn_ret ?_
    have hl2 := (hS.at_ 0 rfl).lenK encK119
    have hS := (hS.at_ 0 rfl).reNK hl2
    have hS : Sep w0 B w (ownK 119 3 A3 r1.length c3 (List.flatMap enc119 r1) :: fs) := hS
    have hF := hF.cast (t := 2) (v := .slice A3 l2.length c3) (v' := .slice A3 r1.length c3) rfl rfl (congrArg (fun k => Value.slice A3 k c3) hl2)
    have hm : some r1 = some r := hm
    obtain rfl := Option.some.inj hm
    exact retV (rs := [.tmp 2]) (vs := [.slice A3 r1.length c3]) hF rfl (rv_t (by kernel_rfl) <| rv_nil) rfl ⟨_, rfl, A3, c3, rfl, hS⟩
  · refine reg [⟨false, [], vS (Instr.loadAt 22 (.pointer (some ⟨g4, 2, none⟩))), .slice A1 g3.length c1⟩] [none, some (.slice A1 g3.length c1), none, none] [1, 3, 14, 15] [pl 1 (.pointer (some ⟨g4, 0, none⟩)), pl 3 (.slice none 0 0), pl 14 (.int .i64 (g3.length : Int)), pl 15 (.int .i64 0)] hF hS Fol (by kernel_rfl) (by kernel_rfl) (by kernel_rfl) ?_ (fun a w hF hS => ?_)
    · exact obs_cons (ob_load Agg22 (fun _ _ hS => (hS.at_ 0 rfl).cell rfl)) <| obs_nil
    refine wpIn_block ?_
    have hS : Sep w0 B w (ownK 119 3 none 0 0 (List.flatMap enc119 ([] : List (Int × Int × Int))) :: blk g4 24 #[.int .i64 g1, .int .i64 g2, .slice A1 g3.length c1] :: fs) := hS.nilK 119 3 enc119
    have hl1 := (hS.at_ 0 rfl).lenK encK119
    have hS := (hS.at_ 0 rfl).reNK hl1
    have hS : Sep w0 B w (ownK 119 3 none (([] : List (Int × Int × Int)).length) 0 (List.flatMap enc119 ([] : List (Int × Int × Int))) :: blk g4 24 #[.int .i64 g1, .int .i64 g2, .slice A1 g3.length c1] :: fs) := hS
    have hF := hF.cast (t := 3) (v := .slice none 0 0) (v' := .slice none (([] : List (Int × Int × Int)).length) 0) rfl rfl (congrArg (fun k => Value.slice none k 0) hl1)
    have hS := hS.pickN 2 [1, 0] (by decide)
    refine wp_loop_model (S := (List (Int × Int × Int) × Int)) (R := (List (Int × Int × Int))) (pegs_jumps_L1 g1 g2 g3) (fun x => (pegs_jumps_K1 x).bind some) r (fun (x : (List (Int × Int × Int) × Int)) a w => ∃ (A2 : Option Addr) (c2 : Nat), Fr 118 [pl 1 (.pointer (some ⟨g4, 0, none⟩)), pl 3 (.slice A2 x.1.length c2), pl 14 (.int .i64 (g3.length : Int)), pl 15 (.int .i64 x.2)] a ∧ Sep w0 B w (blk g4 24 #[.int .i64 g1, .int .i64 g2, .slice A1 g3.length c1] :: ownK 119 3 A2 x.1.length c2 (List.flatMap enc119 x.1) :: fs)) (assoc_b hm) ⟨none, 0, hF.weak [1, 3, 14, 15] (by kernel_rfl), hS⟩ ?_
    clear hF hS hm
    rintro nn1 ⟨l1, z1⟩ a w ⟨A2, c2, hF, hS⟩ hm
    generalize hφ1 : stK (pegs_jumps_L1 g1 g2 g3) nn1 (fun x => (pegs_jumps_K1 x).bind some) = φ1 at hm
    unfold pegs_jumps_L1 at hm
    dsimp only at hF hS hm
    refine reg [] [] [1, 3, 14, 15, 16] [pl 1 (.pointer (some ⟨g4, 0, none⟩)), pl 3 (.slice A2 l1.length c2), pl 14 (.int .i64 (g3.length : Int)), pl 15 (.int .i64 z1), pl 16 (.bool (decide (z1 < (g3.length : Int))))] hF hS Fol (by kernel_rfl) (by kernel_rfl) (by kernel_rfl) ?_ (fun a w hF hS => ?_)
    · exact obs_nil
    refine seq_cut (fun a w => Fr 118 [pl 1 (.pointer (some ⟨g4, 0, none⟩)), pl 3 (.slice A2 l1.length c2), pl 14 (.int .i64 (g3.length : Int)), pl 15 (.int .i64 z1)] a ∧ Sep w0 B w (blk g4 24 #[.int .i64 g1, .int .i64 g2, .slice A1 g3.length c1] :: ownK 119 3 A2 l1.length c2 (List.flatMap enc119 l1) :: fs) ∧ ((pegs_jumps_J2 g1 g2 g3 l1 z1)).bind φ1 = some r) ?_ ?_
    · rintro a w ⟨hF, hS, hm⟩
      unfold pegs_jumps_J2 at hm
      refine seq_cut (fun a w => ∃ (l4 : List (Int × Int × Int)) (A5 : Option Addr) (c5 : Nat), Fr 118 [pl 1 (.pointer (some ⟨g4, 0, none⟩)), pl 3 (.slice A5 l4.length c5), pl 14 (.int .i64 (g3.length : Int)), pl 15 (.int .i64 z1)] a ∧ Sep w0 B w (blk g4 24 #[.int .i64 g1, .int .i64 g2, .slice A1 g3.length c1] :: ownK 119 3 A5 l4.length c5 (List.flatMap enc119 l4) :: fs) ∧ ((pegs_jumps_J3 z1) l4).bind φ1 = some r) ?_ ?_
      · rintro a w ⟨l4, A5, c5, hF, hS, hm⟩
        unfold pegs_jumps_J3 at hm
        refine reg1 [] [] [1, 3, 14, 15] [pl 1 (.pointer (some ⟨g4, 0, none⟩)), pl 3 (.slice A5 l4.length c5), pl 14 (.int .i64 (g3.length : Int)), pl 15 (.int .i64 (w64 (z1 + 1)))] hF hS Fol (by kernel_rfl) (by kernel_rfl) (by kernel_rfl) ?_ (fun a w hF hS => ?_)
        · exact obs_nil
        refine then_n ?_
        rw [← hφ1] at hm
        exact ⟨(l4, (w64 (z1 + 1))), ⟨A5, c5, hF.weak [1, 3, 14, 15] (by kernel_rfl), hS⟩, hm⟩
      · refine wpIn_block ?_
        refine reg [] [] [1, 3, 4, 14, 15] [pl 1 (.pointer (some ⟨g4, 0, none⟩)), pl 3 (.slice A2 l1.length c2), pl 4 (.int .i64 z1), pl 14 (.int .i64 (g3.length : Int)), pl 15 (.int .i64 z1)] hF hS Fol (by kernel_rfl) (by kernel_rfl) (by kernel_rfl) ?_ (fun a w hF hS => ?_)
        · exact obs_nil
        obtain ⟨hp1, hm⟩ := asrt_b hm
        obtain ⟨hp2, hm⟩ := asrt_b hm
        refine reg [⟨false, [], vS (Instr.loadAt 3 (.pointer (some ⟨g4, 0, none⟩))), .int .i64 g1⟩, ⟨true, [], vS (Op.intDiv .rem .i64 z1 g1), .int .i64 (Int.tmod z1 g1)⟩, ⟨false, [], vS (Instr.loadAt 3 (.pointer (some ⟨g4, 0, none⟩))), .int .i64 g1⟩, ⟨true, [], vS (Op.intDiv .quo .i64 z1 g1), .int .i64 (w64 (Int.tdiv z1 g1))⟩] [none, none, some (.int .i64 g1), some (.int .i64 (Int.tmod z1 g1)), none, none, some (.int .i64 g1), some (.int .i64 (w64 (Int.tdiv z1 g1))), none, none] [1, 3, 4, 5, 6, 14, 15] [pl 1 (.pointer (some ⟨g4, 0, none⟩)), pl 3 (.slice A2 l1.length c2), pl 4 (.int .i64 z1), pl 5 (.int .i64 (Int.tmod z1 g1)), pl 6 (.int .i64 (w64 (Int.tdiv z1 g1))), pl 14 (.int .i64 (g3.length : Int)), pl 15 (.int .i64 z1)] hF hS Fol (by kernel_rfl) (by kernel_rfl) (by kernel_rfl) ?_ (fun a w hF hS => ?_)
        · exact obs_cons (ob_load Agg3 (fun _ _ hS => (hS.at_ 0 rfl).cell rfl)) <| obs_cons (ob_rem rfl (fun _ => hp1)) <| obs_cons (ob_load Agg3 (fun _ _ hS => (hS.at_ 0 rfl).cell rfl)) <| obs_cons (ob_quo rfl (fun _ => hp2)) <| obs_nil
        refine reg [] [] [1, 3, 4, 5, 6, 14, 15, 30, 31] [pl 1 (.pointer (some ⟨g4, 0, none⟩)), pl 3 (.slice A2 l1.length c2), pl 4 (.int .i64 z1), pl 5 (.int .i64 (Int.tmod z1 g1)), pl 6 (.int .i64 (w64 (Int.tdiv z1 g1))), pl 14 (.int .i64 (g3.length : Int)), pl 15 (.int .i64 z1), pl 30 (.agg (List.toArray (([] : List Value) ++ (arr1 (Value.int .i64) (0 : Int) 8 ([1, 0, (-1), 0, 0, 1, 0, (-1)] : List Int) ++ ([] : List Value))))), pl 31 (.int .i64 0)] hF hS Fol (by kernel_rfl) (by kernel_rfl) (by kernel_rfl) ?_ (fun a w hF hS => ?_)
        · exact obs_nil
        refine wpIn_block ?_
        refine wp_loop_model (S := (List (Int × Int × Int) × Int)) (R := (List (Int × Int × Int))) (pegs_jumps_L2 g1 g2 g3 z1) (fun x => ((pegs_jumps_K2 z1) x).bind φ1) r (fun (x : (List (Int × Int × Int) × Int)) a w => ∃ (A4 : Option Addr) (c4 : Nat), Fr 118 [pl 1 (.pointer (some ⟨g4, 0, none⟩)), pl 3 (.slice A4 x.1.length c4), pl 4 (.int .i64 z1), pl 5 (.int .i64 (Int.tmod z1 g1)), pl 6 (.int .i64 (w64 (Int.tdiv z1 g1))), pl 14 (.int .i64 (g3.length : Int)), pl 15 (.int .i64 z1), pl 30 (.agg (List.toArray (([] : List Value) ++ (arr1 (Value.int .i64) (0 : Int) 8 ([1, 0, (-1), 0, 0, 1, 0, (-1)] : List Int) ++ ([] : List Value))))), pl 31 (.int .i64 x.2)] a ∧ Sep w0 B w (blk g4 24 #[.int .i64 g1, .int .i64 g2, .slice A1 g3.length c1] :: ownK 119 3 A4 x.1.length c4 (List.flatMap enc119 x.1) :: fs)) (assoc_b hm) ⟨A2, c2, hF.weak [1, 3, 4, 5, 6, 14, 15, 30, 31] (by kernel_rfl), hS⟩ ?_
        clear hF hS hm
        rintro nn2 ⟨l3, z2⟩ a w ⟨A4, c4, hF, hS⟩ hm
        generalize hφ2 : stK (pegs_jumps_L2 g1 g2 g3 z1) nn2 (fun x => ((pegs_jumps_K2 z1) x).bind φ1) = φ2 at hm
        unfold pegs_jumps_L2 at hm
        dsimp only at hF hS hm
        refine reg [] [] [1, 3, 4, 5, 6, 14, 15, 30, 31, 32] [pl 1 (.pointer (some ⟨g4, 0, none⟩)), pl 3 (.slice A4 l3.length c4), pl 4 (.int .i64 z1), pl 5 (.int .i64 (Int.tmod z1 g1)), pl 6 (.int .i64 (w64 (Int.tdiv z1 g1))), pl 14 (.int .i64 (g3.length : Int)), pl 15 (.int .i64 z1), pl 30 (.agg (List.toArray (([] : List Value) ++ (arr1 (Value.int .i64) (0 : Int) 8 ([1, 0, (-1), 0, 0, 1, 0, (-1)] : List Int) ++ ([] : List Value))))), pl 31 (.int .i64 z2), pl 32 (.bool (decide (z2 < 4)))] hF hS Fol (by kernel_rfl) (by kernel_rfl) (by kernel_rfl) ?_ (fun a w hF hS => ?_)
        · exact obs_nil
        refine seq_cut (fun a w => Fr 118 [pl 1 (.pointer (some ⟨g4, 0, none⟩)), pl 3 (.slice A4 l3.length c4), pl 4 (.int .i64 z1), pl 5 (.int .i64 (Int.tmod z1 g1)), pl 6 (.int .i64 (w64 (Int.tdiv z1 g1))), pl 14 (.int .i64 (g3.length : Int)), pl 15 (.int .i64 z1), pl 30 (.agg (List.toArray (([] : List Value) ++ (arr1 (Value.int .i64) (0 : Int) 8 ([1, 0, (-1), 0, 0, 1, 0, (-1)] : List Int) ++ ([] : List Value))))), pl 31 (.int .i64 z2)] a ∧ Sep w0 B w (blk g4 24 #[.int .i64 g1, .int .i64 g2, .slice A1 g3.length c1] :: ownK 119 3 A4 l3.length c4 (List.flatMap enc119 l3) :: fs) ∧ ((pegs_jumps_J4 g1 g2 g3 z1 l3 z2)).bind φ2 = some r) ?_ ?_
        · rintro a w ⟨hF, hS, hm⟩
          unfold pegs_jumps_J4 at hm
          refine seq_cut (fun a w => ∃ (l5 : List (Int × Int × Int)) (A6 : Option Addr) (c6 : Nat), Fr 118 [pl 1 (.pointer (some ⟨g4, 0, none⟩)), pl 3 (.slice A6 l5.length c6), pl 4 (.int .i64 z1), pl 5 (.int .i64 (Int.tmod z1 g1)), pl 6 (.int .i64 (w64 (Int.tdiv z1 g1))), pl 14 (.int .i64 (g3.length : Int)), pl 15 (.int .i64 z1), pl 30 (.agg (List.toArray (([] : List Value) ++ (arr1 (Value.int .i64) (0 : Int) 8 ([1, 0, (-1), 0, 0, 1, 0, (-1)] : List Int) ++ ([] : List Value))))), pl 31 (.int .i64 z2)] a ∧ Sep w0 B w (blk g4 24 #[.int .i64 g1, .int .i64 g2, .slice A1 g3.length c1] :: ownK 119 3 A6 l5.length c6 (List.flatMap enc119 l5) :: fs) ∧ ((pegs_jumps_J5 z2) l5).bind φ2 = some r) ?_ ?_
          · rintro a w ⟨l5, A6, c6, hF, hS, hm⟩
            unfold pegs_jumps_J5 at hm
            refine reg1 [] [] [1, 3, 4, 5, 6, 14, 15, 30, 31] [pl 1 (.pointer (some ⟨g4, 0, none⟩)), pl 3 (.slice A6 l5.length c6), pl 4 (.int .i64 z1), pl 5 (.int .i64 (Int.tmod z1 g1)), pl 6 (.int .i64 (w64 (Int.tdiv z1 g1))), pl 14 (.int .i64 (g3.length : Int)), pl 15 (.int .i64 z1), pl 30 (.agg (List.toArray (([] : List Value) ++ (arr1 (Value.int .i64) (0 : Int) 8 ([1, 0, (-1), 0, 0, 1, 0, (-1)] : List Int) ++ ([] : List Value))))), pl 31 (.int .i64 (w64 (z2 + 1)))] hF hS Fol (by kernel_rfl) (by kernel_rfl) (by kernel_rfl) ?_ (fun a w hF hS => ?_)
            · exact obs_nil
            refine then_n ?_
            rw [← hφ2] at hm
            exact ⟨(l5, (w64 (z2 + 1))), ⟨A6, c6, hF.weak [1, 3, 4, 5, 6, 14, 15, 30, 31] (by kernel_rfl), hS⟩, hm⟩
          · refine wpIn_block ?_
            refine seqR ?_
            obtain ⟨hp3, hm⟩ := asrt_b hm
            refine at_run 1 [⟨true, [], vS (Instr.index 179 (.agg (List.toArray (([] : List Value) ++ (arr1 (Value.int .i64) (0 : Int) 8 ([1, 0, (-1), 0, 0, 1, 0, (-1)] : List Int) ++ ([] : List Value))))) (.int .i64 z2)), .agg #[.int .i64 (geti ([1, 0, (-1), 0, 0, 1, 0, (-1)] : List Int) (z2 * 2)), .int .i64 (geti ([1, 0, (-1), 0, 0, 1, 0, (-1)] : List Int) (z2 * 2 + 1))]⟩] [some (.agg #[.int .i64 (geti ([1, 0, (-1), 0, 0, 1, 0, (-1)] : List Int) (z2 * 2)), .int .i64 (geti ([1, 0, (-1), 0, 0, 1, 0, (-1)] : List Int) (z2 * 2 + 1))])] [1, 3, 4, 5, 6, 14, 15, 30, 31, 33] [pl 1 (.pointer (some ⟨g4, 0, none⟩)), pl 3 (.slice A4 l3.length c4), pl 4 (.int .i64 z1), pl 5 (.int .i64 (Int.tmod z1 g1)), pl 6 (.int .i64 (w64 (Int.tdiv z1 g1))), pl 14 (.int .i64 (g3.length : Int)), pl 15 (.int .i64 z1), pl 30 (.agg (List.toArray (([] : List Value) ++ (arr1 (Value.int .i64) (0 : Int) 8 ([1, 0, (-1), 0, 0, 1, 0, (-1)] : List Int) ++ ([] : List Value))))), pl 31 (.int .i64 z2), pl 33 (.agg #[.int .i64 (geti ([1, 0, (-1), 0, 0, 1, 0, (-1)] : List Int) (z2 * 2)), .int .i64 (geti ([1, 0, (-1), 0, 0, 1, 0, (-1)] : List Int) (z2 * 2 + 1))])] hF hS (by kernel_rfl) (by kernel_rfl) ?_ (fun a w hF hS => ?_)
            · exact obs_cons (ob_idxP2 (f := (Value.int .i64)) (z := (0 : Int)) (m := ([1, 0, (-1), 0, 0, 1, 0, (-1)] : List Int)) UndA179 (by kernel_rfl) (by kernel_rfl) rfl (fun _ => hp3)) <| obs_nil
            refine at_do (d := 8) (s := vS (Instr.alloc 25 true (.tuple #[]))) (v := .pointer (some ⟨w.heap.size, 0, none⟩)) (w' := w.alloc (.cells #[.int .i64 0, .int .i64 0] 25)) hF (by kernel_rfl) (by kernel_rfl) (by kernel_rfl) (fun a hF => ?_)
            have hS : Sep w0 B (w.alloc (.cells #[.int .i64 0, .int .i64 0] 25)) (blk w.heap.size 25 #[.int .i64 0, .int .i64 0] :: (blk g4 24 #[.int .i64 g1, .int .i64 g2, .slice A1 g3.length c1] :: ownK 119 3 A4 l3.length c4 (List.flatMap enc119 l3) :: fs)) := hS.box 25 #[.int .i64 0, .int .i64 0]
            generalize w.heap.size = g5 at hF hS
            generalize w.alloc (.cells #[.int .i64 0, .int .i64 0] 25) = w at hS ⊢
            obtain ⟨w, hrun, hS⟩ := run_putA (P := Try.prog) (t := 25) (us := #[.int .i64 (geti ([1, 0, (-1), 0, 0, 1, 0, (-1)] : List Int) (z2 * 2)), .int .i64 (geti ([1, 0, (-1), 0, 0, 1, 0, (-1)] : List Int) (z2 * 2 + 1))]) (o := 0) (hS.at_ 0 rfl) (by kernel_rfl) (all_one (by kernel_rfl)) (Nat.le_of_ble_eq_true (by kernel_rfl))
            refine at_skip hF (by kernel_rfl) hrun ?_
            have hS : Sep w0 B w (blk g5 25 #[.int .i64 (geti ([1, 0, (-1), 0, 0, 1, 0, (-1)] : List Int) (z2 * 2)), .int .i64 (geti ([1, 0, (-1), 0, 0, 1, 0, (-1)] : List Int) (z2 * 2 + 1))] :: blk g4 24 #[.int .i64 g1, .int .i64 g2, .slice A1 g3.length c1] :: ownK 119 3 A4 l3.length c4 (List.flatMap enc119 l3) :: fs) := hS
            refine at_end [1, 3, 4, 5, 6, 8, 14, 15, 30, 31] [pl 1 (.pointer (some ⟨g4, 0, none⟩)), pl 3 (.slice A4 l3.length c4), pl 4 (.int .i64 z1), pl 5 (.int .i64 (Int.tmod z1 g1)), pl 6 (.int .i64 (w64 (Int.tdiv z1 g1))), pl 8 (.pointer (some ⟨g5, 0, none⟩)), pl 14 (.int .i64 (g3.length : Int)), pl 15 (.int .i64 z1), pl 30 (.agg (List.toArray (([] : List Value) ++ (arr1 (Value.int .i64) (0 : Int) 8 ([1, 0, (-1), 0, 0, 1, 0, (-1)] : List Int) ++ ([] : List Value))))), pl 31 (.int .i64 z2)] hF rfl (by kernel_rfl) (fun hF => ?_)
            refine then_n ?_
            refine reg [⟨false, [], vS (Instr.loadAt 3 (.pointer (some ⟨g5, 0, none⟩))), .int .i64 (geti ([1, 0, (-1), 0, 0, 1, 0, (-1)] : List Int) (z2 * 2))⟩, ⟨false, [], vS (Instr.loadAt 3 (.pointer (some ⟨g5, 1, none⟩))), .int .i64 (geti ([1, 0, (-1), 0, 0, 1, 0, (-1)] : List Int) (z2 * 2 + 1))⟩] [none, none, some (.int .i64 (geti ([1, 0, (-1), 0, 0, 1, 0, (-1)] : List Int) (z2 * 2))), none, none, none, none, some (.int .i64 (geti ([1, 0, (-1), 0, 0, 1, 0, (-1)] : List Int) (z2 * 2 + 1))), none, none, none, none] [1, 3, 4, 5, 6, 8, 9, 10, 14, 15, 30, 31] [pl 1 (.pointer (some ⟨g4, 0, none⟩)), pl 3 (.slice A4 l3.length c4), pl 4 (.int .i64 z1), pl 5 (.int .i64 (Int.tmod z1 g1)), pl 6 (.int .i64 (w64 (Int.tdiv z1 g1))), pl 8 (.pointer (some ⟨g5, 0, none⟩)), pl 9 (.int .i64 (w64 ((Int.tmod z1 g1) + (w64 (2 * (geti ([1, 0, (-1), 0, 0, 1, 0, (-1)] : List Int) (z2 * 2))))))), pl 10 (.int .i64 (w64 ((w64 (Int.tdiv z1 g1)) + (w64 (2 * (geti ([1, 0, (-1), 0, 0, 1, 0, (-1)] : List Int) (z2 * 2 + 1))))))), pl 14 (.int .i64 (g3.length : Int)), pl 15 (.int .i64 z1), pl 30 (.agg (List.toArray (([] : List Value) ++ (arr1 (Value.int .i64) (0 : Int) 8 ([1, 0, (-1), 0, 0, 1, 0, (-1)] : List Int) ++ ([] : List Value))))), pl 31 (.int .i64 z2)] hF hS Fol (by kernel_rfl) (by kernel_rfl) (by kernel_rfl) ?_ (fun a w hF hS => ?_)
            · exact obs_cons (ob_load Agg3 (fun _ _ hS => (hS.at_ 0 rfl).cell rfl)) <| obs_cons (ob_load Agg3 (fun _ _ hS => (hS.at_ 0 rfl).cell rfl)) <| obs_nil
            refine seq_cut (fun a w => Fr 118 [pl 1 (.pointer (some ⟨g4, 0, none⟩)), pl 3 (.slice A4 l3.length c4), pl 4 (.int .i64 z1), pl 5 (.int .i64 (Int.tmod z1 g1)), pl 6 (.int .i64 (w64 (Int.tdiv z1 g1))), pl 8 (.pointer (some ⟨g5, 0, none⟩)), pl 9 (.int .i64 (w64 ((Int.tmod z1 g1) + (w64 (2 * (geti ([1, 0, (-1), 0, 0, 1, 0, (-1)] : List Int) (z2 * 2))))))), pl 10 (.int .i64 (w64 ((w64 (Int.tdiv z1 g1)) + (w64 (2 * (geti ([1, 0, (-1), 0, 0, 1, 0, (-1)] : List Int) (z2 * 2 + 1))))))), pl 14 (.int .i64 (g3.length : Int)), pl 15 (.int .i64 z1), pl 30 (.agg (List.toArray (([] : List Value) ++ (arr1 (Value.int .i64) (0 : Int) 8 ([1, 0, (-1), 0, 0, 1, 0, (-1)] : List Int) ++ ([] : List Value))))), pl 31 (.int .i64 z2)] a ∧ Sep w0 B w (blk g4 24 #[.int .i64 g1, .int .i64 g2, .slice A1 g3.length c1] :: ownK 119 3 A4 l3.length c4 (List.flatMap enc119 l3) :: blk g5 25 #[.int .i64 (geti ([1, 0, (-1), 0, 0, 1, 0, (-1)] : List Int) (z2 * 2)), .int .i64 (geti ([1, 0, (-1), 0, 0, 1, 0, (-1)] : List Int) (z2 * 2 + 1))] :: fs) ∧ ((pegs_jumps_J6 g1 g3 z1 l3 z2)).bind φ2 = some r) ?_ ?_
            · rintro a w ⟨hF, hS, hm⟩
              unfold pegs_jumps_J6 at hm
              refine reg [⟨false, [], vS (Instr.loadAt 3 (.pointer (some ⟨g5, 1, none⟩))), .int .i64 (geti ([1, 0, (-1), 0, 0, 1, 0, (-1)] : List Int) (z2 * 2 + 1))⟩, ⟨false, [], vS (Instr.loadAt 3 (.pointer (some ⟨g4, 0, none⟩))), .int .i64 g1⟩, ⟨false, [], vS (Instr.loadAt 3 (.pointer (some ⟨g5, 0, none⟩))), .int .i64 (geti ([1, 0, (-1), 0, 0, 1, 0, (-1)] : List Int) (z2 * 2))⟩] [none, none, some (.int .i64 (geti ([1, 0, (-1), 0, 0, 1, 0, (-1)] : List Int) (z2 * 2 + 1))), none, none, some (.int .i64 g1), none, none, none, none, some (.int .i64 (geti ([1, 0, (-1), 0, 0, 1, 0, (-1)] : List Int) (z2 * 2))), none, none] [1, 3, 4, 5, 6, 9, 10, 11, 14, 15, 30, 31] [pl 1 (.pointer (some ⟨g4, 0, none⟩)), pl 3 (.slice A4 l3.length c4), pl 4 (.int .i64 z1), pl 5 (.int .i64 (Int.tmod z1 g1)), pl 6 (.int .i64 (w64 (Int.tdiv z1 g1))), pl 9 (.int .i64 (w64 ((Int.tmod z1 g1) + (w64 (2 * (geti ([1, 0, (-1), 0, 0, 1, 0, (-1)] : List Int) (z2 * 2))))))), pl 10 (.int .i64 (w64 ((w64 (Int.tdiv z1 g1)) + (w64 (2 * (geti ([1, 0, (-1), 0, 0, 1, 0, (-1)] : List Int) (z2 * 2 + 1))))))), pl 11 (.int .i64 (w64 ((w64 ((w64 ((w64 ((w64 (Int.tdiv z1 g1)) + (geti ([1, 0, (-1), 0, 0, 1, 0, (-1)] : List Int) (z2 * 2 + 1)))) * g1)) + (Int.tmod z1 g1))) + (geti ([1, 0, (-1), 0, 0, 1, 0, (-1)] : List Int) (z2 * 2))))), pl 14 (.int .i64 (g3.length : Int)), pl 15 (.int .i64 z1), pl 30 (.agg (List.toArray (([] : List Value) ++ (arr1 (Value.int .i64) (0 : Int) 8 ([1, 0, (-1), 0, 0, 1, 0, (-1)] : List Int) ++ ([] : List Value))))), pl 31 (.int .i64 z2)] hF hS Fol (by kernel_rfl) (by kernel_rfl) (by kernel_rfl) ?_ (fun a w hF hS => ?_)
              · exact obs_cons (ob_load Agg3 (fun _ _ hS => (hS.at_ 2 rfl).cell rfl)) <| obs_cons (ob_load Agg3 (fun _ _ hS => (hS.at_ 0 rfl).cell rfl)) <| obs_cons (ob_load Agg3 (fun _ _ hS => (hS.at_ 2 rfl).cell rfl)) <| obs_nil
              obtain ⟨hp4, hm⟩ := asrt_b hm
              obtain ⟨hp5, hm⟩ := asrt_b hm
              obtain ⟨hp6, hm⟩ := asrt_b hm
              refine reg [⟨false, [], vS (Instr.loadAt 22 (.pointer (some ⟨g4, 2, none⟩))), .slice A1 g3.length c1⟩, ⟨true, [], vS (Instr.indexAt 22 (.slice A1 g3.length c1) (.int .i64 z1)), .pointer (some (sAddr A1 z1))⟩, ⟨false, [], vS (Instr.loadAt 3 (.pointer (some (sAddr A1 z1)))), .int .i64 (geti g3 z1)⟩, ⟨false, [(((geti g3 z1) != 2), true)], vS (Instr.loadAt 22 (.pointer (some ⟨g4, 2, none⟩))), .slice A1 g3.length c1⟩, ⟨true, [(((geti g3 z1) != 2), true)], vS (Instr.indexAt 22 (.slice A1 g3.length c1) (.int .i64 (w64 ((w64 ((w64 ((w64 ((w64 (Int.tdiv z1 g1)) + (geti ([1, 0, (-1), 0, 0, 1, 0, (-1)] : List Int) (z2 * 2 + 1)))) * g1)) + (Int.tmod z1 g1))) + (geti ([1, 0, (-1), 0, 0, 1, 0, (-1)] : List Int) (z2 * 2)))))), .pointer (some (sAddr A1 (w64 ((w64 ((w64 ((w64 ((w64 (Int.tdiv z1 g1)) + (geti ([1, 0, (-1), 0, 0, 1, 0, (-1)] : List Int) (z2 * 2 + 1)))) * g1)) + (Int.tmod z1 g1))) + (geti ([1, 0, (-1), 0, 0, 1, 0, (-1)] : List Int) (z2 * 2))))))⟩, ⟨false, [(((geti g3 z1) != 2), true)], vS (Instr.loadAt 3 (.pointer (some (sAddr A1 (w64 ((w64 ((w64 ((w64 ((w64 (Int.tdiv z1 g1)) + (geti ([1, 0, (-1), 0, 0, 1, 0, (-1)] : List Int) (z2 * 2 + 1)))) * g1)) + (Int.tmod z1 g1))) + (geti ([1, 0, (-1), 0, 0, 1, 0, (-1)] : List Int) (z2 * 2)))))))), .int .i64 (geti g3 (w64 ((w64 ((w64 ((w64 ((w64 (Int.tdiv z1 g1)) + (geti ([1, 0, (-1), 0, 0, 1, 0, (-1)] : List Int) (z2 * 2 + 1)))) * g1)) + (Int.tmod z1 g1))) + (geti ([1, 0, (-1), 0, 0, 1, 0, (-1)] : List Int) (z2 * 2)))))⟩, ⟨false, [(((geti g3 z1) != 2) && ((geti g3 (w64 ((w64 ((w64 ((w64 ((w64 (Int.tdiv z1 g1)) + (geti ([1, 0, (-1), 0, 0, 1, 0, (-1)] : List Int) (z2 * 2 + 1)))) * g1)) + (Int.tmod z1 g1))) + (geti ([1, 0, (-1), 0, 0, 1, 0, (-1)] : List Int) (z2 * 2))))) != 2), true)], vS (Instr.loadAt 22 (.pointer (some ⟨g4, 2, none⟩))), .slice A1 g3.length c1⟩, ⟨false, [(((geti g3 z1) != 2) && ((geti g3 (w64 ((w64 ((w64 ((w64 ((w64 (Int.tdiv z1 g1)) + (geti ([1, 0, (-1), 0, 0, 1, 0, (-1)] : List Int) (z2 * 2 + 1)))) * g1)) + (Int.tmod z1 g1))) + (geti ([1, 0, (-1), 0, 0, 1, 0, (-1)] : List Int) (z2 * 2))))) != 2), true)], vS (Instr.loadAt 3 (.pointer (some ⟨g4, 0, none⟩))), .int .i64 g1⟩, ⟨true, [(((geti g3 z1) != 2) && ((geti g3 (w64 ((w64 ((w64 ((w64 ((w64 (Int.tdiv z1 g1)) + (geti ([1, 0, (-1), 0, 0, 1, 0, (-1)] : List Int) (z2 * 2 + 1)))) * g1)) + (Int.tmod z1 g1))) + (geti ([1, 0, (-1), 0, 0, 1, 0, (-1)] : List Int) (z2 * 2))))) != 2), true)], vS (Instr.indexAt 22 (.slice A1 g3.length c1) (.int .i64 (w64 ((w64 ((w64 ((w64 (Int.tdiv z1 g1)) + (w64 (2 * (geti ([1, 0, (-1), 0, 0, 1, 0, (-1)] : List Int) (z2 * 2 + 1)))))) * g1)) + (w64 ((Int.tmod z1 g1) + (w64 (2 * (geti ([1, 0, (-1), 0, 0, 1, 0, (-1)] : List Int) (z2 * 2)))))))))), .pointer (some (sAddr A1 (w64 ((w64 ((w64 ((w64 (Int.tdiv z1 g1)) + (w64 (2 * (geti ([1, 0, (-1), 0, 0, 1, 0, (-1)] : List Int) (z2 * 2 + 1)))))) * g1)) + (w64 ((Int.tmod z1 g1) + (w64 (2 * (geti ([1, 0, (-1), 0, 0, 1, 0, (-1)] : List Int) (z2 * 2))))))))))⟩, ⟨false, [(((geti g3 z1) != 2) && ((geti g3 (w64 ((w64 ((w64 ((w64 ((w64 (Int.tdiv z1 g1)) + (geti ([1, 0, (-1), 0, 0, 1, 0, (-1)] : List Int) (z2 * 2 + 1)))) * g1)) + (Int.tmod z1 g1))) + (geti ([1, 0, (-1), 0, 0, 1, 0, (-1)] : List Int) (z2 * 2))))) != 2), true)], vS (Instr.loadAt 3 (.pointer (some (sAddr A1 (w64 ((w64 ((w64 ((w64 (Int.tdiv z1 g1)) + (w64 (2 * (geti ([1, 0, (-1), 0, 0, 1, 0, (-1)] : List Int) (z2 * 2 + 1)))))) * g1)) + (w64 ((Int.tmod z1 g1) + (w64 (2 * (geti ([1, 0, (-1), 0, 0, 1, 0, (-1)] : List Int) (z2 * 2)))))))))))), .int .i64 (geti g3 (w64 ((w64 ((w64 ((w64 (Int.tdiv z1 g1)) + (w64 (2 * (geti ([1, 0, (-1), 0, 0, 1, 0, (-1)] : List Int) (z2 * 2 + 1)))))) * g1)) + (w64 ((Int.tmod z1 g1) + (w64 (2 * (geti ([1, 0, (-1), 0, 0, 1, 0, (-1)] : List Int) (z2 * 2)))))))))⟩] [none, some (.slice A1 g3.length c1), none, some (.pointer (some (sAddr A1 z1))), some (.int .i64 (geti g3 z1)), none, none, none, some (.slice A1 g3.length c1), none, some (.pointer (some (sAddr A1 (w64 ((w64 ((w64 ((w64 ((w64 (Int.tdiv z1 g1)) + (geti ([1, 0, (-1), 0, 0, 1, 0, (-1)] : List Int) (z2 * 2 + 1)))) * g1)) + (Int.tmod z1 g1))) + (geti ([1, 0, (-1), 0, 0, 1, 0, (-1)] : List Int) (z2 * 2))))))), some (.int .i64 (geti g3 (w64 ((w64 ((w64 ((w64 ((w64 (Int.tdiv z1 g1)) + (geti ([1, 0, (-1), 0, 0, 1, 0, (-1)] : List Int) (z2 * 2 + 1)))) * g1)) + (Int.tmod z1 g1))) + (geti ([1, 0, (-1), 0, 0, 1, 0, (-1)] : List Int) (z2 * 2)))))), none, none, none, none, some (.slice A1 g3.length c1), none, none, some (.int .i64 g1), none, none, none, some (.pointer (some (sAddr A1 (w64 ((w64 ((w64 ((w64 (Int.tdiv z1 g1)) + (w64 (2 * (geti ([1, 0, (-1), 0, 0, 1, 0, (-1)] : List Int) (z2 * 2 + 1)))))) * g1)) + (w64 ((Int.tmod z1 g1) + (w64 (2 * (geti ([1, 0, (-1), 0, 0, 1, 0, (-1)] : List Int) (z2 * 2))))))))))), some (.int .i64 (geti g3 (w64 ((w64 ((w64 ((w64 (Int.tdiv z1 g1)) + (w64 (2 * (geti ([1, 0, (-1), 0, 0, 1, 0, (-1)] : List Int) (z2 * 2 + 1)))))) * g1)) + (w64 ((Int.tmod z1 g1) + (w64 (2 * (geti ([1, 0, (-1), 0, 0, 1, 0, (-1)] : List Int) (z2 * 2)))))))))), none, none] [1, 3, 4, 5, 6, 9, 10, 11, 14, 15, 30, 31, 100] [pl 1 (.pointer (some ⟨g4, 0, none⟩)), pl 3 (.slice A4 l3.length c4), pl 4 (.int .i64 z1), pl 5 (.int .i64 (Int.tmod z1 g1)), pl 6 (.int .i64 (w64 (Int.tdiv z1 g1))), pl 9 (.int .i64 (w64 ((Int.tmod z1 g1) + (w64 (2 * (geti ([1, 0, (-1), 0, 0, 1, 0, (-1)] : List Int) (z2 * 2))))))), pl 10 (.int .i64 (w64 ((w64 (Int.tdiv z1 g1)) + (w64 (2 * (geti ([1, 0, (-1), 0, 0, 1, 0, (-1)] : List Int) (z2 * 2 + 1))))))), pl 11 (.int .i64 (w64 ((w64 ((w64 ((w64 ((w64 (Int.tdiv z1 g1)) + (geti ([1, 0, (-1), 0, 0, 1, 0, (-1)] : List Int) (z2 * 2 + 1)))) * g1)) + (Int.tmod z1 g1))) + (geti ([1, 0, (-1), 0, 0, 1, 0, (-1)] : List Int) (z2 * 2))))), pl 14 (.int .i64 (g3.length : Int)), pl 15 (.int .i64 z1), pl 30 (.agg (List.toArray (([] : List Value) ++ (arr1 (Value.int .i64) (0 : Int) 8 ([1, 0, (-1), 0, 0, 1, 0, (-1)] : List Int) ++ ([] : List Value))))), pl 31 (.int .i64 z2), pl 100 (.bool ((((geti g3 z1) != 2) && ((geti g3 (w64 ((w64 ((w64 ((w64 ((w64 (Int.tdiv z1 g1)) + (geti ([1, 0, (-1), 0, 0, 1, 0, (-1)] : List Int) (z2 * 2 + 1)))) * g1)) + (Int.tmod z1 g1))) + (geti ([1, 0, (-1), 0, 0, 1, 0, (-1)] : List Int) (z2 * 2))))) != 2)) && ((geti g3 (w64 ((w64 ((w64 ((w64 (Int.tdiv z1 g1)) + (w64 (2 * (geti ([1, 0, (-1), 0, 0, 1, 0, (-1)] : List Int) (z2 * 2 + 1)))))) * g1)) + (w64 ((Int.tmod z1 g1) + (w64 (2 * (geti ([1, 0, (-1), 0, 0, 1, 0, (-1)] : List Int) (z2 * 2))))))))) != 2)))] hF hS Fol (by kernel_rfl) (by kernel_rfl) (by kernel_rfl) ?_ (fun a w hF hS => ?_)
              · exact obs_cons (ob_load Agg22 (fun _ _ hS => (hS.at_ 0 rfl).cell rfl)) <| obs_cons (ob_ix1 (f := (Value.int .i64)) (m := g3) Und22 hi3 hs3 (hr_g3 _ (hS.dropN 3)) rfl (fun _ => hp4)) <| obs_cons (ob_get1 (n := g3.length) (m := g3) (Value.int .i64) (0 : Int) Agg3 (fun _ hS => ⟨_, (hr_g3 _ (hS.dropN 3))⟩) (fun _ hS => rfl) (fun _ => hp4)) <| obs_cons (ob_load Agg22 (fun _ _ hS => (hS.at_ 0 rfl).cell rfl)) <| obs_cons (ob_ix1 (f := (Value.int .i64)) (m := g3) Und22 hi3 hs3 (hr_g3 _ (hS.dropN 3)) rfl (fun hy => hp5 (hy (((geti g3 z1) != 2), true) (by simp)))) <| obs_cons (ob_get1 (n := g3.length) (m := g3) (Value.int .i64) (0 : Int) Agg3 (fun _ hS => ⟨_, (hr_g3 _ (hS.dropN 3))⟩) (fun _ hS => rfl) (fun hy => hp5 (hy (((geti g3 z1) != 2), true) (by simp)))) <| obs_cons (ob_load Agg22 (fun _ _ hS => (hS.at_ 0 rfl).cell rfl)) <| obs_cons (ob_load Agg3 (fun _ _ hS => (hS.at_ 0 rfl).cell rfl)) <| obs_cons (ob_ix1 (f := (Value.int .i64)) (m := g3) Und22 hi3 hs3 (hr_g3 _ (hS.dropN 3)) rfl (fun hy => hp6 (hy (((geti g3 z1) != 2) && ((geti g3 (w64 ((w64 ((w64 ((w64 ((w64 (Int.tdiv z1 g1)) + (geti ([1, 0, (-1), 0, 0, 1, 0, (-1)] : List Int) (z2 * 2 + 1)))) * g1)) + (Int.tmod z1 g1))) + (geti ([1, 0, (-1), 0, 0, 1, 0, (-1)] : List Int) (z2 * 2))))) != 2), true) (by simp)))) <| obs_cons (ob_get1 (n := g3.length) (m := g3) (Value.int .i64) (0 : Int) Agg3 (fun _ hS => ⟨_, (hr_g3 _ (hS.dropN 3))⟩) (fun _ hS => rfl) (fun hy => hp6 (hy (((geti g3 z1) != 2) && ((geti g3 (w64 ((w64 ((w64 ((w64 ((w64 (Int.tdiv z1 g1)) + (geti ([1, 0, (-1), 0, 0, 1, 0, (-1)] : List Int) (z2 * 2 + 1)))) * g1)) + (Int.tmod z1 g1))) + (geti ([1, 0, (-1), 0, 0, 1, 0, (-1)] : List Int) (z2 * 2))))) != 2), true) (by simp)))) <| obs_nil
              refine cond_ev (t := 100) (b := (((geti g3 z1) != 2) && ((geti g3 (w64 ((w64 ((w64 ((w64 ((w64 (Int.tdiv z1 g1)) + (geti ([1, 0, (-1), 0, 0, 1, 0, (-1)] : List Int) (z2 * 2 + 1)))) * g1)) + (Int.tmod z1 g1))) + (geti ([1, 0, (-1), 0, 0, 1, 0, (-1)] : List Int) (z2 * 2))))) != 2)) && ((geti g3 (w64 ((w64 ((w64 ((w64 (Int.tdiv z1 g1)) + (w64 (2 * (geti ([1, 0, (-1), 0, 0, 1, 0, (-1)] : List Int) (z2 * 2 + 1)))))) * g1)) + (w64 ((Int.tmod z1 g1) + (w64 (2 * (geti ([1, 0, (-1), 0, 0, 1, 0, (-1)] : List Int) (z2 * 2))))))))) != 2)) hF (by kernel_rfl) (fun hb => ?_) (fun hb => ?_)
              · replace hm := if_t hm hb
                refine oneR ?_
                obtain ⟨hp7, hm⟩ := asrt_b hm
                refine at_run 10 [⟨false, [], vS (Instr.loadAt 3 (.pointer (some ⟨g4, 0, none⟩))), .int .i64 g1⟩] [none, none, none, none, none, some (.int .i64 g1), none, none, none, none] [1, 4, 5, 6, 14, 15, 30, 31, 101, 110] [pl 1 (.pointer (some ⟨g4, 0, none⟩)), pl 4 (.int .i64 z1), pl 5 (.int .i64 (Int.tmod z1 g1)), pl 6 (.int .i64 (w64 (Int.tdiv z1 g1))), pl 14 (.int .i64 (g3.length : Int)), pl 15 (.int .i64 z1), pl 30 (.agg (List.toArray (([] : List Value) ++ (arr1 (Value.int .i64) (0 : Int) 8 ([1, 0, (-1), 0, 0, 1, 0, (-1)] : List Int) ++ ([] : List Value))))), pl 31 (.int .i64 z2), pl 101 (.slice A4 l3.length c4), pl 110 (.agg #[.int .i64 z1, .int .i64 (w64 ((w64 ((w64 ((w64 ((w64 (Int.tdiv z1 g1)) + (geti ([1, 0, (-1), 0, 0, 1, 0, (-1)] : List Int) (z2 * 2 + 1)))) * g1)) + (Int.tmod z1 g1))) + (geti ([1, 0, (-1), 0, 0, 1, 0, (-1)] : List Int) (z2 * 2)))), .int .i64 (w64 ((w64 ((w64 ((w64 (Int.tdiv z1 g1)) + (w64 (2 * (geti ([1, 0, (-1), 0, 0, 1, 0, (-1)] : List Int) (z2 * 2 + 1)))))) * g1)) + (w64 ((Int.tmod z1 g1) + (w64 (2 * (geti ([1, 0, (-1), 0, 0, 1, 0, (-1)] : List Int) (z2 * 2))))))))])] hF hS (by kernel_rfl) (by kernel_rfl) ?_ (fun a w hF hS => ?_)
                · exact obs_cons (ob_load Agg3 (fun _ _ hS => (hS.at_ 0 rfl).cell rfl)) <| obs_nil
                refine at_do (d := 111) (s := vS (Instr.buildSlice 114 1 #[(0, .agg #[.int .i64 z1, .int .i64 (w64 ((w64 ((w64 ((w64 ((w64 (Int.tdiv z1 g1)) + (geti ([1, 0, (-1), 0, 0, 1, 0, (-1)] : List Int) (z2 * 2 + 1)))) * g1)) + (Int.tmod z1 g1))) + (geti ([1, 0, (-1), 0, 0, 1, 0, (-1)] : List Int) (z2 * 2)))), .int .i64 (w64 ((w64 ((w64 ((w64 (Int.tdiv z1 g1)) + (w64 (2 * (geti ([1, 0, (-1), 0, 0, 1, 0, (-1)] : List Int) (z2 * 2 + 1)))))) * g1)) + (w64 ((Int.tmod z1 g1) + (w64 (2 * (geti ([1, 0, (-1), 0, 0, 1, 0, (-1)] : List Int) (z2 * 2))))))))])])) (v := .slice (some ⟨w.heap.size, 0, none⟩) 1 1) (w' := w.alloc (.cells #[.int .i64 z1, .int .i64 (w64 ((w64 ((w64 ((w64 ((w64 (Int.tdiv z1 g1)) + (geti ([1, 0, (-1), 0, 0, 1, 0, (-1)] : List Int) (z2 * 2 + 1)))) * g1)) + (Int.tmod z1 g1))) + (geti ([1, 0, (-1), 0, 0, 1, 0, (-1)] : List Int) (z2 * 2)))), .int .i64 (w64 ((w64 ((w64 ((w64 (Int.tdiv z1 g1)) + (w64 (2 * (geti ([1, 0, (-1), 0, 0, 1, 0, (-1)] : List Int) (z2 * 2 + 1)))))) * g1)) + (w64 ((Int.tmod z1 g1) + (w64 (2 * (geti ([1, 0, (-1), 0, 0, 1, 0, (-1)] : List Int) (z2 * 2))))))))] 119)) hF (by kernel_rfl) (by kernel_rfl) (by kernel_rfl) (fun a hF => ?_)
                have hS : Sep w0 B (w.alloc (.cells #[.int .i64 z1, .int .i64 (w64 ((w64 ((w64 ((w64 ((w64 (Int.tdiv z1 g1)) + (geti ([1, 0, (-1), 0, 0, 1, 0, (-1)] : List Int) (z2 * 2 + 1)))) * g1)) + (Int.tmod z1 g1))) + (geti ([1, 0, (-1), 0, 0, 1, 0, (-1)] : List Int) (z2 * 2)))), .int .i64 (w64 ((w64 ((w64 ((w64 (Int.tdiv z1 g1)) + (w64 (2 * (geti ([1, 0, (-1), 0, 0, 1, 0, (-1)] : List Int) (z2 * 2 + 1)))))) * g1)) + (w64 ((Int.tmod z1 g1) + (w64 (2 * (geti ([1, 0, (-1), 0, 0, 1, 0, (-1)] : List Int) (z2 * 2))))))))] 119)) (ownK 119 3 (some (⟨w.heap.size, 0, none⟩ : Addr)) 1 1 (List.flatMap enc119 ([(z1, w64 ((w64 ((w64 ((w64 ((w64 (Int.tdiv z1 g1)) + (geti ([1, 0, (-1), 0, 0, 1, 0, (-1)] : List Int) (z2 * 2 + 1)))) * g1)) + (Int.tmod z1 g1))) + (geti ([1, 0, (-1), 0, 0, 1, 0, (-1)] : List Int) (z2 * 2))), w64 ((w64 ((w64 ((w64 (Int.tdiv z1 g1)) + (w64 (2 * (geti ([1, 0, (-1), 0, 0, 1, 0, (-1)] : List Int) (z2 * 2 + 1)))))) * g1)) + (w64 ((Int.tmod z1 g1) + (w64 (2 * (geti ([1, 0, (-1), 0, 0, 1, 0, (-1)] : List Int) (z2 * 2))))))))] : List (Int × Int × Int))) :: (blk g4 24 #[.int .i64 g1, .int .i64 g2, .slice A1 g3.length c1] :: ownK 119 3 A4 l3.length c4 (List.flatMap enc119 l3) :: blk g5 25 #[.int .i64 (geti ([1, 0, (-1), 0, 0, 1, 0, (-1)] : List Int) (z2 * 2)), .int .i64 (geti ([1, 0, (-1), 0, 0, 1, 0, (-1)] : List Int) (z2 * 2 + 1))] :: fs)) := hS.litK 119 3 #[.int .i64 z1, .int .i64 (w64 ((w64 ((w64 ((w64 ((w64 (Int.tdiv z1 g1)) + (geti ([1, 0, (-1), 0, 0, 1, 0, (-1)] : List Int) (z2 * 2 + 1)))) * g1)) + (Int.tmod z1 g1))) + (geti ([1, 0, (-1), 0, 0, 1, 0, (-1)] : List Int) (z2 * 2)))), .int .i64 (w64 ((w64 ((w64 ((w64 (Int.tdiv z1 g1)) + (w64 (2 * (geti ([1, 0, (-1), 0, 0, 1, 0, (-1)] : List Int) (z2 * 2 + 1)))))) * g1)) + (w64 ((Int.tmod z1 g1) + (w64 (2 * (geti ([1, 0, (-1), 0, 0, 1, 0, (-1)] : List Int) (z2 * 2))))))))] 1 rfl (by omega)
                generalize (some (⟨w.heap.size, 0, none⟩ : Addr)) = g6 at hF hS
                generalize w.alloc (.cells #[.int .i64 z1, .int .i64 (w64 ((w64 ((w64 ((w64 ((w64 (Int.tdiv z1 g1)) + (geti ([1, 0, (-1), 0, 0, 1, 0, (-1)] : List Int) (z2 * 2 + 1)))) * g1)) + (Int.tmod z1 g1))) + (geti ([1, 0, (-1), 0, 0, 1, 0, (-1)] : List Int) (z2 * 2)))), .int .i64 (w64 ((w64 ((w64 ((w64 (Int.tdiv z1 g1)) + (w64 (2 * (geti ([1, 0, (-1), 0, 0, 1, 0, (-1)] : List Int) (z2 * 2 + 1)))))) * g1)) + (w64 ((Int.tmod z1 g1) + (w64 (2 * (geti ([1, 0, (-1), 0, 0, 1, 0, (-1)] : List Int) (z2 * 2))))))))] 119) = w at hS ⊢
                obtain ⟨A7, c7, w, hrun, hS⟩ := run_appK3 (P := Try.prog) (t := 114) (m := l3) (ys := ([(z1, w64 ((w64 ((w64 ((w64 ((w64 (Int.tdiv z1 g1)) + (geti ([1, 0, (-1), 0, 0, 1, 0, (-1)] : List Int) (z2 * 2 + 1)))) * g1)) + (Int.tmod z1 g1))) + (geti ([1, 0, (-1), 0, 0, 1, 0, (-1)] : List Int) (z2 * 2))), w64 ((w64 ((w64 ((w64 (Int.tdiv z1 g1)) + (w64 (2 * (geti ([1, 0, (-1), 0, 0, 1, 0, (-1)] : List Int) (z2 * 2 + 1)))))) * g1)) + (w64 ((Int.tmod z1 g1) + (w64 (2 * (geti ([1, 0, (-1), 0, 0, 1, 0, (-1)] : List Int) (z2 * 2))))))))] : List (Int × Int × Int))) (A2 := g6) (m2 := 1) (c2 := 1) encK119 (hS.at_ 2 rfl) (hS.at_ 0 rfl).rdK ((hS.at_ 0 rfl).lenK encK119) 114 Und114 hi119 hz119 hs119 rfl (by omega) hp7
                have hS : Sep w0 B w (ownK 119 3 g6 1 1 (List.flatMap enc119 ([(z1, w64 ((w64 ((w64 ((w64 ((w64 (Int.tdiv z1 g1)) + (geti ([1, 0, (-1), 0, 0, 1, 0, (-1)] : List Int) (z2 * 2 + 1)))) * g1)) + (Int.tmod z1 g1))) + (geti ([1, 0, (-1), 0, 0, 1, 0, (-1)] : List Int) (z2 * 2))), w64 ((w64 ((w64 ((w64 (Int.tdiv z1 g1)) + (w64 (2 * (geti ([1, 0, (-1), 0, 0, 1, 0, (-1)] : List Int) (z2 * 2 + 1)))))) * g1)) + (w64 ((Int.tmod z1 g1) + (w64 (2 * (geti ([1, 0, (-1), 0, 0, 1, 0, (-1)] : List Int) (z2 * 2))))))))] : List (Int × Int × Int))) :: blk g4 24 #[.int .i64 g1, .int .i64 g2, .slice A1 g3.length c1] :: ownK 119 3 A7 ((l3 ++ ([(z1, w64 ((w64 ((w64 ((w64 ((w64 (Int.tdiv z1 g1)) + (geti ([1, 0, (-1), 0, 0, 1, 0, (-1)] : List Int) (z2 * 2 + 1)))) * g1)) + (Int.tmod z1 g1))) + (geti ([1, 0, (-1), 0, 0, 1, 0, (-1)] : List Int) (z2 * 2))), w64 ((w64 ((w64 ((w64 (Int.tdiv z1 g1)) + (w64 (2 * (geti ([1, 0, (-1), 0, 0, 1, 0, (-1)] : List Int) (z2 * 2 + 1)))))) * g1)) + (w64 ((Int.tmod z1 g1) + (w64 (2 * (geti ([1, 0, (-1), 0, 0, 1, 0, (-1)] : List Int) (z2 * 2))))))))] : List (Int × Int × Int))).length) c7 (List.flatMap enc119 (l3 ++ ([(z1, w64 ((w64 ((w64 ((w64 ((w64 (Int.tdiv z1 g1)) + (geti ([1, 0, (-1), 0, 0, 1, 0, (-1)] : List Int) (z2 * 2 + 1)))) * g1)) + (Int.tmod z1 g1))) + (geti ([1, 0, (-1), 0, 0, 1, 0, (-1)] : List Int) (z2 * 2))), w64 ((w64 ((w64 ((w64 (Int.tdiv z1 g1)) + (w64 (2 * (geti ([1, 0, (-1), 0, 0, 1, 0, (-1)] : List Int) (z2 * 2 + 1)))))) * g1)) + (w64 ((Int.tmod z1 g1) + (w64 (2 * (geti ([1, 0, (-1), 0, 0, 1, 0, (-1)] : List Int) (z2 * 2))))))))] : List (Int × Int × Int)))) :: blk g5 25 #[.int .i64 (geti ([1, 0, (-1), 0, 0, 1, 0, (-1)] : List Int) (z2 * 2)), .int .i64 (geti ([1, 0, (-1), 0, 0, 1, 0, (-1)] : List Int) (z2 * 2 + 1))] :: fs) := hS
                refine at_do (d := 112) hF (by kernel_rfl) (by kernel_rfl) hrun (fun a hF => ?_)
                refine at_run 1 [] [] [1, 3, 4, 5, 6, 14, 15, 30, 31] [pl 1 (.pointer (some ⟨g4, 0, none⟩)), pl 3 (.slice A7 ((l3 ++ ([(z1, w64 ((w64 ((w64 ((w64 ((w64 (Int.tdiv z1 g1)) + (geti ([1, 0, (-1), 0, 0, 1, 0, (-1)] : List Int) (z2 * 2 + 1)))) * g1)) + (Int.tmod z1 g1))) + (geti ([1, 0, (-1), 0, 0, 1, 0, (-1)] : List Int) (z2 * 2))), w64 ((w64 ((w64 ((w64 (Int.tdiv z1 g1)) + (w64 (2 * (geti ([1, 0, (-1), 0, 0, 1, 0, (-1)] : List Int) (z2 * 2 + 1)))))) * g1)) + (w64 ((Int.tmod z1 g1) + (w64 (2 * (geti ([1, 0, (-1), 0, 0, 1, 0, (-1)] : List Int) (z2 * 2))))))))] : List (Int × Int × Int))).length) c7), pl 4 (.int .i64 z1), pl 5 (.int .i64 (Int.tmod z1 g1)), pl 6 (.int .i64 (w64 (Int.tdiv z1 g1))), pl 14 (.int .i64 (g3.length : Int)), pl 15 (.int .i64 z1), pl 30 (.agg (List.toArray (([] : List Value) ++ (arr1 (Value.int .i64) (0 : Int) 8 ([1, 0, (-1), 0, 0, 1, 0, (-1)] : List Int) ++ ([] : List Value))))), pl 31 (.int .i64 z2)] hF hS (by kernel_rfl) (by kernel_rfl) ?_ (fun a w hF hS => ?_)
                · exact obs_nil
                refine at_end [1, 3, 4, 5, 6, 14, 15, 30, 31] [pl 1 (.pointer (some ⟨g4, 0, none⟩)), pl 3 (.slice A7 ((l3 ++ ([(z1, w64 ((w64 ((w64 ((w64 ((w64 (Int.tdiv z1 g1)) + (geti ([1, 0, (-1), 0, 0, 1, 0, (-1)] : List Int) (z2 * 2 + 1)))) * g1)) + (Int.tmod z1 g1))) + (geti ([1, 0, (-1), 0, 0, 1, 0, (-1)] : List Int) (z2 * 2))), w64 ((w64 ((w64 ((w64 (Int.tdiv z1 g1)) + (w64 (2 * (geti ([1, 0, (-1), 0, 0, 1, 0, (-1)] : List Int) (z2 * 2 + 1)))))) * g1)) + (w64 ((Int.tmod z1 g1) + (w64 (2 * (geti ([1, 0, (-1), 0, 0, 1, 0, (-1)] : List Int) (z2 * 2))))))))] : List (Int × Int × Int))).length) c7), pl 4 (.int .i64 z1), pl 5 (.int .i64 (Int.tmod z1 g1)), pl 6 (.int .i64 (w64 (Int.tdiv z1 g1))), pl 14 (.int .i64 (g3.length : Int)), pl 15 (.int .i64 z1), pl 30 (.agg (List.toArray (([] : List Value) ++ (arr1 (Value.int .i64) (0 : Int) 8 ([1, 0, (-1), 0, 0, 1, 0, (-1)] : List Int) ++ ([] : List Value))))), pl 31 (.int .i64 z2)] hF rfl (by kernel_rfl) (fun hF => ?_)
                refine block_n ?_
                refine then_n ?_
                have hS := hS.pickN 4 [1, 2] (by decide)
                exact ⟨(l3 ++ ([(z1, w64 ((w64 ((w64 ((w64 ((w64 (Int.tdiv z1 g1)) + (geti ([1, 0, (-1), 0, 0, 1, 0, (-1)] : List Int) (z2 * 2 + 1)))) * g1)) + (Int.tmod z1 g1))) + (geti ([1, 0, (-1), 0, 0, 1, 0, (-1)] : List Int) (z2 * 2))), w64 ((w64 ((w64 ((w64 (Int.tdiv z1 g1)) + (w64 (2 * (geti ([1, 0, (-1), 0, 0, 1, 0, (-1)] : List Int) (z2 * 2 + 1)))))) * g1)) + (w64 ((Int.tmod z1 g1) + (w64 (2 * (geti ([1, 0, (-1), 0, 0, 1, 0, (-1)] : List Int) (z2 * 2))))))))] : List (Int × Int × Int))), A7, c7, hF.weak [1, 3, 4, 5, 6, 14, 15, 30, 31] (by kernel_rfl), hS, hm⟩
              · replace hm := if_f hm hb
                refine wpIn_skip ?_
                refine block_n ?_
                refine then_n ?_
                have hS := hS.pickN 3 [0, 1] (by decide)
                exact ⟨l3, A4, c4, hF.weak [1, 3, 4, 5, 6, 14, 15, 30, 31] (by kernel_rfl), hS, hm⟩
            · refine reg [⟨false, [(decide ((w64 ((Int.tmod z1 g1) + (w64 (2 * (geti ([1, 0, (-1), 0, 0, 1, 0, (-1)] : List Int) (z2 * 2)))))) < 0), false)], vS (Instr.loadAt 3 (.pointer (some ⟨g4, 0, none⟩))), .int .i64 g1⟩, ⟨false, [(((decide ((w64 ((Int.tmod z1 g1) + (w64 (2 * (geti ([1, 0, (-1), 0, 0, 1, 0, (-1)] : List Int) (z2 * 2)))))) < 0)) || (decide (g1 ≤ (w64 ((Int.tmod z1 g1) + (w64 (2 * (geti ([1, 0, (-1), 0, 0, 1, 0, (-1)] : List Int) (z2 * 2))))))))) || (decide ((w64 ((w64 (Int.tdiv z1 g1)) + (w64 (2 * (geti ([1, 0, (-1), 0, 0, 1, 0, (-1)] : List Int) (z2 * 2 + 1)))))) < 0)), false)], vS (Instr.loadAt 3 (.pointer (some ⟨g4, 1, none⟩))), .int .i64 g2⟩] [none, none, none, none, none, some (.int .i64 g1), none, none, none, none, none, none, none, none, none, some (.int .i64 g2), none, none] [1, 3, 4, 5, 6, 8, 9, 10, 14, 15, 30, 31, 61] [pl 1 (.pointer (some ⟨g4, 0, none⟩)), pl 3 (.slice A4 l3.length c4), pl 4 (.int .i64 z1), pl 5 (.int .i64 (Int.tmod z1 g1)), pl 6 (.int .i64 (w64 (Int.tdiv z1 g1))), pl 8 (.pointer (some ⟨g5, 0, none⟩)), pl 9 (.int .i64 (w64 ((Int.tmod z1 g1) + (w64 (2 * (geti ([1, 0, (-1), 0, 0, 1, 0, (-1)] : List Int) (z2 * 2))))))), pl 10 (.int .i64 (w64 ((w64 (Int.tdiv z1 g1)) + (w64 (2 * (geti ([1, 0, (-1), 0, 0, 1, 0, (-1)] : List Int) (z2 * 2 + 1))))))), pl 14 (.int .i64 (g3.length : Int)), pl 15 (.int .i64 z1), pl 30 (.agg (List.toArray (([] : List Value) ++ (arr1 (Value.int .i64) (0 : Int) 8 ([1, 0, (-1), 0, 0, 1, 0, (-1)] : List Int) ++ ([] : List Value))))), pl 31 (.int .i64 z2), pl 61 (.bool ((((decide ((w64 ((Int.tmod z1 g1) + (w64 (2 * (geti ([1, 0, (-1), 0, 0, 1, 0, (-1)] : List Int) (z2 * 2)))))) < 0)) || (decide (g1 ≤ (w64 ((Int.tmod z1 g1) + (w64 (2 * (geti ([1, 0, (-1), 0, 0, 1, 0, (-1)] : List Int) (z2 * 2))))))))) || (decide ((w64 ((w64 (Int.tdiv z1 g1)) + (w64 (2 * (geti ([1, 0, (-1), 0, 0, 1, 0, (-1)] : List Int) (z2 * 2 + 1)))))) < 0))) || (decide (g2 ≤ (w64 ((w64 (Int.tdiv z1 g1)) + (w64 (2 * (geti ([1, 0, (-1), 0, 0, 1, 0, (-1)] : List Int) (z2 * 2 + 1))))))))))] hF hS Fol (by kernel_rfl) (by kernel_rfl) (by kernel_rfl) ?_ (fun a w hF hS => ?_)
              · exact obs_cons (ob_load Agg3 (fun _ _ hS => (hS.at_ 1 rfl).cell rfl)) <| obs_cons (ob_load Agg3 (fun _ _ hS => (hS.at_ 1 rfl).cell rfl)) <| obs_nil
              refine cond_ev (t := 61) (b := (((decide ((w64 ((Int.tmod z1 g1) + (w64 (2 * (geti ([1, 0, (-1), 0, 0, 1, 0, (-1)] : List Int) (z2 * 2)))))) < 0)) || (decide (g1 ≤ (w64 ((Int.tmod z1 g1) + (w64 (2 * (geti ([1, 0, (-1), 0, 0, 1, 0, (-1)] : List Int) (z2 * 2))))))))) || (decide ((w64 ((w64 (Int.tdiv z1 g1)) + (w64 (2 * (geti ([1, 0, (-1), 0, 0, 1, 0, (-1)] : List Int) (z2 * 2 + 1)))))) < 0))) || (decide (g2 ≤ (w64 ((w64 (Int.tdiv z1 g1)) + (w64 (2 * (geti ([1, 0, (-1), 0, 0, 1, 0, (-1)] : List Int) (z2 * 2 + 1))))))))) hF (by kernel_rfl) (fun hb => ?_) (fun hb => ?_)
              · replace hm := if_t hm hb
                refine wpIn_exit ?_
                refine then_e (block_e (then_n ?_))
                have hS := hS.pickN 3 [1, 2] (by decide)
                exact ⟨l3, A4, c4, hF.weak [1, 3, 4, 5, 6, 14, 15, 30, 31] (by kernel_rfl), hS, hm⟩
              · replace hm := if_f hm hb
                refine wpIn_skip ?_
                refine then_n ?_
                have hS := hS.pickN 3 [1, 2, 0] (by decide)
                exact ⟨hF.weak [1, 3, 4, 5, 6, 8, 9, 10, 14, 15, 30, 31] (by kernel_rfl), hS, hm⟩
        · refine cond_ev (t := 32) (b := decide (z2 < 4)) hF (by kernel_rfl) (fun hb => ?_) (fun hb => ?_)
          · replace hm := if_t hm hb
            refine wpIn_skip ?_
            refine then_n ?_
            exact ⟨hF.weak [1, 3, 4, 5, 6, 14, 15, 30, 31] (by kernel_rfl), hS, hm⟩
          · replace hm := if_f hm hb
            refine wpIn_exit ?_
            refine then_e (then_e (block_e (block_n (then_n ?_))))
            rw [← hφ2] at hm
            replace hm := done_b hm
            unfold pegs_jumps_K2 at hm
            try dsimp only at hm
            have hm : ((pegs_jumps_J3 z1) l3).bind φ1 = some r := hm
            exact ⟨l3, A4, c4, hF.weak [1, 3, 14, 15] (by kernel_rfl), hS, hm⟩
    · refine cond_ev (t := 16) (b := decide (z1 < (g3.length : Int))) hF (by kernel_rfl) (fun hb => ?_) (fun hb => ?_)
      · replace hm := if_t hm hb
        refine wpIn_skip ?_
        refine then_n ?_
        exact ⟨hF.weak [1, 3, 14, 15] (by kernel_rfl), hS, hm⟩
      · replace hm := if_f hm hb
        refine wpIn_exit ?_
        refine then_e (then_e (block_e (then_n ?_)))
        have hS := hS.pickN 2 [1] (by decide)
        rw [← hφ1] at hm
        replace hm := done_b hm
        unfold pegs_jumps_K1 at hm
        try dsimp only at hm
        have hm : (pegs_jumps_J1 l1).bind some = some r := hm
        exact ⟨l1, A2, c2, hF.weak [3] (by kernel_rfl), hS, hm⟩

noncomputable def pegs_newSearch_J1  (z1 : List Int) (z2 : List (Int × Int × Int)) : Option (List Int × List (Int × Int × Int) × List (List UInt8 × Bool)) :=
  some (z1, z2, ([] : List (List UInt8 × Bool)))

noncomputable def pegs_newSearch_m  (g1 : Int) (g2 : Int) (g3 : List Int) : Option (List Int × List (Int × Int × Int) × List (List UInt8 × Bool)) :=
  (slices_Clone_m g3).bind fun r1 => (pegs_jumps_m g1 g2 g3).bind fun r2 => pegs_newSearch_J1 r1 r2

set_option maxRecDepth 100000 in
set_option maxHeartbeats 4000000 in
theorem pegs_newSearch_w  {g1 : Int} {g2 : Int} {A1 : Option Addr} {c1 : Nat} {n1 : Nat} {g3 : List Int} {r : (List Int × List (Int × Int × Int) × List (List UInt8 × Bool))} {w0 w : World} {B : Nat} {fs : List HP} (hm : pegs_newSearch_m g1 g2 g3 = some r) (hS : Sep w0 B w (fs)) (hr_g3 : RdF w0 B fs A1 (vI g3)) (_hc_g3 : g3.length ≤ c1) (_hn_g3 : n1 = g3.length) :
    Calls Try.prog 68 #[.agg #[.int .i64 g1, .int .i64 g2, .slice A1 n1 c1]] w fun e w' => ∃ v, e = .returned v ∧ ∃ (g9 : Nat) (A11 : Option Addr) (c11 : Nat) (A12 : Option Addr) (c12 : Nat) (g10 : Nat), v = .pointer (some ⟨g9, 0, none⟩) ∧ Sep w0 B w' (blk g9 117 #[.slice A11 r.1.length c11, .slice A12 r.2.1.length c12, .map (some g10)] :: own 3 (.slice A11 r.1.length c11) (vI r.1) :: ownK 119 3 A12 r.2.1.length c12 (List.flatMap enc119 r.2.1) :: mapH kf9 Value.bool g10 r.2.2 :: fs) := by
  obtain ⟨i3, hi3, hz3, hs3, hb3⟩ := info_parts Info3
  obtain rfl := _hn_g3
  unfold pegs_newSearch_m at hm
  replace hm := start_b hm
  refine enter (l := [.agg #[.int .i64 g1, .int .i64 g2, .slice A1 g3.length c1]]) (n := 11) Try.func68 rfl rfl (by simp) (fun a hF => ?_)
  refine seqR ?_
  refine at_do (d := 1) (s := vS (Instr.box 24 (.agg #[.int .i64 g1, .int .i64 g2, .slice A1 g3.length c1]))) (v := .pointer (some ⟨w.heap.size, 0, none⟩)) (w' := w.alloc (.cells #[.int .i64 g1, .int .i64 g2, .slice A1 g3.length c1] 24)) hF (by kernel_rfl) (by kernel_rfl) (by kernel_rfl) (fun a hF => ?_)
  have hS : Sep w0 B (w.alloc (.cells #[.int .i64 g1, .int .i64 g2, .slice A1 g3.length c1] 24)) (blk w.heap.size 24 #[.int .i64 g1, .int .i64 g2, .slice A1 g3.length c1] :: (fs)) := hS.box 24 #[.int .i64 g1, .int .i64 g2, .slice A1 g3.length c1]
  generalize w.heap.size = g4 at hF hS
  generalize w.alloc (.cells #[.int .i64 g1, .int .i64 g2, .slice A1 g3.length c1] 24) = w at hS ⊢
  refine at_run 1 [] [] [1] [pl 1 (.pointer (some ⟨g4, 0, none⟩))] hF hS (by kernel_rfl) (by kernel_rfl) ?_ (fun a w hF hS => ?_)
  · exact obs_nil
  refine at_end [1] [pl 1 (.pointer (some ⟨g4, 0, none⟩))] hF rfl (by kernel_rfl) (fun hF => ?_)
  refine then_n ?_
  refine seq_cut (fun a w => ∃ (z1 : List Int) (z2 : List (Int × Int × Int)) (g7 : Nat) (A6 : Option Addr) (c6 : Nat) (A7 : Option Addr) (c7 : Nat) (g8 : Nat), Fr 11 [pl 2 (.pointer (some ⟨g7, 0, none⟩))] a ∧ Sep w0 B w (blk g7 117 #[.slice A6 z1.length c6, .slice A7 z2.length c7, .map (some g8)] :: own 3 (.slice A6 z1.length c6) (vI z1) :: ownK 119 3 A7 z2.length c7 (List.flatMap enc119 z2) :: mapH kf9 Value.bool g8 ([] : List (List UInt8 × Bool)) :: fs) ∧ (pegs_newSearch_J1 z1 z2).bind some = some r) ?_ ?_
  · rintro a w ⟨z1, z2, g7, A6, c6, A7, c7, g8, hF, hS, hm⟩
    unfold pegs_newSearch_J1 at hm
    refine wpIn_ret ?_
    have hm : some (z1, z2, ([] : List (List UInt8 × Bool))) = some r := hm
    obtain rfl := Option.some.inj hm
    exact retV (rs := [.tmp 2]) (vs := [.pointer (some ⟨g7, 0, none⟩)]) hF rfl (rv_t (by kernel_rfl) <| rv_nil) rfl ⟨_, rfl, g7, A6, c6, A7, c7, g8, rfl, hS⟩
  · obtain ⟨r1, hr1, hm⟩ := call_b hm
    obtain ⟨r2, hr2, hm⟩ := call_b hm
    refine regMix5 [0, 1, 3] [] 6 #[true, true, false, true, false, false, false, false, false] [⟨false, [], vS (Instr.loadAt 22 (.pointer (some ⟨g4, 2, none⟩))), .slice A1 g3.length c1⟩, ⟨false, [], vS (Instr.loadAt 24 (.pointer (some ⟨g4, 0, none⟩))), .agg #[.int .i64 g1, .int .i64 g2, .slice A1 g3.length c1]⟩] [none, some (.slice A1 g3.length c1), some (.agg #[.int .i64 g1, .int .i64 g2, .slice A1 g3.length c1])] [4, 6] [pl 4 (.slice A1 g3.length c1), pl 6 (.agg #[.int .i64 g1, .int .i64 g2, .slice A1 g3.length c1])] hF hS Fol (by kernel_rfl) (by kernel_rfl) (by kernel_rfl) (by kernel_rfl) ?_ (fun a w hF hS => ?_)
    · exact obs_cons (ob_load Agg22 (fun _ _ hS => (hS.at_ 0 rfl).cell rfl)) <| obs_cons (ob_loadA (cs := #[.int .i64 g1, .int .i64 g2, .slice A1 g3.length c1]) (by kernel_rfl) (by kernel_rfl) (fun _ _ hS => (hS.at_ 0 rfl).cellsAt 0 (by rfl))) <| obs_nil
    refine any_share 3 #[true, true, true, true, true, true, false, false, false] (fun a w => ∃ A4 c4 A5 c5 g5, Fr 11 [pl 5 (.slice A4 r1.length c4), pl 7 (.slice A5 r2.length c5), pl 8 (.map (some g5))] a ∧ Sep w0 B w (mapH kf9 Value.bool g5 ([] : List (List UInt8 × Bool)) :: ownK 119 3 A5 r2.length c5 (List.flatMap enc119 r2) :: own 3 (.slice A4 r1.length c4) (vI r1) :: blk g4 24 #[.int .i64 g1, .int .i64 g2, .slice A1 g3.length c1] :: fs)) (fun a w hI => ?_) (fun sh1 => ?_)
    · obtain ⟨A4, c4, A5, c5, g5, hF, hS⟩ := hI
      refine any_step [6] (by kernel_rfl) rfl ?_
      refine (all_cons ?_ all_nil)
      · refine any_op (listed' := #[true, true, true, true, true, true, true, false, false]) (by kernel_rfl) (by kernel_rfl) ?_
        refine at_runW 1 [] [] [9] [pl 9 (.agg #[.slice A4 r1.length c4, .slice A5 r2.length c5, .map (some g5)])] hF hS (by kernel_rfl) (by kernel_rfl) ?_ (fun a hF => ?_)
        · exact obs_nil
        refine any_finI rfl (fun h => h) ?_
        refine any_step [7] (by kernel_rfl) rfl ?_
        refine (all_cons ?_ all_nil)
        · refine any_op (listed' := #[true, true, true, true, true, true, true, true, false]) (by kernel_rfl) (by kernel_rfl) ?_
          refine at_do (d := 10) (s := vS (Instr.box 117 (.agg #[.slice A4 r1.length c4, .slice A5 r2.length c5, .map (some g5)]))) (v := .pointer (some ⟨w.heap.size, 0, none⟩)) (w' := w.alloc (.cells #[.slice A4 r1.length c4, .slice A5 r2.length c5, .map (some g5)] 117)) hF (by kernel_rfl) (by kernel_rfl) (by kernel_rfl) (fun a hF => ?_)
          have hS : Sep w0 B (w.alloc (.cells #[.slice A4 r1.length c4, .slice A5 r2.length c5, .map (some g5)] 117)) (blk w.heap.size 117 #[.slice A4 r1.length c4, .slice A5 r2.length c5, .map (some g5)] :: (mapH kf9 Value.bool g5 ([] : List (List UInt8 × Bool)) :: ownK 119 3 A5 r2.length c5 (List.flatMap enc119 r2) :: own 3 (.slice A4 r1.length c4) (vI r1) :: blk g4 24 #[.int .i64 g1, .int .i64 g2, .slice A1 g3.length c1] :: fs)) := hS.box 117 #[.slice A4 r1.length c4, .slice A5 r2.length c5, .map (some g5)]
          generalize w.heap.size = g6 at hF hS
          generalize w.alloc (.cells #[.slice A4 r1.length c4, .slice A5 r2.length c5, .map (some g5)] 117) = w at hS ⊢
          refine any_fin rfl (hS.pickN 5 [4] (by decide)) ?_
          refine any_step [8] (by kernel_rfl) rfl ?_
          refine (all_cons ?_ all_nil)
          · refine any_op (listed' := #[true, true, true, true, true, true, true, true, true]) (by kernel_rfl) (by kernel_rfl) ?_
            refine at_runW 1 [] [] [2] [pl 2 (.pointer (some ⟨g6, 0, none⟩))] hF hS (by kernel_rfl) (by kernel_rfl) ?_ (fun a hF => ?_)
            · exact obs_nil
            refine any_finI rfl (fun h => h) ?_
            refine any_end (by kernel_rfl) ?_
            refine np_n ?_
            refine then_n ?_
            have hS := hS.pickN 5 [0, 3, 2, 1] (by decide)
            exact ⟨r1, r2, g6, A4, c4, A5, c5, g5, hF.weak [2] (by kernel_rfl), hS, hm⟩
    refine any_share 4 #[true, true, true, true, false, true, false, false, false] (fun a w => ∃ A4 c4 g5, Fr 11 [pl 5 (.slice A4 r1.length c4), pl 6 (.agg #[.int .i64 g1, .int .i64 g2, .slice A1 g3.length c1]), pl 8 (.map (some g5))] a ∧ Sep w0 B w (mapH kf9 Value.bool g5 ([] : List (List UInt8 × Bool)) :: own 3 (.slice A4 r1.length c4) (vI r1) :: blk g4 24 #[.int .i64 g1, .int .i64 g2, .slice A1 g3.length c1] :: fs)) (fun a w hI => ?_) (fun sh2 => ?_)
    · obtain ⟨A4, c4, g5, hF, hS⟩ := hI
      refine any_step [4] (by kernel_rfl) rfl ?_
      refine (all_cons ?_ all_nil)
      · refine any_op (listed' := #[true, true, true, true, true, true, false, false, false]) (by kernel_rfl) (by kernel_rfl) ?_
        refine at_call (f := 105) (args := #[.agg #[.int .i64 g1, .int .i64 g2, .slice A1 g3.length c1]]) (d := 7) hF (by kernel_rfl) (by kernel_rfl) Try.func105 (by kernel_rfl) rfl (pegs_jumps_w hr2 hS (fun _ hS => (hr_g3 _ (hS.dropN 3))) _hc_g3 rfl) (fun v a w hR hF => ?_)
        clear hS
        obtain ⟨A8, c8, rfl, hS⟩ := hR
        have hS : Sep w0 B w (ownK 119 3 A8 r2.length c8 (List.flatMap enc119 r2) :: mapH kf9 Value.bool g5 ([] : List (List UInt8 × Bool)) :: own 3 (.slice A4 r1.length c4) (vI r1) :: blk g4 24 #[.int .i64 g1, .int .i64 g2, .slice A1 g3.length c1] :: fs) := hS
        refine any_fin rfl (hS.pickN 4 [3] (by decide)) ?_
        refine any_step [6] (by kernel_rfl) rfl ?_
        refine (all_cons ?_ all_nil)
        · refine any_op (listed' := #[true, true, true, true, true, true, true, false, false]) (by kernel_rfl) (by kernel_rfl) ?_
          refine at_runW 1 [] [] [9] [pl 9 (.agg #[.slice A4 r1.length c4, .slice A8 r2.length c8, .map (some g5)])] hF hS (by kernel_rfl) (by kernel_rfl) ?_ (fun a hF => ?_)
          · exact obs_nil
          refine any_finI rfl (fun h => h) ?_
          refine any_step [7] (by kernel_rfl) rfl ?_
          refine (all_cons ?_ all_nil)
          · refine any_op (listed' := #[true, true, true, true, true, true, true, true, false]) (by kernel_rfl) (by kernel_rfl) ?_
            refine at_do (d := 10) (s := vS (Instr.box 117 (.agg #[.slice A4 r1.length c4, .slice A8 r2.length c8, .map (some g5)]))) (v := .pointer (some ⟨w.heap.size, 0, none⟩)) (w' := w.alloc (.cells #[.slice A4 r1.length c4, .slice A8 r2.length c8, .map (some g5)] 117)) hF (by kernel_rfl) (by kernel_rfl) (by kernel_rfl) (fun a hF => ?_)
            have hS : Sep w0 B (w.alloc (.cells #[.slice A4 r1.length c4, .slice A8 r2.length c8, .map (some g5)] 117)) (blk w.heap.size 117 #[.slice A4 r1.length c4, .slice A8 r2.length c8, .map (some g5)] :: (ownK 119 3 A8 r2.length c8 (List.flatMap enc119 r2) :: mapH kf9 Value.bool g5 ([] : List (List UInt8 × Bool)) :: own 3 (.slice A4 r1.length c4) (vI r1) :: blk g4 24 #[.int .i64 g1, .int .i64 g2, .slice A1 g3.length c1] :: fs)) := hS.box 117 #[.slice A4 r1.length c4, .slice A8 r2.length c8, .map (some g5)]
            generalize w.heap.size = g6 at hF hS
            generalize w.alloc (.cells #[.slice A4 r1.length c4, .slice A8 r2.length c8, .map (some g5)] 117) = w at hS ⊢
            refine any_fin rfl (hS.pickN 5 [4] (by decide)) ?_
            refine any_step [8] (by kernel_rfl) rfl ?_
            refine (all_cons ?_ all_nil)
            · refine any_op (listed' := #[true, true, true, true, true, true, true, true, true]) (by kernel_rfl) (by kernel_rfl) ?_
              refine at_runW 1 [] [] [2] [pl 2 (.pointer (some ⟨g6, 0, none⟩))] hF hS (by kernel_rfl) (by kernel_rfl) ?_ (fun a hF => ?_)
              · exact obs_nil
              refine any_finI rfl (fun h => h) ?_
              refine any_end (by kernel_rfl) ?_
              refine np_n ?_
              refine then_n ?_
              have hS := hS.pickN 5 [0, 3, 1, 2] (by decide)
              exact ⟨r1, r2, g6, A4, c4, A8, c8, g5, hF.weak [2] (by kernel_rfl), hS, hm⟩
    refine any_step [2, 5] (by kernel_rfl) rfl ?_
    refine (all_cons ?_ (all_cons ?_ all_nil))
    · refine any_op (listed' := #[true, true, true, true, false, false, false, false, false]) (by kernel_rfl) (by kernel_rfl) ?_
      refine at_call (f := 39) (args := #[.slice A1 g3.length c1]) (d := 5) hF (by kernel_rfl) (by kernel_rfl) Try.func39 (by kernel_rfl) rfl (slices_Clone_w hr1 hS (fun _ hS => (hr_g3 _ (hS.dropN 1))) _hc_g3 rfl) (fun v a w hR hF => ?_)
      clear hS
      obtain ⟨A4, c4, rfl, hS⟩ := hR
      have hS : Sep w0 B w (own 3 (.slice A4 r1.length c4) (vI r1) :: blk g4 24 #[.int .i64 g1, .int .i64 g2, .slice A1 g3.length c1] :: fs) := hS
      refine any_fin rfl (hS.pickN 2 [1] (by decide)) ?_
      refine any_step [4, 5] (by kernel_rfl) rfl ?_
      refine (all_cons ?_ (all_cons ?_ all_nil))
      · refine any_op (listed' := #[true, true, true, true, true, false, false, false, false]) (by kernel_rfl) (by kernel_rfl) ?_
        refine at_call (f := 105) (args := #[.agg #[.int .i64 g1, .int .i64 g2, .slice A1 g3.length c1]]) (d := 7) hF (by kernel_rfl) (by kernel_rfl) Try.func105 (by kernel_rfl) rfl (pegs_jumps_w hr2 hS (fun _ hS => (hr_g3 _ (hS.dropN 2))) _hc_g3 rfl) (fun v a w hR hF => ?_)
        clear hS
        obtain ⟨A5, c5, rfl, hS⟩ := hR
        have hS : Sep w0 B w (ownK 119 3 A5 r2.length c5 (List.flatMap enc119 r2) :: own 3 (.slice A4 r1.length c4) (vI r1) :: blk g4 24 #[.int .i64 g1, .int .i64 g2, .slice A1 g3.length c1] :: fs) := hS
        refine any_fin rfl (hS.pickN 3 [2] (by decide)) ?_
        refine any_step [5] (by kernel_rfl) rfl ?_
        refine (all_cons ?_ all_nil)
        · refine any_op (listed' := #[true, true, true, true, true, true, false, false, false]) (by kernel_rfl) (by kernel_rfl) ?_
          refine at_do (d := 8) (s := vS (Instr.makeMap 115 none)) (v := .map (some w.heap.size)) (w' := w.alloc (.map #[] 0)) hF (by kernel_rfl) (by kernel_rfl) (by kernel_rfl) (fun a hF => ?_)
          have hS : Sep w0 B (w.alloc (.map #[] 0)) (mapH kf9 Value.bool w.heap.size ([] : List (List UInt8 × Bool)) :: (ownK 119 3 A5 r2.length c5 (List.flatMap enc119 r2) :: own 3 (.slice A4 r1.length c4) (vI r1) :: blk g4 24 #[.int .i64 g1, .int .i64 g2, .slice A1 g3.length c1] :: fs)) := hS.mapNew _ _
          generalize w.heap.size = g5 at hF hS
          generalize w.alloc (.map #[] 0) = w at hS ⊢
          refine any_fin rfl (hS.pickN 4 [3] (by decide)) ?_
          exact sh1 _ _ ⟨A4, c4, A5, c5, g5, hF.weak [5, 7, 8] (by kernel_rfl), hS⟩
      · refine any_op (listed' := #[true, true, true, true, false, true, false, false, false]) (by kernel_rfl) (by kernel_rfl) ?_
        refine at_do (d := 8) (s := vS (Instr.makeMap 115 none)) (v := .map (some w.heap.size)) (w' := w.alloc (.map #[] 0)) hF (by kernel_rfl) (by kernel_rfl) (by kernel_rfl) (fun a hF => ?_)
        have hS : Sep w0 B (w.alloc (.map #[] 0)) (mapH kf9 Value.bool w.heap.size ([] : List (List UInt8 × Bool)) :: (own 3 (.slice A4 r1.length c4) (vI r1) :: blk g4 24 #[.int .i64 g1, .int .i64 g2, .slice A1 g3.length c1] :: fs)) := hS.mapNew _ _
        generalize w.heap.size = g5 at hF hS
        generalize w.alloc (.map #[] 0) = w at hS ⊢
        refine any_fin rfl (hS.pickN 3 [2] (by decide)) ?_
        exact sh2 _ _ ⟨A4, c4, g5, hF.weak [5, 6, 8] (by kernel_rfl), hS⟩
    · refine any_op (listed' := #[true, true, false, true, false, true, false, false, false]) (by kernel_rfl) (by kernel_rfl) ?_
      refine at_do (d := 8) (s := vS (Instr.makeMap 115 none)) (v := .map (some w.heap.size)) (w' := w.alloc (.map #[] 0)) hF (by kernel_rfl) (by kernel_rfl) (by kernel_rfl) (fun a hF => ?_)
      have hS : Sep w0 B (w.alloc (.map #[] 0)) (mapH kf9 Value.bool w.heap.size ([] : List (List UInt8 × Bool)) :: (blk g4 24 #[.int .i64 g1, .int .i64 g2, .slice A1 g3.length c1] :: fs)) := hS.mapNew _ _
      generalize w.heap.size = g5 at hF hS
      generalize w.alloc (.map #[] 0) = w at hS ⊢
      refine any_fin rfl (hS.pickN 2 [1] (by decide)) ?_
      refine any_step [2] (by kernel_rfl) rfl ?_
      refine (all_cons ?_ all_nil)
      · refine any_op (listed' := #[true, true, true, true, false, true, false, false, false]) (by kernel_rfl) (by kernel_rfl) ?_
        refine at_call (f := 39) (args := #[.slice A1 g3.length c1]) (d := 5) hF (by kernel_rfl) (by kernel_rfl) Try.func39 (by kernel_rfl) rfl (slices_Clone_w hr1 hS (fun _ hS => (hr_g3 _ (hS.dropN 2))) _hc_g3 rfl) (fun v a w hR hF => ?_)
        clear hS
        obtain ⟨A9, c9, rfl, hS⟩ := hR
        have hS : Sep w0 B w (own 3 (.slice A9 r1.length c9) (vI r1) :: mapH kf9 Value.bool g5 ([] : List (List UInt8 × Bool)) :: blk g4 24 #[.int .i64 g1, .int .i64 g2, .slice A1 g3.length c1] :: fs) := hS
        refine any_fin rfl (hS.pickN 3 [2] (by decide)) ?_
        refine any_step [4] (by kernel_rfl) rfl ?_
        refine (all_cons ?_ all_nil)
        · refine any_op (listed' := #[true, true, true, true, true, true, false, false, false]) (by kernel_rfl) (by kernel_rfl) ?_
          refine at_call (f := 105) (args := #[.agg #[.int .i64 g1, .int .i64 g2, .slice A1 g3.length c1]]) (d := 7) hF (by kernel_rfl) (by kernel_rfl) Try.func105 (by kernel_rfl) rfl (pegs_jumps_w hr2 hS (fun _ hS => (hr_g3 _ (hS.dropN 3))) _hc_g3 rfl) (fun v a w hR hF => ?_)
          clear hS
          obtain ⟨A10, c10, rfl, hS⟩ := hR
          have hS : Sep w0 B w (ownK 119 3 A10 r2.length c10 (List.flatMap enc119 r2) :: own 3 (.slice A9 r1.length c9) (vI r1) :: mapH kf9 Value.bool g5 ([] : List (List UInt8 × Bool)) :: blk g4 24 #[.int .i64 g1, .int .i64 g2, .slice A1 g3.length c1] :: fs) := hS
          refine any_fin rfl (hS.pickN 4 [3] (by decide)) ?_
          refine any_step [6] (by kernel_rfl) rfl ?_
          refine (all_cons ?_ all_nil)
          · refine any_op (listed' := #[true, true, true, true, true, true, true, false, false]) (by kernel_rfl) (by kernel_rfl) ?_
            refine at_runW 1 [] [] [9] [pl 9 (.agg #[.slice A9 r1.length c9, .slice A10 r2.length c10, .map (some g5)])] hF hS (by kernel_rfl) (by kernel_rfl) ?_ (fun a hF => ?_)
            · exact obs_nil
            refine any_finI rfl (fun h => h) ?_
            refine any_step [7] (by kernel_rfl) rfl ?_
            refine (all_cons ?_ all_nil)
            · refine any_op (listed' := #[true, true, true, true, true, true, true, true, false]) (by kernel_rfl) (by kernel_rfl) ?_
              refine at_do (d := 10) (s := vS (Instr.box 117 (.agg #[.slice A9 r1.length c9, .slice A10 r2.length c10, .map (some g5)]))) (v := .pointer (some ⟨w.heap.size, 0, none⟩)) (w' := w.alloc (.cells #[.slice A9 r1.length c9, .slice A10 r2.length c10, .map (some g5)] 117)) hF (by kernel_rfl) (by kernel_rfl) (by kernel_rfl) (fun a hF => ?_)
              have hS : Sep w0 B (w.alloc (.cells #[.slice A9 r1.length c9, .slice A10 r2.length c10, .map (some g5)] 117)) (blk w.heap.size 117 #[.slice A9 r1.length c9, .slice A10 r2.length c10, .map (some g5)] :: (ownK 119 3 A10 r2.length c10 (List.flatMap enc119 r2) :: own 3 (.slice A9 r1.length c9) (vI r1) :: mapH kf9 Value.bool g5 ([] : List (List UInt8 × Bool)) :: blk g4 24 #[.int .i64 g1, .int .i64 g2, .slice A1 g3.length c1] :: fs)) := hS.box 117 #[.slice A9 r1.length c9, .slice A10 r2.length c10, .map (some g5)]
              generalize w.heap.size = g6 at hF hS
              generalize w.alloc (.cells #[.slice A9 r1.length c9, .slice A10 r2.length c10, .map (some g5)] 117) = w at hS ⊢
              refine any_fin rfl (hS.pickN 5 [4] (by decide)) ?_
              refine any_step [8] (by kernel_rfl) rfl ?_
              refine (all_cons ?_ all_nil)
              · refine any_op (listed' := #[true, true, true, true, true, true, true, true, true]) (by kernel_rfl) (by kernel_rfl) ?_
                refine at_runW 1 [] [] [2] [pl 2 (.pointer (some ⟨g6, 0, none⟩))] hF hS (by kernel_rfl) (by kernel_rfl) ?_ (fun a hF => ?_)
                · exact obs_nil
                refine any_finI rfl (fun h => h) ?_
                refine any_end (by kernel_rfl) ?_
                refine np_n ?_
                refine then_n ?_
                have hS := hS.pickN 5 [0, 2, 1, 3] (by decide)
                exact ⟨r1, r2, g6, A9, c9, A10, c10, g5, hF.weak [2] (by kernel_rfl), hS, hm⟩

noncomputable def pegs_jump_move_m  (j1 : Int) (j2 : Int) (j3 : Int) : Option (Int × Int × Int) :=
  some (j1, j3, 0)

set_option maxRecDepth 100000 in
set_option maxHeartbeats 4000000 in
theorem pegs_jump_move_w  {j1 : Int} {j2 : Int} {j3 : Int} {r : (Int × Int × Int)} {w0 w : World} {B : Nat} {fs : List HP} (hm : pegs_jump_move_m j1 j2 j3 = some r) (hS : Sep w0 B w (fs)) :
    Calls Try.prog 72 #[.agg #[.int .i64 j1, .int .i64 j2, .int .i64 j3]] w fun e w' => e = .returned (.agg #[.int .i64 r.1, .int .i64 r.2.1, .int .i64 r.2.2]) ∧ Sep w0 B w' (fs) := by
  unfold pegs_jump_move_m at hm
  replace hm := start_b hm
  refine enter (l := [.agg #[.int .i64 j1, .int .i64 j2, .int .i64 j3]]) (n := 8) Try.func72 rfl rfl (by simp) (fun a hF => ?_)
  refine seqR ?_
  refine at_do (d := 1) (s := vS (Instr.box 119 (.agg #[.int .i64 j1, .int .i64 j2, .int .i64 j3]))) (v := .pointer (some ⟨w.heap.size, 0, none⟩)) (w' := w.alloc (.cells #[.int .i64 j1, .int .i64 j2, .int .i64 j3] 119)) hF (by kernel_rfl) (by kernel_rfl) (by kernel_rfl) (fun a hF => ?_)
  have hS : Sep w0 B (w.alloc (.cells #[.int .i64 j1, .int .i64 j2, .int .i64 j3] 119)) (blk w.heap.size 119 #[.int .i64 j1, .int .i64 j2, .int .i64 j3] :: (fs)) := hS.box 119 #[.int .i64 j1, .int .i64 j2, .int .i64 j3]
  generalize w.heap.size = g1 at hF hS
  generalize w.alloc (.cells #[.int .i64 j1, .int .i64 j2, .int .i64 j3] 119) = w at hS ⊢
  refine at_do (d := 2) (s := vS (Instr.alloc 61 true (.tuple #[]))) (v := .pointer (some ⟨w.heap.size, 0, none⟩)) (w' := w.alloc (.cells #[.int .i64 0, .int .i64 0, .int .i64 0] 61)) hF (by kernel_rfl) (by kernel_rfl) (by kernel_rfl) (fun a hF => ?_)
  have hS : Sep w0 B (w.alloc (.cells #[.int .i64 0, .int .i64 0, .int .i64 0] 61)) (blk w.heap.size 61 #[.int .i64 0, .int .i64 0, .int .i64 0] :: (blk g1 119 #[.int .i64 j1, .int .i64 j2, .int .i64 j3] :: fs)) := hS.box 61 #[.int .i64 0, .int .i64 0, .int .i64 0]
  generalize w.heap.size = g2 at hF hS
  generalize w.alloc (.cells #[.int .i64 0, .int .i64 0, .int .i64 0] 61) = w at hS ⊢
  refine at_end [1, 2] [pl 1 (.pointer (some ⟨g1, 0, none⟩)), pl 2 (.pointer (some ⟨g2, 0, none⟩))] hF rfl (by kernel_rfl) (fun hF => ?_)
  refine then_n ?_
  refine seqR ?_
  refine at_run 5 [⟨false, [], vS (Instr.loadAt 3 (.pointer (some ⟨g1, 0, none⟩))), .int .i64 j1⟩, ⟨false, [], vS (Instr.loadAt 3 (.pointer (some ⟨g1, 2, none⟩))), .int .i64 j3⟩] [none, some (.int .i64 j1), none, some (.int .i64 j3), none] [2, 7] [pl 2 (.pointer (some ⟨g2, 0, none⟩)), pl 7 (.agg #[.int .i64 j1, .int .i64 j3, .int .i64 0])] hF hS (by kernel_rfl) (by kernel_rfl) ?_ (fun a w hF hS => ?_)
  · exact obs_cons (ob_load Agg3 (fun _ _ hS => (hS.at_ 1 rfl).cell rfl)) <| obs_cons (ob_load Agg3 (fun _ _ hS => (hS.at_ 1 rfl).cell rfl)) <| obs_nil
  obtain ⟨w, hrun, hS⟩ := run_putA (P := Try.prog) (t := 61) (us := #[.int .i64 j1, .int .i64 j3, .int .i64 0]) (o := 0) (hS.at_ 0 rfl) (by kernel_rfl) (all_one (by kernel_rfl)) (Nat.le_of_ble_eq_true (by kernel_rfl))
  refine at_skip hF (by kernel_rfl) hrun ?_
  have hS : Sep w0 B w (blk g2 61 #[.int .i64 j1, .int .i64 j3, .int .i64 0] :: blk g1 119 #[.int .i64 j1, .int .i64 j2, .int .i64 j3] :: fs) := hS
  refine at_end [2] [pl 2 (.pointer (some ⟨g2, 0, none⟩))] hF rfl (by kernel_rfl) (fun hF => ?_)
  refine then_n ?_
  refine wpIn_ret ?_
  have hld0 := run_loadVarA (P := Try.prog) (t := 61) (cs := #[.int .i64 j1, .int .i64 j3, .int .i64 0]) (by kernel_rfl) (by kernel_rfl) ((hS.at_ 0 rfl).cellsAt 0 (by rfl))
  have hS := hS.pickN 2 [] (by decide)
  have hm : some (j1, j3, 0) = some r := hm
  obtain rfl := Option.some.inj hm
  exact retV (rs := [.cell 2 61]) (vs := [.agg #[.int .i64 j1, .int .i64 j3, .int .i64 0]]) hF rfl (rv_c (by kernel_rfl) hld0 <| rv_nil) rfl ⟨rfl, hS⟩

noncomputable def pegs_Solve_1_J4  (z2 : Int) (z3 : List (Int × Int × Int)) : Option (St (List (Int × Int × Int) × Int) (List (Int × Int × Int))) :=
  some (.next (z3, (w64 (z2 + 1))))

noncomputable def pegs_Solve_1_J3  (row1 : List (Int × Int × Int)) (z1 : List (Int × Int × Int)) (z2 : Int) : Option (St (List (Int × Int × Int) × Int) (List (Int × Int × Int))) :=
  asrt (0 ≤ z2 ∧ z2 < (row1.length : Int)) <| (pegs_jump_move_m ((getd ((0, 0, 0) : (Int × Int × Int)) row1 z2).1) ((getd ((0, 0, 0) : (Int × Int × Int)) row1 z2).2.1) ((getd ((0, 0, 0) : (Int × Int × Int)) row1 z2).2.2)).bind fun r1 => asrt ((z1.length : Int) + 1 ≤ bigT) <| (pegs_Solve_1_J4 z2) (z1 ++ ([r1] : List (Int × Int × Int)))

noncomputable def pegs_Solve_1_J2  (p43 : List (Int × Int × Int)) : Option (Bool × List (Int × Int × Int)) :=
  some (true, p43)

noncomputable def pegs_Solve_1_K1  : (List (Int × Int × Int)) → Option (Bool × List (Int × Int × Int)) :=
  fun (x : (List (Int × Int × Int))) => match x with | p43 => pegs_Solve_1_J2 p43

noncomputable def pegs_Solve_1_L1  (row1 : List (Int × Int × Int)) : (List (Int × Int × Int) × Int) → Option (St (List (Int × Int × Int) × Int) (List (Int × Int × Int))) :=
  fun (x : (List (Int × Int × Int) × Int)) => match x with | (z1, z2) => if (decide (z2 < (row1.length : Int))) then ((pegs_Solve_1_J3 row1 z1 z2)) else (some (.done z1))

noncomputable def pegs_Solve_1_J1  (row1 : List (Int × Int × Int)) (p41 : List (Int × Int × Int)) : Option (Bool × List (Int × Int × Int)) :=
  (loop (pegs_Solve_1_L1 row1) (p41, 0)).bind pegs_Solve_1_K1

noncomputable def pegs_Solve_1_m  (row1 : List (Int × Int × Int)) (p11 : Int) (p21 : Int) (p3_cells1 : List Int) (p3_all1 : List (Int × Int × Int)) (p3_tried1 : List (List UInt8 × Bool)) (p41 : List (Int × Int × Int)) : Option (Bool × List (Int × Int × Int)) :=
  asrt ((decide ((0 : Int) ≤ p21)) = true → ((row1.length : Int) != (w64 (p11 - 1))) = false → 0 ≤ p21 ∧ p21 < (p3_cells1.length : Int)) <| if (((row1.length : Int) != (w64 (p11 - 1))) || ((decide ((0 : Int) ≤ p21)) && ((geti p3_cells1 p21) != 1))) then (some (false, p41)) else ((pegs_Solve_1_J1 row1 p41))

set_option maxRecDepth 100000 in
set_option maxHeartbeats 4000000 in
theorem pegs_Solve_1_w  {A1 : Option Addr} {c1 : Nat} {n1 : Nat} {row1 : List (Int × Int × Int)} {g1 : Nat} {p11 : Int} {g2 : Nat} {p21 : Int} {g3 : Nat} {g4 : Nat} {A2 : Option Addr} {c2 : Nat} {n2 : Nat} {p3_cells1 : List Int} {A3 : Option Addr} {c3 : Nat} {n3 : Nat} {p3_all1 : List (Int × Int × Int)} {g5 : Nat} {p3_tried1 : List (List UInt8 × Bool)} {g6 : Nat} {A4 : Option Addr} {c4 : Nat} {n4 : Nat} {p41 : List (Int × Int × Int)} {r : (Bool × List (Int × Int × Int))} {w0 w : World} {B : Nat} {fs : List HP} (hm : pegs_Solve_1_m row1 p11 p21 p3_cells1 p3_all1 p3_tried1 p41 = some r) (hS : Sep w0 B w (blk g1 3 #[.int .i64 p11] :: blk g2 3 #[.int .i64 p21] :: blk g3 111 #[.pointer (some ⟨g4, 0, none⟩)] :: blk g4 117 #[.slice A2 n2 c2, .slice A3 n3 c3, .map (some g5)] :: own 3 (.slice A2 n2 c2) (vI p3_cells1) :: ownK 119 3 A3 n3 c3 (List.flatMap enc119 p3_all1) :: mapH kf9 Value.bool g5 p3_tried1 :: blk g6 53 #[.slice A4 n4 c4] :: ownK 61 3 A4 n4 c4 (List.flatMap enc61 p41) :: fs)) (hr_row1 : RdF w0 B fs A1 ((List.flatMap enc119 row1))) (_hc_row1 : row1.length ≤ c1) (_hn_row1 : n1 = row1.length) :
    Calls Try.prog 71 #[.slice A1 n1 c1, .pointer (some ⟨g1, 0, none⟩), .pointer (some ⟨g2, 0, none⟩), .pointer (some ⟨g3, 0, none⟩), .pointer (some ⟨g6, 0, none⟩)] w fun e w' => ∃ v, e = .returned v ∧ ∃ (A5 : Option Addr) (c5 : Nat), v = .bool r.1 ∧ Sep w0 B w' (blk g1 3 #[.int .i64 p11] :: blk g2 3 #[.int .i64 p21] :: blk g3 111 #[.pointer (some ⟨g4, 0, none⟩)] :: blk g4 117 #[.slice A2 n2 c2, .slice A3 n3 c3, .map (some g5)] :: own 3 (.slice A2 n2 c2) (vI p3_cells1) :: ownK 119 3 A3 n3 c3 (List.flatMap enc119 p3_all1) :: mapH kf9 Value.bool g5 p3_tried1 :: blk g6 53 #[.slice A5 r.2.length c5] :: ownK 61 3 A5 r.2.length c5 (List.flatMap enc61 r.2) :: fs) := by
  obtain ⟨i3, hi3, hz3, hs3, hb3⟩ := info_parts Info3
  obtain ⟨i53, hi53, hz53, hs53, hb53⟩ := info_parts Info53
  obtain ⟨i61, hi61, hz61, hs61, hb61⟩ := info_parts Info61
  obtain ⟨i119, hi119, hz119, hs119, hb119⟩ := info_parts Info119
  obtain rfl := (hS.at_ 4 rfl).len1
  obtain rfl := (hS.at_ 5 rfl).lenK encK119
  obtain rfl := (hS.at_ 8 rfl).lenK encK61
  obtain rfl := _hn_row1
  unfold pegs_Solve_1_m at hm
  replace hm := start_b hm
  refine enter (l := [.slice A1 row1.length c1, .pointer (some ⟨g1, 0, none⟩), .pointer (some ⟨g2, 0, none⟩), .pointer (some ⟨g3, 0, none⟩), .pointer (some ⟨g6, 0, none⟩)]) (n := 40) Try.func71 rfl rfl (by simp) (fun a hF => ?_)
  refine reg [] [] [0, 1, 2, 3, 4] [pl 0 (.slice A1 row1.length c1), pl 1 (.pointer (some ⟨g1, 0, none⟩)), pl 2 (.pointer (some ⟨g2, 0, none⟩)), pl 3 (.pointer (some ⟨g3, 0, none⟩)), pl 4 (.pointer (some ⟨g6, 0, none⟩))] hF hS Fol (by kernel_rfl) (by kernel_rfl) (by kernel_rfl) ?_ (fun a w hF hS => ?_)
  · exact obs_nil
  refine seq_cut (fun a w => Fr 40 [pl 0 (.slice A1 row1.length c1), pl 4 (.pointer (some ⟨g6, 0, none⟩))] a ∧ Sep w0 B w (blk g6 53 #[.slice A4 p41.length c4] :: ownK 61 3 A4 p41.length c4 (List.flatMap enc61 p41) :: blk g1 3 #[.int .i64 p11] :: blk g2 3 #[.int .i64 p21] :: blk g3 111 #[.pointer (some ⟨g4, 0, none⟩)] :: blk g4 117 #[.slice A2 p3_cells1.length c2, .slice A3 p3_all1.length c3, .map (some g5)] :: own 3 (.slice A2 p3_cells1.length c2) (vI p3_cells1) :: ownK 119 3 A3 p3_all1.length c3 (List.flatMap enc119 p3_all1) :: mapH kf9 Value.bool g5 p3_tried1 :: fs) ∧ ((pegs_Solve_1_J1 row1 p41)).bind some = some r) ?_ ?_
  · rintro a w ⟨hF, hS, hm⟩
    unfold pegs_Solve_1_J1 at hm
    refine seq_cut (fun a w => ∃ (p43 : List (Int × Int × Int)) (A7 : Option Addr) (c7 : Nat), Fr 40 [] a ∧ Sep w0 B w (blk g1 3 #[.int .i64 p11] :: blk g2 3 #[.int .i64 p21] :: blk g3 111 #[.pointer (some ⟨g4, 0, none⟩)] :: blk g4 117 #[.slice A2 p3_cells1.length c2, .slice A3 p3_all1.length c3, .map (some g5)] :: own 3 (.slice A2 p3_cells1.length c2) (vI p3_cells1) :: ownK 119 3 A3 p3_all1.length c3 (List.flatMap enc119 p3_all1) :: mapH kf9 Value.bool g5 p3_tried1 :: blk g6 53 #[.slice A7 p43.length c7] :: ownK 61 3 A7 p43.length c7 (List.flatMap enc61 p43) :: fs) ∧ (pegs_Solve_1_J2 p43).bind some = some r) ?_ ?_
    · rintro a w ⟨p43, A7, c7, hF, hS, hm⟩
      unfold pegs_Solve_1_J2 at hm
      refine reg [] [] [6] [pl 6 (.bool true)] hF hS Fol (by kernel_rfl) (by kernel_rfl) (by kernel_rfl) ?_ (fun a w hF hS => ?_)
      · exact obs_nil
      refine wpIn_ret ?_
      have hm : some (true, p43) = some r := hm
      obtain rfl := Option.some.inj hm
      exact retV (rs := [.tmp 6]) (vs := [.bool true]) hF rfl (rv_t (by kernel_rfl) <| rv_nil) rfl ⟨_, rfl, A7, c7, rfl, hS⟩
    · refine reg [] [] [4, 28, 29, 30] [pl 4 (.pointer (some ⟨g6, 0, none⟩)), pl 28 (.slice A1 row1.length c1), pl 29 (.int .i64 (row1.length : Int)), pl 30 (.int .i64 0)] hF hS Fol (by kernel_rfl) (by kernel_rfl) (by kernel_rfl) ?_ (fun a w hF hS => ?_)
      · exact obs_nil
      refine wpIn_block ?_
      refine wp_loop_model (S := (List (Int × Int × Int) × Int)) (R := (List (Int × Int × Int))) (pegs_Solve_1_L1 row1) (fun x => (pegs_Solve_1_K1 x).bind some) r (fun (x : (List (Int × Int × Int) × Int)) a w => ∃ (A6 : Option Addr) (c6 : Nat), Fr 40 [pl 4 (.pointer (some ⟨g6, 0, none⟩)), pl 28 (.slice A1 row1.length c1), pl 29 (.int .i64 (row1.length : Int)), pl 30 (.int .i64 x.2)] a ∧ Sep w0 B w (blk g6 53 #[.slice A6 x.1.length c6] :: ownK 61 3 A6 x.1.length c6 (List.flatMap enc61 x.1) :: blk g1 3 #[.int .i64 p11] :: blk g2 3 #[.int .i64 p21] :: blk g3 111 #[.pointer (some ⟨g4, 0, none⟩)] :: blk g4 117 #[.slice A2 p3_cells1.length c2, .slice A3 p3_all1.length c3, .map (some g5)] :: own 3 (.slice A2 p3_cells1.length c2) (vI p3_cells1) :: ownK 119 3 A3 p3_all1.length c3 (List.flatMap enc119 p3_all1) :: mapH kf9 Value.bool g5 p3_tried1 :: fs)) (assoc_b hm) ⟨A4, c4, hF.weak [4, 28, 29, 30] (by kernel_rfl), hS⟩ ?_
      clear hF hS hm
      rintro nn1 ⟨z1, z2⟩ a w ⟨A6, c6, hF, hS⟩ hm
      generalize hφ1 : stK (pegs_Solve_1_L1 row1) nn1 (fun x => (pegs_Solve_1_K1 x).bind some) = φ1 at hm
      unfold pegs_Solve_1_L1 at hm
      dsimp only at hF hS hm
      refine reg [] [] [4, 28, 29, 30, 31] [pl 4 (.pointer (some ⟨g6, 0, none⟩)), pl 28 (.slice A1 row1.length c1), pl 29 (.int .i64 (row1.length : Int)), pl 30 (.int .i64 z2), pl 31 (.bool (decide (z2 < (row1.length : Int))))] hF hS Fol (by kernel_rfl) (by kernel_rfl) (by kernel_rfl) ?_ (fun a w hF hS => ?_)
      · exact obs_nil
      refine seq_cut (fun a w => Fr 40 [pl 4 (.pointer (some ⟨g6, 0, none⟩)), pl 28 (.slice A1 row1.length c1), pl 29 (.int .i64 (row1.length : Int)), pl 30 (.int .i64 z2)] a ∧ Sep w0 B w (blk g6 53 #[.slice A6 z1.length c6] :: ownK 61 3 A6 z1.length c6 (List.flatMap enc61 z1) :: blk g1 3 #[.int .i64 p11] :: blk g2 3 #[.int .i64 p21] :: blk g3 111 #[.pointer (some ⟨g4, 0, none⟩)] :: blk g4 117 #[.slice A2 p3_cells1.length c2, .slice A3 p3_all1.length c3, .map (some g5)] :: own 3 (.slice A2 p3_cells1.length c2) (vI p3_cells1) :: ownK 119 3 A3 p3_all1.length c3 (List.flatMap enc119 p3_all1) :: mapH kf9 Value.bool g5 p3_tried1 :: fs) ∧ ((pegs_Solve_1_J3 row1 z1 z2)).bind φ1 = some r) ?_ ?_
      · rintro a w ⟨hF, hS, hm⟩
        unfold pegs_Solve_1_J3 at hm
        refine seq_cut (fun a w => ∃ (z3 : List (Int × Int × Int)) (A9 : Option Addr) (c9 : Nat), Fr 40 [pl 4 (.pointer (some ⟨g6, 0, none⟩)), pl 28 (.slice A1 row1.length c1), pl 29 (.int .i64 (row1.length : Int)), pl 30 (.int .i64 z2)] a ∧ Sep w0 B w (blk g6 53 #[.slice A9 z3.length c9] :: ownK 61 3 A9 z3.length c9 (List.flatMap enc61 z3) :: blk g1 3 #[.int .i64 p11] :: blk g2 3 #[.int .i64 p21] :: blk g3 111 #[.pointer (some ⟨g4, 0, none⟩)] :: blk g4 117 #[.slice A2 p3_cells1.length c2, .slice A3 p3_all1.length c3, .map (some g5)] :: own 3 (.slice A2 p3_cells1.length c2) (vI p3_cells1) :: ownK 119 3 A3 p3_all1.length c3 (List.flatMap enc119 p3_all1) :: mapH kf9 Value.bool g5 p3_tried1 :: fs) ∧ ((pegs_Solve_1_J4 z2) z3).bind φ1 = some r) ?_ ?_
        · rintro a w ⟨z3, A9, c9, hF, hS, hm⟩
          unfold pegs_Solve_1_J4 at hm
          refine reg1 [] [] [4, 28, 29, 30] [pl 4 (.pointer (some ⟨g6, 0, none⟩)), pl 28 (.slice A1 row1.length c1), pl 29 (.int .i64 (row1.length : Int)), pl 30 (.int .i64 (w64 (z2 + 1)))] hF hS Fol (by kernel_rfl) (by kernel_rfl) (by kernel_rfl) ?_ (fun a w hF hS => ?_)
          · exact obs_nil
          refine then_n ?_
          rw [← hφ1] at hm
          exact ⟨(z3, (w64 (z2 + 1))), ⟨A9, c9, hF.weak [4, 28, 29, 30] (by kernel_rfl), hS⟩, hm⟩
        · refine wpIn_block ?_
          refine seqR ?_
          obtain ⟨hp2, hm⟩ := asrt_b hm
          refine at_run 2 [⟨true, [], vS (Instr.indexAt 114 (.slice A1 row1.length c1) (.int .i64 z2)), .pointer (some (sAddrK A1 3 z2))⟩, ⟨false, [], vS (Instr.loadAt 119 (.pointer (some (sAddrK A1 3 z2)))), .agg #[.int .i64 ((getd ((0, 0, 0) : (Int × Int × Int)) row1 z2).1), .int .i64 ((getd ((0, 0, 0) : (Int × Int × Int)) row1 z2).2.1), .int .i64 ((getd ((0, 0, 0) : (Int × Int × Int)) row1 z2).2.2)]⟩] [some (.pointer (some (sAddrK A1 3 z2))), some (.agg #[.int .i64 ((getd ((0, 0, 0) : (Int × Int × Int)) row1 z2).1), .int .i64 ((getd ((0, 0, 0) : (Int × Int × Int)) row1 z2).2.1), .int .i64 ((getd ((0, 0, 0) : (Int × Int × Int)) row1 z2).2.2)])] [4, 28, 29, 30, 33] [pl 4 (.pointer (some ⟨g6, 0, none⟩)), pl 28 (.slice A1 row1.length c1), pl 29 (.int .i64 (row1.length : Int)), pl 30 (.int .i64 z2), pl 33 (.agg #[.int .i64 ((getd ((0, 0, 0) : (Int × Int × Int)) row1 z2).1), .int .i64 ((getd ((0, 0, 0) : (Int × Int × Int)) row1 z2).2.1), .int .i64 ((getd ((0, 0, 0) : (Int × Int × Int)) row1 z2).2.2)])] hF hS (by kernel_rfl) (by kernel_rfl) ?_ (fun a w hF hS => ?_)
          · exact obs_cons (ob_ixK (m := row1) encK119 Und114 hi119 hs119 (hr_row1 _ (hS.dropN 9)) rfl (fun _ => hp2)) <| obs_cons (ob_getK (n := row1.length) (m := row1) encK119 ((0, 0, 0) : (Int × Int × Int)) (by kernel_rfl) (by kernel_rfl) (fun _ hS => ⟨_, (hr_row1 _ (hS.dropN 9))⟩) (fun _ hS => rfl) (fun _ => hp2)) <| obs_nil
          refine at_do (d := 8) (s := vS (Instr.alloc 119 true (.tuple #[]))) (v := .pointer (some ⟨w.heap.size, 0, none⟩)) (w' := w.alloc (.cells #[.int .i64 0, .int .i64 0, .int .i64 0] 119)) hF (by kernel_rfl) (by kernel_rfl) (by kernel_rfl) (fun a hF => ?_)
          have hS : Sep w0 B (w.alloc (.cells #[.int .i64 0, .int .i64 0, .int .i64 0] 119)) (blk w.heap.size 119 #[.int .i64 0, .int .i64 0, .int .i64 0] :: (blk g6 53 #[.slice A6 z1.length c6] :: ownK 61 3 A6 z1.length c6 (List.flatMap enc61 z1) :: blk g1 3 #[.int .i64 p11] :: blk g2 3 #[.int .i64 p21] :: blk g3 111 #[.pointer (some ⟨g4, 0, none⟩)] :: blk g4 117 #[.slice A2 p3_cells1.length c2, .slice A3 p3_all1.length c3, .map (some g5)] :: own 3 (.slice A2 p3_cells1.length c2) (vI p3_cells1) :: ownK 119 3 A3 p3_all1.length c3 (List.flatMap enc119 p3_all1) :: mapH kf9 Value.bool g5 p3_tried1 :: fs)) := hS.box 119 #[.int .i64 0, .int .i64 0, .int .i64 0]
          generalize w.heap.size = g7 at hF hS
          generalize w.alloc (.cells #[.int .i64 0, .int .i64 0, .int .i64 0] 119) = w at hS ⊢
          obtain ⟨w, hrun, hS⟩ := run_putA (P := Try.prog) (t := 119) (us := #[.int .i64 ((getd ((0, 0, 0) : (Int × Int × Int)) row1 z2).1), .int .i64 ((getd ((0, 0, 0) : (Int × Int × Int)) row1 z2).2.1), .int .i64 ((getd ((0, 0, 0) : (Int × Int × Int)) row1 z2).2.2)]) (o := 0) (hS.at_ 0 rfl) (by kernel_rfl) (all_one (by kernel_rfl)) (Nat.le_of_ble_eq_true (by kernel_rfl))
          refine at_skip hF (by kernel_rfl) hrun ?_
          have hS : Sep w0 B w (blk g7 119 #[.int .i64 ((getd ((0, 0, 0) : (Int × Int × Int)) row1 z2).1), .int .i64 ((getd ((0, 0, 0) : (Int × Int × Int)) row1 z2).2.1), .int .i64 ((getd ((0, 0, 0) : (Int × Int × Int)) row1 z2).2.2)] :: blk g6 53 #[.slice A6 z1.length c6] :: ownK 61 3 A6 z1.length c6 (List.flatMap enc61 z1) :: blk g1 3 #[.int .i64 p11] :: blk g2 3 #[.int .i64 p21] :: blk g3 111 #[.pointer (some ⟨g4, 0, none⟩)] :: blk g4 117 #[.slice A2 p3_cells1.length c2, .slice A3 p3_all1.length c3, .map (some g5)] :: own 3 (.slice A2 p3_cells1.length c2) (vI p3_cells1) :: ownK 119 3 A3 p3_all1.length c3 (List.flatMap enc119 p3_all1) :: mapH kf9 Value.bool g5 p3_tried1 :: fs) := hS
          refine at_end [4, 8, 28, 29, 30] [pl 4 (.pointer (some ⟨g6, 0, none⟩)), pl 8 (.pointer (some ⟨g7, 0, none⟩)), pl 28 (.slice A1 row1.length c1), pl 29 (.int .i64 (row1.length : Int)), pl 30 (.int .i64 z2)] hF rfl (by kernel_rfl) (fun hF => ?_)
          refine then_n ?_
          obtain ⟨r1, hr1, hm⟩ := call_b hm
          obtain ⟨hp3, hm⟩ := asrt_b hm
          refine regMix5 [0, 1] [4, 5] 4 #[true, true, false, false, false, false] [⟨false, [], vS (Instr.loadAt 53 (.pointer (some ⟨g6, 0, none⟩))), .slice A6 z1.length c6⟩, ⟨false, [], vS (Instr.loadAt 119 (.pointer (some ⟨g7, 0, none⟩))), .agg #[.int .i64 ((getd ((0, 0, 0) : (Int × Int × Int)) row1 z2).1), .int .i64 ((getd ((0, 0, 0) : (Int × Int × Int)) row1 z2).2.1), .int .i64 ((getd ((0, 0, 0) : (Int × Int × Int)) row1 z2).2.2)]⟩] [some (.slice A6 z1.length c6), some (.agg #[.int .i64 ((getd ((0, 0, 0) : (Int × Int × Int)) row1 z2).1), .int .i64 ((getd ((0, 0, 0) : (Int × Int × Int)) row1 z2).2.1), .int .i64 ((getd ((0, 0, 0) : (Int × Int × Int)) row1 z2).2.2)])] [4, 28, 29, 30, 34, 35] [pl 4 (.pointer (some ⟨g6, 0, none⟩)), pl 28 (.slice A1 row1.length c1), pl 29 (.int .i64 (row1.length : Int)), pl 30 (.int .i64 z2), pl 34 (.slice A6 z1.length c6), pl 35 (.agg #[.int .i64 ((getd ((0, 0, 0) : (Int × Int × Int)) row1 z2).1), .int .i64 ((getd ((0, 0, 0) : (Int × Int × Int)) row1 z2).2.1), .int .i64 ((getd ((0, 0, 0) : (Int × Int × Int)) row1 z2).2.2)])] hF hS Fol (by kernel_rfl) (by kernel_rfl) (by kernel_rfl) (by kernel_rfl) ?_ (fun a w hF hS => ?_)
          · exact obs_cons (ob_load Agg53 (fun _ _ hS => (hS.at_ 1 rfl).cell rfl)) <| obs_cons (ob_loadA (cs := #[.int .i64 ((getd ((0, 0, 0) : (Int × Int × Int)) row1 z2).1), .int .i64 ((getd ((0, 0, 0) : (Int × Int × Int)) row1 z2).2.1), .int .i64 ((getd ((0, 0, 0) : (Int × Int × Int)) row1 z2).2.2)]) (by kernel_rfl) (by kernel_rfl) (fun _ _ hS => (hS.at_ 0 rfl).cellsAt 0 (by rfl))) <| obs_nil
          refine any_step [2] (by kernel_rfl) rfl ?_
          refine (all_cons ?_ all_nil)
          · refine any_op (listed' := #[true, true, true, false, false, false]) (by kernel_rfl) (by kernel_rfl) ?_
            refine at_run 1 [⟨false, [], callFunc 72 #[.agg #[.int .i64 ((getd ((0, 0, 0) : (Int × Int × Int)) row1 z2).1), .int .i64 ((getd ((0, 0, 0) : (Int × Int × Int)) row1 z2).2.1), .int .i64 ((getd ((0, 0, 0) : (Int × Int × Int)) row1 z2).2.2)]], .agg #[.int .i64 r1.1, .int .i64 r1.2.1, .int .i64 r1.2.2]⟩] [some (.agg #[.int .i64 r1.1, .int .i64 r1.2.1, .int .i64 r1.2.2])] [4, 28, 29, 30, 34, 36] [pl 4 (.pointer (some ⟨g6, 0, none⟩)), pl 28 (.slice A1 row1.length c1), pl 29 (.int .i64 (row1.length : Int)), pl 30 (.int .i64 z2), pl 34 (.slice A6 z1.length c6), pl 36 (.agg #[.int .i64 r1.1, .int .i64 r1.2.1, .int .i64 r1.2.2])] hF hS (by kernel_rfl) (by kernel_rfl) ?_ (fun a w hF hS => ?_)
            · exact obs_cons (ob_call Try.func72 (by kernel_rfl) rfl (fun _ _ hS => pegs_jump_move_w hr1 hS )) <| obs_nil
            refine any_fin rfl hS ?_
            refine any_step [3] (by kernel_rfl) rfl ?_
            refine (all_cons ?_ all_nil)
            · refine any_op (listed' := #[true, true, true, true, false, false]) (by kernel_rfl) (by kernel_rfl) ?_
              refine at_do (d := 37) (s := vS (Instr.buildSlice 53 1 #[(0, .agg #[.int .i64 r1.1, .int .i64 r1.2.1, .int .i64 r1.2.2])])) (v := .slice (some ⟨w.heap.size, 0, none⟩) 1 1) (w' := w.alloc (.cells #[.int .i64 r1.1, .int .i64 r1.2.1, .int .i64 r1.2.2] 61)) hF (by kernel_rfl) (by kernel_rfl) (by kernel_rfl) (fun a hF => ?_)
              have hS : Sep w0 B (w.alloc (.cells #[.int .i64 r1.1, .int .i64 r1.2.1, .int .i64 r1.2.2] 61)) (ownK 61 3 (some (⟨w.heap.size, 0, none⟩ : Addr)) 1 1 (List.flatMap enc61 ([r1] : List (Int × Int × Int))) :: (blk g7 119 #[.int .i64 ((getd ((0, 0, 0) : (Int × Int × Int)) row1 z2).1), .int .i64 ((getd ((0, 0, 0) : (Int × Int × Int)) row1 z2).2.1), .int .i64 ((getd ((0, 0, 0) : (Int × Int × Int)) row1 z2).2.2)] :: blk g6 53 #[.slice A6 z1.length c6] :: ownK 61 3 A6 z1.length c6 (List.flatMap enc61 z1) :: blk g1 3 #[.int .i64 p11] :: blk g2 3 #[.int .i64 p21] :: blk g3 111 #[.pointer (some ⟨g4, 0, none⟩)] :: blk g4 117 #[.slice A2 p3_cells1.length c2, .slice A3 p3_all1.length c3, .map (some g5)] :: own 3 (.slice A2 p3_cells1.length c2) (vI p3_cells1) :: ownK 119 3 A3 p3_all1.length c3 (List.flatMap enc119 p3_all1) :: mapH kf9 Value.bool g5 p3_tried1 :: fs)) := hS.litK 61 3 #[.int .i64 r1.1, .int .i64 r1.2.1, .int .i64 r1.2.2] 1 rfl (by omega)
              generalize (some (⟨w.heap.size, 0, none⟩ : Addr)) = g8 at hF hS
              generalize w.alloc (.cells #[.int .i64 r1.1, .int .i64 r1.2.1, .int .i64 r1.2.2] 61) = w at hS ⊢
              refine any_fin rfl (hS.pickN 11 [1, 2, 3, 4, 5, 6, 7, 8, 9, 10] (by decide)) ?_
              refine any_step [4] (by kernel_rfl) rfl ?_
              refine (all_cons ?_ all_nil)
              · refine any_op (listed' := #[true, true, true, true, true, false]) (by kernel_rfl) (by kernel_rfl) ?_
                obtain ⟨A8, c8, w, hrun, hS⟩ := run_appK3 (P := Try.prog) (t := 53) (m := z1) (ys := ([r1] : List (Int × Int × Int))) (A2 := g8) (m2 := 1) (c2 := 1) encK61 (hS.at_ 3 rfl) (hS.at_ 0 rfl).rdK ((hS.at_ 0 rfl).lenK encK61) 53 Und53 hi61 hz61 hs61 rfl (by omega) hp3
                have hS : Sep w0 B w (ownK 61 3 g8 1 1 (List.flatMap enc61 ([r1] : List (Int × Int × Int))) :: blk g7 119 #[.int .i64 ((getd ((0, 0, 0) : (Int × Int × Int)) row1 z2).1), .int .i64 ((getd ((0, 0, 0) : (Int × Int × Int)) row1 z2).2.1), .int .i64 ((getd ((0, 0, 0) : (Int × Int × Int)) row1 z2).2.2)] :: blk g6 53 #[.slice A6 z1.length c6] :: ownK 61 3 A8 ((z1 ++ ([r1] : List (Int × Int × Int))).length) c8 (List.flatMap enc61 (z1 ++ ([r1] : List (Int × Int × Int)))) :: blk g1 3 #[.int .i64 p11] :: blk g2 3 #[.int .i64 p21] :: blk g3 111 #[.pointer (some ⟨g4, 0, none⟩)] :: blk g4 117 #[.slice A2 p3_cells1.length c2, .slice A3 p3_all1.length c3, .map (some g5)] :: own 3 (.slice A2 p3_cells1.length c2) (vI p3_cells1) :: ownK 119 3 A3 p3_all1.length c3 (List.flatMap enc119 p3_all1) :: mapH kf9 Value.bool g5 p3_tried1 :: fs) := hS
                refine at_do (d := 38) hF (by kernel_rfl) (by kernel_rfl) hrun (fun a hF => ?_)
                refine any_finE rfl (by decide) ?_
                refine any_step [5] (by kernel_rfl) rfl ?_
                refine (all_cons ?_ all_nil)
                · refine any_op (listed' := #[true, true, true, true, true, true]) (by kernel_rfl) (by kernel_rfl) ?_
                  obtain ⟨w, hrun, hS⟩ := run_put (P := Try.prog) (t := 53) (u := .slice A8 ((z1 ++ ([r1] : List (Int × Int × Int))).length) c8) (i := 0) (hS.at_ 2 rfl) hi53 hs53 rfl (Nat.lt_of_lt_of_eq (Nat.lt_of_succ_le (Nat.le_of_ble_eq_true (by kernel_rfl))) rfl)
                  refine at_skip hF (by kernel_rfl) hrun ?_
                  have hS : Sep w0 B w (ownK 61 3 g8 1 1 (List.flatMap enc61 ([r1] : List (Int × Int × Int))) :: blk g7 119 #[.int .i64 ((getd ((0, 0, 0) : (Int × Int × Int)) row1 z2).1), .int .i64 ((getd ((0, 0, 0) : (Int × Int × Int)) row1 z2).2.1), .int .i64 ((getd ((0, 0, 0) : (Int × Int × Int)) row1 z2).2.2)] :: blk g6 53 #[.slice A8 ((z1 ++ ([r1] : List (Int × Int × Int))).length) c8] :: ownK 61 3 A8 ((z1 ++ ([r1] : List (Int × Int × Int))).length) c8 (List.flatMap enc61 (z1 ++ ([r1] : List (Int × Int × Int)))) :: blk g1 3 #[.int .i64 p11] :: blk g2 3 #[.int .i64 p21] :: blk g3 111 #[.pointer (some ⟨g4, 0, none⟩)] :: blk g4 117 #[.slice A2 p3_cells1.length c2, .slice A3 p3_all1.length c3, .map (some g5)] :: own 3 (.slice A2 p3_cells1.length c2) (vI p3_cells1) :: ownK 119 3 A3 p3_all1.length c3 (List.flatMap enc119 p3_all1) :: mapH kf9 Value.bool g5 p3_tried1 :: fs) := hS
                  refine any_finE rfl (by decide) ?_
                  refine any_end (by kernel_rfl) ?_
                  refine np_n ?_
                  refine block_n ?_
                  refine then_n ?_
                  have hS := hS.pickN 11 [2, 3, 4, 5, 6, 7, 8, 9, 10] (by decide)
                  exact ⟨(z1 ++ ([r1] : List (Int × Int × Int))), A8, c8, hF.weak [4, 28, 29, 30] (by kernel_rfl), hS, hm⟩
      · refine cond_ev (t := 31) (b := decide (z2 < (row1.length : Int))) hF (by kernel_rfl) (fun hb => ?_) (fun hb => ?_)
        · replace hm := if_t hm hb
          refine wpIn_skip ?_
          refine then_n ?_
          exact ⟨hF.weak [4, 28, 29, 30] (by kernel_rfl), hS, hm⟩
        · replace hm := if_f hm hb
          refine wpIn_exit ?_
          refine then_e (then_e (block_e (then_n ?_)))
          have hS := hS.pickN 9 [2, 3, 4, 5, 6, 7, 8, 0, 1] (by decide)
          rw [← hφ1] at hm
          replace hm := done_b hm
          unfold pegs_Solve_1_K1 at hm
          try dsimp only at hm
          have hm : (pegs_Solve_1_J2 z1).bind some = some r := hm
          exact ⟨z1, A6, c6, hF.weak [] (by kernel_rfl), hS, hm⟩
  · obtain ⟨hp1, hm⟩ := asrt_b hm
    refine reg [⟨false, [], vS (Instr.loadAt 3 (.pointer (some ⟨g1, 0, none⟩))), .int .i64 p11⟩, ⟨false, [(((row1.length : Int) != (w64 (p11 - 1))), false)], vS (Instr.loadAt 3 (.pointer (some ⟨g2, 0, none⟩))), .int .i64 p21⟩, ⟨false, [(decide ((0 : Int) ≤ p21), true), (((row1.length : Int) != (w64 (p11 - 1))), false)], vS (Instr.loadAt 111 (.pointer (some ⟨g3, 0, none⟩))), .pointer (some ⟨g4, 0, none⟩)⟩, ⟨false, [(decide ((0 : Int) ≤ p21), true), (((row1.length : Int) != (w64 (p11 - 1))), false)], vS (Instr.loadAt 22 (.pointer (some ⟨g4, 0, none⟩))), .slice A2 p3_cells1.length c2⟩, ⟨false, [(decide ((0 : Int) ≤ p21), true), (((row1.length : Int) != (w64 (p11 - 1))), false)], vS (Instr.loadAt 3 (.pointer (some ⟨g2, 0, none⟩))), .int .i64 p21⟩, ⟨true, [(decide ((0 : Int) ≤ p21), true), (((row1.length : Int) != (w64 (p11 - 1))), false)], vS (Instr.indexAt 22 (.slice A2 p3_cells1.length c2) (.int .i64 p21)), .pointer (some (sAddr A2 p21))⟩, ⟨false, [(decide ((0 : Int) ≤ p21), true), (((row1.length : Int) != (w64 (p11 - 1))), false)], vS (Instr.loadAt 3 (.pointer (some (sAddr A2 p21)))), .int .i64 (geti p3_cells1 p21)⟩] [none, none, some (.int .i64 p11), none, none, none, some (.int .i64 p21), none, none, some (.pointer (some ⟨g4, 0, none⟩)), none, none, some (.slice A2 p3_cells1.length c2), some (.int .i64 p21), some (.pointer (some (sAddr A2 p21))), some (.int .i64 (geti p3_cells1 p21)), none, none, none] [0, 4, 27] [pl 0 (.slice A1 row1.length c1), pl 4 (.pointer (some ⟨g6, 0, none⟩)), pl 27 (.bool (((row1.length : Int) != (w64 (p11 - 1))) || ((decide ((0 : Int) ≤ p21)) && ((geti p3_cells1 p21) != 1))))] hF hS Fol (by kernel_rfl) (by kernel_rfl) (by kernel_rfl) ?_ (fun a w hF hS => ?_)
    · exact obs_cons (ob_load Agg3 (fun _ _ hS => (hS.at_ 0 rfl).cell rfl)) <| obs_cons (ob_load Agg3 (fun _ _ hS => (hS.at_ 1 rfl).cell rfl)) <| obs_cons (ob_load Agg111 (fun _ _ hS => (hS.at_ 2 rfl).cell rfl)) <| obs_cons (ob_load Agg22 (fun _ _ hS => (hS.at_ 3 rfl).cell rfl)) <| obs_cons (ob_load Agg3 (fun _ _ hS => (hS.at_ 1 rfl).cell rfl)) <| obs_cons (ob_ix1 (f := (Value.int .i64)) (m := p3_cells1) Und22 hi3 hs3 (hS.at_ 4 rfl).rd rfl (fun hy => hp1 (hy (decide ((0 : Int) ≤ p21), true) (by simp)) (hy (((row1.length : Int) != (w64 (p11 - 1))), false) (by simp)))) <| obs_cons (ob_get1 (n := p3_cells1.length) (m := p3_cells1) (Value.int .i64) (0 : Int) Agg3 (fun _ hS => ⟨_, (hS.at_ 4 rfl).rd⟩) (fun _ hS => rfl) (fun hy => hp1 (hy (decide ((0 : Int) ≤ p21), true) (by simp)) (hy (((row1.length : Int) != (w64 (p11 - 1))), false) (by simp)))) <| obs_nil
    refine cond_ev (t := 27) (b := ((row1.length : Int) != (w64 (p11 - 1))) || ((decide ((0 : Int) ≤ p21)) && ((geti p3_cells1 p21) != 1))) hF (by kernel_rfl) (fun hb => ?_) (fun hb => ?_)
    · replace hm := if_t hm hb
      refine reg [] [] [6] [pl 6 (.bool false)] hF hS Fol (by kernel_rfl) (by kernel_rfl) (by kernel_rfl) ?_ (fun a w hF hS => ?_)
      · exact obs_nil
      refine wpIn_ret ?_
      refine then_r ?_
      have hm : some (false, p41) = some r := hm
      obtain rfl := Option.some.inj hm
      exact retV (rs := [.tmp 6]) (vs := [.bool false]) hF rfl (rv_t (by kernel_rfl) <| rv_nil) rfl ⟨_, rfl, A4, c4, rfl, hS⟩
    · replace hm := if_f hm hb
      refine wpIn_skip ?_
      refine then_n ?_
      have hS := hS.pickN 9 [7, 8, 0, 1, 2, 3, 4, 5, 6] (by decide)
      exact ⟨hF.weak [0, 4] (by kernel_rfl), hS, hm⟩

noncomputable def pegs_search_name_J3  (s_cells1 : List Int) (b1 : List Int) (z1 : Int) : Option (St (List Int × Int) (List Int)) :=
  some (.next ((b1.set (Int.toNat z1) (IntKind.wrap .u8 (geti s_cells1 z1))), (w64 (z1 + 1))))

noncomputable def pegs_search_name_J2  (s_cells1 : List Int) (b1 : List Int) (z1 : Int) : Option (St (List Int × Int) (List Int)) :=
  asrt (0 ≤ z1 ∧ z1 < (s_cells1.length : Int)) <| asrt (0 ≤ z1 ∧ z1 < (((Int.toNat (s_cells1.length : Int)) : Nat) : Int)) <| (pegs_search_name_J3 s_cells1 b1 z1)

noncomputable def pegs_search_name_J1  (b2 : List Int) : Option (List UInt8) :=
  some (b8 b2)

noncomputable def pegs_search_name_K1  : (List Int) → Option (List UInt8) :=
  fun (x : (List Int)) => match x with | b2 => pegs_search_name_J1 b2

noncomputable def pegs_search_name_L1  (s_cells1 : List Int) : (List Int × Int) → Option (St (List Int × Int) (List Int)) :=
  fun (x : (List Int × Int)) => match x with | (b1, z1) => if (decide (z1 < (s_cells1.length : Int))) then ((pegs_search_name_J2 s_cells1 b1 z1)) else (some (.done b1))

noncomputable def pegs_search_name_m  (s_cells1 : List Int) (s_all1 : List (Int × Int × Int)) (s_tried1 : List (List UInt8 × Bool)) : Option (List UInt8) :=
  asrt ((0 : Int) ≤ (s_cells1.length : Int) ∧ (s_cells1.length : Int) ≤ bigN) <| (loop (pegs_search_name_L1 s_cells1) ((List.replicate (Int.toNat (s_cells1.length : Int)) (0 : Int)), 0)).bind pegs_search_name_K1

set_option maxRecDepth 100000 in
set_option maxHeartbeats 4000000 in
theorem pegs_search_name_w  {g1 : Nat} {A1 : Option Addr} {c1 : Nat} {n1 : Nat} {s_cells1 : List Int} {A2 : Option Addr} {c2 : Nat} {n2 : Nat} {s_all1 : List (Int × Int × Int)} {g2 : Nat} {s_tried1 : List (List UInt8 × Bool)} {r : (List UInt8)} {w0 w : World} {B : Nat} {fs : List HP} (hm : pegs_search_name_m s_cells1 s_all1 s_tried1 = some r) (hS : Sep w0 B w (blk g1 117 #[.slice A1 n1 c1, .slice A2 n2 c2, .map (some g2)] :: own 3 (.slice A1 n1 c1) (vI s_cells1) :: ownK 119 3 A2 n2 c2 (List.flatMap enc119 s_all1) :: mapH kf9 Value.bool g2 s_tried1 :: fs)) :
    Calls Try.prog 106 #[.pointer (some ⟨g1, 0, none⟩)] w fun e w' => e = .returned (strV r) ∧ Sep w0 B w' (blk g1 117 #[.slice A1 n1 c1, .slice A2 n2 c2, .map (some g2)] :: own 3 (.slice A1 n1 c1) (vI s_cells1) :: ownK 119 3 A2 n2 c2 (List.flatMap enc119 s_all1) :: mapH kf9 Value.bool g2 s_tried1 :: fs) := by
  obtain ⟨i3, hi3, hz3, hs3, hb3⟩ := info_parts Info3
  obtain ⟨i5, hi5, hz5, hs5, hb5⟩ := info_parts Info5
  obtain ⟨i119, hi119, hz119, hs119, hb119⟩ := info_parts Info119
  obtain rfl := (hS.at_ 1 rfl).len1
  obtain rfl := (hS.at_ 2 rfl).lenK encK119
  unfold pegs_search_name_m at hm
  replace hm := start_b hm
  refine enter (l := [.pointer (some ⟨g1, 0, none⟩)]) (n := 30) Try.func106 rfl rfl (by simp) (fun a hF => ?_)
  refine reg [] [] [0] [pl 0 (.pointer (some ⟨g1, 0, none⟩))] hF hS Fol (by kernel_rfl) (by kernel_rfl) (by kernel_rfl) ?_ (fun a w hF hS => ?_)
  · exact obs_nil
  refine seqR ?_
  obtain ⟨hp1, hm⟩ := asrt_b hm
  refine at_run 5 [⟨false, [], vS (Instr.loadAt 22 (.pointer (some ⟨g1, 0, none⟩))), .slice A1 s_cells1.length c1⟩] [none, none, none, some (.slice A1 s_cells1.length c1), none] [0, 10] [pl 0 (.pointer (some ⟨g1, 0, none⟩)), pl 10 (.int .i64 (s_cells1.length : Int))] hF hS (by kernel_rfl) (by kernel_rfl) ?_ (fun a w hF hS => ?_)
  · exact obs_cons (ob_load Agg22 (fun _ _ hS => (hS.at_ 0 rfl).cell rfl)) <| obs_nil
  obtain ⟨A3, c3, w, hrun, hS⟩ := run_mk1 (P := Try.prog) (t := 140) (Value.int .u8) (0 : Int) hS .i64 .i64 Und140 hi5 hz5 hs5 (by omega) rfl hp1
  have hS : Sep w0 B w (own 5 (.slice A3 (Int.toNat (s_cells1.length : Int)) c3) ((List.map (Value.int .u8) (List.replicate (Int.toNat (s_cells1.length : Int)) (0 : Int)))) :: blk g1 117 #[.slice A1 s_cells1.length c1, .slice A2 s_all1.length c2, .map (some g2)] :: own 3 (.slice A1 s_cells1.length c1) (vI s_cells1) :: ownK 119 3 A2 s_all1.length c2 (List.flatMap enc119 s_all1) :: mapH kf9 Value.bool g2 s_tried1 :: fs) := hS
  refine at_do (d := 11) hF (by kernel_rfl) (by kernel_rfl) hrun (fun a hF => ?_)
  refine at_run 1 [] [] [0, 3] [pl 0 (.pointer (some ⟨g1, 0, none⟩)), pl 3 (.slice A3 (Int.toNat (s_cells1.length : Int)) c3)] hF hS (by kernel_rfl) (by kernel_rfl) ?_ (fun a w hF hS => ?_)
  · exact obs_nil
  refine at_end [0, 3] [pl 0 (.pointer (some ⟨g1, 0, none⟩)), pl 3 (.slice A3 (Int.toNat (s_cells1.length : Int)) c3)] hF rfl (by kernel_rfl) (fun hF => ?_)
  refine then_n ?_
  refine seq_cut (fun a w => ∃ (b2 : List Int), Fr 30 [pl 3 (.slice A3 (Int.toNat (s_cells1.length : Int)) c3)] a ∧ Sep w0 B w (own 5 (.slice A3 (Int.toNat (s_cells1.length : Int)) c3) ((List.map (Value.int .u8) b2)) :: blk g1 117 #[.slice A1 s_cells1.length c1, .slice A2 s_all1.length c2, .map (some g2)] :: own 3 (.slice A1 s_cells1.length c1) (vI s_cells1) :: ownK 119 3 A2 s_all1.length c2 (List.flatMap enc119 s_all1) :: mapH kf9 Value.bool g2 s_tried1 :: fs) ∧ (pegs_search_name_J1 b2).bind some = some r) ?_ ?_
  · rintro a w ⟨b2, hF, hS, hm⟩
    unfold pegs_search_name_J1 at hm
    refine seqR ?_
    refine at_run 1 [] [] [28] [pl 28 (.slice A3 (Int.toNat (s_cells1.length : Int)) c3)] hF hS (by kernel_rfl) (by kernel_rfl) ?_ (fun a w hF hS => ?_)
    · exact obs_nil
    have hrun := run_strE (P := Try.prog) (src := 140) (dst := 9) (e := 5) (m := b2) (c := c3) (by kernel_rfl) (by kernel_rfl) (by kernel_rfl) (hS.at_ 0 rfl).rd ((hS.at_ 0 rfl).len1)
    refine at_do (d := 29) hF (by kernel_rfl) (by kernel_rfl) hrun (fun a hF => ?_)
    refine at_run 1 [] [] [2] [pl 2 (strV (b8 b2))] hF hS (by kernel_rfl) (by kernel_rfl) ?_ (fun a w hF hS => ?_)
    · exact obs_nil
    refine at_end [2] [pl 2 (strV (b8 b2))] hF rfl (by kernel_rfl) (fun hF => ?_)
    refine then_n ?_
    refine wpIn_ret ?_
    have hS := hS.pickN 5 [1, 2, 3, 4] (by decide)
    have hm : some (b8 b2) = some r := hm
    obtain rfl := Option.some.inj hm
    exact retV (rs := [.tmp 2]) (vs := [strV (b8 b2)]) hF rfl (rv_t (by kernel_rfl) <| rv_nil) rfl ⟨rfl, hS⟩
  · refine reg [⟨false, [], vS (Instr.loadAt 22 (.pointer (some ⟨g1, 0, none⟩))), .slice A1 s_cells1.length c1⟩] [none, none, none, some (.slice A1 s_cells1.length c1), none, none] [3, 15, 16, 17] [pl 3 (.slice A3 (Int.toNat (s_cells1.length : Int)) c3), pl 15 (.slice A1 s_cells1.length c1), pl 16 (.int .i64 (s_cells1.length : Int)), pl 17 (.int .i64 0)] hF hS Fol (by kernel_rfl) (by kernel_rfl) (by kernel_rfl) ?_ (fun a w hF hS => ?_)
    · exact obs_cons (ob_load Agg22 (fun _ _ hS => (hS.at_ 1 rfl).cell rfl)) <| obs_nil
    refine wpIn_block ?_
    have hS := hS.pickN 5 [0, 2, 1, 3, 4] (by decide)
    refine wp_loop_model (S := (List Int × Int)) (R := (List Int)) (pegs_search_name_L1 s_cells1) (fun x => (pegs_search_name_K1 x).bind some) r (fun (x : (List Int × Int)) a w => Fr 30 [pl 3 (.slice A3 (Int.toNat (s_cells1.length : Int)) c3), pl 15 (.slice A1 s_cells1.length c1), pl 16 (.int .i64 (s_cells1.length : Int)), pl 17 (.int .i64 x.2)] a ∧ Sep w0 B w (own 5 (.slice A3 (Int.toNat (s_cells1.length : Int)) c3) ((List.map (Value.int .u8) x.1)) :: own 3 (.slice A1 s_cells1.length c1) (vI s_cells1) :: blk g1 117 #[.slice A1 s_cells1.length c1, .slice A2 s_all1.length c2, .map (some g2)] :: ownK 119 3 A2 s_all1.length c2 (List.flatMap enc119 s_all1) :: mapH kf9 Value.bool g2 s_tried1 :: fs)) (assoc_b hm) ⟨hF.weak [3, 15, 16, 17] (by kernel_rfl), hS⟩ ?_
    clear hF hS hm
    rintro nn1 ⟨b1, z1⟩ a w ⟨hF, hS⟩ hm
    generalize hφ1 : stK (pegs_search_name_L1 s_cells1) nn1 (fun x => (pegs_search_name_K1 x).bind some) = φ1 at hm
    unfold pegs_search_name_L1 at hm
    dsimp only at hF hS hm
    refine reg [] [] [3, 15, 16, 17, 18] [pl 3 (.slice A3 (Int.toNat (s_cells1.length : Int)) c3), pl 15 (.slice A1 s_cells1.length c1), pl 16 (.int .i64 (s_cells1.length : Int)), pl 17 (.int .i64 z1), pl 18 (.bool (decide (z1 < (s_cells1.length : Int))))] hF hS Fol (by kernel_rfl) (by kernel_rfl) (by kernel_rfl) ?_ (fun a w hF hS => ?_)
    · exact obs_nil
    refine seq_cut (fun a w => Fr 30 [pl 3 (.slice A3 (Int.toNat (s_cells1.length : Int)) c3), pl 15 (.slice A1 s_cells1.length c1), pl 16 (.int .i64 (s_cells1.length : Int)), pl 17 (.int .i64 z1)] a ∧ Sep w0 B w (own 5 (.slice A3 (Int.toNat (s_cells1.length : Int)) c3) ((List.map (Value.int .u8) b1)) :: own 3 (.slice A1 s_cells1.length c1) (vI s_cells1) :: blk g1 117 #[.slice A1 s_cells1.length c1, .slice A2 s_all1.length c2, .map (some g2)] :: ownK 119 3 A2 s_all1.length c2 (List.flatMap enc119 s_all1) :: mapH kf9 Value.bool g2 s_tried1 :: fs) ∧ ((pegs_search_name_J2 s_cells1 b1 z1)).bind φ1 = some r) ?_ ?_
    · rintro a w ⟨hF, hS, hm⟩
      unfold pegs_search_name_J2 at hm
      refine seq_cut (fun a w => Fr 30 [pl 3 (.slice A3 (Int.toNat (s_cells1.length : Int)) c3), pl 15 (.slice A1 s_cells1.length c1), pl 16 (.int .i64 (s_cells1.length : Int)), pl 17 (.int .i64 z1)] a ∧ Sep w0 B w (own 5 (.slice A3 (Int.toNat (s_cells1.length : Int)) c3) ((List.map (Value.int .u8) (b1.set (Int.toNat z1) (IntKind.wrap .u8 (geti s_cells1 z1))))) :: own 3 (.slice A1 s_cells1.length c1) (vI s_cells1) :: blk g1 117 #[.slice A1 s_cells1.length c1, .slice A2 s_all1.length c2, .map (some g2)] :: ownK 119 3 A2 s_all1.length c2 (List.flatMap enc119 s_all1) :: mapH kf9 Value.bool g2 s_tried1 :: fs) ∧ ((pegs_search_name_J3 s_cells1 b1 z1)).bind φ1 = some r) ?_ ?_
      · rintro a w ⟨hF, hS, hm⟩
        unfold pegs_search_name_J3 at hm
        refine reg1 [] [] [3, 15, 16, 17] [pl 3 (.slice A3 (Int.toNat (s_cells1.length : Int)) c3), pl 15 (.slice A1 s_cells1.length c1), pl 16 (.int .i64 (s_cells1.length : Int)), pl 17 (.int .i64 (w64 (z1 + 1)))] hF hS Fol (by kernel_rfl) (by kernel_rfl) (by kernel_rfl) ?_ (fun a w hF hS => ?_)
        · exact obs_nil
        refine then_n ?_
        rw [← hφ1] at hm
        exact ⟨((b1.set (Int.toNat z1) (IntKind.wrap .u8 (geti s_cells1 z1))), (w64 (z1 + 1))), ⟨hF.weak [3, 15, 16, 17] (by kernel_rfl), hS⟩, hm⟩
      · refine wpIn_block ?_
        obtain ⟨hp2, hm⟩ := asrt_b hm
        refine reg [⟨true, [], vS (Instr.indexAt 22 (.slice A1 s_cells1.length c1) (.int .i64 z1)), .pointer (some (sAddr A1 z1))⟩, ⟨false, [], vS (Instr.loadAt 3 (.pointer (some (sAddr A1 z1)))), .int .i64 (geti s_cells1 z1)⟩] [none, some (.pointer (some (sAddr A1 z1))), some (.int .i64 (geti s_cells1 z1)), none, none] [3, 4, 5, 15, 16, 17] [pl 3 (.slice A3 (Int.toNat (s_cells1.length : Int)) c3), pl 4 (.int .i64 z1), pl 5 (.int .i64 (geti s_cells1 z1)), pl 15 (.slice A1 s_cells1.length c1), pl 16 (.int .i64 (s_cells1.length : Int)), pl 17 (.int .i64 z1)] hF hS Fol (by kernel_rfl) (by kernel_rfl) (by kernel_rfl) ?_ (fun a w hF hS => ?_)
        · exact obs_cons (ob_ix1 (f := (Value.int .i64)) (m := s_cells1) Und22 hi3 hs3 (hS.at_ 1 rfl).rd rfl (fun _ => hp2)) <| obs_cons (ob_get1 (n := s_cells1.length) (m := s_cells1) (Value.int .i64) (0 : Int) Agg3 (fun _ hS => ⟨_, (hS.at_ 1 rfl).rd⟩) (fun _ hS => rfl) (fun _ => hp2)) <| obs_nil
        refine oneR ?_
        obtain ⟨hp3, hm⟩ := asrt_b hm
        refine at_run 5 [⟨true, [], vS (Instr.indexAt 140 (.slice A3 (Int.toNat (s_cells1.length : Int)) c3) (.int .i64 z1)), .pointer (some (sAddr A3 z1))⟩] [none, none, none, none, some (.pointer (some (sAddr A3 z1)))] [3, 15, 16, 17, 25, 26] [pl 3 (.slice A3 (Int.toNat (s_cells1.length : Int)) c3), pl 15 (.slice A1 s_cells1.length c1), pl 16 (.int .i64 (s_cells1.length : Int)), pl 17 (.int .i64 z1), pl 25 (.int .u8 (IntKind.wrap .u8 (geti s_cells1 z1))), pl 26 (.pointer (some (sAddr A3 z1)))] hF hS (by kernel_rfl) (by kernel_rfl) ?_ (fun a w hF hS => ?_)
        · exact obs_cons (ob_ix1 (f := (Value.int .u8)) (m := b1) Und140 hi5 hs5 (hS.at_ 0 rfl).rd ((hS.at_ 0 rfl).len1) (fun _ => hp3)) <| obs_nil
        obtain ⟨w, hrun, hS⟩ := run_set1 (P := Try.prog) (t := 5) (x := (IntKind.wrap .u8 (geti s_cells1 z1))) (Value.int .u8) (hS.at_ 0 rfl) hi5 hs5 rfl rfl hp3
        refine at_skip hF (by kernel_rfl) hrun ?_
        have hS : Sep w0 B w (own 5 (.slice A3 (Int.toNat (s_cells1.length : Int)) c3) ((List.map (Value.int .u8) (b1.set (Int.toNat z1) (IntKind.wrap .u8 (geti s_cells1 z1))))) :: own 3 (.slice A1 s_cells1.length c1) (vI s_cells1) :: blk g1 117 #[.slice A1 s_cells1.length c1, .slice A2 s_all1.length c2, .map (some g2)] :: ownK 119 3 A2 s_all1.length c2 (List.flatMap enc119 s_all1) :: mapH kf9 Value.bool g2 s_tried1 :: fs) := hS
        refine at_end [3, 15, 16, 17] [pl 3 (.slice A3 (Int.toNat (s_cells1.length : Int)) c3), pl 15 (.slice A1 s_cells1.length c1), pl 16 (.int .i64 (s_cells1.length : Int)), pl 17 (.int .i64 z1)] hF rfl (by kernel_rfl) (fun hF => ?_)
        refine block_n ?_
        refine then_n ?_
        exact ⟨hF.weak [3, 15, 16, 17] (by kernel_rfl), hS, hm⟩
    · refine cond_ev (t := 18) (b := decide (z1 < (s_cells1.length : Int))) hF (by kernel_rfl) (fun hb => ?_) (fun hb => ?_)
      · replace hm := if_t hm hb
        refine wpIn_skip ?_
        refine then_n ?_
        exact ⟨hF.weak [3, 15, 16, 17] (by kernel_rfl), hS, hm⟩
      · replace hm := if_f hm hb
        refine wpIn_exit ?_
        refine then_e (then_e (block_e (then_n ?_)))
        have hS := hS.pickN 5 [0, 2, 1, 3, 4] (by decide)
        rw [← hφ1] at hm
        replace hm := done_b hm
        unfold pegs_search_name_K1 at hm
        try dsimp only at hm
        have hm : (pegs_search_name_J1 b1).bind some = some r := hm
        exact ⟨b1, hF.weak [3] (by kernel_rfl), hS, hm⟩

noncomputable def pegs_jump_can_m  (j1 : Int) (j2 : Int) (j3 : Int) (cells1 : List Int) : Option Bool :=
  asrt (0 ≤ j1 ∧ j1 < (cells1.length : Int)) <| asrt (((geti cells1 j1) == 1) = true → 0 ≤ j2 ∧ j2 < (cells1.length : Int)) <| asrt ((((geti cells1 j1) == 1) && ((geti cells1 j2) == 1)) = true → 0 ≤ j3 ∧ j3 < (cells1.length : Int)) <| some ((((geti cells1 j1) == 1) && ((geti cells1 j2) == 1)) && ((geti cells1 j3) == 0))

set_option maxRecDepth 100000 in
set_option maxHeartbeats 4000000 in
theorem pegs_jump_can_w  {j1 : Int} {j2 : Int} {j3 : Int} {A1 : Option Addr} {c1 : Nat} {n1 : Nat} {cells1 : List Int} {r : Bool} {w0 w : World} {B : Nat} {fs : List HP} (hm : pegs_jump_can_m j1 j2 j3 cells1 = some r) (hS : Sep w0 B w (fs)) (hr_cells1 : RdF w0 B fs A1 (vI cells1)) (_hc_cells1 : cells1.length ≤ c1) (_hn_cells1 : n1 = cells1.length) :
    Calls Try.prog 107 #[.agg #[.int .i64 j1, .int .i64 j2, .int .i64 j3], .slice A1 n1 c1] w fun e w' => e = .returned (.bool r) ∧ Sep w0 B w' (fs) := by
  obtain ⟨i3, hi3, hz3, hs3, hb3⟩ := info_parts Info3
  obtain rfl := _hn_cells1
  unfold pegs_jump_can_m at hm
  replace hm := start_b hm
  refine enter (l := [.agg #[.int .i64 j1, .int .i64 j2, .int .i64 j3], .slice A1 cells1.length c1]) (n := 27) Try.func107 rfl rfl (by simp) (fun a hF => ?_)
  refine seqR ?_
  refine at_do (d := 2) (s := vS (Instr.box 119 (.agg #[.int .i64 j1, .int .i64 j2, .int .i64 j3]))) (v := .pointer (some ⟨w.heap.size, 0, none⟩)) (w' := w.alloc (.cells #[.int .i64 j1, .int .i64 j2, .int .i64 j3] 119)) hF (by kernel_rfl) (by kernel_rfl) (by kernel_rfl) (fun a hF => ?_)
  have hS : Sep w0 B (w.alloc (.cells #[.int .i64 j1, .int .i64 j2, .int .i64 j3] 119)) (blk w.heap.size 119 #[.int .i64 j1, .int .i64 j2, .int .i64 j3] :: (fs)) := hS.box 119 #[.int .i64 j1, .int .i64 j2, .int .i64 j3]
  generalize w.heap.size = g1 at hF hS
  generalize w.alloc (.cells #[.int .i64 j1, .int .i64 j2, .int .i64 j3] 119) = w at hS ⊢
  refine at_run 1 [] [] [1, 2] [pl 1 (.slice A1 cells1.length c1), pl 2 (.pointer (some ⟨g1, 0, none⟩))] hF hS (by kernel_rfl) (by kernel_rfl) ?_ (fun a w hF hS => ?_)
  · exact obs_nil
  refine at_end [1, 2] [pl 1 (.slice A1 cells1.length c1), pl 2 (.pointer (some ⟨g1, 0, none⟩))] hF rfl (by kernel_rfl) (fun hF => ?_)
  refine then_n ?_
  obtain ⟨hp1, hm⟩ := asrt_b hm
  obtain ⟨hp2, hm⟩ := asrt_b hm
  obtain ⟨hp3, hm⟩ := asrt_b hm
  refine reg [⟨false, [], vS (Instr.loadAt 3 (.pointer (some ⟨g1, 0, none⟩))), .int .i64 j1⟩, ⟨true, [], vS (Instr.indexAt 22 (.slice A1 cells1.length c1) (.int .i64 j1)), .pointer (some (sAddr A1 j1))⟩, ⟨false, [], vS (Instr.loadAt 3 (.pointer (some (sAddr A1 j1)))), .int .i64 (geti cells1 j1)⟩, ⟨false, [(((geti cells1 j1) == 1), true)], vS (Instr.loadAt 3 (.pointer (some ⟨g1, 1, none⟩))), .int .i64 j2⟩, ⟨true, [(((geti cells1 j1) == 1), true)], vS (Instr.indexAt 22 (.slice A1 cells1.length c1) (.int .i64 j2)), .pointer (some (sAddr A1 j2))⟩, ⟨false, [(((geti cells1 j1) == 1), true)], vS (Instr.loadAt 3 (.pointer (some (sAddr A1 j2)))), .int .i64 (geti cells1 j2)⟩, ⟨false, [(((geti cells1 j1) == 1) && ((geti cells1 j2) == 1), true)], vS (Instr.loadAt 3 (.pointer (some ⟨g1, 2, none⟩))), .int .i64 j3⟩, ⟨true, [(((geti cells1 j1) == 1) && ((geti cells1 j2) == 1), true)], vS (Instr.indexAt 22 (.slice A1 cells1.length c1) (.int .i64 j3)), .pointer (some (sAddr A1 j3))⟩, ⟨false, [(((geti cells1 j1) == 1) && ((geti cells1 j2) == 1), true)], vS (Instr.loadAt 3 (.pointer (some (sAddr A1 j3)))), .int .i64 (geti cells1 j3)⟩] [none, none, some (.int .i64 j1), some (.pointer (some (sAddr A1 j1))), some (.int .i64 (geti cells1 j1)), none, none, none, none, some (.int .i64 j2), some (.pointer (some (sAddr A1 j2))), some (.int .i64 (geti cells1 j2)), none, none, none, none, none, some (.int .i64 j3), some (.pointer (some (sAddr A1 j3))), some (.int .i64 (geti cells1 j3)), none, none, none] [4] [pl 4 (.bool ((((geti cells1 j1) == 1) && ((geti cells1 j2) == 1)) && ((geti cells1 j3) == 0)))] hF hS Fol (by kernel_rfl) (by kernel_rfl) (by kernel_rfl) ?_ (fun a w hF hS => ?_)
  · exact obs_cons (ob_load Agg3 (fun _ _ hS => (hS.at_ 0 rfl).cell rfl)) <| obs_cons (ob_ix1 (f := (Value.int .i64)) (m := cells1) Und22 hi3 hs3 (hr_cells1 _ (hS.dropN 1)) rfl (fun _ => hp1)) <| obs_cons (ob_get1 (n := cells1.length) (m := cells1) (Value.int .i64) (0 : Int) Agg3 (fun _ hS => ⟨_, (hr_cells1 _ (hS.dropN 1))⟩) (fun _ hS => rfl) (fun _ => hp1)) <| obs_cons (ob_load Agg3 (fun _ _ hS => (hS.at_ 0 rfl).cell rfl)) <| obs_cons (ob_ix1 (f := (Value.int .i64)) (m := cells1) Und22 hi3 hs3 (hr_cells1 _ (hS.dropN 1)) rfl (fun hy => hp2 (hy (((geti cells1 j1) == 1), true) (by simp)))) <| obs_cons (ob_get1 (n := cells1.length) (m := cells1) (Value.int .i64) (0 : Int) Agg3 (fun _ hS => ⟨_, (hr_cells1 _ (hS.dropN 1))⟩) (fun _ hS => rfl) (fun hy => hp2 (hy (((geti cells1 j1) == 1), true) (by simp)))) <| obs_cons (ob_load Agg3 (fun _ _ hS => (hS.at_ 0 rfl).cell rfl)) <| obs_cons (ob_ix1 (f := (Value.int .i64)) (m := cells1) Und22 hi3 hs3 (hr_cells1 _ (hS.dropN 1)) rfl (fun hy => hp3 (hy (((geti cells1 j1) == 1) && ((geti cells1 j2) == 1), true) (by simp)))) <| obs_cons (ob_get1 (n := cells1.length) (m := cells1) (Value.int .i64) (0 : Int) Agg3 (fun _ hS => ⟨_, (hr_cells1 _ (hS.dropN 1))⟩) (fun _ hS => rfl) (fun hy => hp3 (hy (((geti cells1 j1) == 1) && ((geti cells1 j2) == 1), true) (by simp)))) <| obs_nil
  refine wpIn_ret ?_
  have hS := hS.pickN 1 [] (by decide)
  have hm : some ((((geti cells1 j1) == 1) && ((geti cells1 j2) == 1)) && ((geti cells1 j3) == 0)) = some r := hm
  obtain rfl := Option.some.inj hm
  exact retV (rs := [.tmp 4]) (vs := [.bool ((((geti cells1 j1) == 1) && ((geti cells1 j2) == 1)) && ((geti cells1 j3) == 0))]) hF rfl (rv_t (by kernel_rfl) <| rv_nil) rfl ⟨rfl, hS⟩

noncomputable def pegs_jump_turn_2_J3  (j1 : Int) (j2 : Int) (j3 : Int) (cells3 : List Int) (z1 : Int) : Option (St (List Int × Int) (List Int)) :=
  some (.next ((cells3.set (Int.toNat (geti ([j1, j2, j3] : List Int) z1)) (bXor (geti cells3 (geti ([j1, j2, j3] : List Int) z1)) 1)), (w64 (z1 + 1))))

noncomputable def pegs_jump_turn_2_J2  (j1 : Int) (j2 : Int) (j3 : Int) (cells1 : List Int) (cells3 : List Int) (z1 : Int) : Option (St (List Int × Int) (List Int)) :=
  asrt (0 ≤ z1 ∧ z1 < 3) <| asrt (0 ≤ (geti ([j1, j2, j3] : List Int) z1) ∧ (geti ([j1, j2, j3] : List Int) z1) < (cells1.length : Int)) <| asrt (0 ≤ (geti ([j1, j2, j3] : List Int) z1) ∧ (geti ([j1, j2, j3] : List Int) z1) < (cells1.length : Int)) <| (pegs_jump_turn_2_J3 j1 j2 j3 cells3 z1)

noncomputable def pegs_jump_turn_2_J1  (cells4 : List Int) : Option (List Int) :=
  some cells4

noncomputable def pegs_jump_turn_2_K1  : (List Int) → Option (List Int) :=
  fun (x : (List Int)) => match x with | cells4 => pegs_jump_turn_2_J1 cells4

noncomputable def pegs_jump_turn_2_L1  (j1 : Int) (j2 : Int) (j3 : Int) (cells1 : List Int) : (List Int × Int) → Option (St (List Int × Int) (List Int)) :=
  fun (x : (List Int × Int)) => match x with | (cells3, z1) => if (decide (z1 < 3)) then ((pegs_jump_turn_2_J2 j1 j2 j3 cells1 cells3 z1)) else (some (.done cells3))

noncomputable def pegs_jump_turn_2_m  (j1 : Int) (j2 : Int) (j3 : Int) (cells1 : List Int) : Option (List Int) :=
  (loop (pegs_jump_turn_2_L1 j1 j2 j3 cells1) (cells1, 0)).bind pegs_jump_turn_2_K1

set_option maxRecDepth 100000 in
set_option maxHeartbeats 4000000 in
theorem pegs_jump_turn_2_w  {j1 : Int} {j2 : Int} {j3 : Int} {A1 : Option Addr} {c1 : Nat} {n1 : Nat} {cells1 : List Int} {r : (List Int)} {w0 w : World} {B : Nat} {fs : List HP} (hm : pegs_jump_turn_2_m j1 j2 j3 cells1 = some r) (hS : Sep w0 B w (own 3 (.slice A1 n1 c1) (vI cells1) :: fs)) :
    Calls Try.prog 108 #[.agg #[.int .i64 j1, .int .i64 j2, .int .i64 j3], .slice A1 n1 c1] w fun e w' => ∃ v, e = .returned v ∧ v = .tuple #[] ∧ Sep w0 B w' (own 3 (.slice A1 n1 c1) (vI r) :: fs) := by
  obtain ⟨i3, hi3, hz3, hs3, hb3⟩ := info_parts Info3
  obtain rfl := (hS.at_ 0 rfl).len1
  unfold pegs_jump_turn_2_m at hm
  replace hm := start_b hm
  refine enter (l := [.agg #[.int .i64 j1, .int .i64 j2, .int .i64 j3], .slice A1 cells1.length c1]) (n := 23) Try.func108 rfl rfl (by simp) (fun a hF => ?_)
  refine end_cut (fun a w => ∃ (cells4 : List Int), Fr 23 [] a ∧ Sep w0 B w (own 3 (.slice A1 cells1.length c1) (vI cells4) :: fs) ∧ (pegs_jump_turn_2_J1 cells4).bind some = some r) ?_ ?_
  · rintro a w ⟨cells4, hF, hS, hm⟩
    unfold pegs_jump_turn_2_J1 at hm
    have hm : some cells4 = some r := hm
    obtain rfl := Option.some.inj hm
    exact endV (rs := []) (vs := []) hF rfl (rv_nil) rfl ⟨_, rfl, rfl, hS⟩ rfl
  · refine seqR ?_
    refine at_do (d := 2) (s := vS (Instr.box 119 (.agg #[.int .i64 j1, .int .i64 j2, .int .i64 j3]))) (v := .pointer (some ⟨w.heap.size, 0, none⟩)) (w' := w.alloc (.cells #[.int .i64 j1, .int .i64 j2, .int .i64 j3] 119)) hF (by kernel_rfl) (by kernel_rfl) (by kernel_rfl) (fun a hF => ?_)
    have hS : Sep w0 B (w.alloc (.cells #[.int .i64 j1, .int .i64 j2, .int .i64 j3] 119)) (blk w.heap.size 119 #[.int .i64 j1, .int .i64 j2, .int .i64 j3] :: (own 3 (.slice A1 cells1.length c1) (vI cells1) :: fs)) := hS.box 119 #[.int .i64 j1, .int .i64 j2, .int .i64 j3]
    generalize w.heap.size = g1 at hF hS
    generalize w.alloc (.cells #[.int .i64 j1, .int .i64 j2, .int .i64 j3] 119) = w at hS ⊢
    refine at_end [1, 2] [pl 1 (.slice A1 cells1.length c1), pl 2 (.pointer (some ⟨g1, 0, none⟩))] hF rfl (by kernel_rfl) (fun hF => ?_)
    refine then_n ?_
    refine reg [⟨false, [], vS (Instr.loadAt 3 (.pointer (some ⟨g1, 0, none⟩))), .int .i64 j1⟩, ⟨false, [], vS (Instr.loadAt 3 (.pointer (some ⟨g1, 1, none⟩))), .int .i64 j2⟩, ⟨false, [], vS (Instr.loadAt 3 (.pointer (some ⟨g1, 2, none⟩))), .int .i64 j3⟩] [none, some (.int .i64 j1), none, some (.int .i64 j2), none, some (.int .i64 j3), none, none] [1, 12, 13] [pl 1 (.slice A1 cells1.length c1), pl 12 (.agg (List.toArray (([] : List Value) ++ (arr1 (Value.int .i64) (0 : Int) 3 ([j1, j2, j3] : List Int) ++ ([] : List Value))))), pl 13 (.int .i64 0)] hF hS Fol (by kernel_rfl) (by kernel_rfl) (by kernel_rfl) ?_ (fun a w hF hS => ?_)
    · exact obs_cons (ob_load Agg3 (fun _ _ hS => (hS.at_ 0 rfl).cell rfl)) <| obs_cons (ob_load Agg3 (fun _ _ hS => (hS.at_ 0 rfl).cell rfl)) <| obs_cons (ob_load Agg3 (fun _ _ hS => (hS.at_ 0 rfl).cell rfl)) <| obs_nil
    refine wpIn_block ?_
    have hS := hS.pickN 2 [1] (by decide)
    refine wp_loop_model (S := (List Int × Int)) (R := (List Int)) (pegs_jump_turn_2_L1 j1 j2 j3 cells1) (fun x => (pegs_jump_turn_2_K1 x).bind some) r (fun (x : (List Int × Int)) a w => Fr 23 [pl 1 (.slice A1 cells1.length c1), pl 12 (.agg (List.toArray (([] : List Value) ++ (arr1 (Value.int .i64) (0 : Int) 3 ([j1, j2, j3] : List Int) ++ ([] : List Value))))), pl 13 (.int .i64 x.2)] a ∧ Sep w0 B w (own 3 (.slice A1 cells1.length c1) (vI x.1) :: fs)) (assoc_b hm) ⟨hF.weak [1, 12, 13] (by kernel_rfl), hS⟩ ?_
    clear hF hS hm
    rintro nn1 ⟨cells3, z1⟩ a w ⟨hF, hS⟩ hm
    generalize hφ1 : stK (pegs_jump_turn_2_L1 j1 j2 j3 cells1) nn1 (fun x => (pegs_jump_turn_2_K1 x).bind some) = φ1 at hm
    unfold pegs_jump_turn_2_L1 at hm
    dsimp only at hF hS hm
    refine reg [] [] [1, 12, 13, 14] [pl 1 (.slice A1 cells1.length c1), pl 12 (.agg (List.toArray (([] : List Value) ++ (arr1 (Value.int .i64) (0 : Int) 3 ([j1, j2, j3] : List Int) ++ ([] : List Value))))), pl 13 (.int .i64 z1), pl 14 (.bool (decide (z1 < 3)))] hF hS Fol (by kernel_rfl) (by kernel_rfl) (by kernel_rfl) ?_ (fun a w hF hS => ?_)
    · exact obs_nil
    refine seq_cut (fun a w => Fr 23 [pl 1 (.slice A1 cells1.length c1), pl 12 (.agg (List.toArray (([] : List Value) ++ (arr1 (Value.int .i64) (0 : Int) 3 ([j1, j2, j3] : List Int) ++ ([] : List Value))))), pl 13 (.int .i64 z1)] a ∧ Sep w0 B w (own 3 (.slice A1 cells1.length c1) (vI cells3) :: fs) ∧ ((pegs_jump_turn_2_J2 j1 j2 j3 cells1 cells3 z1)).bind φ1 = some r) ?_ ?_
    · rintro a w ⟨hF, hS, hm⟩
      unfold pegs_jump_turn_2_J2 at hm
      refine seq_cut (fun a w => Fr 23 [pl 1 (.slice A1 cells1.length c1), pl 12 (.agg (List.toArray (([] : List Value) ++ (arr1 (Value.int .i64) (0 : Int) 3 ([j1, j2, j3] : List Int) ++ ([] : List Value))))), pl 13 (.int .i64 z1)] a ∧ Sep w0 B w (own 3 (.slice A1 cells1.length c1) (vI (cells3.set (Int.toNat (geti ([j1, j2, j3] : List Int) z1)) (bXor (geti cells3 (geti ([j1, j2, j3] : List Int) z1)) 1))) :: fs) ∧ ((pegs_jump_turn_2_J3 j1 j2 j3 cells3 z1)).bind φ1 = some r) ?_ ?_
      · rintro a w ⟨hF, hS, hm⟩
        unfold pegs_jump_turn_2_J3 at hm
        refine reg1 [] [] [1, 12, 13] [pl 1 (.slice A1 cells1.length c1), pl 12 (.agg (List.toArray (([] : List Value) ++ (arr1 (Value.int .i64) (0 : Int) 3 ([j1, j2, j3] : List Int) ++ ([] : List Value))))), pl 13 (.int .i64 (w64 (z1 + 1)))] hF hS Fol (by kernel_rfl) (by kernel_rfl) (by kernel_rfl) ?_ (fun a w hF hS => ?_)
        · exact obs_nil
        refine then_n ?_
        rw [← hφ1] at hm
        exact ⟨((cells3.set (Int.toNat (geti ([j1, j2, j3] : List Int) z1)) (bXor (geti cells3 (geti ([j1, j2, j3] : List Int) z1)) 1)), (w64 (z1 + 1))), ⟨hF.weak [1, 12, 13] (by kernel_rfl), hS⟩, hm⟩
      · refine wpIn_block ?_
        obtain ⟨hp1, hm⟩ := asrt_b hm
        refine reg [⟨true, [], vS (Instr.index 182 (.agg (List.toArray (([] : List Value) ++ (arr1 (Value.int .i64) (0 : Int) 3 ([j1, j2, j3] : List Int) ++ ([] : List Value))))) (.int .i64 z1)), .int .i64 (geti ([j1, j2, j3] : List Int) z1)⟩] [some (.int .i64 (geti ([j1, j2, j3] : List Int) z1)), none] [1, 5, 12, 13] [pl 1 (.slice A1 cells1.length c1), pl 5 (.int .i64 (geti ([j1, j2, j3] : List Int) z1)), pl 12 (.agg (List.toArray (([] : List Value) ++ (arr1 (Value.int .i64) (0 : Int) 3 ([j1, j2, j3] : List Int) ++ ([] : List Value))))), pl 13 (.int .i64 z1)] hF hS Fol (by kernel_rfl) (by kernel_rfl) (by kernel_rfl) ?_ (fun a w hF hS => ?_)
        · exact obs_cons (ob_idx1 (f := (Value.int .i64)) (z := (0 : Int)) (m := ([j1, j2, j3] : List Int)) UndA182 (by kernel_rfl) (by kernel_rfl) (fun _ => hp1)) <| obs_nil
        refine oneR ?_
        obtain ⟨hp2, hm⟩ := asrt_b hm
        obtain ⟨hp3, hm⟩ := asrt_b hm
        refine at_run 6 [⟨true, [], vS (Instr.indexAt 22 (.slice A1 cells1.length c1) (.int .i64 (geti ([j1, j2, j3] : List Int) z1))), .pointer (some (sAddr A1 (geti ([j1, j2, j3] : List Int) z1)))⟩, ⟨false, [], vS (Instr.loadAt 3 (.pointer (some (sAddr A1 (geti ([j1, j2, j3] : List Int) z1))))), .int .i64 (geti cells3 (geti ([j1, j2, j3] : List Int) z1))⟩, ⟨true, [], vS (Instr.indexAt 22 (.slice A1 cells1.length c1) (.int .i64 (geti ([j1, j2, j3] : List Int) z1))), .pointer (some (sAddr A1 (geti ([j1, j2, j3] : List Int) z1)))⟩] [none, none, some (.pointer (some (sAddr A1 (geti ([j1, j2, j3] : List Int) z1)))), some (.int .i64 (geti cells3 (geti ([j1, j2, j3] : List Int) z1))), none, some (.pointer (some (sAddr A1 (geti ([j1, j2, j3] : List Int) z1))))] [1, 12, 13, 20, 21] [pl 1 (.slice A1 cells1.length c1), pl 12 (.agg (List.toArray (([] : List Value) ++ (arr1 (Value.int .i64) (0 : Int) 3 ([j1, j2, j3] : List Int) ++ ([] : List Value))))), pl 13 (.int .i64 z1), pl 20 (.int .i64 (bXor (geti cells3 (geti ([j1, j2, j3] : List Int) z1)) 1)), pl 21 (.pointer (some (sAddr A1 (geti ([j1, j2, j3] : List Int) z1))))] hF hS (by kernel_rfl) (by kernel_rfl) ?_ (fun a w hF hS => ?_)
        · exact obs_cons (ob_ix1 (f := (Value.int .i64)) (m := cells3) Und22 hi3 hs3 (hS.at_ 0 rfl).rd ((hS.at_ 0 rfl).len1) (fun _ => hp2)) <| obs_cons (ob_get1 (n := cells1.length) (m := cells3) (Value.int .i64) (0 : Int) Agg3 (fun _ hS => ⟨_, (hS.at_ 0 rfl).rd⟩) (fun _ hS => ((hS.at_ 0 rfl).len1)) (fun _ => hp2)) <| obs_cons (ob_ix1 (f := (Value.int .i64)) (m := cells3) Und22 hi3 hs3 (hS.at_ 0 rfl).rd ((hS.at_ 0 rfl).len1) (fun _ => hp3)) <| obs_nil
        obtain ⟨w, hrun, hS⟩ := run_set1 (P := Try.prog) (t := 3) (x := (bXor (geti cells3 (geti ([j1, j2, j3] : List Int) z1)) 1)) (Value.int .i64) (hS.at_ 0 rfl) hi3 hs3 rfl rfl hp3
        refine at_skip hF (by kernel_rfl) hrun ?_
        have hS : Sep w0 B w (own 3 (.slice A1 cells1.length c1) (vI (cells3.set (Int.toNat (geti ([j1, j2, j3] : List Int) z1)) (bXor (geti cells3 (geti ([j1, j2, j3] : List Int) z1)) 1))) :: fs) := hS
        refine at_end [1, 12, 13] [pl 1 (.slice A1 cells1.length c1), pl 12 (.agg (List.toArray (([] : List Value) ++ (arr1 (Value.int .i64) (0 : Int) 3 ([j1, j2, j3] : List Int) ++ ([] : List Value))))), pl 13 (.int .i64 z1)] hF rfl (by kernel_rfl) (fun hF => ?_)
        refine block_n ?_
        refine then_n ?_
        exact ⟨hF.weak [1, 12, 13] (by kernel_rfl), hS, hm⟩
    · refine cond_ev (t := 14) (b := decide (z1 < 3)) hF (by kernel_rfl) (fun hb => ?_) (fun hb => ?_)
      · replace hm := if_t hm hb
        refine wpIn_skip ?_
        refine then_n ?_
        exact ⟨hF.weak [1, 12, 13] (by kernel_rfl), hS, hm⟩
      · replace hm := if_f hm hb
        refine wpIn_exit ?_
        refine then_e (then_e (block_e (then_n ?_)))
        rw [← hφ1] at hm
        replace hm := done_b hm
        unfold pegs_jump_turn_2_K1 at hm
        try dsimp only at hm
        have hm : (pegs_jump_turn_2_J1 cells3).bind some = some r := hm
        exact ⟨cells3, hF.weak [] (by kernel_rfl), hS, hm⟩

noncomputable def pegs_search_run_2_J5  (z1 : Int) (s7 : List Int) (s8 : List (List UInt8 × Bool)) (done3 : List (Int × Int × Int)) : Option (St (List Int × List (List UInt8 × Bool) × List (Int × Int × Int) × Int) (Fl (List Int × List (List UInt8 × Bool) × List (Int × Int × Int)) (Bool × List Int × List (List UInt8 × Bool) × List (Int × Int × Int)))) :=
  some (.next (s7, s8, done3, (w64 (z1 + 1))))

noncomputable def pegs_search_run_2_J6  (rec_pegs_search_run_2 : List Int → List (Int × Int × Int) → List (List UInt8 × Bool) → List (Int × Int × Int) → Int → Int → List (Int × Int × Int) → Option (Bool × List Int × List (List UInt8 × Bool) × List (Int × Int × Int))) (s_all1 : List (Int × Int × Int)) (row1 : List (Int × Int × Int)) (v1 : Int) (v2 : Int) (s3 : List Int) (s4 : List (List UInt8 × Bool)) (done2 : List (Int × Int × Int)) (z1 : Int) : Option (St (List Int × List (List UInt8 × Bool) × List (Int × Int × Int) × Int) (Fl (List Int × List (List UInt8 × Bool) × List (Int × Int × Int)) (Bool × List Int × List (List UInt8 × Bool) × List (Int × Int × Int)))) :=
  (pegs_jump_turn_2_m ((getd ((0, 0, 0) : (Int × Int × Int)) s_all1 z1).1) ((getd ((0, 0, 0) : (Int × Int × Int)) s_all1 z1).2.1) ((getd ((0, 0, 0) : (Int × Int × Int)) s_all1 z1).2.2) s3).bind fun r4 => asrt ((row1.length : Int) + 1 ≤ bigT) <| (rec_pegs_search_run_2 r4 s_all1 s4 (row1 ++ ([(getd ((0, 0, 0) : (Int × Int × Int)) s_all1 z1)] : List (Int × Int × Int))) v1 v2 done2).bind fun r5 => (pegs_jump_turn_2_m ((getd ((0, 0, 0) : (Int × Int × Int)) s_all1 z1).1) ((getd ((0, 0, 0) : (Int × Int × Int)) s_all1 z1).2.1) ((getd ((0, 0, 0) : (Int × Int × Int)) s_all1 z1).2.2) r5.2.1).bind fun r6 => if r5.1 then (some (.done (.ret (true, r6, r5.2.2.1, r5.2.2.2)))) else ((pegs_search_run_2_J5 z1) r6 r5.2.2.1 r5.2.2.2)

noncomputable def pegs_search_run_2_J4  (rec_pegs_search_run_2 : List Int → List (Int × Int × Int) → List (List UInt8 × Bool) → List (Int × Int × Int) → Int → Int → List (Int × Int × Int) → Option (Bool × List Int × List (List UInt8 × Bool) × List (Int × Int × Int))) (s_all1 : List (Int × Int × Int)) (row1 : List (Int × Int × Int)) (v1 : Int) (v2 : Int) (s3 : List Int) (s4 : List (List UInt8 × Bool)) (done2 : List (Int × Int × Int)) (z1 : Int) : Option (St (List Int × List (List UInt8 × Bool) × List (Int × Int × Int) × Int) (Fl (List Int × List (List UInt8 × Bool) × List (Int × Int × Int)) (Bool × List Int × List (List UInt8 × Bool) × List (Int × Int × Int)))) :=
  asrt (0 ≤ z1 ∧ z1 < (s_all1.length : Int)) <| (pegs_jump_can_m ((getd ((0, 0, 0) : (Int × Int × Int)) s_all1 z1).1) ((getd ((0, 0, 0) : (Int × Int × Int)) s_all1 z1).2.1) ((getd ((0, 0, 0) : (Int × Int × Int)) s_all1 z1).2.2) s3).bind fun r3 => if (!r3) then ((pegs_search_run_2_J5 z1) s3 s4 done2) else ((pegs_search_run_2_J6 rec_pegs_search_run_2 s_all1 row1 v1 v2 s3 s4 done2 z1))

noncomputable def pegs_search_run_2_J3  (s5 : List Int) (s6 : List (List UInt8 × Bool)) (v5 : List (Int × Int × Int)) : Option (Bool × List Int × List (List UInt8 × Bool) × List (Int × Int × Int)) :=
  some (false, s5, s6, v5)

noncomputable def pegs_search_run_2_K1  : (Fl (List Int × List (List UInt8 × Bool) × List (Int × Int × Int)) (Bool × List Int × List (List UInt8 × Bool) × List (Int × Int × Int))) → Option (Bool × List Int × List (List UInt8 × Bool) × List (Int × Int × Int)) :=
  fun (x : (Fl (List Int × List (List UInt8 × Bool) × List (Int × Int × Int)) (Bool × List Int × List (List UInt8 × Bool) × List (Int × Int × Int)))) => match x with | .go (s5, s6, v5) => pegs_search_run_2_J3 s5 s6 v5 | .ret x => some x

noncomputable def pegs_search_run_2_L1  (rec_pegs_search_run_2 : List Int → List (Int × Int × Int) → List (List UInt8 × Bool) → List (Int × Int × Int) → Int → Int → List (Int × Int × Int) → Option (Bool × List Int × List (List UInt8 × Bool) × List (Int × Int × Int))) (s_all1 : List (Int × Int × Int)) (row1 : List (Int × Int × Int)) (v1 : Int) (v2 : Int) : (List Int × List (List UInt8 × Bool) × List (Int × Int × Int) × Int) → Option (St (List Int × List (List UInt8 × Bool) × List (Int × Int × Int) × Int) (Fl (List Int × List (List UInt8 × Bool) × List (Int × Int × Int)) (Bool × List Int × List (List UInt8 × Bool) × List (Int × Int × Int)))) :=
  fun (x : (List Int × List (List UInt8 × Bool) × List (Int × Int × Int) × Int)) => match x with | (s3, s4, done2, z1) => if (decide (z1 < (s_all1.length : Int))) then ((pegs_search_run_2_J4 rec_pegs_search_run_2 s_all1 row1 v1 v2 s3 s4 done2 z1)) else (some (.done (.go (s3, s4, done2))))

noncomputable def pegs_search_run_2_J2  (rec_pegs_search_run_2 : List Int → List (Int × Int × Int) → List (List UInt8 × Bool) → List (Int × Int × Int) → Int → Int → List (Int × Int × Int) → Option (Bool × List Int × List (List UInt8 × Bool) × List (Int × Int × Int))) (s_cells1 : List Int) (s_all1 : List (Int × Int × Int)) (s_tried1 : List (List UInt8 × Bool)) (row1 : List (Int × Int × Int)) (v1 : Int) (v2 : Int) (done1 : List (Int × Int × Int)) (r2 : (List UInt8)) : Option (Bool × List Int × List (List UInt8 × Bool) × List (Int × Int × Int)) :=
  (loop (pegs_search_run_2_L1 rec_pegs_search_run_2 s_all1 row1 v1 v2) (s_cells1, (mput r2 true s_tried1), done1, 0)).bind pegs_search_run_2_K1

noncomputable def pegs_search_run_2_J1  (rec_pegs_search_run_2 : List Int → List (Int × Int × Int) → List (List UInt8 × Bool) → List (Int × Int × Int) → Int → Int → List (Int × Int × Int) → Option (Bool × List Int × List (List UInt8 × Bool) × List (Int × Int × Int))) (s_cells1 : List Int) (s_all1 : List (Int × Int × Int)) (s_tried1 : List (List UInt8 × Bool)) (row1 : List (Int × Int × Int)) (v1 : Int) (v2 : Int) (done1 : List (Int × Int × Int)) : Option (Bool × List Int × List (List UInt8 × Bool) × List (Int × Int × Int)) :=
  (pegs_search_name_m s_cells1 s_all1 s_tried1).bind fun r2 => if (mget false r2 s_tried1) then (some (false, s_cells1, s_tried1, done1)) else ((pegs_search_run_2_J2 rec_pegs_search_run_2 s_cells1 s_all1 s_tried1 row1 v1 v2 done1 r2))

noncomputable def pegs_search_run_2_B  (rec_pegs_search_run_2 : List Int → List (Int × Int × Int) → List (List UInt8 × Bool) → List (Int × Int × Int) → Int → Int → List (Int × Int × Int) → Option (Bool × List Int × List (List UInt8 × Bool) × List (Int × Int × Int))) (s_cells1 : List Int) (s_all1 : List (Int × Int × Int)) (s_tried1 : List (List UInt8 × Bool)) (row1 : List (Int × Int × Int)) (v1 : Int) (v2 : Int) (v3 : List (Int × Int × Int)) : Option (Bool × List Int × List (List UInt8 × Bool) × List (Int × Int × Int)) :=
  (pegs_Solve_1_m row1 v1 v2 s_cells1 s_all1 s_tried1 v3).bind fun r1 => if r1.1 then (some (true, s_cells1, s_tried1, r1.2)) else ((pegs_search_run_2_J1 rec_pegs_search_run_2 s_cells1 s_all1 s_tried1 row1 v1 v2) r1.2)

noncomputable def pegs_search_run_2_mF  : Nat → List Int → List (Int × Int × Int) → List (List UInt8 × Bool) → List (Int × Int × Int) → Int → Int → List (Int × Int × Int) → Option (Bool × List Int × List (List UInt8 × Bool) × List (Int × Int × Int))
  | 0 => fun _ _ _ _ _ _ _ => none
  | n + 1 => fun s_cells1 s_all1 s_tried1 row1 v1 v2 v3 => pegs_search_run_2_B (pegs_search_run_2_mF n) s_cells1 s_all1 s_tried1 row1 v1 v2 v3
end Go.Proofs.Ytjfloofoobllaaa
