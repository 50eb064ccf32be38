/-
  Models and walks, printed by our own program (wip/gen).
-/
import Derived.Test.YtlkdblflibgfpaaFB
import Derived.Test.YtlkdblflibgfpaaSI
namespace Go.Proofs.Ytlkdblflibgfpaa
open Go Go.GL Go.RowKit




noncomputable def gameroomref_Ints_m (l1 : List Int) : Option (List Int) :=
  asrt ((0 : Int) + (l1.length : Int) ≤ bigN) <| some ([] ++ l1)

set_option maxRecDepth 100000 in
set_option maxHeartbeats 4000000 in
theorem gameroomref_Ints_w {A1 : Option Addr} {c1 : Nat} {n1 : Nat} {l1 : List Int} {r : (List Int)} {w0 w : World} {B : Nat} {fs : List HP} (hm : gameroomref_Ints_m l1 = some r) (hS : Sep w0 B w (fs)) (hr_l1 : RdF w0 B fs A1 (vI l1)) (_hc_l1 : l1.length ≤ c1) (_hn_l1 : n1 = l1.length) :
    Calls Try.prog 100 #[.slice A1 n1 c1] w fun e w' => ∃ v, e = .returned v ∧ ∃ (A3 : Option Addr) (c3 : Nat), v = .slice A3 r.length c3 ∧ Sep w0 B w' (own 3 (.slice A3 r.length c3) (vI r) :: fs) := by
  obtain ⟨i3, hi3, hz3, hs3, hb3⟩ := info_parts Info3
  obtain rfl := _hn_l1
  unfold gameroomref_Ints_m at hm
  replace hm := start_b hm
  refine enter (l := [.slice A1 l1.length c1]) (n := 5) Try.func100 rfl rfl (by simp) (fun a hF => ?_)
  refine reg [] [] [0] [pl 0 (.slice A1 l1.length c1)] hF hS Fol (by kernel_rfl) (by kernel_rfl) (by kernel_rfl) ?_ (fun a w hF hS => ?_)
  · exact obs_nil
  refine seqR ?_
  obtain ⟨hp1, hm⟩ := asrt_b hm
  refine at_run 1 [] [] [3] [pl 3 (.slice A1 l1.length c1)] hF hS (by kernel_rfl) (by kernel_rfl) ?_ (fun a w hF hS => ?_)
  · exact obs_nil
  have hS : Sep w0 B w (own 3 (.slice none 0 0) (vI ([] : List Int)) :: fs) := hS.nil 3
  obtain ⟨A2, c2, w, hrun, hS⟩ := run_app1 (P := Try.prog) (t := 22) (m := ([] : List Int)) (ys := l1) (A2 := A1) (m2 := l1.length) (c2 := c1) (Value.int .i64) (0 : Int) (hS.at_ 0 rfl) (hr_l1 _ (hS.dropN 1)) rfl 22 Und22 hi3 hz3 hs3 (by omega) rfl (fun _ => rfl) hp1
  have hS : Sep w0 B w (own 3 (.slice A2 (([] ++ l1).length) c2) (vI ([] ++ l1)) :: fs) := hS
  refine at_do (d := 4) hF (by kernel_rfl) (by kernel_rfl) hrun (fun a hF => ?_)
  refine at_run 1 [] [] [2] [pl 2 (.slice A2 (([] ++ l1).length) c2)] hF hS (by kernel_rfl) (by kernel_rfl) ?_ (fun a w hF hS => ?_)
  · exact obs_nil
  refine at_end [2] [pl 2 (.slice A2 (([] ++ l1).length) c2)] hF rfl (by kernel_rfl) (fun hF => ?_)
  refine then_n ?_
  refine wp_ret ?_
  have hm : some ([] ++ l1) = some r := hm
  obtain rfl := Option.some.inj hm
  exact retV (rs := [.tmp 2]) (vs := [.slice A2 (([] ++ l1).length) c2]) hF rfl (rv_t (by kernel_rfl) <| rv_nil) rfl ⟨_, rfl, A2, c2, rfl, hS⟩

noncomputable def gameroomref_GridOf_m (g1 : Int) (g2 : Int) (g3 : List Int) : Option (Int × Int × List Int) :=
  (gameroomref_Ints_m g3).bind fun r1 => some (g1, g2, r1)

set_option maxRecDepth 100000 in
set_option maxHeartbeats 4000000 in
theorem gameroomref_GridOf_w {g1 : Int} {g2 : Int} {A1 : Option Addr} {c1 : Nat} {n1 : Nat} {g3 : List Int} {r : (Int × Int × List Int)} {w0 w : World} {B : Nat} {fs : List HP} (hm : gameroomref_GridOf_m g1 g2 g3 = some r) (hS : Sep w0 B w (fs)) (hr_g3 : RdF w0 B fs A1 (vI g3)) (_hc_g3 : g3.length ≤ c1) (_hn_g3 : n1 = g3.length) :
    Calls Try.prog 30 #[.agg #[.int .i64 g1, .int .i64 g2, .slice A1 n1 c1]] w fun e w' => ∃ v, e = .returned v ∧ ∃ (A3 : Option Addr) (c3 : Nat), v = .agg #[.int .i64 r.1, .int .i64 r.2.1, .slice A3 r.2.2.length c3] ∧ Sep w0 B w' (own 3 (.slice A3 r.2.2.length c3) (vI r.2.2) :: fs) := by
  obtain ⟨i3, hi3, hz3, hs3, hb3⟩ := info_parts Info3
  obtain ⟨i22, hi22, hz22, hs22, hb22⟩ := info_parts Info22
  obtain rfl := _hn_g3
  unfold gameroomref_GridOf_m at hm
  replace hm := start_b hm
  refine enter (l := [.agg #[.int .i64 g1, .int .i64 g2, .slice A1 g3.length c1]]) (n := 8) Try.func30 rfl rfl (by simp) (fun a hF => ?_)
  refine seqR ?_
  refine at_do (d := 1) (s := vS (Instr.box 41 (.agg #[.int .i64 g1, .int .i64 g2, .slice A1 g3.length c1]))) (v := .pointer (some ⟨w.heap.size, 0, none⟩)) (w' := w.alloc (.cells #[.int .i64 g1, .int .i64 g2, .slice A1 g3.length c1] 41)) hF (by kernel_rfl) (by kernel_rfl) (by kernel_rfl) (fun a hF => ?_)
  have hS : Sep w0 B (w.alloc (.cells #[.int .i64 g1, .int .i64 g2, .slice A1 g3.length c1] 41)) (blk w.heap.size 41 #[.int .i64 g1, .int .i64 g2, .slice A1 g3.length c1] :: (fs)) := hS.box 41 #[.int .i64 g1, .int .i64 g2, .slice A1 g3.length c1]
  generalize w.heap.size = g4 at hF hS
  generalize w.alloc (.cells #[.int .i64 g1, .int .i64 g2, .slice A1 g3.length c1] 41) = w at hS ⊢
  refine at_do (d := 2) (s := vS (Instr.alloc 41 true (.tuple #[]))) (v := .pointer (some ⟨w.heap.size, 0, none⟩)) (w' := w.alloc (.cells #[.int .i64 0, .int .i64 0, .slice none 0 0] 41)) hF (by kernel_rfl) (by kernel_rfl) (by kernel_rfl) (fun a hF => ?_)
  have hS : Sep w0 B (w.alloc (.cells #[.int .i64 0, .int .i64 0, .slice none 0 0] 41)) (blk w.heap.size 41 #[.int .i64 0, .int .i64 0, .slice none 0 0] :: (blk g4 41 #[.int .i64 g1, .int .i64 g2, .slice A1 g3.length c1] :: fs)) := hS.box 41 #[.int .i64 0, .int .i64 0, .slice none 0 0]
  generalize w.heap.size = g5 at hF hS
  generalize w.alloc (.cells #[.int .i64 0, .int .i64 0, .slice none 0 0] 41) = w at hS ⊢
  refine at_end [1, 2] [pl 1 (.pointer (some ⟨g4, 0, none⟩)), pl 2 (.pointer (some ⟨g5, 0, none⟩))] hF rfl (by kernel_rfl) (fun hF => ?_)
  refine then_n ?_
  refine seqR ?_
  obtain ⟨r1, hr1, hm⟩ := call_b hm
  refine at_run 2 [⟨false, [], vS (Instr.loadAt 22 (.pointer (some ⟨g4, 2, none⟩))), .slice A1 g3.length c1⟩] [none, some (.slice A1 g3.length c1)] [1, 2, 4] [pl 1 (.pointer (some ⟨g4, 0, none⟩)), pl 2 (.pointer (some ⟨g5, 0, none⟩)), pl 4 (.slice A1 g3.length c1)] hF hS (by kernel_rfl) (by kernel_rfl) ?_ (fun a w hF hS => ?_)
  · exact obs_cons (ob_load Agg22 (fun _ _ hS => (hS.at_ 1 rfl).cell rfl)) <| obs_nil
  refine at_call (f := 100) (args := #[.slice A1 g3.length c1]) (d := 5) hF (by kernel_rfl) (by kernel_rfl) Try.func100 (by kernel_rfl) rfl (gameroomref_Ints_w hr1 hS (fun _ hS => (hr_g3 _ (hS.dropN 2))) _hc_g3 rfl) (fun v a w hR hF => ?_)
  clear hS
  obtain ⟨A2, c2, rfl, hS⟩ := hR
  have hS : Sep w0 B w (own 3 (.slice A2 r1.length c2) (vI r1) :: blk g5 41 #[.int .i64 0, .int .i64 0, .slice none 0 0] :: blk g4 41 #[.int .i64 g1, .int .i64 g2, .slice A1 g3.length c1] :: fs) := hS
  refine at_run 1 [] [] [1, 2, 5, 6] [pl 1 (.pointer (some ⟨g4, 0, none⟩)), pl 2 (.pointer (some ⟨g5, 0, none⟩)), pl 5 (.slice A2 r1.length c2), pl 6 (.pointer (some ⟨g4, 2, none⟩))] hF hS (by kernel_rfl) (by kernel_rfl) ?_ (fun a w hF hS => ?_)
  · exact obs_nil
  obtain ⟨w, hrun, hS⟩ := run_put (P := Try.prog) (t := 22) (u := .slice A2 r1.length c2) (i := 2) (hS.at_ 2 rfl) hi22 hs22 rfl (Nat.lt_of_lt_of_eq (Nat.lt_of_succ_le (Nat.le_of_ble_eq_true (by kernel_rfl))) rfl)
  refine at_skip hF (by kernel_rfl) hrun ?_
  have hS : Sep w0 B w (own 3 (.slice A2 r1.length c2) (vI r1) :: blk g5 41 #[.int .i64 0, .int .i64 0, .slice none 0 0] :: blk g4 41 #[.int .i64 g1, .int .i64 g2, .slice A2 r1.length c2] :: fs) := hS
  refine at_end [1, 2] [pl 1 (.pointer (some ⟨g4, 0, none⟩)), pl 2 (.pointer (some ⟨g5, 0, none⟩))] hF rfl (by kernel_rfl) (fun hF => ?_)
  refine then_n ?_
  refine seqR ?_
  refine at_run 1 [⟨false, [], vS (Instr.loadAt 41 (.pointer (some ⟨g4, 0, none⟩))), .agg #[.int .i64 g1, .int .i64 g2, .slice A2 r1.length c2]⟩] [some (.agg #[.int .i64 g1, .int .i64 g2, .slice A2 r1.length c2])] [2, 7] [pl 2 (.pointer (some ⟨g5, 0, none⟩)), pl 7 (.agg #[.int .i64 g1, .int .i64 g2, .slice A2 r1.length c2])] hF hS (by kernel_rfl) (by kernel_rfl) ?_ (fun a w hF hS => ?_)
  · exact obs_cons (ob_loadA (cs := #[.int .i64 g1, .int .i64 g2, .slice A2 r1.length c2]) (by kernel_rfl) (by kernel_rfl) (fun _ _ hS => (hS.at_ 2 rfl).cellsAt 0 (by rfl))) <| obs_nil
  obtain ⟨w, hrun, hS⟩ := run_putA (P := Try.prog) (t := 41) (us := #[.int .i64 g1, .int .i64 g2, .slice A2 r1.length c2]) (o := 0) (hS.at_ 1 rfl) (by kernel_rfl) (all_one (by kernel_rfl)) (Nat.le_of_ble_eq_true (by kernel_rfl))
  refine at_skip hF (by kernel_rfl) hrun ?_
  have hS : Sep w0 B w (own 3 (.slice A2 r1.length c2) (vI r1) :: blk g5 41 #[.int .i64 g1, .int .i64 g2, .slice A2 r1.length c2] :: blk g4 41 #[.int .i64 g1, .int .i64 g2, .slice A2 r1.length c2] :: fs) := hS
  refine at_end [2] [pl 2 (.pointer (some ⟨g5, 0, none⟩))] hF rfl (by kernel_rfl) (fun hF => ?_)
  refine then_n ?_
  refine wp_ret ?_
  have hld0 := run_loadVarA (P := Try.prog) (t := 41) (cs := #[.int .i64 g1, .int .i64 g2, .slice A2 r1.length c2]) (by kernel_rfl) (by kernel_rfl) ((hS.at_ 1 rfl).cellsAt 0 (by rfl))
  have hS := hS.pickN 3 [0] (by decide)
  have hm : some (g1, g2, r1) = some r := hm
  obtain rfl := Option.some.inj hm
  exact retV (rs := [.cell 2 41]) (vs := [.agg #[.int .i64 g1, .int .i64 g2, .slice A2 r1.length c2]]) hF rfl (rv_c (by kernel_rfl) hld0 <| rv_nil) rfl ⟨_, rfl, A2, c2, rfl, hS⟩

noncomputable def slide_far_m (n1 : Int) : Option Bool :=
  some ((decide (n1 < 2)) || (decide ((5 : Int) < n1)))

set_option maxRecDepth 100000 in
set_option maxHeartbeats 4000000 in
theorem slide_far_w {n1 : Int} {r : Bool} {w0 w : World} {B : Nat} {fs : List HP} (hm : slide_far_m n1 = some r) (hS : Sep w0 B w (fs)) :
    Calls Try.prog 107 #[.int .i64 n1] w fun e w' => e = .returned (.bool r) ∧ Sep w0 B w' (fs) := by
  unfold slide_far_m at hm
  replace hm := start_b hm
  refine enter (l := [.int .i64 n1]) (n := 9) Try.func107 rfl rfl (by simp) (fun a hF => ?_)
  refine reg [] [] [0] [pl 0 (.int .i64 n1)] hF hS Fol (by kernel_rfl) (by kernel_rfl) (by kernel_rfl) ?_ (fun a w hF hS => ?_)
  · exact obs_nil
  refine reg [] [] [2] [pl 2 (.bool ((decide (n1 < 2)) || (decide ((5 : Int) < n1))))] hF hS Fol (by kernel_rfl) (by kernel_rfl) (by kernel_rfl) ?_ (fun a w hF hS => ?_)
  · exact obs_nil
  refine wp_ret ?_
  have hm : some ((decide (n1 < 2)) || (decide ((5 : Int) < n1))) = some r := hm
  obtain rfl := Option.some.inj hm
  exact retV (rs := [.tmp 2]) (vs := [.bool ((decide (n1 < 2)) || (decide ((5 : Int) < n1)))]) hF rfl (rv_t (by kernel_rfl) <| rv_nil) rfl ⟨rfl, hS⟩

noncomputable def slices_Values_m (s1 : List Int) : Option Unit :=
  some ()

set_option maxRecDepth 100000 in
set_option maxHeartbeats 4000000 in
theorem slices_Values_w {A1 : Option Addr} {c1 : Nat} {n1 : Nat} {s1 : List Int} {r : Unit} {w0 w : World} {B : Nat} {fs : List HP} (hm : slices_Values_m s1 = some r) (hS : Sep w0 B w (fs)) (hr_s1 : RdF w0 B fs A1 (vI s1)) (_hc_s1 : s1.length ≤ c1) (_hn_s1 : n1 = s1.length) :
    Calls Try.prog 109 #[.slice A1 n1 c1] w fun e w' => ∃ v, e = .returned v ∧ ∃ (g2 : Nat), v = .func (.func 175) #[] #[.pointer (some ⟨g2, 0, none⟩)] ∧ Sep w0 B w' (blk g2 22 #[.slice A1 n1 c1] :: fs) := by
  obtain ⟨i3, hi3, hz3, hs3, hb3⟩ := info_parts Info3
  obtain rfl := _hn_s1
  unfold slices_Values_m at hm
  replace hm := start_b hm
  refine enter (l := [.slice A1 s1.length c1]) (n := 4) Try.func109 rfl rfl (by simp) (fun a hF => ?_)
  refine seqR ?_
  refine at_do (d := 1) (s := vS (Instr.box 22 (.slice A1 s1.length c1))) (v := .pointer (some ⟨w.heap.size, 0, none⟩)) (w' := w.alloc (.cells #[.slice A1 s1.length c1] 22)) hF (by kernel_rfl) (by kernel_rfl) (by kernel_rfl) (fun a hF => ?_)
  have hS : Sep w0 B (w.alloc (.cells #[.slice A1 s1.length c1] 22)) (blk w.heap.size 22 #[.slice A1 s1.length c1] :: (fs)) := hS.box 22 #[.slice A1 s1.length c1]
  generalize w.heap.size = g1 at hF hS
  generalize w.alloc (.cells #[.slice A1 s1.length c1] 22) = w at hS ⊢
  refine at_run 1 [] [] [1] [pl 1 (.pointer (some ⟨g1, 0, none⟩))] hF hS (by kernel_rfl) (by kernel_rfl) ?_ (fun a w hF hS => ?_)
  · exact obs_nil
  refine at_end [1] [pl 1 (.pointer (some ⟨g1, 0, none⟩))] hF rfl (by kernel_rfl) (fun hF => ?_)
  refine then_n ?_
  refine reg [] [] [2] [pl 2 (.func (.func 175) #[] #[.pointer (some ⟨g1, 0, none⟩)])] hF hS Fol (by kernel_rfl) (by kernel_rfl) (by kernel_rfl) ?_ (fun a w hF hS => ?_)
  · exact obs_nil
  refine wp_ret ?_
  have hm : some () = some r := hm
  obtain rfl := Option.some.inj hm
  exact retV (rs := [.tmp 2]) (vs := [.func (.func 175) #[] #[.pointer (some ⟨g1, 0, none⟩)]]) hF rfl (rv_t (by kernel_rfl) <| rv_nil) rfl ⟨_, rfl, g1, rfl, hS⟩

noncomputable def slices_Sorted_m (v1 : List Int) : Option (List Int) :=
  asrt ((v1.length : Int) + 512 ≤ bigN) <| some (sortI v1)

theorem slices_Sorted_w {g1 : Nat} {A1 : Option Addr} {c1 : Nat} {n1 : Nat} {v1 : List Int} {r : (List Int)} {w0 w : World} {B : Nat} {fs : List HP} (hm : slices_Sorted_m v1 = some r) (hS : Sep w0 B w (blk g1 22 #[.slice A1 n1 c1] :: fs)) (hr_v1 : RdF w0 B fs A1 (vI v1)) (_hc_v1 : v1.length ≤ c1) (_hn_v1 : n1 = v1.length) :
    Calls Try.prog 108 #[.func (.func 175) #[] #[.pointer (some ⟨g1, 0, none⟩)]] w fun e w' => ∃ v, e = .returned v ∧ ∃ (A2 : Option Addr) (c2 : Nat), v = .slice A2 r.length c2 ∧ Sep w0 B w' (blk g1 22 #[.slice A1 n1 c1] :: own 3 (.slice A2 r.length c2) (vI r) :: fs) := by
  unfold slices_Sorted_m at hm
  obtain ⟨hb, hm⟩ := asrt_b (start_b hm)
  obtain rfl := Option.some.inj hm
  exact sorted_own hS hr_v1 _hn_v1 hb

noncomputable def slide_May_J4 (z1 : Int) : Option (St Int (Fl Unit Bool)) :=
  some (.next (w64 (z1 + 1)))

noncomputable def slide_May_J3 (r4 : (List Int)) (z1 : Int) : Option (St Int (Fl Unit Bool)) :=
  asrt (0 ≤ z1 ∧ z1 < (r4.length : Int)) <| if ((geti r4 z1) != z1) then (some (.done (.ret false))) else ((slide_May_J4 z1))

noncomputable def slide_May_J2 : Option Bool :=
  some true

noncomputable def slide_May_K1 : (Fl Unit Bool) → Option Bool :=
  fun (x : (Fl Unit Bool)) => match x with | .go _ => slide_May_J2 | .ret x => some x

noncomputable def slide_May_L1 (r4 : (List Int)) : Int → Option (St Int (Fl Unit Bool)) :=
  fun (x : Int) => match x with | z1 => if (decide (z1 < (r4.length : Int))) then ((slide_May_J3 r4 z1)) else (some (.done (.go ())))

noncomputable def slide_May_J1 (g3 : List Int) : Option Bool :=
  (slices_Values_m g3).bind fun r3 => (slices_Sorted_m g3).bind fun r4 => (loop (slide_May_L1 r4) 0).bind slide_May_K1

noncomputable def slide_May_m (g1 : Int) (g2 : Int) (g3 : List Int) : Option Bool :=
  (slide_far_m g1).bind fun r1 => ((if (!r1) then slide_far_m g2 else some false)).bind fun r2 => if ((r1 || r2) || ((g3.length : Int) != (w64 (g1 * g2)))) then (some false) else ((slide_May_J1 g3))

set_option maxRecDepth 100000 in
set_option maxHeartbeats 4000000 in
theorem slide_May_w {g1 : Int} {g2 : Int} {A1 : Option Addr} {c1 : Nat} {n1 : Nat} {g3 : List Int} {r : Bool} {w0 w : World} {B : Nat} {fs : List HP} (hm : slide_May_m g1 g2 g3 = some r) (hS : Sep w0 B w (fs)) (hr_g3 : RdF w0 B fs A1 (vI g3)) (_hc_g3 : g3.length ≤ c1) (_hn_g3 : n1 = g3.length) :
    Calls Try.prog 42 #[.agg #[.int .i64 g1, .int .i64 g2, .slice A1 n1 c1]] w fun e w' => e = .returned (.bool r) ∧ Sep w0 B w' (fs) := by
  obtain ⟨i3, hi3, hz3, hs3, hb3⟩ := info_parts Info3
  obtain rfl := _hn_g3
  unfold slide_May_m at hm
  replace hm := start_b hm
  refine enter (l := [.agg #[.int .i64 g1, .int .i64 g2, .slice A1 g3.length c1]]) (n := 38) Try.func42 rfl rfl (by simp) (fun a hF => ?_)
  refine seqR ?_
  refine at_do (d := 1) (s := vS (Instr.box 41 (.agg #[.int .i64 g1, .int .i64 g2, .slice A1 g3.length c1]))) (v := .pointer (some ⟨w.heap.size, 0, none⟩)) (w' := w.alloc (.cells #[.int .i64 g1, .int .i64 g2, .slice A1 g3.length c1] 41)) hF (by kernel_rfl) (by kernel_rfl) (by kernel_rfl) (fun a hF => ?_)
  have hS : Sep w0 B (w.alloc (.cells #[.int .i64 g1, .int .i64 g2, .slice A1 g3.length c1] 41)) (blk w.heap.size 41 #[.int .i64 g1, .int .i64 g2, .slice A1 g3.length c1] :: (fs)) := hS.box 41 #[.int .i64 g1, .int .i64 g2, .slice A1 g3.length c1]
  generalize w.heap.size = g4 at hF hS
  generalize w.alloc (.cells #[.int .i64 g1, .int .i64 g2, .slice A1 g3.length c1] 41) = w at hS ⊢
  refine at_run 1 [] [] [1] [pl 1 (.pointer (some ⟨g4, 0, none⟩))] hF hS (by kernel_rfl) (by kernel_rfl) ?_ (fun a w hF hS => ?_)
  · exact obs_nil
  refine at_end [1] [pl 1 (.pointer (some ⟨g4, 0, none⟩))] hF rfl (by kernel_rfl) (fun hF => ?_)
  refine then_n ?_
  refine seq_cut (fun a w => Fr 38 [pl 1 (.pointer (some ⟨g4, 0, none⟩))] a ∧ Sep w0 B w (blk g4 41 #[.int .i64 g1, .int .i64 g2, .slice A1 g3.length c1] :: fs) ∧ ((slide_May_J1 g3)).bind some = some r) ?_ ?_
  · rintro a w ⟨hF, hS, hm⟩
    unfold slide_May_J1 at hm
    refine seq_cut (fun a w => Fr 38 [] a ∧ Sep w0 B w (fs) ∧ (slide_May_J2).bind some = some r) ?_ ?_
    · rintro a w ⟨hF, hS, hm⟩
      unfold slide_May_J2 at hm
      refine reg [] [] [2] [pl 2 (.bool true)] hF hS Fol (by kernel_rfl) (by kernel_rfl) (by kernel_rfl) ?_ (fun a w hF hS => ?_)
      · exact obs_nil
      refine wp_ret ?_
      have hm : some true = some r := hm
      obtain rfl := Option.some.inj hm
      exact retV (rs := [.tmp 2]) (vs := [.bool true]) hF rfl (rv_t (by kernel_rfl) <| rv_nil) rfl ⟨rfl, hS⟩
    · refine seqR ?_
      obtain ⟨r3, hr3, hm⟩ := call_b hm
      obtain ⟨r4, hr4, hm⟩ := call_b hm
      refine at_run 2 [⟨false, [], vS (Instr.loadAt 22 (.pointer (some ⟨g4, 2, none⟩))), .slice A1 g3.length c1⟩] [none, some (.slice A1 g3.length c1)] [25] [pl 25 (.slice A1 g3.length c1)] hF hS (by kernel_rfl) (by kernel_rfl) ?_ (fun a w hF hS => ?_)
      · exact obs_cons (ob_load Agg22 (fun _ _ hS => (hS.at_ 0 rfl).cell rfl)) <| obs_nil
      refine at_call (f := 109) (args := #[.slice A1 g3.length c1]) (d := 26) hF (by kernel_rfl) (by kernel_rfl) Try.func109 (by kernel_rfl) rfl (slices_Values_w hr3 hS (fun _ hS => (hr_g3 _ (hS.dropN 1))) _hc_g3 rfl) (fun v a w hR hF => ?_)
      clear hS
      obtain ⟨g5, rfl, hS⟩ := hR
      have hS : Sep w0 B w (blk g5 22 #[.slice A1 g3.length c1] :: blk g4 41 #[.int .i64 g1, .int .i64 g2, .slice A1 g3.length c1] :: fs) := hS
      refine at_call (f := 108) (args := #[.func (.func 175) #[] #[.pointer (some ⟨g5, 0, none⟩)]]) (d := 27) hF (by kernel_rfl) (by kernel_rfl) Try.func108 (by kernel_rfl) rfl (slices_Sorted_w hr4 hS (fun _ hS => (hr_g3 _ (hS.dropN 1))) _hc_g3 rfl) (fun v a w hR hF => ?_)
      clear hS
      obtain ⟨A2, c2, rfl, hS⟩ := hR
      have hS : Sep w0 B w (blk g5 22 #[.slice A1 g3.length c1] :: own 3 (.slice A2 r4.length c2) (vI r4) :: blk g4 41 #[.int .i64 g1, .int .i64 g2, .slice A1 g3.length c1] :: fs) := hS
      refine at_run 2 [] [] [27, 28, 29] [pl 27 (.slice A2 r4.length c2), pl 28 (.int .i64 (r4.length : Int)), pl 29 (.int .i64 0)] hF hS (by kernel_rfl) (by kernel_rfl) ?_ (fun a w hF hS => ?_)
      · exact obs_nil
      refine at_end [27, 28, 29] [pl 27 (.slice A2 r4.length c2), pl 28 (.int .i64 (r4.length : Int)), pl 29 (.int .i64 0)] hF rfl (by kernel_rfl) (fun hF => ?_)
      refine then_n ?_
      refine wp_block ?_
      have hS := hS.pickN 3 [1] (by decide)
      refine wp_loop_model (S := Int) (R := (Fl Unit Bool)) (slide_May_L1 r4) (fun x => (slide_May_K1 x).bind some) r (fun (x : Int) a w => Fr 38 [pl 27 (.slice A2 r4.length c2), pl 28 (.int .i64 (r4.length : Int)), pl 29 (.int .i64 x)] a ∧ Sep w0 B w (own 3 (.slice A2 r4.length c2) (vI r4) :: fs)) (assoc_b hm) ⟨hF.weak [27, 28, 29] (by kernel_rfl), hS⟩ ?_
      clear hF hS hm
      rintro nn1 z1 a w ⟨hF, hS⟩ hm
      generalize hφ1 : stK (slide_May_L1 r4) nn1 (fun x => (slide_May_K1 x).bind some) = φ1 at hm
      unfold slide_May_L1 at hm
      dsimp only at hm
      refine reg [] [] [27, 28, 29, 30] [pl 27 (.slice A2 r4.length c2), pl 28 (.int .i64 (r4.length : Int)), pl 29 (.int .i64 z1), pl 30 (.bool (decide (z1 < (r4.length : Int))))] hF hS Fol (by kernel_rfl) (by kernel_rfl) (by kernel_rfl) ?_ (fun a w hF hS => ?_)
      · exact obs_nil
      refine seq_cut (fun a w => Fr 38 [pl 27 (.slice A2 r4.length c2), pl 28 (.int .i64 (r4.length : Int)), pl 29 (.int .i64 z1)] a ∧ Sep w0 B w (own 3 (.slice A2 r4.length c2) (vI r4) :: fs) ∧ ((slide_May_J3 r4 z1)).bind φ1 = some r) ?_ ?_
      · rintro a w ⟨hF, hS, hm⟩
        unfold slide_May_J3 at hm
        refine seq_cut (fun a w => Fr 38 [pl 27 (.slice A2 r4.length c2), pl 28 (.int .i64 (r4.length : Int)), pl 29 (.int .i64 z1)] a ∧ Sep w0 B w (own 3 (.slice A2 r4.length c2) (vI r4) :: fs) ∧ ((slide_May_J4 z1)).bind φ1 = some r) ?_ ?_
        · rintro a w ⟨hF, hS, hm⟩
          unfold slide_May_J4 at hm
          refine reg1 [] [] [27, 28, 29] [pl 27 (.slice A2 r4.length c2), pl 28 (.int .i64 (r4.length : Int)), pl 29 (.int .i64 (w64 (z1 + 1)))] hF hS Fol (by kernel_rfl) (by kernel_rfl) (by kernel_rfl) ?_ (fun a w hF hS => ?_)
          · exact obs_nil
          refine then_n ?_
          rw [← hφ1] at hm
          exact ⟨(w64 (z1 + 1)), ⟨hF.weak [27, 28, 29] (by kernel_rfl), hS⟩, hm⟩
        · refine wp_block ?_
          obtain ⟨hp1, hm⟩ := asrt_b hm
          refine reg [⟨true, [], vS (Instr.indexAt 22 (.slice A2 r4.length c2) (.int .i64 z1)), .pointer (some (sAddr A2 z1))⟩, ⟨false, [], vS (Instr.loadAt 3 (.pointer (some (sAddr A2 z1)))), .int .i64 (geti r4 z1)⟩] [none, some (.pointer (some (sAddr A2 z1))), some (.int .i64 (geti r4 z1)), none, none] [3, 4, 27, 28, 29] [pl 3 (.int .i64 z1), pl 4 (.int .i64 (geti r4 z1)), pl 27 (.slice A2 r4.length c2), pl 28 (.int .i64 (r4.length : Int)), pl 29 (.int .i64 z1)] hF hS Fol (by kernel_rfl) (by kernel_rfl) (by kernel_rfl) ?_ (fun a w hF hS => ?_)
          · exact obs_cons (ob_ix1 (f := (Value.int .i64)) (m := r4) Und22 hi3 hs3 (hS.at_ 0 rfl).rd rfl (fun _ => hp1)) <| obs_cons (ob_get1 (n := r4.length) (m := r4) (Value.int .i64) (0 : Int) Agg3 (fun _ hS => ⟨_, (hS.at_ 0 rfl).rd⟩) (fun _ hS => rfl) (fun _ => hp1)) <| obs_nil
          refine reg [] [] [27, 28, 29, 36] [pl 27 (.slice A2 r4.length c2), pl 28 (.int .i64 (r4.length : Int)), pl 29 (.int .i64 z1), pl 36 (.bool ((geti r4 z1) != z1))] hF hS Fol (by kernel_rfl) (by kernel_rfl) (by kernel_rfl) ?_ (fun a w hF hS => ?_)
          · exact obs_nil
          refine cond_ev (t := 36) (b := ((geti r4 z1) != z1)) hF (by kernel_rfl) (fun hb => ?_) (fun hb => ?_)
          · replace hm := if_t hm hb
            refine reg [] [] [2] [pl 2 (.bool false)] hF hS Fol (by kernel_rfl) (by kernel_rfl) (by kernel_rfl) ?_ (fun a w hF hS => ?_)
            · exact obs_nil
            refine wp_ret ?_
            refine block_r (then_r (then_r (block_r (then_r ?_))))
            rw [← hφ1] at hm
            replace hm := done_b hm
            unfold slide_May_K1 at hm
            try dsimp only at hm
            have hS := hS.pickN 1 [] (by decide)
            have hm : some false = some r := hm
            obtain rfl := Option.some.inj hm
            exact retV (rs := [.tmp 2]) (vs := [.bool false]) hF rfl (rv_t (by kernel_rfl) <| rv_nil) rfl ⟨rfl, hS⟩
          · replace hm := if_f hm hb
            refine wp_skip ?_
            refine block_n ?_
            refine then_n ?_
            exact ⟨hF.weak [27, 28, 29] (by kernel_rfl), hS, hm⟩
      · refine cond_ev (t := 30) (b := decide (z1 < (r4.length : Int))) hF (by kernel_rfl) (fun hb => ?_) (fun hb => ?_)
        · replace hm := if_t hm hb
          refine wp_skip ?_
          refine then_n ?_
          exact ⟨hF.weak [27, 28, 29] (by kernel_rfl), hS, hm⟩
        · replace hm := if_f hm hb
          refine wp_exit ?_
          refine then_e (then_e (block_e (then_n ?_)))
          have hS := hS.pickN 1 [] (by decide)
          rw [← hφ1] at hm
          replace hm := done_b hm
          unfold slide_May_K1 at hm
          try dsimp only at hm
          have hm : (slide_May_J2).bind some = some r := hm
          exact ⟨hF.weak [] (by kernel_rfl), hS, hm⟩
  · obtain ⟨r1, hr1, hm⟩ := call_b hm
    obtain ⟨r2, hr2, hm⟩ := call_b hm
    refine reg [⟨false, [], vS (Instr.loadAt 3 (.pointer (some ⟨g4, 0, none⟩))), .int .i64 g1⟩, ⟨false, [], callFunc 107 #[.int .i64 g1], .bool r1⟩, ⟨false, [(r1, false)], vS (Instr.loadAt 3 (.pointer (some ⟨g4, 1, none⟩))), .int .i64 g2⟩, ⟨false, [(r1, false)], callFunc 107 #[.int .i64 g2], .bool r2⟩, ⟨false, [(r1 || r2, false)], vS (Instr.loadAt 22 (.pointer (some ⟨g4, 2, none⟩))), .slice A1 g3.length c1⟩, ⟨false, [(r1 || r2, false)], vS (Instr.loadAt 3 (.pointer (some ⟨g4, 0, none⟩))), .int .i64 g1⟩, ⟨false, [(r1 || r2, false)], vS (Instr.loadAt 3 (.pointer (some ⟨g4, 1, none⟩))), .int .i64 g2⟩] [none, some (.int .i64 g1), some (.bool r1), none, none, some (.int .i64 g2), some (.bool r2), none, none, none, some (.slice A1 g3.length c1), none, none, some (.int .i64 g1), none, some (.int .i64 g2), none, none, none] [1, 23] [pl 1 (.pointer (some ⟨g4, 0, none⟩)), pl 23 (.bool ((r1 || r2) || ((g3.length : Int) != (w64 (g1 * g2)))))] hF hS Fol (by kernel_rfl) (by kernel_rfl) (by kernel_rfl) ?_ (fun a w hF hS => ?_)
    · exact obs_cons (ob_load Agg3 (fun _ _ hS => (hS.at_ 0 rfl).cell rfl)) <| obs_cons (ob_call Try.func107 (by kernel_rfl) rfl (fun _ _ hS => slide_far_w hr1 hS )) <| obs_cons (ob_load Agg3 (fun _ _ hS => (hS.at_ 0 rfl).cell rfl)) <| obs_cons (ob_call Try.func107 (by kernel_rfl) rfl (fun hy _ hS => slide_far_w (ite_some hr2 (by rw [show r1 = false from hy (r1, false) (by simp)]; try rfl)) hS )) <| obs_cons (ob_load Agg22 (fun _ _ hS => (hS.at_ 0 rfl).cell rfl)) <| obs_cons (ob_load Agg3 (fun _ _ hS => (hS.at_ 0 rfl).cell rfl)) <| obs_cons (ob_load Agg3 (fun _ _ hS => (hS.at_ 0 rfl).cell rfl)) <| obs_nil
    refine cond_ev (t := 23) (b := (r1 || r2) || ((g3.length : Int) != (w64 (g1 * g2)))) hF (by kernel_rfl) (fun hb => ?_) (fun hb => ?_)
    · replace hm := if_t hm hb
      refine reg [] [] [2] [pl 2 (.bool false)] hF hS Fol (by kernel_rfl) (by kernel_rfl) (by kernel_rfl) ?_ (fun a w hF hS => ?_)
      · exact obs_nil
      refine wp_ret ?_
      refine then_r ?_
      have hS := hS.pickN 1 [] (by decide)
      have hm : some false = some r := hm
      obtain rfl := Option.some.inj hm
      exact retV (rs := [.tmp 2]) (vs := [.bool false]) hF rfl (rv_t (by kernel_rfl) <| rv_nil) rfl ⟨rfl, hS⟩
    · replace hm := if_f hm hb
      refine wp_skip ?_
      refine then_n ?_
      exact ⟨hF.weak [1] (by kernel_rfl), hS, hm⟩

noncomputable def gameroomlaw_ints_m (l1 : List Int) : Option (List Int) :=
  asrt ((0 : Int) + (l1.length : Int) ≤ bigN) <| some ([] ++ l1)

set_option maxRecDepth 100000 in
set_option maxHeartbeats 4000000 in
theorem gameroomlaw_ints_w {A1 : Option Addr} {c1 : Nat} {n1 : Nat} {l1 : List Int} {r : (List Int)} {w0 w : World} {B : Nat} {fs : List HP} (hm : gameroomlaw_ints_m l1 = some r) (hS : Sep w0 B w (fs)) (hr_l1 : RdF w0 B fs A1 (vI l1)) (_hc_l1 : l1.length ≤ c1) (_hn_l1 : n1 = l1.length) :
    Calls Try.prog 16 #[.slice A1 n1 c1] w fun e w' => ∃ v, e = .returned v ∧ ∃ (A3 : Option Addr) (c3 : Nat), v = .slice A3 r.length c3 ∧ Sep w0 B w' (own 3 (.slice A3 r.length c3) (vI r) :: fs) := by
  obtain ⟨i3, hi3, hz3, hs3, hb3⟩ := info_parts Info3
  obtain rfl := _hn_l1
  unfold gameroomlaw_ints_m at hm
  replace hm := start_b hm
  refine enter (l := [.slice A1 l1.length c1]) (n := 5) Try.func16 rfl rfl (by simp) (fun a hF => ?_)
  refine reg [] [] [0] [pl 0 (.slice A1 l1.length c1)] hF hS Fol (by kernel_rfl) (by kernel_rfl) (by kernel_rfl) ?_ (fun a w hF hS => ?_)
  · exact obs_nil
  refine seqR ?_
  obtain ⟨hp1, hm⟩ := asrt_b hm
  refine at_run 1 [] [] [3] [pl 3 (.slice A1 l1.length c1)] hF hS (by kernel_rfl) (by kernel_rfl) ?_ (fun a w hF hS => ?_)
  · exact obs_nil
  have hS : Sep w0 B w (own 3 (.slice none 0 0) (vI ([] : List Int)) :: fs) := hS.nil 3
  obtain ⟨A2, c2, w, hrun, hS⟩ := run_app1 (P := Try.prog) (t := 22) (m := ([] : List Int)) (ys := l1) (A2 := A1) (m2 := l1.length) (c2 := c1) (Value.int .i64) (0 : Int) (hS.at_ 0 rfl) (hr_l1 _ (hS.dropN 1)) rfl 22 Und22 hi3 hz3 hs3 (by omega) rfl (fun _ => rfl) hp1
  have hS : Sep w0 B w (own 3 (.slice A2 (([] ++ l1).length) c2) (vI ([] ++ l1)) :: fs) := hS
  refine at_do (d := 4) hF (by kernel_rfl) (by kernel_rfl) hrun (fun a hF => ?_)
  refine at_run 1 [] [] [2] [pl 2 (.slice A2 (([] ++ l1).length) c2)] hF hS (by kernel_rfl) (by kernel_rfl) ?_ (fun a w hF hS => ?_)
  · exact obs_nil
  refine at_end [2] [pl 2 (.slice A2 (([] ++ l1).length) c2)] hF rfl (by kernel_rfl) (fun hF => ?_)
  refine then_n ?_
  refine wp_ret ?_
  have hm : some ([] ++ l1) = some r := hm
  obtain rfl := Option.some.inj hm
  exact retV (rs := [.tmp 2]) (vs := [.slice A2 (([] ++ l1).length) c2]) hF rfl (rv_t (by kernel_rfl) <| rv_nil) rfl ⟨_, rfl, A2, c2, rfl, hS⟩

noncomputable def slices_Clone_J1 (s1 : List Int) : Option (List Int) :=
  asrt ((0 : Int) + (s1.length : Int) ≤ bigN) <| some (([] : List Int) ++ s1)

noncomputable def slices_Clone_m (s1 : List Int) : Option (List Int) :=
  (slices_Clone_J1 s1)

set_option maxRecDepth 100000 in
set_option maxHeartbeats 4000000 in
theorem slices_Clone_w {A1 : Option Addr} {c1 : Nat} {n1 : Nat} {s1 : List Int} {r : (List Int)} {w0 w : World} {B : Nat} {fs : List HP} (hm : slices_Clone_m s1 = some r) (hS : Sep w0 B w (fs)) (hr_s1 : RdF w0 B fs A1 (vI s1)) (_hc_s1 : s1.length ≤ c1) (_hn_s1 : n1 = s1.length) :
    Calls Try.prog 101 #[.slice A1 n1 c1] w fun e w' => ∃ v, e = .returned v ∧ ∃ (A3 : Option Addr) (c3 : Nat), v = .slice A3 r.length c3 ∧ Sep w0 B w' (own 3 (.slice A3 r.length c3) (vI r) :: fs) := by
  obtain ⟨i3, hi3, hz3, hs3, hb3⟩ := info_parts Info3
  obtain rfl := _hn_s1
  unfold slices_Clone_m at hm
  replace hm := start_b hm
  refine enter (l := [.slice A1 s1.length c1]) (n := 8) Try.func101 rfl rfl (by simp) (fun a hF => ?_)
  refine reg [] [] [0] [pl 0 (.slice A1 s1.length c1)] hF hS Fol (by kernel_rfl) (by kernel_rfl) (by kernel_rfl) ?_ (fun a w hF hS => ?_)
  · exact obs_nil
  refine seq_cut (fun a w => Fr 8 [pl 0 (.slice A1 s1.length c1)] a ∧ Sep w0 B w (fs) ∧ ((slices_Clone_J1 s1)).bind some = some r) ?_ ?_
  · rintro a w ⟨hF, hS, hm⟩
    unfold slices_Clone_J1 at hm
    refine seqR ?_
    obtain ⟨hp1, hm⟩ := asrt_b hm
    refine at_do (d := 5) (s := vS (Instr.buildSlice 22 0 #[])) (v := .slice (some ⟨w.heap.size, 0, none⟩) 0 0) (w' := w.alloc (.cells #[] 3)) hF (by kernel_rfl) (by kernel_rfl) (by kernel_rfl) (fun a hF => ?_)
    have hS : Sep w0 B (w.alloc (.cells #[] 3)) (own 3 (.slice (some (⟨w.heap.size, 0, none⟩ : Addr)) 0 0) (vI ([] : List Int)) :: (fs)) := hS.lit 3 #[] 0 rfl (by omega)
    generalize (some (⟨w.heap.size, 0, none⟩ : Addr)) = g1 at hF hS
    generalize w.alloc (.cells #[] 3) = w at hS ⊢
    refine at_run 1 [] [] [5, 6] [pl 5 (.slice g1 0 0), pl 6 (.slice A1 s1.length c1)] hF hS (by kernel_rfl) (by kernel_rfl) ?_ (fun a w hF hS => ?_)
    · exact obs_nil
    obtain ⟨A2, c2, w, hrun, hS⟩ := run_app1 (P := Try.prog) (t := 22) (m := ([] : List Int)) (ys := s1) (A2 := A1) (m2 := s1.length) (c2 := c1) (Value.int .i64) (0 : Int) (hS.at_ 0 rfl) (hr_s1 _ (hS.dropN 1)) rfl 22 Und22 hi3 hz3 hs3 (by omega) rfl (fun _ => rfl) hp1
    have hS : Sep w0 B w (own 3 (.slice A2 ((([] : List Int) ++ s1).length) c2) (vI (([] : List Int) ++ s1)) :: fs) := hS
    refine at_do (d := 7) hF (by kernel_rfl) (by kernel_rfl) hrun (fun a hF => ?_)
    refine at_run 1 [] [] [2] [pl 2 (.slice A2 ((([] : List Int) ++ s1).length) c2)] hF hS (by kernel_rfl) (by kernel_rfl) ?_ (fun a w hF hS => ?_)
    · exact obs_nil
    refine at_end [2] [pl 2 (.slice A2 ((([] : List Int) ++ s1).length) c2)] hF rfl (by kernel_rfl) (fun hF => ?_)
    refine then_n ?_
    refine wp_ret ?_
    have hm : some (([] : List Int) ++ s1) = some r := hm
    obtain rfl := Option.some.inj hm
    exact retV (rs := [.tmp 2]) (vs := [.slice A2 ((([] : List Int) ++ s1).length) c2]) hF rfl (rv_t (by kernel_rfl) <| rv_nil) rfl ⟨_, rfl, A2, c2, rfl, hS⟩
  · refine reg [⟨true, [], vS (binOp .eql 22 (.slice A1 s1.length c1) (.slice none 0 0)), .bool A1.isNone⟩] [none, some (.bool A1.isNone)] [0, 4] [pl 0 (.slice A1 s1.length c1), pl 4 (.bool A1.isNone)] hF hS Fol (by kernel_rfl) (by kernel_rfl) (by kernel_rfl) ?_ (fun a w hF hS => ?_)
    · exact obs_cons (ob_isnil Und22 rfl) <| obs_nil
    refine cond_ev (t := 4) (b := A1.isNone) hF (by kernel_rfl) (fun hb => ?_) (fun hb => ?_)
    · have hA9 := Option.isNone_iff_eq_none.1 hb
      have hnil9 : s1 = [] := by have h9 := (hr_s1 _ (hS.dropN 0)); rw [hA9] at h9; exact h9.none_nil
      have hm : (some ([] : List Int)).bind some = some r := by rw [hnil9] at hm; simpa [asrt, bigN, slices_Clone_J1] using hm
      refine reg [] [] [2] [pl 2 (.slice none 0 0)] hF hS Fol (by kernel_rfl) (by kernel_rfl) (by kernel_rfl) ?_ (fun a w hF hS => ?_)
      · exact obs_nil
      refine wp_ret ?_
      refine then_r ?_
      have hS : Sep w0 B w (own 3 (.slice none 0 0) (vI ([] : List Int)) :: fs) := hS.nil 3
      have hl1 := (hS.at_ 0 rfl).len1
      have hS := (hS.at_ 0 rfl).reN hl1
      have hS : Sep w0 B w (own 3 (.slice none (([] : List Int).length) 0) (vI ([] : List Int)) :: fs) := hS
      have hm : some ([] : List Int) = some r := hm
      obtain rfl := Option.some.inj hm
      exact retV (rs := [.tmp 2]) (vs := [.slice none (([] : List Int).length) 0]) hF rfl (rv_t (by kernel_rfl) <| rv_nil) rfl ⟨_, rfl, none, 0, rfl, hS⟩
    · refine wp_skip ?_
      refine then_n ?_
      exact ⟨hF.weak [0] (by kernel_rfl), hS, hm⟩

noncomputable def slices_Index_J3 (z1 : Int) : Option (St Int (Fl Unit Int)) :=
  some (.next (w64 (z1 + 1)))

noncomputable def slices_Index_J2 (s1 : List Int) (v1 : Int) (z1 : Int) : Option (St Int (Fl Unit Int)) :=
  asrt (0 ≤ z1 ∧ z1 < (s1.length : Int)) <| if (v1 == (geti s1 z1)) then (some (.done (.ret z1))) else ((slices_Index_J3 z1))

noncomputable def slices_Index_J1 : Option Int :=
  some (-1)

noncomputable def slices_Index_K1 : (Fl Unit Int) → Option Int :=
  fun (x : (Fl Unit Int)) => match x with | .go _ => slices_Index_J1 | .ret x => some x

noncomputable def slices_Index_L1 (s1 : List Int) (v1 : Int) : Int → Option (St Int (Fl Unit Int)) :=
  fun (x : Int) => match x with | z1 => if (decide (z1 < (s1.length : Int))) then ((slices_Index_J2 s1 v1 z1)) else (some (.done (.go ())))

noncomputable def slices_Index_m (s1 : List Int) (v1 : Int) : Option Int :=
  (loop (slices_Index_L1 s1 v1) 0).bind slices_Index_K1

set_option maxRecDepth 100000 in
set_option maxHeartbeats 4000000 in
theorem slices_Index_w {A1 : Option Addr} {c1 : Nat} {n1 : Nat} {s1 : List Int} {v1 : Int} {r : Int} {w0 w : World} {B : Nat} {fs : List HP} (hm : slices_Index_m s1 v1 = some r) (hS : Sep w0 B w (fs)) (hr_s1 : RdF w0 B fs A1 (vI s1)) (_hc_s1 : s1.length ≤ c1) (_hn_s1 : n1 = s1.length) :
    Calls Try.prog 85 #[.slice A1 n1 c1, .int .i64 v1] w fun e w' => e = .returned (.int .i64 r) ∧ Sep w0 B w' (fs) := by
  obtain ⟨i3, hi3, hz3, hs3, hb3⟩ := info_parts Info3
  obtain rfl := _hn_s1
  unfold slices_Index_m at hm
  replace hm := start_b hm
  refine enter (l := [.slice A1 s1.length c1, .int .i64 v1]) (n := 19) Try.func85 rfl rfl (by simp) (fun a hF => ?_)
  refine reg [] [] [0, 1] [pl 0 (.slice A1 s1.length c1), pl 1 (.int .i64 v1)] hF hS Fol (by kernel_rfl) (by kernel_rfl) (by kernel_rfl) ?_ (fun a w hF hS => ?_)
  · exact obs_nil
  refine seq_cut (fun a w => Fr 19 [] a ∧ Sep w0 B w (fs) ∧ (slices_Index_J1).bind some = some r) ?_ ?_
  · rintro a w ⟨hF, hS, hm⟩
    unfold slices_Index_J1 at hm
    refine reg [] [] [4] [pl 4 (.int .i64 (-1))] hF hS Fol (by kernel_rfl) (by kernel_rfl) (by kernel_rfl) ?_ (fun a w hF hS => ?_)
    · exact obs_nil
    refine wp_ret ?_
    have hm : some (-1) = some r := hm
    obtain rfl := Option.some.inj hm
    exact retV (rs := [.tmp 4]) (vs := [.int .i64 (-1)]) hF rfl (rv_t (by kernel_rfl) <| rv_nil) rfl ⟨rfl, hS⟩
  · refine reg [] [] [0, 1, 7, 8] [pl 0 (.slice A1 s1.length c1), pl 1 (.int .i64 v1), pl 7 (.int .i64 (s1.length : Int)), pl 8 (.int .i64 0)] hF hS Fol (by kernel_rfl) (by kernel_rfl) (by kernel_rfl) ?_ (fun a w hF hS => ?_)
    · exact obs_nil
    refine wp_block ?_
    refine wp_loop_model (S := Int) (R := (Fl Unit Int)) (slices_Index_L1 s1 v1) (fun x => (slices_Index_K1 x).bind some) r (fun (x : Int) a w => Fr 19 [pl 0 (.slice A1 s1.length c1), pl 1 (.int .i64 v1), pl 7 (.int .i64 (s1.length : Int)), pl 8 (.int .i64 x)] a ∧ Sep w0 B w (fs)) (assoc_b hm) ⟨hF.weak [0, 1, 7, 8] (by kernel_rfl), hS⟩ ?_
    clear hF hS hm
    rintro nn1 z1 a w ⟨hF, hS⟩ hm
    generalize hφ1 : stK (slices_Index_L1 s1 v1) nn1 (fun x => (slices_Index_K1 x).bind some) = φ1 at hm
    unfold slices_Index_L1 at hm
    dsimp only at hm
    refine reg [] [] [0, 1, 7, 8, 9] [pl 0 (.slice A1 s1.length c1), pl 1 (.int .i64 v1), pl 7 (.int .i64 (s1.length : Int)), pl 8 (.int .i64 z1), pl 9 (.bool (decide (z1 < (s1.length : Int))))] hF hS Fol (by kernel_rfl) (by kernel_rfl) (by kernel_rfl) ?_ (fun a w hF hS => ?_)
    · exact obs_nil
    refine seq_cut (fun a w => Fr 19 [pl 0 (.slice A1 s1.length c1), pl 1 (.int .i64 v1), pl 7 (.int .i64 (s1.length : Int)), pl 8 (.int .i64 z1)] a ∧ Sep w0 B w (fs) ∧ ((slices_Index_J2 s1 v1 z1)).bind φ1 = some r) ?_ ?_
    · rintro a w ⟨hF, hS, hm⟩
      unfold slices_Index_J2 at hm
      refine seq_cut (fun a w => Fr 19 [pl 0 (.slice A1 s1.length c1), pl 1 (.int .i64 v1), pl 7 (.int .i64 (s1.length : Int)), pl 8 (.int .i64 z1)] a ∧ Sep w0 B w (fs) ∧ ((slices_Index_J3 z1)).bind φ1 = some r) ?_ ?_
      · rintro a w ⟨hF, hS, hm⟩
        unfold slices_Index_J3 at hm
        refine reg1 [] [] [0, 1, 7, 8] [pl 0 (.slice A1 s1.length c1), pl 1 (.int .i64 v1), pl 7 (.int .i64 (s1.length : Int)), pl 8 (.int .i64 (w64 (z1 + 1)))] hF hS Fol (by kernel_rfl) (by kernel_rfl) (by kernel_rfl) ?_ (fun a w hF hS => ?_)
        · exact obs_nil
        refine then_n ?_
        rw [← hφ1] at hm
        exact ⟨(w64 (z1 + 1)), ⟨hF.weak [0, 1, 7, 8] (by kernel_rfl), hS⟩, hm⟩
      · refine wp_block ?_
        refine reg [] [] [0, 1, 5, 7, 8] [pl 0 (.slice A1 s1.length c1), pl 1 (.int .i64 v1), pl 5 (.int .i64 z1), pl 7 (.int .i64 (s1.length : Int)), pl 8 (.int .i64 z1)] hF hS Fol (by kernel_rfl) (by kernel_rfl) (by kernel_rfl) ?_ (fun a w hF hS => ?_)
        · exact obs_nil
        obtain ⟨hp1, hm⟩ := asrt_b hm
        refine reg [⟨true, [], vS (Instr.indexAt 22 (.slice A1 s1.length c1) (.int .i64 z1)), .pointer (some (sAddr A1 z1))⟩, ⟨false, [], vS (Instr.loadAt 3 (.pointer (some (sAddr A1 z1)))), .int .i64 (geti s1 z1)⟩] [none, none, none, some (.pointer (some (sAddr A1 z1))), some (.int .i64 (geti s1 z1)), none] [0, 1, 5, 7, 8, 16] [pl 0 (.slice A1 s1.length c1), pl 1 (.int .i64 v1), pl 5 (.int .i64 z1), pl 7 (.int .i64 (s1.length : Int)), pl 8 (.int .i64 z1), pl 16 (.bool (v1 == (geti s1 z1)))] hF hS Fol (by kernel_rfl) (by kernel_rfl) (by kernel_rfl) ?_ (fun a w hF hS => ?_)
        · exact obs_cons (ob_ix1 (f := (Value.int .i64)) (m := s1) Und22 hi3 hs3 (hr_s1 _ (hS.dropN 0)) rfl (fun _ => hp1)) <| obs_cons (ob_get1 (n := s1.length) (m := s1) (Value.int .i64) (0 : Int) Agg3 (fun _ hS => ⟨_, (hr_s1 _ (hS.dropN 0))⟩) (fun _ hS => rfl) (fun _ => hp1)) <| obs_nil
        refine cond_ev (t := 16) (b := (v1 == (geti s1 z1))) hF (by kernel_rfl) (fun hb => ?_) (fun hb => ?_)
        · replace hm := if_t hm hb
          refine reg [] [] [4] [pl 4 (.int .i64 z1)] hF hS Fol (by kernel_rfl) (by kernel_rfl) (by kernel_rfl) ?_ (fun a w hF hS => ?_)
          · exact obs_nil
          refine wp_ret ?_
          refine block_r (then_r (then_r (block_r (then_r ?_))))
          rw [← hφ1] at hm
          replace hm := done_b hm
          unfold slices_Index_K1 at hm
          try dsimp only at hm
          have hm : some z1 = some r := hm
          obtain rfl := Option.some.inj hm
          exact retV (rs := [.tmp 4]) (vs := [.int .i64 z1]) hF rfl (rv_t (by kernel_rfl) <| rv_nil) rfl ⟨rfl, hS⟩
        · replace hm := if_f hm hb
          refine wp_skip ?_
          refine block_n ?_
          refine then_n ?_
          exact ⟨hF.weak [0, 1, 7, 8] (by kernel_rfl), hS, hm⟩
    · refine cond_ev (t := 9) (b := decide (z1 < (s1.length : Int))) hF (by kernel_rfl) (fun hb => ?_) (fun hb => ?_)
      · replace hm := if_t hm hb
        refine wp_skip ?_
        refine then_n ?_
        exact ⟨hF.weak [0, 1, 7, 8] (by kernel_rfl), hS, hm⟩
      · replace hm := if_f hm hb
        refine wp_exit ?_
        refine then_e (then_e (block_e (then_n ?_)))
        rw [← hφ1] at hm
        replace hm := done_b hm
        unfold slices_Index_K1 at hm
        try dsimp only at hm
        have hm : (slices_Index_J1).bind some = some r := hm
        exact ⟨hF.weak [] (by kernel_rfl), hS, hm⟩

noncomputable def slide_newTray_J1 (g1 : Int) (g2 : Int) (r1 : (List Int)) (z1 : Int) : Option (Int × Int × List Int × Int) :=
  some (g1, g2, r1, z1)

noncomputable def slide_newTray_m (g1 : Int) (g2 : Int) (g3 : List Int) : Option (Int × Int × List Int × Int) :=
  (slices_Clone_m g3).bind fun r1 => (slices_Index_m r1 0).bind fun r2 => (slide_newTray_J1 g1 g2 r1) r2

set_option maxRecDepth 100000 in
set_option maxHeartbeats 4000000 in
theorem slide_newTray_w {g1 : Int} {g2 : Int} {A1 : Option Addr} {c1 : Nat} {n1 : Nat} {g3 : List Int} {r : (Int × Int × List Int × Int)} {w0 w : World} {B : Nat} {fs : List HP} (hm : slide_newTray_m g1 g2 g3 = some r) (hS : Sep w0 B w (fs)) (hr_g3 : RdF w0 B fs A1 (vI g3)) (_hc_g3 : g3.length ≤ c1) (_hn_g3 : n1 = g3.length) :
    Calls Try.prog 110 #[.agg #[.int .i64 g1, .int .i64 g2, .slice A1 n1 c1]] w fun e w' => ∃ v, e = .returned v ∧ ∃ (g7 : Nat) (A3 : Option Addr) (c3 : Nat), v = .pointer (some ⟨g7, 0, none⟩) ∧ Sep w0 B w' (blk g7 140 #[.int .i64 r.1, .int .i64 r.2.1, .slice A3 r.2.2.1.length c3, .int .i64 r.2.2.2] :: own 3 (.slice A3 r.2.2.1.length c3) (vI r.2.2.1) :: fs) := by
  obtain ⟨i3, hi3, hz3, hs3, hb3⟩ := info_parts Info3
  obtain ⟨i22, hi22, hz22, hs22, hb22⟩ := info_parts Info22
  obtain rfl := _hn_g3
  unfold slide_newTray_m at hm
  replace hm := start_b hm
  refine enter (l := [.agg #[.int .i64 g1, .int .i64 g2, .slice A1 g3.length c1]]) (n := 13) Try.func110 rfl rfl (by simp) (fun a hF => ?_)
  refine seqR ?_
  refine at_do (d := 1) (s := vS (Instr.box 41 (.agg #[.int .i64 g1, .int .i64 g2, .slice A1 g3.length c1]))) (v := .pointer (some ⟨w.heap.size, 0, none⟩)) (w' := w.alloc (.cells #[.int .i64 g1, .int .i64 g2, .slice A1 g3.length c1] 41)) hF (by kernel_rfl) (by kernel_rfl) (by kernel_rfl) (fun a hF => ?_)
  have hS : Sep w0 B (w.alloc (.cells #[.int .i64 g1, .int .i64 g2, .slice A1 g3.length c1] 41)) (blk w.heap.size 41 #[.int .i64 g1, .int .i64 g2, .slice A1 g3.length c1] :: (fs)) := hS.box 41 #[.int .i64 g1, .int .i64 g2, .slice A1 g3.length c1]
  generalize w.heap.size = g4 at hF hS
  generalize w.alloc (.cells #[.int .i64 g1, .int .i64 g2, .slice A1 g3.length c1] 41) = w at hS ⊢
  refine at_run 1 [] [] [1] [pl 1 (.pointer (some ⟨g4, 0, none⟩))] hF hS (by kernel_rfl) (by kernel_rfl) ?_ (fun a w hF hS => ?_)
  · exact obs_nil
  refine at_end [1] [pl 1 (.pointer (some ⟨g4, 0, none⟩))] hF rfl (by kernel_rfl) (fun hF => ?_)
  refine then_n ?_
  refine seqR ?_
  obtain ⟨r1, hr1, hm⟩ := call_b hm
  refine at_run 2 [⟨false, [], vS (Instr.loadAt 22 (.pointer (some ⟨g4, 2, none⟩))), .slice A1 g3.length c1⟩] [none, some (.slice A1 g3.length c1)] [1, 4] [pl 1 (.pointer (some ⟨g4, 0, none⟩)), pl 4 (.slice A1 g3.length c1)] hF hS (by kernel_rfl) (by kernel_rfl) ?_ (fun a w hF hS => ?_)
  · exact obs_cons (ob_load Agg22 (fun _ _ hS => (hS.at_ 0 rfl).cell rfl)) <| obs_nil
  refine at_call (f := 101) (args := #[.slice A1 g3.length c1]) (d := 5) hF (by kernel_rfl) (by kernel_rfl) Try.func101 (by kernel_rfl) rfl (slices_Clone_w hr1 hS (fun _ hS => (hr_g3 _ (hS.dropN 1))) _hc_g3 rfl) (fun v a w hR hF => ?_)
  clear hS
  obtain ⟨A2, c2, rfl, hS⟩ := hR
  have hS : Sep w0 B w (own 3 (.slice A2 r1.length c2) (vI r1) :: blk g4 41 #[.int .i64 g1, .int .i64 g2, .slice A1 g3.length c1] :: fs) := hS
  refine at_run 1 [] [] [1, 5, 6] [pl 1 (.pointer (some ⟨g4, 0, none⟩)), pl 5 (.slice A2 r1.length c2), pl 6 (.pointer (some ⟨g4, 2, none⟩))] hF hS (by kernel_rfl) (by kernel_rfl) ?_ (fun a w hF hS => ?_)
  · exact obs_nil
  obtain ⟨w, hrun, hS⟩ := run_put (P := Try.prog) (t := 22) (u := .slice A2 r1.length c2) (i := 2) (hS.at_ 1 rfl) hi22 hs22 rfl (Nat.lt_of_lt_of_eq (Nat.lt_of_succ_le (Nat.le_of_ble_eq_true (by kernel_rfl))) rfl)
  refine at_skip hF (by kernel_rfl) hrun ?_
  have hS : Sep w0 B w (own 3 (.slice A2 r1.length c2) (vI r1) :: blk g4 41 #[.int .i64 g1, .int .i64 g2, .slice A2 r1.length c2] :: fs) := hS
  refine at_end [1] [pl 1 (.pointer (some ⟨g4, 0, none⟩))] hF rfl (by kernel_rfl) (fun hF => ?_)
  refine then_n ?_
  refine seq_cut (fun a w => ∃ (z1 : Int) (g6 : Nat), Fr 13 [pl 2 (.pointer (some ⟨g6, 0, none⟩))] a ∧ Sep w0 B w (blk g6 140 #[.int .i64 g1, .int .i64 g2, .slice A2 r1.length c2, .int .i64 z1] :: own 3 (.slice A2 r1.length c2) (vI r1) :: fs) ∧ ((slide_newTray_J1 g1 g2 r1) z1).bind some = some r) ?_ ?_
  · rintro a w ⟨z1, g6, hF, hS, hm⟩
    unfold slide_newTray_J1 at hm
    refine wp_ret ?_
    have hm : some (g1, g2, r1, z1) = some r := hm
    obtain rfl := Option.some.inj hm
    exact retV (rs := [.tmp 2]) (vs := [.pointer (some ⟨g6, 0, none⟩)]) hF rfl (rv_t (by kernel_rfl) <| rv_nil) rfl ⟨_, rfl, g6, A2, c2, rfl, hS⟩
  · obtain ⟨r2, hr2, hm⟩ := call_b hm
    refine regMix5 [0, 1, 2] [] 4 #[true, true, true, false, false, false, false] [⟨false, [], vS (Instr.loadAt 41 (.pointer (some ⟨g4, 0, none⟩))), .agg #[.int .i64 g1, .int .i64 g2, .slice A2 r1.length c2]⟩, ⟨false, [], vS (Instr.loadAt 22 (.pointer (some ⟨g4, 2, none⟩))), .slice A2 r1.length c2⟩] [some (.agg #[.int .i64 g1, .int .i64 g2, .slice A2 r1.length c2]), none, some (.slice A2 r1.length c2)] [7, 9] [pl 7 (.agg #[.int .i64 g1, .int .i64 g2, .slice A2 r1.length c2]), pl 9 (.slice A2 r1.length c2)] hF hS Fol (by kernel_rfl) (by kernel_rfl) (by kernel_rfl) (by kernel_rfl) ?_ (fun a w hF hS => ?_)
    · exact obs_cons (ob_loadA (cs := #[.int .i64 g1, .int .i64 g2, .slice A2 r1.length c2]) (by kernel_rfl) (by kernel_rfl) (fun _ _ hS => (hS.at_ 1 rfl).cellsAt 0 (by rfl))) <| obs_cons (ob_load Agg22 (fun _ _ hS => (hS.at_ 1 rfl).cell rfl)) <| obs_nil
    refine any_step [3] (by kernel_rfl) rfl ?_
    refine (all_cons ?_ all_nil)
    · refine any_op (listed' := #[true, true, true, true, false, false, false]) (by kernel_rfl) (by kernel_rfl) ?_
      refine at_run 1 [⟨false, [], callFunc 85 #[.slice A2 r1.length c2, .int .i64 0], .int .i64 r2⟩] [some (.int .i64 r2)] [7, 10] [pl 7 (.agg #[.int .i64 g1, .int .i64 g2, .slice A2 r1.length c2]), pl 10 (.int .i64 r2)] hF hS (by kernel_rfl) (by kernel_rfl) ?_ (fun a w hF hS => ?_)
      · exact obs_cons (ob_call Try.func85 (by kernel_rfl) rfl (fun _ _ hS => slices_Index_w hr2 hS (fun _ hS => (hS.at_ 0 rfl).rd) ((hS.at_ 0 rfl).cap1) rfl)) <| obs_nil
      refine any_fin rfl hS ?_
      refine any_step [4] (by kernel_rfl) rfl ?_
      refine (all_cons ?_ all_nil)
      · refine any_op (listed' := #[true, true, true, true, true, false, false]) (by kernel_rfl) (by kernel_rfl) ?_
        refine at_runW 1 [] [] [11] [pl 11 (.agg #[.int .i64 g1, .int .i64 g2, .slice A2 r1.length c2, .int .i64 r2])] hF hS (by kernel_rfl) (by kernel_rfl) ?_ (fun a hF => ?_)
        · exact obs_nil
        refine any_finI rfl (fun h => h) ?_
        refine any_step [5] (by kernel_rfl) rfl ?_
        refine (all_cons ?_ all_nil)
        · refine any_op (listed' := #[true, true, true, true, true, true, false]) (by kernel_rfl) (by kernel_rfl) ?_
          refine at_do (d := 12) (s := vS (Instr.box 140 (.agg #[.int .i64 g1, .int .i64 g2, .slice A2 r1.length c2, .int .i64 r2]))) (v := .pointer (some ⟨w.heap.size, 0, none⟩)) (w' := w.alloc (.cells #[.int .i64 g1, .int .i64 g2, .slice A2 r1.length c2, .int .i64 r2] 140)) hF (by kernel_rfl) (by kernel_rfl) (by kernel_rfl) (fun a hF => ?_)
          have hS : Sep w0 B (w.alloc (.cells #[.int .i64 g1, .int .i64 g2, .slice A2 r1.length c2, .int .i64 r2] 140)) (blk w.heap.size 140 #[.int .i64 g1, .int .i64 g2, .slice A2 r1.length c2, .int .i64 r2] :: (own 3 (.slice A2 r1.length c2) (vI r1) :: blk g4 41 #[.int .i64 g1, .int .i64 g2, .slice A2 r1.length c2] :: fs)) := hS.box 140 #[.int .i64 g1, .int .i64 g2, .slice A2 r1.length c2, .int .i64 r2]
          generalize w.heap.size = g5 at hF hS
          generalize w.alloc (.cells #[.int .i64 g1, .int .i64 g2, .slice A2 r1.length c2, .int .i64 r2] 140) = w at hS ⊢
          refine any_fin rfl (hS.pickN 3 [1, 2] (by decide)) ?_
          refine any_step [6] (by kernel_rfl) rfl ?_
          refine (all_cons ?_ all_nil)
          · refine any_op (listed' := #[true, true, true, true, true, true, true]) (by kernel_rfl) (by kernel_rfl) ?_
            refine at_runW 1 [] [] [2] [pl 2 (.pointer (some ⟨g5, 0, none⟩))] hF hS (by kernel_rfl) (by kernel_rfl) ?_ (fun a hF => ?_)
            · exact obs_nil
            refine any_finI rfl (fun h => h) ?_
            refine any_end (by kernel_rfl) ?_
            refine np_n ?_
            refine then_n ?_
            have hS := hS.pickN 3 [0, 1] (by decide)
            exact ⟨r2, g5, hF.weak [2] (by kernel_rfl), hS, hm⟩

noncomputable def slide_tray_from_J2 (t_Grid_W1 : Int) (x1 : Int) (y1 : Int) : Option Int :=
  some (w64 ((w64 (y1 * t_Grid_W1)) + x1))

noncomputable def slide_tray_from_J1 (t_Grid_W1 : Int) (t_Grid_H1 : Int) (x1 : Int) (y1 : Int) : Option Int :=
  if ((((decide (x1 < 0)) || (decide (t_Grid_W1 ≤ x1))) || (decide (y1 < 0))) || (decide (t_Grid_H1 ≤ y1))) then (some (-1)) else ((slide_tray_from_J2 t_Grid_W1 x1 y1))

noncomputable def slide_tray_from_m (t_Grid_W1 : Int) (t_Grid_H1 : Int) (t_Grid_Cells1 : List Int) (t_gap1 : Int) (dir1 : Int) : Option Int :=
  asrt (t_Grid_W1 ≠ (0 : Int)) <| asrt (t_Grid_W1 ≠ (0 : Int)) <| if (dir1 == 0) then ((slide_tray_from_J1 t_Grid_W1 t_Grid_H1) (Int.tmod t_gap1 t_Grid_W1) (w64 ((w64 (Int.tdiv t_gap1 t_Grid_W1)) + 1))) else (if (dir1 == 1) then ((slide_tray_from_J1 t_Grid_W1 t_Grid_H1) (w64 ((Int.tmod t_gap1 t_Grid_W1) - 1)) (w64 (Int.tdiv t_gap1 t_Grid_W1))) else (if (dir1 == 2) then ((slide_tray_from_J1 t_Grid_W1 t_Grid_H1) (Int.tmod t_gap1 t_Grid_W1) (w64 ((w64 (Int.tdiv t_gap1 t_Grid_W1)) - 1))) else (if (dir1 == 3) then ((slide_tray_from_J1 t_Grid_W1 t_Grid_H1) (w64 ((Int.tmod t_gap1 t_Grid_W1) + 1)) (w64 (Int.tdiv t_gap1 t_Grid_W1))) else (some (-1)))))

set_option maxRecDepth 100000 in
set_option maxHeartbeats 4000000 in
theorem slide_tray_from_w {g1 : Nat} {t_Grid_W1 : Int} {t_Grid_H1 : Int} {A1 : Option Addr} {c1 : Nat} {n1 : Nat} {t_Grid_Cells1 : List Int} {t_gap1 : Int} {dir1 : Int} {r : Int} {w0 w : World} {B : Nat} {fs : List HP} (hm : slide_tray_from_m t_Grid_W1 t_Grid_H1 t_Grid_Cells1 t_gap1 dir1 = some r) (hS : Sep w0 B w (blk g1 140 #[.int .i64 t_Grid_W1, .int .i64 t_Grid_H1, .slice A1 n1 c1, .int .i64 t_gap1] :: own 3 (.slice A1 n1 c1) (vI t_Grid_Cells1) :: fs)) :
    Calls Try.prog 176 #[.pointer (some ⟨g1, 0, none⟩), .int .i64 dir1] w fun e w' => e = .returned (.int .i64 r) ∧ Sep w0 B w' (blk g1 140 #[.int .i64 t_Grid_W1, .int .i64 t_Grid_H1, .slice A1 n1 c1, .int .i64 t_gap1] :: own 3 (.slice A1 n1 c1) (vI t_Grid_Cells1) :: fs) := by
  obtain ⟨i3, hi3, hz3, hs3, hb3⟩ := info_parts Info3
  obtain rfl := (hS.at_ 1 rfl).len1
  unfold slide_tray_from_m at hm
  replace hm := start_b hm
  refine enter (l := [.pointer (some ⟨g1, 0, none⟩), .int .i64 dir1]) (n := 77) Try.func176 rfl rfl (by simp) (fun a hF => ?_)
  refine reg [] [] [0, 1] [pl 0 (.pointer (some ⟨g1, 0, none⟩)), pl 1 (.int .i64 dir1)] hF hS Fol (by kernel_rfl) (by kernel_rfl) (by kernel_rfl) ?_ (fun a w hF hS => ?_)
  · exact obs_nil
  obtain ⟨hp1, hm⟩ := asrt_b hm
  obtain ⟨hp2, hm⟩ := asrt_b hm
  refine reg [⟨false, [], vS (Instr.loadAt 3 (.pointer (some ⟨g1, 3, none⟩))), .int .i64 t_gap1⟩, ⟨false, [], vS (Instr.loadAt 3 (.pointer (some ⟨g1, 0, none⟩))), .int .i64 t_Grid_W1⟩, ⟨true, [], vS (Op.intDiv .rem .i64 t_gap1 t_Grid_W1), .int .i64 (Int.tmod t_gap1 t_Grid_W1)⟩, ⟨false, [], vS (Instr.loadAt 3 (.pointer (some ⟨g1, 3, none⟩))), .int .i64 t_gap1⟩, ⟨false, [], vS (Instr.loadAt 3 (.pointer (some ⟨g1, 0, none⟩))), .int .i64 t_Grid_W1⟩, ⟨true, [], vS (Op.intDiv .quo .i64 t_gap1 t_Grid_W1), .int .i64 (w64 (Int.tdiv t_gap1 t_Grid_W1))⟩] [none, none, none, some (.int .i64 t_gap1), none, none, none, none, some (.int .i64 t_Grid_W1), some (.int .i64 (Int.tmod t_gap1 t_Grid_W1)), none, none, none, some (.int .i64 t_gap1), none, none, none, none, some (.int .i64 t_Grid_W1), some (.int .i64 (w64 (Int.tdiv t_gap1 t_Grid_W1))), none, none] [0, 1, 5, 6] [pl 0 (.pointer (some ⟨g1, 0, none⟩)), pl 1 (.int .i64 dir1), pl 5 (.int .i64 (Int.tmod t_gap1 t_Grid_W1)), pl 6 (.int .i64 (w64 (Int.tdiv t_gap1 t_Grid_W1)))] hF hS Fol (by kernel_rfl) (by kernel_rfl) (by kernel_rfl) ?_ (fun a w hF hS => ?_)
  · exact obs_cons (ob_load Agg3 (fun _ _ hS => (hS.at_ 0 rfl).cell rfl)) <| obs_cons (ob_load Agg3 (fun _ _ hS => (hS.at_ 0 rfl).cell rfl)) <| obs_cons (ob_rem rfl (fun _ => hp1)) <| obs_cons (ob_load Agg3 (fun _ _ hS => (hS.at_ 0 rfl).cell rfl)) <| obs_cons (ob_load Agg3 (fun _ _ hS => (hS.at_ 0 rfl).cell rfl)) <| obs_cons (ob_quo rfl (fun _ => hp2)) <| obs_nil
  refine seq_cut (fun a w => ∃ (x1 : Int) (y1 : Int), Fr 77 [pl 0 (.pointer (some ⟨g1, 0, none⟩)), pl 5 (.int .i64 x1), pl 6 (.int .i64 y1)] a ∧ Sep w0 B w (blk g1 140 #[.int .i64 t_Grid_W1, .int .i64 t_Grid_H1, .slice A1 t_Grid_Cells1.length c1, .int .i64 t_gap1] :: own 3 (.slice A1 t_Grid_Cells1.length c1) (vI t_Grid_Cells1) :: fs) ∧ ((slide_tray_from_J1 t_Grid_W1 t_Grid_H1) x1 y1).bind some = some r) ?_ ?_
  · rintro a w ⟨x1, y1, hF, hS, hm⟩
    unfold slide_tray_from_J1 at hm
    refine seq_cut (fun a w => Fr 77 [pl 0 (.pointer (some ⟨g1, 0, none⟩)), pl 5 (.int .i64 x1), pl 6 (.int .i64 y1)] a ∧ Sep w0 B w (blk g1 140 #[.int .i64 t_Grid_W1, .int .i64 t_Grid_H1, .slice A1 t_Grid_Cells1.length c1, .int .i64 t_gap1] :: own 3 (.slice A1 t_Grid_Cells1.length c1) (vI t_Grid_Cells1) :: fs) ∧ ((slide_tray_from_J2 t_Grid_W1 x1 y1)).bind some = some r) ?_ ?_
    · rintro a w ⟨hF, hS, hm⟩
      unfold slide_tray_from_J2 at hm
      refine reg [⟨false, [], vS (Instr.loadAt 3 (.pointer (some ⟨g1, 0, none⟩))), .int .i64 t_Grid_W1⟩] [none, none, none, none, none, some (.int .i64 t_Grid_W1), none, none, none, none] [4] [pl 4 (.int .i64 (w64 ((w64 (y1 * t_Grid_W1)) + x1)))] hF hS Fol (by kernel_rfl) (by kernel_rfl) (by kernel_rfl) ?_ (fun a w hF hS => ?_)
      · exact obs_cons (ob_load Agg3 (fun _ _ hS => (hS.at_ 0 rfl).cell rfl)) <| obs_nil
      refine wp_ret ?_
      have hm : some (w64 ((w64 (y1 * t_Grid_W1)) + x1)) = some r := hm
      obtain rfl := Option.some.inj hm
      exact retV (rs := [.tmp 4]) (vs := [.int .i64 (w64 ((w64 (y1 * t_Grid_W1)) + x1))]) hF rfl (rv_t (by kernel_rfl) <| rv_nil) rfl ⟨rfl, hS⟩
    · refine reg [⟨false, [(decide (x1 < 0), false)], vS (Instr.loadAt 3 (.pointer (some ⟨g1, 0, none⟩))), .int .i64 t_Grid_W1⟩, ⟨false, [(((decide (x1 < 0)) || (decide (t_Grid_W1 ≤ x1))) || (decide (y1 < 0)), false)], vS (Instr.loadAt 3 (.pointer (some ⟨g1, 1, none⟩))), .int .i64 t_Grid_H1⟩] [none, none, none, none, none, none, none, none, some (.int .i64 t_Grid_W1), none, none, none, none, none, none, none, none, none, none, none, none, some (.int .i64 t_Grid_H1), none, none] [0, 5, 6, 67] [pl 0 (.pointer (some ⟨g1, 0, none⟩)), pl 5 (.int .i64 x1), pl 6 (.int .i64 y1), pl 67 (.bool ((((decide (x1 < 0)) || (decide (t_Grid_W1 ≤ x1))) || (decide (y1 < 0))) || (decide (t_Grid_H1 ≤ y1))))] hF hS Fol (by kernel_rfl) (by kernel_rfl) (by kernel_rfl) ?_ (fun a w hF hS => ?_)
      · exact obs_cons (ob_load Agg3 (fun _ _ hS => (hS.at_ 0 rfl).cell rfl)) <| obs_cons (ob_load Agg3 (fun _ _ hS => (hS.at_ 0 rfl).cell rfl)) <| obs_nil
      refine cond_ev (t := 67) (b := (((decide (x1 < 0)) || (decide (t_Grid_W1 ≤ x1))) || (decide (y1 < 0))) || (decide (t_Grid_H1 ≤ y1))) hF (by kernel_rfl) (fun hb => ?_) (fun hb => ?_)
      · replace hm := if_t hm hb
        refine reg [] [] [4] [pl 4 (.int .i64 (-1))] hF hS Fol (by kernel_rfl) (by kernel_rfl) (by kernel_rfl) ?_ (fun a w hF hS => ?_)
        · exact obs_nil
        refine wp_ret ?_
        refine then_r ?_
        have hm : some (-1) = some r := hm
        obtain rfl := Option.some.inj hm
        exact retV (rs := [.tmp 4]) (vs := [.int .i64 (-1)]) hF rfl (rv_t (by kernel_rfl) <| rv_nil) rfl ⟨rfl, hS⟩
      · replace hm := if_f hm hb
        refine wp_skip ?_
        refine then_n ?_
        exact ⟨hF.weak [0, 5, 6] (by kernel_rfl), hS, hm⟩
  · refine reg [] [] [0, 5, 6, 27] [pl 0 (.pointer (some ⟨g1, 0, none⟩)), pl 5 (.int .i64 (Int.tmod t_gap1 t_Grid_W1)), pl 6 (.int .i64 (w64 (Int.tdiv t_gap1 t_Grid_W1))), pl 27 (.int .i64 dir1)] hF hS Fol (by kernel_rfl) (by kernel_rfl) (by kernel_rfl) ?_ (fun a w hF hS => ?_)
    · exact obs_nil
    refine wp_block ?_
    refine reg [] [] [0, 5, 6, 27, 28] [pl 0 (.pointer (some ⟨g1, 0, none⟩)), pl 5 (.int .i64 (Int.tmod t_gap1 t_Grid_W1)), pl 6 (.int .i64 (w64 (Int.tdiv t_gap1 t_Grid_W1))), pl 27 (.int .i64 dir1), pl 28 (.bool (dir1 == 0))] hF hS Fol (by kernel_rfl) (by kernel_rfl) (by kernel_rfl) ?_ (fun a w hF hS => ?_)
    · exact obs_nil
    refine cond_ev (t := 28) (b := (dir1 == 0)) hF (by kernel_rfl) (fun hb => ?_) (fun hb => ?_)
    · replace hm := if_t hm hb
      refine reg1 [] [] [0, 5, 6] [pl 0 (.pointer (some ⟨g1, 0, none⟩)), pl 5 (.int .i64 (Int.tmod t_gap1 t_Grid_W1)), pl 6 (.int .i64 (w64 ((w64 (Int.tdiv t_gap1 t_Grid_W1)) + 1)))] hF hS Fol (by kernel_rfl) (by kernel_rfl) (by kernel_rfl) ?_ (fun a w hF hS => ?_)
      · exact obs_nil
      refine block_n ?_
      refine then_n ?_
      exact ⟨(Int.tmod t_gap1 t_Grid_W1), (w64 ((w64 (Int.tdiv t_gap1 t_Grid_W1)) + 1)), hF.weak [0, 5, 6] (by kernel_rfl), hS, hm⟩
    · replace hm := if_f hm hb
      refine reg [] [] [0, 5, 6, 27, 32] [pl 0 (.pointer (some ⟨g1, 0, none⟩)), pl 5 (.int .i64 (Int.tmod t_gap1 t_Grid_W1)), pl 6 (.int .i64 (w64 (Int.tdiv t_gap1 t_Grid_W1))), pl 27 (.int .i64 dir1), pl 32 (.bool (dir1 == 1))] hF hS Fol (by kernel_rfl) (by kernel_rfl) (by kernel_rfl) ?_ (fun a w hF hS => ?_)
      · exact obs_nil
      refine cond_ev (t := 32) (b := (dir1 == 1)) hF (by kernel_rfl) (fun hb => ?_) (fun hb => ?_)
      · replace hm := if_t hm hb
        refine reg1 [] [] [0, 5, 6] [pl 0 (.pointer (some ⟨g1, 0, none⟩)), pl 5 (.int .i64 (w64 ((Int.tmod t_gap1 t_Grid_W1) - 1))), pl 6 (.int .i64 (w64 (Int.tdiv t_gap1 t_Grid_W1)))] hF hS Fol (by kernel_rfl) (by kernel_rfl) (by kernel_rfl) ?_ (fun a w hF hS => ?_)
        · exact obs_nil
        refine block_n ?_
        refine then_n ?_
        exact ⟨(w64 ((Int.tmod t_gap1 t_Grid_W1) - 1)), (w64 (Int.tdiv t_gap1 t_Grid_W1)), hF.weak [0, 5, 6] (by kernel_rfl), hS, hm⟩
      · replace hm := if_f hm hb
        refine reg [] [] [0, 5, 6, 27, 36] [pl 0 (.pointer (some ⟨g1, 0, none⟩)), pl 5 (.int .i64 (Int.tmod t_gap1 t_Grid_W1)), pl 6 (.int .i64 (w64 (Int.tdiv t_gap1 t_Grid_W1))), pl 27 (.int .i64 dir1), pl 36 (.bool (dir1 == 2))] hF hS Fol (by kernel_rfl) (by kernel_rfl) (by kernel_rfl) ?_ (fun a w hF hS => ?_)
        · exact obs_nil
        refine cond_ev (t := 36) (b := (dir1 == 2)) hF (by kernel_rfl) (fun hb => ?_) (fun hb => ?_)
        · replace hm := if_t hm hb
          refine reg1 [] [] [0, 5, 6] [pl 0 (.pointer (some ⟨g1, 0, none⟩)), pl 5 (.int .i64 (Int.tmod t_gap1 t_Grid_W1)), pl 6 (.int .i64 (w64 ((w64 (Int.tdiv t_gap1 t_Grid_W1)) - 1)))] hF hS Fol (by kernel_rfl) (by kernel_rfl) (by kernel_rfl) ?_ (fun a w hF hS => ?_)
          · exact obs_nil
          refine block_n ?_
          refine then_n ?_
          exact ⟨(Int.tmod t_gap1 t_Grid_W1), (w64 ((w64 (Int.tdiv t_gap1 t_Grid_W1)) - 1)), hF.weak [0, 5, 6] (by kernel_rfl), hS, hm⟩
        · replace hm := if_f hm hb
          refine reg [] [] [0, 5, 6, 40] [pl 0 (.pointer (some ⟨g1, 0, none⟩)), pl 5 (.int .i64 (Int.tmod t_gap1 t_Grid_W1)), pl 6 (.int .i64 (w64 (Int.tdiv t_gap1 t_Grid_W1))), pl 40 (.bool (dir1 == 3))] hF hS Fol (by kernel_rfl) (by kernel_rfl) (by kernel_rfl) ?_ (fun a w hF hS => ?_)
          · exact obs_nil
          refine cond_ev (t := 40) (b := (dir1 == 3)) hF (by kernel_rfl) (fun hb => ?_) (fun hb => ?_)
          · replace hm := if_t hm hb
            refine reg1 [] [] [0, 5, 6] [pl 0 (.pointer (some ⟨g1, 0, none⟩)), pl 5 (.int .i64 (w64 ((Int.tmod t_gap1 t_Grid_W1) + 1))), pl 6 (.int .i64 (w64 (Int.tdiv t_gap1 t_Grid_W1)))] hF hS Fol (by kernel_rfl) (by kernel_rfl) (by kernel_rfl) ?_ (fun a w hF hS => ?_)
            · exact obs_nil
            refine block_n ?_
            refine then_n ?_
            exact ⟨(w64 ((Int.tmod t_gap1 t_Grid_W1) + 1)), (w64 (Int.tdiv t_gap1 t_Grid_W1)), hF.weak [0, 5, 6] (by kernel_rfl), hS, hm⟩
          · replace hm := if_f hm hb
            refine reg [] [] [4] [pl 4 (.int .i64 (-1))] hF hS Fol (by kernel_rfl) (by kernel_rfl) (by kernel_rfl) ?_ (fun a w hF hS => ?_)
            · exact obs_nil
            refine wp_ret ?_
            refine block_r (then_r ?_)
            have hm : some (-1) = some r := hm
            obtain rfl := Option.some.inj hm
            exact retV (rs := [.tmp 4]) (vs := [.int .i64 (-1)]) hF rfl (rv_t (by kernel_rfl) <| rv_nil) rfl ⟨rfl, hS⟩

noncomputable def slide_tray_move_J1 (t_Grid_Cells1 : List Int) (t_gap1 : Int) (r1 : Int) : Option (Bool × List Int × Int) :=
  asrt (0 ≤ r1 ∧ r1 < (t_Grid_Cells1.length : Int)) <| asrt (0 ≤ t_gap1 ∧ t_gap1 < (t_Grid_Cells1.length : Int)) <| asrt (0 ≤ r1 ∧ r1 < (t_Grid_Cells1.length : Int)) <| some (true, ((t_Grid_Cells1.set (Int.toNat t_gap1) (geti t_Grid_Cells1 r1)).set (Int.toNat r1) 0), r1)

noncomputable def slide_tray_move_m (t_Grid_W1 : Int) (t_Grid_H1 : Int) (t_Grid_Cells1 : List Int) (t_gap1 : Int) (dir1 : Int) : Option (Bool × List Int × Int) :=
  (slide_tray_from_m t_Grid_W1 t_Grid_H1 t_Grid_Cells1 t_gap1 dir1).bind fun r1 => if (decide (r1 < 0)) then (some (false, t_Grid_Cells1, t_gap1)) else ((slide_tray_move_J1 t_Grid_Cells1 t_gap1 r1))

set_option maxRecDepth 100000 in
set_option maxHeartbeats 4000000 in
theorem slide_tray_move_w {g1 : Nat} {t_Grid_W1 : Int} {t_Grid_H1 : Int} {A1 : Option Addr} {c1 : Nat} {n1 : Nat} {t_Grid_Cells1 : List Int} {t_gap1 : Int} {dir1 : Int} {r : (Bool × List Int × Int)} {w0 w : World} {B : Nat} {fs : List HP} (hm : slide_tray_move_m t_Grid_W1 t_Grid_H1 t_Grid_Cells1 t_gap1 dir1 = some r) (hS : Sep w0 B w (blk g1 140 #[.int .i64 t_Grid_W1, .int .i64 t_Grid_H1, .slice A1 n1 c1, .int .i64 t_gap1] :: own 3 (.slice A1 n1 c1) (vI t_Grid_Cells1) :: fs)) :
    Calls Try.prog 111 #[.pointer (some ⟨g1, 0, none⟩), .int .i64 dir1] w fun e w' => ∃ v, e = .returned v ∧ v = .bool r.1 ∧ Sep w0 B w' (blk g1 140 #[.int .i64 t_Grid_W1, .int .i64 t_Grid_H1, .slice A1 n1 c1, .int .i64 r.2.2] :: own 3 (.slice A1 n1 c1) (vI r.2.1) :: fs) := by
  obtain ⟨i3, hi3, hz3, hs3, hb3⟩ := info_parts Info3
  obtain rfl := (hS.at_ 1 rfl).len1
  unfold slide_tray_move_m at hm
  replace hm := start_b hm
  refine enter (l := [.pointer (some ⟨g1, 0, none⟩), .int .i64 dir1]) (n := 40) Try.func111 rfl rfl (by simp) (fun a hF => ?_)
  refine reg [] [] [0, 1] [pl 0 (.pointer (some ⟨g1, 0, none⟩)), pl 1 (.int .i64 dir1)] hF hS Fol (by kernel_rfl) (by kernel_rfl) (by kernel_rfl) ?_ (fun a w hF hS => ?_)
  · exact obs_nil
  obtain ⟨r1, hr1, hm⟩ := call_b hm
  refine reg [⟨false, [], callFunc 176 #[.pointer (some ⟨g1, 0, none⟩), .int .i64 dir1], .int .i64 r1⟩] [none, none, some (.int .i64 r1), none] [0, 5] [pl 0 (.pointer (some ⟨g1, 0, none⟩)), pl 5 (.int .i64 r1)] hF hS Fol (by kernel_rfl) (by kernel_rfl) (by kernel_rfl) ?_ (fun a w hF hS => ?_)
  · exact obs_cons (ob_call Try.func176 (by kernel_rfl) rfl (fun _ _ hS => slide_tray_from_w hr1 hS )) <| obs_nil
  refine seq_cut (fun a w => Fr 40 [pl 0 (.pointer (some ⟨g1, 0, none⟩)), pl 5 (.int .i64 r1)] a ∧ Sep w0 B w (blk g1 140 #[.int .i64 t_Grid_W1, .int .i64 t_Grid_H1, .slice A1 t_Grid_Cells1.length c1, .int .i64 t_gap1] :: own 3 (.slice A1 t_Grid_Cells1.length c1) (vI t_Grid_Cells1) :: fs) ∧ ((slide_tray_move_J1 t_Grid_Cells1 t_gap1 r1)).bind some = some r) ?_ ?_
  · rintro a w ⟨hF, hS, hm⟩
    unfold slide_tray_move_J1 at hm
    refine wp_seq ?_
    obtain ⟨hp1, hm⟩ := asrt_b hm
    obtain ⟨hp2, hm⟩ := asrt_b hm
    obtain ⟨hp3, hm⟩ := asrt_b hm
    refine regMix4 [0, 1, 2, 3, 4, 5, 6, 7, 8, 9, 10, 11, 12, 13, 14, 15, 16, 17, 18, 19, 20, 21, 22, 23] [24, 25, 26] [⟨false, [], vS (Instr.loadAt 22 (.pointer (some ⟨g1, 2, none⟩))), .slice A1 t_Grid_Cells1.length c1⟩, ⟨false, [], vS (Instr.loadAt 3 (.pointer (some ⟨g1, 3, none⟩))), .int .i64 t_gap1⟩, ⟨false, [], vS (Instr.loadAt 22 (.pointer (some ⟨g1, 2, none⟩))), .slice A1 t_Grid_Cells1.length c1⟩, ⟨false, [], vS (Instr.loadAt 22 (.pointer (some ⟨g1, 2, none⟩))), .slice A1 t_Grid_Cells1.length c1⟩, ⟨true, [], vS (Instr.indexAt 22 (.slice A1 t_Grid_Cells1.length c1) (.int .i64 r1)), .pointer (some (sAddr A1 r1))⟩, ⟨false, [], vS (Instr.loadAt 3 (.pointer (some (sAddr A1 r1)))), .int .i64 (geti t_Grid_Cells1 r1)⟩, ⟨true, [], vS (Instr.indexAt 22 (.slice A1 t_Grid_Cells1.length c1) (.int .i64 t_gap1)), .pointer (some (sAddr A1 t_gap1))⟩] [none, none, none, none, some (.slice A1 t_Grid_Cells1.length c1), none, none, none, some (.int .i64 t_gap1), none, none, none, none, some (.slice A1 t_Grid_Cells1.length c1), none, none, none, none, none, some (.slice A1 t_Grid_Cells1.length c1), none, some (.pointer (some (sAddr A1 r1))), some (.int .i64 (geti t_Grid_Cells1 r1)), some (.pointer (some (sAddr A1 t_gap1)))] [0, 5, 24, 25, 33, 34] [pl 0 (.pointer (some ⟨g1, 0, none⟩)), pl 5 (.int .i64 r1), pl 24 (.slice A1 t_Grid_Cells1.length c1), pl 25 (.int .i64 r1), pl 33 (.int .i64 (geti t_Grid_Cells1 r1)), pl 34 (.pointer (some (sAddr A1 t_gap1)))] hF hS Fol (by kernel_rfl) (by kernel_rfl) (by kernel_rfl) (by kernel_rfl) (by kernel_rfl) ?_ (fun a w hF hS => ?_)
    · exact obs_cons (ob_load Agg22 (fun _ _ hS => (hS.at_ 0 rfl).cell rfl)) <| obs_cons (ob_load Agg3 (fun _ _ hS => (hS.at_ 0 rfl).cell rfl)) <| obs_cons (ob_load Agg22 (fun _ _ hS => (hS.at_ 0 rfl).cell rfl)) <| obs_cons (ob_load Agg22 (fun _ _ hS => (hS.at_ 0 rfl).cell rfl)) <| obs_cons (ob_ix1 (f := (Value.int .i64)) (m := t_Grid_Cells1) Und22 hi3 hs3 (hS.at_ 1 rfl).rd rfl (fun _ => hp1)) <| obs_cons (ob_get1 (n := t_Grid_Cells1.length) (m := t_Grid_Cells1) (Value.int .i64) (0 : Int) Agg3 (fun _ hS => ⟨_, (hS.at_ 1 rfl).rd⟩) (fun _ hS => rfl) (fun _ => hp1)) <| obs_cons (ob_ix1 (f := (Value.int .i64)) (m := t_Grid_Cells1) Und22 hi3 hs3 (hS.at_ 1 rfl).rd rfl (fun _ => hp2)) <| obs_nil
    obtain ⟨w, hrun, hS⟩ := run_set1 (P := Try.prog) (t := 3) (x := (geti t_Grid_Cells1 r1)) (Value.int .i64) (hS.at_ 1 rfl) hi3 hs3 rfl rfl hp2
    refine at_skip hF (by kernel_rfl) hrun ?_
    have hS : Sep w0 B w (blk g1 140 #[.int .i64 t_Grid_W1, .int .i64 t_Grid_H1, .slice A1 t_Grid_Cells1.length c1, .int .i64 t_gap1] :: own 3 (.slice A1 t_Grid_Cells1.length c1) (vI (t_Grid_Cells1.set (Int.toNat t_gap1) (geti t_Grid_Cells1 r1))) :: fs) := hS
    refine at_run 1 [⟨true, [], vS (Instr.indexAt 22 (.slice A1 t_Grid_Cells1.length c1) (.int .i64 r1)), .pointer (some (sAddr A1 r1))⟩] [some (.pointer (some (sAddr A1 r1)))] [0, 5, 35] [pl 0 (.pointer (some ⟨g1, 0, none⟩)), pl 5 (.int .i64 r1), pl 35 (.pointer (some (sAddr A1 r1)))] hF hS (by kernel_rfl) (by kernel_rfl) ?_ (fun a w hF hS => ?_)
    · exact obs_cons (ob_ix1 (f := (Value.int .i64)) (m := (t_Grid_Cells1.set (Int.toNat t_gap1) (geti t_Grid_Cells1 r1))) Und22 hi3 hs3 (hS.at_ 1 rfl).rd ((hS.at_ 1 rfl).len1) (fun _ => hp3)) <| obs_nil
    obtain ⟨w, hrun, hS⟩ := run_set1 (P := Try.prog) (t := 3) (x := 0) (Value.int .i64) (hS.at_ 1 rfl) hi3 hs3 rfl rfl hp3
    refine at_skip hF (by kernel_rfl) hrun ?_
    have hS : Sep w0 B w (blk g1 140 #[.int .i64 t_Grid_W1, .int .i64 t_Grid_H1, .slice A1 t_Grid_Cells1.length c1, .int .i64 t_gap1] :: own 3 (.slice A1 t_Grid_Cells1.length c1) (vI ((t_Grid_Cells1.set (Int.toNat t_gap1) (geti t_Grid_Cells1 r1)).set (Int.toNat r1) 0)) :: fs) := hS
    refine at_end [0, 5] [pl 0 (.pointer (some ⟨g1, 0, none⟩)), pl 5 (.int .i64 r1)] hF rfl (by kernel_rfl) (fun hF => ?_)
    refine np_n ?_
    refine then_n ?_
    refine seqR ?_
    refine at_run 4 [] [] [37, 39] [pl 37 (.int .i64 r1), pl 39 (.pointer (some ⟨g1, 3, none⟩))] hF hS (by kernel_rfl) (by kernel_rfl) ?_ (fun a w hF hS => ?_)
    · exact obs_nil
    obtain ⟨w, hrun, hS⟩ := run_put (P := Try.prog) (t := 3) (u := .int .i64 r1) (i := 3) (hS.at_ 0 rfl) hi3 hs3 rfl (Nat.lt_of_lt_of_eq (Nat.lt_of_succ_le (Nat.le_of_ble_eq_true (by kernel_rfl))) rfl)
    refine at_skip hF (by kernel_rfl) hrun ?_
    have hS : Sep w0 B w (blk g1 140 #[.int .i64 t_Grid_W1, .int .i64 t_Grid_H1, .slice A1 t_Grid_Cells1.length c1, .int .i64 r1] :: own 3 (.slice A1 t_Grid_Cells1.length c1) (vI ((t_Grid_Cells1.set (Int.toNat t_gap1) (geti t_Grid_Cells1 r1)).set (Int.toNat r1) 0)) :: fs) := hS
    refine at_end [] [] hF rfl (by kernel_rfl) (fun hF => ?_)
    refine then_n ?_
    refine reg [] [] [4] [pl 4 (.bool true)] hF hS Fol (by kernel_rfl) (by kernel_rfl) (by kernel_rfl) ?_ (fun a w hF hS => ?_)
    · exact obs_nil
    refine wp_ret ?_
    have hm : some (true, ((t_Grid_Cells1.set (Int.toNat t_gap1) (geti t_Grid_Cells1 r1)).set (Int.toNat r1) 0), r1) = some r := hm
    obtain rfl := Option.some.inj hm
    exact retV (rs := [.tmp 4]) (vs := [.bool true]) hF rfl (rv_t (by kernel_rfl) <| rv_nil) rfl ⟨_, rfl, rfl, hS⟩
  · refine reg [] [] [0, 5, 10] [pl 0 (.pointer (some ⟨g1, 0, none⟩)), pl 5 (.int .i64 r1), pl 10 (.bool (decide (r1 < 0)))] hF hS Fol (by kernel_rfl) (by kernel_rfl) (by kernel_rfl) ?_ (fun a w hF hS => ?_)
    · exact obs_nil
    refine cond_ev (t := 10) (b := decide (r1 < 0)) hF (by kernel_rfl) (fun hb => ?_) (fun hb => ?_)
    · replace hm := if_t hm hb
      refine reg [] [] [4] [pl 4 (.bool false)] hF hS Fol (by kernel_rfl) (by kernel_rfl) (by kernel_rfl) ?_ (fun a w hF hS => ?_)
      · exact obs_nil
      refine wp_ret ?_
      refine then_r ?_
      have hm : some (false, t_Grid_Cells1, t_gap1) = some r := hm
      obtain rfl := Option.some.inj hm
      exact retV (rs := [.tmp 4]) (vs := [.bool false]) hF rfl (rv_t (by kernel_rfl) <| rv_nil) rfl ⟨_, rfl, rfl, hS⟩
    · replace hm := if_f hm hb
      refine wp_skip ?_
      refine then_n ?_
      exact ⟨hF.weak [0, 5] (by kernel_rfl), hS, hm⟩

noncomputable def slide_Do_J4 (z1 : Int) (t5 : List Int) (t6 : Int) : Option (St (List Int × Int × Int) (Fl (List Int × Int) (Int × Int × List Int × Int × Int))) :=
  some (.next (t5, t6, (w64 (z1 + 1))))

noncomputable def slide_Do_J3 (l1 : List Int) (r2 : (Int × Int × List Int × Int)) (t1 : List Int) (t2 : Int) (z1 : Int) : Option (St (List Int × Int × Int) (Fl (List Int × Int) (Int × Int × List Int × Int × Int))) :=
  asrt (0 ≤ z1 ∧ z1 < (l1.length : Int)) <| (slide_tray_move_m r2.1 r2.2.1 t1 t2 (geti l1 z1)).bind fun r3 => if (!r3.1) then (some (.done (.ret (r2.1, r2.2.1, r3.2.1, z1, 8)))) else ((slide_Do_J4 z1) r3.2.1 r3.2.2)

noncomputable def slide_Do_J2 (l1 : List Int) (r2 : (Int × Int × List Int × Int)) (t3 : List Int) (t4 : Int) : Option (Int × Int × List Int × Int × Int) :=
  some (r2.1, r2.2.1, t3, (l1.length : Int), 0)

noncomputable def slide_Do_K1 (l1 : List Int) (r2 : (Int × Int × List Int × Int)) : (Fl (List Int × Int) (Int × Int × List Int × Int × Int)) → Option (Int × Int × List Int × Int × Int) :=
  fun (x : (Fl (List Int × Int) (Int × Int × List Int × Int × Int))) => match x with | .go (t3, t4) => (slide_Do_J2 l1 r2) t3 t4 | .ret x => some x

noncomputable def slide_Do_L1 (l1 : List Int) (r2 : (Int × Int × List Int × Int)) : (List Int × Int × Int) → Option (St (List Int × Int × Int) (Fl (List Int × Int) (Int × Int × List Int × Int × Int))) :=
  fun (x : (List Int × Int × Int)) => match x with | (t1, t2, z1) => if (decide (z1 < (l1.length : Int))) then ((slide_Do_J3 l1 r2 t1 t2 z1)) else (some (.done (.go (t1, t2))))

noncomputable def slide_Do_J1 (g1 : Int) (g2 : Int) (g3 : List Int) (l1 : List Int) : Option (Int × Int × List Int × Int × Int) :=
  (slide_newTray_m g1 g2 g3).bind fun r2 => (loop (slide_Do_L1 l1 r2) (r2.2.2.1, r2.2.2.2, 0)).bind (slide_Do_K1 l1 r2)

noncomputable def slide_Do_m (g1 : Int) (g2 : Int) (g3 : List Int) (l1 : List Int) : Option (Int × Int × List Int × Int × Int) :=
  (slide_May_m g1 g2 g3).bind fun r1 => if (!r1) then (some (0, 0, ([] : List Int), 0, 12)) else ((slide_Do_J1 g1 g2 g3 l1))

set_option maxRecDepth 100000 in
set_option maxHeartbeats 4000000 in
theorem slide_Do_w {g1 : Int} {g2 : Int} {A1 : Option Addr} {c1 : Nat} {n1 : Nat} {g3 : List Int} {A2 : Option Addr} {c2 : Nat} {n2 : Nat} {l1 : List Int} {r : (Int × Int × List Int × Int × Int)} {w0 w : World} {B : Nat} {fs : List HP} (hm : slide_Do_m g1 g2 g3 l1 = some r) (hS : Sep w0 B w (fs)) (hr_g3 : RdF w0 B fs A1 (vI g3)) (_hc_g3 : g3.length ≤ c1) (_hn_g3 : n1 = g3.length) (hr_l1 : RdF w0 B fs A2 (vI l1)) (_hc_l1 : l1.length ≤ c2) (_hn_l1 : n2 = l1.length) :
    Calls Try.prog 43 #[.agg #[.int .i64 g1, .int .i64 g2, .slice A1 n1 c1], .slice A2 n2 c2] w fun e w' => ∃ v, e = .returned v ∧ ∃ (A4 : Option Addr) (c4 : Nat), v = .tuple #[.agg #[.int .i64 r.1, .int .i64 r.2.1, .slice A4 r.2.2.1.length c4], .int .i64 r.2.2.2.1, .int .i64 r.2.2.2.2] ∧ Sep w0 B w' (own 3 (.slice A4 r.2.2.1.length c4) (vI r.2.2.1) :: fs) := by
  obtain ⟨i3, hi3, hz3, hs3, hb3⟩ := info_parts Info3
  obtain rfl := _hn_g3
  obtain rfl := _hn_l1
  unfold slide_Do_m at hm
  replace hm := start_b hm
  refine enter (l := [.agg #[.int .i64 g1, .int .i64 g2, .slice A1 g3.length c1], .slice A2 l1.length c2]) (n := 39) Try.func43 rfl rfl (by simp) (fun a hF => ?_)
  refine seqR ?_
  refine at_do (d := 2) (s := vS (Instr.box 41 (.agg #[.int .i64 g1, .int .i64 g2, .slice A1 g3.length c1]))) (v := .pointer (some ⟨w.heap.size, 0, none⟩)) (w' := w.alloc (.cells #[.int .i64 g1, .int .i64 g2, .slice A1 g3.length c1] 41)) hF (by kernel_rfl) (by kernel_rfl) (by kernel_rfl) (fun a hF => ?_)
  have hS : Sep w0 B (w.alloc (.cells #[.int .i64 g1, .int .i64 g2, .slice A1 g3.length c1] 41)) (blk w.heap.size 41 #[.int .i64 g1, .int .i64 g2, .slice A1 g3.length c1] :: (fs)) := hS.box 41 #[.int .i64 g1, .int .i64 g2, .slice A1 g3.length c1]
  generalize w.heap.size = g4 at hF hS
  generalize w.alloc (.cells #[.int .i64 g1, .int .i64 g2, .slice A1 g3.length c1] 41) = w at hS ⊢
  refine at_do (d := 4) (s := vS (Instr.alloc 41 true (.tuple #[]))) (v := .pointer (some ⟨w.heap.size, 0, none⟩)) (w' := w.alloc (.cells #[.int .i64 0, .int .i64 0, .slice none 0 0] 41)) hF (by kernel_rfl) (by kernel_rfl) (by kernel_rfl) (fun a hF => ?_)
  have hS : Sep w0 B (w.alloc (.cells #[.int .i64 0, .int .i64 0, .slice none 0 0] 41)) (blk w.heap.size 41 #[.int .i64 0, .int .i64 0, .slice none 0 0] :: (blk g4 41 #[.int .i64 g1, .int .i64 g2, .slice A1 g3.length c1] :: fs)) := hS.box 41 #[.int .i64 0, .int .i64 0, .slice none 0 0]
  generalize w.heap.size = g5 at hF hS
  generalize w.alloc (.cells #[.int .i64 0, .int .i64 0, .slice none 0 0] 41) = w at hS ⊢
  refine at_run 2 [] [] [1, 2, 4] [pl 1 (.slice A2 l1.length c2), pl 2 (.pointer (some ⟨g4, 0, none⟩)), pl 4 (.pointer (some ⟨g5, 0, none⟩))] hF hS (by kernel_rfl) (by kernel_rfl) ?_ (fun a w hF hS => ?_)
  · exact obs_nil
  refine at_end [1, 2, 4] [pl 1 (.slice A2 l1.length c2), pl 2 (.pointer (some ⟨g4, 0, none⟩)), pl 4 (.pointer (some ⟨g5, 0, none⟩))] hF rfl (by kernel_rfl) (fun hF => ?_)
  refine then_n ?_
  refine seq_cut (fun a w => Fr 39 [pl 1 (.slice A2 l1.length c2), pl 2 (.pointer (some ⟨g4, 0, none⟩)), pl 4 (.pointer (some ⟨g5, 0, none⟩))] a ∧ Sep w0 B w (blk g4 41 #[.int .i64 g1, .int .i64 g2, .slice A1 g3.length c1] :: blk g5 41 #[.int .i64 0, .int .i64 0, .slice none 0 0] :: fs) ∧ ((slide_Do_J1 g1 g2 g3 l1)).bind some = some r) ?_ ?_
  · rintro a w ⟨hF, hS, hm⟩
    unfold slide_Do_J1 at hm
    refine seqR ?_
    obtain ⟨r2, hr2, hm⟩ := call_b hm
    refine at_run 1 [⟨false, [], vS (Instr.loadAt 41 (.pointer (some ⟨g4, 0, none⟩))), .agg #[.int .i64 g1, .int .i64 g2, .slice A1 g3.length c1]⟩] [some (.agg #[.int .i64 g1, .int .i64 g2, .slice A1 g3.length c1])] [1, 4, 14] [pl 1 (.slice A2 l1.length c2), pl 4 (.pointer (some ⟨g5, 0, none⟩)), pl 14 (.agg #[.int .i64 g1, .int .i64 g2, .slice A1 g3.length c1])] hF hS (by kernel_rfl) (by kernel_rfl) ?_ (fun a w hF hS => ?_)
    · exact obs_cons (ob_loadA (cs := #[.int .i64 g1, .int .i64 g2, .slice A1 g3.length c1]) (by kernel_rfl) (by kernel_rfl) (fun _ _ hS => (hS.at_ 0 rfl).cellsAt 0 (by rfl))) <| obs_nil
    refine at_call (f := 110) (args := #[.agg #[.int .i64 g1, .int .i64 g2, .slice A1 g3.length c1]]) (d := 15) hF (by kernel_rfl) (by kernel_rfl) Try.func110 (by kernel_rfl) rfl (slide_newTray_w hr2 hS (fun _ hS => (hr_g3 _ (hS.dropN 2))) _hc_g3 rfl) (fun v a w hR hF => ?_)
    clear hS
    obtain ⟨g6, A3, c3, rfl, hS⟩ := hR
    have hS : Sep w0 B w (blk g6 140 #[.int .i64 r2.1, .int .i64 r2.2.1, .slice A3 r2.2.2.1.length c3, .int .i64 r2.2.2.2] :: own 3 (.slice A3 r2.2.2.1.length c3) (vI r2.2.2.1) :: blk g4 41 #[.int .i64 g1, .int .i64 g2, .slice A1 g3.length c1] :: blk g5 41 #[.int .i64 0, .int .i64 0, .slice none 0 0] :: fs) := hS
    refine at_run 1 [] [] [1, 4, 7] [pl 1 (.slice A2 l1.length c2), pl 4 (.pointer (some ⟨g5, 0, none⟩)), pl 7 (.pointer (some ⟨g6, 0, none⟩))] hF hS (by kernel_rfl) (by kernel_rfl) ?_ (fun a w hF hS => ?_)
    · exact obs_nil
    refine at_end [1, 4, 7] [pl 1 (.slice A2 l1.length c2), pl 4 (.pointer (some ⟨g5, 0, none⟩)), pl 7 (.pointer (some ⟨g6, 0, none⟩))] hF rfl (by kernel_rfl) (fun hF => ?_)
    refine then_n ?_
    refine seq_cut (fun a w => ∃ (t3 : List Int) (t4 : Int), Fr 39 [pl 1 (.slice A2 l1.length c2), pl 4 (.pointer (some ⟨g5, 0, none⟩)), pl 7 (.pointer (some ⟨g6, 0, none⟩))] a ∧ Sep w0 B w (blk g5 41 #[.int .i64 0, .int .i64 0, .slice none 0 0] :: blk g6 140 #[.int .i64 r2.1, .int .i64 r2.2.1, .slice A3 r2.2.2.1.length c3, .int .i64 t4] :: own 3 (.slice A3 r2.2.2.1.length c3) (vI t3) :: fs) ∧ ((slide_Do_J2 l1 r2) t3 t4).bind some = some r) ?_ ?_
    · rintro a w ⟨t3, t4, hF, hS, hm⟩
      unfold slide_Do_J2 at hm
      refine seqR ?_
      refine at_run 6 [⟨false, [], vS (Instr.loadAt 41 (.pointer (some ⟨g6, 0, none⟩))), .agg #[.int .i64 r2.1, .int .i64 r2.2.1, .slice A3 r2.2.2.1.length c3]⟩] [none, none, none, some (.agg #[.int .i64 r2.1, .int .i64 r2.2.1, .slice A3 r2.2.2.1.length c3]), none, none] [4, 36, 38] [pl 4 (.pointer (some ⟨g5, 0, none⟩)), pl 36 (.agg #[.int .i64 r2.1, .int .i64 r2.2.1, .slice A3 r2.2.2.1.length c3]), pl 38 (.int .i64 (l1.length : Int))] hF hS (by kernel_rfl) (by kernel_rfl) ?_ (fun a w hF hS => ?_)
      · exact obs_cons (ob_loadA (cs := #[.int .i64 r2.1, .int .i64 r2.2.1, .slice A3 r2.2.2.1.length c3]) (by kernel_rfl) (by kernel_rfl) (fun _ _ hS => (hS.at_ 1 rfl).cellsAt 0 (by rfl))) <| obs_nil
      obtain ⟨w, hrun, hS⟩ := run_putA (P := Try.prog) (t := 41) (us := #[.int .i64 r2.1, .int .i64 r2.2.1, .slice A3 r2.2.2.1.length c3]) (o := 0) (hS.at_ 0 rfl) (by kernel_rfl) (all_one (by kernel_rfl)) (Nat.le_of_ble_eq_true (by kernel_rfl))
      refine at_skip hF (by kernel_rfl) hrun ?_
      have hS : Sep w0 B w (blk g5 41 #[.int .i64 r2.1, .int .i64 r2.2.1, .slice A3 r2.2.2.1.length c3] :: blk g6 140 #[.int .i64 r2.1, .int .i64 r2.2.1, .slice A3 r2.2.2.1.length c3, .int .i64 t4] :: own 3 (.slice A3 r2.2.2.1.length c3) (vI t3) :: fs) := hS
      refine at_run 2 [] [] [4, 5, 6] [pl 4 (.pointer (some ⟨g5, 0, none⟩)), pl 5 (.int .i64 (l1.length : Int)), pl 6 (.int .i64 0)] hF hS (by kernel_rfl) (by kernel_rfl) ?_ (fun a w hF hS => ?_)
      · exact obs_nil
      refine at_end [4, 5, 6] [pl 4 (.pointer (some ⟨g5, 0, none⟩)), pl 5 (.int .i64 (l1.length : Int)), pl 6 (.int .i64 0)] hF rfl (by kernel_rfl) (fun hF => ?_)
      refine then_n ?_
      refine wp_ret ?_
      have hl3 := (hS.at_ 2 rfl).len1
      have hS := (hS.at_ 2 rfl).reN hl3
      have hS := (hS.at_ 0 rfl).reBlk (congrArg (fun k9 => (#[.int .i64 r2.1, .int .i64 r2.2.1, .slice A3 k9 c3] : Array Value)) hl3)
      have hS := (hS.at_ 1 rfl).reBlk (congrArg (fun k9 => (#[.int .i64 r2.1, .int .i64 r2.2.1, .slice A3 k9 c3, .int .i64 t4] : Array Value)) hl3)
      have hS : Sep w0 B w (blk g5 41 #[.int .i64 r2.1, .int .i64 r2.2.1, .slice A3 t3.length c3] :: blk g6 140 #[.int .i64 r2.1, .int .i64 r2.2.1, .slice A3 t3.length c3, .int .i64 t4] :: own 3 (.slice A3 t3.length c3) (vI t3) :: fs) := hS
      have hld0 := run_loadVarA (P := Try.prog) (t := 41) (cs := #[.int .i64 r2.1, .int .i64 r2.2.1, .slice A3 t3.length c3]) (by kernel_rfl) (by kernel_rfl) ((hS.at_ 0 rfl).cellsAt 0 (by rfl))
      have hS := hS.pickN 3 [2] (by decide)
      have hm : some (r2.1, r2.2.1, t3, (l1.length : Int), 0) = some r := hm
      obtain rfl := Option.some.inj hm
      exact retV (rs := [.cell 4 41, .tmp 5, .tmp 6]) (vs := [.agg #[.int .i64 r2.1, .int .i64 r2.2.1, .slice A3 t3.length c3], .int .i64 (l1.length : Int), .int .i64 0]) hF rfl (rv_c (by kernel_rfl) hld0 <| rv_t (by kernel_rfl) <| rv_t (by kernel_rfl) <| rv_nil) rfl ⟨_, rfl, A3, c3, rfl, hS⟩
    · refine reg [] [] [1, 4, 7, 16, 17, 18] [pl 1 (.slice A2 l1.length c2), pl 4 (.pointer (some ⟨g5, 0, none⟩)), pl 7 (.pointer (some ⟨g6, 0, none⟩)), pl 16 (.slice A2 l1.length c2), pl 17 (.int .i64 (l1.length : Int)), pl 18 (.int .i64 0)] hF hS Fol (by kernel_rfl) (by kernel_rfl) (by kernel_rfl) ?_ (fun a w hF hS => ?_)
      · exact obs_nil
      refine wp_block ?_
      have hS := hS.pickN 4 [3, 0, 1] (by decide)
      refine wp_loop_model (S := (List Int × Int × Int)) (R := (Fl (List Int × Int) (Int × Int × List Int × Int × Int))) (slide_Do_L1 l1 r2) (fun x => ((slide_Do_K1 l1 r2) x).bind some) r (fun (x : (List Int × Int × Int)) a w => Fr 39 [pl 1 (.slice A2 l1.length c2), pl 4 (.pointer (some ⟨g5, 0, none⟩)), pl 7 (.pointer (some ⟨g6, 0, none⟩)), pl 16 (.slice A2 l1.length c2), pl 17 (.int .i64 (l1.length : Int)), pl 18 (.int .i64 x.2.2)] a ∧ Sep w0 B w (blk g5 41 #[.int .i64 0, .int .i64 0, .slice none 0 0] :: blk g6 140 #[.int .i64 r2.1, .int .i64 r2.2.1, .slice A3 r2.2.2.1.length c3, .int .i64 x.2.1] :: own 3 (.slice A3 r2.2.2.1.length c3) (vI x.1) :: fs)) (assoc_b hm) ⟨hF.weak [1, 4, 7, 16, 17, 18] (by kernel_rfl), hS⟩ ?_
      clear hF hS hm
      rintro nn1 ⟨t1, t2, z1⟩ a w ⟨hF, hS⟩ hm
      generalize hφ1 : stK (slide_Do_L1 l1 r2) nn1 (fun x => ((slide_Do_K1 l1 r2) x).bind some) = φ1 at hm
      unfold slide_Do_L1 at hm
      dsimp only at hF hS hm
      refine reg [] [] [1, 4, 7, 16, 17, 18, 19] [pl 1 (.slice A2 l1.length c2), pl 4 (.pointer (some ⟨g5, 0, none⟩)), pl 7 (.pointer (some ⟨g6, 0, none⟩)), pl 16 (.slice A2 l1.length c2), pl 17 (.int .i64 (l1.length : Int)), pl 18 (.int .i64 z1), pl 19 (.bool (decide (z1 < (l1.length : Int))))] hF hS Fol (by kernel_rfl) (by kernel_rfl) (by kernel_rfl) ?_ (fun a w hF hS => ?_)
      · exact obs_nil
      refine seq_cut (fun a w => Fr 39 [pl 1 (.slice A2 l1.length c2), pl 4 (.pointer (some ⟨g5, 0, none⟩)), pl 7 (.pointer (some ⟨g6, 0, none⟩)), pl 16 (.slice A2 l1.length c2), pl 17 (.int .i64 (l1.length : Int)), pl 18 (.int .i64 z1)] a ∧ Sep w0 B w (blk g5 41 #[.int .i64 0, .int .i64 0, .slice none 0 0] :: blk g6 140 #[.int .i64 r2.1, .int .i64 r2.2.1, .slice A3 r2.2.2.1.length c3, .int .i64 t2] :: own 3 (.slice A3 r2.2.2.1.length c3) (vI t1) :: fs) ∧ ((slide_Do_J3 l1 r2 t1 t2 z1)).bind φ1 = some r) ?_ ?_
      · rintro a w ⟨hF, hS, hm⟩
        unfold slide_Do_J3 at hm
        refine seq_cut (fun a w => ∃ (t5 : List Int) (t6 : Int), Fr 39 [pl 1 (.slice A2 l1.length c2), pl 4 (.pointer (some ⟨g5, 0, none⟩)), pl 7 (.pointer (some ⟨g6, 0, none⟩)), pl 16 (.slice A2 l1.length c2), pl 17 (.int .i64 (l1.length : Int)), pl 18 (.int .i64 z1)] a ∧ Sep w0 B w (blk g5 41 #[.int .i64 0, .int .i64 0, .slice none 0 0] :: blk g6 140 #[.int .i64 r2.1, .int .i64 r2.2.1, .slice A3 r2.2.2.1.length c3, .int .i64 t6] :: own 3 (.slice A3 r2.2.2.1.length c3) (vI t5) :: fs) ∧ ((slide_Do_J4 z1) t5 t6).bind φ1 = some r) ?_ ?_
        · rintro a w ⟨t5, t6, hF, hS, hm⟩
          unfold slide_Do_J4 at hm
          refine reg1 [] [] [1, 4, 7, 16, 17, 18] [pl 1 (.slice A2 l1.length c2), pl 4 (.pointer (some ⟨g5, 0, none⟩)), pl 7 (.pointer (some ⟨g6, 0, none⟩)), pl 16 (.slice A2 l1.length c2), pl 17 (.int .i64 (l1.length : Int)), pl 18 (.int .i64 (w64 (z1 + 1)))] hF hS Fol (by kernel_rfl) (by kernel_rfl) (by kernel_rfl) ?_ (fun a w hF hS => ?_)
          · exact obs_nil
          refine then_n ?_
          rw [← hφ1] at hm
          exact ⟨(t5, t6, (w64 (z1 + 1))), ⟨hF.weak [1, 4, 7, 16, 17, 18] (by kernel_rfl), hS⟩, hm⟩
        · refine wp_block ?_
          obtain ⟨hp1, hm⟩ := asrt_b hm
          refine reg [⟨true, [], vS (Instr.indexAt 22 (.slice A2 l1.length c2) (.int .i64 z1)), .pointer (some (sAddr A2 z1))⟩, ⟨false, [], vS (Instr.loadAt 3 (.pointer (some (sAddr A2 z1)))), .int .i64 (geti l1 z1)⟩] [none, some (.pointer (some (sAddr A2 z1))), some (.int .i64 (geti l1 z1)), none, none] [1, 4, 7, 8, 9, 16, 17, 18] [pl 1 (.slice A2 l1.length c2), pl 4 (.pointer (some ⟨g5, 0, none⟩)), pl 7 (.pointer (some ⟨g6, 0, none⟩)), pl 8 (.int .i64 z1), pl 9 (.int .i64 (geti l1 z1)), pl 16 (.slice A2 l1.length c2), pl 17 (.int .i64 (l1.length : Int)), pl 18 (.int .i64 z1)] hF hS Fol (by kernel_rfl) (by kernel_rfl) (by kernel_rfl) ?_ (fun a w hF hS => ?_)
          · exact obs_cons (ob_ix1 (f := (Value.int .i64)) (m := l1) Und22 hi3 hs3 (hr_l1 _ (hS.dropN 3)) rfl (fun _ => hp1)) <| obs_cons (ob_get1 (n := l1.length) (m := l1) (Value.int .i64) (0 : Int) Agg3 (fun _ hS => ⟨_, (hr_l1 _ (hS.dropN 3))⟩) (fun _ hS => rfl) (fun _ => hp1)) <| obs_nil
          refine seqR ?_
          obtain ⟨r3, hr3, hm⟩ := call_b hm
          refine at_run 2 [] [] [1, 4, 7, 8, 16, 17, 18, 23, 24] [pl 1 (.slice A2 l1.length c2), pl 4 (.pointer (some ⟨g5, 0, none⟩)), pl 7 (.pointer (some ⟨g6, 0, none⟩)), pl 8 (.int .i64 z1), pl 16 (.slice A2 l1.length c2), pl 17 (.int .i64 (l1.length : Int)), pl 18 (.int .i64 z1), pl 23 (.pointer (some ⟨g6, 0, none⟩)), pl 24 (.int .i64 (geti l1 z1))] hF hS (by kernel_rfl) (by kernel_rfl) ?_ (fun a w hF hS => ?_)
          · exact obs_nil
          have hS : Sep w0 B w (blk g6 140 #[.int .i64 r2.1, .int .i64 r2.2.1, .slice A3 r2.2.2.1.length c3, .int .i64 t2] :: own 3 (.slice A3 r2.2.2.1.length c3) (vI t1) :: blk g5 41 #[.int .i64 0, .int .i64 0, .slice none 0 0] :: fs) := hS.pickN 3 [1, 2, 0] (by decide)
          refine at_call (f := 111) (args := #[.pointer (some ⟨g6, 0, none⟩), .int .i64 (geti l1 z1)]) (d := 25) hF (by kernel_rfl) (by kernel_rfl) Try.func111 (by kernel_rfl) rfl (slide_tray_move_w hr3 hS ) (fun v a w hR hF => ?_)
          clear hS
          obtain ⟨rfl, hS⟩ := hR
          have hS : Sep w0 B w (blk g6 140 #[.int .i64 r2.1, .int .i64 r2.2.1, .slice A3 r2.2.2.1.length c3, .int .i64 r3.2.2] :: own 3 (.slice A3 r2.2.2.1.length c3) (vI r3.2.1) :: blk g5 41 #[.int .i64 0, .int .i64 0, .slice none 0 0] :: fs) := hS
          refine at_run 1 [] [] [1, 4, 7, 8, 16, 17, 18, 26] [pl 1 (.slice A2 l1.length c2), pl 4 (.pointer (some ⟨g5, 0, none⟩)), pl 7 (.pointer (some ⟨g6, 0, none⟩)), pl 8 (.int .i64 z1), pl 16 (.slice A2 l1.length c2), pl 17 (.int .i64 (l1.length : Int)), pl 18 (.int .i64 z1), pl 26 (.bool (!r3.1))] hF hS (by kernel_rfl) (by kernel_rfl) ?_ (fun a w hF hS => ?_)
          · exact obs_nil
          refine at_end [1, 4, 7, 8, 16, 17, 18, 26] [pl 1 (.slice A2 l1.length c2), pl 4 (.pointer (some ⟨g5, 0, none⟩)), pl 7 (.pointer (some ⟨g6, 0, none⟩)), pl 8 (.int .i64 z1), pl 16 (.slice A2 l1.length c2), pl 17 (.int .i64 (l1.length : Int)), pl 18 (.int .i64 z1), pl 26 (.bool (!r3.1))] hF rfl (by kernel_rfl) (fun hF => ?_)
          refine then_n ?_
          refine cond_ev (t := 26) (b := !r3.1) hF (by kernel_rfl) (fun hb => ?_) (fun hb => ?_)
          · replace hm := if_t hm hb
            refine seqR ?_
            refine at_run 5 [⟨false, [], vS (Instr.loadAt 41 (.pointer (some ⟨g6, 0, none⟩))), .agg #[.int .i64 r2.1, .int .i64 r2.2.1, .slice A3 r2.2.2.1.length c3]⟩] [none, none, none, some (.agg #[.int .i64 r2.1, .int .i64 r2.2.1, .slice A3 r2.2.2.1.length c3]), none] [4, 30, 31] [pl 4 (.pointer (some ⟨g5, 0, none⟩)), pl 30 (.agg #[.int .i64 r2.1, .int .i64 r2.2.1, .slice A3 r2.2.2.1.length c3]), pl 31 (.int .i64 z1)] hF hS (by kernel_rfl) (by kernel_rfl) ?_ (fun a w hF hS => ?_)
            · exact obs_cons (ob_loadA (cs := #[.int .i64 r2.1, .int .i64 r2.2.1, .slice A3 r2.2.2.1.length c3]) (by kernel_rfl) (by kernel_rfl) (fun _ _ hS => (hS.at_ 0 rfl).cellsAt 0 (by rfl))) <| obs_nil
            obtain ⟨w, hrun, hS⟩ := run_putA (P := Try.prog) (t := 41) (us := #[.int .i64 r2.1, .int .i64 r2.2.1, .slice A3 r2.2.2.1.length c3]) (o := 0) (hS.at_ 2 rfl) (by kernel_rfl) (all_one (by kernel_rfl)) (Nat.le_of_ble_eq_true (by kernel_rfl))
            refine at_skip hF (by kernel_rfl) hrun ?_
            have hS : Sep w0 B w (blk g6 140 #[.int .i64 r2.1, .int .i64 r2.2.1, .slice A3 r2.2.2.1.length c3, .int .i64 r3.2.2] :: own 3 (.slice A3 r2.2.2.1.length c3) (vI r3.2.1) :: blk g5 41 #[.int .i64 r2.1, .int .i64 r2.2.1, .slice A3 r2.2.2.1.length c3] :: fs) := hS
            refine at_run 2 [] [] [4, 5, 6] [pl 4 (.pointer (some ⟨g5, 0, none⟩)), pl 5 (.int .i64 z1), pl 6 (.int .i64 8)] hF hS (by kernel_rfl) (by kernel_rfl) ?_ (fun a w hF hS => ?_)
            · exact obs_nil
            refine at_end [4, 5, 6] [pl 4 (.pointer (some ⟨g5, 0, none⟩)), pl 5 (.int .i64 z1), pl 6 (.int .i64 8)] hF rfl (by kernel_rfl) (fun hF => ?_)
            refine then_n ?_
            refine wp_ret ?_
            refine block_r (then_r (then_r (block_r (then_r ?_))))
            rw [← hφ1] at hm
            replace hm := done_b hm
            unfold slide_Do_K1 at hm
            try dsimp only at hm
            have hl2 := (hS.at_ 1 rfl).len1
            have hS := (hS.at_ 1 rfl).reN hl2
            have hS := (hS.at_ 0 rfl).reBlk (congrArg (fun k9 => (#[.int .i64 r2.1, .int .i64 r2.2.1, .slice A3 k9 c3, .int .i64 r3.2.2] : Array Value)) hl2)
            have hS := (hS.at_ 2 rfl).reBlk (congrArg (fun k9 => (#[.int .i64 r2.1, .int .i64 r2.2.1, .slice A3 k9 c3] : Array Value)) hl2)
            have hS : Sep w0 B w (blk g6 140 #[.int .i64 r2.1, .int .i64 r2.2.1, .slice A3 r3.2.1.length c3, .int .i64 r3.2.2] :: own 3 (.slice A3 r3.2.1.length c3) (vI r3.2.1) :: blk g5 41 #[.int .i64 r2.1, .int .i64 r2.2.1, .slice A3 r3.2.1.length c3] :: fs) := hS
            have hld0 := run_loadVarA (P := Try.prog) (t := 41) (cs := #[.int .i64 r2.1, .int .i64 r2.2.1, .slice A3 r3.2.1.length c3]) (by kernel_rfl) (by kernel_rfl) ((hS.at_ 2 rfl).cellsAt 0 (by rfl))
            have hS := hS.pickN 3 [1] (by decide)
            have hm : some (r2.1, r2.2.1, r3.2.1, z1, 8) = some r := hm
            obtain rfl := Option.some.inj hm
            exact retV (rs := [.cell 4 41, .tmp 5, .tmp 6]) (vs := [.agg #[.int .i64 r2.1, .int .i64 r2.2.1, .slice A3 r3.2.1.length c3], .int .i64 z1, .int .i64 8]) hF rfl (rv_c (by kernel_rfl) hld0 <| rv_t (by kernel_rfl) <| rv_t (by kernel_rfl) <| rv_nil) rfl ⟨_, rfl, A3, c3, rfl, hS⟩
          · replace hm := if_f hm hb
            refine wp_skip ?_
            refine block_n ?_
            refine then_n ?_
            have hS := hS.pickN 3 [2, 0, 1] (by decide)
            exact ⟨r3.2.1, r3.2.2, hF.weak [1, 4, 7, 16, 17, 18] (by kernel_rfl), hS, hm⟩
      · refine cond_ev (t := 19) (b := decide (z1 < (l1.length : Int))) hF (by kernel_rfl) (fun hb => ?_) (fun hb => ?_)
        · replace hm := if_t hm hb
          refine wp_skip ?_
          refine then_n ?_
          exact ⟨hF.weak [1, 4, 7, 16, 17, 18] (by kernel_rfl), hS, hm⟩
        · replace hm := if_f hm hb
          refine wp_exit ?_
          refine then_e (then_e (block_e (then_n ?_)))
          rw [← hφ1] at hm
          replace hm := done_b hm
          unfold slide_Do_K1 at hm
          try dsimp only at hm
          have hm : ((slide_Do_J2 l1 r2) t1 t2).bind some = some r := hm
          exact ⟨t1, t2, hF.weak [1, 4, 7] (by kernel_rfl), hS, hm⟩
  · obtain ⟨r1, hr1, hm⟩ := call_b hm
    refine reg [⟨false, [], vS (Instr.loadAt 41 (.pointer (some ⟨g4, 0, none⟩))), .agg #[.int .i64 g1, .int .i64 g2, .slice A1 g3.length c1]⟩, ⟨false, [], callFunc 42 #[.agg #[.int .i64 g1, .int .i64 g2, .slice A1 g3.length c1]], .bool r1⟩] [some (.agg #[.int .i64 g1, .int .i64 g2, .slice A1 g3.length c1]), some (.bool r1), none] [1, 2, 4, 12] [pl 1 (.slice A2 l1.length c2), pl 2 (.pointer (some ⟨g4, 0, none⟩)), pl 4 (.pointer (some ⟨g5, 0, none⟩)), pl 12 (.bool (!r1))] hF hS Fol (by kernel_rfl) (by kernel_rfl) (by kernel_rfl) ?_ (fun a w hF hS => ?_)
    · exact obs_cons (ob_loadA (cs := #[.int .i64 g1, .int .i64 g2, .slice A1 g3.length c1]) (by kernel_rfl) (by kernel_rfl) (fun _ _ hS => (hS.at_ 1 rfl).cellsAt 0 (by rfl))) <| obs_cons (ob_call Try.func42 (by kernel_rfl) rfl (fun _ _ hS => slide_May_w hr1 hS (fun _ hS => (hr_g3 _ (hS.dropN 2))) _hc_g3 rfl)) <| obs_nil
    refine cond_ev (t := 12) (b := !r1) hF (by kernel_rfl) (fun hb => ?_) (fun hb => ?_)
    · replace hm := if_t hm hb
      refine seqR ?_
      refine at_run 1 [] [] [4, 13] [pl 4 (.pointer (some ⟨g5, 0, none⟩)), pl 13 (.agg #[.int .i64 0, .int .i64 0, .slice none 0 0])] hF hS (by kernel_rfl) (by kernel_rfl) ?_ (fun a w hF hS => ?_)
      · exact obs_nil
      obtain ⟨w, hrun, hS⟩ := run_putA (P := Try.prog) (t := 41) (us := #[.int .i64 0, .int .i64 0, .slice none 0 0]) (o := 0) (hS.at_ 0 rfl) (by kernel_rfl) (all_one (by kernel_rfl)) (Nat.le_of_ble_eq_true (by kernel_rfl))
      refine at_skip hF (by kernel_rfl) hrun ?_
      have hS : Sep w0 B w (blk g5 41 #[.int .i64 0, .int .i64 0, .slice none 0 0] :: blk g4 41 #[.int .i64 g1, .int .i64 g2, .slice A1 g3.length c1] :: fs) := hS
      refine at_run 2 [] [] [4, 5, 6] [pl 4 (.pointer (some ⟨g5, 0, none⟩)), pl 5 (.int .i64 0), pl 6 (.int .i64 12)] hF hS (by kernel_rfl) (by kernel_rfl) ?_ (fun a w hF hS => ?_)
      · exact obs_nil
      refine at_end [4, 5, 6] [pl 4 (.pointer (some ⟨g5, 0, none⟩)), pl 5 (.int .i64 0), pl 6 (.int .i64 12)] hF rfl (by kernel_rfl) (fun hF => ?_)
      refine then_n ?_
      refine wp_ret ?_
      refine then_r ?_
      have hS : Sep w0 B w (own 3 (.slice none 0 0) (vI ([] : List Int)) :: blk g5 41 #[.int .i64 0, .int .i64 0, .slice none 0 0] :: blk g4 41 #[.int .i64 g1, .int .i64 g2, .slice A1 g3.length c1] :: fs) := hS.nil 3
      have hl1 := (hS.at_ 0 rfl).len1
      have hS := (hS.at_ 0 rfl).reN hl1
      have hS : Sep w0 B w (own 3 (.slice none (([] : List Int).length) 0) (vI ([] : List Int)) :: blk g5 41 #[.int .i64 0, .int .i64 0, .slice none 0 0] :: blk g4 41 #[.int .i64 g1, .int .i64 g2, .slice A1 g3.length c1] :: fs) := hS
      have hld0 := run_loadVarA (P := Try.prog) (t := 41) (cs := #[.int .i64 0, .int .i64 0, .slice none (([] : List Int).length) 0]) (by kernel_rfl) (by kernel_rfl) ((hS.at_ 1 rfl).cellsAt 0 (by rfl))
      have hS := hS.pickN 3 [0] (by decide)
      have hm : some (0, 0, ([] : List Int), 0, 12) = some r := hm
      obtain rfl := Option.some.inj hm
      exact retV (rs := [.cell 4 41, .tmp 5, .tmp 6]) (vs := [.agg #[.int .i64 0, .int .i64 0, .slice none (([] : List Int).length) 0], .int .i64 0, .int .i64 12]) hF rfl (rv_c (by kernel_rfl) hld0 <| rv_t (by kernel_rfl) <| rv_t (by kernel_rfl) <| rv_nil) rfl ⟨_, rfl, none, 0, rfl, hS⟩
    · replace hm := if_f hm hb
      refine wp_skip ?_
      refine then_n ?_
      have hS := hS.pickN 2 [1, 0] (by decide)
      exact ⟨hF.weak [1, 2, 4] (by kernel_rfl), hS, hm⟩

noncomputable def slide_parity_J5 (z2 : Int) (n6 : Int) : Option (St (Int × Int) Int) :=
  some (.next (n6, (w64 (z2 + 1))))

noncomputable def slide_parity_J4 (g3 : List Int) (z1 : Int) (n4 : Int) (z2 : Int) : Option (St (Int × Int) Int) :=
  asrt (0 ≤ z2 ∧ z2 < (((cut g3 (0 : Int) z1).length : Nat) : Int)) <| if ((decide ((0 : Int) < (geti g3 z1))) && (decide ((geti g3 z1) < (geti (cut g3 (0 : Int) z1) z2)))) then ((slide_parity_J5 z2) (w64 (n4 + 1))) else ((slide_parity_J5 z2) n4)

noncomputable def slide_parity_J3 (z1 : Int) (n5 : Int) : Option (St (Int × Int) Int) :=
  some (.next (n5, (w64 (z1 + 1))))

noncomputable def slide_parity_K2 (z1 : Int) : Int → Option (St (Int × Int) Int) :=
  fun (x : Int) => match x with | n5 => (slide_parity_J3 z1) n5

noncomputable def slide_parity_L2 (g3 : List Int) (z1 : Int) : (Int × Int) → Option (St (Int × Int) Int) :=
  fun (x : (Int × Int)) => match x with | (n4, z2) => if (decide (z2 < (((cut g3 (0 : Int) z1).length : Nat) : Int))) then ((slide_parity_J4 g3 z1 n4 z2)) else (some (.done n4))

noncomputable def slide_parity_J2 (g3 : List Int) (n2 : Int) (z1 : Int) : Option (St (Int × Int) Int) :=
  asrt (0 ≤ z1 ∧ z1 < (g3.length : Int)) <| asrt (0 ≤ (0 : Int) ∧ (0 : Int) ≤ z1 ∧ z1 ≤ (g3.length : Int)) <| (loop (slide_parity_L2 g3 z1) (n2, 0)).bind (slide_parity_K2 z1)

noncomputable def slide_parity_J6 (n7 : Int) : Option Int :=
  some (bAnd n7 1)

noncomputable def slide_parity_J1 (g1 : Int) (g2 : Int) (g3 : List Int) (n3 : Int) : Option Int :=
  if ((bAnd g1 1) == 0) then ((slices_Index_m g3 0).bind fun r1 => asrt (g1 ≠ (0 : Int)) <| slide_parity_J6 (w64 (n3 + (w64 ((w64 (g2 - 1)) - (w64 (Int.tdiv r1 g1))))))) else (slide_parity_J6 n3)

noncomputable def slide_parity_K1 (g1 : Int) (g2 : Int) (g3 : List Int) : Int → Option Int :=
  fun (x : Int) => match x with | n3 => (slide_parity_J1 g1 g2 g3) n3

noncomputable def slide_parity_L1 (g3 : List Int) : (Int × Int) → Option (St (Int × Int) Int) :=
  fun (x : (Int × Int)) => match x with | (n2, z1) => if (decide (z1 < (g3.length : Int))) then ((slide_parity_J2 g3 n2 z1)) else (some (.done n2))

noncomputable def slide_parity_m (g1 : Int) (g2 : Int) (g3 : List Int) : Option Int :=
  (loop (slide_parity_L1 g3) (0, 0)).bind (slide_parity_K1 g1 g2 g3)

set_option maxRecDepth 100000 in
set_option maxHeartbeats 4000000 in
theorem slide_parity_w {g1 : Int} {g2 : Int} {A1 : Option Addr} {c1 : Nat} {n1 : Nat} {g3 : List Int} {r : Int} {w0 w : World} {B : Nat} {fs : List HP} (hm : slide_parity_m g1 g2 g3 = some r) (hS : Sep w0 B w (fs)) (hr_g3 : RdF w0 B fs A1 (vI g3)) (_hc_g3 : g3.length ≤ c1) (_hn_g3 : n1 = g3.length) :
    Calls Try.prog 112 #[.agg #[.int .i64 g1, .int .i64 g2, .slice A1 n1 c1]] w fun e w' => e = .returned (.int .i64 r) ∧ Sep w0 B w' (fs) := by
  obtain ⟨i3, hi3, hz3, hs3, hb3⟩ := info_parts Info3
  obtain rfl := _hn_g3
  unfold slide_parity_m at hm
  replace hm := start_b hm
  refine enter (l := [.agg #[.int .i64 g1, .int .i64 g2, .slice A1 g3.length c1]]) (n := 54) Try.func112 rfl rfl (by simp) (fun a hF => ?_)
  refine seqR ?_
  refine at_do (d := 1) (s := vS (Instr.box 41 (.agg #[.int .i64 g1, .int .i64 g2, .slice A1 g3.length c1]))) (v := .pointer (some ⟨w.heap.size, 0, none⟩)) (w' := w.alloc (.cells #[.int .i64 g1, .int .i64 g2, .slice A1 g3.length c1] 41)) hF (by kernel_rfl) (by kernel_rfl) (by kernel_rfl) (fun a hF => ?_)
  have hS : Sep w0 B (w.alloc (.cells #[.int .i64 g1, .int .i64 g2, .slice A1 g3.length c1] 41)) (blk w.heap.size 41 #[.int .i64 g1, .int .i64 g2, .slice A1 g3.length c1] :: (fs)) := hS.box 41 #[.int .i64 g1, .int .i64 g2, .slice A1 g3.length c1]
  generalize w.heap.size = g4 at hF hS
  generalize w.alloc (.cells #[.int .i64 g1, .int .i64 g2, .slice A1 g3.length c1] 41) = w at hS ⊢
  refine at_run 1 [] [] [1] [pl 1 (.pointer (some ⟨g4, 0, none⟩))] hF hS (by kernel_rfl) (by kernel_rfl) ?_ (fun a w hF hS => ?_)
  · exact obs_nil
  refine at_end [1] [pl 1 (.pointer (some ⟨g4, 0, none⟩))] hF rfl (by kernel_rfl) (fun hF => ?_)
  refine then_n ?_
  refine reg [] [] [1, 3] [pl 1 (.pointer (some ⟨g4, 0, none⟩)), pl 3 (.int .i64 0)] hF hS Fol (by kernel_rfl) (by kernel_rfl) (by kernel_rfl) ?_ (fun a w hF hS => ?_)
  · exact obs_nil
  refine seq_cut (fun a w => ∃ (n3 : Int), Fr 54 [pl 1 (.pointer (some ⟨g4, 0, none⟩)), pl 3 (.int .i64 n3)] a ∧ Sep w0 B w (blk g4 41 #[.int .i64 g1, .int .i64 g2, .slice A1 g3.length c1] :: fs) ∧ ((slide_parity_J1 g1 g2 g3) n3).bind some = some r) ?_ ?_
  · rintro a w ⟨n3, hF, hS, hm⟩
    unfold slide_parity_J1 at hm
    refine seq_cut (fun a w => ∃ (n7 : Int), Fr 54 [pl 3 (.int .i64 n7)] a ∧ Sep w0 B w (fs) ∧ (slide_parity_J6 n7).bind some = some r) ?_ ?_
    · rintro a w ⟨n7, hF, hS, hm⟩
      unfold slide_parity_J6 at hm
      refine reg [] [] [2] [pl 2 (.int .i64 (bAnd n7 1))] hF hS Fol (by kernel_rfl) (by kernel_rfl) (by kernel_rfl) ?_ (fun a w hF hS => ?_)
      · exact obs_nil
      refine wp_ret ?_
      have hm : some (bAnd n7 1) = some r := hm
      obtain rfl := Option.some.inj hm
      exact retV (rs := [.tmp 2]) (vs := [.int .i64 (bAnd n7 1)]) hF rfl (rv_t (by kernel_rfl) <| rv_nil) rfl ⟨rfl, hS⟩
    · refine reg [⟨false, [], vS (Instr.loadAt 3 (.pointer (some ⟨g4, 0, none⟩))), .int .i64 g1⟩] [none, some (.int .i64 g1), none, none] [1, 3, 39] [pl 1 (.pointer (some ⟨g4, 0, none⟩)), pl 3 (.int .i64 n3), pl 39 (.bool ((bAnd g1 1) == 0))] hF hS Fol (by kernel_rfl) (by kernel_rfl) (by kernel_rfl) ?_ (fun a w hF hS => ?_)
      · exact obs_cons (ob_load Agg3 (fun _ _ hS => (hS.at_ 0 rfl).cell rfl)) <| obs_nil
      refine cond_ev (t := 39) (b := ((bAnd g1 1) == 0)) hF (by kernel_rfl) (fun hb => ?_) (fun hb => ?_)
      · replace hm := if_t hm hb
        obtain ⟨r1, hr1, hm⟩ := call_b hm
        obtain ⟨hp4, hm⟩ := asrt_b hm
        refine reg1 [⟨false, [], vS (Instr.loadAt 3 (.pointer (some ⟨g4, 1, none⟩))), .int .i64 g2⟩, ⟨false, [], vS (Instr.loadAt 22 (.pointer (some ⟨g4, 2, none⟩))), .slice A1 g3.length c1⟩, ⟨false, [], callFunc 85 #[.slice A1 g3.length c1, .int .i64 0], .int .i64 r1⟩, ⟨false, [], vS (Instr.loadAt 3 (.pointer (some ⟨g4, 0, none⟩))), .int .i64 g1⟩, ⟨true, [], vS (Op.intDiv .quo .i64 r1 g1), .int .i64 (w64 (Int.tdiv r1 g1))⟩] [none, none, some (.int .i64 g2), none, none, some (.slice A1 g3.length c1), some (.int .i64 r1), none, some (.int .i64 g1), some (.int .i64 (w64 (Int.tdiv r1 g1))), none, none, none] [3] [pl 3 (.int .i64 (w64 (n3 + (w64 ((w64 (g2 - 1)) - (w64 (Int.tdiv r1 g1)))))))] hF hS Fol (by kernel_rfl) (by kernel_rfl) (by kernel_rfl) ?_ (fun a w hF hS => ?_)
        · exact obs_cons (ob_load Agg3 (fun _ _ hS => (hS.at_ 0 rfl).cell rfl)) <| obs_cons (ob_load Agg22 (fun _ _ hS => (hS.at_ 0 rfl).cell rfl)) <| obs_cons (ob_call Try.func85 (by kernel_rfl) rfl (fun _ _ hS => slices_Index_w hr1 hS (fun _ hS => (hr_g3 _ (hS.dropN 1))) _hc_g3 rfl)) <| obs_cons (ob_load Agg3 (fun _ _ hS => (hS.at_ 0 rfl).cell rfl)) <| obs_cons (ob_quo rfl (fun _ => hp4)) <| obs_nil
        refine then_n ?_
        have hS := hS.pickN 1 [] (by decide)
        exact ⟨(w64 (n3 + (w64 ((w64 (g2 - 1)) - (w64 (Int.tdiv r1 g1)))))), hF.weak [3] (by kernel_rfl), hS, hm⟩
      · replace hm := if_f hm hb
        refine wp_skip ?_
        refine then_n ?_
        have hS := hS.pickN 1 [] (by decide)
        exact ⟨n3, hF.weak [3] (by kernel_rfl), hS, hm⟩
  · refine reg [⟨false, [], vS (Instr.loadAt 22 (.pointer (some ⟨g4, 2, none⟩))), .slice A1 g3.length c1⟩] [none, some (.slice A1 g3.length c1), none, none] [1, 3, 9, 10, 11] [pl 1 (.pointer (some ⟨g4, 0, none⟩)), pl 3 (.int .i64 0), pl 9 (.slice A1 g3.length c1), pl 10 (.int .i64 (g3.length : Int)), pl 11 (.int .i64 0)] hF hS Fol (by kernel_rfl) (by kernel_rfl) (by kernel_rfl) ?_ (fun a w hF hS => ?_)
    · exact obs_cons (ob_load Agg22 (fun _ _ hS => (hS.at_ 0 rfl).cell rfl)) <| obs_nil
    refine wp_block ?_
    refine wp_loop_model (S := (Int × Int)) (R := Int) (slide_parity_L1 g3) (fun x => ((slide_parity_K1 g1 g2 g3) x).bind some) r (fun (x : (Int × Int)) a w => Fr 54 [pl 1 (.pointer (some ⟨g4, 0, none⟩)), pl 3 (.int .i64 x.1), pl 9 (.slice A1 g3.length c1), pl 10 (.int .i64 (g3.length : Int)), pl 11 (.int .i64 x.2)] a ∧ Sep w0 B w (blk g4 41 #[.int .i64 g1, .int .i64 g2, .slice A1 g3.length c1] :: fs)) (assoc_b hm) ⟨hF.weak [1, 3, 9, 10, 11] (by kernel_rfl), hS⟩ ?_
    clear hF hS hm
    rintro nn1 ⟨n2, z1⟩ a w ⟨hF, hS⟩ hm
    generalize hφ1 : stK (slide_parity_L1 g3) nn1 (fun x => ((slide_parity_K1 g1 g2 g3) x).bind some) = φ1 at hm
    unfold slide_parity_L1 at hm
    dsimp only at hF hS hm
    refine reg [] [] [1, 3, 9, 10, 11, 12] [pl 1 (.pointer (some ⟨g4, 0, none⟩)), pl 3 (.int .i64 n2), pl 9 (.slice A1 g3.length c1), pl 10 (.int .i64 (g3.length : Int)), pl 11 (.int .i64 z1), pl 12 (.bool (decide (z1 < (g3.length : Int))))] hF hS Fol (by kernel_rfl) (by kernel_rfl) (by kernel_rfl) ?_ (fun a w hF hS => ?_)
    · exact obs_nil
    refine seq_cut (fun a w => Fr 54 [pl 1 (.pointer (some ⟨g4, 0, none⟩)), pl 3 (.int .i64 n2), pl 9 (.slice A1 g3.length c1), pl 10 (.int .i64 (g3.length : Int)), pl 11 (.int .i64 z1)] a ∧ Sep w0 B w (blk g4 41 #[.int .i64 g1, .int .i64 g2, .slice A1 g3.length c1] :: fs) ∧ ((slide_parity_J2 g3 n2 z1)).bind φ1 = some r) ?_ ?_
    · rintro a w ⟨hF, hS, hm⟩
      unfold slide_parity_J2 at hm
      refine seq_cut (fun a w => ∃ (n5 : Int), Fr 54 [pl 1 (.pointer (some ⟨g4, 0, none⟩)), pl 3 (.int .i64 n5), pl 9 (.slice A1 g3.length c1), pl 10 (.int .i64 (g3.length : Int)), pl 11 (.int .i64 z1)] a ∧ Sep w0 B w (blk g4 41 #[.int .i64 g1, .int .i64 g2, .slice A1 g3.length c1] :: fs) ∧ ((slide_parity_J3 z1) n5).bind φ1 = some r) ?_ ?_
      · rintro a w ⟨n5, hF, hS, hm⟩
        unfold slide_parity_J3 at hm
        refine reg1 [] [] [1, 3, 9, 10, 11] [pl 1 (.pointer (some ⟨g4, 0, none⟩)), pl 3 (.int .i64 n5), pl 9 (.slice A1 g3.length c1), pl 10 (.int .i64 (g3.length : Int)), pl 11 (.int .i64 (w64 (z1 + 1)))] hF hS Fol (by kernel_rfl) (by kernel_rfl) (by kernel_rfl) ?_ (fun a w hF hS => ?_)
        · exact obs_nil
        refine then_n ?_
        rw [← hφ1] at hm
        exact ⟨(n5, (w64 (z1 + 1))), ⟨hF.weak [1, 3, 9, 10, 11] (by kernel_rfl), hS⟩, hm⟩
      · refine wp_block ?_
        obtain ⟨hp1, hm⟩ := asrt_b hm
        refine reg [⟨true, [], vS (Instr.indexAt 22 (.slice A1 g3.length c1) (.int .i64 z1)), .pointer (some (sAddr A1 z1))⟩, ⟨false, [], vS (Instr.loadAt 3 (.pointer (some (sAddr A1 z1)))), .int .i64 (geti g3 z1)⟩] [none, some (.pointer (some (sAddr A1 z1))), some (.int .i64 (geti g3 z1)), none, none] [1, 3, 4, 5, 9, 10, 11] [pl 1 (.pointer (some ⟨g4, 0, none⟩)), pl 3 (.int .i64 n2), pl 4 (.int .i64 z1), pl 5 (.int .i64 (geti g3 z1)), pl 9 (.slice A1 g3.length c1), pl 10 (.int .i64 (g3.length : Int)), pl 11 (.int .i64 z1)] hF hS Fol (by kernel_rfl) (by kernel_rfl) (by kernel_rfl) ?_ (fun a w hF hS => ?_)
        · exact obs_cons (ob_ix1 (f := (Value.int .i64)) (m := g3) Und22 hi3 hs3 (hr_g3 _ (hS.dropN 1)) rfl (fun _ => hp1)) <| obs_cons (ob_get1 (n := g3.length) (m := g3) (Value.int .i64) (0 : Int) Agg3 (fun _ hS => ⟨_, (hr_g3 _ (hS.dropN 1))⟩) (fun _ hS => rfl) (fun _ => hp1)) <| obs_nil
        obtain ⟨hp2, hm⟩ := asrt_b hm
        refine reg [⟨false, [], vS (Instr.loadAt 22 (.pointer (some ⟨g4, 2, none⟩))), .slice A1 g3.length c1⟩, ⟨true, [], vS (Instr.sliceAt 22 (.slice A1 g3.length c1) none (some (.int .i64 z1)) none), .slice (cutAddr A1 c1 (0 : Int)) ((cut g3 (0 : Int) z1).length) (c1 - Int.toNat (0 : Int))⟩] [none, some (.slice A1 g3.length c1), none, some (.slice (cutAddr A1 c1 (0 : Int)) ((cut g3 (0 : Int) z1).length) (c1 - Int.toNat (0 : Int))), none, none] [1, 3, 5, 9, 10, 11, 19, 20, 21] [pl 1 (.pointer (some ⟨g4, 0, none⟩)), pl 3 (.int .i64 n2), pl 5 (.int .i64 (geti g3 z1)), pl 9 (.slice A1 g3.length c1), pl 10 (.int .i64 (g3.length : Int)), pl 11 (.int .i64 z1), pl 19 (.slice (cutAddr A1 c1 (0 : Int)) ((cut g3 (0 : Int) z1).length) (c1 - Int.toNat (0 : Int))), pl 20 (.int .i64 (((cut g3 (0 : Int) z1).length : Nat) : Int)), pl 21 (.int .i64 0)] hF hS Fol (by kernel_rfl) (by kernel_rfl) (by kernel_rfl) ?_ (fun a w hF hS => ?_)
        · exact obs_cons (ob_load Agg22 (fun _ _ hS => (hS.at_ 0 rfl).cell rfl)) <| obs_cons (ob_cutn (l := g3) (k := .i64) (k' := .i64) Und22 hi3 hs3 rfl (.inr ⟨rfl, rfl⟩) (.inl rfl) (fun _ => hp2) _hc_g3) <| obs_nil
        refine wp_block ?_
        refine wp_loop_model (S := (Int × Int)) (R := Int) (slide_parity_L2 g3 z1) (fun x => ((slide_parity_K2 z1) x).bind φ1) r (fun (x : (Int × Int)) a w => Fr 54 [pl 1 (.pointer (some ⟨g4, 0, none⟩)), pl 3 (.int .i64 x.1), pl 5 (.int .i64 (geti g3 z1)), pl 9 (.slice A1 g3.length c1), pl 10 (.int .i64 (g3.length : Int)), pl 11 (.int .i64 z1), pl 19 (.slice (cutAddr A1 c1 (0 : Int)) ((cut g3 (0 : Int) z1).length) (c1 - Int.toNat (0 : Int))), pl 20 (.int .i64 (((cut g3 (0 : Int) z1).length : Nat) : Int)), pl 21 (.int .i64 x.2)] a ∧ Sep w0 B w (blk g4 41 #[.int .i64 g1, .int .i64 g2, .slice A1 g3.length c1] :: fs)) (assoc_b hm) ⟨hF.weak [1, 3, 5, 9, 10, 11, 19, 20, 21] (by kernel_rfl), hS⟩ ?_
        clear hF hS hm
        rintro nn2 ⟨n4, z2⟩ a w ⟨hF, hS⟩ hm
        generalize hφ2 : stK (slide_parity_L2 g3 z1) nn2 (fun x => ((slide_parity_K2 z1) x).bind φ1) = φ2 at hm
        unfold slide_parity_L2 at hm
        dsimp only at hF hS hm
        refine reg [] [] [1, 3, 5, 9, 10, 11, 19, 20, 21, 22] [pl 1 (.pointer (some ⟨g4, 0, none⟩)), pl 3 (.int .i64 n4), pl 5 (.int .i64 (geti g3 z1)), pl 9 (.slice A1 g3.length c1), pl 10 (.int .i64 (g3.length : Int)), pl 11 (.int .i64 z1), pl 19 (.slice (cutAddr A1 c1 (0 : Int)) ((cut g3 (0 : Int) z1).length) (c1 - Int.toNat (0 : Int))), pl 20 (.int .i64 (((cut g3 (0 : Int) z1).length : Nat) : Int)), pl 21 (.int .i64 z2), pl 22 (.bool (decide (z2 < (((cut g3 (0 : Int) z1).length : Nat) : Int))))] hF hS Fol (by kernel_rfl) (by kernel_rfl) (by kernel_rfl) ?_ (fun a w hF hS => ?_)
        · exact obs_nil
        refine seq_cut (fun a w => Fr 54 [pl 1 (.pointer (some ⟨g4, 0, none⟩)), pl 3 (.int .i64 n4), pl 5 (.int .i64 (geti g3 z1)), pl 9 (.slice A1 g3.length c1), pl 10 (.int .i64 (g3.length : Int)), pl 11 (.int .i64 z1), pl 19 (.slice (cutAddr A1 c1 (0 : Int)) ((cut g3 (0 : Int) z1).length) (c1 - Int.toNat (0 : Int))), pl 20 (.int .i64 (((cut g3 (0 : Int) z1).length : Nat) : Int)), pl 21 (.int .i64 z2)] a ∧ Sep w0 B w (blk g4 41 #[.int .i64 g1, .int .i64 g2, .slice A1 g3.length c1] :: fs) ∧ ((slide_parity_J4 g3 z1 n4 z2)).bind φ2 = some r) ?_ ?_
        · rintro a w ⟨hF, hS, hm⟩
          unfold slide_parity_J4 at hm
          refine seq_cut (fun a w => ∃ (n6 : Int), Fr 54 [pl 1 (.pointer (some ⟨g4, 0, none⟩)), pl 3 (.int .i64 n6), pl 5 (.int .i64 (geti g3 z1)), pl 9 (.slice A1 g3.length c1), pl 10 (.int .i64 (g3.length : Int)), pl 11 (.int .i64 z1), pl 19 (.slice (cutAddr A1 c1 (0 : Int)) ((cut g3 (0 : Int) z1).length) (c1 - Int.toNat (0 : Int))), pl 20 (.int .i64 (((cut g3 (0 : Int) z1).length : Nat) : Int)), pl 21 (.int .i64 z2)] a ∧ Sep w0 B w (blk g4 41 #[.int .i64 g1, .int .i64 g2, .slice A1 g3.length c1] :: fs) ∧ ((slide_parity_J5 z2) n6).bind φ2 = some r) ?_ ?_
          · rintro a w ⟨n6, hF, hS, hm⟩
            unfold slide_parity_J5 at hm
            refine reg1 [] [] [1, 3, 5, 9, 10, 11, 19, 20, 21] [pl 1 (.pointer (some ⟨g4, 0, none⟩)), pl 3 (.int .i64 n6), pl 5 (.int .i64 (geti g3 z1)), pl 9 (.slice A1 g3.length c1), pl 10 (.int .i64 (g3.length : Int)), pl 11 (.int .i64 z1), pl 19 (.slice (cutAddr A1 c1 (0 : Int)) ((cut g3 (0 : Int) z1).length) (c1 - Int.toNat (0 : Int))), pl 20 (.int .i64 (((cut g3 (0 : Int) z1).length : Nat) : Int)), pl 21 (.int .i64 (w64 (z2 + 1)))] hF hS Fol (by kernel_rfl) (by kernel_rfl) (by kernel_rfl) ?_ (fun a w hF hS => ?_)
            · exact obs_nil
            refine then_n ?_
            rw [← hφ2] at hm
            exact ⟨(n6, (w64 (z2 + 1))), ⟨hF.weak [1, 3, 5, 9, 10, 11, 19, 20, 21] (by kernel_rfl), hS⟩, hm⟩
          · refine wp_block ?_
            obtain ⟨hp3, hm⟩ := asrt_b hm
            refine reg [⟨true, [], vS (Instr.indexAt 22 (.slice (cutAddr A1 c1 (0 : Int)) ((cut g3 (0 : Int) z1).length) (c1 - Int.toNat (0 : Int))) (.int .i64 z2)), .pointer (some (sAddr (cutAddr A1 c1 (0 : Int)) z2))⟩, ⟨false, [], vS (Instr.loadAt 3 (.pointer (some (sAddr (cutAddr A1 c1 (0 : Int)) z2)))), .int .i64 (geti (cut g3 (0 : Int) z1) z2)⟩] [some (.pointer (some (sAddr (cutAddr A1 c1 (0 : Int)) z2))), some (.int .i64 (geti (cut g3 (0 : Int) z1) z2)), none] [1, 3, 5, 7, 9, 10, 11, 19, 20, 21] [pl 1 (.pointer (some ⟨g4, 0, none⟩)), pl 3 (.int .i64 n4), pl 5 (.int .i64 (geti g3 z1)), pl 7 (.int .i64 (geti (cut g3 (0 : Int) z1) z2)), pl 9 (.slice A1 g3.length c1), pl 10 (.int .i64 (g3.length : Int)), pl 11 (.int .i64 z1), pl 19 (.slice (cutAddr A1 c1 (0 : Int)) ((cut g3 (0 : Int) z1).length) (c1 - Int.toNat (0 : Int))), pl 20 (.int .i64 (((cut g3 (0 : Int) z1).length : Nat) : Int)), pl 21 (.int .i64 z2)] hF hS Fol (by kernel_rfl) (by kernel_rfl) (by kernel_rfl) ?_ (fun a w hF hS => ?_)
            · exact obs_cons (ob_ix1 (f := (Value.int .i64)) (m := (cut g3 (0 : Int) z1)) Und22 hi3 hs3 (Rd.cutF (hr_g3 _ (hS.dropN 1)) hp2 _hc_g3) rfl (fun _ => hp3)) <| obs_cons (ob_get1 (n := (cut g3 (0 : Int) z1).length) (m := (cut g3 (0 : Int) z1)) (Value.int .i64) (0 : Int) Agg3 (fun _ hS => ⟨_, (Rd.cutF (hr_g3 _ (hS.dropN 1)) hp2 _hc_g3)⟩) (fun _ hS => rfl) (fun _ => hp3)) <| obs_nil
            refine reg [] [] [1, 3, 5, 9, 10, 11, 19, 20, 21, 31] [pl 1 (.pointer (some ⟨g4, 0, none⟩)), pl 3 (.int .i64 n4), pl 5 (.int .i64 (geti g3 z1)), pl 9 (.slice A1 g3.length c1), pl 10 (.int .i64 (g3.length : Int)), pl 11 (.int .i64 z1), pl 19 (.slice (cutAddr A1 c1 (0 : Int)) ((cut g3 (0 : Int) z1).length) (c1 - Int.toNat (0 : Int))), pl 20 (.int .i64 (((cut g3 (0 : Int) z1).length : Nat) : Int)), pl 21 (.int .i64 z2), pl 31 (.bool ((decide ((0 : Int) < (geti g3 z1))) && (decide ((geti g3 z1) < (geti (cut g3 (0 : Int) z1) z2)))))] hF hS Fol (by kernel_rfl) (by kernel_rfl) (by kernel_rfl) ?_ (fun a w hF hS => ?_)
            · exact obs_nil
            refine cond_ev (t := 31) (b := (decide ((0 : Int) < (geti g3 z1))) && (decide ((geti g3 z1) < (geti (cut g3 (0 : Int) z1) z2)))) hF (by kernel_rfl) (fun hb => ?_) (fun hb => ?_)
            · replace hm := if_t hm hb
              refine reg1 [] [] [1, 3, 5, 9, 10, 11, 19, 20, 21] [pl 1 (.pointer (some ⟨g4, 0, none⟩)), pl 3 (.int .i64 (w64 (n4 + 1))), pl 5 (.int .i64 (geti g3 z1)), pl 9 (.slice A1 g3.length c1), pl 10 (.int .i64 (g3.length : Int)), pl 11 (.int .i64 z1), pl 19 (.slice (cutAddr A1 c1 (0 : Int)) ((cut g3 (0 : Int) z1).length) (c1 - Int.toNat (0 : Int))), pl 20 (.int .i64 (((cut g3 (0 : Int) z1).length : Nat) : Int)), pl 21 (.int .i64 z2)] hF hS Fol (by kernel_rfl) (by kernel_rfl) (by kernel_rfl) ?_ (fun a w hF hS => ?_)
              · exact obs_nil
              refine block_n ?_
              refine then_n ?_
              exact ⟨(w64 (n4 + 1)), hF.weak [1, 3, 5, 9, 10, 11, 19, 20, 21] (by kernel_rfl), hS, hm⟩
            · replace hm := if_f hm hb
              refine wp_skip ?_
              refine block_n ?_
              refine then_n ?_
              exact ⟨n4, hF.weak [1, 3, 5, 9, 10, 11, 19, 20, 21] (by kernel_rfl), hS, hm⟩
        · refine cond_ev (t := 22) (b := decide (z2 < (((cut g3 (0 : Int) z1).length : Nat) : Int))) hF (by kernel_rfl) (fun hb => ?_) (fun hb => ?_)
          · replace hm := if_t hm hb
            refine wp_skip ?_
            refine then_n ?_
            exact ⟨hF.weak [1, 3, 5, 9, 10, 11, 19, 20, 21] (by kernel_rfl), hS, hm⟩
          · replace hm := if_f hm hb
            refine wp_exit ?_
            refine then_e (then_e (block_e (block_n (then_n ?_))))
            rw [← hφ2] at hm
            replace hm := done_b hm
            unfold slide_parity_K2 at hm
            try dsimp only at hm
            have hm : ((slide_parity_J3 z1) n4).bind φ1 = some r := hm
            exact ⟨n4, hF.weak [1, 3, 9, 10, 11] (by kernel_rfl), hS, hm⟩
    · refine cond_ev (t := 12) (b := decide (z1 < (g3.length : Int))) hF (by kernel_rfl) (fun hb => ?_) (fun hb => ?_)
      · replace hm := if_t hm hb
        refine wp_skip ?_
        refine then_n ?_
        exact ⟨hF.weak [1, 3, 9, 10, 11] (by kernel_rfl), hS, hm⟩
      · replace hm := if_f hm hb
        refine wp_exit ?_
        refine then_e (then_e (block_e (then_n ?_)))
        rw [← hφ1] at hm
        replace hm := done_b hm
        unfold slide_parity_K1 at hm
        try dsimp only at hm
        have hm : ((slide_parity_J1 g1 g2 g3) n2).bind some = some r := hm
        exact ⟨n2, hF.weak [1, 3] (by kernel_rfl), hS, hm⟩

noncomputable def slide_Can_J1 (g1 : Int) (g2 : Int) (g3 : List Int) : Option (Bool × Int) :=
  (slide_parity_m g1 g2 g3).bind fun r2 => some ((r2 == 0), 0)

noncomputable def slide_Can_m (g1 : Int) (g2 : Int) (g3 : List Int) : Option (Bool × Int) :=
  (slide_May_m g1 g2 g3).bind fun r1 => if (!r1) then (some (false, 12)) else ((slide_Can_J1 g1 g2 g3))

set_option maxRecDepth 100000 in
set_option maxHeartbeats 4000000 in
theorem slide_Can_w {g1 : Int} {g2 : Int} {A1 : Option Addr} {c1 : Nat} {n1 : Nat} {g3 : List Int} {r : (Bool × Int)} {w0 w : World} {B : Nat} {fs : List HP} (hm : slide_Can_m g1 g2 g3 = some r) (hS : Sep w0 B w (fs)) (hr_g3 : RdF w0 B fs A1 (vI g3)) (_hc_g3 : g3.length ≤ c1) (_hn_g3 : n1 = g3.length) :
    Calls Try.prog 44 #[.agg #[.int .i64 g1, .int .i64 g2, .slice A1 n1 c1]] w fun e w' => e = .returned (.tuple #[.bool r.1, .int .i64 r.2]) ∧ Sep w0 B w' (fs) := by
  obtain ⟨i3, hi3, hz3, hs3, hb3⟩ := info_parts Info3
  obtain rfl := _hn_g3
  unfold slide_Can_m at hm
  replace hm := start_b hm
  refine enter (l := [.agg #[.int .i64 g1, .int .i64 g2, .slice A1 g3.length c1]]) (n := 10) Try.func44 rfl rfl (by simp) (fun a hF => ?_)
  refine seqR ?_
  refine at_do (d := 1) (s := vS (Instr.box 41 (.agg #[.int .i64 g1, .int .i64 g2, .slice A1 g3.length c1]))) (v := .pointer (some ⟨w.heap.size, 0, none⟩)) (w' := w.alloc (.cells #[.int .i64 g1, .int .i64 g2, .slice A1 g3.length c1] 41)) hF (by kernel_rfl) (by kernel_rfl) (by kernel_rfl) (fun a hF => ?_)
  have hS : Sep w0 B (w.alloc (.cells #[.int .i64 g1, .int .i64 g2, .slice A1 g3.length c1] 41)) (blk w.heap.size 41 #[.int .i64 g1, .int .i64 g2, .slice A1 g3.length c1] :: (fs)) := hS.box 41 #[.int .i64 g1, .int .i64 g2, .slice A1 g3.length c1]
  generalize w.heap.size = g4 at hF hS
  generalize w.alloc (.cells #[.int .i64 g1, .int .i64 g2, .slice A1 g3.length c1] 41) = w at hS ⊢
  refine at_run 2 [] [] [1] [pl 1 (.pointer (some ⟨g4, 0, none⟩))] hF hS (by kernel_rfl) (by kernel_rfl) ?_ (fun a w hF hS => ?_)
  · exact obs_nil
  refine at_end [1] [pl 1 (.pointer (some ⟨g4, 0, none⟩))] hF rfl (by kernel_rfl) (fun hF => ?_)
  refine then_n ?_
  refine seq_cut (fun a w => Fr 10 [pl 1 (.pointer (some ⟨g4, 0, none⟩))] a ∧ Sep w0 B w (blk g4 41 #[.int .i64 g1, .int .i64 g2, .slice A1 g3.length c1] :: fs) ∧ ((slide_Can_J1 g1 g2 g3)).bind some = some r) ?_ ?_
  · rintro a w ⟨hF, hS, hm⟩
    unfold slide_Can_J1 at hm
    obtain ⟨r2, hr2, hm⟩ := call_b hm
    refine reg [⟨false, [], vS (Instr.loadAt 41 (.pointer (some ⟨g4, 0, none⟩))), .agg #[.int .i64 g1, .int .i64 g2, .slice A1 g3.length c1]⟩, ⟨false, [], callFunc 112 #[.agg #[.int .i64 g1, .int .i64 g2, .slice A1 g3.length c1]], .int .i64 r2⟩] [some (.agg #[.int .i64 g1, .int .i64 g2, .slice A1 g3.length c1]), some (.int .i64 r2), none, none, none] [2, 3] [pl 2 (.bool (r2 == 0)), pl 3 (.int .i64 0)] hF hS Fol (by kernel_rfl) (by kernel_rfl) (by kernel_rfl) ?_ (fun a w hF hS => ?_)
    · exact obs_cons (ob_loadA (cs := #[.int .i64 g1, .int .i64 g2, .slice A1 g3.length c1]) (by kernel_rfl) (by kernel_rfl) (fun _ _ hS => (hS.at_ 0 rfl).cellsAt 0 (by rfl))) <| obs_cons (ob_call Try.func112 (by kernel_rfl) rfl (fun _ _ hS => slide_parity_w hr2 hS (fun _ hS => (hr_g3 _ (hS.dropN 1))) _hc_g3 rfl)) <| obs_nil
    refine wp_ret ?_
    have hS := hS.pickN 1 [] (by decide)
    have hm : some ((r2 == 0), 0) = some r := hm
    obtain rfl := Option.some.inj hm
    exact retV (rs := [.tmp 2, .tmp 3]) (vs := [.bool (r2 == 0), .int .i64 0]) hF rfl (rv_t (by kernel_rfl) <| rv_t (by kernel_rfl) <| rv_nil) rfl ⟨rfl, hS⟩
  · obtain ⟨r1, hr1, hm⟩ := call_b hm
    refine reg [⟨false, [], vS (Instr.loadAt 41 (.pointer (some ⟨g4, 0, none⟩))), .agg #[.int .i64 g1, .int .i64 g2, .slice A1 g3.length c1]⟩, ⟨false, [], callFunc 42 #[.agg #[.int .i64 g1, .int .i64 g2, .slice A1 g3.length c1]], .bool r1⟩] [some (.agg #[.int .i64 g1, .int .i64 g2, .slice A1 g3.length c1]), some (.bool r1), none] [1, 6] [pl 1 (.pointer (some ⟨g4, 0, none⟩)), pl 6 (.bool (!r1))] hF hS Fol (by kernel_rfl) (by kernel_rfl) (by kernel_rfl) ?_ (fun a w hF hS => ?_)
    · exact obs_cons (ob_loadA (cs := #[.int .i64 g1, .int .i64 g2, .slice A1 g3.length c1]) (by kernel_rfl) (by kernel_rfl) (fun _ _ hS => (hS.at_ 0 rfl).cellsAt 0 (by rfl))) <| obs_cons (ob_call Try.func42 (by kernel_rfl) rfl (fun _ _ hS => slide_May_w hr1 hS (fun _ hS => (hr_g3 _ (hS.dropN 1))) _hc_g3 rfl)) <| obs_nil
    refine cond_ev (t := 6) (b := !r1) hF (by kernel_rfl) (fun hb => ?_) (fun hb => ?_)
    · replace hm := if_t hm hb
      refine reg [] [] [2, 3] [pl 2 (.bool false), pl 3 (.int .i64 12)] hF hS Fol (by kernel_rfl) (by kernel_rfl) (by kernel_rfl) ?_ (fun a w hF hS => ?_)
      · exact obs_nil
      refine wp_ret ?_
      refine then_r ?_
      have hS := hS.pickN 1 [] (by decide)
      have hm : some (false, 12) = some r := hm
      obtain rfl := Option.some.inj hm
      exact retV (rs := [.tmp 2, .tmp 3]) (vs := [.bool false, .int .i64 12]) hF rfl (rv_t (by kernel_rfl) <| rv_t (by kernel_rfl) <| rv_nil) rfl ⟨rfl, hS⟩
    · replace hm := if_f hm hb
      refine wp_skip ?_
      refine then_n ?_
      exact ⟨hF.weak [1] (by kernel_rfl), hS, hm⟩

noncomputable def slide_Least_J4 (z1 : Int) (n4 : Int) : Option (St (Int × Int) Int) :=
  some (.next (n4, (w64 (z1 + 1))))

noncomputable def slide_Least_J3 (g1 : Int) (g3 : List Int) (n2 : Int) (z1 : Int) : Option (St (Int × Int) Int) :=
  asrt (0 ≤ z1 ∧ z1 < (g3.length : Int)) <| if (decide ((0 : Int) < (geti g3 z1))) then (asrt (g1 ≠ (0 : Int)) <| asrt (g1 ≠ (0 : Int)) <| asrt (g1 ≠ (0 : Int)) <| asrt (g1 ≠ (0 : Int)) <| (slide_Least_J4 z1) (w64 (n2 + (w64 ((maxI (w64 ((Int.tmod z1 g1) - (Int.tmod (w64 ((geti g3 z1) - 1)) g1))) (w64 (0 - (w64 ((Int.tmod z1 g1) - (Int.tmod (w64 ((geti g3 z1) - 1)) g1)))))) + (maxI (w64 ((w64 (Int.tdiv z1 g1)) - (w64 (Int.tdiv (w64 ((geti g3 z1) - 1)) g1)))) (w64 (0 - (w64 ((w64 (Int.tdiv z1 g1)) - (w64 (Int.tdiv (w64 ((geti g3 z1) - 1)) g1)))))))))))) else ((slide_Least_J4 z1) n2)

noncomputable def slide_Least_J2 (n3 : Int) : Option (Int × Int) :=
  some (n3, 0)

noncomputable def slide_Least_K1 : Int → Option (Int × Int) :=
  fun (x : Int) => match x with | n3 => slide_Least_J2 n3

noncomputable def slide_Least_L1 (g1 : Int) (g3 : List Int) : (Int × Int) → Option (St (Int × Int) Int) :=
  fun (x : (Int × Int)) => match x with | (n2, z1) => if (decide (z1 < (g3.length : Int))) then ((slide_Least_J3 g1 g3 n2 z1)) else (some (.done n2))

noncomputable def slide_Least_J1 (g1 : Int) (g3 : List Int) : Option (Int × Int) :=
  (loop (slide_Least_L1 g1 g3) (0, 0)).bind slide_Least_K1

noncomputable def slide_Least_m (g1 : Int) (g2 : Int) (g3 : List Int) : Option (Int × Int) :=
  (slide_May_m g1 g2 g3).bind fun r1 => if (!r1) then (some (0, 12)) else ((slide_Least_J1 g1 g3))

set_option maxRecDepth 100000 in
set_option maxHeartbeats 4000000 in
theorem slide_Least_w {g1 : Int} {g2 : Int} {A1 : Option Addr} {c1 : Nat} {n1 : Nat} {g3 : List Int} {r : (Int × Int)} {w0 w : World} {B : Nat} {fs : List HP} (hm : slide_Least_m g1 g2 g3 = some r) (hS : Sep w0 B w (fs)) (hr_g3 : RdF w0 B fs A1 (vI g3)) (_hc_g3 : g3.length ≤ c1) (_hn_g3 : n1 = g3.length) :
    Calls Try.prog 45 #[.agg #[.int .i64 g1, .int .i64 g2, .slice A1 n1 c1]] w fun e w' => e = .returned (.tuple #[.int .i64 r.1, .int .i64 r.2]) ∧ Sep w0 B w' (fs) := by
  obtain ⟨i3, hi3, hz3, hs3, hb3⟩ := info_parts Info3
  obtain rfl := _hn_g3
  unfold slide_Least_m at hm
  replace hm := start_b hm
  refine enter (l := [.agg #[.int .i64 g1, .int .i64 g2, .slice A1 g3.length c1]]) (n := 55) Try.func45 rfl rfl (by simp) (fun a hF => ?_)
  refine seqR ?_
  refine at_do (d := 1) (s := vS (Instr.box 41 (.agg #[.int .i64 g1, .int .i64 g2, .slice A1 g3.length c1]))) (v := .pointer (some ⟨w.heap.size, 0, none⟩)) (w' := w.alloc (.cells #[.int .i64 g1, .int .i64 g2, .slice A1 g3.length c1] 41)) hF (by kernel_rfl) (by kernel_rfl) (by kernel_rfl) (fun a hF => ?_)
  have hS : Sep w0 B (w.alloc (.cells #[.int .i64 g1, .int .i64 g2, .slice A1 g3.length c1] 41)) (blk w.heap.size 41 #[.int .i64 g1, .int .i64 g2, .slice A1 g3.length c1] :: (fs)) := hS.box 41 #[.int .i64 g1, .int .i64 g2, .slice A1 g3.length c1]
  generalize w.heap.size = g4 at hF hS
  generalize w.alloc (.cells #[.int .i64 g1, .int .i64 g2, .slice A1 g3.length c1] 41) = w at hS ⊢
  refine at_run 2 [] [] [1] [pl 1 (.pointer (some ⟨g4, 0, none⟩))] hF hS (by kernel_rfl) (by kernel_rfl) ?_ (fun a w hF hS => ?_)
  · exact obs_nil
  refine at_end [1] [pl 1 (.pointer (some ⟨g4, 0, none⟩))] hF rfl (by kernel_rfl) (fun hF => ?_)
  refine then_n ?_
  refine seq_cut (fun a w => Fr 55 [pl 1 (.pointer (some ⟨g4, 0, none⟩))] a ∧ Sep w0 B w (blk g4 41 #[.int .i64 g1, .int .i64 g2, .slice A1 g3.length c1] :: fs) ∧ ((slide_Least_J1 g1 g3)).bind some = some r) ?_ ?_
  · rintro a w ⟨hF, hS, hm⟩
    unfold slide_Least_J1 at hm
    refine reg [] [] [1, 4] [pl 1 (.pointer (some ⟨g4, 0, none⟩)), pl 4 (.int .i64 0)] hF hS Fol (by kernel_rfl) (by kernel_rfl) (by kernel_rfl) ?_ (fun a w hF hS => ?_)
    · exact obs_nil
    refine seq_cut (fun a w => ∃ (n3 : Int), Fr 55 [pl 4 (.int .i64 n3)] a ∧ Sep w0 B w (fs) ∧ (slide_Least_J2 n3).bind some = some r) ?_ ?_
    · rintro a w ⟨n3, hF, hS, hm⟩
      unfold slide_Least_J2 at hm
      refine reg [] [] [2, 3] [pl 2 (.int .i64 n3), pl 3 (.int .i64 0)] hF hS Fol (by kernel_rfl) (by kernel_rfl) (by kernel_rfl) ?_ (fun a w hF hS => ?_)
      · exact obs_nil
      refine wp_ret ?_
      have hm : some (n3, 0) = some r := hm
      obtain rfl := Option.some.inj hm
      exact retV (rs := [.tmp 2, .tmp 3]) (vs := [.int .i64 n3, .int .i64 0]) hF rfl (rv_t (by kernel_rfl) <| rv_t (by kernel_rfl) <| rv_nil) rfl ⟨rfl, hS⟩
    · refine reg [⟨false, [], vS (Instr.loadAt 22 (.pointer (some ⟨g4, 2, none⟩))), .slice A1 g3.length c1⟩] [none, some (.slice A1 g3.length c1), none, none] [1, 4, 13, 14, 15] [pl 1 (.pointer (some ⟨g4, 0, none⟩)), pl 4 (.int .i64 0), pl 13 (.slice A1 g3.length c1), pl 14 (.int .i64 (g3.length : Int)), pl 15 (.int .i64 0)] hF hS Fol (by kernel_rfl) (by kernel_rfl) (by kernel_rfl) ?_ (fun a w hF hS => ?_)
      · exact obs_cons (ob_load Agg22 (fun _ _ hS => (hS.at_ 0 rfl).cell rfl)) <| obs_nil
      refine wp_block ?_
      refine wp_loop_model (S := (Int × Int)) (R := Int) (slide_Least_L1 g1 g3) (fun x => (slide_Least_K1 x).bind some) r (fun (x : (Int × Int)) a w => Fr 55 [pl 1 (.pointer (some ⟨g4, 0, none⟩)), pl 4 (.int .i64 x.1), pl 13 (.slice A1 g3.length c1), pl 14 (.int .i64 (g3.length : Int)), pl 15 (.int .i64 x.2)] a ∧ Sep w0 B w (blk g4 41 #[.int .i64 g1, .int .i64 g2, .slice A1 g3.length c1] :: fs)) (assoc_b hm) ⟨hF.weak [1, 4, 13, 14, 15] (by kernel_rfl), hS⟩ ?_
      clear hF hS hm
      rintro nn1 ⟨n2, z1⟩ a w ⟨hF, hS⟩ hm
      generalize hφ1 : stK (slide_Least_L1 g1 g3) nn1 (fun x => (slide_Least_K1 x).bind some) = φ1 at hm
      unfold slide_Least_L1 at hm
      dsimp only at hF hS hm
      refine reg [] [] [1, 4, 13, 14, 15, 16] [pl 1 (.pointer (some ⟨g4, 0, none⟩)), pl 4 (.int .i64 n2), pl 13 (.slice A1 g3.length c1), pl 14 (.int .i64 (g3.length : Int)), pl 15 (.int .i64 z1), pl 16 (.bool (decide (z1 < (g3.length : Int))))] hF hS Fol (by kernel_rfl) (by kernel_rfl) (by kernel_rfl) ?_ (fun a w hF hS => ?_)
      · exact obs_nil
      refine seq_cut (fun a w => Fr 55 [pl 1 (.pointer (some ⟨g4, 0, none⟩)), pl 4 (.int .i64 n2), pl 13 (.slice A1 g3.length c1), pl 14 (.int .i64 (g3.length : Int)), pl 15 (.int .i64 z1)] a ∧ Sep w0 B w (blk g4 41 #[.int .i64 g1, .int .i64 g2, .slice A1 g3.length c1] :: fs) ∧ ((slide_Least_J3 g1 g3 n2 z1)).bind φ1 = some r) ?_ ?_
      · rintro a w ⟨hF, hS, hm⟩
        unfold slide_Least_J3 at hm
        refine seq_cut (fun a w => ∃ (n4 : Int), Fr 55 [pl 1 (.pointer (some ⟨g4, 0, none⟩)), pl 4 (.int .i64 n4), pl 13 (.slice A1 g3.length c1), pl 14 (.int .i64 (g3.length : Int)), pl 15 (.int .i64 z1)] a ∧ Sep w0 B w (blk g4 41 #[.int .i64 g1, .int .i64 g2, .slice A1 g3.length c1] :: fs) ∧ ((slide_Least_J4 z1) n4).bind φ1 = some r) ?_ ?_
        · rintro a w ⟨n4, hF, hS, hm⟩
          unfold slide_Least_J4 at hm
          refine reg1 [] [] [1, 4, 13, 14, 15] [pl 1 (.pointer (some ⟨g4, 0, none⟩)), pl 4 (.int .i64 n4), pl 13 (.slice A1 g3.length c1), pl 14 (.int .i64 (g3.length : Int)), pl 15 (.int .i64 (w64 (z1 + 1)))] hF hS Fol (by kernel_rfl) (by kernel_rfl) (by kernel_rfl) ?_ (fun a w hF hS => ?_)
          · exact obs_nil
          refine then_n ?_
          rw [← hφ1] at hm
          exact ⟨(n4, (w64 (z1 + 1))), ⟨hF.weak [1, 4, 13, 14, 15] (by kernel_rfl), hS⟩, hm⟩
        · refine wp_block ?_
          obtain ⟨hp1, hm⟩ := asrt_b hm
          refine reg [⟨true, [], vS (Instr.indexAt 22 (.slice A1 g3.length c1) (.int .i64 z1)), .pointer (some (sAddr A1 z1))⟩, ⟨false, [], vS (Instr.loadAt 3 (.pointer (some (sAddr A1 z1)))), .int .i64 (geti g3 z1)⟩] [none, some (.pointer (some (sAddr A1 z1))), some (.int .i64 (geti g3 z1)), none, none] [1, 4, 5, 6, 13, 14, 15] [pl 1 (.pointer (some ⟨g4, 0, none⟩)), pl 4 (.int .i64 n2), pl 5 (.int .i64 z1), pl 6 (.int .i64 (geti g3 z1)), pl 13 (.slice A1 g3.length c1), pl 14 (.int .i64 (g3.length : Int)), pl 15 (.int .i64 z1)] hF hS Fol (by kernel_rfl) (by kernel_rfl) (by kernel_rfl) ?_ (fun a w hF hS => ?_)
          · exact obs_cons (ob_ix1 (f := (Value.int .i64)) (m := g3) Und22 hi3 hs3 (hr_g3 _ (hS.dropN 1)) rfl (fun _ => hp1)) <| obs_cons (ob_get1 (n := g3.length) (m := g3) (Value.int .i64) (0 : Int) Agg3 (fun _ hS => ⟨_, (hr_g3 _ (hS.dropN 1))⟩) (fun _ hS => rfl) (fun _ => hp1)) <| obs_nil
          refine reg [] [] [1, 4, 5, 6, 13, 14, 15, 21] [pl 1 (.pointer (some ⟨g4, 0, none⟩)), pl 4 (.int .i64 n2), pl 5 (.int .i64 z1), pl 6 (.int .i64 (geti g3 z1)), pl 13 (.slice A1 g3.length c1), pl 14 (.int .i64 (g3.length : Int)), pl 15 (.int .i64 z1), pl 21 (.bool (decide ((0 : Int) < (geti g3 z1))))] hF hS Fol (by kernel_rfl) (by kernel_rfl) (by kernel_rfl) ?_ (fun a w hF hS => ?_)
          · exact obs_nil
          refine cond_ev (t := 21) (b := decide ((0 : Int) < (geti g3 z1))) hF (by kernel_rfl) (fun hb => ?_) (fun hb => ?_)
          · replace hm := if_t hm hb
            obtain ⟨hp2, hm⟩ := asrt_b hm
            obtain ⟨hp3, hm⟩ := asrt_b hm
            obtain ⟨hp4, hm⟩ := asrt_b hm
            obtain ⟨hp5, hm⟩ := asrt_b hm
            refine reg [⟨false, [], vS (Instr.loadAt 3 (.pointer (some ⟨g4, 0, none⟩))), .int .i64 g1⟩, ⟨true, [], vS (Op.intDiv .rem .i64 z1 g1), .int .i64 (Int.tmod z1 g1)⟩, ⟨false, [], vS (Instr.loadAt 3 (.pointer (some ⟨g4, 0, none⟩))), .int .i64 g1⟩, ⟨true, [], vS (Op.intDiv .rem .i64 (w64 ((geti g3 z1) - 1)) g1), .int .i64 (Int.tmod (w64 ((geti g3 z1) - 1)) g1)⟩, ⟨false, [], vS (Instr.loadAt 3 (.pointer (some ⟨g4, 0, none⟩))), .int .i64 g1⟩, ⟨true, [], vS (Op.intDiv .quo .i64 z1 g1), .int .i64 (w64 (Int.tdiv z1 g1))⟩, ⟨false, [], vS (Instr.loadAt 3 (.pointer (some ⟨g4, 0, none⟩))), .int .i64 g1⟩, ⟨true, [], vS (Op.intDiv .quo .i64 (w64 ((geti g3 z1) - 1)) g1), .int .i64 (w64 (Int.tdiv (w64 ((geti g3 z1) - 1)) g1))⟩] [none, none, some (.int .i64 g1), some (.int .i64 (Int.tmod z1 g1)), none, none, none, some (.int .i64 g1), some (.int .i64 (Int.tmod (w64 ((geti g3 z1) - 1)) g1)), none, none, none, some (.int .i64 g1), some (.int .i64 (w64 (Int.tdiv z1 g1))), none, none, none, some (.int .i64 g1), some (.int .i64 (w64 (Int.tdiv (w64 ((geti g3 z1) - 1)) g1))), none, none, none] [1, 4, 7, 8, 13, 14, 15] [pl 1 (.pointer (some ⟨g4, 0, none⟩)), pl 4 (.int .i64 n2), pl 7 (.int .i64 (w64 ((Int.tmod z1 g1) - (Int.tmod (w64 ((geti g3 z1) - 1)) g1)))), pl 8 (.int .i64 (w64 ((w64 (Int.tdiv z1 g1)) - (w64 (Int.tdiv (w64 ((geti g3 z1) - 1)) g1))))), pl 13 (.slice A1 g3.length c1), pl 14 (.int .i64 (g3.length : Int)), pl 15 (.int .i64 z1)] hF hS Fol (by kernel_rfl) (by kernel_rfl) (by kernel_rfl) ?_ (fun a w hF hS => ?_)
            · exact obs_cons (ob_load Agg3 (fun _ _ hS => (hS.at_ 0 rfl).cell rfl)) <| obs_cons (ob_rem rfl (fun _ => hp2)) <| obs_cons (ob_load Agg3 (fun _ _ hS => (hS.at_ 0 rfl).cell rfl)) <| obs_cons (ob_rem rfl (fun _ => hp3)) <| obs_cons (ob_load Agg3 (fun _ _ hS => (hS.at_ 0 rfl).cell rfl)) <| obs_cons (ob_quo rfl (fun _ => hp4)) <| obs_cons (ob_load Agg3 (fun _ _ hS => (hS.at_ 0 rfl).cell rfl)) <| obs_cons (ob_quo rfl (fun _ => hp5)) <| obs_nil
            refine reg1 [⟨true, [], vS (Builtin.max_ #[3, 3] 3 #[.int .i64 (w64 ((Int.tmod z1 g1) - (Int.tmod (w64 ((geti g3 z1) - 1)) g1))), .int .i64 (w64 (0 - (w64 ((Int.tmod z1 g1) - (Int.tmod (w64 ((geti g3 z1) - 1)) g1)))))]), .int .i64 (maxI (w64 ((Int.tmod z1 g1) - (Int.tmod (w64 ((geti g3 z1) - 1)) g1))) (w64 (0 - (w64 ((Int.tmod z1 g1) - (Int.tmod (w64 ((geti g3 z1) - 1)) g1))))))⟩, ⟨true, [], vS (Builtin.max_ #[3, 3] 3 #[.int .i64 (w64 ((w64 (Int.tdiv z1 g1)) - (w64 (Int.tdiv (w64 ((geti g3 z1) - 1)) g1)))), .int .i64 (w64 (0 - (w64 ((w64 (Int.tdiv z1 g1)) - (w64 (Int.tdiv (w64 ((geti g3 z1) - 1)) g1))))))]), .int .i64 (maxI (w64 ((w64 (Int.tdiv z1 g1)) - (w64 (Int.tdiv (w64 ((geti g3 z1) - 1)) g1)))) (w64 (0 - (w64 ((w64 (Int.tdiv z1 g1)) - (w64 (Int.tdiv (w64 ((geti g3 z1) - 1)) g1)))))))⟩] [none, none, none, none, some (.int .i64 (maxI (w64 ((Int.tmod z1 g1) - (Int.tmod (w64 ((geti g3 z1) - 1)) g1))) (w64 (0 - (w64 ((Int.tmod z1 g1) - (Int.tmod (w64 ((geti g3 z1) - 1)) g1))))))), none, none, none, some (.int .i64 (maxI (w64 ((w64 (Int.tdiv z1 g1)) - (w64 (Int.tdiv (w64 ((geti g3 z1) - 1)) g1)))) (w64 (0 - (w64 ((w64 (Int.tdiv z1 g1)) - (w64 (Int.tdiv (w64 ((geti g3 z1) - 1)) g1)))))))), none, none, none] [1, 4, 13, 14, 15] [pl 1 (.pointer (some ⟨g4, 0, none⟩)), pl 4 (.int .i64 (w64 (n2 + (w64 ((maxI (w64 ((Int.tmod z1 g1) - (Int.tmod (w64 ((geti g3 z1) - 1)) g1))) (w64 (0 - (w64 ((Int.tmod z1 g1) - (Int.tmod (w64 ((geti g3 z1) - 1)) g1)))))) + (maxI (w64 ((w64 (Int.tdiv z1 g1)) - (w64 (Int.tdiv (w64 ((geti g3 z1) - 1)) g1)))) (w64 (0 - (w64 ((w64 (Int.tdiv z1 g1)) - (w64 (Int.tdiv (w64 ((geti g3 z1) - 1)) g1)))))))))))), pl 13 (.slice A1 g3.length c1), pl 14 (.int .i64 (g3.length : Int)), pl 15 (.int .i64 z1)] hF hS Fol (by kernel_rfl) (by kernel_rfl) (by kernel_rfl) ?_ (fun a w hF hS => ?_)
            · exact obs_cons (ob_max rfl) <| obs_cons (ob_max rfl) <| obs_nil
            refine block_n ?_
            refine then_n ?_
            exact ⟨(w64 (n2 + (w64 ((maxI (w64 ((Int.tmod z1 g1) - (Int.tmod (w64 ((geti g3 z1) - 1)) g1))) (w64 (0 - (w64 ((Int.tmod z1 g1) - (Int.tmod (w64 ((geti g3 z1) - 1)) g1)))))) + (maxI (w64 ((w64 (Int.tdiv z1 g1)) - (w64 (Int.tdiv (w64 ((geti g3 z1) - 1)) g1)))) (w64 (0 - (w64 ((w64 (Int.tdiv z1 g1)) - (w64 (Int.tdiv (w64 ((geti g3 z1) - 1)) g1))))))))))), hF.weak [1, 4, 13, 14, 15] (by kernel_rfl), hS, hm⟩
          · replace hm := if_f hm hb
            refine wp_skip ?_
            refine block_n ?_
            refine then_n ?_
            exact ⟨n2, hF.weak [1, 4, 13, 14, 15] (by kernel_rfl), hS, hm⟩
      · refine cond_ev (t := 16) (b := decide (z1 < (g3.length : Int))) hF (by kernel_rfl) (fun hb => ?_) (fun hb => ?_)
        · replace hm := if_t hm hb
          refine wp_skip ?_
          refine then_n ?_
          exact ⟨hF.weak [1, 4, 13, 14, 15] (by kernel_rfl), hS, hm⟩
        · replace hm := if_f hm hb
          refine wp_exit ?_
          refine then_e (then_e (block_e (then_n ?_)))
          have hS := hS.pickN 1 [] (by decide)
          rw [← hφ1] at hm
          replace hm := done_b hm
          unfold slide_Least_K1 at hm
          try dsimp only at hm
          have hm : (slide_Least_J2 n2).bind some = some r := hm
          exact ⟨n2, hF.weak [4] (by kernel_rfl), hS, hm⟩
  · obtain ⟨r1, hr1, hm⟩ := call_b hm
    refine reg [⟨false, [], vS (Instr.loadAt 41 (.pointer (some ⟨g4, 0, none⟩))), .agg #[.int .i64 g1, .int .i64 g2, .slice A1 g3.length c1]⟩, ⟨false, [], callFunc 42 #[.agg #[.int .i64 g1, .int .i64 g2, .slice A1 g3.length c1]], .bool r1⟩] [some (.agg #[.int .i64 g1, .int .i64 g2, .slice A1 g3.length c1]), some (.bool r1), none] [1, 11] [pl 1 (.pointer (some ⟨g4, 0, none⟩)), pl 11 (.bool (!r1))] hF hS Fol (by kernel_rfl) (by kernel_rfl) (by kernel_rfl) ?_ (fun a w hF hS => ?_)
    · exact obs_cons (ob_loadA (cs := #[.int .i64 g1, .int .i64 g2, .slice A1 g3.length c1]) (by kernel_rfl) (by kernel_rfl) (fun _ _ hS => (hS.at_ 0 rfl).cellsAt 0 (by rfl))) <| obs_cons (ob_call Try.func42 (by kernel_rfl) rfl (fun _ _ hS => slide_May_w hr1 hS (fun _ hS => (hr_g3 _ (hS.dropN 1))) _hc_g3 rfl)) <| obs_nil
    refine cond_ev (t := 11) (b := !r1) hF (by kernel_rfl) (fun hb => ?_) (fun hb => ?_)
    · replace hm := if_t hm hb
      refine reg [] [] [2, 3] [pl 2 (.int .i64 0), pl 3 (.int .i64 12)] hF hS Fol (by kernel_rfl) (by kernel_rfl) (by kernel_rfl) ?_ (fun a w hF hS => ?_)
      · exact obs_nil
      refine wp_ret ?_
      refine then_r ?_
      have hS := hS.pickN 1 [] (by decide)
      have hm : some (0, 12) = some r := hm
      obtain rfl := Option.some.inj hm
      exact retV (rs := [.tmp 2, .tmp 3]) (vs := [.int .i64 0, .int .i64 12]) hF rfl (rv_t (by kernel_rfl) <| rv_t (by kernel_rfl) <| rv_nil) rfl ⟨rfl, hS⟩
    · replace hm := if_f hm hb
      refine wp_skip ?_
      refine then_n ?_
      exact ⟨hF.weak [1] (by kernel_rfl), hS, hm⟩

noncomputable def gameroomref_within_m (n1 : Int) (low1 : Int) (high1 : Int) : Option Bool :=
  some ((decide (low1 ≤ n1)) && (decide (n1 ≤ high1)))

set_option maxRecDepth 100000 in
set_option maxHeartbeats 4000000 in
theorem gameroomref_within_w {n1 : Int} {low1 : Int} {high1 : Int} {r : Bool} {w0 w : World} {B : Nat} {fs : List HP} (hm : gameroomref_within_m n1 low1 high1 = some r) (hS : Sep w0 B w (fs)) :
    Calls Try.prog 95 #[.int .i64 n1, .int .i64 low1, .int .i64 high1] w fun e w' => e = .returned (.bool r) ∧ Sep w0 B w' (fs) := by
  unfold gameroomref_within_m at hm
  replace hm := start_b hm
  refine enter (l := [.int .i64 n1, .int .i64 low1, .int .i64 high1]) (n := 15) Try.func95 rfl rfl (by simp) (fun a hF => ?_)
  refine reg [] [] [0, 1, 2] [pl 0 (.int .i64 n1), pl 1 (.int .i64 low1), pl 2 (.int .i64 high1)] hF hS Fol (by kernel_rfl) (by kernel_rfl) (by kernel_rfl) ?_ (fun a w hF hS => ?_)
  · exact obs_nil
  refine reg [] [] [6] [pl 6 (.bool ((decide (low1 ≤ n1)) && (decide (n1 ≤ high1))))] hF hS Fol (by kernel_rfl) (by kernel_rfl) (by kernel_rfl) ?_ (fun a w hF hS => ?_)
  · exact obs_nil
  refine wp_ret ?_
  have hm : some ((decide (low1 ≤ n1)) && (decide (n1 ≤ high1))) = some r := hm
  obtain rfl := Option.some.inj hm
  exact retV (rs := [.tmp 6]) (vs := [.bool ((decide (low1 ≤ n1)) && (decide (n1 ≤ high1)))]) hF rfl (rv_t (by kernel_rfl) <| rv_nil) rfl ⟨rfl, hS⟩

noncomputable def gameroomref_at_J3 (i1 : Int) : Option (St Int (Fl Unit Int)) :=
  some (.next (w64 (i1 + 1)))

noncomputable def gameroomref_at_J2 (l1 : List Int) (n2 : Int) (i1 : Int) : Option (St Int (Fl Unit Int)) :=
  asrt (0 ≤ i1 ∧ i1 < (l1.length : Int)) <| if ((geti l1 i1) == n2) then (some (.done (.ret i1))) else ((gameroomref_at_J3 i1))

noncomputable def gameroomref_at_J1 : Option Int :=
  some (-1)

noncomputable def gameroomref_at_K1 : (Fl Unit Int) → Option Int :=
  fun (x : (Fl Unit Int)) => match x with | .go _ => gameroomref_at_J1 | .ret x => some x

noncomputable def gameroomref_at_L1 (l1 : List Int) (n2 : Int) : Int → Option (St Int (Fl Unit Int)) :=
  fun (x : Int) => match x with | i1 => if (decide (i1 < (l1.length : Int))) then ((gameroomref_at_J2 l1 n2 i1)) else (some (.done (.go ())))

noncomputable def gameroomref_at_m (l1 : List Int) (n2 : Int) : Option Int :=
  (loop (gameroomref_at_L1 l1 n2) 0).bind gameroomref_at_K1

set_option maxRecDepth 100000 in
set_option maxHeartbeats 4000000 in
theorem gameroomref_at_w {A1 : Option Addr} {c1 : Nat} {n1 : Nat} {l1 : List Int} {n2 : Int} {r : Int} {w0 w : World} {B : Nat} {fs : List HP} (hm : gameroomref_at_m l1 n2 = some r) (hS : Sep w0 B w (fs)) (hr_l1 : RdF w0 B fs A1 (vI l1)) (_hc_l1 : l1.length ≤ c1) (_hn_l1 : n1 = l1.length) :
    Calls Try.prog 87 #[.slice A1 n1 c1, .int .i64 n2] w fun e w' => e = .returned (.int .i64 r) ∧ Sep w0 B w' (fs) := by
  obtain ⟨i3, hi3, hz3, hs3, hb3⟩ := info_parts Info3
  obtain rfl := _hn_l1
  unfold gameroomref_at_m at hm
  replace hm := start_b hm
  refine enter (l := [.slice A1 l1.length c1, .int .i64 n2]) (n := 19) Try.func87 rfl rfl (by simp) (fun a hF => ?_)
  refine reg [] [] [0, 1] [pl 0 (.slice A1 l1.length c1), pl 1 (.int .i64 n2)] hF hS Fol (by kernel_rfl) (by kernel_rfl) (by kernel_rfl) ?_ (fun a w hF hS => ?_)
  · exact obs_nil
  refine seq_cut (fun a w => Fr 19 [] a ∧ Sep w0 B w (fs) ∧ (gameroomref_at_J1).bind some = some r) ?_ ?_
  · rintro a w ⟨hF, hS, hm⟩
    unfold gameroomref_at_J1 at hm
    refine reg [] [] [4] [pl 4 (.int .i64 (-1))] hF hS Fol (by kernel_rfl) (by kernel_rfl) (by kernel_rfl) ?_ (fun a w hF hS => ?_)
    · exact obs_nil
    refine wp_ret ?_
    have hm : some (-1) = some r := hm
    obtain rfl := Option.some.inj hm
    exact retV (rs := [.tmp 4]) (vs := [.int .i64 (-1)]) hF rfl (rv_t (by kernel_rfl) <| rv_nil) rfl ⟨rfl, hS⟩
  · refine reg [] [] [0, 1, 5] [pl 0 (.slice A1 l1.length c1), pl 1 (.int .i64 n2), pl 5 (.int .i64 0)] hF hS Fol (by kernel_rfl) (by kernel_rfl) (by kernel_rfl) ?_ (fun a w hF hS => ?_)
    · exact obs_nil
    refine wp_block ?_
    refine wp_loop_model (S := Int) (R := (Fl Unit Int)) (gameroomref_at_L1 l1 n2) (fun x => (gameroomref_at_K1 x).bind some) r (fun (x : Int) a w => Fr 19 [pl 0 (.slice A1 l1.length c1), pl 1 (.int .i64 n2), pl 5 (.int .i64 x)] a ∧ Sep w0 B w (fs)) (assoc_b hm) ⟨hF.weak [0, 1, 5] (by kernel_rfl), hS⟩ ?_
    clear hF hS hm
    rintro nn1 i1 a w ⟨hF, hS⟩ hm
    generalize hφ1 : stK (gameroomref_at_L1 l1 n2) nn1 (fun x => (gameroomref_at_K1 x).bind some) = φ1 at hm
    unfold gameroomref_at_L1 at hm
    dsimp only at hm
    refine seq_cut (fun a w => Fr 19 [pl 0 (.slice A1 l1.length c1), pl 1 (.int .i64 n2), pl 5 (.int .i64 i1)] a ∧ Sep w0 B w (fs) ∧ ((gameroomref_at_J2 l1 n2 i1)).bind φ1 = some r) ?_ ?_
    · rintro a w ⟨hF, hS, hm⟩
      unfold gameroomref_at_J2 at hm
      refine seq_cut (fun a w => Fr 19 [pl 0 (.slice A1 l1.length c1), pl 1 (.int .i64 n2), pl 5 (.int .i64 i1)] a ∧ Sep w0 B w (fs) ∧ ((gameroomref_at_J3 i1)).bind φ1 = some r) ?_ ?_
      · rintro a w ⟨hF, hS, hm⟩
        unfold gameroomref_at_J3 at hm
        refine reg1 [] [] [0, 1, 5] [pl 0 (.slice A1 l1.length c1), pl 1 (.int .i64 n2), pl 5 (.int .i64 (w64 (i1 + 1)))] hF hS Fol (by kernel_rfl) (by kernel_rfl) (by kernel_rfl) ?_ (fun a w hF hS => ?_)
        · exact obs_nil
        refine then_n ?_
        rw [← hφ1] at hm
        exact ⟨(w64 (i1 + 1)), ⟨hF.weak [0, 1, 5] (by kernel_rfl), hS⟩, hm⟩
      · refine wp_block ?_
        obtain ⟨hp1, hm⟩ := asrt_b hm
        refine reg [⟨true, [], vS (Instr.indexAt 22 (.slice A1 l1.length c1) (.int .i64 i1)), .pointer (some (sAddr A1 i1))⟩, ⟨false, [], vS (Instr.loadAt 3 (.pointer (some (sAddr A1 i1)))), .int .i64 (geti l1 i1)⟩] [none, none, some (.pointer (some (sAddr A1 i1))), some (.int .i64 (geti l1 i1)), none, none] [0, 1, 5, 17] [pl 0 (.slice A1 l1.length c1), pl 1 (.int .i64 n2), pl 5 (.int .i64 i1), pl 17 (.bool ((geti l1 i1) == n2))] hF hS Fol (by kernel_rfl) (by kernel_rfl) (by kernel_rfl) ?_ (fun a w hF hS => ?_)
        · exact obs_cons (ob_ix1 (f := (Value.int .i64)) (m := l1) Und22 hi3 hs3 (hr_l1 _ (hS.dropN 0)) rfl (fun _ => hp1)) <| obs_cons (ob_get1 (n := l1.length) (m := l1) (Value.int .i64) (0 : Int) Agg3 (fun _ hS => ⟨_, (hr_l1 _ (hS.dropN 0))⟩) (fun _ hS => rfl) (fun _ => hp1)) <| obs_nil
        refine cond_ev (t := 17) (b := ((geti l1 i1) == n2)) hF (by kernel_rfl) (fun hb => ?_) (fun hb => ?_)
        · replace hm := if_t hm hb
          refine reg [] [] [4] [pl 4 (.int .i64 i1)] hF hS Fol (by kernel_rfl) (by kernel_rfl) (by kernel_rfl) ?_ (fun a w hF hS => ?_)
          · exact obs_nil
          refine wp_ret ?_
          refine block_r (then_r (then_r (block_r (then_r ?_))))
          rw [← hφ1] at hm
          replace hm := done_b hm
          unfold gameroomref_at_K1 at hm
          try dsimp only at hm
          have hm : some i1 = some r := hm
          obtain rfl := Option.some.inj hm
          exact retV (rs := [.tmp 4]) (vs := [.int .i64 i1]) hF rfl (rv_t (by kernel_rfl) <| rv_nil) rfl ⟨rfl, hS⟩
        · replace hm := if_f hm hb
          refine wp_skip ?_
          refine block_n ?_
          refine then_n ?_
          exact ⟨hF.weak [0, 1, 5] (by kernel_rfl), hS, hm⟩
    · refine reg [] [] [0, 1, 5, 9] [pl 0 (.slice A1 l1.length c1), pl 1 (.int .i64 n2), pl 5 (.int .i64 i1), pl 9 (.bool (decide (i1 < (l1.length : Int))))] hF hS Fol (by kernel_rfl) (by kernel_rfl) (by kernel_rfl) ?_ (fun a w hF hS => ?_)
      · exact obs_nil
      refine cond_ev (t := 9) (b := decide (i1 < (l1.length : Int))) hF (by kernel_rfl) (fun hb => ?_) (fun hb => ?_)
      · replace hm := if_t hm hb
        refine wp_skip ?_
        refine then_n ?_
        exact ⟨hF.weak [0, 1, 5] (by kernel_rfl), hS, hm⟩
      · replace hm := if_f hm hb
        refine wp_exit ?_
        refine then_e (then_e (block_e (then_n ?_)))
        rw [← hφ1] at hm
        replace hm := done_b hm
        unfold gameroomref_at_K1 at hm
        try dsimp only at hm
        have hm : (gameroomref_at_J1).bind some = some r := hm
        exact ⟨hF.weak [] (by kernel_rfl), hS, hm⟩

noncomputable def gameroomref_OrderIs_J3 (i1 : Int) : Option (St Int (Fl Unit Bool)) :=
  some (.next (w64 (i1 + 1)))

noncomputable def gameroomref_OrderIs_J2 (l1 : List Int) (i1 : Int) : Option (St Int (Fl Unit Bool)) :=
  (gameroomref_at_m l1 i1).bind fun r1 => if (decide (r1 < 0)) then (some (.done (.ret false))) else ((gameroomref_OrderIs_J3 i1))

noncomputable def gameroomref_OrderIs_J1 : Option Bool :=
  some true

noncomputable def gameroomref_OrderIs_K1 : (Fl Unit Bool) → Option Bool :=
  fun (x : (Fl Unit Bool)) => match x with | .go _ => gameroomref_OrderIs_J1 | .ret x => some x

noncomputable def gameroomref_OrderIs_L1 (l1 : List Int) : Int → Option (St Int (Fl Unit Bool)) :=
  fun (x : Int) => match x with | i1 => if (decide (i1 < (l1.length : Int))) then ((gameroomref_OrderIs_J2 l1 i1)) else (some (.done (.go ())))

noncomputable def gameroomref_OrderIs_m (l1 : List Int) : Option Bool :=
  (loop (gameroomref_OrderIs_L1 l1) 0).bind gameroomref_OrderIs_K1

set_option maxRecDepth 100000 in
set_option maxHeartbeats 4000000 in
theorem gameroomref_OrderIs_w {A1 : Option Addr} {c1 : Nat} {n1 : Nat} {l1 : List Int} {r : Bool} {w0 w : World} {B : Nat} {fs : List HP} (hm : gameroomref_OrderIs_m l1 = some r) (hS : Sep w0 B w (fs)) (hr_l1 : RdF w0 B fs A1 (vI l1)) (_hc_l1 : l1.length ≤ c1) (_hn_l1 : n1 = l1.length) :
    Calls Try.prog 19 #[.slice A1 n1 c1] w fun e w' => e = .returned (.bool r) ∧ Sep w0 B w' (fs) := by
  obtain ⟨i3, hi3, hz3, hs3, hb3⟩ := info_parts Info3
  obtain rfl := _hn_l1
  unfold gameroomref_OrderIs_m at hm
  replace hm := start_b hm
  refine enter (l := [.slice A1 l1.length c1]) (n := 14) Try.func19 rfl rfl (by simp) (fun a hF => ?_)
  refine reg [] [] [0] [pl 0 (.slice A1 l1.length c1)] hF hS Fol (by kernel_rfl) (by kernel_rfl) (by kernel_rfl) ?_ (fun a w hF hS => ?_)
  · exact obs_nil
  refine seq_cut (fun a w => Fr 14 [] a ∧ Sep w0 B w (fs) ∧ (gameroomref_OrderIs_J1).bind some = some r) ?_ ?_
  · rintro a w ⟨hF, hS, hm⟩
    unfold gameroomref_OrderIs_J1 at hm
    refine reg [] [] [2] [pl 2 (.bool true)] hF hS Fol (by kernel_rfl) (by kernel_rfl) (by kernel_rfl) ?_ (fun a w hF hS => ?_)
    · exact obs_nil
    refine wp_ret ?_
    have hm : some true = some r := hm
    obtain rfl := Option.some.inj hm
    exact retV (rs := [.tmp 2]) (vs := [.bool true]) hF rfl (rv_t (by kernel_rfl) <| rv_nil) rfl ⟨rfl, hS⟩
  · refine reg [] [] [0, 3] [pl 0 (.slice A1 l1.length c1), pl 3 (.int .i64 0)] hF hS Fol (by kernel_rfl) (by kernel_rfl) (by kernel_rfl) ?_ (fun a w hF hS => ?_)
    · exact obs_nil
    refine wp_block ?_
    refine wp_loop_model (S := Int) (R := (Fl Unit Bool)) (gameroomref_OrderIs_L1 l1) (fun x => (gameroomref_OrderIs_K1 x).bind some) r (fun (x : Int) a w => Fr 14 [pl 0 (.slice A1 l1.length c1), pl 3 (.int .i64 x)] a ∧ Sep w0 B w (fs)) (assoc_b hm) ⟨hF.weak [0, 3] (by kernel_rfl), hS⟩ ?_
    clear hF hS hm
    rintro nn1 i1 a w ⟨hF, hS⟩ hm
    generalize hφ1 : stK (gameroomref_OrderIs_L1 l1) nn1 (fun x => (gameroomref_OrderIs_K1 x).bind some) = φ1 at hm
    unfold gameroomref_OrderIs_L1 at hm
    dsimp only at hm
    refine seq_cut (fun a w => Fr 14 [pl 0 (.slice A1 l1.length c1), pl 3 (.int .i64 i1)] a ∧ Sep w0 B w (fs) ∧ ((gameroomref_OrderIs_J2 l1 i1)).bind φ1 = some r) ?_ ?_
    · rintro a w ⟨hF, hS, hm⟩
      unfold gameroomref_OrderIs_J2 at hm
      refine seq_cut (fun a w => Fr 14 [pl 0 (.slice A1 l1.length c1), pl 3 (.int .i64 i1)] a ∧ Sep w0 B w (fs) ∧ ((gameroomref_OrderIs_J3 i1)).bind φ1 = some r) ?_ ?_
      · rintro a w ⟨hF, hS, hm⟩
        unfold gameroomref_OrderIs_J3 at hm
        refine reg1 [] [] [0, 3] [pl 0 (.slice A1 l1.length c1), pl 3 (.int .i64 (w64 (i1 + 1)))] hF hS Fol (by kernel_rfl) (by kernel_rfl) (by kernel_rfl) ?_ (fun a w hF hS => ?_)
        · exact obs_nil
        refine then_n ?_
        rw [← hφ1] at hm
        exact ⟨(w64 (i1 + 1)), ⟨hF.weak [0, 3] (by kernel_rfl), hS⟩, hm⟩
      · refine wp_block ?_
        obtain ⟨r1, hr1, hm⟩ := call_b hm
        refine reg [⟨false, [], callFunc 87 #[.slice A1 l1.length c1, .int .i64 i1], .int .i64 r1⟩] [none, none, some (.int .i64 r1), none] [0, 3, 13] [pl 0 (.slice A1 l1.length c1), pl 3 (.int .i64 i1), pl 13 (.bool (decide (r1 < 0)))] hF hS Fol (by kernel_rfl) (by kernel_rfl) (by kernel_rfl) ?_ (fun a w hF hS => ?_)
        · exact obs_cons (ob_call Try.func87 (by kernel_rfl) rfl (fun _ _ hS => gameroomref_at_w hr1 hS (fun _ hS => (hr_l1 _ (hS.dropN 0))) _hc_l1 rfl)) <| obs_nil
        refine cond_ev (t := 13) (b := decide (r1 < 0)) hF (by kernel_rfl) (fun hb => ?_) (fun hb => ?_)
        · replace hm := if_t hm hb
          refine reg [] [] [2] [pl 2 (.bool false)] hF hS Fol (by kernel_rfl) (by kernel_rfl) (by kernel_rfl) ?_ (fun a w hF hS => ?_)
          · exact obs_nil
          refine wp_ret ?_
          refine block_r (then_r (then_r (block_r (then_r ?_))))
          rw [← hφ1] at hm
          replace hm := done_b hm
          unfold gameroomref_OrderIs_K1 at hm
          try dsimp only at hm
          have hm : some false = some r := hm
          obtain rfl := Option.some.inj hm
          exact retV (rs := [.tmp 2]) (vs := [.bool false]) hF rfl (rv_t (by kernel_rfl) <| rv_nil) rfl ⟨rfl, hS⟩
        · replace hm := if_f hm hb
          refine wp_skip ?_
          refine block_n ?_
          refine then_n ?_
          exact ⟨hF.weak [0, 3] (by kernel_rfl), hS, hm⟩
    · refine reg [] [] [0, 3, 7] [pl 0 (.slice A1 l1.length c1), pl 3 (.int .i64 i1), pl 7 (.bool (decide (i1 < (l1.length : Int))))] hF hS Fol (by kernel_rfl) (by kernel_rfl) (by kernel_rfl) ?_ (fun a w hF hS => ?_)
      · exact obs_nil
      refine cond_ev (t := 7) (b := decide (i1 < (l1.length : Int))) hF (by kernel_rfl) (fun hb => ?_) (fun hb => ?_)
      · replace hm := if_t hm hb
        refine wp_skip ?_
        refine then_n ?_
        exact ⟨hF.weak [0, 3] (by kernel_rfl), hS, hm⟩
      · replace hm := if_f hm hb
        refine wp_exit ?_
        refine then_e (then_e (block_e (then_n ?_)))
        rw [← hφ1] at hm
        replace hm := done_b hm
        unfold gameroomref_OrderIs_K1 at hm
        try dsimp only at hm
        have hm : (gameroomref_OrderIs_J1).bind some = some r := hm
        exact ⟨hF.weak [] (by kernel_rfl), hS, hm⟩

noncomputable def gameroomref_SlideMay_J1 (g3 : List Int) : Option Bool :=
  (gameroomref_OrderIs_m g3).bind fun r3 => some r3

noncomputable def gameroomref_SlideMay_m (g1 : Int) (g2 : Int) (g3 : List Int) : Option Bool :=
  (gameroomref_within_m g1 2 5).bind fun r1 => ((if (!(!r1)) then gameroomref_within_m g2 2 5 else some false)).bind fun r2 => if (((!r1) || (!r2)) || ((g3.length : Int) != (w64 (g1 * g2)))) then (some false) else ((gameroomref_SlideMay_J1 g3))

set_option maxRecDepth 100000 in
set_option maxHeartbeats 4000000 in
theorem gameroomref_SlideMay_w {g1 : Int} {g2 : Int} {A1 : Option Addr} {c1 : Nat} {n1 : Nat} {g3 : List Int} {r : Bool} {w0 w : World} {B : Nat} {fs : List HP} (hm : gameroomref_SlideMay_m g1 g2 g3 = some r) (hS : Sep w0 B w (fs)) (hr_g3 : RdF w0 B fs A1 (vI g3)) (_hc_g3 : g3.length ≤ c1) (_hn_g3 : n1 = g3.length) :
    Calls Try.prog 46 #[.agg #[.int .i64 g1, .int .i64 g2, .slice A1 n1 c1]] w fun e w' => e = .returned (.bool r) ∧ Sep w0 B w' (fs) := by
  obtain ⟨i3, hi3, hz3, hs3, hb3⟩ := info_parts Info3
  obtain rfl := _hn_g3
  unfold gameroomref_SlideMay_m at hm
  replace hm := start_b hm
  refine enter (l := [.agg #[.int .i64 g1, .int .i64 g2, .slice A1 g3.length c1]]) (n := 27) Try.func46 rfl rfl (by simp) (fun a hF => ?_)
  refine seqR ?_
  refine at_do (d := 1) (s := vS (Instr.box 41 (.agg #[.int .i64 g1, .int .i64 g2, .slice A1 g3.length c1]))) (v := .pointer (some ⟨w.heap.size, 0, none⟩)) (w' := w.alloc (.cells #[.int .i64 g1, .int .i64 g2, .slice A1 g3.length c1] 41)) hF (by kernel_rfl) (by kernel_rfl) (by kernel_rfl) (fun a hF => ?_)
  have hS : Sep w0 B (w.alloc (.cells #[.int .i64 g1, .int .i64 g2, .slice A1 g3.length c1] 41)) (blk w.heap.size 41 #[.int .i64 g1, .int .i64 g2, .slice A1 g3.length c1] :: (fs)) := hS.box 41 #[.int .i64 g1, .int .i64 g2, .slice A1 g3.length c1]
  generalize w.heap.size = g4 at hF hS
  generalize w.alloc (.cells #[.int .i64 g1, .int .i64 g2, .slice A1 g3.length c1] 41) = w at hS ⊢
  refine at_run 1 [] [] [1] [pl 1 (.pointer (some ⟨g4, 0, none⟩))] hF hS (by kernel_rfl) (by kernel_rfl) ?_ (fun a w hF hS => ?_)
  · exact obs_nil
  refine at_end [1] [pl 1 (.pointer (some ⟨g4, 0, none⟩))] hF rfl (by kernel_rfl) (fun hF => ?_)
  refine then_n ?_
  refine seq_cut (fun a w => Fr 27 [pl 1 (.pointer (some ⟨g4, 0, none⟩))] a ∧ Sep w0 B w (blk g4 41 #[.int .i64 g1, .int .i64 g2, .slice A1 g3.length c1] :: fs) ∧ ((gameroomref_SlideMay_J1 g3)).bind some = some r) ?_ ?_
  · rintro a w ⟨hF, hS, hm⟩
    unfold gameroomref_SlideMay_J1 at hm
    obtain ⟨r3, hr3, hm⟩ := call_b hm
    refine reg [⟨false, [], vS (Instr.loadAt 22 (.pointer (some ⟨g4, 2, none⟩))), .slice A1 g3.length c1⟩, ⟨false, [], callFunc 19 #[.slice A1 g3.length c1], .bool r3⟩] [none, some (.slice A1 g3.length c1), some (.bool r3), none] [2] [pl 2 (.bool r3)] hF hS Fol (by kernel_rfl) (by kernel_rfl) (by kernel_rfl) ?_ (fun a w hF hS => ?_)
    · exact obs_cons (ob_load Agg22 (fun _ _ hS => (hS.at_ 0 rfl).cell rfl)) <| obs_cons (ob_call Try.func19 (by kernel_rfl) rfl (fun _ _ hS => gameroomref_OrderIs_w hr3 hS (fun _ hS => (hr_g3 _ (hS.dropN 1))) _hc_g3 rfl)) <| obs_nil
    refine wp_ret ?_
    have hS := hS.pickN 1 [] (by decide)
    have hm : some r3 = some r := hm
    obtain rfl := Option.some.inj hm
    exact retV (rs := [.tmp 2]) (vs := [.bool r3]) hF rfl (rv_t (by kernel_rfl) <| rv_nil) rfl ⟨rfl, hS⟩
  · obtain ⟨r1, hr1, hm⟩ := call_b hm
    obtain ⟨r2, hr2, hm⟩ := call_b hm
    refine reg [⟨false, [], vS (Instr.loadAt 3 (.pointer (some ⟨g4, 0, none⟩))), .int .i64 g1⟩, ⟨false, [], callFunc 95 #[.int .i64 g1, .int .i64 2, .int .i64 5], .bool r1⟩, ⟨false, [(!r1, false)], vS (Instr.loadAt 3 (.pointer (some ⟨g4, 1, none⟩))), .int .i64 g2⟩, ⟨false, [(!r1, false)], callFunc 95 #[.int .i64 g2, .int .i64 2, .int .i64 5], .bool r2⟩, ⟨false, [((!r1) || (!r2), false)], vS (Instr.loadAt 22 (.pointer (some ⟨g4, 2, none⟩))), .slice A1 g3.length c1⟩, ⟨false, [((!r1) || (!r2), false)], vS (Instr.loadAt 3 (.pointer (some ⟨g4, 0, none⟩))), .int .i64 g1⟩, ⟨false, [((!r1) || (!r2), false)], vS (Instr.loadAt 3 (.pointer (some ⟨g4, 1, none⟩))), .int .i64 g2⟩] [none, some (.int .i64 g1), some (.bool r1), none, none, none, some (.int .i64 g2), some (.bool r2), none, none, none, none, some (.slice A1 g3.length c1), none, none, some (.int .i64 g1), none, some (.int .i64 g2), none, none, none] [1, 23] [pl 1 (.pointer (some ⟨g4, 0, none⟩)), pl 23 (.bool (((!r1) || (!r2)) || ((g3.length : Int) != (w64 (g1 * g2)))))] hF hS Fol (by kernel_rfl) (by kernel_rfl) (by kernel_rfl) ?_ (fun a w hF hS => ?_)
    · exact obs_cons (ob_load Agg3 (fun _ _ hS => (hS.at_ 0 rfl).cell rfl)) <| obs_cons (ob_call Try.func95 (by kernel_rfl) rfl (fun _ _ hS => gameroomref_within_w hr1 hS )) <| obs_cons (ob_load Agg3 (fun _ _ hS => (hS.at_ 0 rfl).cell rfl)) <| obs_cons (ob_call Try.func95 (by kernel_rfl) rfl (fun hy _ hS => gameroomref_within_w (ite_some hr2 (by rw [show (!r1) = false from hy (!r1, false) (by simp)]; try rfl)) hS )) <| obs_cons (ob_load Agg22 (fun _ _ hS => (hS.at_ 0 rfl).cell rfl)) <| obs_cons (ob_load Agg3 (fun _ _ hS => (hS.at_ 0 rfl).cell rfl)) <| obs_cons (ob_load Agg3 (fun _ _ hS => (hS.at_ 0 rfl).cell rfl)) <| obs_nil
    refine cond_ev (t := 23) (b := ((!r1) || (!r2)) || ((g3.length : Int) != (w64 (g1 * g2)))) hF (by kernel_rfl) (fun hb => ?_) (fun hb => ?_)
    · replace hm := if_t hm hb
      refine reg [] [] [2] [pl 2 (.bool false)] hF hS Fol (by kernel_rfl) (by kernel_rfl) (by kernel_rfl) ?_ (fun a w hF hS => ?_)
      · exact obs_nil
      refine wp_ret ?_
      refine then_r ?_
      have hS := hS.pickN 1 [] (by decide)
      have hm : some false = some r := hm
      obtain rfl := Option.some.inj hm
      exact retV (rs := [.tmp 2]) (vs := [.bool false]) hF rfl (rv_t (by kernel_rfl) <| rv_nil) rfl ⟨rfl, hS⟩
    · replace hm := if_f hm hb
      refine wp_skip ?_
      refine then_n ?_
      exact ⟨hF.weak [1] (by kernel_rfl), hS, hm⟩

noncomputable def gameroomlaw_noGrid_m (g1 : Int) (g2 : Int) (g3 : List Int) : Option Bool :=
  some (((g1 == 0) && (g2 == 0)) && ((g3.length : Int) == 0))

set_option maxRecDepth 100000 in
set_option maxHeartbeats 4000000 in
theorem gameroomlaw_noGrid_w {g1 : Int} {g2 : Int} {A1 : Option Addr} {c1 : Nat} {n1 : Nat} {g3 : List Int} {r : Bool} {w0 w : World} {B : Nat} {fs : List HP} (hm : gameroomlaw_noGrid_m g1 g2 g3 = some r) (hS : Sep w0 B w (fs)) (hr_g3 : RdF w0 B fs A1 (vI g3)) (_hc_g3 : g3.length ≤ c1) (_hn_g3 : n1 = g3.length) :
    Calls Try.prog 35 #[.agg #[.int .i64 g1, .int .i64 g2, .slice A1 n1 c1]] w fun e w' => e = .returned (.bool r) ∧ Sep w0 B w' (fs) := by
  obtain ⟨i3, hi3, hz3, hs3, hb3⟩ := info_parts Info3
  obtain rfl := _hn_g3
  unfold gameroomlaw_noGrid_m at hm
  replace hm := start_b hm
  refine enter (l := [.agg #[.int .i64 g1, .int .i64 g2, .slice A1 g3.length c1]]) (n := 17) Try.func35 rfl rfl (by simp) (fun a hF => ?_)
  refine seqR ?_
  refine at_do (d := 1) (s := vS (Instr.box 41 (.agg #[.int .i64 g1, .int .i64 g2, .slice A1 g3.length c1]))) (v := .pointer (some ⟨w.heap.size, 0, none⟩)) (w' := w.alloc (.cells #[.int .i64 g1, .int .i64 g2, .slice A1 g3.length c1] 41)) hF (by kernel_rfl) (by kernel_rfl) (by kernel_rfl) (fun a hF => ?_)
  have hS : Sep w0 B (w.alloc (.cells #[.int .i64 g1, .int .i64 g2, .slice A1 g3.length c1] 41)) (blk w.heap.size 41 #[.int .i64 g1, .int .i64 g2, .slice A1 g3.length c1] :: (fs)) := hS.box 41 #[.int .i64 g1, .int .i64 g2, .slice A1 g3.length c1]
  generalize w.heap.size = g4 at hF hS
  generalize w.alloc (.cells #[.int .i64 g1, .int .i64 g2, .slice A1 g3.length c1] 41) = w at hS ⊢
  refine at_run 1 [] [] [1] [pl 1 (.pointer (some ⟨g4, 0, none⟩))] hF hS (by kernel_rfl) (by kernel_rfl) ?_ (fun a w hF hS => ?_)
  · exact obs_nil
  refine at_end [1] [pl 1 (.pointer (some ⟨g4, 0, none⟩))] hF rfl (by kernel_rfl) (fun hF => ?_)
  refine then_n ?_
  refine reg [⟨false, [], vS (Instr.loadAt 3 (.pointer (some ⟨g4, 0, none⟩))), .int .i64 g1⟩, ⟨false, [((g1 == 0), true)], vS (Instr.loadAt 3 (.pointer (some ⟨g4, 1, none⟩))), .int .i64 g2⟩, ⟨false, [((g1 == 0) && (g2 == 0), true)], vS (Instr.loadAt 22 (.pointer (some ⟨g4, 2, none⟩))), .slice A1 g3.length c1⟩] [none, some (.int .i64 g1), none, none, none, some (.int .i64 g2), none, none, none, none, some (.slice A1 g3.length c1), none, none, none, none] [2] [pl 2 (.bool (((g1 == 0) && (g2 == 0)) && ((g3.length : Int) == 0)))] hF hS Fol (by kernel_rfl) (by kernel_rfl) (by kernel_rfl) ?_ (fun a w hF hS => ?_)
  · exact obs_cons (ob_load Agg3 (fun _ _ hS => (hS.at_ 0 rfl).cell rfl)) <| obs_cons (ob_load Agg3 (fun _ _ hS => (hS.at_ 0 rfl).cell rfl)) <| obs_cons (ob_load Agg22 (fun _ _ hS => (hS.at_ 0 rfl).cell rfl)) <| obs_nil
  refine wp_ret ?_
  have hS := hS.pickN 1 [] (by decide)
  have hm : some (((g1 == 0) && (g2 == 0)) && ((g3.length : Int) == 0)) = some r := hm
  obtain rfl := Option.some.inj hm
  exact retV (rs := [.tmp 2]) (vs := [.bool (((g1 == 0) && (g2 == 0)) && ((g3.length : Int) == 0))]) hF rfl (rv_t (by kernel_rfl) <| rv_nil) rfl ⟨rfl, hS⟩

noncomputable def gameroomref_SlideMove_J4 (g1 : Int) (g3 : List Int) (dir1 : Int) (r1 : (Int × Int × List Int)) (r2 : Int) : Option (Int × Int × List Int × Bool) :=
  asrt (0 ≤ (w64 ((w64 ((w64 ((w64 (Int.tdiv r2 g1)) + (geti ([1, 0, (-1), 0] : List Int) dir1))) * g1)) + (w64 ((Int.tmod r2 g1) + (geti ([0, (-1), 0, 1] : List Int) dir1))))) ∧ (w64 ((w64 ((w64 ((w64 (Int.tdiv r2 g1)) + (geti ([1, 0, (-1), 0] : List Int) dir1))) * g1)) + (w64 ((Int.tmod r2 g1) + (geti ([0, (-1), 0, 1] : List Int) dir1))))) < (g3.length : Int)) <| asrt (0 ≤ r2 ∧ r2 < (r1.2.2.length : Int)) <| asrt (0 ≤ (w64 ((w64 ((w64 ((w64 (Int.tdiv r2 g1)) + (geti ([1, 0, (-1), 0] : List Int) dir1))) * g1)) + (w64 ((Int.tmod r2 g1) + (geti ([0, (-1), 0, 1] : List Int) dir1))))) ∧ (w64 ((w64 ((w64 ((w64 (Int.tdiv r2 g1)) + (geti ([1, 0, (-1), 0] : List Int) dir1))) * g1)) + (w64 ((Int.tmod r2 g1) + (geti ([0, (-1), 0, 1] : List Int) dir1))))) < (r1.2.2.length : Int)) <| some (r1.1, r1.2.1, ((r1.2.2.set (Int.toNat r2) (geti g3 (w64 ((w64 ((w64 ((w64 (Int.tdiv r2 g1)) + (geti ([1, 0, (-1), 0] : List Int) dir1))) * g1)) + (w64 ((Int.tmod r2 g1) + (geti ([0, (-1), 0, 1] : List Int) dir1))))))).set (Int.toNat (w64 ((w64 ((w64 ((w64 (Int.tdiv r2 g1)) + (geti ([1, 0, (-1), 0] : List Int) dir1))) * g1)) + (w64 ((Int.tmod r2 g1) + (geti ([0, (-1), 0, 1] : List Int) dir1)))))) 0), true)

noncomputable def gameroomref_SlideMove_J3 (g1 : Int) (g2 : Int) (g3 : List Int) (dir1 : Int) (r1 : (Int × Int × List Int)) (r2 : Int) : Option (Int × Int × List Int × Bool) :=
  (gameroomref_within_m (w64 ((Int.tmod r2 g1) + (geti ([0, (-1), 0, 1] : List Int) dir1))) 0 (w64 (g1 - 1))).bind fun r4 => ((if (!(!r4)) then gameroomref_within_m (w64 ((w64 (Int.tdiv r2 g1)) + (geti ([1, 0, (-1), 0] : List Int) dir1))) 0 (w64 (g2 - 1)) else some false)).bind fun r5 => if ((!r4) || (!r5)) then (some (r1.1, r1.2.1, r1.2.2, false)) else ((gameroomref_SlideMove_J4 g1 g3 dir1 r1 r2))

noncomputable def gameroomref_SlideMove_J2 (g1 : Int) (g2 : Int) (g3 : List Int) (dir1 : Int) (r1 : (Int × Int × List Int)) (r2 : Int) : Option (Int × Int × List Int × Bool) :=
  asrt (g1 ≠ (0 : Int)) <| asrt (0 ≤ dir1 ∧ dir1 < 4) <| (gameroomref_SlideMove_J3 g1 g2 g3 dir1 r1 r2)

noncomputable def gameroomref_SlideMove_J1 (g1 : Int) (g2 : Int) (g3 : List Int) (dir1 : Int) (r1 : (Int × Int × List Int)) (r2 : Int) : Option (Int × Int × List Int × Bool) :=
  asrt (g1 ≠ (0 : Int)) <| asrt (0 ≤ dir1 ∧ dir1 < 4) <| (gameroomref_SlideMove_J2 g1 g2 g3 dir1 r1 r2)

noncomputable def gameroomref_SlideMove_m (g1 : Int) (g2 : Int) (g3 : List Int) (dir1 : Int) : Option (Int × Int × List Int × Bool) :=
  (gameroomref_GridOf_m g1 g2 g3).bind fun r1 => (gameroomref_at_m g3 0).bind fun r2 => (gameroomref_within_m dir1 0 3).bind fun r3 => if (!r3) then (some (r1.1, r1.2.1, r1.2.2, false)) else ((gameroomref_SlideMove_J1 g1 g2 g3 dir1 r1 r2))

set_option maxRecDepth 100000 in
set_option maxHeartbeats 4000000 in
theorem gameroomref_SlideMove_w {g1 : Int} {g2 : Int} {A1 : Option Addr} {c1 : Nat} {n1 : Nat} {g3 : List Int} {dir1 : Int} {r : (Int × Int × List Int × Bool)} {w0 w : World} {B : Nat} {fs : List HP} (hm : gameroomref_SlideMove_m g1 g2 g3 dir1 = some r) (hS : Sep w0 B w (fs)) (hr_g3 : RdF w0 B fs A1 (vI g3)) (_hc_g3 : g3.length ≤ c1) (_hn_g3 : n1 = g3.length) :
    Calls Try.prog 47 #[.agg #[.int .i64 g1, .int .i64 g2, .slice A1 n1 c1], .int .i64 dir1] w fun e w' => ∃ v, e = .returned v ∧ ∃ (A3 : Option Addr) (c3 : Nat), v = .tuple #[.agg #[.int .i64 r.1, .int .i64 r.2.1, .slice A3 r.2.2.1.length c3], .bool r.2.2.2] ∧ Sep w0 B w' (own 3 (.slice A3 r.2.2.1.length c3) (vI r.2.2.1) :: fs) := by
  obtain ⟨i3, hi3, hz3, hs3, hb3⟩ := info_parts Info3
  obtain rfl := _hn_g3
  unfold gameroomref_SlideMove_m at hm
  replace hm := start_b hm
  refine enter (l := [.agg #[.int .i64 g1, .int .i64 g2, .slice A1 g3.length c1], .int .i64 dir1]) (n := 76) Try.func47 rfl rfl (by simp) (fun a hF => ?_)
  refine seqR ?_
  refine at_do (d := 2) (s := vS (Instr.box 41 (.agg #[.int .i64 g1, .int .i64 g2, .slice A1 g3.length c1]))) (v := .pointer (some ⟨w.heap.size, 0, none⟩)) (w' := w.alloc (.cells #[.int .i64 g1, .int .i64 g2, .slice A1 g3.length c1] 41)) hF (by kernel_rfl) (by kernel_rfl) (by kernel_rfl) (fun a hF => ?_)
  have hS : Sep w0 B (w.alloc (.cells #[.int .i64 g1, .int .i64 g2, .slice A1 g3.length c1] 41)) (blk w.heap.size 41 #[.int .i64 g1, .int .i64 g2, .slice A1 g3.length c1] :: (fs)) := hS.box 41 #[.int .i64 g1, .int .i64 g2, .slice A1 g3.length c1]
  generalize w.heap.size = g4 at hF hS
  generalize w.alloc (.cells #[.int .i64 g1, .int .i64 g2, .slice A1 g3.length c1] 41) = w at hS ⊢
  refine at_do (d := 4) (s := vS (Instr.alloc 41 true (.tuple #[]))) (v := .pointer (some ⟨w.heap.size, 0, none⟩)) (w' := w.alloc (.cells #[.int .i64 0, .int .i64 0, .slice none 0 0] 41)) hF (by kernel_rfl) (by kernel_rfl) (by kernel_rfl) (fun a hF => ?_)
  have hS : Sep w0 B (w.alloc (.cells #[.int .i64 0, .int .i64 0, .slice none 0 0] 41)) (blk w.heap.size 41 #[.int .i64 0, .int .i64 0, .slice none 0 0] :: (blk g4 41 #[.int .i64 g1, .int .i64 g2, .slice A1 g3.length c1] :: fs)) := hS.box 41 #[.int .i64 0, .int .i64 0, .slice none 0 0]
  generalize w.heap.size = g5 at hF hS
  generalize w.alloc (.cells #[.int .i64 0, .int .i64 0, .slice none 0 0] 41) = w at hS ⊢
  refine at_run 1 [] [] [1, 2, 4] [pl 1 (.int .i64 dir1), pl 2 (.pointer (some ⟨g4, 0, none⟩)), pl 4 (.pointer (some ⟨g5, 0, none⟩))] hF hS (by kernel_rfl) (by kernel_rfl) ?_ (fun a w hF hS => ?_)
  · exact obs_nil
  refine at_end [1, 2, 4] [pl 1 (.int .i64 dir1), pl 2 (.pointer (some ⟨g4, 0, none⟩)), pl 4 (.pointer (some ⟨g5, 0, none⟩))] hF rfl (by kernel_rfl) (fun hF => ?_)
  refine then_n ?_
  refine seqR ?_
  obtain ⟨r1, hr1, hm⟩ := call_b hm
  refine at_run 1 [⟨false, [], vS (Instr.loadAt 41 (.pointer (some ⟨g4, 0, none⟩))), .agg #[.int .i64 g1, .int .i64 g2, .slice A1 g3.length c1]⟩] [some (.agg #[.int .i64 g1, .int .i64 g2, .slice A1 g3.length c1])] [1, 2, 4, 10] [pl 1 (.int .i64 dir1), pl 2 (.pointer (some ⟨g4, 0, none⟩)), pl 4 (.pointer (some ⟨g5, 0, none⟩)), pl 10 (.agg #[.int .i64 g1, .int .i64 g2, .slice A1 g3.length c1])] hF hS (by kernel_rfl) (by kernel_rfl) ?_ (fun a w hF hS => ?_)
  · exact obs_cons (ob_loadA (cs := #[.int .i64 g1, .int .i64 g2, .slice A1 g3.length c1]) (by kernel_rfl) (by kernel_rfl) (fun _ _ hS => (hS.at_ 1 rfl).cellsAt 0 (by rfl))) <| obs_nil
  refine at_call (f := 30) (args := #[.agg #[.int .i64 g1, .int .i64 g2, .slice A1 g3.length c1]]) (d := 11) hF (by kernel_rfl) (by kernel_rfl) Try.func30 (by kernel_rfl) rfl (gameroomref_GridOf_w hr1 hS (fun _ hS => (hr_g3 _ (hS.dropN 2))) _hc_g3 rfl) (fun v a w hR hF => ?_)
  clear hS
  obtain ⟨A2, c2, rfl, hS⟩ := hR
  have hS : Sep w0 B w (own 3 (.slice A2 r1.2.2.length c2) (vI r1.2.2) :: blk g5 41 #[.int .i64 0, .int .i64 0, .slice none 0 0] :: blk g4 41 #[.int .i64 g1, .int .i64 g2, .slice A1 g3.length c1] :: fs) := hS
  refine at_do (d := 6) (s := vS (Instr.alloc 41 true (.tuple #[]))) (v := .pointer (some ⟨w.heap.size, 0, none⟩)) (w' := w.alloc (.cells #[.int .i64 0, .int .i64 0, .slice none 0 0] 41)) hF (by kernel_rfl) (by kernel_rfl) (by kernel_rfl) (fun a hF => ?_)
  have hS : Sep w0 B (w.alloc (.cells #[.int .i64 0, .int .i64 0, .slice none 0 0] 41)) (blk w.heap.size 41 #[.int .i64 0, .int .i64 0, .slice none 0 0] :: (own 3 (.slice A2 r1.2.2.length c2) (vI r1.2.2) :: blk g5 41 #[.int .i64 0, .int .i64 0, .slice none 0 0] :: blk g4 41 #[.int .i64 g1, .int .i64 g2, .slice A1 g3.length c1] :: fs)) := hS.box 41 #[.int .i64 0, .int .i64 0, .slice none 0 0]
  generalize w.heap.size = g6 at hF hS
  generalize w.alloc (.cells #[.int .i64 0, .int .i64 0, .slice none 0 0] 41) = w at hS ⊢
  obtain ⟨w, hrun, hS⟩ := run_putA (P := Try.prog) (t := 41) (us := #[.int .i64 r1.1, .int .i64 r1.2.1, .slice A2 r1.2.2.length c2]) (o := 0) (hS.at_ 0 rfl) (by kernel_rfl) (all_one (by kernel_rfl)) (Nat.le_of_ble_eq_true (by kernel_rfl))
  refine at_skip hF (by kernel_rfl) hrun ?_
  have hS : Sep w0 B w (blk g6 41 #[.int .i64 r1.1, .int .i64 r1.2.1, .slice A2 r1.2.2.length c2] :: own 3 (.slice A2 r1.2.2.length c2) (vI r1.2.2) :: blk g5 41 #[.int .i64 0, .int .i64 0, .slice none 0 0] :: blk g4 41 #[.int .i64 g1, .int .i64 g2, .slice A1 g3.length c1] :: fs) := hS
  refine at_end [1, 2, 4, 6] [pl 1 (.int .i64 dir1), pl 2 (.pointer (some ⟨g4, 0, none⟩)), pl 4 (.pointer (some ⟨g5, 0, none⟩)), pl 6 (.pointer (some ⟨g6, 0, none⟩))] hF rfl (by kernel_rfl) (fun hF => ?_)
  refine then_n ?_
  obtain ⟨r2, hr2, hm⟩ := call_b hm
  refine reg [⟨false, [], vS (Instr.loadAt 22 (.pointer (some ⟨g4, 2, none⟩))), .slice A1 g3.length c1⟩, ⟨false, [], callFunc 87 #[.slice A1 g3.length c1, .int .i64 0], .int .i64 r2⟩] [none, some (.slice A1 g3.length c1), some (.int .i64 r2), none] [1, 2, 4, 6, 7] [pl 1 (.int .i64 dir1), pl 2 (.pointer (some ⟨g4, 0, none⟩)), pl 4 (.pointer (some ⟨g5, 0, none⟩)), pl 6 (.pointer (some ⟨g6, 0, none⟩)), pl 7 (.int .i64 r2)] hF hS Fol (by kernel_rfl) (by kernel_rfl) (by kernel_rfl) ?_ (fun a w hF hS => ?_)
  · exact obs_cons (ob_load Agg22 (fun _ _ hS => (hS.at_ 3 rfl).cell rfl)) <| obs_cons (ob_call Try.func87 (by kernel_rfl) rfl (fun _ _ hS => gameroomref_at_w hr2 hS (fun _ hS => (hr_g3 _ (hS.dropN 4))) _hc_g3 rfl)) <| obs_nil
  refine seq_cut (fun a w => Fr 76 [pl 1 (.int .i64 dir1), pl 2 (.pointer (some ⟨g4, 0, none⟩)), pl 4 (.pointer (some ⟨g5, 0, none⟩)), pl 6 (.pointer (some ⟨g6, 0, none⟩)), pl 7 (.int .i64 r2)] a ∧ Sep w0 B w (blk g4 41 #[.int .i64 g1, .int .i64 g2, .slice A1 g3.length c1] :: blk g5 41 #[.int .i64 0, .int .i64 0, .slice none 0 0] :: blk g6 41 #[.int .i64 r1.1, .int .i64 r1.2.1, .slice A2 r1.2.2.length c2] :: own 3 (.slice A2 r1.2.2.length c2) (vI r1.2.2) :: fs) ∧ ((gameroomref_SlideMove_J1 g1 g2 g3 dir1 r1 r2)).bind some = some r) ?_ ?_
  · rintro a w ⟨hF, hS, hm⟩
    unfold gameroomref_SlideMove_J1 at hm
    refine seq_cut (fun a w => Fr 76 [pl 1 (.int .i64 dir1), pl 2 (.pointer (some ⟨g4, 0, none⟩)), pl 4 (.pointer (some ⟨g5, 0, none⟩)), pl 6 (.pointer (some ⟨g6, 0, none⟩)), pl 7 (.int .i64 r2), pl 8 (.int .i64 (w64 ((Int.tmod r2 g1) + (geti ([0, (-1), 0, 1] : List Int) dir1))))] a ∧ Sep w0 B w (blk g4 41 #[.int .i64 g1, .int .i64 g2, .slice A1 g3.length c1] :: blk g5 41 #[.int .i64 0, .int .i64 0, .slice none 0 0] :: blk g6 41 #[.int .i64 r1.1, .int .i64 r1.2.1, .slice A2 r1.2.2.length c2] :: own 3 (.slice A2 r1.2.2.length c2) (vI r1.2.2) :: fs) ∧ ((gameroomref_SlideMove_J2 g1 g2 g3 dir1 r1 r2)).bind some = some r) ?_ ?_
    · rintro a w ⟨hF, hS, hm⟩
      unfold gameroomref_SlideMove_J2 at hm
      refine seq_cut (fun a w => Fr 76 [pl 2 (.pointer (some ⟨g4, 0, none⟩)), pl 4 (.pointer (some ⟨g5, 0, none⟩)), pl 6 (.pointer (some ⟨g6, 0, none⟩)), pl 7 (.int .i64 r2), pl 8 (.int .i64 (w64 ((Int.tmod r2 g1) + (geti ([0, (-1), 0, 1] : List Int) dir1)))), pl 9 (.int .i64 (w64 ((w64 (Int.tdiv r2 g1)) + (geti ([1, 0, (-1), 0] : List Int) dir1))))] a ∧ Sep w0 B w (blk g4 41 #[.int .i64 g1, .int .i64 g2, .slice A1 g3.length c1] :: blk g5 41 #[.int .i64 0, .int .i64 0, .slice none 0 0] :: blk g6 41 #[.int .i64 r1.1, .int .i64 r1.2.1, .slice A2 r1.2.2.length c2] :: own 3 (.slice A2 r1.2.2.length c2) (vI r1.2.2) :: fs) ∧ ((gameroomref_SlideMove_J3 g1 g2 g3 dir1 r1 r2)).bind some = some r) ?_ ?_
      · rintro a w ⟨hF, hS, hm⟩
        unfold gameroomref_SlideMove_J3 at hm
        refine seq_cut (fun a w => Fr 76 [pl 2 (.pointer (some ⟨g4, 0, none⟩)), pl 4 (.pointer (some ⟨g5, 0, none⟩)), pl 6 (.pointer (some ⟨g6, 0, none⟩)), pl 7 (.int .i64 r2), pl 8 (.int .i64 (w64 ((Int.tmod r2 g1) + (geti ([0, (-1), 0, 1] : List Int) dir1)))), pl 9 (.int .i64 (w64 ((w64 (Int.tdiv r2 g1)) + (geti ([1, 0, (-1), 0] : List Int) dir1))))] a ∧ Sep w0 B w (blk g4 41 #[.int .i64 g1, .int .i64 g2, .slice A1 g3.length c1] :: blk g5 41 #[.int .i64 0, .int .i64 0, .slice none 0 0] :: blk g6 41 #[.int .i64 r1.1, .int .i64 r1.2.1, .slice A2 r1.2.2.length c2] :: own 3 (.slice A2 r1.2.2.length c2) (vI r1.2.2) :: fs) ∧ ((gameroomref_SlideMove_J4 g1 g3 dir1 r1 r2)).bind some = some r) ?_ ?_
        · rintro a w ⟨hF, hS, hm⟩
          unfold gameroomref_SlideMove_J4 at hm
          refine wp_seq ?_
          obtain ⟨hp5, hm⟩ := asrt_b hm
          obtain ⟨hp6, hm⟩ := asrt_b hm
          refine regMix4 [0, 1, 2, 3, 4, 5, 6, 7, 8, 9, 10, 11, 12, 13] [14] [⟨false, [], vS (Instr.loadAt 22 (.pointer (some ⟨g6, 2, none⟩))), .slice A2 r1.2.2.length c2⟩, ⟨false, [], vS (Instr.loadAt 22 (.pointer (some ⟨g4, 2, none⟩))), .slice A1 g3.length c1⟩, ⟨false, [], vS (Instr.loadAt 3 (.pointer (some ⟨g4, 0, none⟩))), .int .i64 g1⟩, ⟨true, [], vS (Instr.indexAt 22 (.slice A1 g3.length c1) (.int .i64 (w64 ((w64 ((w64 ((w64 (Int.tdiv r2 g1)) + (geti ([1, 0, (-1), 0] : List Int) dir1))) * g1)) + (w64 ((Int.tmod r2 g1) + (geti ([0, (-1), 0, 1] : List Int) dir1))))))), .pointer (some (sAddr A1 (w64 ((w64 ((w64 ((w64 (Int.tdiv r2 g1)) + (geti ([1, 0, (-1), 0] : List Int) dir1))) * g1)) + (w64 ((Int.tmod r2 g1) + (geti ([0, (-1), 0, 1] : List Int) dir1)))))))⟩, ⟨false, [], vS (Instr.loadAt 3 (.pointer (some (sAddr A1 (w64 ((w64 ((w64 ((w64 (Int.tdiv r2 g1)) + (geti ([1, 0, (-1), 0] : List Int) dir1))) * g1)) + (w64 ((Int.tmod r2 g1) + (geti ([0, (-1), 0, 1] : List Int) dir1))))))))), .int .i64 (geti g3 (w64 ((w64 ((w64 ((w64 (Int.tdiv r2 g1)) + (geti ([1, 0, (-1), 0] : List Int) dir1))) * g1)) + (w64 ((Int.tmod r2 g1) + (geti ([0, (-1), 0, 1] : List Int) dir1))))))⟩, ⟨true, [], vS (Instr.indexAt 22 (.slice A2 r1.2.2.length c2) (.int .i64 r2)), .pointer (some (sAddr A2 r2))⟩] [none, some (.slice A2 r1.2.2.length c2), none, none, some (.slice A1 g3.length c1), none, none, some (.int .i64 g1), none, none, none, some (.pointer (some (sAddr A1 (w64 ((w64 ((w64 ((w64 (Int.tdiv r2 g1)) + (geti ([1, 0, (-1), 0] : List Int) dir1))) * g1)) + (w64 ((Int.tmod r2 g1) + (geti ([0, (-1), 0, 1] : List Int) dir1)))))))), some (.int .i64 (geti g3 (w64 ((w64 ((w64 ((w64 (Int.tdiv r2 g1)) + (geti ([1, 0, (-1), 0] : List Int) dir1))) * g1)) + (w64 ((Int.tmod r2 g1) + (geti ([0, (-1), 0, 1] : List Int) dir1))))))), some (.pointer (some (sAddr A2 r2)))] [2, 4, 6, 8, 9, 64, 65] [pl 2 (.pointer (some ⟨g4, 0, none⟩)), pl 4 (.pointer (some ⟨g5, 0, none⟩)), pl 6 (.pointer (some ⟨g6, 0, none⟩)), pl 8 (.int .i64 (w64 ((Int.tmod r2 g1) + (geti ([0, (-1), 0, 1] : List Int) dir1)))), pl 9 (.int .i64 (w64 ((w64 (Int.tdiv r2 g1)) + (geti ([1, 0, (-1), 0] : List Int) dir1)))), pl 64 (.int .i64 (geti g3 (w64 ((w64 ((w64 ((w64 (Int.tdiv r2 g1)) + (geti ([1, 0, (-1), 0] : List Int) dir1))) * g1)) + (w64 ((Int.tmod r2 g1) + (geti ([0, (-1), 0, 1] : List Int) dir1))))))), pl 65 (.pointer (some (sAddr A2 r2)))] hF hS Fol (by kernel_rfl) (by kernel_rfl) (by kernel_rfl) (by kernel_rfl) (by kernel_rfl) ?_ (fun a w hF hS => ?_)
          · exact obs_cons (ob_load Agg22 (fun _ _ hS => (hS.at_ 2 rfl).cell rfl)) <| obs_cons (ob_load Agg22 (fun _ _ hS => (hS.at_ 0 rfl).cell rfl)) <| obs_cons (ob_load Agg3 (fun _ _ hS => (hS.at_ 0 rfl).cell rfl)) <| obs_cons (ob_ix1 (f := (Value.int .i64)) (m := g3) Und22 hi3 hs3 (hr_g3 _ (hS.dropN 4)) rfl (fun _ => hp5)) <| obs_cons (ob_get1 (n := g3.length) (m := g3) (Value.int .i64) (0 : Int) Agg3 (fun _ hS => ⟨_, (hr_g3 _ (hS.dropN 4))⟩) (fun _ hS => rfl) (fun _ => hp5)) <| obs_cons (ob_ix1 (f := (Value.int .i64)) (m := r1.2.2) Und22 hi3 hs3 (hS.at_ 3 rfl).rd rfl (fun _ => hp6)) <| obs_nil
          obtain ⟨w, hrun, hS⟩ := run_set1 (P := Try.prog) (t := 3) (x := (geti g3 (w64 ((w64 ((w64 ((w64 (Int.tdiv r2 g1)) + (geti ([1, 0, (-1), 0] : List Int) dir1))) * g1)) + (w64 ((Int.tmod r2 g1) + (geti ([0, (-1), 0, 1] : List Int) dir1))))))) (Value.int .i64) (hS.at_ 3 rfl) hi3 hs3 rfl rfl hp6
          refine at_skip hF (by kernel_rfl) hrun ?_
          have hS : Sep w0 B w (blk g4 41 #[.int .i64 g1, .int .i64 g2, .slice A1 g3.length c1] :: blk g5 41 #[.int .i64 0, .int .i64 0, .slice none 0 0] :: blk g6 41 #[.int .i64 r1.1, .int .i64 r1.2.1, .slice A2 r1.2.2.length c2] :: own 3 (.slice A2 r1.2.2.length c2) (vI (r1.2.2.set (Int.toNat r2) (geti g3 (w64 ((w64 ((w64 ((w64 (Int.tdiv r2 g1)) + (geti ([1, 0, (-1), 0] : List Int) dir1))) * g1)) + (w64 ((Int.tmod r2 g1) + (geti ([0, (-1), 0, 1] : List Int) dir1)))))))) :: fs) := hS
          refine at_end [2, 4, 6, 8, 9] [pl 2 (.pointer (some ⟨g4, 0, none⟩)), pl 4 (.pointer (some ⟨g5, 0, none⟩)), pl 6 (.pointer (some ⟨g6, 0, none⟩)), pl 8 (.int .i64 (w64 ((Int.tmod r2 g1) + (geti ([0, (-1), 0, 1] : List Int) dir1)))), pl 9 (.int .i64 (w64 ((w64 (Int.tdiv r2 g1)) + (geti ([1, 0, (-1), 0] : List Int) dir1))))] hF rfl (by kernel_rfl) (fun hF => ?_)
          refine np_n ?_
          refine then_n ?_
          refine seqR ?_
          obtain ⟨hp7, hm⟩ := asrt_b hm
          refine at_run 9 [⟨false, [], vS (Instr.loadAt 22 (.pointer (some ⟨g6, 2, none⟩))), .slice A2 r1.2.2.length c2⟩, ⟨false, [], vS (Instr.loadAt 3 (.pointer (some ⟨g4, 0, none⟩))), .int .i64 g1⟩, ⟨true, [], vS (Instr.indexAt 22 (.slice A2 r1.2.2.length c2) (.int .i64 (w64 ((w64 ((w64 ((w64 (Int.tdiv r2 g1)) + (geti ([1, 0, (-1), 0] : List Int) dir1))) * g1)) + (w64 ((Int.tmod r2 g1) + (geti ([0, (-1), 0, 1] : List Int) dir1))))))), .pointer (some (sAddr A2 (w64 ((w64 ((w64 ((w64 (Int.tdiv r2 g1)) + (geti ([1, 0, (-1), 0] : List Int) dir1))) * g1)) + (w64 ((Int.tmod r2 g1) + (geti ([0, (-1), 0, 1] : List Int) dir1)))))))⟩] [none, some (.slice A2 r1.2.2.length c2), none, none, some (.int .i64 g1), none, none, none, some (.pointer (some (sAddr A2 (w64 ((w64 ((w64 ((w64 (Int.tdiv r2 g1)) + (geti ([1, 0, (-1), 0] : List Int) dir1))) * g1)) + (w64 ((Int.tmod r2 g1) + (geti ([0, (-1), 0, 1] : List Int) dir1))))))))] [4, 6, 74] [pl 4 (.pointer (some ⟨g5, 0, none⟩)), pl 6 (.pointer (some ⟨g6, 0, none⟩)), pl 74 (.pointer (some (sAddr A2 (w64 ((w64 ((w64 ((w64 (Int.tdiv r2 g1)) + (geti ([1, 0, (-1), 0] : List Int) dir1))) * g1)) + (w64 ((Int.tmod r2 g1) + (geti ([0, (-1), 0, 1] : List Int) dir1))))))))] hF hS (by kernel_rfl) (by kernel_rfl) ?_ (fun a w hF hS => ?_)
          · exact obs_cons (ob_load Agg22 (fun _ _ hS => (hS.at_ 2 rfl).cell rfl)) <| obs_cons (ob_load Agg3 (fun _ _ hS => (hS.at_ 0 rfl).cell rfl)) <| obs_cons (ob_ix1 (f := (Value.int .i64)) (m := (r1.2.2.set (Int.toNat r2) (geti g3 (w64 ((w64 ((w64 ((w64 (Int.tdiv r2 g1)) + (geti ([1, 0, (-1), 0] : List Int) dir1))) * g1)) + (w64 ((Int.tmod r2 g1) + (geti ([0, (-1), 0, 1] : List Int) dir1)))))))) Und22 hi3 hs3 (hS.at_ 3 rfl).rd ((hS.at_ 3 rfl).len1) (fun _ => hp7)) <| obs_nil
          obtain ⟨w, hrun, hS⟩ := run_set1 (P := Try.prog) (t := 3) (x := 0) (Value.int .i64) (hS.at_ 3 rfl) hi3 hs3 rfl rfl hp7
          refine at_skip hF (by kernel_rfl) hrun ?_
          have hS : Sep w0 B w (blk g4 41 #[.int .i64 g1, .int .i64 g2, .slice A1 g3.length c1] :: blk g5 41 #[.int .i64 0, .int .i64 0, .slice none 0 0] :: blk g6 41 #[.int .i64 r1.1, .int .i64 r1.2.1, .slice A2 r1.2.2.length c2] :: own 3 (.slice A2 r1.2.2.length c2) (vI ((r1.2.2.set (Int.toNat r2) (geti g3 (w64 ((w64 ((w64 ((w64 (Int.tdiv r2 g1)) + (geti ([1, 0, (-1), 0] : List Int) dir1))) * g1)) + (w64 ((Int.tmod r2 g1) + (geti ([0, (-1), 0, 1] : List Int) dir1))))))).set (Int.toNat (w64 ((w64 ((w64 ((w64 (Int.tdiv r2 g1)) + (geti ([1, 0, (-1), 0] : List Int) dir1))) * g1)) + (w64 ((Int.tmod r2 g1) + (geti ([0, (-1), 0, 1] : List Int) dir1)))))) 0)) :: fs) := hS
          refine at_end [4, 6] [pl 4 (.pointer (some ⟨g5, 0, none⟩)), pl 6 (.pointer (some ⟨g6, 0, none⟩))] hF rfl (by kernel_rfl) (fun hF => ?_)
          refine then_n ?_
          refine seqR ?_
          refine at_run 1 [⟨false, [], vS (Instr.loadAt 41 (.pointer (some ⟨g6, 0, none⟩))), .agg #[.int .i64 r1.1, .int .i64 r1.2.1, .slice A2 r1.2.2.length c2]⟩] [some (.agg #[.int .i64 r1.1, .int .i64 r1.2.1, .slice A2 r1.2.2.length c2])] [4, 75] [pl 4 (.pointer (some ⟨g5, 0, none⟩)), pl 75 (.agg #[.int .i64 r1.1, .int .i64 r1.2.1, .slice A2 r1.2.2.length c2])] hF hS (by kernel_rfl) (by kernel_rfl) ?_ (fun a w hF hS => ?_)
          · exact obs_cons (ob_loadA (cs := #[.int .i64 r1.1, .int .i64 r1.2.1, .slice A2 r1.2.2.length c2]) (by kernel_rfl) (by kernel_rfl) (fun _ _ hS => (hS.at_ 2 rfl).cellsAt 0 (by rfl))) <| obs_nil
          obtain ⟨w, hrun, hS⟩ := run_putA (P := Try.prog) (t := 41) (us := #[.int .i64 r1.1, .int .i64 r1.2.1, .slice A2 r1.2.2.length c2]) (o := 0) (hS.at_ 1 rfl) (by kernel_rfl) (all_one (by kernel_rfl)) (Nat.le_of_ble_eq_true (by kernel_rfl))
          refine at_skip hF (by kernel_rfl) hrun ?_
          have hS : Sep w0 B w (blk g4 41 #[.int .i64 g1, .int .i64 g2, .slice A1 g3.length c1] :: blk g5 41 #[.int .i64 r1.1, .int .i64 r1.2.1, .slice A2 r1.2.2.length c2] :: blk g6 41 #[.int .i64 r1.1, .int .i64 r1.2.1, .slice A2 r1.2.2.length c2] :: own 3 (.slice A2 r1.2.2.length c2) (vI ((r1.2.2.set (Int.toNat r2) (geti g3 (w64 ((w64 ((w64 ((w64 (Int.tdiv r2 g1)) + (geti ([1, 0, (-1), 0] : List Int) dir1))) * g1)) + (w64 ((Int.tmod r2 g1) + (geti ([0, (-1), 0, 1] : List Int) dir1))))))).set (Int.toNat (w64 ((w64 ((w64 ((w64 (Int.tdiv r2 g1)) + (geti ([1, 0, (-1), 0] : List Int) dir1))) * g1)) + (w64 ((Int.tmod r2 g1) + (geti ([0, (-1), 0, 1] : List Int) dir1)))))) 0)) :: fs) := hS
          refine at_run 1 [] [] [4, 5] [pl 4 (.pointer (some ⟨g5, 0, none⟩)), pl 5 (.bool true)] hF hS (by kernel_rfl) (by kernel_rfl) ?_ (fun a w hF hS => ?_)
          · exact obs_nil
          refine at_end [4, 5] [pl 4 (.pointer (some ⟨g5, 0, none⟩)), pl 5 (.bool true)] hF rfl (by kernel_rfl) (fun hF => ?_)
          refine then_n ?_
          refine wp_ret ?_
          have hl1 := (hS.at_ 3 rfl).len1
          have hS := (hS.at_ 3 rfl).reN hl1
          have hS := (hS.at_ 1 rfl).reBlk (congrArg (fun k9 => (#[.int .i64 r1.1, .int .i64 r1.2.1, .slice A2 k9 c2] : Array Value)) hl1)
          have hS := (hS.at_ 2 rfl).reBlk (congrArg (fun k9 => (#[.int .i64 r1.1, .int .i64 r1.2.1, .slice A2 k9 c2] : Array Value)) hl1)
          have hS : Sep w0 B w (blk g4 41 #[.int .i64 g1, .int .i64 g2, .slice A1 g3.length c1] :: blk g5 41 #[.int .i64 r1.1, .int .i64 r1.2.1, .slice A2 (((r1.2.2.set (Int.toNat r2) (geti g3 (w64 ((w64 ((w64 ((w64 (Int.tdiv r2 g1)) + (geti ([1, 0, (-1), 0] : List Int) dir1))) * g1)) + (w64 ((Int.tmod r2 g1) + (geti ([0, (-1), 0, 1] : List Int) dir1))))))).set (Int.toNat (w64 ((w64 ((w64 ((w64 (Int.tdiv r2 g1)) + (geti ([1, 0, (-1), 0] : List Int) dir1))) * g1)) + (w64 ((Int.tmod r2 g1) + (geti ([0, (-1), 0, 1] : List Int) dir1)))))) 0).length) c2] :: blk g6 41 #[.int .i64 r1.1, .int .i64 r1.2.1, .slice A2 (((r1.2.2.set (Int.toNat r2) (geti g3 (w64 ((w64 ((w64 ((w64 (Int.tdiv r2 g1)) + (geti ([1, 0, (-1), 0] : List Int) dir1))) * g1)) + (w64 ((Int.tmod r2 g1) + (geti ([0, (-1), 0, 1] : List Int) dir1))))))).set (Int.toNat (w64 ((w64 ((w64 ((w64 (Int.tdiv r2 g1)) + (geti ([1, 0, (-1), 0] : List Int) dir1))) * g1)) + (w64 ((Int.tmod r2 g1) + (geti ([0, (-1), 0, 1] : List Int) dir1)))))) 0).length) c2] :: own 3 (.slice A2 (((r1.2.2.set (Int.toNat r2) (geti g3 (w64 ((w64 ((w64 ((w64 (Int.tdiv r2 g1)) + (geti ([1, 0, (-1), 0] : List Int) dir1))) * g1)) + (w64 ((Int.tmod r2 g1) + (geti ([0, (-1), 0, 1] : List Int) dir1))))))).set (Int.toNat (w64 ((w64 ((w64 ((w64 (Int.tdiv r2 g1)) + (geti ([1, 0, (-1), 0] : List Int) dir1))) * g1)) + (w64 ((Int.tmod r2 g1) + (geti ([0, (-1), 0, 1] : List Int) dir1)))))) 0).length) c2) (vI ((r1.2.2.set (Int.toNat r2) (geti g3 (w64 ((w64 ((w64 ((w64 (Int.tdiv r2 g1)) + (geti ([1, 0, (-1), 0] : List Int) dir1))) * g1)) + (w64 ((Int.tmod r2 g1) + (geti ([0, (-1), 0, 1] : List Int) dir1))))))).set (Int.toNat (w64 ((w64 ((w64 ((w64 (Int.tdiv r2 g1)) + (geti ([1, 0, (-1), 0] : List Int) dir1))) * g1)) + (w64 ((Int.tmod r2 g1) + (geti ([0, (-1), 0, 1] : List Int) dir1)))))) 0)) :: fs) := hS
          have hld0 := run_loadVarA (P := Try.prog) (t := 41) (cs := #[.int .i64 r1.1, .int .i64 r1.2.1, .slice A2 (((r1.2.2.set (Int.toNat r2) (geti g3 (w64 ((w64 ((w64 ((w64 (Int.tdiv r2 g1)) + (geti ([1, 0, (-1), 0] : List Int) dir1))) * g1)) + (w64 ((Int.tmod r2 g1) + (geti ([0, (-1), 0, 1] : List Int) dir1))))))).set (Int.toNat (w64 ((w64 ((w64 ((w64 (Int.tdiv r2 g1)) + (geti ([1, 0, (-1), 0] : List Int) dir1))) * g1)) + (w64 ((Int.tmod r2 g1) + (geti ([0, (-1), 0, 1] : List Int) dir1)))))) 0).length) c2]) (by kernel_rfl) (by kernel_rfl) ((hS.at_ 1 rfl).cellsAt 0 (by rfl))
          have hS := hS.pickN 4 [3] (by decide)
          have hm : some (r1.1, r1.2.1, ((r1.2.2.set (Int.toNat r2) (geti g3 (w64 ((w64 ((w64 ((w64 (Int.tdiv r2 g1)) + (geti ([1, 0, (-1), 0] : List Int) dir1))) * g1)) + (w64 ((Int.tmod r2 g1) + (geti ([0, (-1), 0, 1] : List Int) dir1))))))).set (Int.toNat (w64 ((w64 ((w64 ((w64 (Int.tdiv r2 g1)) + (geti ([1, 0, (-1), 0] : List Int) dir1))) * g1)) + (w64 ((Int.tmod r2 g1) + (geti ([0, (-1), 0, 1] : List Int) dir1)))))) 0), true) = some r := hm
          obtain rfl := Option.some.inj hm
          exact retV (rs := [.cell 4 41, .tmp 5]) (vs := [.agg #[.int .i64 r1.1, .int .i64 r1.2.1, .slice A2 (((r1.2.2.set (Int.toNat r2) (geti g3 (w64 ((w64 ((w64 ((w64 (Int.tdiv r2 g1)) + (geti ([1, 0, (-1), 0] : List Int) dir1))) * g1)) + (w64 ((Int.tmod r2 g1) + (geti ([0, (-1), 0, 1] : List Int) dir1))))))).set (Int.toNat (w64 ((w64 ((w64 ((w64 (Int.tdiv r2 g1)) + (geti ([1, 0, (-1), 0] : List Int) dir1))) * g1)) + (w64 ((Int.tmod r2 g1) + (geti ([0, (-1), 0, 1] : List Int) dir1)))))) 0).length) c2], .bool true]) hF rfl (rv_c (by kernel_rfl) hld0 <| rv_t (by kernel_rfl) <| rv_nil) rfl ⟨_, rfl, A2, c2, rfl, hS⟩
        · obtain ⟨r4, hr4, hm⟩ := call_b hm
          obtain ⟨r5, hr5, hm⟩ := call_b hm
          refine reg [⟨false, [], vS (Instr.loadAt 3 (.pointer (some ⟨g4, 0, none⟩))), .int .i64 g1⟩, ⟨false, [], callFunc 95 #[.int .i64 (w64 ((Int.tmod r2 g1) + (geti ([0, (-1), 0, 1] : List Int) dir1))), .int .i64 0, .int .i64 (w64 (g1 - 1))], .bool r4⟩, ⟨false, [(!r4, false)], vS (Instr.loadAt 3 (.pointer (some ⟨g4, 1, none⟩))), .int .i64 g2⟩, ⟨false, [(!r4, false)], callFunc 95 #[.int .i64 (w64 ((w64 (Int.tdiv r2 g1)) + (geti ([1, 0, (-1), 0] : List Int) dir1))), .int .i64 0, .int .i64 (w64 (g2 - 1))], .bool r5⟩] [none, none, some (.int .i64 g1), none, some (.bool r4), none, none, none, none, some (.int .i64 g2), none, some (.bool r5), none, none] [2, 4, 6, 7, 8, 9, 50] [pl 2 (.pointer (some ⟨g4, 0, none⟩)), pl 4 (.pointer (some ⟨g5, 0, none⟩)), pl 6 (.pointer (some ⟨g6, 0, none⟩)), pl 7 (.int .i64 r2), pl 8 (.int .i64 (w64 ((Int.tmod r2 g1) + (geti ([0, (-1), 0, 1] : List Int) dir1)))), pl 9 (.int .i64 (w64 ((w64 (Int.tdiv r2 g1)) + (geti ([1, 0, (-1), 0] : List Int) dir1)))), pl 50 (.bool ((!r4) || (!r5)))] hF hS Fol (by kernel_rfl) (by kernel_rfl) (by kernel_rfl) ?_ (fun a w hF hS => ?_)
          · exact obs_cons (ob_load Agg3 (fun _ _ hS => (hS.at_ 0 rfl).cell rfl)) <| obs_cons (ob_call Try.func95 (by kernel_rfl) rfl (fun _ _ hS => gameroomref_within_w hr4 hS )) <| obs_cons (ob_load Agg3 (fun _ _ hS => (hS.at_ 0 rfl).cell rfl)) <| obs_cons (ob_call Try.func95 (by kernel_rfl) rfl (fun hy _ hS => gameroomref_within_w (ite_some hr5 (by rw [show (!r4) = false from hy (!r4, false) (by simp)]; try rfl)) hS )) <| obs_nil
          refine cond_ev (t := 50) (b := (!r4) || (!r5)) hF (by kernel_rfl) (fun hb => ?_) (fun hb => ?_)
          · replace hm := if_t hm hb
            refine seqR ?_
            refine at_run 1 [⟨false, [], vS (Instr.loadAt 41 (.pointer (some ⟨g6, 0, none⟩))), .agg #[.int .i64 r1.1, .int .i64 r1.2.1, .slice A2 r1.2.2.length c2]⟩] [some (.agg #[.int .i64 r1.1, .int .i64 r1.2.1, .slice A2 r1.2.2.length c2])] [4, 51] [pl 4 (.pointer (some ⟨g5, 0, none⟩)), pl 51 (.agg #[.int .i64 r1.1, .int .i64 r1.2.1, .slice A2 r1.2.2.length c2])] hF hS (by kernel_rfl) (by kernel_rfl) ?_ (fun a w hF hS => ?_)
            · exact obs_cons (ob_loadA (cs := #[.int .i64 r1.1, .int .i64 r1.2.1, .slice A2 r1.2.2.length c2]) (by kernel_rfl) (by kernel_rfl) (fun _ _ hS => (hS.at_ 2 rfl).cellsAt 0 (by rfl))) <| obs_nil
            obtain ⟨w, hrun, hS⟩ := run_putA (P := Try.prog) (t := 41) (us := #[.int .i64 r1.1, .int .i64 r1.2.1, .slice A2 r1.2.2.length c2]) (o := 0) (hS.at_ 1 rfl) (by kernel_rfl) (all_one (by kernel_rfl)) (Nat.le_of_ble_eq_true (by kernel_rfl))
            refine at_skip hF (by kernel_rfl) hrun ?_
            have hS : Sep w0 B w (blk g4 41 #[.int .i64 g1, .int .i64 g2, .slice A1 g3.length c1] :: blk g5 41 #[.int .i64 r1.1, .int .i64 r1.2.1, .slice A2 r1.2.2.length c2] :: blk g6 41 #[.int .i64 r1.1, .int .i64 r1.2.1, .slice A2 r1.2.2.length c2] :: own 3 (.slice A2 r1.2.2.length c2) (vI r1.2.2) :: fs) := hS
            refine at_run 1 [] [] [4, 5] [pl 4 (.pointer (some ⟨g5, 0, none⟩)), pl 5 (.bool false)] hF hS (by kernel_rfl) (by kernel_rfl) ?_ (fun a w hF hS => ?_)
            · exact obs_nil
            refine at_end [4, 5] [pl 4 (.pointer (some ⟨g5, 0, none⟩)), pl 5 (.bool false)] hF rfl (by kernel_rfl) (fun hF => ?_)
            refine then_n ?_
            refine wp_ret ?_
            refine then_r ?_
            have hld0 := run_loadVarA (P := Try.prog) (t := 41) (cs := #[.int .i64 r1.1, .int .i64 r1.2.1, .slice A2 r1.2.2.length c2]) (by kernel_rfl) (by kernel_rfl) ((hS.at_ 1 rfl).cellsAt 0 (by rfl))
            have hS := hS.pickN 4 [3] (by decide)
            have hm : some (r1.1, r1.2.1, r1.2.2, false) = some r := hm
            obtain rfl := Option.some.inj hm
            exact retV (rs := [.cell 4 41, .tmp 5]) (vs := [.agg #[.int .i64 r1.1, .int .i64 r1.2.1, .slice A2 r1.2.2.length c2], .bool false]) hF rfl (rv_c (by kernel_rfl) hld0 <| rv_t (by kernel_rfl) <| rv_nil) rfl ⟨_, rfl, A2, c2, rfl, hS⟩
          · replace hm := if_f hm hb
            refine wp_skip ?_
            refine then_n ?_
            exact ⟨hF.weak [2, 4, 6, 7, 8, 9] (by kernel_rfl), hS, hm⟩
      · obtain ⟨hp3, hm⟩ := asrt_b hm
        obtain ⟨hp4, hm⟩ := asrt_b hm
        refine regMix5 [0, 1, 2, 3, 5] [] 5 #[true, true, true, true, false, true, false, false, false, false] [⟨false, [], vS (Instr.loadAt 3 (.pointer (some ⟨g4, 0, none⟩))), .int .i64 g1⟩, ⟨true, [], vS (Op.intDiv .quo .i64 r2 g1), .int .i64 (w64 (Int.tdiv r2 g1))⟩] [none, none, some (.int .i64 g1), some (.int .i64 (w64 (Int.tdiv r2 g1))), none] [2, 4, 6, 7, 8, 31, 33] [pl 2 (.pointer (some ⟨g4, 0, none⟩)), pl 4 (.pointer (some ⟨g5, 0, none⟩)), pl 6 (.pointer (some ⟨g6, 0, none⟩)), pl 7 (.int .i64 r2), pl 8 (.int .i64 (w64 ((Int.tmod r2 g1) + (geti ([0, (-1), 0, 1] : List Int) dir1)))), pl 31 (.int .i64 (w64 (Int.tdiv r2 g1))), pl 33 (.int .i64 dir1)] hF hS Fol (by kernel_rfl) (by kernel_rfl) (by kernel_rfl) (by kernel_rfl) ?_ (fun a w hF hS => ?_)
        · exact obs_cons (ob_load Agg3 (fun _ _ hS => (hS.at_ 0 rfl).cell rfl)) <| obs_cons (ob_quo rfl (fun _ => hp3)) <| obs_nil
        refine any_step [4] (by kernel_rfl) rfl ?_
        refine (all_cons ?_ all_nil)
        · refine any_op (listed' := #[true, true, true, true, true, true, false, false, false, false]) (by kernel_rfl) (by kernel_rfl) ?_
          refine at_do (d := 32) (s := vS (Instr.buildSlice 22 4 #[(0, .int .i64 1), (1, .int .i64 0), (2, .int .i64 (-1)), (3, .int .i64 0)])) (v := .slice (some ⟨w.heap.size, 0, none⟩) 4 4) (w' := w.alloc (.cells #[.int .i64 1, .int .i64 0, .int .i64 (-1), .int .i64 0] 3)) hF (by kernel_rfl) (by kernel_rfl) (by kernel_rfl) (fun a hF => ?_)
          have hS : Sep w0 B (w.alloc (.cells #[.int .i64 1, .int .i64 0, .int .i64 (-1), .int .i64 0] 3)) (own 3 (.slice (some (⟨w.heap.size, 0, none⟩ : Addr)) 4 4) (vI ([1, 0, (-1), 0] : List Int)) :: (blk g4 41 #[.int .i64 g1, .int .i64 g2, .slice A1 g3.length c1] :: blk g5 41 #[.int .i64 0, .int .i64 0, .slice none 0 0] :: blk g6 41 #[.int .i64 r1.1, .int .i64 r1.2.1, .slice A2 r1.2.2.length c2] :: own 3 (.slice A2 r1.2.2.length c2) (vI r1.2.2) :: fs)) := hS.lit 3 #[.int .i64 1, .int .i64 0, .int .i64 (-1), .int .i64 0] 4 rfl (by omega)
          generalize (some (⟨w.heap.size, 0, none⟩ : Addr)) = g8 at hF hS
          generalize w.alloc (.cells #[.int .i64 1, .int .i64 0, .int .i64 (-1), .int .i64 0] 3) = w at hS ⊢
          refine any_fin rfl (hS.pickN 5 [1, 2, 3, 4] (by decide)) ?_
          refine any_step [6] (by kernel_rfl) rfl ?_
          refine (all_cons ?_ all_nil)
          · refine any_op (listed' := #[true, true, true, true, true, true, true, false, false, false]) (by kernel_rfl) (by kernel_rfl) ?_
            refine at_runW 1 [⟨true, [], vS (Instr.indexAt 22 (.slice g8 4 4) (.int .i64 dir1)), .pointer (some (sAddr g8 dir1))⟩] [some (.pointer (some (sAddr g8 dir1)))] [2, 4, 6, 7, 8, 31, 34] [pl 2 (.pointer (some ⟨g4, 0, none⟩)), pl 4 (.pointer (some ⟨g5, 0, none⟩)), pl 6 (.pointer (some ⟨g6, 0, none⟩)), pl 7 (.int .i64 r2), pl 8 (.int .i64 (w64 ((Int.tmod r2 g1) + (geti ([0, (-1), 0, 1] : List Int) dir1)))), pl 31 (.int .i64 (w64 (Int.tdiv r2 g1))), pl 34 (.pointer (some (sAddr g8 dir1)))] hF hS (by kernel_rfl) (by kernel_rfl) ?_ (fun a hF => ?_)
            · exact obs_cons (ob_ix1 (f := (Value.int .i64)) (m := ([1, 0, (-1), 0] : List Int)) Und22 hi3 hs3 (hS.at_ 0 rfl).rd ((hS.at_ 0 rfl).len1) (fun _ => hp4)) <| obs_nil
            refine any_finI rfl (fun h => h) ?_
            refine any_step [7] (by kernel_rfl) rfl ?_
            refine (all_cons ?_ all_nil)
            · refine any_op (listed' := #[true, true, true, true, true, true, true, true, false, false]) (by kernel_rfl) (by kernel_rfl) ?_
              refine at_runW 1 [⟨false, [], vS (Instr.loadAt 3 (.pointer (some (sAddr g8 dir1)))), .int .i64 (geti ([1, 0, (-1), 0] : List Int) dir1)⟩] [some (.int .i64 (geti ([1, 0, (-1), 0] : List Int) dir1))] [2, 4, 6, 7, 8, 31, 35] [pl 2 (.pointer (some ⟨g4, 0, none⟩)), pl 4 (.pointer (some ⟨g5, 0, none⟩)), pl 6 (.pointer (some ⟨g6, 0, none⟩)), pl 7 (.int .i64 r2), pl 8 (.int .i64 (w64 ((Int.tmod r2 g1) + (geti ([0, (-1), 0, 1] : List Int) dir1)))), pl 31 (.int .i64 (w64 (Int.tdiv r2 g1))), pl 35 (.int .i64 (geti ([1, 0, (-1), 0] : List Int) dir1))] hF hS (by kernel_rfl) (by kernel_rfl) ?_ (fun a hF => ?_)
              · exact obs_cons (ob_get1 (n := 4) (m := ([1, 0, (-1), 0] : List Int)) (Value.int .i64) (0 : Int) Agg3 (fun _ hS => ⟨_, (hS.at_ 0 rfl).rd⟩) (fun _ hS => ((hS.at_ 0 rfl).len1)) (fun _ => hp4)) <| obs_nil
              refine any_finI rfl (fun h => h) ?_
              refine any_step [8] (by kernel_rfl) rfl ?_
              refine (all_cons ?_ all_nil)
              · refine any_op (listed' := #[true, true, true, true, true, true, true, true, true, false]) (by kernel_rfl) (by kernel_rfl) ?_
                refine at_runW 1 [] [] [2, 4, 6, 7, 8, 36] [pl 2 (.pointer (some ⟨g4, 0, none⟩)), pl 4 (.pointer (some ⟨g5, 0, none⟩)), pl 6 (.pointer (some ⟨g6, 0, none⟩)), pl 7 (.int .i64 r2), pl 8 (.int .i64 (w64 ((Int.tmod r2 g1) + (geti ([0, (-1), 0, 1] : List Int) dir1)))), pl 36 (.int .i64 (w64 ((w64 (Int.tdiv r2 g1)) + (geti ([1, 0, (-1), 0] : List Int) dir1))))] hF hS (by kernel_rfl) (by kernel_rfl) ?_ (fun a hF => ?_)
                · exact obs_nil
                refine any_finI rfl (fun h => h) ?_
                refine any_step [9] (by kernel_rfl) rfl ?_
                refine (all_cons ?_ all_nil)
                · refine any_op (listed' := #[true, true, true, true, true, true, true, true, true, true]) (by kernel_rfl) (by kernel_rfl) ?_
                  refine at_runW 1 [] [] [2, 4, 6, 7, 8, 9] [pl 2 (.pointer (some ⟨g4, 0, none⟩)), pl 4 (.pointer (some ⟨g5, 0, none⟩)), pl 6 (.pointer (some ⟨g6, 0, none⟩)), pl 7 (.int .i64 r2), pl 8 (.int .i64 (w64 ((Int.tmod r2 g1) + (geti ([0, (-1), 0, 1] : List Int) dir1)))), pl 9 (.int .i64 (w64 ((w64 (Int.tdiv r2 g1)) + (geti ([1, 0, (-1), 0] : List Int) dir1))))] hF hS (by kernel_rfl) (by kernel_rfl) ?_ (fun a hF => ?_)
                  · exact obs_nil
                  refine any_finI rfl (fun h => h) ?_
                  refine any_end (by kernel_rfl) ?_
                  refine np_n ?_
                  refine then_n ?_
                  have hS := hS.pickN 5 [1, 2, 3, 4] (by decide)
                  exact ⟨hF.weak [2, 4, 6, 7, 8, 9] (by kernel_rfl), hS, hm⟩
    · obtain ⟨hp1, hm⟩ := asrt_b hm
      obtain ⟨hp2, hm⟩ := asrt_b hm
      refine regMix5 [0, 1, 2, 3, 5] [] 5 #[true, true, true, true, false, true, false, false, false, false] [⟨false, [], vS (Instr.loadAt 3 (.pointer (some ⟨g4, 0, none⟩))), .int .i64 g1⟩, ⟨true, [], vS (Op.intDiv .rem .i64 r2 g1), .int .i64 (Int.tmod r2 g1)⟩] [none, none, some (.int .i64 g1), some (.int .i64 (Int.tmod r2 g1)), none] [1, 2, 4, 6, 7, 22, 24] [pl 1 (.int .i64 dir1), pl 2 (.pointer (some ⟨g4, 0, none⟩)), pl 4 (.pointer (some ⟨g5, 0, none⟩)), pl 6 (.pointer (some ⟨g6, 0, none⟩)), pl 7 (.int .i64 r2), pl 22 (.int .i64 (Int.tmod r2 g1)), pl 24 (.int .i64 dir1)] hF hS Fol (by kernel_rfl) (by kernel_rfl) (by kernel_rfl) (by kernel_rfl) ?_ (fun a w hF hS => ?_)
      · exact obs_cons (ob_load Agg3 (fun _ _ hS => (hS.at_ 0 rfl).cell rfl)) <| obs_cons (ob_rem rfl (fun _ => hp1)) <| obs_nil
      refine any_step [4] (by kernel_rfl) rfl ?_
      refine (all_cons ?_ all_nil)
      · refine any_op (listed' := #[true, true, true, true, true, true, false, false, false, false]) (by kernel_rfl) (by kernel_rfl) ?_
        refine at_do (d := 23) (s := vS (Instr.buildSlice 22 4 #[(0, .int .i64 0), (1, .int .i64 (-1)), (2, .int .i64 0), (3, .int .i64 1)])) (v := .slice (some ⟨w.heap.size, 0, none⟩) 4 4) (w' := w.alloc (.cells #[.int .i64 0, .int .i64 (-1), .int .i64 0, .int .i64 1] 3)) hF (by kernel_rfl) (by kernel_rfl) (by kernel_rfl) (fun a hF => ?_)
        have hS : Sep w0 B (w.alloc (.cells #[.int .i64 0, .int .i64 (-1), .int .i64 0, .int .i64 1] 3)) (own 3 (.slice (some (⟨w.heap.size, 0, none⟩ : Addr)) 4 4) (vI ([0, (-1), 0, 1] : List Int)) :: (blk g4 41 #[.int .i64 g1, .int .i64 g2, .slice A1 g3.length c1] :: blk g5 41 #[.int .i64 0, .int .i64 0, .slice none 0 0] :: blk g6 41 #[.int .i64 r1.1, .int .i64 r1.2.1, .slice A2 r1.2.2.length c2] :: own 3 (.slice A2 r1.2.2.length c2) (vI r1.2.2) :: fs)) := hS.lit 3 #[.int .i64 0, .int .i64 (-1), .int .i64 0, .int .i64 1] 4 rfl (by omega)
        generalize (some (⟨w.heap.size, 0, none⟩ : Addr)) = g7 at hF hS
        generalize w.alloc (.cells #[.int .i64 0, .int .i64 (-1), .int .i64 0, .int .i64 1] 3) = w at hS ⊢
        refine any_fin rfl (hS.pickN 5 [1, 2, 3, 4] (by decide)) ?_
        refine any_step [6] (by kernel_rfl) rfl ?_
        refine (all_cons ?_ all_nil)
        · refine any_op (listed' := #[true, true, true, true, true, true, true, false, false, false]) (by kernel_rfl) (by kernel_rfl) ?_
          refine at_runW 1 [⟨true, [], vS (Instr.indexAt 22 (.slice g7 4 4) (.int .i64 dir1)), .pointer (some (sAddr g7 dir1))⟩] [some (.pointer (some (sAddr g7 dir1)))] [1, 2, 4, 6, 7, 22, 25] [pl 1 (.int .i64 dir1), pl 2 (.pointer (some ⟨g4, 0, none⟩)), pl 4 (.pointer (some ⟨g5, 0, none⟩)), pl 6 (.pointer (some ⟨g6, 0, none⟩)), pl 7 (.int .i64 r2), pl 22 (.int .i64 (Int.tmod r2 g1)), pl 25 (.pointer (some (sAddr g7 dir1)))] hF hS (by kernel_rfl) (by kernel_rfl) ?_ (fun a hF => ?_)
          · exact obs_cons (ob_ix1 (f := (Value.int .i64)) (m := ([0, (-1), 0, 1] : List Int)) Und22 hi3 hs3 (hS.at_ 0 rfl).rd ((hS.at_ 0 rfl).len1) (fun _ => hp2)) <| obs_nil
          refine any_finI rfl (fun h => h) ?_
          refine any_step [7] (by kernel_rfl) rfl ?_
          refine (all_cons ?_ all_nil)
          · refine any_op (listed' := #[true, true, true, true, true, true, true, true, false, false]) (by kernel_rfl) (by kernel_rfl) ?_
            refine at_runW 1 [⟨false, [], vS (Instr.loadAt 3 (.pointer (some (sAddr g7 dir1)))), .int .i64 (geti ([0, (-1), 0, 1] : List Int) dir1)⟩] [some (.int .i64 (geti ([0, (-1), 0, 1] : List Int) dir1))] [1, 2, 4, 6, 7, 22, 26] [pl 1 (.int .i64 dir1), pl 2 (.pointer (some ⟨g4, 0, none⟩)), pl 4 (.pointer (some ⟨g5, 0, none⟩)), pl 6 (.pointer (some ⟨g6, 0, none⟩)), pl 7 (.int .i64 r2), pl 22 (.int .i64 (Int.tmod r2 g1)), pl 26 (.int .i64 (geti ([0, (-1), 0, 1] : List Int) dir1))] hF hS (by kernel_rfl) (by kernel_rfl) ?_ (fun a hF => ?_)
            · exact obs_cons (ob_get1 (n := 4) (m := ([0, (-1), 0, 1] : List Int)) (Value.int .i64) (0 : Int) Agg3 (fun _ hS => ⟨_, (hS.at_ 0 rfl).rd⟩) (fun _ hS => ((hS.at_ 0 rfl).len1)) (fun _ => hp2)) <| obs_nil
            refine any_finI rfl (fun h => h) ?_
            refine any_step [8] (by kernel_rfl) rfl ?_
            refine (all_cons ?_ all_nil)
            · refine any_op (listed' := #[true, true, true, true, true, true, true, true, true, false]) (by kernel_rfl) (by kernel_rfl) ?_
              refine at_runW 1 [] [] [1, 2, 4, 6, 7, 27] [pl 1 (.int .i64 dir1), pl 2 (.pointer (some ⟨g4, 0, none⟩)), pl 4 (.pointer (some ⟨g5, 0, none⟩)), pl 6 (.pointer (some ⟨g6, 0, none⟩)), pl 7 (.int .i64 r2), pl 27 (.int .i64 (w64 ((Int.tmod r2 g1) + (geti ([0, (-1), 0, 1] : List Int) dir1))))] hF hS (by kernel_rfl) (by kernel_rfl) ?_ (fun a hF => ?_)
              · exact obs_nil
              refine any_finI rfl (fun h => h) ?_
              refine any_step [9] (by kernel_rfl) rfl ?_
              refine (all_cons ?_ all_nil)
              · refine any_op (listed' := #[true, true, true, true, true, true, true, true, true, true]) (by kernel_rfl) (by kernel_rfl) ?_
                refine at_runW 1 [] [] [1, 2, 4, 6, 7, 8] [pl 1 (.int .i64 dir1), pl 2 (.pointer (some ⟨g4, 0, none⟩)), pl 4 (.pointer (some ⟨g5, 0, none⟩)), pl 6 (.pointer (some ⟨g6, 0, none⟩)), pl 7 (.int .i64 r2), pl 8 (.int .i64 (w64 ((Int.tmod r2 g1) + (geti ([0, (-1), 0, 1] : List Int) dir1))))] hF hS (by kernel_rfl) (by kernel_rfl) ?_ (fun a hF => ?_)
                · exact obs_nil
                refine any_finI rfl (fun h => h) ?_
                refine any_end (by kernel_rfl) ?_
                refine np_n ?_
                refine then_n ?_
                have hS := hS.pickN 5 [1, 2, 3, 4] (by decide)
                exact ⟨hF.weak [1, 2, 4, 6, 7, 8] (by kernel_rfl), hS, hm⟩
  · obtain ⟨r3, hr3, hm⟩ := call_b hm
    refine reg [⟨false, [], callFunc 95 #[.int .i64 dir1, .int .i64 0, .int .i64 3], .bool r3⟩] [none, some (.bool r3), none] [1, 2, 4, 6, 7, 17] [pl 1 (.int .i64 dir1), pl 2 (.pointer (some ⟨g4, 0, none⟩)), pl 4 (.pointer (some ⟨g5, 0, none⟩)), pl 6 (.pointer (some ⟨g6, 0, none⟩)), pl 7 (.int .i64 r2), pl 17 (.bool (!r3))] hF hS Fol (by kernel_rfl) (by kernel_rfl) (by kernel_rfl) ?_ (fun a w hF hS => ?_)
    · exact obs_cons (ob_call Try.func95 (by kernel_rfl) rfl (fun _ _ hS => gameroomref_within_w hr3 hS )) <| obs_nil
    refine cond_ev (t := 17) (b := !r3) hF (by kernel_rfl) (fun hb => ?_) (fun hb => ?_)
    · replace hm := if_t hm hb
      refine seqR ?_
      refine at_run 1 [⟨false, [], vS (Instr.loadAt 41 (.pointer (some ⟨g6, 0, none⟩))), .agg #[.int .i64 r1.1, .int .i64 r1.2.1, .slice A2 r1.2.2.length c2]⟩] [some (.agg #[.int .i64 r1.1, .int .i64 r1.2.1, .slice A2 r1.2.2.length c2])] [4, 18] [pl 4 (.pointer (some ⟨g5, 0, none⟩)), pl 18 (.agg #[.int .i64 r1.1, .int .i64 r1.2.1, .slice A2 r1.2.2.length c2])] hF hS (by kernel_rfl) (by kernel_rfl) ?_ (fun a w hF hS => ?_)
      · exact obs_cons (ob_loadA (cs := #[.int .i64 r1.1, .int .i64 r1.2.1, .slice A2 r1.2.2.length c2]) (by kernel_rfl) (by kernel_rfl) (fun _ _ hS => (hS.at_ 0 rfl).cellsAt 0 (by rfl))) <| obs_nil
      obtain ⟨w, hrun, hS⟩ := run_putA (P := Try.prog) (t := 41) (us := #[.int .i64 r1.1, .int .i64 r1.2.1, .slice A2 r1.2.2.length c2]) (o := 0) (hS.at_ 2 rfl) (by kernel_rfl) (all_one (by kernel_rfl)) (Nat.le_of_ble_eq_true (by kernel_rfl))
      refine at_skip hF (by kernel_rfl) hrun ?_
      have hS : Sep w0 B w (blk g6 41 #[.int .i64 r1.1, .int .i64 r1.2.1, .slice A2 r1.2.2.length c2] :: own 3 (.slice A2 r1.2.2.length c2) (vI r1.2.2) :: blk g5 41 #[.int .i64 r1.1, .int .i64 r1.2.1, .slice A2 r1.2.2.length c2] :: blk g4 41 #[.int .i64 g1, .int .i64 g2, .slice A1 g3.length c1] :: fs) := hS
      refine at_run 1 [] [] [4, 5] [pl 4 (.pointer (some ⟨g5, 0, none⟩)), pl 5 (.bool false)] hF hS (by kernel_rfl) (by kernel_rfl) ?_ (fun a w hF hS => ?_)
      · exact obs_nil
      refine at_end [4, 5] [pl 4 (.pointer (some ⟨g5, 0, none⟩)), pl 5 (.bool false)] hF rfl (by kernel_rfl) (fun hF => ?_)
      refine then_n ?_
      refine wp_ret ?_
      refine then_r ?_
      have hld0 := run_loadVarA (P := Try.prog) (t := 41) (cs := #[.int .i64 r1.1, .int .i64 r1.2.1, .slice A2 r1.2.2.length c2]) (by kernel_rfl) (by kernel_rfl) ((hS.at_ 2 rfl).cellsAt 0 (by rfl))
      have hS := hS.pickN 4 [1] (by decide)
      have hm : some (r1.1, r1.2.1, r1.2.2, false) = some r := hm
      obtain rfl := Option.some.inj hm
      exact retV (rs := [.cell 4 41, .tmp 5]) (vs := [.agg #[.int .i64 r1.1, .int .i64 r1.2.1, .slice A2 r1.2.2.length c2], .bool false]) hF rfl (rv_c (by kernel_rfl) hld0 <| rv_t (by kernel_rfl) <| rv_nil) rfl ⟨_, rfl, A2, c2, rfl, hS⟩
    · replace hm := if_f hm hb
      refine wp_skip ?_
      refine then_n ?_
      have hS := hS.pickN 4 [3, 2, 0, 1] (by decide)
      exact ⟨hF.weak [1, 2, 4, 6, 7] (by kernel_rfl), hS, hm⟩

noncomputable def gameroomref_sameInts_J4 (i1 : Int) : Option (St Int (Fl Unit Bool)) :=
  some (.next (w64 (i1 + 1)))

noncomputable def gameroomref_sameInts_J3 (a1 : List Int) (b1 : List Int) (i1 : Int) : Option (St Int (Fl Unit Bool)) :=
  asrt (0 ≤ i1 ∧ i1 < (a1.length : Int)) <| asrt (0 ≤ i1 ∧ i1 < (b1.length : Int)) <| if ((geti a1 i1) != (geti b1 i1)) then (some (.done (.ret false))) else ((gameroomref_sameInts_J4 i1))

noncomputable def gameroomref_sameInts_J2 : Option Bool :=
  some true

noncomputable def gameroomref_sameInts_K1 : (Fl Unit Bool) → Option Bool :=
  fun (x : (Fl Unit Bool)) => match x with | .go _ => gameroomref_sameInts_J2 | .ret x => some x

noncomputable def gameroomref_sameInts_L1 (a1 : List Int) (b1 : List Int) : Int → Option (St Int (Fl Unit Bool)) :=
  fun (x : Int) => match x with | i1 => if (decide (i1 < (a1.length : Int))) then ((gameroomref_sameInts_J3 a1 b1 i1)) else (some (.done (.go ())))

noncomputable def gameroomref_sameInts_J1 (a1 : List Int) (b1 : List Int) : Option Bool :=
  (loop (gameroomref_sameInts_L1 a1 b1) 0).bind gameroomref_sameInts_K1

noncomputable def gameroomref_sameInts_m (a1 : List Int) (b1 : List Int) : Option Bool :=
  if ((a1.length : Int) != (b1.length : Int)) then (some false) else ((gameroomref_sameInts_J1 a1 b1))

set_option maxRecDepth 100000 in
set_option maxHeartbeats 4000000 in
theorem gameroomref_sameInts_w {A1 : Option Addr} {c1 : Nat} {n1 : Nat} {a1 : List Int} {A2 : Option Addr} {c2 : Nat} {n2 : Nat} {b1 : List Int} {r : Bool} {w0 w : World} {B : Nat} {fs : List HP} (hm : gameroomref_sameInts_m a1 b1 = some r) (hS : Sep w0 B w (fs)) (hr_a1 : RdF w0 B fs A1 (vI a1)) (_hc_a1 : a1.length ≤ c1) (_hn_a1 : n1 = a1.length) (hr_b1 : RdF w0 B fs A2 (vI b1)) (_hc_b1 : b1.length ≤ c2) (_hn_b1 : n2 = b1.length) :
    Calls Try.prog 106 #[.slice A1 n1 c1, .slice A2 n2 c2] w fun e w' => e = .returned (.bool r) ∧ Sep w0 B w' (fs) := by
  obtain ⟨i3, hi3, hz3, hs3, hb3⟩ := info_parts Info3
  obtain rfl := _hn_a1
  obtain rfl := _hn_b1
  unfold gameroomref_sameInts_m at hm
  replace hm := start_b hm
  refine enter (l := [.slice A1 a1.length c1, .slice A2 b1.length c2]) (n := 26) Try.func106 rfl rfl (by simp) (fun a hF => ?_)
  refine reg [] [] [0, 1] [pl 0 (.slice A1 a1.length c1), pl 1 (.slice A2 b1.length c2)] hF hS Fol (by kernel_rfl) (by kernel_rfl) (by kernel_rfl) ?_ (fun a w hF hS => ?_)
  · exact obs_nil
  refine seq_cut (fun a w => Fr 26 [pl 0 (.slice A1 a1.length c1), pl 1 (.slice A2 b1.length c2)] a ∧ Sep w0 B w (fs) ∧ ((gameroomref_sameInts_J1 a1 b1)).bind some = some r) ?_ ?_
  · rintro a w ⟨hF, hS, hm⟩
    unfold gameroomref_sameInts_J1 at hm
    refine seq_cut (fun a w => Fr 26 [] a ∧ Sep w0 B w (fs) ∧ (gameroomref_sameInts_J2).bind some = some r) ?_ ?_
    · rintro a w ⟨hF, hS, hm⟩
      unfold gameroomref_sameInts_J2 at hm
      refine reg [] [] [4] [pl 4 (.bool true)] hF hS Fol (by kernel_rfl) (by kernel_rfl) (by kernel_rfl) ?_ (fun a w hF hS => ?_)
      · exact obs_nil
      refine wp_ret ?_
      have hm : some true = some r := hm
      obtain rfl := Option.some.inj hm
      exact retV (rs := [.tmp 4]) (vs := [.bool true]) hF rfl (rv_t (by kernel_rfl) <| rv_nil) rfl ⟨rfl, hS⟩
    · refine reg [] [] [0, 1, 5] [pl 0 (.slice A1 a1.length c1), pl 1 (.slice A2 b1.length c2), pl 5 (.int .i64 0)] hF hS Fol (by kernel_rfl) (by kernel_rfl) (by kernel_rfl) ?_ (fun a w hF hS => ?_)
      · exact obs_nil
      refine wp_block ?_
      refine wp_loop_model (S := Int) (R := (Fl Unit Bool)) (gameroomref_sameInts_L1 a1 b1) (fun x => (gameroomref_sameInts_K1 x).bind some) r (fun (x : Int) a w => Fr 26 [pl 0 (.slice A1 a1.length c1), pl 1 (.slice A2 b1.length c2), pl 5 (.int .i64 x)] a ∧ Sep w0 B w (fs)) (assoc_b hm) ⟨hF.weak [0, 1, 5] (by kernel_rfl), hS⟩ ?_
      clear hF hS hm
      rintro nn1 i1 a w ⟨hF, hS⟩ hm
      generalize hφ1 : stK (gameroomref_sameInts_L1 a1 b1) nn1 (fun x => (gameroomref_sameInts_K1 x).bind some) = φ1 at hm
      unfold gameroomref_sameInts_L1 at hm
      dsimp only at hm
      refine seq_cut (fun a w => Fr 26 [pl 0 (.slice A1 a1.length c1), pl 1 (.slice A2 b1.length c2), pl 5 (.int .i64 i1)] a ∧ Sep w0 B w (fs) ∧ ((gameroomref_sameInts_J3 a1 b1 i1)).bind φ1 = some r) ?_ ?_
      · rintro a w ⟨hF, hS, hm⟩
        unfold gameroomref_sameInts_J3 at hm
        refine seq_cut (fun a w => Fr 26 [pl 0 (.slice A1 a1.length c1), pl 1 (.slice A2 b1.length c2), pl 5 (.int .i64 i1)] a ∧ Sep w0 B w (fs) ∧ ((gameroomref_sameInts_J4 i1)).bind φ1 = some r) ?_ ?_
        · rintro a w ⟨hF, hS, hm⟩
          unfold gameroomref_sameInts_J4 at hm
          refine reg1 [] [] [0, 1, 5] [pl 0 (.slice A1 a1.length c1), pl 1 (.slice A2 b1.length c2), pl 5 (.int .i64 (w64 (i1 + 1)))] hF hS Fol (by kernel_rfl) (by kernel_rfl) (by kernel_rfl) ?_ (fun a w hF hS => ?_)
          · exact obs_nil
          refine then_n ?_
          rw [← hφ1] at hm
          exact ⟨(w64 (i1 + 1)), ⟨hF.weak [0, 1, 5] (by kernel_rfl), hS⟩, hm⟩
        · refine wp_block ?_
          obtain ⟨hp1, hm⟩ := asrt_b hm
          obtain ⟨hp2, hm⟩ := asrt_b hm
          refine reg [⟨true, [], vS (Instr.indexAt 22 (.slice A1 a1.length c1) (.int .i64 i1)), .pointer (some (sAddr A1 i1))⟩, ⟨false, [], vS (Instr.loadAt 3 (.pointer (some (sAddr A1 i1)))), .int .i64 (geti a1 i1)⟩, ⟨true, [], vS (Instr.indexAt 22 (.slice A2 b1.length c2) (.int .i64 i1)), .pointer (some (sAddr A2 i1))⟩, ⟨false, [], vS (Instr.loadAt 3 (.pointer (some (sAddr A2 i1)))), .int .i64 (geti b1 i1)⟩] [none, none, some (.pointer (some (sAddr A1 i1))), some (.int .i64 (geti a1 i1)), none, none, some (.pointer (some (sAddr A2 i1))), some (.int .i64 (geti b1 i1)), none] [0, 1, 5, 25] [pl 0 (.slice A1 a1.length c1), pl 1 (.slice A2 b1.length c2), pl 5 (.int .i64 i1), pl 25 (.bool ((geti a1 i1) != (geti b1 i1)))] hF hS Fol (by kernel_rfl) (by kernel_rfl) (by kernel_rfl) ?_ (fun a w hF hS => ?_)
          · exact obs_cons (ob_ix1 (f := (Value.int .i64)) (m := a1) Und22 hi3 hs3 (hr_a1 _ (hS.dropN 0)) rfl (fun _ => hp1)) <| obs_cons (ob_get1 (n := a1.length) (m := a1) (Value.int .i64) (0 : Int) Agg3 (fun _ hS => ⟨_, (hr_a1 _ (hS.dropN 0))⟩) (fun _ hS => rfl) (fun _ => hp1)) <| obs_cons (ob_ix1 (f := (Value.int .i64)) (m := b1) Und22 hi3 hs3 (hr_b1 _ (hS.dropN 0)) rfl (fun _ => hp2)) <| obs_cons (ob_get1 (n := b1.length) (m := b1) (Value.int .i64) (0 : Int) Agg3 (fun _ hS => ⟨_, (hr_b1 _ (hS.dropN 0))⟩) (fun _ hS => rfl) (fun _ => hp2)) <| obs_nil
          refine cond_ev (t := 25) (b := ((geti a1 i1) != (geti b1 i1))) hF (by kernel_rfl) (fun hb => ?_) (fun hb => ?_)
          · replace hm := if_t hm hb
            refine reg [] [] [4] [pl 4 (.bool false)] hF hS Fol (by kernel_rfl) (by kernel_rfl) (by kernel_rfl) ?_ (fun a w hF hS => ?_)
            · exact obs_nil
            refine wp_ret ?_
            refine block_r (then_r (then_r (block_r (then_r ?_))))
            rw [← hφ1] at hm
            replace hm := done_b hm
            unfold gameroomref_sameInts_K1 at hm
            try dsimp only at hm
            have hm : some false = some r := hm
            obtain rfl := Option.some.inj hm
            exact retV (rs := [.tmp 4]) (vs := [.bool false]) hF rfl (rv_t (by kernel_rfl) <| rv_nil) rfl ⟨rfl, hS⟩
          · replace hm := if_f hm hb
            refine wp_skip ?_
            refine block_n ?_
            refine then_n ?_
            exact ⟨hF.weak [0, 1, 5] (by kernel_rfl), hS, hm⟩
      · refine reg [] [] [0, 1, 5, 14] [pl 0 (.slice A1 a1.length c1), pl 1 (.slice A2 b1.length c2), pl 5 (.int .i64 i1), pl 14 (.bool (decide (i1 < (a1.length : Int))))] hF hS Fol (by kernel_rfl) (by kernel_rfl) (by kernel_rfl) ?_ (fun a w hF hS => ?_)
        · exact obs_nil
        refine cond_ev (t := 14) (b := decide (i1 < (a1.length : Int))) hF (by kernel_rfl) (fun hb => ?_) (fun hb => ?_)
        · replace hm := if_t hm hb
          refine wp_skip ?_
          refine then_n ?_
          exact ⟨hF.weak [0, 1, 5] (by kernel_rfl), hS, hm⟩
        · replace hm := if_f hm hb
          refine wp_exit ?_
          refine then_e (then_e (block_e (then_n ?_)))
          rw [← hφ1] at hm
          replace hm := done_b hm
          unfold gameroomref_sameInts_K1 at hm
          try dsimp only at hm
          have hm : (gameroomref_sameInts_J2).bind some = some r := hm
          exact ⟨hF.weak [] (by kernel_rfl), hS, hm⟩
  · refine reg [] [] [0, 1, 10] [pl 0 (.slice A1 a1.length c1), pl 1 (.slice A2 b1.length c2), pl 10 (.bool ((a1.length : Int) != (b1.length : Int)))] hF hS Fol (by kernel_rfl) (by kernel_rfl) (by kernel_rfl) ?_ (fun a w hF hS => ?_)
    · exact obs_nil
    refine cond_ev (t := 10) (b := ((a1.length : Int) != (b1.length : Int))) hF (by kernel_rfl) (fun hb => ?_) (fun hb => ?_)
    · replace hm := if_t hm hb
      refine reg [] [] [4] [pl 4 (.bool false)] hF hS Fol (by kernel_rfl) (by kernel_rfl) (by kernel_rfl) ?_ (fun a w hF hS => ?_)
      · exact obs_nil
      refine wp_ret ?_
      refine then_r ?_
      have hm : some false = some r := hm
      obtain rfl := Option.some.inj hm
      exact retV (rs := [.tmp 4]) (vs := [.bool false]) hF rfl (rv_t (by kernel_rfl) <| rv_nil) rfl ⟨rfl, hS⟩
    · replace hm := if_f hm hb
      refine wp_skip ?_
      refine then_n ?_
      exact ⟨hF.weak [0, 1] (by kernel_rfl), hS, hm⟩

noncomputable def gameroomref_SameGrid_m (a1 : Int) (a2 : Int) (a3 : List Int) (b1 : Int) (b2 : Int) (b3 : List Int) : Option Bool :=
  ((if ((a1 == b1) && (a2 == b2)) then gameroomref_sameInts_m a3 b3 else some false)).bind fun r1 => some (((a1 == b1) && (a2 == b2)) && r1)

set_option maxRecDepth 100000 in
set_option maxHeartbeats 4000000 in
theorem gameroomref_SameGrid_w {a1 : Int} {a2 : Int} {A1 : Option Addr} {c1 : Nat} {n1 : Nat} {a3 : List Int} {b1 : Int} {b2 : Int} {A2 : Option Addr} {c2 : Nat} {n2 : Nat} {b3 : List Int} {r : Bool} {w0 w : World} {B : Nat} {fs : List HP} (hm : gameroomref_SameGrid_m a1 a2 a3 b1 b2 b3 = some r) (hS : Sep w0 B w (fs)) (hr_a3 : RdF w0 B fs A1 (vI a3)) (_hc_a3 : a3.length ≤ c1) (_hn_a3 : n1 = a3.length) (hr_b3 : RdF w0 B fs A2 (vI b3)) (_hc_b3 : b3.length ≤ c2) (_hn_b3 : n2 = b3.length) :
    Calls Try.prog 40 #[.agg #[.int .i64 a1, .int .i64 a2, .slice A1 n1 c1], .agg #[.int .i64 b1, .int .i64 b2, .slice A2 n2 c2]] w fun e w' => e = .returned (.bool r) ∧ Sep w0 B w' (fs) := by
  obtain ⟨i3, hi3, hz3, hs3, hb3⟩ := info_parts Info3
  obtain rfl := _hn_a3
  obtain rfl := _hn_b3
  unfold gameroomref_SameGrid_m at hm
  replace hm := start_b hm
  refine enter (l := [.agg #[.int .i64 a1, .int .i64 a2, .slice A1 a3.length c1], .agg #[.int .i64 b1, .int .i64 b2, .slice A2 b3.length c2]]) (n := 24) Try.func40 rfl rfl (by simp) (fun a hF => ?_)
  refine seqR ?_
  refine at_do (d := 2) (s := vS (Instr.box 41 (.agg #[.int .i64 a1, .int .i64 a2, .slice A1 a3.length c1]))) (v := .pointer (some ⟨w.heap.size, 0, none⟩)) (w' := w.alloc (.cells #[.int .i64 a1, .int .i64 a2, .slice A1 a3.length c1] 41)) hF (by kernel_rfl) (by kernel_rfl) (by kernel_rfl) (fun a hF => ?_)
  have hS : Sep w0 B (w.alloc (.cells #[.int .i64 a1, .int .i64 a2, .slice A1 a3.length c1] 41)) (blk w.heap.size 41 #[.int .i64 a1, .int .i64 a2, .slice A1 a3.length c1] :: (fs)) := hS.box 41 #[.int .i64 a1, .int .i64 a2, .slice A1 a3.length c1]
  generalize w.heap.size = g1 at hF hS
  generalize w.alloc (.cells #[.int .i64 a1, .int .i64 a2, .slice A1 a3.length c1] 41) = w at hS ⊢
  refine at_do (d := 3) (s := vS (Instr.box 41 (.agg #[.int .i64 b1, .int .i64 b2, .slice A2 b3.length c2]))) (v := .pointer (some ⟨w.heap.size, 0, none⟩)) (w' := w.alloc (.cells #[.int .i64 b1, .int .i64 b2, .slice A2 b3.length c2] 41)) hF (by kernel_rfl) (by kernel_rfl) (by kernel_rfl) (fun a hF => ?_)
  have hS : Sep w0 B (w.alloc (.cells #[.int .i64 b1, .int .i64 b2, .slice A2 b3.length c2] 41)) (blk w.heap.size 41 #[.int .i64 b1, .int .i64 b2, .slice A2 b3.length c2] :: (blk g1 41 #[.int .i64 a1, .int .i64 a2, .slice A1 a3.length c1] :: fs)) := hS.box 41 #[.int .i64 b1, .int .i64 b2, .slice A2 b3.length c2]
  generalize w.heap.size = g2 at hF hS
  generalize w.alloc (.cells #[.int .i64 b1, .int .i64 b2, .slice A2 b3.length c2] 41) = w at hS ⊢
  refine at_run 1 [] [] [2, 3] [pl 2 (.pointer (some ⟨g1, 0, none⟩)), pl 3 (.pointer (some ⟨g2, 0, none⟩))] hF hS (by kernel_rfl) (by kernel_rfl) ?_ (fun a w hF hS => ?_)
  · exact obs_nil
  refine at_end [2, 3] [pl 2 (.pointer (some ⟨g1, 0, none⟩)), pl 3 (.pointer (some ⟨g2, 0, none⟩))] hF rfl (by kernel_rfl) (fun hF => ?_)
  refine then_n ?_
  obtain ⟨r1, hr1, hm⟩ := call_b hm
  refine reg [⟨false, [], vS (Instr.loadAt 3 (.pointer (some ⟨g1, 0, none⟩))), .int .i64 a1⟩, ⟨false, [], vS (Instr.loadAt 3 (.pointer (some ⟨g2, 0, none⟩))), .int .i64 b1⟩, ⟨false, [((a1 == b1), true)], vS (Instr.loadAt 3 (.pointer (some ⟨g1, 1, none⟩))), .int .i64 a2⟩, ⟨false, [((a1 == b1), true)], vS (Instr.loadAt 3 (.pointer (some ⟨g2, 1, none⟩))), .int .i64 b2⟩, ⟨false, [((a1 == b1) && (a2 == b2), true)], vS (Instr.loadAt 22 (.pointer (some ⟨g1, 2, none⟩))), .slice A1 a3.length c1⟩, ⟨false, [((a1 == b1) && (a2 == b2), true)], vS (Instr.loadAt 22 (.pointer (some ⟨g2, 2, none⟩))), .slice A2 b3.length c2⟩, ⟨false, [((a1 == b1) && (a2 == b2), true)], callFunc 106 #[.slice A1 a3.length c1, .slice A2 b3.length c2], .bool r1⟩] [none, some (.int .i64 a1), none, some (.int .i64 b1), none, none, none, some (.int .i64 a2), none, some (.int .i64 b2), none, none, none, none, some (.slice A1 a3.length c1), none, some (.slice A2 b3.length c2), some (.bool r1), none, none] [4] [pl 4 (.bool (((a1 == b1) && (a2 == b2)) && r1))] hF hS Fol (by kernel_rfl) (by kernel_rfl) (by kernel_rfl) ?_ (fun a w hF hS => ?_)
  · exact obs_cons (ob_load Agg3 (fun _ _ hS => (hS.at_ 1 rfl).cell rfl)) <| obs_cons (ob_load Agg3 (fun _ _ hS => (hS.at_ 0 rfl).cell rfl)) <| obs_cons (ob_load Agg3 (fun _ _ hS => (hS.at_ 1 rfl).cell rfl)) <| obs_cons (ob_load Agg3 (fun _ _ hS => (hS.at_ 0 rfl).cell rfl)) <| obs_cons (ob_load Agg22 (fun _ _ hS => (hS.at_ 1 rfl).cell rfl)) <| obs_cons (ob_load Agg22 (fun _ _ hS => (hS.at_ 0 rfl).cell rfl)) <| obs_cons (ob_call Try.func106 (by kernel_rfl) rfl (fun hy _ hS => gameroomref_sameInts_w (ite_some hr1 (by rw [show ((a1 == b1) && (a2 == b2)) = true from hy ((a1 == b1) && (a2 == b2), true) (by simp)]; try rfl)) hS (fun _ hS => (hr_a3 _ (hS.dropN 2))) _hc_a3 rfl (fun _ hS => (hr_b3 _ (hS.dropN 2))) _hc_b3 rfl)) <| obs_nil
  refine wp_ret ?_
  have hS := hS.pickN 2 [] (by decide)
  have hm : some (((a1 == b1) && (a2 == b2)) && r1) = some r := hm
  obtain rfl := Option.some.inj hm
  exact retV (rs := [.tmp 4]) (vs := [.bool (((a1 == b1) && (a2 == b2)) && r1)]) hF rfl (rv_t (by kernel_rfl) <| rv_nil) rfl ⟨rfl, hS⟩

noncomputable def gameroomref_SlideHome_J3 (i1 : Int) (g6 : List Int) : Option (St (List Int × Int) (List Int)) :=
  some (.next (g6, (w64 (i1 + 1))))

noncomputable def gameroomref_SlideHome_J2 (w1 : Int) (h1 : Int) (g3 : List Int) (i1 : Int) : Option (St (List Int × Int) (List Int)) :=
  asrt ((w64 (w1 * h1)) ≠ (0 : Int)) <| asrt ((g3.length : Int) + 1 ≤ bigN) <| (gameroomref_SlideHome_J3 i1) (g3 ++ ([Int.tmod i1 (w64 (w1 * h1))] : List Int))

noncomputable def gameroomref_SlideHome_J1 (w1 : Int) (h1 : Int) (g4 : List Int) : Option (Int × Int × List Int) :=
  some (w1, h1, g4)

noncomputable def gameroomref_SlideHome_K1 (w1 : Int) (h1 : Int) : (List Int) → Option (Int × Int × List Int) :=
  fun (x : (List Int)) => match x with | g4 => (gameroomref_SlideHome_J1 w1 h1) g4

noncomputable def gameroomref_SlideHome_L1 (w1 : Int) (h1 : Int) : (List Int × Int) → Option (St (List Int × Int) (List Int)) :=
  fun (x : (List Int × Int)) => match x with | (g3, i1) => if (decide (i1 ≤ (w64 (w1 * h1)))) then ((gameroomref_SlideHome_J2 w1 h1 g3 i1)) else (some (.done g3))
end Go.Proofs.Ytlkdblflibgfpaa
