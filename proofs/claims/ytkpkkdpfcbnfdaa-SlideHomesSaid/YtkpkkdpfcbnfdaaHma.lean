/-
  Models and walks, printed by our own program (wip/gen).
-/
import Derived.Test.YtkpkkdpfcbnfdaaFB
import Derived.Test.YtkpkkdpfcbnfdaaLibJ
import Derived.Test.YtkpkkdpfcbnfdaaLibD
import Derived.Test.YtkpkkdpfcbnfdaaFE
import Derived.Test.YtkpkkdpfcbnfdaaLibPl
import Derived.Test.YtkpkkdpfcbnfdaaFM
import Derived.Test.YtkpkkdpfcbnfdaaLibG
import Derived.Test.YtkpkkdpfcbnfdaaSI
namespace Go.Proofs.Ytkpkkdpfcbnfdaa
open Go Go.GL Go.RowKit




noncomputable def gameroomref_Ints_m  (l1 : List Int) : Option (List Int) :=
  asrt ((0 : Int) + (l1.length : Int) ≤ bigN) <| some ([] ++ l1)

set_option maxRecDepth 100000 in
set_option maxHeartbeats 4000000 in
theorem gameroomref_Ints_w  {A1 : Option Addr} {c1 : Nat} {n1 : Nat} {l1 : List Int} {r : (List Int)} {w0 w : World} {B : Nat} {fs : List HP} (hm : gameroomref_Ints_m l1 = some r) (hS : Sep w0 B w (fs)) (hr_l1 : RdF w0 B fs A1 (vI l1)) (_hc_l1 : l1.length ≤ c1) (_hn_l1 : n1 = l1.length) :
    Calls Try.prog 49 #[.slice A1 n1 c1] w fun e w' => ∃ v, e = .returned v ∧ ∃ (A3 : Option Addr) (c3 : Nat), v = .slice A3 r.length c3 ∧ Sep w0 B w' (own 3 (.slice A3 r.length c3) (vI r) :: fs) := by
  obtain ⟨i3, hi3, hz3, hs3, hb3⟩ := info_parts Info3
  obtain rfl := _hn_l1
  unfold gameroomref_Ints_m at hm
  replace hm := start_b hm
  refine enter (l := [.slice A1 l1.length c1]) (n := 5) Try.func49 rfl rfl (by simp) (fun a hF => ?_)
  refine reg [] [] [0] [pl 0 (.slice A1 l1.length c1)] hF hS Fol (by kernel_rfl) (by kernel_rfl) (by kernel_rfl) ?_ (fun a w hF hS => ?_)
  · exact obs_nil
  refine seqR ?_
  obtain ⟨hp1, hm⟩ := asrt_b hm
  refine at_run 1 [] [] [3] [pl 3 (.slice A1 l1.length c1)] hF hS (by kernel_rfl) (by kernel_rfl) ?_ (fun a w hF hS => ?_)
  · exact obs_nil
  have hS : Sep w0 B w (own 3 (.slice none 0 0) (vI ([] : List Int)) :: fs) := hS.nil 3
  obtain ⟨A2, c2, w, hrun, hS⟩ := run_app1 (P := Try.prog) (t := 22) (m := ([] : List Int)) (ys := l1) (A2 := A1) (m2 := l1.length) (c2 := c1) (Value.int .i64) (0 : Int) (hS.at_ 0 rfl) (hr_l1 _ (hS.dropN 1)) rfl 22 Und22 hi3 hz3 hs3 (by omega) rfl (fun _ => rfl) hp1
  have hS : Sep w0 B w (own 3 (.slice A2 (([] ++ l1).length) c2) (vI ([] ++ l1)) :: fs) := hS
  refine at_do (d := 4) hF (by kernel_rfl) (by kernel_rfl) hrun (fun a hF => ?_)
  refine at_run 1 [] [] [2] [pl 2 (.slice A2 (([] ++ l1).length) c2)] hF hS (by kernel_rfl) (by kernel_rfl) ?_ (fun a w hF hS => ?_)
  · exact obs_nil
  refine at_end [2] [pl 2 (.slice A2 (([] ++ l1).length) c2)] hF rfl (by kernel_rfl) (fun hF => ?_)
  refine then_n ?_
  refine wpIn_ret ?_
  have hm : some ([] ++ l1) = some r := hm
  obtain rfl := Option.some.inj hm
  exact retV (rs := [.tmp 2]) (vs := [.slice A2 (([] ++ l1).length) c2]) hF rfl (rv_t (by kernel_rfl) <| rv_nil) rfl ⟨_, rfl, A2, c2, rfl, hS⟩

noncomputable def gameroomref_GridOf_m  (g1 : Int) (g2 : Int) (g3 : List Int) : Option (Int × Int × List Int) :=
  (gameroomref_Ints_m g3).bind fun r1 => some (g1, g2, r1)

set_option maxRecDepth 100000 in
set_option maxHeartbeats 4000000 in
theorem gameroomref_GridOf_w  {g1 : Int} {g2 : Int} {A1 : Option Addr} {c1 : Nat} {n1 : Nat} {g3 : List Int} {r : (Int × Int × List Int)} {w0 w : World} {B : Nat} {fs : List HP} (hm : gameroomref_GridOf_m g1 g2 g3 = some r) (hS : Sep w0 B w (fs)) (hr_g3 : RdF w0 B fs A1 (vI g3)) (_hc_g3 : g3.length ≤ c1) (_hn_g3 : n1 = g3.length) :
    Calls Try.prog 13 #[.agg #[.int .i64 g1, .int .i64 g2, .slice A1 n1 c1]] w fun e w' => ∃ v, e = .returned v ∧ ∃ (A3 : Option Addr) (c3 : Nat), v = .agg #[.int .i64 r.1, .int .i64 r.2.1, .slice A3 r.2.2.length c3] ∧ Sep w0 B w' (own 3 (.slice A3 r.2.2.length c3) (vI r.2.2) :: fs) := by
  obtain ⟨i3, hi3, hz3, hs3, hb3⟩ := info_parts Info3
  obtain ⟨i22, hi22, hz22, hs22, hb22⟩ := info_parts Info22
  obtain rfl := _hn_g3
  unfold gameroomref_GridOf_m at hm
  replace hm := start_b hm
  refine enter (l := [.agg #[.int .i64 g1, .int .i64 g2, .slice A1 g3.length c1]]) (n := 8) Try.func13 rfl rfl (by simp) (fun a hF => ?_)
  refine seqR ?_
  refine at_do (d := 1) (s := vS (Instr.box 32 (.agg #[.int .i64 g1, .int .i64 g2, .slice A1 g3.length c1]))) (v := .pointer (some ⟨w.heap.size, 0, none⟩)) (w' := w.alloc (.cells #[.int .i64 g1, .int .i64 g2, .slice A1 g3.length c1] 32)) hF (by kernel_rfl) (by kernel_rfl) (by kernel_rfl) (fun a hF => ?_)
  have hS : Sep w0 B (w.alloc (.cells #[.int .i64 g1, .int .i64 g2, .slice A1 g3.length c1] 32)) (blk w.heap.size 32 #[.int .i64 g1, .int .i64 g2, .slice A1 g3.length c1] :: (fs)) := hS.box 32 #[.int .i64 g1, .int .i64 g2, .slice A1 g3.length c1]
  generalize w.heap.size = g4 at hF hS
  generalize w.alloc (.cells #[.int .i64 g1, .int .i64 g2, .slice A1 g3.length c1] 32) = w at hS ⊢
  refine at_do (d := 2) (s := vS (Instr.alloc 32 true (.tuple #[]))) (v := .pointer (some ⟨w.heap.size, 0, none⟩)) (w' := w.alloc (.cells #[.int .i64 0, .int .i64 0, .slice none 0 0] 32)) hF (by kernel_rfl) (by kernel_rfl) (by kernel_rfl) (fun a hF => ?_)
  have hS : Sep w0 B (w.alloc (.cells #[.int .i64 0, .int .i64 0, .slice none 0 0] 32)) (blk w.heap.size 32 #[.int .i64 0, .int .i64 0, .slice none 0 0] :: (blk g4 32 #[.int .i64 g1, .int .i64 g2, .slice A1 g3.length c1] :: fs)) := hS.box 32 #[.int .i64 0, .int .i64 0, .slice none 0 0]
  generalize w.heap.size = g5 at hF hS
  generalize w.alloc (.cells #[.int .i64 0, .int .i64 0, .slice none 0 0] 32) = w at hS ⊢
  refine at_end [1, 2] [pl 1 (.pointer (some ⟨g4, 0, none⟩)), pl 2 (.pointer (some ⟨g5, 0, none⟩))] hF rfl (by kernel_rfl) (fun hF => ?_)
  refine then_n ?_
  refine seqR ?_
  obtain ⟨r1, hr1, hm⟩ := call_b hm
  refine at_run 2 [⟨false, [], vS (Instr.loadAt 22 (.pointer (some ⟨g4, 2, none⟩))), .slice A1 g3.length c1⟩] [none, some (.slice A1 g3.length c1)] [1, 2, 4] [pl 1 (.pointer (some ⟨g4, 0, none⟩)), pl 2 (.pointer (some ⟨g5, 0, none⟩)), pl 4 (.slice A1 g3.length c1)] hF hS (by kernel_rfl) (by kernel_rfl) ?_ (fun a w hF hS => ?_)
  · exact obs_cons (ob_load Agg22 (fun _ _ hS => (hS.at_ 1 rfl).cell rfl)) <| obs_nil
  refine at_call (f := 49) (args := #[.slice A1 g3.length c1]) (d := 5) hF (by kernel_rfl) (by kernel_rfl) Try.func49 (by kernel_rfl) rfl (gameroomref_Ints_w hr1 hS (fun _ hS => (hr_g3 _ (hS.dropN 2))) _hc_g3 rfl) (fun v a w hR hF => ?_)
  clear hS
  obtain ⟨A2, c2, rfl, hS⟩ := hR
  have hS : Sep w0 B w (own 3 (.slice A2 r1.length c2) (vI r1) :: blk g5 32 #[.int .i64 0, .int .i64 0, .slice none 0 0] :: blk g4 32 #[.int .i64 g1, .int .i64 g2, .slice A1 g3.length c1] :: fs) := hS
  refine at_run 1 [] [] [1, 2, 5, 6] [pl 1 (.pointer (some ⟨g4, 0, none⟩)), pl 2 (.pointer (some ⟨g5, 0, none⟩)), pl 5 (.slice A2 r1.length c2), pl 6 (.pointer (some ⟨g4, 2, none⟩))] hF hS (by kernel_rfl) (by kernel_rfl) ?_ (fun a w hF hS => ?_)
  · exact obs_nil
  obtain ⟨w, hrun, hS⟩ := run_put (P := Try.prog) (t := 22) (u := .slice A2 r1.length c2) (i := 2) (hS.at_ 2 rfl) hi22 hs22 rfl (Nat.lt_of_lt_of_eq (Nat.lt_of_succ_le (Nat.le_of_ble_eq_true (by kernel_rfl))) rfl)
  refine at_skip hF (by kernel_rfl) hrun ?_
  have hS : Sep w0 B w (own 3 (.slice A2 r1.length c2) (vI r1) :: blk g5 32 #[.int .i64 0, .int .i64 0, .slice none 0 0] :: blk g4 32 #[.int .i64 g1, .int .i64 g2, .slice A2 r1.length c2] :: fs) := hS
  refine at_end [1, 2] [pl 1 (.pointer (some ⟨g4, 0, none⟩)), pl 2 (.pointer (some ⟨g5, 0, none⟩))] hF rfl (by kernel_rfl) (fun hF => ?_)
  refine then_n ?_
  refine seqR ?_
  refine at_run 1 [⟨false, [], vS (Instr.loadAt 32 (.pointer (some ⟨g4, 0, none⟩))), .agg #[.int .i64 g1, .int .i64 g2, .slice A2 r1.length c2]⟩] [some (.agg #[.int .i64 g1, .int .i64 g2, .slice A2 r1.length c2])] [2, 7] [pl 2 (.pointer (some ⟨g5, 0, none⟩)), pl 7 (.agg #[.int .i64 g1, .int .i64 g2, .slice A2 r1.length c2])] hF hS (by kernel_rfl) (by kernel_rfl) ?_ (fun a w hF hS => ?_)
  · exact obs_cons (ob_loadA (cs := #[.int .i64 g1, .int .i64 g2, .slice A2 r1.length c2]) (by kernel_rfl) (by kernel_rfl) (fun _ _ hS => (hS.at_ 2 rfl).cellsAt 0 (by rfl))) <| obs_nil
  obtain ⟨w, hrun, hS⟩ := run_putA (P := Try.prog) (t := 32) (us := #[.int .i64 g1, .int .i64 g2, .slice A2 r1.length c2]) (o := 0) (hS.at_ 1 rfl) (by kernel_rfl) (all_one (by kernel_rfl)) (Nat.le_of_ble_eq_true (by kernel_rfl))
  refine at_skip hF (by kernel_rfl) hrun ?_
  have hS : Sep w0 B w (own 3 (.slice A2 r1.length c2) (vI r1) :: blk g5 32 #[.int .i64 g1, .int .i64 g2, .slice A2 r1.length c2] :: blk g4 32 #[.int .i64 g1, .int .i64 g2, .slice A2 r1.length c2] :: fs) := hS
  refine at_end [2] [pl 2 (.pointer (some ⟨g5, 0, none⟩))] hF rfl (by kernel_rfl) (fun hF => ?_)
  refine then_n ?_
  refine wpIn_ret ?_
  have hld0 := run_loadVarA (P := Try.prog) (t := 32) (cs := #[.int .i64 g1, .int .i64 g2, .slice A2 r1.length c2]) (by kernel_rfl) (by kernel_rfl) ((hS.at_ 1 rfl).cellsAt 0 (by rfl))
  have hS := hS.pickN 3 [0] (by decide)
  have hm : some (g1, g2, r1) = some r := hm
  obtain rfl := Option.some.inj hm
  exact retV (rs := [.cell 2 32]) (vs := [.agg #[.int .i64 g1, .int .i64 g2, .slice A2 r1.length c2]]) hF rfl (rv_c (by kernel_rfl) hld0 <| rv_nil) rfl ⟨_, rfl, A2, c2, rfl, hS⟩

noncomputable def slide_far_m  (n1 : Int) : Option Bool :=
  some ((decide (n1 < 2)) || (decide ((5 : Int) < n1)))

set_option maxRecDepth 100000 in
set_option maxHeartbeats 4000000 in
theorem slide_far_w  {n1 : Int} {r : Bool} {w0 w : World} {B : Nat} {fs : List HP} (hm : slide_far_m n1 = some r) (hS : Sep w0 B w (fs)) :
    Calls Try.prog 58 #[.int .i64 n1] w fun e w' => e = .returned (.bool r) ∧ Sep w0 B w' (fs) := by
  unfold slide_far_m at hm
  replace hm := start_b hm
  refine enter (l := [.int .i64 n1]) (n := 9) Try.func58 rfl rfl (by simp) (fun a hF => ?_)
  refine reg [] [] [0] [pl 0 (.int .i64 n1)] hF hS Fol (by kernel_rfl) (by kernel_rfl) (by kernel_rfl) ?_ (fun a w hF hS => ?_)
  · exact obs_nil
  refine reg [] [] [2] [pl 2 (.bool ((decide (n1 < 2)) || (decide ((5 : Int) < n1))))] hF hS Fol (by kernel_rfl) (by kernel_rfl) (by kernel_rfl) ?_ (fun a w hF hS => ?_)
  · exact obs_nil
  refine wpIn_ret ?_
  have hm : some ((decide (n1 < 2)) || (decide ((5 : Int) < n1))) = some r := hm
  obtain rfl := Option.some.inj hm
  exact retV (rs := [.tmp 2]) (vs := [.bool ((decide (n1 < 2)) || (decide ((5 : Int) < n1)))]) hF rfl (rv_t (by kernel_rfl) <| rv_nil) rfl ⟨rfl, hS⟩

noncomputable def slices_Values_m  (s1 : List Int) : Option Unit :=
  some ()

set_option maxRecDepth 100000 in
set_option maxHeartbeats 4000000 in
theorem slices_Values_w  {A1 : Option Addr} {c1 : Nat} {n1 : Nat} {s1 : List Int} {r : Unit} {w0 w : World} {B : Nat} {fs : List HP} (hm : slices_Values_m s1 = some r) (hS : Sep w0 B w (fs)) (hr_s1 : RdF w0 B fs A1 (vI s1)) (_hc_s1 : s1.length ≤ c1) (_hn_s1 : n1 = s1.length) :
    Calls Try.prog 99 #[.slice A1 n1 c1] w fun e w' => ∃ v, e = .returned v ∧ ∃ (g2 : Nat), v = .func (.func 129) #[] #[.pointer (some ⟨g2, 0, none⟩)] ∧ Sep w0 B w' (blk g2 22 #[.slice A1 n1 c1] :: fs) := by
  obtain ⟨i3, hi3, hz3, hs3, hb3⟩ := info_parts Info3
  obtain rfl := _hn_s1
  unfold slices_Values_m at hm
  replace hm := start_b hm
  refine enter (l := [.slice A1 s1.length c1]) (n := 4) Try.func99 rfl rfl (by simp) (fun a hF => ?_)
  refine seqR ?_
  refine at_do (d := 1) (s := vS (Instr.box 22 (.slice A1 s1.length c1))) (v := .pointer (some ⟨w.heap.size, 0, none⟩)) (w' := w.alloc (.cells #[.slice A1 s1.length c1] 22)) hF (by kernel_rfl) (by kernel_rfl) (by kernel_rfl) (fun a hF => ?_)
  have hS : Sep w0 B (w.alloc (.cells #[.slice A1 s1.length c1] 22)) (blk w.heap.size 22 #[.slice A1 s1.length c1] :: (fs)) := hS.box 22 #[.slice A1 s1.length c1]
  generalize w.heap.size = g1 at hF hS
  generalize w.alloc (.cells #[.slice A1 s1.length c1] 22) = w at hS ⊢
  refine at_run 1 [] [] [1] [pl 1 (.pointer (some ⟨g1, 0, none⟩))] hF hS (by kernel_rfl) (by kernel_rfl) ?_ (fun a w hF hS => ?_)
  · exact obs_nil
  refine at_end [1] [pl 1 (.pointer (some ⟨g1, 0, none⟩))] hF rfl (by kernel_rfl) (fun hF => ?_)
  refine then_n ?_
  refine reg [] [] [2] [pl 2 (.func (.func 129) #[] #[.pointer (some ⟨g1, 0, none⟩)])] hF hS Fol (by kernel_rfl) (by kernel_rfl) (by kernel_rfl) ?_ (fun a w hF hS => ?_)
  · exact obs_nil
  refine wpIn_ret ?_
  have hm : some () = some r := hm
  obtain rfl := Option.some.inj hm
  exact retV (rs := [.tmp 2]) (vs := [.func (.func 129) #[] #[.pointer (some ⟨g1, 0, none⟩)]]) hF rfl (rv_t (by kernel_rfl) <| rv_nil) rfl ⟨_, rfl, g1, rfl, hS⟩

noncomputable def slices_Sorted_m (v1 : List Int) : Option (List Int) :=
  asrt ((v1.length : Int) + 512 ≤ bigN) <| some (sortI v1)

theorem slices_Sorted_w {g1 : Nat} {A1 : Option Addr} {c1 : Nat} {n1 : Nat} {v1 : List Int} {r : (List Int)} {w0 w : World} {B : Nat} {fs : List HP} (hm : slices_Sorted_m v1 = some r) (hS : Sep w0 B w (blk g1 22 #[.slice A1 n1 c1] :: fs)) (hr_v1 : RdF w0 B fs A1 (vI v1)) (_hc_v1 : v1.length ≤ c1) (_hn_v1 : n1 = v1.length) :
    Calls Try.prog 98 #[.func (.func 129) #[] #[.pointer (some ⟨g1, 0, none⟩)]] w fun e w' => ∃ v, e = .returned v ∧ ∃ (A2 : Option Addr) (c2 : Nat), v = .slice A2 r.length c2 ∧ Sep w0 B w' (blk g1 22 #[.slice A1 n1 c1] :: own 3 (.slice A2 r.length c2) (vI r) :: fs) := by
  unfold slices_Sorted_m at hm
  obtain ⟨hb, hm⟩ := asrt_b (start_b hm)
  obtain rfl := Option.some.inj hm
  exact sorted_own hS hr_v1 _hn_v1 hb

noncomputable def slide_May_J4  (z1 : Int) : Option (St Int (Fl Unit Bool)) :=
  some (.next (w64 (z1 + 1)))

noncomputable def slide_May_J3  (r4 : (List Int)) (z1 : Int) : Option (St Int (Fl Unit Bool)) :=
  asrt (0 ≤ z1 ∧ z1 < (r4.length : Int)) <| if ((geti r4 z1) != z1) then (some (.done (.ret false))) else ((slide_May_J4 z1))

noncomputable def slide_May_J2  : Option Bool :=
  some true

noncomputable def slide_May_K1  : (Fl Unit Bool) → Option Bool :=
  fun (x : (Fl Unit Bool)) => match x with | .go _ => slide_May_J2 | .ret x => some x

noncomputable def slide_May_L1  (r4 : (List Int)) : Int → Option (St Int (Fl Unit Bool)) :=
  fun (x : Int) => match x with | z1 => if (decide (z1 < (r4.length : Int))) then ((slide_May_J3 r4 z1)) else (some (.done (.go ())))

noncomputable def slide_May_J1  (g3 : List Int) : Option Bool :=
  (slices_Values_m g3).bind fun r3 => (slices_Sorted_m g3).bind fun r4 => (loop (slide_May_L1 r4) 0).bind slide_May_K1

noncomputable def slide_May_m  (g1 : Int) (g2 : Int) (g3 : List Int) : Option Bool :=
  (slide_far_m g1).bind fun r1 => ((if (!r1) then slide_far_m g2 else some false)).bind fun r2 => if ((r1 || r2) || ((g3.length : Int) != (w64 (g1 * g2)))) then (some false) else ((slide_May_J1 g3))

set_option maxRecDepth 100000 in
set_option maxHeartbeats 4000000 in
theorem slide_May_w  {g1 : Int} {g2 : Int} {A1 : Option Addr} {c1 : Nat} {n1 : Nat} {g3 : List Int} {r : Bool} {w0 w : World} {B : Nat} {fs : List HP} (hm : slide_May_m g1 g2 g3 = some r) (hS : Sep w0 B w (fs)) (hr_g3 : RdF w0 B fs A1 (vI g3)) (_hc_g3 : g3.length ≤ c1) (_hn_g3 : n1 = g3.length) :
    Calls Try.prog 50 #[.agg #[.int .i64 g1, .int .i64 g2, .slice A1 n1 c1]] w fun e w' => e = .returned (.bool r) ∧ Sep w0 B w' (fs) := by
  obtain ⟨i3, hi3, hz3, hs3, hb3⟩ := info_parts Info3
  obtain rfl := _hn_g3
  unfold slide_May_m at hm
  replace hm := start_b hm
  refine enter (l := [.agg #[.int .i64 g1, .int .i64 g2, .slice A1 g3.length c1]]) (n := 38) Try.func50 rfl rfl (by simp) (fun a hF => ?_)
  refine seqR ?_
  refine at_do (d := 1) (s := vS (Instr.box 32 (.agg #[.int .i64 g1, .int .i64 g2, .slice A1 g3.length c1]))) (v := .pointer (some ⟨w.heap.size, 0, none⟩)) (w' := w.alloc (.cells #[.int .i64 g1, .int .i64 g2, .slice A1 g3.length c1] 32)) hF (by kernel_rfl) (by kernel_rfl) (by kernel_rfl) (fun a hF => ?_)
  have hS : Sep w0 B (w.alloc (.cells #[.int .i64 g1, .int .i64 g2, .slice A1 g3.length c1] 32)) (blk w.heap.size 32 #[.int .i64 g1, .int .i64 g2, .slice A1 g3.length c1] :: (fs)) := hS.box 32 #[.int .i64 g1, .int .i64 g2, .slice A1 g3.length c1]
  generalize w.heap.size = g4 at hF hS
  generalize w.alloc (.cells #[.int .i64 g1, .int .i64 g2, .slice A1 g3.length c1] 32) = w at hS ⊢
  refine at_run 1 [] [] [1] [pl 1 (.pointer (some ⟨g4, 0, none⟩))] hF hS (by kernel_rfl) (by kernel_rfl) ?_ (fun a w hF hS => ?_)
  · exact obs_nil
  refine at_end [1] [pl 1 (.pointer (some ⟨g4, 0, none⟩))] hF rfl (by kernel_rfl) (fun hF => ?_)
  refine then_n ?_
  refine seq_cut (fun a w => Fr 38 [pl 1 (.pointer (some ⟨g4, 0, none⟩))] a ∧ Sep w0 B w (blk g4 32 #[.int .i64 g1, .int .i64 g2, .slice A1 g3.length c1] :: fs) ∧ ((slide_May_J1 g3)).bind some = some r) ?_ ?_
  · rintro a w ⟨hF, hS, hm⟩
    unfold slide_May_J1 at hm
    refine seq_cut (fun a w => Fr 38 [] a ∧ Sep w0 B w (fs) ∧ (slide_May_J2).bind some = some r) ?_ ?_
    · rintro a w ⟨hF, hS, hm⟩
      unfold slide_May_J2 at hm
      refine reg [] [] [2] [pl 2 (.bool true)] hF hS Fol (by kernel_rfl) (by kernel_rfl) (by kernel_rfl) ?_ (fun a w hF hS => ?_)
      · exact obs_nil
      refine wpIn_ret ?_
      have hm : some true = some r := hm
      obtain rfl := Option.some.inj hm
      exact retV (rs := [.tmp 2]) (vs := [.bool true]) hF rfl (rv_t (by kernel_rfl) <| rv_nil) rfl ⟨rfl, hS⟩
    · refine seqR ?_
      obtain ⟨r3, hr3, hm⟩ := call_b hm
      obtain ⟨r4, hr4, hm⟩ := call_b hm
      refine at_run 2 [⟨false, [], vS (Instr.loadAt 22 (.pointer (some ⟨g4, 2, none⟩))), .slice A1 g3.length c1⟩] [none, some (.slice A1 g3.length c1)] [25] [pl 25 (.slice A1 g3.length c1)] hF hS (by kernel_rfl) (by kernel_rfl) ?_ (fun a w hF hS => ?_)
      · exact obs_cons (ob_load Agg22 (fun _ _ hS => (hS.at_ 0 rfl).cell rfl)) <| obs_nil
      refine at_call (f := 99) (args := #[.slice A1 g3.length c1]) (d := 26) hF (by kernel_rfl) (by kernel_rfl) Try.func99 (by kernel_rfl) rfl (slices_Values_w hr3 hS (fun _ hS => (hr_g3 _ (hS.dropN 1))) _hc_g3 rfl) (fun v a w hR hF => ?_)
      clear hS
      obtain ⟨g5, rfl, hS⟩ := hR
      have hS : Sep w0 B w (blk g5 22 #[.slice A1 g3.length c1] :: blk g4 32 #[.int .i64 g1, .int .i64 g2, .slice A1 g3.length c1] :: fs) := hS
      refine at_call (f := 98) (args := #[.func (.func 129) #[] #[.pointer (some ⟨g5, 0, none⟩)]]) (d := 27) hF (by kernel_rfl) (by kernel_rfl) Try.func98 (by kernel_rfl) rfl (slices_Sorted_w hr4 hS (fun _ hS => (hr_g3 _ (hS.dropN 1))) _hc_g3 rfl) (fun v a w hR hF => ?_)
      clear hS
      obtain ⟨A2, c2, rfl, hS⟩ := hR
      have hS : Sep w0 B w (blk g5 22 #[.slice A1 g3.length c1] :: own 3 (.slice A2 r4.length c2) (vI r4) :: blk g4 32 #[.int .i64 g1, .int .i64 g2, .slice A1 g3.length c1] :: fs) := hS
      refine at_run 2 [] [] [27, 28, 29] [pl 27 (.slice A2 r4.length c2), pl 28 (.int .i64 (r4.length : Int)), pl 29 (.int .i64 0)] hF hS (by kernel_rfl) (by kernel_rfl) ?_ (fun a w hF hS => ?_)
      · exact obs_nil
      refine at_end [27, 28, 29] [pl 27 (.slice A2 r4.length c2), pl 28 (.int .i64 (r4.length : Int)), pl 29 (.int .i64 0)] hF rfl (by kernel_rfl) (fun hF => ?_)
      refine then_n ?_
      refine wpIn_block ?_
      have hS := hS.pickN 3 [1] (by decide)
      refine wp_loop_model (S := Int) (R := (Fl Unit Bool)) (slide_May_L1 r4) (fun x => (slide_May_K1 x).bind some) r (fun (x : Int) a w => Fr 38 [pl 27 (.slice A2 r4.length c2), pl 28 (.int .i64 (r4.length : Int)), pl 29 (.int .i64 x)] a ∧ Sep w0 B w (own 3 (.slice A2 r4.length c2) (vI r4) :: fs)) (assoc_b hm) ⟨hF.weak [27, 28, 29] (by kernel_rfl), hS⟩ ?_
      clear hF hS hm
      rintro nn1 z1 a w ⟨hF, hS⟩ hm
      generalize hφ1 : stK (slide_May_L1 r4) nn1 (fun x => (slide_May_K1 x).bind some) = φ1 at hm
      unfold slide_May_L1 at hm
      dsimp only at hm
      refine reg [] [] [27, 28, 29, 30] [pl 27 (.slice A2 r4.length c2), pl 28 (.int .i64 (r4.length : Int)), pl 29 (.int .i64 z1), pl 30 (.bool (decide (z1 < (r4.length : Int))))] hF hS Fol (by kernel_rfl) (by kernel_rfl) (by kernel_rfl) ?_ (fun a w hF hS => ?_)
      · exact obs_nil
      refine seq_cut (fun a w => Fr 38 [pl 27 (.slice A2 r4.length c2), pl 28 (.int .i64 (r4.length : Int)), pl 29 (.int .i64 z1)] a ∧ Sep w0 B w (own 3 (.slice A2 r4.length c2) (vI r4) :: fs) ∧ ((slide_May_J3 r4 z1)).bind φ1 = some r) ?_ ?_
      · rintro a w ⟨hF, hS, hm⟩
        unfold slide_May_J3 at hm
        refine seq_cut (fun a w => Fr 38 [pl 27 (.slice A2 r4.length c2), pl 28 (.int .i64 (r4.length : Int)), pl 29 (.int .i64 z1)] a ∧ Sep w0 B w (own 3 (.slice A2 r4.length c2) (vI r4) :: fs) ∧ ((slide_May_J4 z1)).bind φ1 = some r) ?_ ?_
        · rintro a w ⟨hF, hS, hm⟩
          unfold slide_May_J4 at hm
          refine reg1 [] [] [27, 28, 29] [pl 27 (.slice A2 r4.length c2), pl 28 (.int .i64 (r4.length : Int)), pl 29 (.int .i64 (w64 (z1 + 1)))] hF hS Fol (by kernel_rfl) (by kernel_rfl) (by kernel_rfl) ?_ (fun a w hF hS => ?_)
          · exact obs_nil
          refine then_n ?_
          rw [← hφ1] at hm
          exact ⟨(w64 (z1 + 1)), ⟨hF.weak [27, 28, 29] (by kernel_rfl), hS⟩, hm⟩
        · refine wpIn_block ?_
          obtain ⟨hp1, hm⟩ := asrt_b hm
          refine reg [⟨true, [], vS (Instr.indexAt 22 (.slice A2 r4.length c2) (.int .i64 z1)), .pointer (some (sAddr A2 z1))⟩, ⟨false, [], vS (Instr.loadAt 3 (.pointer (some (sAddr A2 z1)))), .int .i64 (geti r4 z1)⟩] [none, some (.pointer (some (sAddr A2 z1))), some (.int .i64 (geti r4 z1)), none, none] [3, 4, 27, 28, 29] [pl 3 (.int .i64 z1), pl 4 (.int .i64 (geti r4 z1)), pl 27 (.slice A2 r4.length c2), pl 28 (.int .i64 (r4.length : Int)), pl 29 (.int .i64 z1)] hF hS Fol (by kernel_rfl) (by kernel_rfl) (by kernel_rfl) ?_ (fun a w hF hS => ?_)
          · exact obs_cons (ob_ix1 (f := (Value.int .i64)) (m := r4) Und22 hi3 hs3 (hS.at_ 0 rfl).rd rfl (fun _ => hp1)) <| obs_cons (ob_get1 (n := r4.length) (m := r4) (Value.int .i64) (0 : Int) Agg3 (fun _ hS => ⟨_, (hS.at_ 0 rfl).rd⟩) (fun _ hS => rfl) (fun _ => hp1)) <| obs_nil
          refine reg [] [] [27, 28, 29, 36] [pl 27 (.slice A2 r4.length c2), pl 28 (.int .i64 (r4.length : Int)), pl 29 (.int .i64 z1), pl 36 (.bool ((geti r4 z1) != z1))] hF hS Fol (by kernel_rfl) (by kernel_rfl) (by kernel_rfl) ?_ (fun a w hF hS => ?_)
          · exact obs_nil
          refine cond_ev (t := 36) (b := ((geti r4 z1) != z1)) hF (by kernel_rfl) (fun hb => ?_) (fun hb => ?_)
          · replace hm := if_t hm hb
            refine reg [] [] [2] [pl 2 (.bool false)] hF hS Fol (by kernel_rfl) (by kernel_rfl) (by kernel_rfl) ?_ (fun a w hF hS => ?_)
            · exact obs_nil
            refine wpIn_ret ?_
            refine block_r (then_r (then_r (block_r (then_r ?_))))
            rw [← hφ1] at hm
            replace hm := done_b hm
            unfold slide_May_K1 at hm
            try dsimp only at hm
            have hS := hS.pickN 1 [] (by decide)
            have hm : some false = some r := hm
            obtain rfl := Option.some.inj hm
            exact retV (rs := [.tmp 2]) (vs := [.bool false]) hF rfl (rv_t (by kernel_rfl) <| rv_nil) rfl ⟨rfl, hS⟩
          · replace hm := if_f hm hb
            refine wpIn_skip ?_
            refine block_n ?_
            refine then_n ?_
            exact ⟨hF.weak [27, 28, 29] (by kernel_rfl), hS, hm⟩
      · refine cond_ev (t := 30) (b := decide (z1 < (r4.length : Int))) hF (by kernel_rfl) (fun hb => ?_) (fun hb => ?_)
        · replace hm := if_t hm hb
          refine wpIn_skip ?_
          refine then_n ?_
          exact ⟨hF.weak [27, 28, 29] (by kernel_rfl), hS, hm⟩
        · replace hm := if_f hm hb
          refine wpIn_exit ?_
          refine then_e (then_e (block_e (then_n ?_)))
          have hS := hS.pickN 1 [] (by decide)
          rw [← hφ1] at hm
          replace hm := done_b hm
          unfold slide_May_K1 at hm
          try dsimp only at hm
          have hm : (slide_May_J2).bind some = some r := hm
          exact ⟨hF.weak [] (by kernel_rfl), hS, hm⟩
  · obtain ⟨r1, hr1, hm⟩ := call_b hm
    obtain ⟨r2, hr2, hm⟩ := call_b hm
    refine reg [⟨false, [], vS (Instr.loadAt 3 (.pointer (some ⟨g4, 0, none⟩))), .int .i64 g1⟩, ⟨false, [], callFunc 58 #[.int .i64 g1], .bool r1⟩, ⟨false, [(r1, false)], vS (Instr.loadAt 3 (.pointer (some ⟨g4, 1, none⟩))), .int .i64 g2⟩, ⟨false, [(r1, false)], callFunc 58 #[.int .i64 g2], .bool r2⟩, ⟨false, [(r1 || r2, false)], vS (Instr.loadAt 22 (.pointer (some ⟨g4, 2, none⟩))), .slice A1 g3.length c1⟩, ⟨false, [(r1 || r2, false)], vS (Instr.loadAt 3 (.pointer (some ⟨g4, 0, none⟩))), .int .i64 g1⟩, ⟨false, [(r1 || r2, false)], vS (Instr.loadAt 3 (.pointer (some ⟨g4, 1, none⟩))), .int .i64 g2⟩] [none, some (.int .i64 g1), some (.bool r1), none, none, some (.int .i64 g2), some (.bool r2), none, none, none, some (.slice A1 g3.length c1), none, none, some (.int .i64 g1), none, some (.int .i64 g2), none, none, none] [1, 23] [pl 1 (.pointer (some ⟨g4, 0, none⟩)), pl 23 (.bool ((r1 || r2) || ((g3.length : Int) != (w64 (g1 * g2)))))] hF hS Fol (by kernel_rfl) (by kernel_rfl) (by kernel_rfl) ?_ (fun a w hF hS => ?_)
    · exact obs_cons (ob_load Agg3 (fun _ _ hS => (hS.at_ 0 rfl).cell rfl)) <| obs_cons (ob_call Try.func58 (by kernel_rfl) rfl (fun _ _ hS => slide_far_w hr1 hS )) <| obs_cons (ob_load Agg3 (fun _ _ hS => (hS.at_ 0 rfl).cell rfl)) <| obs_cons (ob_call Try.func58 (by kernel_rfl) rfl (fun hy _ hS => slide_far_w (ite_some hr2 (by rw [show r1 = false from hy (r1, false) (by simp)]; try rfl)) hS )) <| obs_cons (ob_load Agg22 (fun _ _ hS => (hS.at_ 0 rfl).cell rfl)) <| obs_cons (ob_load Agg3 (fun _ _ hS => (hS.at_ 0 rfl).cell rfl)) <| obs_cons (ob_load Agg3 (fun _ _ hS => (hS.at_ 0 rfl).cell rfl)) <| obs_nil
    refine cond_ev (t := 23) (b := (r1 || r2) || ((g3.length : Int) != (w64 (g1 * g2)))) hF (by kernel_rfl) (fun hb => ?_) (fun hb => ?_)
    · replace hm := if_t hm hb
      refine reg [] [] [2] [pl 2 (.bool false)] hF hS Fol (by kernel_rfl) (by kernel_rfl) (by kernel_rfl) ?_ (fun a w hF hS => ?_)
      · exact obs_nil
      refine wpIn_ret ?_
      refine then_r ?_
      have hS := hS.pickN 1 [] (by decide)
      have hm : some false = some r := hm
      obtain rfl := Option.some.inj hm
      exact retV (rs := [.tmp 2]) (vs := [.bool false]) hF rfl (rv_t (by kernel_rfl) <| rv_nil) rfl ⟨rfl, hS⟩
    · replace hm := if_f hm hb
      refine wpIn_skip ?_
      refine then_n ?_
      exact ⟨hF.weak [1] (by kernel_rfl), hS, hm⟩

noncomputable def slices_Index_J3  (z1 : Int) : Option (St Int (Fl Unit Int)) :=
  some (.next (w64 (z1 + 1)))

noncomputable def slices_Index_J2  (s1 : List Int) (v1 : Int) (z1 : Int) : Option (St Int (Fl Unit Int)) :=
  asrt (0 ≤ z1 ∧ z1 < (s1.length : Int)) <| if (v1 == (geti s1 z1)) then (some (.done (.ret z1))) else ((slices_Index_J3 z1))

noncomputable def slices_Index_J1  : Option Int :=
  some (-1)

noncomputable def slices_Index_K1  : (Fl Unit Int) → Option Int :=
  fun (x : (Fl Unit Int)) => match x with | .go _ => slices_Index_J1 | .ret x => some x

noncomputable def slices_Index_L1  (s1 : List Int) (v1 : Int) : Int → Option (St Int (Fl Unit Int)) :=
  fun (x : Int) => match x with | z1 => if (decide (z1 < (s1.length : Int))) then ((slices_Index_J2 s1 v1 z1)) else (some (.done (.go ())))

noncomputable def slices_Index_m  (s1 : List Int) (v1 : Int) : Option Int :=
  (loop (slices_Index_L1 s1 v1) 0).bind slices_Index_K1

set_option maxRecDepth 100000 in
set_option maxHeartbeats 4000000 in
theorem slices_Index_w  {A1 : Option Addr} {c1 : Nat} {n1 : Nat} {s1 : List Int} {v1 : Int} {r : Int} {w0 w : World} {B : Nat} {fs : List HP} (hm : slices_Index_m s1 v1 = some r) (hS : Sep w0 B w (fs)) (hr_s1 : RdF w0 B fs A1 (vI s1)) (_hc_s1 : s1.length ≤ c1) (_hn_s1 : n1 = s1.length) :
    Calls Try.prog 40 #[.slice A1 n1 c1, .int .i64 v1] w fun e w' => e = .returned (.int .i64 r) ∧ Sep w0 B w' (fs) := by
  obtain ⟨i3, hi3, hz3, hs3, hb3⟩ := info_parts Info3
  obtain rfl := _hn_s1
  unfold slices_Index_m at hm
  replace hm := start_b hm
  refine enter (l := [.slice A1 s1.length c1, .int .i64 v1]) (n := 19) Try.func40 rfl rfl (by simp) (fun a hF => ?_)
  refine reg [] [] [0, 1] [pl 0 (.slice A1 s1.length c1), pl 1 (.int .i64 v1)] hF hS Fol (by kernel_rfl) (by kernel_rfl) (by kernel_rfl) ?_ (fun a w hF hS => ?_)
  · exact obs_nil
  refine seq_cut (fun a w => Fr 19 [] a ∧ Sep w0 B w (fs) ∧ (slices_Index_J1).bind some = some r) ?_ ?_
  · rintro a w ⟨hF, hS, hm⟩
    unfold slices_Index_J1 at hm
    refine reg [] [] [4] [pl 4 (.int .i64 (-1))] hF hS Fol (by kernel_rfl) (by kernel_rfl) (by kernel_rfl) ?_ (fun a w hF hS => ?_)
    · exact obs_nil
    refine wpIn_ret ?_
    have hm : some (-1) = some r := hm
    obtain rfl := Option.some.inj hm
    exact retV (rs := [.tmp 4]) (vs := [.int .i64 (-1)]) hF rfl (rv_t (by kernel_rfl) <| rv_nil) rfl ⟨rfl, hS⟩
  · refine reg [] [] [0, 1, 7, 8] [pl 0 (.slice A1 s1.length c1), pl 1 (.int .i64 v1), pl 7 (.int .i64 (s1.length : Int)), pl 8 (.int .i64 0)] hF hS Fol (by kernel_rfl) (by kernel_rfl) (by kernel_rfl) ?_ (fun a w hF hS => ?_)
    · exact obs_nil
    refine wpIn_block ?_
    refine wp_loop_model (S := Int) (R := (Fl Unit Int)) (slices_Index_L1 s1 v1) (fun x => (slices_Index_K1 x).bind some) r (fun (x : Int) a w => Fr 19 [pl 0 (.slice A1 s1.length c1), pl 1 (.int .i64 v1), pl 7 (.int .i64 (s1.length : Int)), pl 8 (.int .i64 x)] a ∧ Sep w0 B w (fs)) (assoc_b hm) ⟨hF.weak [0, 1, 7, 8] (by kernel_rfl), hS⟩ ?_
    clear hF hS hm
    rintro nn1 z1 a w ⟨hF, hS⟩ hm
    generalize hφ1 : stK (slices_Index_L1 s1 v1) nn1 (fun x => (slices_Index_K1 x).bind some) = φ1 at hm
    unfold slices_Index_L1 at hm
    dsimp only at hm
    refine reg [] [] [0, 1, 7, 8, 9] [pl 0 (.slice A1 s1.length c1), pl 1 (.int .i64 v1), pl 7 (.int .i64 (s1.length : Int)), pl 8 (.int .i64 z1), pl 9 (.bool (decide (z1 < (s1.length : Int))))] hF hS Fol (by kernel_rfl) (by kernel_rfl) (by kernel_rfl) ?_ (fun a w hF hS => ?_)
    · exact obs_nil
    refine seq_cut (fun a w => Fr 19 [pl 0 (.slice A1 s1.length c1), pl 1 (.int .i64 v1), pl 7 (.int .i64 (s1.length : Int)), pl 8 (.int .i64 z1)] a ∧ Sep w0 B w (fs) ∧ ((slices_Index_J2 s1 v1 z1)).bind φ1 = some r) ?_ ?_
    · rintro a w ⟨hF, hS, hm⟩
      unfold slices_Index_J2 at hm
      refine seq_cut (fun a w => Fr 19 [pl 0 (.slice A1 s1.length c1), pl 1 (.int .i64 v1), pl 7 (.int .i64 (s1.length : Int)), pl 8 (.int .i64 z1)] a ∧ Sep w0 B w (fs) ∧ ((slices_Index_J3 z1)).bind φ1 = some r) ?_ ?_
      · rintro a w ⟨hF, hS, hm⟩
        unfold slices_Index_J3 at hm
        refine reg1 [] [] [0, 1, 7, 8] [pl 0 (.slice A1 s1.length c1), pl 1 (.int .i64 v1), pl 7 (.int .i64 (s1.length : Int)), pl 8 (.int .i64 (w64 (z1 + 1)))] hF hS Fol (by kernel_rfl) (by kernel_rfl) (by kernel_rfl) ?_ (fun a w hF hS => ?_)
        · exact obs_nil
        refine then_n ?_
        rw [← hφ1] at hm
        exact ⟨(w64 (z1 + 1)), ⟨hF.weak [0, 1, 7, 8] (by kernel_rfl), hS⟩, hm⟩
      · refine wpIn_block ?_
        refine reg [] [] [0, 1, 5, 7, 8] [pl 0 (.slice A1 s1.length c1), pl 1 (.int .i64 v1), pl 5 (.int .i64 z1), pl 7 (.int .i64 (s1.length : Int)), pl 8 (.int .i64 z1)] hF hS Fol (by kernel_rfl) (by kernel_rfl) (by kernel_rfl) ?_ (fun a w hF hS => ?_)
        · exact obs_nil
        obtain ⟨hp1, hm⟩ := asrt_b hm
        refine reg [⟨true, [], vS (Instr.indexAt 22 (.slice A1 s1.length c1) (.int .i64 z1)), .pointer (some (sAddr A1 z1))⟩, ⟨false, [], vS (Instr.loadAt 3 (.pointer (some (sAddr A1 z1)))), .int .i64 (geti s1 z1)⟩] [none, none, none, some (.pointer (some (sAddr A1 z1))), some (.int .i64 (geti s1 z1)), none] [0, 1, 5, 7, 8, 16] [pl 0 (.slice A1 s1.length c1), pl 1 (.int .i64 v1), pl 5 (.int .i64 z1), pl 7 (.int .i64 (s1.length : Int)), pl 8 (.int .i64 z1), pl 16 (.bool (v1 == (geti s1 z1)))] hF hS Fol (by kernel_rfl) (by kernel_rfl) (by kernel_rfl) ?_ (fun a w hF hS => ?_)
        · exact obs_cons (ob_ix1 (f := (Value.int .i64)) (m := s1) Und22 hi3 hs3 (hr_s1 _ (hS.dropN 0)) rfl (fun _ => hp1)) <| obs_cons (ob_get1 (n := s1.length) (m := s1) (Value.int .i64) (0 : Int) Agg3 (fun _ hS => ⟨_, (hr_s1 _ (hS.dropN 0))⟩) (fun _ hS => rfl) (fun _ => hp1)) <| obs_nil
        refine cond_ev (t := 16) (b := (v1 == (geti s1 z1))) hF (by kernel_rfl) (fun hb => ?_) (fun hb => ?_)
        · replace hm := if_t hm hb
          refine reg [] [] [4] [pl 4 (.int .i64 z1)] hF hS Fol (by kernel_rfl) (by kernel_rfl) (by kernel_rfl) ?_ (fun a w hF hS => ?_)
          · exact obs_nil
          refine wpIn_ret ?_
          refine block_r (then_r (then_r (block_r (then_r ?_))))
          rw [← hφ1] at hm
          replace hm := done_b hm
          unfold slices_Index_K1 at hm
          try dsimp only at hm
          have hm : some z1 = some r := hm
          obtain rfl := Option.some.inj hm
          exact retV (rs := [.tmp 4]) (vs := [.int .i64 z1]) hF rfl (rv_t (by kernel_rfl) <| rv_nil) rfl ⟨rfl, hS⟩
        · replace hm := if_f hm hb
          refine wpIn_skip ?_
          refine block_n ?_
          refine then_n ?_
          exact ⟨hF.weak [0, 1, 7, 8] (by kernel_rfl), hS, hm⟩
    · refine cond_ev (t := 9) (b := decide (z1 < (s1.length : Int))) hF (by kernel_rfl) (fun hb => ?_) (fun hb => ?_)
      · replace hm := if_t hm hb
        refine wpIn_skip ?_
        refine then_n ?_
        exact ⟨hF.weak [0, 1, 7, 8] (by kernel_rfl), hS, hm⟩
      · replace hm := if_f hm hb
        refine wpIn_exit ?_
        refine then_e (then_e (block_e (then_n ?_)))
        rw [← hφ1] at hm
        replace hm := done_b hm
        unfold slices_Index_K1 at hm
        try dsimp only at hm
        have hm : (slices_Index_J1).bind some = some r := hm
        exact ⟨hF.weak [] (by kernel_rfl), hS, hm⟩

noncomputable def slide_parity_J5  (z2 : Int) (n6 : Int) : Option (St (Int × Int) Int) :=
  some (.next (n6, (w64 (z2 + 1))))

noncomputable def slide_parity_J4  (g3 : List Int) (z1 : Int) (n4 : Int) (z2 : Int) : Option (St (Int × Int) Int) :=
  asrt (0 ≤ z2 ∧ z2 < (((cut g3 (0 : Int) z1).length : Nat) : Int)) <| if ((decide ((0 : Int) < (geti g3 z1))) && (decide ((geti g3 z1) < (geti (cut g3 (0 : Int) z1) z2)))) then ((slide_parity_J5 z2) (w64 (n4 + 1))) else ((slide_parity_J5 z2) n4)

noncomputable def slide_parity_J3  (z1 : Int) (n5 : Int) : Option (St (Int × Int) Int) :=
  some (.next (n5, (w64 (z1 + 1))))

noncomputable def slide_parity_K2  (z1 : Int) : Int → Option (St (Int × Int) Int) :=
  fun (x : Int) => match x with | n5 => (slide_parity_J3 z1) n5

noncomputable def slide_parity_L2  (g3 : List Int) (z1 : Int) : (Int × Int) → Option (St (Int × Int) Int) :=
  fun (x : (Int × Int)) => match x with | (n4, z2) => if (decide (z2 < (((cut g3 (0 : Int) z1).length : Nat) : Int))) then ((slide_parity_J4 g3 z1 n4 z2)) else (some (.done n4))

noncomputable def slide_parity_J2  (g3 : List Int) (n2 : Int) (z1 : Int) : Option (St (Int × Int) Int) :=
  asrt (0 ≤ z1 ∧ z1 < (g3.length : Int)) <| asrt (0 ≤ (0 : Int) ∧ (0 : Int) ≤ z1 ∧ z1 ≤ (g3.length : Int)) <| (loop (slide_parity_L2 g3 z1) (n2, 0)).bind (slide_parity_K2 z1)

noncomputable def slide_parity_J6  (n7 : Int) : Option Int :=
  some (bAnd n7 1)

noncomputable def slide_parity_J1  (g1 : Int) (g2 : Int) (g3 : List Int) (n3 : Int) : Option Int :=
  if ((bAnd g1 1) == 0) then ((slices_Index_m g3 0).bind fun r1 => asrt (g1 ≠ (0 : Int)) <| slide_parity_J6 (w64 (n3 + (w64 ((w64 (g2 - 1)) - (w64 (Int.tdiv r1 g1))))))) else (slide_parity_J6 n3)

noncomputable def slide_parity_K1  (g1 : Int) (g2 : Int) (g3 : List Int) : Int → Option Int :=
  fun (x : Int) => match x with | n3 => (slide_parity_J1 g1 g2 g3) n3

noncomputable def slide_parity_L1  (g3 : List Int) : (Int × Int) → Option (St (Int × Int) Int) :=
  fun (x : (Int × Int)) => match x with | (n2, z1) => if (decide (z1 < (g3.length : Int))) then ((slide_parity_J2 g3 n2 z1)) else (some (.done n2))

noncomputable def slide_parity_m  (g1 : Int) (g2 : Int) (g3 : List Int) : Option Int :=
  (loop (slide_parity_L1 g3) (0, 0)).bind (slide_parity_K1 g1 g2 g3)

set_option maxRecDepth 100000 in
set_option maxHeartbeats 4000000 in
theorem slide_parity_w  {g1 : Int} {g2 : Int} {A1 : Option Addr} {c1 : Nat} {n1 : Nat} {g3 : List Int} {r : Int} {w0 w : World} {B : Nat} {fs : List HP} (hm : slide_parity_m g1 g2 g3 = some r) (hS : Sep w0 B w (fs)) (hr_g3 : RdF w0 B fs A1 (vI g3)) (_hc_g3 : g3.length ≤ c1) (_hn_g3 : n1 = g3.length) :
    Calls Try.prog 51 #[.agg #[.int .i64 g1, .int .i64 g2, .slice A1 n1 c1]] w fun e w' => e = .returned (.int .i64 r) ∧ Sep w0 B w' (fs) := by
  obtain ⟨i3, hi3, hz3, hs3, hb3⟩ := info_parts Info3
  obtain rfl := _hn_g3
  unfold slide_parity_m at hm
  replace hm := start_b hm
  refine enter (l := [.agg #[.int .i64 g1, .int .i64 g2, .slice A1 g3.length c1]]) (n := 54) Try.func51 rfl rfl (by simp) (fun a hF => ?_)
  refine seqR ?_
  refine at_do (d := 1) (s := vS (Instr.box 32 (.agg #[.int .i64 g1, .int .i64 g2, .slice A1 g3.length c1]))) (v := .pointer (some ⟨w.heap.size, 0, none⟩)) (w' := w.alloc (.cells #[.int .i64 g1, .int .i64 g2, .slice A1 g3.length c1] 32)) hF (by kernel_rfl) (by kernel_rfl) (by kernel_rfl) (fun a hF => ?_)
  have hS : Sep w0 B (w.alloc (.cells #[.int .i64 g1, .int .i64 g2, .slice A1 g3.length c1] 32)) (blk w.heap.size 32 #[.int .i64 g1, .int .i64 g2, .slice A1 g3.length c1] :: (fs)) := hS.box 32 #[.int .i64 g1, .int .i64 g2, .slice A1 g3.length c1]
  generalize w.heap.size = g4 at hF hS
  generalize w.alloc (.cells #[.int .i64 g1, .int .i64 g2, .slice A1 g3.length c1] 32) = w at hS ⊢
  refine at_run 1 [] [] [1] [pl 1 (.pointer (some ⟨g4, 0, none⟩))] hF hS (by kernel_rfl) (by kernel_rfl) ?_ (fun a w hF hS => ?_)
  · exact obs_nil
  refine at_end [1] [pl 1 (.pointer (some ⟨g4, 0, none⟩))] hF rfl (by kernel_rfl) (fun hF => ?_)
  refine then_n ?_
  refine reg [] [] [1, 3] [pl 1 (.pointer (some ⟨g4, 0, none⟩)), pl 3 (.int .i64 0)] hF hS Fol (by kernel_rfl) (by kernel_rfl) (by kernel_rfl) ?_ (fun a w hF hS => ?_)
  · exact obs_nil
  refine seq_cut (fun a w => ∃ (n3 : Int), Fr 54 [pl 1 (.pointer (some ⟨g4, 0, none⟩)), pl 3 (.int .i64 n3)] a ∧ Sep w0 B w (blk g4 32 #[.int .i64 g1, .int .i64 g2, .slice A1 g3.length c1] :: fs) ∧ ((slide_parity_J1 g1 g2 g3) n3).bind some = some r) ?_ ?_
  · rintro a w ⟨n3, hF, hS, hm⟩
    unfold slide_parity_J1 at hm
    refine seq_cut (fun a w => ∃ (n7 : Int), Fr 54 [pl 3 (.int .i64 n7)] a ∧ Sep w0 B w (fs) ∧ (slide_parity_J6 n7).bind some = some r) ?_ ?_
    · rintro a w ⟨n7, hF, hS, hm⟩
      unfold slide_parity_J6 at hm
      refine reg [] [] [2] [pl 2 (.int .i64 (bAnd n7 1))] hF hS Fol (by kernel_rfl) (by kernel_rfl) (by kernel_rfl) ?_ (fun a w hF hS => ?_)
      · exact obs_nil
      refine wpIn_ret ?_
      have hm : some (bAnd n7 1) = some r := hm
      obtain rfl := Option.some.inj hm
      exact retV (rs := [.tmp 2]) (vs := [.int .i64 (bAnd n7 1)]) hF rfl (rv_t (by kernel_rfl) <| rv_nil) rfl ⟨rfl, hS⟩
    · refine reg [⟨false, [], vS (Instr.loadAt 3 (.pointer (some ⟨g4, 0, none⟩))), .int .i64 g1⟩] [none, some (.int .i64 g1), none, none] [1, 3, 39] [pl 1 (.pointer (some ⟨g4, 0, none⟩)), pl 3 (.int .i64 n3), pl 39 (.bool ((bAnd g1 1) == 0))] hF hS Fol (by kernel_rfl) (by kernel_rfl) (by kernel_rfl) ?_ (fun a w hF hS => ?_)
      · exact obs_cons (ob_load Agg3 (fun _ _ hS => (hS.at_ 0 rfl).cell rfl)) <| obs_nil
      refine cond_ev (t := 39) (b := ((bAnd g1 1) == 0)) hF (by kernel_rfl) (fun hb => ?_) (fun hb => ?_)
      · replace hm := if_t hm hb
        obtain ⟨r1, hr1, hm⟩ := call_b hm
        obtain ⟨hp4, hm⟩ := asrt_b hm
        refine reg1 [⟨false, [], vS (Instr.loadAt 3 (.pointer (some ⟨g4, 1, none⟩))), .int .i64 g2⟩, ⟨false, [], vS (Instr.loadAt 22 (.pointer (some ⟨g4, 2, none⟩))), .slice A1 g3.length c1⟩, ⟨false, [], callFunc 40 #[.slice A1 g3.length c1, .int .i64 0], .int .i64 r1⟩, ⟨false, [], vS (Instr.loadAt 3 (.pointer (some ⟨g4, 0, none⟩))), .int .i64 g1⟩, ⟨true, [], vS (Op.intDiv .quo .i64 r1 g1), .int .i64 (w64 (Int.tdiv r1 g1))⟩] [none, none, some (.int .i64 g2), none, none, some (.slice A1 g3.length c1), some (.int .i64 r1), none, some (.int .i64 g1), some (.int .i64 (w64 (Int.tdiv r1 g1))), none, none, none] [3] [pl 3 (.int .i64 (w64 (n3 + (w64 ((w64 (g2 - 1)) - (w64 (Int.tdiv r1 g1)))))))] hF hS Fol (by kernel_rfl) (by kernel_rfl) (by kernel_rfl) ?_ (fun a w hF hS => ?_)
        · exact obs_cons (ob_load Agg3 (fun _ _ hS => (hS.at_ 0 rfl).cell rfl)) <| obs_cons (ob_load Agg22 (fun _ _ hS => (hS.at_ 0 rfl).cell rfl)) <| obs_cons (ob_call Try.func40 (by kernel_rfl) rfl (fun _ _ hS => slices_Index_w hr1 hS (fun _ hS => (hr_g3 _ (hS.dropN 1))) _hc_g3 rfl)) <| obs_cons (ob_load Agg3 (fun _ _ hS => (hS.at_ 0 rfl).cell rfl)) <| obs_cons (ob_quo rfl (fun _ => hp4)) <| obs_nil
        refine then_n ?_
        have hS := hS.pickN 1 [] (by decide)
        exact ⟨(w64 (n3 + (w64 ((w64 (g2 - 1)) - (w64 (Int.tdiv r1 g1)))))), hF.weak [3] (by kernel_rfl), hS, hm⟩
      · replace hm := if_f hm hb
        refine wpIn_skip ?_
        refine then_n ?_
        have hS := hS.pickN 1 [] (by decide)
        exact ⟨n3, hF.weak [3] (by kernel_rfl), hS, hm⟩
  · refine reg [⟨false, [], vS (Instr.loadAt 22 (.pointer (some ⟨g4, 2, none⟩))), .slice A1 g3.length c1⟩] [none, some (.slice A1 g3.length c1), none, none] [1, 3, 9, 10, 11] [pl 1 (.pointer (some ⟨g4, 0, none⟩)), pl 3 (.int .i64 0), pl 9 (.slice A1 g3.length c1), pl 10 (.int .i64 (g3.length : Int)), pl 11 (.int .i64 0)] hF hS Fol (by kernel_rfl) (by kernel_rfl) (by kernel_rfl) ?_ (fun a w hF hS => ?_)
    · exact obs_cons (ob_load Agg22 (fun _ _ hS => (hS.at_ 0 rfl).cell rfl)) <| obs_nil
    refine wpIn_block ?_
    refine wp_loop_model (S := (Int × Int)) (R := Int) (slide_parity_L1 g3) (fun x => ((slide_parity_K1 g1 g2 g3) x).bind some) r (fun (x : (Int × Int)) a w => Fr 54 [pl 1 (.pointer (some ⟨g4, 0, none⟩)), pl 3 (.int .i64 x.1), pl 9 (.slice A1 g3.length c1), pl 10 (.int .i64 (g3.length : Int)), pl 11 (.int .i64 x.2)] a ∧ Sep w0 B w (blk g4 32 #[.int .i64 g1, .int .i64 g2, .slice A1 g3.length c1] :: fs)) (assoc_b hm) ⟨hF.weak [1, 3, 9, 10, 11] (by kernel_rfl), hS⟩ ?_
    clear hF hS hm
    rintro nn1 ⟨n2, z1⟩ a w ⟨hF, hS⟩ hm
    generalize hφ1 : stK (slide_parity_L1 g3) nn1 (fun x => ((slide_parity_K1 g1 g2 g3) x).bind some) = φ1 at hm
    unfold slide_parity_L1 at hm
    dsimp only at hF hS hm
    refine reg [] [] [1, 3, 9, 10, 11, 12] [pl 1 (.pointer (some ⟨g4, 0, none⟩)), pl 3 (.int .i64 n2), pl 9 (.slice A1 g3.length c1), pl 10 (.int .i64 (g3.length : Int)), pl 11 (.int .i64 z1), pl 12 (.bool (decide (z1 < (g3.length : Int))))] hF hS Fol (by kernel_rfl) (by kernel_rfl) (by kernel_rfl) ?_ (fun a w hF hS => ?_)
    · exact obs_nil
    refine seq_cut (fun a w => Fr 54 [pl 1 (.pointer (some ⟨g4, 0, none⟩)), pl 3 (.int .i64 n2), pl 9 (.slice A1 g3.length c1), pl 10 (.int .i64 (g3.length : Int)), pl 11 (.int .i64 z1)] a ∧ Sep w0 B w (blk g4 32 #[.int .i64 g1, .int .i64 g2, .slice A1 g3.length c1] :: fs) ∧ ((slide_parity_J2 g3 n2 z1)).bind φ1 = some r) ?_ ?_
    · rintro a w ⟨hF, hS, hm⟩
      unfold slide_parity_J2 at hm
      refine seq_cut (fun a w => ∃ (n5 : Int), Fr 54 [pl 1 (.pointer (some ⟨g4, 0, none⟩)), pl 3 (.int .i64 n5), pl 9 (.slice A1 g3.length c1), pl 10 (.int .i64 (g3.length : Int)), pl 11 (.int .i64 z1)] a ∧ Sep w0 B w (blk g4 32 #[.int .i64 g1, .int .i64 g2, .slice A1 g3.length c1] :: fs) ∧ ((slide_parity_J3 z1) n5).bind φ1 = some r) ?_ ?_
      · rintro a w ⟨n5, hF, hS, hm⟩
        unfold slide_parity_J3 at hm
        refine reg1 [] [] [1, 3, 9, 10, 11] [pl 1 (.pointer (some ⟨g4, 0, none⟩)), pl 3 (.int .i64 n5), pl 9 (.slice A1 g3.length c1), pl 10 (.int .i64 (g3.length : Int)), pl 11 (.int .i64 (w64 (z1 + 1)))] hF hS Fol (by kernel_rfl) (by kernel_rfl) (by kernel_rfl) ?_ (fun a w hF hS => ?_)
        · exact obs_nil
        refine then_n ?_
        rw [← hφ1] at hm
        exact ⟨(n5, (w64 (z1 + 1))), ⟨hF.weak [1, 3, 9, 10, 11] (by kernel_rfl), hS⟩, hm⟩
      · refine wpIn_block ?_
        obtain ⟨hp1, hm⟩ := asrt_b hm
        refine reg [⟨true, [], vS (Instr.indexAt 22 (.slice A1 g3.length c1) (.int .i64 z1)), .pointer (some (sAddr A1 z1))⟩, ⟨false, [], vS (Instr.loadAt 3 (.pointer (some (sAddr A1 z1)))), .int .i64 (geti g3 z1)⟩] [none, some (.pointer (some (sAddr A1 z1))), some (.int .i64 (geti g3 z1)), none, none] [1, 3, 4, 5, 9, 10, 11] [pl 1 (.pointer (some ⟨g4, 0, none⟩)), pl 3 (.int .i64 n2), pl 4 (.int .i64 z1), pl 5 (.int .i64 (geti g3 z1)), pl 9 (.slice A1 g3.length c1), pl 10 (.int .i64 (g3.length : Int)), pl 11 (.int .i64 z1)] hF hS Fol (by kernel_rfl) (by kernel_rfl) (by kernel_rfl) ?_ (fun a w hF hS => ?_)
        · exact obs_cons (ob_ix1 (f := (Value.int .i64)) (m := g3) Und22 hi3 hs3 (hr_g3 _ (hS.dropN 1)) rfl (fun _ => hp1)) <| obs_cons (ob_get1 (n := g3.length) (m := g3) (Value.int .i64) (0 : Int) Agg3 (fun _ hS => ⟨_, (hr_g3 _ (hS.dropN 1))⟩) (fun _ hS => rfl) (fun _ => hp1)) <| obs_nil
        obtain ⟨hp2, hm⟩ := asrt_b hm
        refine reg [⟨false, [], vS (Instr.loadAt 22 (.pointer (some ⟨g4, 2, none⟩))), .slice A1 g3.length c1⟩, ⟨true, [], vS (Instr.sliceAt 22 (.slice A1 g3.length c1) none (some (.int .i64 z1)) none), .slice (cutAddr A1 c1 (0 : Int)) ((cut g3 (0 : Int) z1).length) (c1 - Int.toNat (0 : Int))⟩] [none, some (.slice A1 g3.length c1), none, some (.slice (cutAddr A1 c1 (0 : Int)) ((cut g3 (0 : Int) z1).length) (c1 - Int.toNat (0 : Int))), none, none] [1, 3, 5, 9, 10, 11, 19, 20, 21] [pl 1 (.pointer (some ⟨g4, 0, none⟩)), pl 3 (.int .i64 n2), pl 5 (.int .i64 (geti g3 z1)), pl 9 (.slice A1 g3.length c1), pl 10 (.int .i64 (g3.length : Int)), pl 11 (.int .i64 z1), pl 19 (.slice (cutAddr A1 c1 (0 : Int)) ((cut g3 (0 : Int) z1).length) (c1 - Int.toNat (0 : Int))), pl 20 (.int .i64 (((cut g3 (0 : Int) z1).length : Nat) : Int)), pl 21 (.int .i64 0)] hF hS Fol (by kernel_rfl) (by kernel_rfl) (by kernel_rfl) ?_ (fun a w hF hS => ?_)
        · exact obs_cons (ob_load Agg22 (fun _ _ hS => (hS.at_ 0 rfl).cell rfl)) <| obs_cons (ob_cutn (l := g3) (k := .i64) (k' := .i64) Und22 hi3 hs3 rfl (.inr ⟨rfl, rfl⟩) (.inl rfl) (fun _ => hp2) _hc_g3) <| obs_nil
        refine wpIn_block ?_
        refine wp_loop_model (S := (Int × Int)) (R := Int) (slide_parity_L2 g3 z1) (fun x => ((slide_parity_K2 z1) x).bind φ1) r (fun (x : (Int × Int)) a w => Fr 54 [pl 1 (.pointer (some ⟨g4, 0, none⟩)), pl 3 (.int .i64 x.1), pl 5 (.int .i64 (geti g3 z1)), pl 9 (.slice A1 g3.length c1), pl 10 (.int .i64 (g3.length : Int)), pl 11 (.int .i64 z1), pl 19 (.slice (cutAddr A1 c1 (0 : Int)) ((cut g3 (0 : Int) z1).length) (c1 - Int.toNat (0 : Int))), pl 20 (.int .i64 (((cut g3 (0 : Int) z1).length : Nat) : Int)), pl 21 (.int .i64 x.2)] a ∧ Sep w0 B w (blk g4 32 #[.int .i64 g1, .int .i64 g2, .slice A1 g3.length c1] :: fs)) (assoc_b hm) ⟨hF.weak [1, 3, 5, 9, 10, 11, 19, 20, 21] (by kernel_rfl), hS⟩ ?_
        clear hF hS hm
        rintro nn2 ⟨n4, z2⟩ a w ⟨hF, hS⟩ hm
        generalize hφ2 : stK (slide_parity_L2 g3 z1) nn2 (fun x => ((slide_parity_K2 z1) x).bind φ1) = φ2 at hm
        unfold slide_parity_L2 at hm
        dsimp only at hF hS hm
        refine reg [] [] [1, 3, 5, 9, 10, 11, 19, 20, 21, 22] [pl 1 (.pointer (some ⟨g4, 0, none⟩)), pl 3 (.int .i64 n4), pl 5 (.int .i64 (geti g3 z1)), pl 9 (.slice A1 g3.length c1), pl 10 (.int .i64 (g3.length : Int)), pl 11 (.int .i64 z1), pl 19 (.slice (cutAddr A1 c1 (0 : Int)) ((cut g3 (0 : Int) z1).length) (c1 - Int.toNat (0 : Int))), pl 20 (.int .i64 (((cut g3 (0 : Int) z1).length : Nat) : Int)), pl 21 (.int .i64 z2), pl 22 (.bool (decide (z2 < (((cut g3 (0 : Int) z1).length : Nat) : Int))))] hF hS Fol (by kernel_rfl) (by kernel_rfl) (by kernel_rfl) ?_ (fun a w hF hS => ?_)
        · exact obs_nil
        refine seq_cut (fun a w => Fr 54 [pl 1 (.pointer (some ⟨g4, 0, none⟩)), pl 3 (.int .i64 n4), pl 5 (.int .i64 (geti g3 z1)), pl 9 (.slice A1 g3.length c1), pl 10 (.int .i64 (g3.length : Int)), pl 11 (.int .i64 z1), pl 19 (.slice (cutAddr A1 c1 (0 : Int)) ((cut g3 (0 : Int) z1).length) (c1 - Int.toNat (0 : Int))), pl 20 (.int .i64 (((cut g3 (0 : Int) z1).length : Nat) : Int)), pl 21 (.int .i64 z2)] a ∧ Sep w0 B w (blk g4 32 #[.int .i64 g1, .int .i64 g2, .slice A1 g3.length c1] :: fs) ∧ ((slide_parity_J4 g3 z1 n4 z2)).bind φ2 = some r) ?_ ?_
        · rintro a w ⟨hF, hS, hm⟩
          unfold slide_parity_J4 at hm
          refine seq_cut (fun a w => ∃ (n6 : Int), Fr 54 [pl 1 (.pointer (some ⟨g4, 0, none⟩)), pl 3 (.int .i64 n6), pl 5 (.int .i64 (geti g3 z1)), pl 9 (.slice A1 g3.length c1), pl 10 (.int .i64 (g3.length : Int)), pl 11 (.int .i64 z1), pl 19 (.slice (cutAddr A1 c1 (0 : Int)) ((cut g3 (0 : Int) z1).length) (c1 - Int.toNat (0 : Int))), pl 20 (.int .i64 (((cut g3 (0 : Int) z1).length : Nat) : Int)), pl 21 (.int .i64 z2)] a ∧ Sep w0 B w (blk g4 32 #[.int .i64 g1, .int .i64 g2, .slice A1 g3.length c1] :: fs) ∧ ((slide_parity_J5 z2) n6).bind φ2 = some r) ?_ ?_
          · rintro a w ⟨n6, hF, hS, hm⟩
            unfold slide_parity_J5 at hm
            refine reg1 [] [] [1, 3, 5, 9, 10, 11, 19, 20, 21] [pl 1 (.pointer (some ⟨g4, 0, none⟩)), pl 3 (.int .i64 n6), pl 5 (.int .i64 (geti g3 z1)), pl 9 (.slice A1 g3.length c1), pl 10 (.int .i64 (g3.length : Int)), pl 11 (.int .i64 z1), pl 19 (.slice (cutAddr A1 c1 (0 : Int)) ((cut g3 (0 : Int) z1).length) (c1 - Int.toNat (0 : Int))), pl 20 (.int .i64 (((cut g3 (0 : Int) z1).length : Nat) : Int)), pl 21 (.int .i64 (w64 (z2 + 1)))] hF hS Fol (by kernel_rfl) (by kernel_rfl) (by kernel_rfl) ?_ (fun a w hF hS => ?_)
            · exact obs_nil
            refine then_n ?_
            rw [← hφ2] at hm
            exact ⟨(n6, (w64 (z2 + 1))), ⟨hF.weak [1, 3, 5, 9, 10, 11, 19, 20, 21] (by kernel_rfl), hS⟩, hm⟩
          · refine wpIn_block ?_
            obtain ⟨hp3, hm⟩ := asrt_b hm
            refine reg [⟨true, [], vS (Instr.indexAt 22 (.slice (cutAddr A1 c1 (0 : Int)) ((cut g3 (0 : Int) z1).length) (c1 - Int.toNat (0 : Int))) (.int .i64 z2)), .pointer (some (sAddr (cutAddr A1 c1 (0 : Int)) z2))⟩, ⟨false, [], vS (Instr.loadAt 3 (.pointer (some (sAddr (cutAddr A1 c1 (0 : Int)) z2)))), .int .i64 (geti (cut g3 (0 : Int) z1) z2)⟩] [some (.pointer (some (sAddr (cutAddr A1 c1 (0 : Int)) z2))), some (.int .i64 (geti (cut g3 (0 : Int) z1) z2)), none] [1, 3, 5, 7, 9, 10, 11, 19, 20, 21] [pl 1 (.pointer (some ⟨g4, 0, none⟩)), pl 3 (.int .i64 n4), pl 5 (.int .i64 (geti g3 z1)), pl 7 (.int .i64 (geti (cut g3 (0 : Int) z1) z2)), pl 9 (.slice A1 g3.length c1), pl 10 (.int .i64 (g3.length : Int)), pl 11 (.int .i64 z1), pl 19 (.slice (cutAddr A1 c1 (0 : Int)) ((cut g3 (0 : Int) z1).length) (c1 - Int.toNat (0 : Int))), pl 20 (.int .i64 (((cut g3 (0 : Int) z1).length : Nat) : Int)), pl 21 (.int .i64 z2)] hF hS Fol (by kernel_rfl) (by kernel_rfl) (by kernel_rfl) ?_ (fun a w hF hS => ?_)
            · exact obs_cons (ob_ix1 (f := (Value.int .i64)) (m := (cut g3 (0 : Int) z1)) Und22 hi3 hs3 (Rd.cutF (hr_g3 _ (hS.dropN 1)) hp2 _hc_g3) rfl (fun _ => hp3)) <| obs_cons (ob_get1 (n := (cut g3 (0 : Int) z1).length) (m := (cut g3 (0 : Int) z1)) (Value.int .i64) (0 : Int) Agg3 (fun _ hS => ⟨_, (Rd.cutF (hr_g3 _ (hS.dropN 1)) hp2 _hc_g3)⟩) (fun _ hS => rfl) (fun _ => hp3)) <| obs_nil
            refine reg [] [] [1, 3, 5, 9, 10, 11, 19, 20, 21, 31] [pl 1 (.pointer (some ⟨g4, 0, none⟩)), pl 3 (.int .i64 n4), pl 5 (.int .i64 (geti g3 z1)), pl 9 (.slice A1 g3.length c1), pl 10 (.int .i64 (g3.length : Int)), pl 11 (.int .i64 z1), pl 19 (.slice (cutAddr A1 c1 (0 : Int)) ((cut g3 (0 : Int) z1).length) (c1 - Int.toNat (0 : Int))), pl 20 (.int .i64 (((cut g3 (0 : Int) z1).length : Nat) : Int)), pl 21 (.int .i64 z2), pl 31 (.bool ((decide ((0 : Int) < (geti g3 z1))) && (decide ((geti g3 z1) < (geti (cut g3 (0 : Int) z1) z2)))))] hF hS Fol (by kernel_rfl) (by kernel_rfl) (by kernel_rfl) ?_ (fun a w hF hS => ?_)
            · exact obs_nil
            refine cond_ev (t := 31) (b := (decide ((0 : Int) < (geti g3 z1))) && (decide ((geti g3 z1) < (geti (cut g3 (0 : Int) z1) z2)))) hF (by kernel_rfl) (fun hb => ?_) (fun hb => ?_)
            · replace hm := if_t hm hb
              refine reg1 [] [] [1, 3, 5, 9, 10, 11, 19, 20, 21] [pl 1 (.pointer (some ⟨g4, 0, none⟩)), pl 3 (.int .i64 (w64 (n4 + 1))), pl 5 (.int .i64 (geti g3 z1)), pl 9 (.slice A1 g3.length c1), pl 10 (.int .i64 (g3.length : Int)), pl 11 (.int .i64 z1), pl 19 (.slice (cutAddr A1 c1 (0 : Int)) ((cut g3 (0 : Int) z1).length) (c1 - Int.toNat (0 : Int))), pl 20 (.int .i64 (((cut g3 (0 : Int) z1).length : Nat) : Int)), pl 21 (.int .i64 z2)] hF hS Fol (by kernel_rfl) (by kernel_rfl) (by kernel_rfl) ?_ (fun a w hF hS => ?_)
              · exact obs_nil
              refine block_n ?_
              refine then_n ?_
              exact ⟨(w64 (n4 + 1)), hF.weak [1, 3, 5, 9, 10, 11, 19, 20, 21] (by kernel_rfl), hS, hm⟩
            · replace hm := if_f hm hb
              refine wpIn_skip ?_
              refine block_n ?_
              refine then_n ?_
              exact ⟨n4, hF.weak [1, 3, 5, 9, 10, 11, 19, 20, 21] (by kernel_rfl), hS, hm⟩
        · refine cond_ev (t := 22) (b := decide (z2 < (((cut g3 (0 : Int) z1).length : Nat) : Int))) hF (by kernel_rfl) (fun hb => ?_) (fun hb => ?_)
          · replace hm := if_t hm hb
            refine wpIn_skip ?_
            refine then_n ?_
            exact ⟨hF.weak [1, 3, 5, 9, 10, 11, 19, 20, 21] (by kernel_rfl), hS, hm⟩
          · replace hm := if_f hm hb
            refine wpIn_exit ?_
            refine then_e (then_e (block_e (block_n (then_n ?_))))
            rw [← hφ2] at hm
            replace hm := done_b hm
            unfold slide_parity_K2 at hm
            try dsimp only at hm
            have hm : ((slide_parity_J3 z1) n4).bind φ1 = some r := hm
            exact ⟨n4, hF.weak [1, 3, 9, 10, 11] (by kernel_rfl), hS, hm⟩
    · refine cond_ev (t := 12) (b := decide (z1 < (g3.length : Int))) hF (by kernel_rfl) (fun hb => ?_) (fun hb => ?_)
      · replace hm := if_t hm hb
        refine wpIn_skip ?_
        refine then_n ?_
        exact ⟨hF.weak [1, 3, 9, 10, 11] (by kernel_rfl), hS, hm⟩
      · replace hm := if_f hm hb
        refine wpIn_exit ?_
        refine then_e (then_e (block_e (then_n ?_)))
        rw [← hφ1] at hm
        replace hm := done_b hm
        unfold slide_parity_K1 at hm
        try dsimp only at hm
        have hm : ((slide_parity_J1 g1 g2 g3) n2).bind some = some r := hm
        exact ⟨n2, hF.weak [1, 3] (by kernel_rfl), hS, hm⟩

noncomputable def slide_home_J3  (i1 : Int) (g6 : List Int) : Option (St (List Int × Int) (List Int)) :=
  some (.next (g6, (w64 (i1 + 1))))

noncomputable def slide_home_J2  (g3 : List Int) (i1 : Int) : Option (St (List Int × Int) (List Int)) :=
  asrt ((g3.length : Int) + 1 ≤ bigN) <| (slide_home_J3 i1) (g3 ++ ([i1] : List Int))

noncomputable def slide_home_J1  (w1 : Int) (h1 : Int) (g4 : List Int) : Option (Int × Int × List Int) :=
  asrt ((g4.length : Int) + 1 ≤ bigN) <| some (w1, h1, (g4 ++ ([0] : List Int)))

noncomputable def slide_home_K1  (w1 : Int) (h1 : Int) : (List Int) → Option (Int × Int × List Int) :=
  fun (x : (List Int)) => match x with | g4 => (slide_home_J1 w1 h1) g4

noncomputable def slide_home_L1  (w1 : Int) (h1 : Int) : (List Int × Int) → Option (St (List Int × Int) (List Int)) :=
  fun (x : (List Int × Int)) => match x with | (g3, i1) => if (decide (i1 < (w64 (w1 * h1)))) then ((slide_home_J2 g3 i1)) else (some (.done g3))

noncomputable def slide_home_m  (w1 : Int) (h1 : Int) : Option (Int × Int × List Int) :=
  (loop (slide_home_L1 w1 h1) (([] : List Int), 1)).bind (slide_home_K1 w1 h1)

set_option maxRecDepth 100000 in
set_option maxHeartbeats 4000000 in
theorem slide_home_w  {w1 : Int} {h1 : Int} {r : (Int × Int × List Int)} {w0 w : World} {B : Nat} {fs : List HP} (hm : slide_home_m w1 h1 = some r) (hS : Sep w0 B w (fs)) :
    Calls Try.prog 53 #[.int .i64 w1, .int .i64 h1] w fun e w' => ∃ v, e = .returned v ∧ ∃ (A6 : Option Addr) (c6 : Nat), v = .agg #[.int .i64 r.1, .int .i64 r.2.1, .slice A6 r.2.2.length c6] ∧ Sep w0 B w' (own 3 (.slice A6 r.2.2.length c6) (vI r.2.2) :: fs) := by
  obtain ⟨i3, hi3, hz3, hs3, hb3⟩ := info_parts Info3
  obtain ⟨i22, hi22, hz22, hs22, hb22⟩ := info_parts Info22
  unfold slide_home_m at hm
  replace hm := start_b hm
  refine enter (l := [.int .i64 w1, .int .i64 h1]) (n := 29) Try.func53 rfl rfl (by simp) (fun a hF => ?_)
  refine seqR ?_
  refine at_do (d := 4) (s := vS (Instr.alloc 32 true (.tuple #[]))) (v := .pointer (some ⟨w.heap.size, 0, none⟩)) (w' := w.alloc (.cells #[.int .i64 0, .int .i64 0, .slice none 0 0] 32)) hF (by kernel_rfl) (by kernel_rfl) (by kernel_rfl) (fun a hF => ?_)
  have hS : Sep w0 B (w.alloc (.cells #[.int .i64 0, .int .i64 0, .slice none 0 0] 32)) (blk w.heap.size 32 #[.int .i64 0, .int .i64 0, .slice none 0 0] :: (fs)) := hS.box 32 #[.int .i64 0, .int .i64 0, .slice none 0 0]
  generalize w.heap.size = g1 at hF hS
  generalize w.alloc (.cells #[.int .i64 0, .int .i64 0, .slice none 0 0] 32) = w at hS ⊢
  refine at_end [0, 1, 4] [pl 0 (.int .i64 w1), pl 1 (.int .i64 h1), pl 4 (.pointer (some ⟨g1, 0, none⟩))] hF rfl (by kernel_rfl) (fun hF => ?_)
  refine then_n ?_
  refine seqR ?_
  refine at_run 3 [] [] [0, 1, 4, 9] [pl 0 (.int .i64 w1), pl 1 (.int .i64 h1), pl 4 (.pointer (some ⟨g1, 0, none⟩)), pl 9 (.agg #[.int .i64 w1, .int .i64 h1, .slice none 0 0])] hF hS (by kernel_rfl) (by kernel_rfl) ?_ (fun a w hF hS => ?_)
  · exact obs_nil
  refine at_do (d := 5) (s := vS (Instr.alloc 32 true (.tuple #[]))) (v := .pointer (some ⟨w.heap.size, 0, none⟩)) (w' := w.alloc (.cells #[.int .i64 0, .int .i64 0, .slice none 0 0] 32)) hF (by kernel_rfl) (by kernel_rfl) (by kernel_rfl) (fun a hF => ?_)
  have hS : Sep w0 B (w.alloc (.cells #[.int .i64 0, .int .i64 0, .slice none 0 0] 32)) (blk w.heap.size 32 #[.int .i64 0, .int .i64 0, .slice none 0 0] :: (blk g1 32 #[.int .i64 0, .int .i64 0, .slice none 0 0] :: fs)) := hS.box 32 #[.int .i64 0, .int .i64 0, .slice none 0 0]
  generalize w.heap.size = g2 at hF hS
  generalize w.alloc (.cells #[.int .i64 0, .int .i64 0, .slice none 0 0] 32) = w at hS ⊢
  obtain ⟨w, hrun, hS⟩ := run_putA (P := Try.prog) (t := 32) (us := #[.int .i64 w1, .int .i64 h1, .slice none 0 0]) (o := 0) (hS.at_ 0 rfl) (by kernel_rfl) (all_one (by kernel_rfl)) (Nat.le_of_ble_eq_true (by kernel_rfl))
  refine at_skip hF (by kernel_rfl) hrun ?_
  have hS : Sep w0 B w (blk g2 32 #[.int .i64 w1, .int .i64 h1, .slice none 0 0] :: blk g1 32 #[.int .i64 0, .int .i64 0, .slice none 0 0] :: fs) := hS
  refine at_end [0, 1, 4, 5] [pl 0 (.int .i64 w1), pl 1 (.int .i64 h1), pl 4 (.pointer (some ⟨g1, 0, none⟩)), pl 5 (.pointer (some ⟨g2, 0, none⟩))] hF rfl (by kernel_rfl) (fun hF => ?_)
  refine then_n ?_
  refine seq_cut (fun a w => ∃ (g4 : List Int) (A2 : Option Addr) (c2 : Nat), Fr 29 [pl 4 (.pointer (some ⟨g1, 0, none⟩)), pl 5 (.pointer (some ⟨g2, 0, none⟩))] a ∧ Sep w0 B w (blk g1 32 #[.int .i64 0, .int .i64 0, .slice none 0 0] :: blk g2 32 #[.int .i64 w1, .int .i64 h1, .slice A2 g4.length c2] :: own 3 (.slice A2 g4.length c2) (vI g4) :: fs) ∧ ((slide_home_J1 w1 h1) g4).bind some = some r) ?_ ?_
  · rintro a w ⟨g4, A2, c2, hF, hS, hm⟩
    unfold slide_home_J1 at hm
    refine seqR ?_
    obtain ⟨hp2, hm⟩ := asrt_b hm
    refine at_run 2 [⟨false, [], vS (Instr.loadAt 22 (.pointer (some ⟨g2, 2, none⟩))), .slice A2 g4.length c2⟩] [none, some (.slice A2 g4.length c2)] [4, 5, 24] [pl 4 (.pointer (some ⟨g1, 0, none⟩)), pl 5 (.pointer (some ⟨g2, 0, none⟩)), pl 24 (.slice A2 g4.length c2)] hF hS (by kernel_rfl) (by kernel_rfl) ?_ (fun a w hF hS => ?_)
    · exact obs_cons (ob_load Agg22 (fun _ _ hS => (hS.at_ 1 rfl).cell rfl)) <| obs_nil
    refine at_do (d := 25) (s := vS (Instr.buildSlice 22 1 #[(0, .int .i64 0)])) (v := .slice (some ⟨w.heap.size, 0, none⟩) 1 1) (w' := w.alloc (.cells #[.int .i64 0] 3)) hF (by kernel_rfl) (by kernel_rfl) (by kernel_rfl) (fun a hF => ?_)
    have hS : Sep w0 B (w.alloc (.cells #[.int .i64 0] 3)) (own 3 (.slice (some (⟨w.heap.size, 0, none⟩ : Addr)) 1 1) (vI ([0] : List Int)) :: (blk g1 32 #[.int .i64 0, .int .i64 0, .slice none 0 0] :: blk g2 32 #[.int .i64 w1, .int .i64 h1, .slice A2 g4.length c2] :: own 3 (.slice A2 g4.length c2) (vI g4) :: fs)) := hS.lit 3 #[.int .i64 0] 1 rfl (by omega)
    generalize (some (⟨w.heap.size, 0, none⟩ : Addr)) = g7 at hF hS
    generalize w.alloc (.cells #[.int .i64 0] 3) = w at hS ⊢
    obtain ⟨A5, c5, w, hrun, hS⟩ := run_app1 (P := Try.prog) (t := 22) (m := g4) (ys := ([0] : List Int)) (A2 := g7) (m2 := 1) (c2 := 1) (Value.int .i64) (0 : Int) (hS.at_ 3 rfl) (hS.at_ 0 rfl).rd ((hS.at_ 0 rfl).len1) 22 Und22 hi3 hz3 hs3 (by omega) rfl (fun _ => rfl) hp2
    have hS : Sep w0 B w (own 3 (.slice g7 1 1) (vI ([0] : List Int)) :: blk g1 32 #[.int .i64 0, .int .i64 0, .slice none 0 0] :: blk g2 32 #[.int .i64 w1, .int .i64 h1, .slice A2 g4.length c2] :: own 3 (.slice A5 ((g4 ++ ([0] : List Int)).length) c5) (vI (g4 ++ ([0] : List Int))) :: fs) := hS
    refine at_do (d := 26) hF (by kernel_rfl) (by kernel_rfl) hrun (fun a hF => ?_)
    refine at_run 1 [] [] [4, 5, 26, 27] [pl 4 (.pointer (some ⟨g1, 0, none⟩)), pl 5 (.pointer (some ⟨g2, 0, none⟩)), pl 26 (.slice A5 ((g4 ++ ([0] : List Int)).length) c5), pl 27 (.pointer (some ⟨g2, 2, none⟩))] hF hS (by kernel_rfl) (by kernel_rfl) ?_ (fun a w hF hS => ?_)
    · exact obs_nil
    obtain ⟨w, hrun, hS⟩ := run_put (P := Try.prog) (t := 22) (u := .slice A5 ((g4 ++ ([0] : List Int)).length) c5) (i := 2) (hS.at_ 2 rfl) hi22 hs22 rfl (Nat.lt_of_lt_of_eq (Nat.lt_of_succ_le (Nat.le_of_ble_eq_true (by kernel_rfl))) rfl)
    refine at_skip hF (by kernel_rfl) hrun ?_
    have hS : Sep w0 B w (own 3 (.slice g7 1 1) (vI ([0] : List Int)) :: blk g1 32 #[.int .i64 0, .int .i64 0, .slice none 0 0] :: blk g2 32 #[.int .i64 w1, .int .i64 h1, .slice A5 ((g4 ++ ([0] : List Int)).length) c5] :: own 3 (.slice A5 ((g4 ++ ([0] : List Int)).length) c5) (vI (g4 ++ ([0] : List Int))) :: fs) := hS
    refine at_end [4, 5] [pl 4 (.pointer (some ⟨g1, 0, none⟩)), pl 5 (.pointer (some ⟨g2, 0, none⟩))] hF rfl (by kernel_rfl) (fun hF => ?_)
    refine then_n ?_
    refine seqR ?_
    refine at_run 1 [⟨false, [], vS (Instr.loadAt 32 (.pointer (some ⟨g2, 0, none⟩))), .agg #[.int .i64 w1, .int .i64 h1, .slice A5 ((g4 ++ ([0] : List Int)).length) c5]⟩] [some (.agg #[.int .i64 w1, .int .i64 h1, .slice A5 ((g4 ++ ([0] : List Int)).length) c5])] [4, 28] [pl 4 (.pointer (some ⟨g1, 0, none⟩)), pl 28 (.agg #[.int .i64 w1, .int .i64 h1, .slice A5 ((g4 ++ ([0] : List Int)).length) c5])] hF hS (by kernel_rfl) (by kernel_rfl) ?_ (fun a w hF hS => ?_)
    · exact obs_cons (ob_loadA (cs := #[.int .i64 w1, .int .i64 h1, .slice A5 ((g4 ++ ([0] : List Int)).length) c5]) (by kernel_rfl) (by kernel_rfl) (fun _ _ hS => (hS.at_ 2 rfl).cellsAt 0 (by rfl))) <| obs_nil
    obtain ⟨w, hrun, hS⟩ := run_putA (P := Try.prog) (t := 32) (us := #[.int .i64 w1, .int .i64 h1, .slice A5 ((g4 ++ ([0] : List Int)).length) c5]) (o := 0) (hS.at_ 1 rfl) (by kernel_rfl) (all_one (by kernel_rfl)) (Nat.le_of_ble_eq_true (by kernel_rfl))
    refine at_skip hF (by kernel_rfl) hrun ?_
    have hS : Sep w0 B w (own 3 (.slice g7 1 1) (vI ([0] : List Int)) :: blk g1 32 #[.int .i64 w1, .int .i64 h1, .slice A5 ((g4 ++ ([0] : List Int)).length) c5] :: blk g2 32 #[.int .i64 w1, .int .i64 h1, .slice A5 ((g4 ++ ([0] : List Int)).length) c5] :: own 3 (.slice A5 ((g4 ++ ([0] : List Int)).length) c5) (vI (g4 ++ ([0] : List Int))) :: fs) := hS
    refine at_end [4] [pl 4 (.pointer (some ⟨g1, 0, none⟩))] hF rfl (by kernel_rfl) (fun hF => ?_)
    refine then_n ?_
    refine wpIn_ret ?_
    have hld0 := run_loadVarA (P := Try.prog) (t := 32) (cs := #[.int .i64 w1, .int .i64 h1, .slice A5 ((g4 ++ ([0] : List Int)).length) c5]) (by kernel_rfl) (by kernel_rfl) ((hS.at_ 1 rfl).cellsAt 0 (by rfl))
    have hS := hS.pickN 4 [3] (by decide)
    have hm : some (w1, h1, (g4 ++ ([0] : List Int))) = some r := hm
    obtain rfl := Option.some.inj hm
    exact retV (rs := [.cell 4 32]) (vs := [.agg #[.int .i64 w1, .int .i64 h1, .slice A5 ((g4 ++ ([0] : List Int)).length) c5]]) hF rfl (rv_c (by kernel_rfl) hld0 <| rv_nil) rfl ⟨_, rfl, A5, c5, rfl, hS⟩
  · refine reg [] [] [0, 1, 4, 5, 6] [pl 0 (.int .i64 w1), pl 1 (.int .i64 h1), pl 4 (.pointer (some ⟨g1, 0, none⟩)), pl 5 (.pointer (some ⟨g2, 0, none⟩)), pl 6 (.int .i64 1)] hF hS Fol (by kernel_rfl) (by kernel_rfl) (by kernel_rfl) ?_ (fun a w hF hS => ?_)
    · exact obs_nil
    refine wpIn_block ?_
    have hS : Sep w0 B w (own 3 (.slice none 0 0) (vI ([] : List Int)) :: blk g2 32 #[.int .i64 w1, .int .i64 h1, .slice none 0 0] :: blk g1 32 #[.int .i64 0, .int .i64 0, .slice none 0 0] :: fs) := hS.nil 3
    have hS : Sep w0 B w (own 3 (.slice none 0 0) (vI ([] : List Int)) :: blk g2 32 #[.int .i64 w1, .int .i64 h1, .slice none 0 0] :: blk g1 32 #[.int .i64 0, .int .i64 0, .slice none 0 0] :: fs) := hS
    have hl1 := (hS.at_ 0 rfl).len1
    have hS := (hS.at_ 0 rfl).reN hl1
    have hS := (hS.at_ 1 rfl).reBlk (congrArg (fun k9 => (#[.int .i64 w1, .int .i64 h1, .slice none k9 0] : Array Value)) hl1)
    have hS : Sep w0 B w (own 3 (.slice none (([] : List Int).length) 0) (vI ([] : List Int)) :: blk g2 32 #[.int .i64 w1, .int .i64 h1, .slice none (([] : List Int).length) 0] :: blk g1 32 #[.int .i64 0, .int .i64 0, .slice none 0 0] :: fs) := hS
    have hS := hS.pickN 3 [2, 1, 0] (by decide)
    refine wp_loop_model (S := (List Int × Int)) (R := (List Int)) (slide_home_L1 w1 h1) (fun x => ((slide_home_K1 w1 h1) x).bind some) r (fun (x : (List Int × Int)) a w => ∃ (A1 : Option Addr) (c1 : Nat), Fr 29 [pl 0 (.int .i64 w1), pl 1 (.int .i64 h1), pl 4 (.pointer (some ⟨g1, 0, none⟩)), pl 5 (.pointer (some ⟨g2, 0, none⟩)), pl 6 (.int .i64 x.2)] a ∧ Sep w0 B w (blk g1 32 #[.int .i64 0, .int .i64 0, .slice none 0 0] :: blk g2 32 #[.int .i64 w1, .int .i64 h1, .slice A1 x.1.length c1] :: own 3 (.slice A1 x.1.length c1) (vI x.1) :: fs)) (assoc_b hm) ⟨none, 0, hF.weak [0, 1, 4, 5, 6] (by kernel_rfl), hS⟩ ?_
    clear hF hS hm
    rintro nn1 ⟨g3, i1⟩ a w ⟨A1, c1, hF, hS⟩ hm
    generalize hφ1 : stK (slide_home_L1 w1 h1) nn1 (fun x => ((slide_home_K1 w1 h1) x).bind some) = φ1 at hm
    unfold slide_home_L1 at hm
    dsimp only at hF hS hm
    refine seq_cut (fun a w => Fr 29 [pl 0 (.int .i64 w1), pl 1 (.int .i64 h1), pl 4 (.pointer (some ⟨g1, 0, none⟩)), pl 5 (.pointer (some ⟨g2, 0, none⟩)), pl 6 (.int .i64 i1)] a ∧ Sep w0 B w (blk g1 32 #[.int .i64 0, .int .i64 0, .slice none 0 0] :: blk g2 32 #[.int .i64 w1, .int .i64 h1, .slice A1 g3.length c1] :: own 3 (.slice A1 g3.length c1) (vI g3) :: fs) ∧ ((slide_home_J2 g3 i1)).bind φ1 = some r) ?_ ?_
    · rintro a w ⟨hF, hS, hm⟩
      unfold slide_home_J2 at hm
      refine seq_cut (fun a w => ∃ (g6 : List Int) (A4 : Option Addr) (c4 : Nat), Fr 29 [pl 0 (.int .i64 w1), pl 1 (.int .i64 h1), pl 4 (.pointer (some ⟨g1, 0, none⟩)), pl 5 (.pointer (some ⟨g2, 0, none⟩)), pl 6 (.int .i64 i1)] a ∧ Sep w0 B w (blk g1 32 #[.int .i64 0, .int .i64 0, .slice none 0 0] :: blk g2 32 #[.int .i64 w1, .int .i64 h1, .slice A4 g6.length c4] :: own 3 (.slice A4 g6.length c4) (vI g6) :: fs) ∧ ((slide_home_J3 i1) g6).bind φ1 = some r) ?_ ?_
      · rintro a w ⟨g6, A4, c4, hF, hS, hm⟩
        unfold slide_home_J3 at hm
        refine reg1 [] [] [0, 1, 4, 5, 6] [pl 0 (.int .i64 w1), pl 1 (.int .i64 h1), pl 4 (.pointer (some ⟨g1, 0, none⟩)), pl 5 (.pointer (some ⟨g2, 0, none⟩)), pl 6 (.int .i64 (w64 (i1 + 1)))] hF hS Fol (by kernel_rfl) (by kernel_rfl) (by kernel_rfl) ?_ (fun a w hF hS => ?_)
        · exact obs_nil
        refine then_n ?_
        rw [← hφ1] at hm
        exact ⟨(g6, (w64 (i1 + 1))), ⟨A4, c4, hF.weak [0, 1, 4, 5, 6] (by kernel_rfl), hS⟩, hm⟩
      · refine wpIn_block ?_
        refine oneR ?_
        obtain ⟨hp1, hm⟩ := asrt_b hm
        refine at_run 3 [⟨false, [], vS (Instr.loadAt 22 (.pointer (some ⟨g2, 2, none⟩))), .slice A1 g3.length c1⟩] [none, some (.slice A1 g3.length c1), none] [0, 1, 4, 5, 6, 18, 19] [pl 0 (.int .i64 w1), pl 1 (.int .i64 h1), pl 4 (.pointer (some ⟨g1, 0, none⟩)), pl 5 (.pointer (some ⟨g2, 0, none⟩)), pl 6 (.int .i64 i1), pl 18 (.slice A1 g3.length c1), pl 19 (.int .i64 i1)] hF hS (by kernel_rfl) (by kernel_rfl) ?_ (fun a w hF hS => ?_)
        · exact obs_cons (ob_load Agg22 (fun _ _ hS => (hS.at_ 1 rfl).cell rfl)) <| obs_nil
        refine at_do (d := 20) (s := vS (Instr.buildSlice 22 1 #[(0, .int .i64 i1)])) (v := .slice (some ⟨w.heap.size, 0, none⟩) 1 1) (w' := w.alloc (.cells #[.int .i64 i1] 3)) hF (by kernel_rfl) (by kernel_rfl) (by kernel_rfl) (fun a hF => ?_)
        have hS : Sep w0 B (w.alloc (.cells #[.int .i64 i1] 3)) (own 3 (.slice (some (⟨w.heap.size, 0, none⟩ : Addr)) 1 1) (vI ([i1] : List Int)) :: (blk g1 32 #[.int .i64 0, .int .i64 0, .slice none 0 0] :: blk g2 32 #[.int .i64 w1, .int .i64 h1, .slice A1 g3.length c1] :: own 3 (.slice A1 g3.length c1) (vI g3) :: fs)) := hS.lit 3 #[.int .i64 i1] 1 rfl (by omega)
        generalize (some (⟨w.heap.size, 0, none⟩ : Addr)) = g5 at hF hS
        generalize w.alloc (.cells #[.int .i64 i1] 3) = w at hS ⊢
        obtain ⟨A3, c3, w, hrun, hS⟩ := run_app1 (P := Try.prog) (t := 22) (m := g3) (ys := ([i1] : List Int)) (A2 := g5) (m2 := 1) (c2 := 1) (Value.int .i64) (0 : Int) (hS.at_ 3 rfl) (hS.at_ 0 rfl).rd ((hS.at_ 0 rfl).len1) 22 Und22 hi3 hz3 hs3 (by omega) rfl (fun _ => rfl) hp1
        have hS : Sep w0 B w (own 3 (.slice g5 1 1) (vI ([i1] : List Int)) :: blk g1 32 #[.int .i64 0, .int .i64 0, .slice none 0 0] :: blk g2 32 #[.int .i64 w1, .int .i64 h1, .slice A1 g3.length c1] :: own 3 (.slice A3 ((g3 ++ ([i1] : List Int)).length) c3) (vI (g3 ++ ([i1] : List Int))) :: fs) := hS
        refine at_do (d := 21) hF (by kernel_rfl) (by kernel_rfl) hrun (fun a hF => ?_)
        refine at_run 1 [] [] [0, 1, 4, 5, 6, 21, 22] [pl 0 (.int .i64 w1), pl 1 (.int .i64 h1), pl 4 (.pointer (some ⟨g1, 0, none⟩)), pl 5 (.pointer (some ⟨g2, 0, none⟩)), pl 6 (.int .i64 i1), pl 21 (.slice A3 ((g3 ++ ([i1] : List Int)).length) c3), pl 22 (.pointer (some ⟨g2, 2, none⟩))] hF hS (by kernel_rfl) (by kernel_rfl) ?_ (fun a w hF hS => ?_)
        · exact obs_nil
        obtain ⟨w, hrun, hS⟩ := run_put (P := Try.prog) (t := 22) (u := .slice A3 ((g3 ++ ([i1] : List Int)).length) c3) (i := 2) (hS.at_ 2 rfl) hi22 hs22 rfl (Nat.lt_of_lt_of_eq (Nat.lt_of_succ_le (Nat.le_of_ble_eq_true (by kernel_rfl))) rfl)
        refine at_skip hF (by kernel_rfl) hrun ?_
        have hS : Sep w0 B w (own 3 (.slice g5 1 1) (vI ([i1] : List Int)) :: blk g1 32 #[.int .i64 0, .int .i64 0, .slice none 0 0] :: blk g2 32 #[.int .i64 w1, .int .i64 h1, .slice A3 ((g3 ++ ([i1] : List Int)).length) c3] :: own 3 (.slice A3 ((g3 ++ ([i1] : List Int)).length) c3) (vI (g3 ++ ([i1] : List Int))) :: fs) := hS
        refine at_end [0, 1, 4, 5, 6] [pl 0 (.int .i64 w1), pl 1 (.int .i64 h1), pl 4 (.pointer (some ⟨g1, 0, none⟩)), pl 5 (.pointer (some ⟨g2, 0, none⟩)), pl 6 (.int .i64 i1)] hF rfl (by kernel_rfl) (fun hF => ?_)
        refine block_n ?_
        refine then_n ?_
        have hS := hS.pickN 4 [1, 2, 3] (by decide)
        exact ⟨(g3 ++ ([i1] : List Int)), A3, c3, hF.weak [0, 1, 4, 5, 6] (by kernel_rfl), hS, hm⟩
    · refine reg [] [] [0, 1, 4, 5, 6, 14] [pl 0 (.int .i64 w1), pl 1 (.int .i64 h1), pl 4 (.pointer (some ⟨g1, 0, none⟩)), pl 5 (.pointer (some ⟨g2, 0, none⟩)), pl 6 (.int .i64 i1), pl 14 (.bool (decide (i1 < (w64 (w1 * h1)))))] hF hS Fol (by kernel_rfl) (by kernel_rfl) (by kernel_rfl) ?_ (fun a w hF hS => ?_)
      · exact obs_nil
      refine cond_ev (t := 14) (b := decide (i1 < (w64 (w1 * h1)))) hF (by kernel_rfl) (fun hb => ?_) (fun hb => ?_)
      · replace hm := if_t hm hb
        refine wpIn_skip ?_
        refine then_n ?_
        exact ⟨hF.weak [0, 1, 4, 5, 6] (by kernel_rfl), hS, hm⟩
      · replace hm := if_f hm hb
        refine wpIn_exit ?_
        refine then_e (then_e (block_e (then_n ?_)))
        rw [← hφ1] at hm
        replace hm := done_b hm
        unfold slide_home_K1 at hm
        try dsimp only at hm
        have hm : ((slide_home_J1 w1 h1) g3).bind some = some r := hm
        exact ⟨g3, A1, c1, hF.weak [4, 5] (by kernel_rfl), hS, hm⟩

noncomputable def slide_nameOf_m  (l1 : List Int) : Option (List Int) :=
  some (putL (pad 6 (List.replicate 6 (0 : Int))) 0 (List.take 6 l1))

set_option maxRecDepth 100000 in
set_option maxHeartbeats 4000000 in
theorem slide_nameOf_w  {A1 : Option Addr} {c1 : Nat} {n1 : Nat} {l1 : List Int} {r : (List Int)} {w0 w : World} {B : Nat} {fs : List HP} (hm : slide_nameOf_m l1 = some r) (hS : Sep w0 B w (fs)) (hr_l1 : RdF w0 B fs A1 (vI l1)) (_hc_l1 : l1.length ≤ c1) (_hn_l1 : n1 = l1.length) :
    Calls Try.prog 55 #[.slice A1 n1 c1] w fun e w' => e = .returned (.agg (List.toArray (([] : List Value) ++ (arr1 (Value.int .i64) (0 : Int) 6 r ++ ([] : List Value))))) ∧ Sep w0 B w' (fs) := by
  obtain ⟨i3, hi3, hz3, hs3, hb3⟩ := info_parts Info3
  obtain rfl := _hn_l1
  unfold slide_nameOf_m at hm
  replace hm := start_b hm
  refine enter (l := [.slice A1 l1.length c1]) (n := 7) Try.func55 rfl rfl (by simp) (fun a hF => ?_)
  refine seqR ?_
  refine at_do (d := 2) (s := vS (Instr.alloc 98 true (.tuple #[]))) (v := .pointer (some ⟨w.heap.size, 0, none⟩)) (w' := w.alloc (.cells (List.toArray (([] : List Value) ++ (arr1 (Value.int .i64) (0 : Int) 6 (List.replicate 6 (0 : Int)) ++ ([] : List Value)))) 98)) hF (by kernel_rfl) (by kernel_rfl) (by kernel_rfl) (fun a hF => ?_)
  have hS : Sep w0 B (w.alloc (.cells (List.toArray (([] : List Value) ++ (arr1 (Value.int .i64) (0 : Int) 6 (List.replicate 6 (0 : Int)) ++ ([] : List Value)))) 98)) (blk w.heap.size 98 (List.toArray (([] : List Value) ++ (arr1 (Value.int .i64) (0 : Int) 6 (List.replicate 6 (0 : Int)) ++ ([] : List Value)))) :: (fs)) := hS.box 98 (List.toArray (([] : List Value) ++ (arr1 (Value.int .i64) (0 : Int) 6 (List.replicate 6 (0 : Int)) ++ ([] : List Value))))
  generalize w.heap.size = g1 at hF hS
  generalize w.alloc (.cells (List.toArray (([] : List Value) ++ (arr1 (Value.int .i64) (0 : Int) 6 (List.replicate 6 (0 : Int)) ++ ([] : List Value)))) 98) = w at hS ⊢
  refine at_end [0, 2] [pl 0 (.slice A1 l1.length c1), pl 2 (.pointer (some ⟨g1, 0, none⟩))] hF rfl (by kernel_rfl) (fun hF => ?_)
  refine then_n ?_
  refine seqR ?_
  refine at_run 2 [⟨true, [], vS (Instr.sliceAt 98 (.pointer (some ⟨g1, 0, none⟩)) none none none), .slice (some (⟨g1, 0, none⟩ : Addr)) 6 6⟩] [some (.slice (some (⟨g1, 0, none⟩ : Addr)) 6 6), none] [2, 3, 4] [pl 2 (.pointer (some ⟨g1, 0, none⟩)), pl 3 (.slice (some (⟨g1, 0, none⟩ : Addr)) 6 6), pl 4 (.slice A1 l1.length c1)] hF hS (by kernel_rfl) (by kernel_rfl) ?_ (fun a w hF hS => ?_)
  · exact obs_cons (ob_sliceB UndA98 hi3) <| obs_nil
  obtain ⟨w, hrun, hS⟩ := run_copyB (P := Try.prog) (t := 22) (t2 := 22) (ty := 3) (n := 6) (m := (List.replicate 6 (0 : Int))) (ys := l1) (A2 := A1) (n2 := l1.length) (c2 := c1) (dc := 6) ([] : List Value) ([] : List Value) (hS.at_ 0 rfl) rfl (hr_l1 _ (hS.dropN 1)) rfl Und22 hi3 hs3
  refine at_do (d := 5) hF (by kernel_rfl) (by kernel_rfl) hrun (fun a hF => ?_)
  have hS : Sep w0 B w (blk g1 98 (List.toArray (([] : List Value) ++ (arr1 (Value.int .i64) (0 : Int) 6 (putL (pad 6 (List.replicate 6 (0 : Int))) 0 (List.take 6 l1)) ++ ([] : List Value)))) :: fs) := hS
  refine at_end [2] [pl 2 (.pointer (some ⟨g1, 0, none⟩))] hF rfl (by kernel_rfl) (fun hF => ?_)
  refine then_n ?_
  refine seqR ?_
  refine at_run 1 [⟨false, [], vS (Instr.loadAt 98 (.pointer (some ⟨g1, 0, none⟩))), .agg (List.toArray (([] : List Value) ++ (arr1 (Value.int .i64) (0 : Int) 6 (putL (pad 6 (List.replicate 6 (0 : Int))) 0 (List.take 6 l1)) ++ ([] : List Value))))⟩] [some (.agg (List.toArray (([] : List Value) ++ (arr1 (Value.int .i64) (0 : Int) 6 (putL (pad 6 (List.replicate 6 (0 : Int))) 0 (List.take 6 l1)) ++ ([] : List Value)))))] [2, 6] [pl 2 (.pointer (some ⟨g1, 0, none⟩)), pl 6 (.agg (List.toArray (([] : List Value) ++ (arr1 (Value.int .i64) (0 : Int) 6 (putL (pad 6 (List.replicate 6 (0 : Int))) 0 (List.take 6 l1)) ++ ([] : List Value)))))] hF hS (by kernel_rfl) (by kernel_rfl) ?_ (fun a w hF hS => ?_)
  · exact obs_cons (ob_loadA (cs := (List.toArray (([] : List Value) ++ (arr1 (Value.int .i64) (0 : Int) 6 (putL (pad 6 (List.replicate 6 (0 : Int))) 0 (List.take 6 l1)) ++ ([] : List Value))))) (by kernel_rfl) (by kernel_rfl) (fun _ _ hS => (hS.at_ 0 rfl).cellsAt 0 (by rfl))) <| obs_nil
  obtain ⟨w, hrun, hS⟩ := run_putA (P := Try.prog) (t := 98) (us := (List.toArray (([] : List Value) ++ (arr1 (Value.int .i64) (0 : Int) 6 (putL (pad 6 (List.replicate 6 (0 : Int))) 0 (List.take 6 l1)) ++ ([] : List Value))))) (o := 0) (hS.at_ 0 rfl) (by kernel_rfl) (all_one (by kernel_rfl)) (Nat.le_of_ble_eq_true (by kernel_rfl))
  refine at_skip hF (by kernel_rfl) hrun ?_
  have hS : Sep w0 B w (blk g1 98 (List.toArray (([] : List Value) ++ (arr1 (Value.int .i64) (0 : Int) 6 (putL (pad 6 (List.replicate 6 (0 : Int))) 0 (List.take 6 l1)) ++ ([] : List Value)))) :: fs) := hS
  refine at_end [2] [pl 2 (.pointer (some ⟨g1, 0, none⟩))] hF rfl (by kernel_rfl) (fun hF => ?_)
  refine then_n ?_
  refine wpIn_ret ?_
  have hld0 := run_loadVarA (P := Try.prog) (t := 98) (cs := (List.toArray (([] : List Value) ++ (arr1 (Value.int .i64) (0 : Int) 6 (putL (pad 6 (List.replicate 6 (0 : Int))) 0 (List.take 6 l1)) ++ ([] : List Value))))) (by kernel_rfl) (by kernel_rfl) ((hS.at_ 0 rfl).cellsAt 0 (by rfl))
  have hS := hS.pickN 1 [] (by decide)
  have hm : some (putL (pad 6 (List.replicate 6 (0 : Int))) 0 (List.take 6 l1)) = some r := hm
  obtain rfl := Option.some.inj hm
  exact retV (rs := [.cell 2 98]) (vs := [.agg (List.toArray (([] : List Value) ++ (arr1 (Value.int .i64) (0 : Int) 6 (putL (pad 6 (List.replicate 6 (0 : Int))) 0 (List.take 6 l1)) ++ ([] : List Value))))]) hF rfl (rv_c (by kernel_rfl) hld0 <| rv_nil) rfl ⟨rfl, hS⟩

noncomputable def slices_Clone_J1  (s1 : List Int) : Option (List Int) :=
  asrt ((0 : Int) + (s1.length : Int) ≤ bigN) <| some (([] : List Int) ++ s1)

noncomputable def slices_Clone_m  (s1 : List Int) : Option (List Int) :=
  (slices_Clone_J1 s1)

set_option maxRecDepth 100000 in
set_option maxHeartbeats 4000000 in
theorem slices_Clone_w  {A1 : Option Addr} {c1 : Nat} {n1 : Nat} {s1 : List Int} {r : (List Int)} {w0 w : World} {B : Nat} {fs : List HP} (hm : slices_Clone_m s1 = some r) (hS : Sep w0 B w (fs)) (hr_s1 : RdF w0 B fs A1 (vI s1)) (_hc_s1 : s1.length ≤ c1) (_hn_s1 : n1 = s1.length) :
    Calls Try.prog 78 #[.slice A1 n1 c1] w fun e w' => ∃ v, e = .returned v ∧ ∃ (A3 : Option Addr) (c3 : Nat), v = .slice A3 r.length c3 ∧ Sep w0 B w' (own 3 (.slice A3 r.length c3) (vI r) :: fs) := by
  obtain ⟨i3, hi3, hz3, hs3, hb3⟩ := info_parts Info3
  obtain rfl := _hn_s1
  unfold slices_Clone_m at hm
  replace hm := start_b hm
  refine enter (l := [.slice A1 s1.length c1]) (n := 8) Try.func78 rfl rfl (by simp) (fun a hF => ?_)
  refine reg [] [] [0] [pl 0 (.slice A1 s1.length c1)] hF hS Fol (by kernel_rfl) (by kernel_rfl) (by kernel_rfl) ?_ (fun a w hF hS => ?_)
  · exact obs_nil
  refine seq_cut (fun a w => Fr 8 [pl 0 (.slice A1 s1.length c1)] a ∧ Sep w0 B w (fs) ∧ ((slices_Clone_J1 s1)).bind some = some r) ?_ ?_
  · rintro a w ⟨hF, hS, hm⟩
    unfold slices_Clone_J1 at hm
    refine seqR ?_
    obtain ⟨hp1, hm⟩ := asrt_b hm
    refine at_do (d := 5) (s := vS (Instr.buildSlice 22 0 #[])) (v := .slice (some ⟨w.heap.size, 0, none⟩) 0 0) (w' := w.alloc (.cells #[] 3)) hF (by kernel_rfl) (by kernel_rfl) (by kernel_rfl) (fun a hF => ?_)
    have hS : Sep w0 B (w.alloc (.cells #[] 3)) (own 3 (.slice (some (⟨w.heap.size, 0, none⟩ : Addr)) 0 0) (vI ([] : List Int)) :: (fs)) := hS.lit 3 #[] 0 rfl (by omega)
    generalize (some (⟨w.heap.size, 0, none⟩ : Addr)) = g1 at hF hS
    generalize w.alloc (.cells #[] 3) = w at hS ⊢
    refine at_run 1 [] [] [5, 6] [pl 5 (.slice g1 0 0), pl 6 (.slice A1 s1.length c1)] hF hS (by kernel_rfl) (by kernel_rfl) ?_ (fun a w hF hS => ?_)
    · exact obs_nil
    obtain ⟨A2, c2, w, hrun, hS⟩ := run_app1 (P := Try.prog) (t := 22) (m := ([] : List Int)) (ys := s1) (A2 := A1) (m2 := s1.length) (c2 := c1) (Value.int .i64) (0 : Int) (hS.at_ 0 rfl) (hr_s1 _ (hS.dropN 1)) rfl 22 Und22 hi3 hz3 hs3 (by omega) rfl (fun _ => rfl) hp1
    have hS : Sep w0 B w (own 3 (.slice A2 ((([] : List Int) ++ s1).length) c2) (vI (([] : List Int) ++ s1)) :: fs) := hS
    refine at_do (d := 7) hF (by kernel_rfl) (by kernel_rfl) hrun (fun a hF => ?_)
    refine at_run 1 [] [] [2] [pl 2 (.slice A2 ((([] : List Int) ++ s1).length) c2)] hF hS (by kernel_rfl) (by kernel_rfl) ?_ (fun a w hF hS => ?_)
    · exact obs_nil
    refine at_end [2] [pl 2 (.slice A2 ((([] : List Int) ++ s1).length) c2)] hF rfl (by kernel_rfl) (fun hF => ?_)
    refine then_n ?_
    refine wpIn_ret ?_
    have hm : some (([] : List Int) ++ s1) = some r := hm
    obtain rfl := Option.some.inj hm
    exact retV (rs := [.tmp 2]) (vs := [.slice A2 ((([] : List Int) ++ s1).length) c2]) hF rfl (rv_t (by kernel_rfl) <| rv_nil) rfl ⟨_, rfl, A2, c2, rfl, hS⟩
  · refine reg [⟨true, [], vS (binOp .eql 22 (.slice A1 s1.length c1) (.slice none 0 0)), .bool A1.isNone⟩] [none, some (.bool A1.isNone)] [0, 4] [pl 0 (.slice A1 s1.length c1), pl 4 (.bool A1.isNone)] hF hS Fol (by kernel_rfl) (by kernel_rfl) (by kernel_rfl) ?_ (fun a w hF hS => ?_)
    · exact obs_cons (ob_isnil Und22 rfl) <| obs_nil
    refine cond_ev (t := 4) (b := A1.isNone) hF (by kernel_rfl) (fun hb => ?_) (fun hb => ?_)
    · have hA9 := Option.isNone_iff_eq_none.1 hb
      have hnil9 : s1 = [] := by have h9 := (hr_s1 _ (hS.dropN 0)); rw [hA9] at h9; exact h9.none_nil
      have hm : (some ([] : List Int)).bind some = some r := by rw [hnil9] at hm; simpa [asrt, bigN, slices_Clone_J1] using hm
      refine reg [] [] [2] [pl 2 (.slice none 0 0)] hF hS Fol (by kernel_rfl) (by kernel_rfl) (by kernel_rfl) ?_ (fun a w hF hS => ?_)
      · exact obs_nil
      refine wpIn_ret ?_
      refine then_r ?_
      have hS : Sep w0 B w (own 3 (.slice none 0 0) (vI ([] : List Int)) :: fs) := hS.nil 3
      have hl1 := (hS.at_ 0 rfl).len1
      have hS := (hS.at_ 0 rfl).reN hl1
      have hS : Sep w0 B w (own 3 (.slice none (([] : List Int).length) 0) (vI ([] : List Int)) :: fs) := hS
      have hm : some ([] : List Int) = some r := hm
      obtain rfl := Option.some.inj hm
      exact retV (rs := [.tmp 2]) (vs := [.slice none (([] : List Int).length) 0]) hF rfl (rv_t (by kernel_rfl) <| rv_nil) rfl ⟨_, rfl, none, 0, rfl, hS⟩
    · refine wpIn_skip ?_
      refine then_n ?_
      exact ⟨hF.weak [0] (by kernel_rfl), hS, hm⟩

noncomputable def slide_newTray_J1  (g1 : Int) (g2 : Int) (r1 : (List Int)) (z1 : Int) : Option (Int × Int × List Int × Int) :=
  some (g1, g2, r1, z1)

noncomputable def slide_newTray_m  (g1 : Int) (g2 : Int) (g3 : List Int) : Option (Int × Int × List Int × Int) :=
  (slices_Clone_m g3).bind fun r1 => (slices_Index_m r1 0).bind fun r2 => (slide_newTray_J1 g1 g2 r1) r2

set_option maxRecDepth 100000 in
set_option maxHeartbeats 4000000 in
theorem slide_newTray_w  {g1 : Int} {g2 : Int} {A1 : Option Addr} {c1 : Nat} {n1 : Nat} {g3 : List Int} {r : (Int × Int × List Int × Int)} {w0 w : World} {B : Nat} {fs : List HP} (hm : slide_newTray_m g1 g2 g3 = some r) (hS : Sep w0 B w (fs)) (hr_g3 : RdF w0 B fs A1 (vI g3)) (_hc_g3 : g3.length ≤ c1) (_hn_g3 : n1 = g3.length) :
    Calls Try.prog 56 #[.agg #[.int .i64 g1, .int .i64 g2, .slice A1 n1 c1]] w fun e w' => ∃ v, e = .returned v ∧ ∃ (g7 : Nat) (A3 : Option Addr) (c3 : Nat), v = .pointer (some ⟨g7, 0, none⟩) ∧ Sep w0 B w' (blk g7 103 #[.int .i64 r.1, .int .i64 r.2.1, .slice A3 r.2.2.1.length c3, .int .i64 r.2.2.2] :: own 3 (.slice A3 r.2.2.1.length c3) (vI r.2.2.1) :: fs) := by
  obtain ⟨i3, hi3, hz3, hs3, hb3⟩ := info_parts Info3
  obtain ⟨i22, hi22, hz22, hs22, hb22⟩ := info_parts Info22
  obtain rfl := _hn_g3
  unfold slide_newTray_m at hm
  replace hm := start_b hm
  refine enter (l := [.agg #[.int .i64 g1, .int .i64 g2, .slice A1 g3.length c1]]) (n := 13) Try.func56 rfl rfl (by simp) (fun a hF => ?_)
  refine seqR ?_
  refine at_do (d := 1) (s := vS (Instr.box 32 (.agg #[.int .i64 g1, .int .i64 g2, .slice A1 g3.length c1]))) (v := .pointer (some ⟨w.heap.size, 0, none⟩)) (w' := w.alloc (.cells #[.int .i64 g1, .int .i64 g2, .slice A1 g3.length c1] 32)) hF (by kernel_rfl) (by kernel_rfl) (by kernel_rfl) (fun a hF => ?_)
  have hS : Sep w0 B (w.alloc (.cells #[.int .i64 g1, .int .i64 g2, .slice A1 g3.length c1] 32)) (blk w.heap.size 32 #[.int .i64 g1, .int .i64 g2, .slice A1 g3.length c1] :: (fs)) := hS.box 32 #[.int .i64 g1, .int .i64 g2, .slice A1 g3.length c1]
  generalize w.heap.size = g4 at hF hS
  generalize w.alloc (.cells #[.int .i64 g1, .int .i64 g2, .slice A1 g3.length c1] 32) = w at hS ⊢
  refine at_run 1 [] [] [1] [pl 1 (.pointer (some ⟨g4, 0, none⟩))] hF hS (by kernel_rfl) (by kernel_rfl) ?_ (fun a w hF hS => ?_)
  · exact obs_nil
  refine at_end [1] [pl 1 (.pointer (some ⟨g4, 0, none⟩))] hF rfl (by kernel_rfl) (fun hF => ?_)
  refine then_n ?_
  refine seqR ?_
  obtain ⟨r1, hr1, hm⟩ := call_b hm
  refine at_run 2 [⟨false, [], vS (Instr.loadAt 22 (.pointer (some ⟨g4, 2, none⟩))), .slice A1 g3.length c1⟩] [none, some (.slice A1 g3.length c1)] [1, 4] [pl 1 (.pointer (some ⟨g4, 0, none⟩)), pl 4 (.slice A1 g3.length c1)] hF hS (by kernel_rfl) (by kernel_rfl) ?_ (fun a w hF hS => ?_)
  · exact obs_cons (ob_load Agg22 (fun _ _ hS => (hS.at_ 0 rfl).cell rfl)) <| obs_nil
  refine at_call (f := 78) (args := #[.slice A1 g3.length c1]) (d := 5) hF (by kernel_rfl) (by kernel_rfl) Try.func78 (by kernel_rfl) rfl (slices_Clone_w hr1 hS (fun _ hS => (hr_g3 _ (hS.dropN 1))) _hc_g3 rfl) (fun v a w hR hF => ?_)
  clear hS
  obtain ⟨A2, c2, rfl, hS⟩ := hR
  have hS : Sep w0 B w (own 3 (.slice A2 r1.length c2) (vI r1) :: blk g4 32 #[.int .i64 g1, .int .i64 g2, .slice A1 g3.length c1] :: fs) := hS
  refine at_run 1 [] [] [1, 5, 6] [pl 1 (.pointer (some ⟨g4, 0, none⟩)), pl 5 (.slice A2 r1.length c2), pl 6 (.pointer (some ⟨g4, 2, none⟩))] hF hS (by kernel_rfl) (by kernel_rfl) ?_ (fun a w hF hS => ?_)
  · exact obs_nil
  obtain ⟨w, hrun, hS⟩ := run_put (P := Try.prog) (t := 22) (u := .slice A2 r1.length c2) (i := 2) (hS.at_ 1 rfl) hi22 hs22 rfl (Nat.lt_of_lt_of_eq (Nat.lt_of_succ_le (Nat.le_of_ble_eq_true (by kernel_rfl))) rfl)
  refine at_skip hF (by kernel_rfl) hrun ?_
  have hS : Sep w0 B w (own 3 (.slice A2 r1.length c2) (vI r1) :: blk g4 32 #[.int .i64 g1, .int .i64 g2, .slice A2 r1.length c2] :: fs) := hS
  refine at_end [1] [pl 1 (.pointer (some ⟨g4, 0, none⟩))] hF rfl (by kernel_rfl) (fun hF => ?_)
  refine then_n ?_
  refine seq_cut (fun a w => ∃ (z1 : Int) (g6 : Nat), Fr 13 [pl 2 (.pointer (some ⟨g6, 0, none⟩))] a ∧ Sep w0 B w (blk g6 103 #[.int .i64 g1, .int .i64 g2, .slice A2 r1.length c2, .int .i64 z1] :: own 3 (.slice A2 r1.length c2) (vI r1) :: fs) ∧ ((slide_newTray_J1 g1 g2 r1) z1).bind some = some r) ?_ ?_
  · rintro a w ⟨z1, g6, hF, hS, hm⟩
    unfold slide_newTray_J1 at hm
    refine wpIn_ret ?_
    have hm : some (g1, g2, r1, z1) = some r := hm
    obtain rfl := Option.some.inj hm
    exact retV (rs := [.tmp 2]) (vs := [.pointer (some ⟨g6, 0, none⟩)]) hF rfl (rv_t (by kernel_rfl) <| rv_nil) rfl ⟨_, rfl, g6, A2, c2, rfl, hS⟩
  · obtain ⟨r2, hr2, hm⟩ := call_b hm
    refine regMix5 [0, 1, 2] [] 4 #[true, true, true, false, false, false, false] [⟨false, [], vS (Instr.loadAt 32 (.pointer (some ⟨g4, 0, none⟩))), .agg #[.int .i64 g1, .int .i64 g2, .slice A2 r1.length c2]⟩, ⟨false, [], vS (Instr.loadAt 22 (.pointer (some ⟨g4, 2, none⟩))), .slice A2 r1.length c2⟩] [some (.agg #[.int .i64 g1, .int .i64 g2, .slice A2 r1.length c2]), none, some (.slice A2 r1.length c2)] [7, 9] [pl 7 (.agg #[.int .i64 g1, .int .i64 g2, .slice A2 r1.length c2]), pl 9 (.slice A2 r1.length c2)] hF hS Fol (by kernel_rfl) (by kernel_rfl) (by kernel_rfl) (by kernel_rfl) ?_ (fun a w hF hS => ?_)
    · exact obs_cons (ob_loadA (cs := #[.int .i64 g1, .int .i64 g2, .slice A2 r1.length c2]) (by kernel_rfl) (by kernel_rfl) (fun _ _ hS => (hS.at_ 1 rfl).cellsAt 0 (by rfl))) <| obs_cons (ob_load Agg22 (fun _ _ hS => (hS.at_ 1 rfl).cell rfl)) <| obs_nil
    refine any_step [3] (by kernel_rfl) rfl ?_
    refine (all_cons ?_ all_nil)
    · refine any_op (listed' := #[true, true, true, true, false, false, false]) (by kernel_rfl) (by kernel_rfl) ?_
      refine at_run 1 [⟨false, [], callFunc 40 #[.slice A2 r1.length c2, .int .i64 0], .int .i64 r2⟩] [some (.int .i64 r2)] [7, 10] [pl 7 (.agg #[.int .i64 g1, .int .i64 g2, .slice A2 r1.length c2]), pl 10 (.int .i64 r2)] hF hS (by kernel_rfl) (by kernel_rfl) ?_ (fun a w hF hS => ?_)
      · exact obs_cons (ob_call Try.func40 (by kernel_rfl) rfl (fun _ _ hS => slices_Index_w hr2 hS (fun _ hS => (hS.at_ 0 rfl).rd) ((hS.at_ 0 rfl).cap1) rfl)) <| obs_nil
      refine any_fin rfl hS ?_
      refine any_step [4] (by kernel_rfl) rfl ?_
      refine (all_cons ?_ all_nil)
      · refine any_op (listed' := #[true, true, true, true, true, false, false]) (by kernel_rfl) (by kernel_rfl) ?_
        refine at_runW 1 [] [] [11] [pl 11 (.agg #[.int .i64 g1, .int .i64 g2, .slice A2 r1.length c2, .int .i64 r2])] hF hS (by kernel_rfl) (by kernel_rfl) ?_ (fun a hF => ?_)
        · exact obs_nil
        refine any_finI rfl (fun h => h) ?_
        refine any_step [5] (by kernel_rfl) rfl ?_
        refine (all_cons ?_ all_nil)
        · refine any_op (listed' := #[true, true, true, true, true, true, false]) (by kernel_rfl) (by kernel_rfl) ?_
          refine at_do (d := 12) (s := vS (Instr.box 103 (.agg #[.int .i64 g1, .int .i64 g2, .slice A2 r1.length c2, .int .i64 r2]))) (v := .pointer (some ⟨w.heap.size, 0, none⟩)) (w' := w.alloc (.cells #[.int .i64 g1, .int .i64 g2, .slice A2 r1.length c2, .int .i64 r2] 103)) hF (by kernel_rfl) (by kernel_rfl) (by kernel_rfl) (fun a hF => ?_)
          have hS : Sep w0 B (w.alloc (.cells #[.int .i64 g1, .int .i64 g2, .slice A2 r1.length c2, .int .i64 r2] 103)) (blk w.heap.size 103 #[.int .i64 g1, .int .i64 g2, .slice A2 r1.length c2, .int .i64 r2] :: (own 3 (.slice A2 r1.length c2) (vI r1) :: blk g4 32 #[.int .i64 g1, .int .i64 g2, .slice A2 r1.length c2] :: fs)) := hS.box 103 #[.int .i64 g1, .int .i64 g2, .slice A2 r1.length c2, .int .i64 r2]
          generalize w.heap.size = g5 at hF hS
          generalize w.alloc (.cells #[.int .i64 g1, .int .i64 g2, .slice A2 r1.length c2, .int .i64 r2] 103) = w at hS ⊢
          refine any_fin rfl (hS.pickN 3 [1, 2] (by decide)) ?_
          refine any_step [6] (by kernel_rfl) rfl ?_
          refine (all_cons ?_ all_nil)
          · refine any_op (listed' := #[true, true, true, true, true, true, true]) (by kernel_rfl) (by kernel_rfl) ?_
            refine at_runW 1 [] [] [2] [pl 2 (.pointer (some ⟨g5, 0, none⟩))] hF hS (by kernel_rfl) (by kernel_rfl) ?_ (fun a hF => ?_)
            · exact obs_nil
            refine any_finI rfl (fun h => h) ?_
            refine any_end (by kernel_rfl) ?_
            refine np_n ?_
            refine then_n ?_
            have hS := hS.pickN 3 [0, 1] (by decide)
            exact ⟨r2, g5, hF.weak [2] (by kernel_rfl), hS, hm⟩

noncomputable def slide_tray_from_J2  (t_Grid_W1 : Int) (x1 : Int) (y1 : Int) : Option Int :=
  some (w64 ((w64 (y1 * t_Grid_W1)) + x1))

noncomputable def slide_tray_from_J1  (t_Grid_W1 : Int) (t_Grid_H1 : Int) (x1 : Int) (y1 : Int) : Option Int :=
  if ((((decide (x1 < 0)) || (decide (t_Grid_W1 ≤ x1))) || (decide (y1 < 0))) || (decide (t_Grid_H1 ≤ y1))) then (some (-1)) else ((slide_tray_from_J2 t_Grid_W1 x1 y1))

noncomputable def slide_tray_from_m  (t_Grid_W1 : Int) (t_Grid_H1 : Int) (t_Grid_Cells1 : List Int) (t_gap1 : Int) (dir1 : Int) : Option Int :=
  asrt (t_Grid_W1 ≠ (0 : Int)) <| asrt (t_Grid_W1 ≠ (0 : Int)) <| if (dir1 == 0) then ((slide_tray_from_J1 t_Grid_W1 t_Grid_H1) (Int.tmod t_gap1 t_Grid_W1) (w64 ((w64 (Int.tdiv t_gap1 t_Grid_W1)) + 1))) else (if (dir1 == 1) then ((slide_tray_from_J1 t_Grid_W1 t_Grid_H1) (w64 ((Int.tmod t_gap1 t_Grid_W1) - 1)) (w64 (Int.tdiv t_gap1 t_Grid_W1))) else (if (dir1 == 2) then ((slide_tray_from_J1 t_Grid_W1 t_Grid_H1) (Int.tmod t_gap1 t_Grid_W1) (w64 ((w64 (Int.tdiv t_gap1 t_Grid_W1)) - 1))) else (if (dir1 == 3) then ((slide_tray_from_J1 t_Grid_W1 t_Grid_H1) (w64 ((Int.tmod t_gap1 t_Grid_W1) + 1)) (w64 (Int.tdiv t_gap1 t_Grid_W1))) else (some (-1)))))

set_option maxRecDepth 100000 in
set_option maxHeartbeats 4000000 in
theorem slide_tray_from_w  {g1 : Nat} {t_Grid_W1 : Int} {t_Grid_H1 : Int} {A1 : Option Addr} {c1 : Nat} {n1 : Nat} {t_Grid_Cells1 : List Int} {t_gap1 : Int} {dir1 : Int} {r : Int} {w0 w : World} {B : Nat} {fs : List HP} (hm : slide_tray_from_m t_Grid_W1 t_Grid_H1 t_Grid_Cells1 t_gap1 dir1 = some r) (hS : Sep w0 B w (blk g1 103 #[.int .i64 t_Grid_W1, .int .i64 t_Grid_H1, .slice A1 n1 c1, .int .i64 t_gap1] :: own 3 (.slice A1 n1 c1) (vI t_Grid_Cells1) :: fs)) :
    Calls Try.prog 100 #[.pointer (some ⟨g1, 0, none⟩), .int .i64 dir1] w fun e w' => e = .returned (.int .i64 r) ∧ Sep w0 B w' (blk g1 103 #[.int .i64 t_Grid_W1, .int .i64 t_Grid_H1, .slice A1 n1 c1, .int .i64 t_gap1] :: own 3 (.slice A1 n1 c1) (vI t_Grid_Cells1) :: fs) := by
  obtain ⟨i3, hi3, hz3, hs3, hb3⟩ := info_parts Info3
  obtain rfl := (hS.at_ 1 rfl).len1
  unfold slide_tray_from_m at hm
  replace hm := start_b hm
  refine enter (l := [.pointer (some ⟨g1, 0, none⟩), .int .i64 dir1]) (n := 77) Try.func100 rfl rfl (by simp) (fun a hF => ?_)
  refine reg [] [] [0, 1] [pl 0 (.pointer (some ⟨g1, 0, none⟩)), pl 1 (.int .i64 dir1)] hF hS Fol (by kernel_rfl) (by kernel_rfl) (by kernel_rfl) ?_ (fun a w hF hS => ?_)
  · exact obs_nil
  obtain ⟨hp1, hm⟩ := asrt_b hm
  obtain ⟨hp2, hm⟩ := asrt_b hm
  refine reg [⟨false, [], vS (Instr.loadAt 3 (.pointer (some ⟨g1, 3, none⟩))), .int .i64 t_gap1⟩, ⟨false, [], vS (Instr.loadAt 3 (.pointer (some ⟨g1, 0, none⟩))), .int .i64 t_Grid_W1⟩, ⟨true, [], vS (Op.intDiv .rem .i64 t_gap1 t_Grid_W1), .int .i64 (Int.tmod t_gap1 t_Grid_W1)⟩, ⟨false, [], vS (Instr.loadAt 3 (.pointer (some ⟨g1, 3, none⟩))), .int .i64 t_gap1⟩, ⟨false, [], vS (Instr.loadAt 3 (.pointer (some ⟨g1, 0, none⟩))), .int .i64 t_Grid_W1⟩, ⟨true, [], vS (Op.intDiv .quo .i64 t_gap1 t_Grid_W1), .int .i64 (w64 (Int.tdiv t_gap1 t_Grid_W1))⟩] [none, none, none, some (.int .i64 t_gap1), none, none, none, none, some (.int .i64 t_Grid_W1), some (.int .i64 (Int.tmod t_gap1 t_Grid_W1)), none, none, none, some (.int .i64 t_gap1), none, none, none, none, some (.int .i64 t_Grid_W1), some (.int .i64 (w64 (Int.tdiv t_gap1 t_Grid_W1))), none, none] [0, 1, 5, 6] [pl 0 (.pointer (some ⟨g1, 0, none⟩)), pl 1 (.int .i64 dir1), pl 5 (.int .i64 (Int.tmod t_gap1 t_Grid_W1)), pl 6 (.int .i64 (w64 (Int.tdiv t_gap1 t_Grid_W1)))] hF hS Fol (by kernel_rfl) (by kernel_rfl) (by kernel_rfl) ?_ (fun a w hF hS => ?_)
  · exact obs_cons (ob_load Agg3 (fun _ _ hS => (hS.at_ 0 rfl).cell rfl)) <| obs_cons (ob_load Agg3 (fun _ _ hS => (hS.at_ 0 rfl).cell rfl)) <| obs_cons (ob_rem rfl (fun _ => hp1)) <| obs_cons (ob_load Agg3 (fun _ _ hS => (hS.at_ 0 rfl).cell rfl)) <| obs_cons (ob_load Agg3 (fun _ _ hS => (hS.at_ 0 rfl).cell rfl)) <| obs_cons (ob_quo rfl (fun _ => hp2)) <| obs_nil
  refine seq_cut (fun a w => ∃ (x1 : Int) (y1 : Int), Fr 77 [pl 0 (.pointer (some ⟨g1, 0, none⟩)), pl 5 (.int .i64 x1), pl 6 (.int .i64 y1)] a ∧ Sep w0 B w (blk g1 103 #[.int .i64 t_Grid_W1, .int .i64 t_Grid_H1, .slice A1 t_Grid_Cells1.length c1, .int .i64 t_gap1] :: own 3 (.slice A1 t_Grid_Cells1.length c1) (vI t_Grid_Cells1) :: fs) ∧ ((slide_tray_from_J1 t_Grid_W1 t_Grid_H1) x1 y1).bind some = some r) ?_ ?_
  · rintro a w ⟨x1, y1, hF, hS, hm⟩
    unfold slide_tray_from_J1 at hm
    refine seq_cut (fun a w => Fr 77 [pl 0 (.pointer (some ⟨g1, 0, none⟩)), pl 5 (.int .i64 x1), pl 6 (.int .i64 y1)] a ∧ Sep w0 B w (blk g1 103 #[.int .i64 t_Grid_W1, .int .i64 t_Grid_H1, .slice A1 t_Grid_Cells1.length c1, .int .i64 t_gap1] :: own 3 (.slice A1 t_Grid_Cells1.length c1) (vI t_Grid_Cells1) :: fs) ∧ ((slide_tray_from_J2 t_Grid_W1 x1 y1)).bind some = some r) ?_ ?_
    · rintro a w ⟨hF, hS, hm⟩
      unfold slide_tray_from_J2 at hm
      refine reg [⟨false, [], vS (Instr.loadAt 3 (.pointer (some ⟨g1, 0, none⟩))), .int .i64 t_Grid_W1⟩] [none, none, none, none, none, some (.int .i64 t_Grid_W1), none, none, none, none] [4] [pl 4 (.int .i64 (w64 ((w64 (y1 * t_Grid_W1)) + x1)))] hF hS Fol (by kernel_rfl) (by kernel_rfl) (by kernel_rfl) ?_ (fun a w hF hS => ?_)
      · exact obs_cons (ob_load Agg3 (fun _ _ hS => (hS.at_ 0 rfl).cell rfl)) <| obs_nil
      refine wpIn_ret ?_
      have hm : some (w64 ((w64 (y1 * t_Grid_W1)) + x1)) = some r := hm
      obtain rfl := Option.some.inj hm
      exact retV (rs := [.tmp 4]) (vs := [.int .i64 (w64 ((w64 (y1 * t_Grid_W1)) + x1))]) hF rfl (rv_t (by kernel_rfl) <| rv_nil) rfl ⟨rfl, hS⟩
    · refine reg [⟨false, [(decide (x1 < 0), false)], vS (Instr.loadAt 3 (.pointer (some ⟨g1, 0, none⟩))), .int .i64 t_Grid_W1⟩, ⟨false, [(((decide (x1 < 0)) || (decide (t_Grid_W1 ≤ x1))) || (decide (y1 < 0)), false)], vS (Instr.loadAt 3 (.pointer (some ⟨g1, 1, none⟩))), .int .i64 t_Grid_H1⟩] [none, none, none, none, none, none, none, none, some (.int .i64 t_Grid_W1), none, none, none, none, none, none, none, none, none, none, none, none, some (.int .i64 t_Grid_H1), none, none] [0, 5, 6, 67] [pl 0 (.pointer (some ⟨g1, 0, none⟩)), pl 5 (.int .i64 x1), pl 6 (.int .i64 y1), pl 67 (.bool ((((decide (x1 < 0)) || (decide (t_Grid_W1 ≤ x1))) || (decide (y1 < 0))) || (decide (t_Grid_H1 ≤ y1))))] hF hS Fol (by kernel_rfl) (by kernel_rfl) (by kernel_rfl) ?_ (fun a w hF hS => ?_)
      · exact obs_cons (ob_load Agg3 (fun _ _ hS => (hS.at_ 0 rfl).cell rfl)) <| obs_cons (ob_load Agg3 (fun _ _ hS => (hS.at_ 0 rfl).cell rfl)) <| obs_nil
      refine cond_ev (t := 67) (b := (((decide (x1 < 0)) || (decide (t_Grid_W1 ≤ x1))) || (decide (y1 < 0))) || (decide (t_Grid_H1 ≤ y1))) hF (by kernel_rfl) (fun hb => ?_) (fun hb => ?_)
      · replace hm := if_t hm hb
        refine reg [] [] [4] [pl 4 (.int .i64 (-1))] hF hS Fol (by kernel_rfl) (by kernel_rfl) (by kernel_rfl) ?_ (fun a w hF hS => ?_)
        · exact obs_nil
        refine wpIn_ret ?_
        refine then_r ?_
        have hm : some (-1) = some r := hm
        obtain rfl := Option.some.inj hm
        exact retV (rs := [.tmp 4]) (vs := [.int .i64 (-1)]) hF rfl (rv_t (by kernel_rfl) <| rv_nil) rfl ⟨rfl, hS⟩
      · replace hm := if_f hm hb
        refine wpIn_skip ?_
        refine then_n ?_
        exact ⟨hF.weak [0, 5, 6] (by kernel_rfl), hS, hm⟩
  · refine reg [] [] [0, 5, 6, 27] [pl 0 (.pointer (some ⟨g1, 0, none⟩)), pl 5 (.int .i64 (Int.tmod t_gap1 t_Grid_W1)), pl 6 (.int .i64 (w64 (Int.tdiv t_gap1 t_Grid_W1))), pl 27 (.int .i64 dir1)] hF hS Fol (by kernel_rfl) (by kernel_rfl) (by kernel_rfl) ?_ (fun a w hF hS => ?_)
    · exact obs_nil
    refine wpIn_block ?_
    refine reg [] [] [0, 5, 6, 27, 28] [pl 0 (.pointer (some ⟨g1, 0, none⟩)), pl 5 (.int .i64 (Int.tmod t_gap1 t_Grid_W1)), pl 6 (.int .i64 (w64 (Int.tdiv t_gap1 t_Grid_W1))), pl 27 (.int .i64 dir1), pl 28 (.bool (dir1 == 0))] hF hS Fol (by kernel_rfl) (by kernel_rfl) (by kernel_rfl) ?_ (fun a w hF hS => ?_)
    · exact obs_nil
    refine cond_ev (t := 28) (b := (dir1 == 0)) hF (by kernel_rfl) (fun hb => ?_) (fun hb => ?_)
    · replace hm := if_t hm hb
      refine reg1 [] [] [0, 5, 6] [pl 0 (.pointer (some ⟨g1, 0, none⟩)), pl 5 (.int .i64 (Int.tmod t_gap1 t_Grid_W1)), pl 6 (.int .i64 (w64 ((w64 (Int.tdiv t_gap1 t_Grid_W1)) + 1)))] hF hS Fol (by kernel_rfl) (by kernel_rfl) (by kernel_rfl) ?_ (fun a w hF hS => ?_)
      · exact obs_nil
      refine block_n ?_
      refine then_n ?_
      exact ⟨(Int.tmod t_gap1 t_Grid_W1), (w64 ((w64 (Int.tdiv t_gap1 t_Grid_W1)) + 1)), hF.weak [0, 5, 6] (by kernel_rfl), hS, hm⟩
    · replace hm := if_f hm hb
      refine reg [] [] [0, 5, 6, 27, 32] [pl 0 (.pointer (some ⟨g1, 0, none⟩)), pl 5 (.int .i64 (Int.tmod t_gap1 t_Grid_W1)), pl 6 (.int .i64 (w64 (Int.tdiv t_gap1 t_Grid_W1))), pl 27 (.int .i64 dir1), pl 32 (.bool (dir1 == 1))] hF hS Fol (by kernel_rfl) (by kernel_rfl) (by kernel_rfl) ?_ (fun a w hF hS => ?_)
      · exact obs_nil
      refine cond_ev (t := 32) (b := (dir1 == 1)) hF (by kernel_rfl) (fun hb => ?_) (fun hb => ?_)
      · replace hm := if_t hm hb
        refine reg1 [] [] [0, 5, 6] [pl 0 (.pointer (some ⟨g1, 0, none⟩)), pl 5 (.int .i64 (w64 ((Int.tmod t_gap1 t_Grid_W1) - 1))), pl 6 (.int .i64 (w64 (Int.tdiv t_gap1 t_Grid_W1)))] hF hS Fol (by kernel_rfl) (by kernel_rfl) (by kernel_rfl) ?_ (fun a w hF hS => ?_)
        · exact obs_nil
        refine block_n ?_
        refine then_n ?_
        exact ⟨(w64 ((Int.tmod t_gap1 t_Grid_W1) - 1)), (w64 (Int.tdiv t_gap1 t_Grid_W1)), hF.weak [0, 5, 6] (by kernel_rfl), hS, hm⟩
      · replace hm := if_f hm hb
        refine reg [] [] [0, 5, 6, 27, 36] [pl 0 (.pointer (some ⟨g1, 0, none⟩)), pl 5 (.int .i64 (Int.tmod t_gap1 t_Grid_W1)), pl 6 (.int .i64 (w64 (Int.tdiv t_gap1 t_Grid_W1))), pl 27 (.int .i64 dir1), pl 36 (.bool (dir1 == 2))] hF hS Fol (by kernel_rfl) (by kernel_rfl) (by kernel_rfl) ?_ (fun a w hF hS => ?_)
        · exact obs_nil
        refine cond_ev (t := 36) (b := (dir1 == 2)) hF (by kernel_rfl) (fun hb => ?_) (fun hb => ?_)
        · replace hm := if_t hm hb
          refine reg1 [] [] [0, 5, 6] [pl 0 (.pointer (some ⟨g1, 0, none⟩)), pl 5 (.int .i64 (Int.tmod t_gap1 t_Grid_W1)), pl 6 (.int .i64 (w64 ((w64 (Int.tdiv t_gap1 t_Grid_W1)) - 1)))] hF hS Fol (by kernel_rfl) (by kernel_rfl) (by kernel_rfl) ?_ (fun a w hF hS => ?_)
          · exact obs_nil
          refine block_n ?_
          refine then_n ?_
          exact ⟨(Int.tmod t_gap1 t_Grid_W1), (w64 ((w64 (Int.tdiv t_gap1 t_Grid_W1)) - 1)), hF.weak [0, 5, 6] (by kernel_rfl), hS, hm⟩
        · replace hm := if_f hm hb
          refine reg [] [] [0, 5, 6, 40] [pl 0 (.pointer (some ⟨g1, 0, none⟩)), pl 5 (.int .i64 (Int.tmod t_gap1 t_Grid_W1)), pl 6 (.int .i64 (w64 (Int.tdiv t_gap1 t_Grid_W1))), pl 40 (.bool (dir1 == 3))] hF hS Fol (by kernel_rfl) (by kernel_rfl) (by kernel_rfl) ?_ (fun a w hF hS => ?_)
          · exact obs_nil
          refine cond_ev (t := 40) (b := (dir1 == 3)) hF (by kernel_rfl) (fun hb => ?_) (fun hb => ?_)
          · replace hm := if_t hm hb
            refine reg1 [] [] [0, 5, 6] [pl 0 (.pointer (some ⟨g1, 0, none⟩)), pl 5 (.int .i64 (w64 ((Int.tmod t_gap1 t_Grid_W1) + 1))), pl 6 (.int .i64 (w64 (Int.tdiv t_gap1 t_Grid_W1)))] hF hS Fol (by kernel_rfl) (by kernel_rfl) (by kernel_rfl) ?_ (fun a w hF hS => ?_)
            · exact obs_nil
            refine block_n ?_
            refine then_n ?_
            exact ⟨(w64 ((Int.tmod t_gap1 t_Grid_W1) + 1)), (w64 (Int.tdiv t_gap1 t_Grid_W1)), hF.weak [0, 5, 6] (by kernel_rfl), hS, hm⟩
          · replace hm := if_f hm hb
            refine reg [] [] [4] [pl 4 (.int .i64 (-1))] hF hS Fol (by kernel_rfl) (by kernel_rfl) (by kernel_rfl) ?_ (fun a w hF hS => ?_)
            · exact obs_nil
            refine wpIn_ret ?_
            refine block_r (then_r ?_)
            have hm : some (-1) = some r := hm
            obtain rfl := Option.some.inj hm
            exact retV (rs := [.tmp 4]) (vs := [.int .i64 (-1)]) hF rfl (rv_t (by kernel_rfl) <| rv_nil) rfl ⟨rfl, hS⟩

noncomputable def slide_tray_move_J1  (t_Grid_Cells1 : List Int) (t_gap1 : Int) (r1 : Int) : Option (Bool × List Int × Int) :=
  asrt (0 ≤ r1 ∧ r1 < (t_Grid_Cells1.length : Int)) <| asrt (0 ≤ t_gap1 ∧ t_gap1 < (t_Grid_Cells1.length : Int)) <| asrt (0 ≤ r1 ∧ r1 < (t_Grid_Cells1.length : Int)) <| some (true, ((t_Grid_Cells1.set (Int.toNat t_gap1) (geti t_Grid_Cells1 r1)).set (Int.toNat r1) 0), r1)

noncomputable def slide_tray_move_m  (t_Grid_W1 : Int) (t_Grid_H1 : Int) (t_Grid_Cells1 : List Int) (t_gap1 : Int) (dir1 : Int) : Option (Bool × List Int × Int) :=
  (slide_tray_from_m t_Grid_W1 t_Grid_H1 t_Grid_Cells1 t_gap1 dir1).bind fun r1 => if (decide (r1 < 0)) then (some (false, t_Grid_Cells1, t_gap1)) else ((slide_tray_move_J1 t_Grid_Cells1 t_gap1 r1))

set_option maxRecDepth 100000 in
set_option maxHeartbeats 4000000 in
theorem slide_tray_move_w  {g1 : Nat} {t_Grid_W1 : Int} {t_Grid_H1 : Int} {A1 : Option Addr} {c1 : Nat} {n1 : Nat} {t_Grid_Cells1 : List Int} {t_gap1 : Int} {dir1 : Int} {r : (Bool × List Int × Int)} {w0 w : World} {B : Nat} {fs : List HP} (hm : slide_tray_move_m t_Grid_W1 t_Grid_H1 t_Grid_Cells1 t_gap1 dir1 = some r) (hS : Sep w0 B w (blk g1 103 #[.int .i64 t_Grid_W1, .int .i64 t_Grid_H1, .slice A1 n1 c1, .int .i64 t_gap1] :: own 3 (.slice A1 n1 c1) (vI t_Grid_Cells1) :: fs)) :
    Calls Try.prog 57 #[.pointer (some ⟨g1, 0, none⟩), .int .i64 dir1] w fun e w' => ∃ v, e = .returned v ∧ v = .bool r.1 ∧ Sep w0 B w' (blk g1 103 #[.int .i64 t_Grid_W1, .int .i64 t_Grid_H1, .slice A1 n1 c1, .int .i64 r.2.2] :: own 3 (.slice A1 n1 c1) (vI r.2.1) :: fs) := by
  obtain ⟨i3, hi3, hz3, hs3, hb3⟩ := info_parts Info3
  obtain rfl := (hS.at_ 1 rfl).len1
  unfold slide_tray_move_m at hm
  replace hm := start_b hm
  refine enter (l := [.pointer (some ⟨g1, 0, none⟩), .int .i64 dir1]) (n := 40) Try.func57 rfl rfl (by simp) (fun a hF => ?_)
  refine reg [] [] [0, 1] [pl 0 (.pointer (some ⟨g1, 0, none⟩)), pl 1 (.int .i64 dir1)] hF hS Fol (by kernel_rfl) (by kernel_rfl) (by kernel_rfl) ?_ (fun a w hF hS => ?_)
  · exact obs_nil
  obtain ⟨r1, hr1, hm⟩ := call_b hm
  refine reg [⟨false, [], callFunc 100 #[.pointer (some ⟨g1, 0, none⟩), .int .i64 dir1], .int .i64 r1⟩] [none, none, some (.int .i64 r1), none] [0, 5] [pl 0 (.pointer (some ⟨g1, 0, none⟩)), pl 5 (.int .i64 r1)] hF hS Fol (by kernel_rfl) (by kernel_rfl) (by kernel_rfl) ?_ (fun a w hF hS => ?_)
  · exact obs_cons (ob_call Try.func100 (by kernel_rfl) rfl (fun _ _ hS => slide_tray_from_w hr1 hS )) <| obs_nil
  refine seq_cut (fun a w => Fr 40 [pl 0 (.pointer (some ⟨g1, 0, none⟩)), pl 5 (.int .i64 r1)] a ∧ Sep w0 B w (blk g1 103 #[.int .i64 t_Grid_W1, .int .i64 t_Grid_H1, .slice A1 t_Grid_Cells1.length c1, .int .i64 t_gap1] :: own 3 (.slice A1 t_Grid_Cells1.length c1) (vI t_Grid_Cells1) :: fs) ∧ ((slide_tray_move_J1 t_Grid_Cells1 t_gap1 r1)).bind some = some r) ?_ ?_
  · rintro a w ⟨hF, hS, hm⟩
    unfold slide_tray_move_J1 at hm
    refine wpIn_seq ?_
    obtain ⟨hp1, hm⟩ := asrt_b hm
    obtain ⟨hp2, hm⟩ := asrt_b hm
    obtain ⟨hp3, hm⟩ := asrt_b hm
    refine regMix4 [0, 1, 2, 3, 4, 5, 6, 7, 8, 9, 10, 11, 12, 13, 14, 15, 16, 17, 18, 19, 20, 21, 22, 23] [24, 25, 26] [⟨false, [], vS (Instr.loadAt 22 (.pointer (some ⟨g1, 2, none⟩))), .slice A1 t_Grid_Cells1.length c1⟩, ⟨false, [], vS (Instr.loadAt 3 (.pointer (some ⟨g1, 3, none⟩))), .int .i64 t_gap1⟩, ⟨false, [], vS (Instr.loadAt 22 (.pointer (some ⟨g1, 2, none⟩))), .slice A1 t_Grid_Cells1.length c1⟩, ⟨false, [], vS (Instr.loadAt 22 (.pointer (some ⟨g1, 2, none⟩))), .slice A1 t_Grid_Cells1.length c1⟩, ⟨true, [], vS (Instr.indexAt 22 (.slice A1 t_Grid_Cells1.length c1) (.int .i64 r1)), .pointer (some (sAddr A1 r1))⟩, ⟨false, [], vS (Instr.loadAt 3 (.pointer (some (sAddr A1 r1)))), .int .i64 (geti t_Grid_Cells1 r1)⟩, ⟨true, [], vS (Instr.indexAt 22 (.slice A1 t_Grid_Cells1.length c1) (.int .i64 t_gap1)), .pointer (some (sAddr A1 t_gap1))⟩] [none, none, none, none, some (.slice A1 t_Grid_Cells1.length c1), none, none, none, some (.int .i64 t_gap1), none, none, none, none, some (.slice A1 t_Grid_Cells1.length c1), none, none, none, none, none, some (.slice A1 t_Grid_Cells1.length c1), none, some (.pointer (some (sAddr A1 r1))), some (.int .i64 (geti t_Grid_Cells1 r1)), some (.pointer (some (sAddr A1 t_gap1)))] [0, 5, 24, 25, 33, 34] [pl 0 (.pointer (some ⟨g1, 0, none⟩)), pl 5 (.int .i64 r1), pl 24 (.slice A1 t_Grid_Cells1.length c1), pl 25 (.int .i64 r1), pl 33 (.int .i64 (geti t_Grid_Cells1 r1)), pl 34 (.pointer (some (sAddr A1 t_gap1)))] hF hS Fol (by kernel_rfl) (by kernel_rfl) (by kernel_rfl) (by kernel_rfl) (by kernel_rfl) ?_ (fun a w hF hS => ?_)
    · exact obs_cons (ob_load Agg22 (fun _ _ hS => (hS.at_ 0 rfl).cell rfl)) <| obs_cons (ob_load Agg3 (fun _ _ hS => (hS.at_ 0 rfl).cell rfl)) <| obs_cons (ob_load Agg22 (fun _ _ hS => (hS.at_ 0 rfl).cell rfl)) <| obs_cons (ob_load Agg22 (fun _ _ hS => (hS.at_ 0 rfl).cell rfl)) <| obs_cons (ob_ix1 (f := (Value.int .i64)) (m := t_Grid_Cells1) Und22 hi3 hs3 (hS.at_ 1 rfl).rd rfl (fun _ => hp1)) <| obs_cons (ob_get1 (n := t_Grid_Cells1.length) (m := t_Grid_Cells1) (Value.int .i64) (0 : Int) Agg3 (fun _ hS => ⟨_, (hS.at_ 1 rfl).rd⟩) (fun _ hS => rfl) (fun _ => hp1)) <| obs_cons (ob_ix1 (f := (Value.int .i64)) (m := t_Grid_Cells1) Und22 hi3 hs3 (hS.at_ 1 rfl).rd rfl (fun _ => hp2)) <| obs_nil
    obtain ⟨w, hrun, hS⟩ := run_set1 (P := Try.prog) (t := 3) (x := (geti t_Grid_Cells1 r1)) (Value.int .i64) (hS.at_ 1 rfl) hi3 hs3 rfl rfl hp2
    refine at_skip hF (by kernel_rfl) hrun ?_
    have hS : Sep w0 B w (blk g1 103 #[.int .i64 t_Grid_W1, .int .i64 t_Grid_H1, .slice A1 t_Grid_Cells1.length c1, .int .i64 t_gap1] :: own 3 (.slice A1 t_Grid_Cells1.length c1) (vI (t_Grid_Cells1.set (Int.toNat t_gap1) (geti t_Grid_Cells1 r1))) :: fs) := hS
    refine at_run 1 [⟨true, [], vS (Instr.indexAt 22 (.slice A1 t_Grid_Cells1.length c1) (.int .i64 r1)), .pointer (some (sAddr A1 r1))⟩] [some (.pointer (some (sAddr A1 r1)))] [0, 5, 35] [pl 0 (.pointer (some ⟨g1, 0, none⟩)), pl 5 (.int .i64 r1), pl 35 (.pointer (some (sAddr A1 r1)))] hF hS (by kernel_rfl) (by kernel_rfl) ?_ (fun a w hF hS => ?_)
    · exact obs_cons (ob_ix1 (f := (Value.int .i64)) (m := (t_Grid_Cells1.set (Int.toNat t_gap1) (geti t_Grid_Cells1 r1))) Und22 hi3 hs3 (hS.at_ 1 rfl).rd ((hS.at_ 1 rfl).len1) (fun _ => hp3)) <| obs_nil
    obtain ⟨w, hrun, hS⟩ := run_set1 (P := Try.prog) (t := 3) (x := 0) (Value.int .i64) (hS.at_ 1 rfl) hi3 hs3 rfl rfl hp3
    refine at_skip hF (by kernel_rfl) hrun ?_
    have hS : Sep w0 B w (blk g1 103 #[.int .i64 t_Grid_W1, .int .i64 t_Grid_H1, .slice A1 t_Grid_Cells1.length c1, .int .i64 t_gap1] :: own 3 (.slice A1 t_Grid_Cells1.length c1) (vI ((t_Grid_Cells1.set (Int.toNat t_gap1) (geti t_Grid_Cells1 r1)).set (Int.toNat r1) 0)) :: fs) := hS
    refine at_end [0, 5] [pl 0 (.pointer (some ⟨g1, 0, none⟩)), pl 5 (.int .i64 r1)] hF rfl (by kernel_rfl) (fun hF => ?_)
    refine np_n ?_
    refine then_n ?_
    refine seqR ?_
    refine at_run 4 [] [] [37, 39] [pl 37 (.int .i64 r1), pl 39 (.pointer (some ⟨g1, 3, none⟩))] hF hS (by kernel_rfl) (by kernel_rfl) ?_ (fun a w hF hS => ?_)
    · exact obs_nil
    obtain ⟨w, hrun, hS⟩ := run_put (P := Try.prog) (t := 3) (u := .int .i64 r1) (i := 3) (hS.at_ 0 rfl) hi3 hs3 rfl (Nat.lt_of_lt_of_eq (Nat.lt_of_succ_le (Nat.le_of_ble_eq_true (by kernel_rfl))) rfl)
    refine at_skip hF (by kernel_rfl) hrun ?_
    have hS : Sep w0 B w (blk g1 103 #[.int .i64 t_Grid_W1, .int .i64 t_Grid_H1, .slice A1 t_Grid_Cells1.length c1, .int .i64 r1] :: own 3 (.slice A1 t_Grid_Cells1.length c1) (vI ((t_Grid_Cells1.set (Int.toNat t_gap1) (geti t_Grid_Cells1 r1)).set (Int.toNat r1) 0)) :: fs) := hS
    refine at_end [] [] hF rfl (by kernel_rfl) (fun hF => ?_)
    refine then_n ?_
    refine reg [] [] [4] [pl 4 (.bool true)] hF hS Fol (by kernel_rfl) (by kernel_rfl) (by kernel_rfl) ?_ (fun a w hF hS => ?_)
    · exact obs_nil
    refine wpIn_ret ?_
    have hm : some (true, ((t_Grid_Cells1.set (Int.toNat t_gap1) (geti t_Grid_Cells1 r1)).set (Int.toNat r1) 0), r1) = some r := hm
    obtain rfl := Option.some.inj hm
    exact retV (rs := [.tmp 4]) (vs := [.bool true]) hF rfl (rv_t (by kernel_rfl) <| rv_nil) rfl ⟨_, rfl, rfl, hS⟩
  · refine reg [] [] [0, 5, 10] [pl 0 (.pointer (some ⟨g1, 0, none⟩)), pl 5 (.int .i64 r1), pl 10 (.bool (decide (r1 < 0)))] hF hS Fol (by kernel_rfl) (by kernel_rfl) (by kernel_rfl) ?_ (fun a w hF hS => ?_)
    · exact obs_nil
    refine cond_ev (t := 10) (b := decide (r1 < 0)) hF (by kernel_rfl) (fun hb => ?_) (fun hb => ?_)
    · replace hm := if_t hm hb
      refine reg [] [] [4] [pl 4 (.bool false)] hF hS Fol (by kernel_rfl) (by kernel_rfl) (by kernel_rfl) ?_ (fun a w hF hS => ?_)
      · exact obs_nil
      refine wpIn_ret ?_
      refine then_r ?_
      have hm : some (false, t_Grid_Cells1, t_gap1) = some r := hm
      obtain rfl := Option.some.inj hm
      exact retV (rs := [.tmp 4]) (vs := [.bool false]) hF rfl (rv_t (by kernel_rfl) <| rv_nil) rfl ⟨_, rfl, rfl, hS⟩
    · replace hm := if_f hm hb
      refine wpIn_skip ?_
      refine then_n ?_
      exact ⟨hF.weak [0, 5] (by kernel_rfl), hS, hm⟩

noncomputable def slide_Home_1_J3  (came1 : List ((Int × Int × Int × Int × Int × Int) × Int)) (r2 : (Int × Int × List Int × Int)) (z1 : List Int) (t1 : List Int) (t2 : Int) : Option (St (List Int × List Int × Int) (List Int)) :=
  (slide_nameOf_m t1).bind fun r4 => (slide_tray_move_m r2.1 r2.2.1 t1 t2 (bXor (mget (0 : Int) (geti r4 0, geti r4 1, geti r4 2, geti r4 3, geti r4 4, geti r4 5) came1) 2)).bind fun r5 => asrt ((z1.length : Int) + 1 ≤ bigN) <| some (.next ((z1 ++ ([bXor (mget (0 : Int) (geti r4 0, geti r4 1, geti r4 2, geti r4 3, geti r4 4, geti r4 5) came1) 2] : List Int)), r5.2.1, r5.2.2))

noncomputable def slide_Home_1_J2  (p33 : List Int) : Option (Bool × List Int) :=
  some (false, p33)

noncomputable def slide_Home_1_K1  : (List Int) → Option (Bool × List Int) :=
  fun (x : (List Int)) => match x with | p33 => slide_Home_1_J2 p33

noncomputable def slide_Home_1_L1  (came1 : List ((Int × Int × Int × Int × Int × Int) × Int)) (r2 : (Int × Int × List Int × Int)) : (List Int × List Int × Int) → Option (St (List Int × List Int × Int) (List Int)) :=
  fun (x : (List Int × List Int × Int)) => match x with | (z1, t1, t2) => (slide_nameOf_m t1).bind fun r3 => if (decide ((0 : Int) ≤ (mget (0 : Int) (geti r3 0, geti r3 1, geti r3 2, geti r3 3, geti r3 4, geti r3 5) came1))) then ((slide_Home_1_J3 came1 r2 z1 t1 t2)) else (some (.done z1))

noncomputable def slide_Home_1_J1  (came1 : List ((Int × Int × Int × Int × Int × Int) × Int)) (p2_W1 : Int) (p2_H1 : Int) (p2_Cells1 : List Int) (p31 : List Int) : Option (Bool × List Int) :=
  (slide_newTray_m p2_W1 p2_H1 p2_Cells1).bind fun r2 => (loop (slide_Home_1_L1 came1 r2) (p31, r2.2.2.1, r2.2.2.2)).bind slide_Home_1_K1

noncomputable def slide_Home_1_m  (p01 : List (Int × Int × List Int × Int)) (came1 : List ((Int × Int × Int × Int × Int × Int) × Int)) (p2_W1 : Int) (p2_H1 : Int) (p2_Cells1 : List Int) (p31 : List Int) : Option (Bool × List Int) :=
  (slide_nameOf_m p2_Cells1).bind fun r1 => if (!(mhas (geti r1 0, geti r1 1, geti r1 2, geti r1 3, geti r1 4, geti r1 5) came1)) then (some (true, p31)) else ((slide_Home_1_J1 came1 p2_W1 p2_H1 p2_Cells1 p31))

set_option maxRecDepth 100000 in
set_option maxHeartbeats 4000000 in
theorem slide_Home_1_w  {A1 : Option Addr} {c1 : Nat} {n1 : Nat} {raw1 : List (Nat × Hd3)} {p01 : List (Int × Int × List Int × Int)} {pg1 : HP} {g1 : Nat} {came1 : List ((Int × Int × Int × Int × Int × Int) × Int)} {g2 : Nat} {p2_W1 : Int} {p2_H1 : Int} {A2 : Option Addr} {c2 : Nat} {n2 : Nat} {p2_Cells1 : List Int} {g3 : Nat} {A3 : Option Addr} {c3 : Nat} {n3 : Nat} {p31 : List Int} {r : (Bool × List Int)} {w0 w : World} {B : Nat} {fs : List HP} (hm : slide_Home_1_m p01 came1 p2_W1 p2_H1 p2_Cells1 p31 = some r) (hS : Sep w0 B w (pg1 :: mapH kf98 (Value.int .i64) g1 came1 :: blk g2 32 #[.int .i64 p2_W1, .int .i64 p2_H1, .slice A2 n2 c2] :: blk g3 22 #[.slice A3 n3 c3] :: own 3 (.slice A3 n3 c3) (vI p31) :: fs)) (hr_p01 : PoolE encP100 Rel100 pg1 A1 raw1 p01) (_hc_p01 : p01.length ≤ c1) (_hn_p01 : n1 = p01.length) (hr_p2_Cells1 : RdF w0 B fs A2 (vI p2_Cells1)) (_hc_p2_Cells1 : p2_Cells1.length ≤ c2) (_hn_p2_Cells1 : n2 = p2_Cells1.length) :
    Calls Try.prog 54 #[.slice A1 n1 c1, .map (some g1), .pointer (some ⟨g2, 0, none⟩), .pointer (some ⟨g3, 0, none⟩)] w fun e w' => ∃ v, e = .returned v ∧ ∃ (A4 : Option Addr) (c4 : Nat), v = .bool r.1 ∧ (PoolLe pg1 pg1) ∧ Sep w0 B w' (pg1 :: mapH kf98 (Value.int .i64) g1 came1 :: blk g2 32 #[.int .i64 p2_W1, .int .i64 p2_H1, .slice A2 n2 c2] :: blk g3 22 #[.slice A4 r.2.length c4] :: own 3 (.slice A4 r.2.length c4) (vI r.2) :: fs) := by
  obtain ⟨i3, hi3, hz3, hs3, hb3⟩ := info_parts Info3
  obtain ⟨i22, hi22, hz22, hs22, hb22⟩ := info_parts Info22
  obtain rfl := (hS.at_ 4 rfl).len1
  obtain rfl := _hn_p01
  obtain rfl := _hn_p2_Cells1
  unfold slide_Home_1_m at hm
  replace hm := start_b hm
  refine enter (l := [.slice A1 p01.length c1, .map (some g1), .pointer (some ⟨g2, 0, none⟩), .pointer (some ⟨g3, 0, none⟩)]) (n := 48) Try.func54 rfl rfl (by simp) (fun a hF => ?_)
  refine reg [] [] [1, 2, 3] [pl 1 (.map (some g1)), pl 2 (.pointer (some ⟨g2, 0, none⟩)), pl 3 (.pointer (some ⟨g3, 0, none⟩))] hF hS Fol (by kernel_rfl) (by kernel_rfl) (by kernel_rfl) ?_ (fun a w hF hS => ?_)
  · exact obs_nil
  refine seq_cut (fun a w => Fr 48 [pl 1 (.map (some g1)), pl 2 (.pointer (some ⟨g2, 0, none⟩)), pl 3 (.pointer (some ⟨g3, 0, none⟩))] a ∧ Sep w0 B w (mapH kf98 (Value.int .i64) g1 came1 :: blk g2 32 #[.int .i64 p2_W1, .int .i64 p2_H1, .slice A2 p2_Cells1.length c2] :: blk g3 22 #[.slice A3 p31.length c3] :: own 3 (.slice A3 p31.length c3) (vI p31) :: pg1 :: fs) ∧ ((slide_Home_1_J1 came1 p2_W1 p2_H1 p2_Cells1 p31)).bind some = some r) ?_ ?_
  · rintro a w ⟨hF, hS, hm⟩
    unfold slide_Home_1_J1 at hm
    refine seqR ?_
    obtain ⟨r2, hr2, hm⟩ := call_b hm
    refine at_run 1 [⟨false, [], vS (Instr.loadAt 32 (.pointer (some ⟨g2, 0, none⟩))), .agg #[.int .i64 p2_W1, .int .i64 p2_H1, .slice A2 p2_Cells1.length c2]⟩] [some (.agg #[.int .i64 p2_W1, .int .i64 p2_H1, .slice A2 p2_Cells1.length c2])] [1, 3, 21] [pl 1 (.map (some g1)), pl 3 (.pointer (some ⟨g3, 0, none⟩)), pl 21 (.agg #[.int .i64 p2_W1, .int .i64 p2_H1, .slice A2 p2_Cells1.length c2])] hF hS (by kernel_rfl) (by kernel_rfl) ?_ (fun a w hF hS => ?_)
    · exact obs_cons (ob_loadA (cs := #[.int .i64 p2_W1, .int .i64 p2_H1, .slice A2 p2_Cells1.length c2]) (by kernel_rfl) (by kernel_rfl) (fun _ _ hS => (hS.at_ 1 rfl).cellsAt 0 (by rfl))) <| obs_nil
    refine at_call (f := 56) (args := #[.agg #[.int .i64 p2_W1, .int .i64 p2_H1, .slice A2 p2_Cells1.length c2]]) (d := 22) hF (by kernel_rfl) (by kernel_rfl) Try.func56 (by kernel_rfl) rfl (slide_newTray_w hr2 hS (fun _ hS => (hr_p2_Cells1 _ (hS.dropN 5))) _hc_p2_Cells1 rfl) (fun v a w hR hF => ?_)
    clear hS
    obtain ⟨g4, A5, c5, rfl, hS⟩ := hR
    have hS : Sep w0 B w (blk g4 103 #[.int .i64 r2.1, .int .i64 r2.2.1, .slice A5 r2.2.2.1.length c5, .int .i64 r2.2.2.2] :: own 3 (.slice A5 r2.2.2.1.length c5) (vI r2.2.2.1) :: mapH kf98 (Value.int .i64) g1 came1 :: blk g2 32 #[.int .i64 p2_W1, .int .i64 p2_H1, .slice A2 p2_Cells1.length c2] :: blk g3 22 #[.slice A3 p31.length c3] :: own 3 (.slice A3 p31.length c3) (vI p31) :: pg1 :: fs) := hS
    refine at_run 1 [] [] [1, 3, 9] [pl 1 (.map (some g1)), pl 3 (.pointer (some ⟨g3, 0, none⟩)), pl 9 (.pointer (some ⟨g4, 0, none⟩))] hF hS (by kernel_rfl) (by kernel_rfl) ?_ (fun a w hF hS => ?_)
    · exact obs_nil
    refine at_end [1, 3, 9] [pl 1 (.map (some g1)), pl 3 (.pointer (some ⟨g3, 0, none⟩)), pl 9 (.pointer (some ⟨g4, 0, none⟩))] hF rfl (by kernel_rfl) (fun hF => ?_)
    refine then_n ?_
    refine seq_cut (fun a w => ∃ (p33 : List Int) (A7 : Option Addr) (c7 : Nat), Fr 48 [] a ∧ Sep w0 B w (pg1 :: mapH kf98 (Value.int .i64) g1 came1 :: blk g2 32 #[.int .i64 p2_W1, .int .i64 p2_H1, .slice A2 p2_Cells1.length c2] :: blk g3 22 #[.slice A7 p33.length c7] :: own 3 (.slice A7 p33.length c7) (vI p33) :: fs) ∧ (slide_Home_1_J2 p33).bind some = some r) ?_ ?_
    · rintro a w ⟨p33, A7, c7, hF, hS, hm⟩
      unfold slide_Home_1_J2 at hm
      refine reg [] [] [6] [pl 6 (.bool false)] hF hS Fol (by kernel_rfl) (by kernel_rfl) (by kernel_rfl) ?_ (fun a w hF hS => ?_)
      · exact obs_nil
      refine wpIn_ret ?_
      have hm : some (false, p33) = some r := hm
      obtain rfl := Option.some.inj hm
      exact retV (rs := [.tmp 6]) (vs := [.bool false]) hF rfl (rv_t (by kernel_rfl) <| rv_nil) rfl ⟨_, rfl, A7, c7, rfl, (PoolLe.refl _), hS⟩
    · refine wpIn_block ?_
      have hS := hS.pickN 7 [2, 4, 5, 0, 1, 6, 3] (by decide)
      refine wp_loop_model (S := (List Int × List Int × Int)) (R := (List Int)) (slide_Home_1_L1 came1 r2) (fun x => (slide_Home_1_K1 x).bind some) r (fun (x : (List Int × List Int × Int)) a w => ∃ (A6 : Option Addr) (c6 : Nat), Fr 48 [pl 1 (.map (some g1)), pl 3 (.pointer (some ⟨g3, 0, none⟩)), pl 9 (.pointer (some ⟨g4, 0, none⟩))] a ∧ Sep w0 B w (mapH kf98 (Value.int .i64) g1 came1 :: blk g3 22 #[.slice A6 x.1.length c6] :: own 3 (.slice A6 x.1.length c6) (vI x.1) :: blk g4 103 #[.int .i64 r2.1, .int .i64 r2.2.1, .slice A5 r2.2.2.1.length c5, .int .i64 x.2.2] :: own 3 (.slice A5 r2.2.2.1.length c5) (vI x.2.1) :: pg1 :: blk g2 32 #[.int .i64 p2_W1, .int .i64 p2_H1, .slice A2 p2_Cells1.length c2] :: fs)) (assoc_b hm) ⟨A3, c3, hF.weak [1, 3, 9] (by kernel_rfl), hS⟩ ?_
      clear hF hS hm
      rintro nn1 ⟨z1, t1, t2⟩ a w ⟨A6, c6, hF, hS⟩ hm
      generalize hφ1 : stK (slide_Home_1_L1 came1 r2) nn1 (fun x => (slide_Home_1_K1 x).bind some) = φ1 at hm
      unfold slide_Home_1_L1 at hm
      dsimp only at hF hS hm
      refine seq_cut (fun a w => Fr 48 [pl 1 (.map (some g1)), pl 3 (.pointer (some ⟨g3, 0, none⟩)), pl 9 (.pointer (some ⟨g4, 0, none⟩))] a ∧ Sep w0 B w (mapH kf98 (Value.int .i64) g1 came1 :: blk g3 22 #[.slice A6 z1.length c6] :: own 3 (.slice A6 z1.length c6) (vI z1) :: blk g4 103 #[.int .i64 r2.1, .int .i64 r2.2.1, .slice A5 r2.2.2.1.length c5, .int .i64 t2] :: own 3 (.slice A5 r2.2.2.1.length c5) (vI t1) :: pg1 :: blk g2 32 #[.int .i64 p2_W1, .int .i64 p2_H1, .slice A2 p2_Cells1.length c2] :: fs) ∧ ((slide_Home_1_J3 came1 r2 z1 t1 t2)).bind φ1 = some r) ?_ ?_
      · rintro a w ⟨hF, hS, hm⟩
        unfold slide_Home_1_J3 at hm
        refine wpIn_block ?_
        obtain ⟨r4, hr4, hm⟩ := call_b hm
        refine reg [⟨false, [], vS (Instr.loadAt 22 (.pointer (some ⟨g4, 2, none⟩))), .slice A5 r2.2.2.1.length c5⟩, ⟨false, [], callFunc 55 #[.slice A5 r2.2.2.1.length c5], .agg (List.toArray (([] : List Value) ++ (arr1 (Value.int .i64) (0 : Int) 6 r4 ++ ([] : List Value))))⟩, ⟨false, [], vS (Instr.lookup 95 (.map (some g1)) (.agg (List.toArray (([] : List Value) ++ (arr1 (Value.int .i64) (0 : Int) 6 r4 ++ ([] : List Value))))) false), .int .i64 (mget (0 : Int) (geti r4 0, geti r4 1, geti r4 2, geti r4 3, geti r4 4, geti r4 5) came1)⟩] [none, none, none, none, none, some (.slice A5 r2.2.2.1.length c5), some (.agg (List.toArray (([] : List Value) ++ (arr1 (Value.int .i64) (0 : Int) 6 r4 ++ ([] : List Value))))), some (.int .i64 (mget (0 : Int) (geti r4 0, geti r4 1, geti r4 2, geti r4 3, geti r4 4, geti r4 5) came1)), none, none] [1, 3, 9, 10] [pl 1 (.map (some g1)), pl 3 (.pointer (some ⟨g3, 0, none⟩)), pl 9 (.pointer (some ⟨g4, 0, none⟩)), pl 10 (.int .i64 (bXor (mget (0 : Int) (geti r4 0, geti r4 1, geti r4 2, geti r4 3, geti r4 4, geti r4 5) came1) 2))] hF hS Fol (by kernel_rfl) (by kernel_rfl) (by kernel_rfl) ?_ (fun a w hF hS => ?_)
        · exact obs_cons (ob_load Agg22 (fun _ _ hS => (hS.at_ 3 rfl).cell rfl)) <| obs_cons (ob_call Try.func55 (by kernel_rfl) rfl (fun _ _ hS => slide_nameOf_w hr4 hS (fun _ hS => (hS.at_ 4 rfl).rd) ((hS.at_ 4 rfl).cap1) ((hS.at_ 4 rfl).len1))) <| obs_cons (ob_look (k := (geti r4 0, geti r4 1, geti r4 2, geti r4 3, geti r4 4, geti r4 5)) (m := came1) MK98 UndM95 (z := (0 : Int)) MZ3 (fun _ hS => ⟨_, _, _, _, hS.at_ 0 rfl⟩)) <| obs_nil
        refine seqR ?_
        obtain ⟨r5, hr5, hm⟩ := call_b hm
        refine at_run 2 [] [] [1, 3, 9, 10, 41, 42] [pl 1 (.map (some g1)), pl 3 (.pointer (some ⟨g3, 0, none⟩)), pl 9 (.pointer (some ⟨g4, 0, none⟩)), pl 10 (.int .i64 (bXor (mget (0 : Int) (geti r4 0, geti r4 1, geti r4 2, geti r4 3, geti r4 4, geti r4 5) came1) 2)), pl 41 (.pointer (some ⟨g4, 0, none⟩)), pl 42 (.int .i64 (bXor (mget (0 : Int) (geti r4 0, geti r4 1, geti r4 2, geti r4 3, geti r4 4, geti r4 5) came1) 2))] hF hS (by kernel_rfl) (by kernel_rfl) ?_ (fun a w hF hS => ?_)
        · exact obs_nil
        have hS : Sep w0 B w (blk g4 103 #[.int .i64 r2.1, .int .i64 r2.2.1, .slice A5 r2.2.2.1.length c5, .int .i64 t2] :: own 3 (.slice A5 r2.2.2.1.length c5) (vI t1) :: mapH kf98 (Value.int .i64) g1 came1 :: blk g3 22 #[.slice A6 z1.length c6] :: own 3 (.slice A6 z1.length c6) (vI z1) :: pg1 :: blk g2 32 #[.int .i64 p2_W1, .int .i64 p2_H1, .slice A2 p2_Cells1.length c2] :: fs) := hS.pickN 7 [3, 4, 0, 1, 2, 5, 6] (by decide)
        refine at_call (f := 57) (args := #[.pointer (some ⟨g4, 0, none⟩), .int .i64 (bXor (mget (0 : Int) (geti r4 0, geti r4 1, geti r4 2, geti r4 3, geti r4 4, geti r4 5) came1) 2)]) (d := 43) hF (by kernel_rfl) (by kernel_rfl) Try.func57 (by kernel_rfl) rfl (slide_tray_move_w hr5 hS ) (fun v a w hR hF => ?_)
        clear hS
        obtain ⟨rfl, hS⟩ := hR
        have hS : Sep w0 B w (blk g4 103 #[.int .i64 r2.1, .int .i64 r2.2.1, .slice A5 r2.2.2.1.length c5, .int .i64 r5.2.2] :: own 3 (.slice A5 r2.2.2.1.length c5) (vI r5.2.1) :: mapH kf98 (Value.int .i64) g1 came1 :: blk g3 22 #[.slice A6 z1.length c6] :: own 3 (.slice A6 z1.length c6) (vI z1) :: pg1 :: blk g2 32 #[.int .i64 p2_W1, .int .i64 p2_H1, .slice A2 p2_Cells1.length c2] :: fs) := hS
        refine at_end [1, 3, 9, 10] [pl 1 (.map (some g1)), pl 3 (.pointer (some ⟨g3, 0, none⟩)), pl 9 (.pointer (some ⟨g4, 0, none⟩)), pl 10 (.int .i64 (bXor (mget (0 : Int) (geti r4 0, geti r4 1, geti r4 2, geti r4 3, geti r4 4, geti r4 5) came1) 2))] hF rfl (by kernel_rfl) (fun hF => ?_)
        refine then_n ?_
        refine oneR ?_
        obtain ⟨hp1, hm⟩ := asrt_b hm
        refine at_run 2 [⟨false, [], vS (Instr.loadAt 22 (.pointer (some ⟨g3, 0, none⟩))), .slice A6 z1.length c6⟩] [some (.slice A6 z1.length c6), none] [1, 3, 9, 44, 45] [pl 1 (.map (some g1)), pl 3 (.pointer (some ⟨g3, 0, none⟩)), pl 9 (.pointer (some ⟨g4, 0, none⟩)), pl 44 (.slice A6 z1.length c6), pl 45 (.int .i64 (bXor (mget (0 : Int) (geti r4 0, geti r4 1, geti r4 2, geti r4 3, geti r4 4, geti r4 5) came1) 2))] hF hS (by kernel_rfl) (by kernel_rfl) ?_ (fun a w hF hS => ?_)
        · exact obs_cons (ob_load Agg22 (fun _ _ hS => (hS.at_ 3 rfl).cell rfl)) <| obs_nil
        refine at_do (d := 46) (s := vS (Instr.buildSlice 22 1 #[(0, .int .i64 (bXor (mget (0 : Int) (geti r4 0, geti r4 1, geti r4 2, geti r4 3, geti r4 4, geti r4 5) came1) 2))])) (v := .slice (some ⟨w.heap.size, 0, none⟩) 1 1) (w' := w.alloc (.cells #[.int .i64 (bXor (mget (0 : Int) (geti r4 0, geti r4 1, geti r4 2, geti r4 3, geti r4 4, geti r4 5) came1) 2)] 3)) hF (by kernel_rfl) (by kernel_rfl) (by kernel_rfl) (fun a hF => ?_)
        have hS : Sep w0 B (w.alloc (.cells #[.int .i64 (bXor (mget (0 : Int) (geti r4 0, geti r4 1, geti r4 2, geti r4 3, geti r4 4, geti r4 5) came1) 2)] 3)) (own 3 (.slice (some (⟨w.heap.size, 0, none⟩ : Addr)) 1 1) (vI ([bXor (mget (0 : Int) (geti r4 0, geti r4 1, geti r4 2, geti r4 3, geti r4 4, geti r4 5) came1) 2] : List Int)) :: (blk g4 103 #[.int .i64 r2.1, .int .i64 r2.2.1, .slice A5 r2.2.2.1.length c5, .int .i64 r5.2.2] :: own 3 (.slice A5 r2.2.2.1.length c5) (vI r5.2.1) :: mapH kf98 (Value.int .i64) g1 came1 :: blk g3 22 #[.slice A6 z1.length c6] :: own 3 (.slice A6 z1.length c6) (vI z1) :: pg1 :: blk g2 32 #[.int .i64 p2_W1, .int .i64 p2_H1, .slice A2 p2_Cells1.length c2] :: fs)) := hS.lit 3 #[.int .i64 (bXor (mget (0 : Int) (geti r4 0, geti r4 1, geti r4 2, geti r4 3, geti r4 4, geti r4 5) came1) 2)] 1 rfl (by omega)
        generalize (some (⟨w.heap.size, 0, none⟩ : Addr)) = g5 at hF hS
        generalize w.alloc (.cells #[.int .i64 (bXor (mget (0 : Int) (geti r4 0, geti r4 1, geti r4 2, geti r4 3, geti r4 4, geti r4 5) came1) 2)] 3) = w at hS ⊢
        obtain ⟨A8, c8, w, hrun, hS⟩ := run_app1 (P := Try.prog) (t := 22) (m := z1) (ys := ([bXor (mget (0 : Int) (geti r4 0, geti r4 1, geti r4 2, geti r4 3, geti r4 4, geti r4 5) came1) 2] : List Int)) (A2 := g5) (m2 := 1) (c2 := 1) (Value.int .i64) (0 : Int) (hS.at_ 5 rfl) (hS.at_ 0 rfl).rd ((hS.at_ 0 rfl).len1) 22 Und22 hi3 hz3 hs3 (by omega) rfl (fun _ => rfl) hp1
        have hS : Sep w0 B w (own 3 (.slice g5 1 1) (vI ([bXor (mget (0 : Int) (geti r4 0, geti r4 1, geti r4 2, geti r4 3, geti r4 4, geti r4 5) came1) 2] : List Int)) :: blk g4 103 #[.int .i64 r2.1, .int .i64 r2.2.1, .slice A5 r2.2.2.1.length c5, .int .i64 r5.2.2] :: own 3 (.slice A5 r2.2.2.1.length c5) (vI r5.2.1) :: mapH kf98 (Value.int .i64) g1 came1 :: blk g3 22 #[.slice A6 z1.length c6] :: own 3 (.slice A8 ((z1 ++ ([bXor (mget (0 : Int) (geti r4 0, geti r4 1, geti r4 2, geti r4 3, geti r4 4, geti r4 5) came1) 2] : List Int)).length) c8) (vI (z1 ++ ([bXor (mget (0 : Int) (geti r4 0, geti r4 1, geti r4 2, geti r4 3, geti r4 4, geti r4 5) came1) 2] : List Int))) :: pg1 :: blk g2 32 #[.int .i64 p2_W1, .int .i64 p2_H1, .slice A2 p2_Cells1.length c2] :: fs) := hS
        refine at_do (d := 47) hF (by kernel_rfl) (by kernel_rfl) hrun (fun a hF => ?_)
        obtain ⟨w, hrun, hS⟩ := run_put (P := Try.prog) (t := 22) (u := .slice A8 ((z1 ++ ([bXor (mget (0 : Int) (geti r4 0, geti r4 1, geti r4 2, geti r4 3, geti r4 4, geti r4 5) came1) 2] : List Int)).length) c8) (i := 0) (hS.at_ 4 rfl) hi22 hs22 rfl (Nat.lt_of_lt_of_eq (Nat.lt_of_succ_le (Nat.le_of_ble_eq_true (by kernel_rfl))) rfl)
        refine at_skip hF (by kernel_rfl) hrun ?_
        have hS : Sep w0 B w (own 3 (.slice g5 1 1) (vI ([bXor (mget (0 : Int) (geti r4 0, geti r4 1, geti r4 2, geti r4 3, geti r4 4, geti r4 5) came1) 2] : List Int)) :: blk g4 103 #[.int .i64 r2.1, .int .i64 r2.2.1, .slice A5 r2.2.2.1.length c5, .int .i64 r5.2.2] :: own 3 (.slice A5 r2.2.2.1.length c5) (vI r5.2.1) :: mapH kf98 (Value.int .i64) g1 came1 :: blk g3 22 #[.slice A8 ((z1 ++ ([bXor (mget (0 : Int) (geti r4 0, geti r4 1, geti r4 2, geti r4 3, geti r4 4, geti r4 5) came1) 2] : List Int)).length) c8] :: own 3 (.slice A8 ((z1 ++ ([bXor (mget (0 : Int) (geti r4 0, geti r4 1, geti r4 2, geti r4 3, geti r4 4, geti r4 5) came1) 2] : List Int)).length) c8) (vI (z1 ++ ([bXor (mget (0 : Int) (geti r4 0, geti r4 1, geti r4 2, geti r4 3, geti r4 4, geti r4 5) came1) 2] : List Int))) :: pg1 :: blk g2 32 #[.int .i64 p2_W1, .int .i64 p2_H1, .slice A2 p2_Cells1.length c2] :: fs) := hS
        refine at_end [1, 3, 9] [pl 1 (.map (some g1)), pl 3 (.pointer (some ⟨g3, 0, none⟩)), pl 9 (.pointer (some ⟨g4, 0, none⟩))] hF rfl (by kernel_rfl) (fun hF => ?_)
        refine block_n ?_
        refine then_n ?_
        have hS := hS.pickN 8 [3, 4, 5, 1, 2, 6, 7] (by decide)
        rw [← hφ1] at hm
        exact ⟨((z1 ++ ([bXor (mget (0 : Int) (geti r4 0, geti r4 1, geti r4 2, geti r4 3, geti r4 4, geti r4 5) came1) 2] : List Int)), r5.2.1, r5.2.2), ⟨A8, c8, hF.weak [1, 3, 9] (by kernel_rfl), hS⟩, hm⟩
      · obtain ⟨r3, hr3, hm⟩ := call_b hm
        refine reg [⟨false, [], vS (Instr.loadAt 22 (.pointer (some ⟨g4, 2, none⟩))), .slice A5 r2.2.2.1.length c5⟩, ⟨false, [], callFunc 55 #[.slice A5 r2.2.2.1.length c5], .agg (List.toArray (([] : List Value) ++ (arr1 (Value.int .i64) (0 : Int) 6 r3 ++ ([] : List Value))))⟩, ⟨false, [], vS (Instr.lookup 95 (.map (some g1)) (.agg (List.toArray (([] : List Value) ++ (arr1 (Value.int .i64) (0 : Int) 6 r3 ++ ([] : List Value))))) false), .int .i64 (mget (0 : Int) (geti r3 0, geti r3 1, geti r3 2, geti r3 3, geti r3 4, geti r3 5) came1)⟩] [none, none, none, none, none, some (.slice A5 r2.2.2.1.length c5), some (.agg (List.toArray (([] : List Value) ++ (arr1 (Value.int .i64) (0 : Int) 6 r3 ++ ([] : List Value))))), some (.int .i64 (mget (0 : Int) (geti r3 0, geti r3 1, geti r3 2, geti r3 3, geti r3 4, geti r3 5) came1)), none] [1, 3, 9, 31] [pl 1 (.map (some g1)), pl 3 (.pointer (some ⟨g3, 0, none⟩)), pl 9 (.pointer (some ⟨g4, 0, none⟩)), pl 31 (.bool (decide ((0 : Int) ≤ (mget (0 : Int) (geti r3 0, geti r3 1, geti r3 2, geti r3 3, geti r3 4, geti r3 5) came1))))] hF hS Fol (by kernel_rfl) (by kernel_rfl) (by kernel_rfl) ?_ (fun a w hF hS => ?_)
        · exact obs_cons (ob_load Agg22 (fun _ _ hS => (hS.at_ 3 rfl).cell rfl)) <| obs_cons (ob_call Try.func55 (by kernel_rfl) rfl (fun _ _ hS => slide_nameOf_w hr3 hS (fun _ hS => (hS.at_ 4 rfl).rd) ((hS.at_ 4 rfl).cap1) ((hS.at_ 4 rfl).len1))) <| obs_cons (ob_look (k := (geti r3 0, geti r3 1, geti r3 2, geti r3 3, geti r3 4, geti r3 5)) (m := came1) MK98 UndM95 (z := (0 : Int)) MZ3 (fun _ hS => ⟨_, _, _, _, hS.at_ 0 rfl⟩)) <| obs_nil
        refine cond_ev (t := 31) (b := decide ((0 : Int) ≤ (mget (0 : Int) (geti r3 0, geti r3 1, geti r3 2, geti r3 3, geti r3 4, geti r3 5) came1))) hF (by kernel_rfl) (fun hb => ?_) (fun hb => ?_)
        · replace hm := if_t hm hb
          refine wpIn_skip ?_
          refine then_n ?_
          exact ⟨hF.weak [1, 3, 9] (by kernel_rfl), hS, hm⟩
        · replace hm := if_f hm hb
          refine wpIn_exit ?_
          refine then_e (then_e (block_e (then_n ?_)))
          have hS := hS.pickN 7 [5, 0, 6, 1, 2] (by decide)
          rw [← hφ1] at hm
          replace hm := done_b hm
          unfold slide_Home_1_K1 at hm
          try dsimp only at hm
          have hm : (slide_Home_1_J2 z1).bind some = some r := hm
          exact ⟨z1, A6, c6, hF.weak [] (by kernel_rfl), hS, hm⟩
  · obtain ⟨r1, hr1, hm⟩ := call_b hm
    refine reg [⟨false, [], vS (Instr.loadAt 22 (.pointer (some ⟨g2, 2, none⟩))), .slice A2 p2_Cells1.length c2⟩, ⟨false, [], callFunc 55 #[.slice A2 p2_Cells1.length c2], .agg (List.toArray (([] : List Value) ++ (arr1 (Value.int .i64) (0 : Int) 6 r1 ++ ([] : List Value))))⟩, ⟨false, [], vS (Instr.lookup 95 (.map (some g1)) (.agg (List.toArray (([] : List Value) ++ (arr1 (Value.int .i64) (0 : Int) 6 r1 ++ ([] : List Value))))) true), .tuple #[.int .i64 (mget (0 : Int) (geti r1 0, geti r1 1, geti r1 2, geti r1 3, geti r1 4, geti r1 5) came1), .bool (mhas (geti r1 0, geti r1 1, geti r1 2, geti r1 3, geti r1 4, geti r1 5) came1)]⟩] [none, none, some (.slice A2 p2_Cells1.length c2), some (.agg (List.toArray (([] : List Value) ++ (arr1 (Value.int .i64) (0 : Int) 6 r1 ++ ([] : List Value))))), some (.tuple #[.int .i64 (mget (0 : Int) (geti r1 0, geti r1 1, geti r1 2, geti r1 3, geti r1 4, geti r1 5) came1), .bool (mhas (geti r1 0, geti r1 1, geti r1 2, geti r1 3, geti r1 4, geti r1 5) came1)]), none, none, none, none, none] [1, 2, 3, 8] [pl 1 (.map (some g1)), pl 2 (.pointer (some ⟨g2, 0, none⟩)), pl 3 (.pointer (some ⟨g3, 0, none⟩)), pl 8 (.bool (mhas (geti r1 0, geti r1 1, geti r1 2, geti r1 3, geti r1 4, geti r1 5) came1))] hF hS Fol (by kernel_rfl) (by kernel_rfl) (by kernel_rfl) ?_ (fun a w hF hS => ?_)
    · exact obs_cons (ob_load Agg22 (fun _ _ hS => (hS.at_ 2 rfl).cell rfl)) <| obs_cons (ob_call Try.func55 (by kernel_rfl) rfl (fun _ _ hS => slide_nameOf_w hr1 hS (fun _ hS => (hr_p2_Cells1 _ (hS.dropN 5))) _hc_p2_Cells1 rfl)) <| obs_cons (ob_look2 (k := (geti r1 0, geti r1 1, geti r1 2, geti r1 3, geti r1 4, geti r1 5)) (m := came1) MK98 UndM95 (z := (0 : Int)) MZ3 (fun _ hS => ⟨_, _, _, _, hS.at_ 1 rfl⟩)) <| obs_nil
    refine reg [] [] [1, 2, 3, 20] [pl 1 (.map (some g1)), pl 2 (.pointer (some ⟨g2, 0, none⟩)), pl 3 (.pointer (some ⟨g3, 0, none⟩)), pl 20 (.bool (!(mhas (geti r1 0, geti r1 1, geti r1 2, geti r1 3, geti r1 4, geti r1 5) came1)))] hF hS Fol (by kernel_rfl) (by kernel_rfl) (by kernel_rfl) ?_ (fun a w hF hS => ?_)
    · exact obs_nil
    refine cond_ev (t := 20) (b := !(mhas (geti r1 0, geti r1 1, geti r1 2, geti r1 3, geti r1 4, geti r1 5) came1)) hF (by kernel_rfl) (fun hb => ?_) (fun hb => ?_)
    · replace hm := if_t hm hb
      refine reg [] [] [6] [pl 6 (.bool true)] hF hS Fol (by kernel_rfl) (by kernel_rfl) (by kernel_rfl) ?_ (fun a w hF hS => ?_)
      · exact obs_nil
      refine wpIn_ret ?_
      refine then_r ?_
      have hm : some (true, p31) = some r := hm
      obtain rfl := Option.some.inj hm
      exact retV (rs := [.tmp 6]) (vs := [.bool true]) hF rfl (rv_t (by kernel_rfl) <| rv_nil) rfl ⟨_, rfl, A3, c3, rfl, (PoolLe.refl _), hS⟩
    · replace hm := if_f hm hb
      refine wpIn_skip ?_
      refine then_n ?_
      have hS := hS.pickN 5 [1, 2, 3, 4, 0] (by decide)
      exact ⟨hF.weak [1, 2, 3] (by kernel_rfl), hS, hm⟩

noncomputable def slide_rings_J8  (z5 : Int) (came6 : List ((Int × Int × Int × Int × Int × Int) × Int)) (next5 : List (Int × Int × List Int × Int)) (z7 : List (Int × Int × List Int × Int)) : Option (St (List ((Int × Int × Int × Int × Int × Int) × Int) × List (Int × Int × List Int × Int) × List (Int × Int × List Int × Int) × Int) (List ((Int × Int × Int × Int × Int × Int) × Int) × List (Int × Int × List Int × Int) × List (Int × Int × List Int × Int))) :=
  some (.next (came6, next5, z7, (w64 (z5 + 1))))

noncomputable def slide_rings_J9  (z2 : List (Int × Int × List Int × Int)) (z3 : Int) (came4 : List ((Int × Int × Int × Int × Int × Int) × Int)) (next3 : List (Int × Int × List Int × Int)) (z4 : List (Int × Int × List Int × Int)) (z5 : Int) (u1 : List Int) (u2 : Int) : Option (St (List ((Int × Int × Int × Int × Int × Int) × Int) × List (Int × Int × List Int × Int) × List (Int × Int × List Int × Int) × Int) (List ((Int × Int × Int × Int × Int × Int) × Int) × List (Int × Int × List Int × Int) × List (Int × Int × List Int × Int))) :=
  (slide_nameOf_m u1).bind fun r6 => if (!(mhas (geti r6 0, geti r6 1, geti r6 2, geti r6 3, geti r6 4, geti r6 5) came4)) then ((slide_nameOf_m u1).bind fun r7 => asrt ((next3.length : Int) + 1 ≤ bigK) <| (slide_rings_J8 z5) (mput (geti r7 0, geti r7 1, geti r7 2, geti r7 3, geti r7 4, geti r7 5) z5 came4) (next3 ++ ([((getd zP100 z2 z3).1, (getd zP100 z2 z3).2.1, u1, u2)] : List (Int × Int × List Int × Int))) z4) else ((slide_rings_J8 z5) came4 next3 z4)

noncomputable def slide_rings_J7  (z2 : List (Int × Int × List Int × Int)) (z3 : Int) (came4 : List ((Int × Int × Int × Int × Int × Int) × Int)) (next3 : List (Int × Int × List Int × Int)) (z4 : List (Int × Int × List Int × Int)) (z5 : Int) : Option (St (List ((Int × Int × Int × Int × Int × Int) × Int) × List (Int × Int × List Int × Int) × List (Int × Int × List Int × Int) × Int) (List ((Int × Int × Int × Int × Int × Int) × Int) × List (Int × Int × List Int × Int) × List (Int × Int × List Int × Int))) :=
  (slices_Clone_m ((getd zP100 z2 z3).2.2.1)).bind fun r4 => (slide_tray_move_m ((getd zP100 z2 z3).1) ((getd zP100 z2 z3).2.1) r4 ((getd zP100 z2 z3).2.2.2) z5).bind fun r5 => if (!r5.1) then ((slide_rings_J8 z5) came4 next3 z4) else ((slide_rings_J9 z2 z3 came4 next3 z4 z5) r5.2.1 r5.2.2)

noncomputable def slide_rings_L3  (z2 : List (Int × Int × List Int × Int)) (z3 : Int) : (List ((Int × Int × Int × Int × Int × Int) × Int) × List (Int × Int × List Int × Int) × List (Int × Int × List Int × Int) × Int) → Option (St (List ((Int × Int × Int × Int × Int × Int) × Int) × List (Int × Int × List Int × Int) × List (Int × Int × List Int × Int) × Int) (List ((Int × Int × Int × Int × Int × Int) × Int) × List (Int × Int × List Int × Int) × List (Int × Int × List Int × Int))) :=
  fun (x : (List ((Int × Int × Int × Int × Int × Int) × Int) × List (Int × Int × List Int × Int) × List (Int × Int × List Int × Int) × Int)) => match x with | (came4, next3, z4, z5) => if (decide (z5 < 4)) then ((slide_rings_J7 z2 z3 came4 next3 z4 z5)) else (some (.done (came4, next3, z4)))

noncomputable def slide_rings_J6  (z3 : Int) (came5 : List ((Int × Int × Int × Int × Int × Int) × Int)) (next4 : List (Int × Int × List Int × Int)) (z6 : List (Int × Int × List Int × Int)) : Option (St (List ((Int × Int × Int × Int × Int × Int) × Int) × List (Int × Int × List Int × Int) × List (Int × Int × List Int × Int) × Int) (List ((Int × Int × Int × Int × Int × Int) × Int) × List (Int × Int × List Int × Int))) :=
  some (.next (came5, next4, z6, (w64 (z3 + 1))))

noncomputable def slide_rings_K3  (z3 : Int) : (List ((Int × Int × Int × Int × Int × Int) × Int) × List (Int × Int × List Int × Int) × List (Int × Int × List Int × Int)) → Option (St (List ((Int × Int × Int × Int × Int × Int) × Int) × List (Int × Int × List Int × Int) × List (Int × Int × List Int × Int) × Int) (List ((Int × Int × Int × Int × Int × Int) × Int) × List (Int × Int × List Int × Int))) :=
  fun (x : (List ((Int × Int × Int × Int × Int × Int) × Int) × List (Int × Int × List Int × Int) × List (Int × Int × List Int × Int))) => match x with | (came5, next4, z6) => (slide_rings_J6 z3) came5 next4 z6

noncomputable def slide_rings_J5  (came2 : List ((Int × Int × Int × Int × Int × Int) × Int)) (next1 : List (Int × Int × List Int × Int)) (z2 : List (Int × Int × List Int × Int)) (z3 : Int) : Option (St (List ((Int × Int × Int × Int × Int × Int) × Int) × List (Int × Int × List Int × Int) × List (Int × Int × List Int × Int) × Int) (List ((Int × Int × Int × Int × Int × Int) × Int) × List (Int × Int × List Int × Int))) :=
  asrt (0 ≤ z3 ∧ z3 < (z2.length : Int)) <| (loop (slide_rings_L3 z2 z3) (came2, next1, z2, 0)).bind (slide_rings_K3 z3)

noncomputable def slide_rings_L2  (ring1 : List (Int × Int × List Int × Int)) : (List ((Int × Int × Int × Int × Int × Int) × Int) × List (Int × Int × List Int × Int) × List (Int × Int × List Int × Int) × Int) → Option (St (List ((Int × Int × Int × Int × Int × Int) × Int) × List (Int × Int × List Int × Int) × List (Int × Int × List Int × Int) × Int) (List ((Int × Int × Int × Int × Int × Int) × Int) × List (Int × Int × List Int × Int))) :=
  fun (x : (List ((Int × Int × Int × Int × Int × Int) × Int) × List (Int × Int × List Int × Int) × List (Int × Int × List Int × Int) × Int)) => match x with | (came2, next1, z2, z3) => if (decide (z3 < (ring1.length : Int))) then ((slide_rings_J5 came2 next1 z2 z3)) else (some (.done (came2, next1)))

noncomputable def slide_rings_J4  (tell3 : List Int) (came3 : List ((Int × Int × Int × Int × Int × Int) × Int)) (next2 : List (Int × Int × List Int × Int)) : Option (St (List Int × List ((Int × Int × Int × Int × Int × Int) × Int) × List (Int × Int × List Int × Int)) (List Int)) :=
  some (.next (tell3, came3, next2))

noncomputable def slide_rings_K2  (tell3 : List Int) : (List ((Int × Int × Int × Int × Int × Int) × Int) × List (Int × Int × List Int × Int)) → Option (St (List Int × List ((Int × Int × Int × Int × Int × Int) × Int) × List (Int × Int × List Int × Int)) (List Int)) :=
  fun (x : (List ((Int × Int × Int × Int × Int × Int) × Int) × List (Int × Int × List Int × Int))) => match x with | (came3, next2) => (slide_rings_J4 tell3) came3 next2

noncomputable def slide_rings_J2  (came1 : List ((Int × Int × Int × Int × Int × Int) × Int)) (ring1 : List (Int × Int × List Int × Int)) (tell3 : List Int) : Option (St (List Int × List ((Int × Int × Int × Int × Int × Int) × Int) × List (Int × Int × List Int × Int)) (List Int)) :=
  (loop (slide_rings_L2 ring1) (came1, ([] : List (Int × Int × List Int × Int)), ring1, 0)).bind (slide_rings_K2 tell3)

noncomputable def slide_rings_J3  (came1 : List ((Int × Int × Int × Int × Int × Int) × Int)) (ring1 : List (Int × Int × List Int × Int)) (tell2 : List Int) (z1 : Bool) : Option (St (List Int × List ((Int × Int × Int × Int × Int × Int) × Int) × List (Int × Int × List Int × Int)) (List Int)) :=
  if z1 then ((slide_rings_J2 came1 ring1) tell2) else (some (.done tell2))

noncomputable def slide_rings_J1  (v3 : List Int) : Option (List Int) :=
  some v3

noncomputable def slide_rings_K1  : (List Int) → Option (List Int) :=
  fun (x : (List Int)) => match x with | v3 => slide_rings_J1 v3

noncomputable def slide_rings_L1  (v_W1 : Int) (v_H1 : Int) (v_Cells1 : List Int) : (List Int × List ((Int × Int × Int × Int × Int × Int) × Int) × List (Int × Int × List Int × Int)) → Option (St (List Int × List ((Int × Int × Int × Int × Int × Int) × Int) × List (Int × Int × List Int × Int)) (List Int)) :=
  fun (x : (List Int × List ((Int × Int × Int × Int × Int × Int) × Int) × List (Int × Int × List Int × Int))) => match x with | (tell1, came1, ring1) => if (decide ((0 : Int) < (ring1.length : Int))) then ((slide_Home_1_m ring1 came1 v_W1 v_H1 v_Cells1 tell1).bind fun r3 => (slide_rings_J3 came1 ring1) r3.2 ((decide ((0 : Int) < (ring1.length : Int))) && r3.1)) else ((slide_rings_J3 came1 ring1) tell1 ((decide ((0 : Int) < (ring1.length : Int))) && false))

noncomputable def slide_rings_m  (g1 : Int) (g2 : Int) (g3 : List Int) (v_W1 : Int) (v_H1 : Int) (v_Cells1 : List Int) (v1 : List Int) : Option (List Int) :=
  (slide_nameOf_m g3).bind fun r1 => (slide_newTray_m g1 g2 g3).bind fun r2 => (loop (slide_rings_L1 v_W1 v_H1 v_Cells1) (v1, (mput (geti r1 0, geti r1 1, geti r1 2, geti r1 3, geti r1 4, geti r1 5) (-1) ([] : List ((Int × Int × Int × Int × Int × Int) × Int))), ([r2] : List (Int × Int × List Int × Int)))).bind slide_rings_K1

set_option maxRecDepth 100000 in
set_option maxHeartbeats 4000000 in
theorem slide_rings_w  {g1 : Int} {g2 : Int} {A1 : Option Addr} {c1 : Nat} {n1 : Nat} {g3 : List Int} {g4 : Nat} {v_W1 : Int} {v_H1 : Int} {A2 : Option Addr} {c2 : Nat} {n2 : Nat} {v_Cells1 : List Int} {g5 : Nat} {A3 : Option Addr} {c3 : Nat} {n3 : Nat} {v1 : List Int} {r : (List Int)} {w0 w : World} {B : Nat} {fs : List HP} (hm : slide_rings_m g1 g2 g3 v_W1 v_H1 v_Cells1 v1 = some r) (hS : Sep w0 B w (blk g4 32 #[.int .i64 v_W1, .int .i64 v_H1, .slice A2 n2 c2] :: blk g5 22 #[.slice A3 n3 c3] :: own 3 (.slice A3 n3 c3) (vI v1) :: fs)) (hr_g3 : RdF w0 B fs A1 (vI g3)) (_hc_g3 : g3.length ≤ c1) (_hn_g3 : n1 = g3.length) (hr_v_Cells1 : RdF w0 B fs A2 (vI v_Cells1)) (_hc_v_Cells1 : v_Cells1.length ≤ c2) (_hn_v_Cells1 : n2 = v_Cells1.length) :
    Calls Try.prog 52 #[.agg #[.int .i64 g1, .int .i64 g2, .slice A1 n1 c1], .func (.func 54) #[] #[.pointer (some ⟨g4, 0, none⟩), .pointer (some ⟨g5, 0, none⟩)]] w fun e w' => ∃ v, e = .returned v ∧ ∃ (A4 : Option Addr) (c4 : Nat), v = .tuple #[] ∧ Sep w0 B w' (blk g4 32 #[.int .i64 v_W1, .int .i64 v_H1, .slice A2 n2 c2] :: blk g5 22 #[.slice A4 r.length c4] :: own 3 (.slice A4 r.length c4) (vI r) :: fs) := by
  obtain ⟨i3, hi3, hz3, hs3, hb3⟩ := info_parts Info3
  obtain ⟨i22, hi22, hz22, hs22, hb22⟩ := info_parts Info22
  obtain ⟨i100, hi100, hz100, hs100, hb100⟩ := info_parts Info100
  obtain rfl := (hS.at_ 2 rfl).len1
  obtain rfl := _hn_g3
  obtain rfl := _hn_v_Cells1
  unfold slide_rings_m at hm
  replace hm := start_b hm
  refine enter (l := [.agg #[.int .i64 g1, .int .i64 g2, .slice A1 g3.length c1], .func (.func 54) #[] #[.pointer (some ⟨g4, 0, none⟩), .pointer (some ⟨g5, 0, none⟩)]]) (n := 91) Try.func52 rfl rfl (by simp) (fun a hF => ?_)
  refine end_cut (fun a w => ∃ (v3 : List Int) (A11 : Option Addr) (c11 : Nat), Fr 91 [] a ∧ Sep w0 B w (blk g4 32 #[.int .i64 v_W1, .int .i64 v_H1, .slice A2 v_Cells1.length c2] :: blk g5 22 #[.slice A11 v3.length c11] :: own 3 (.slice A11 v3.length c11) (vI v3) :: fs) ∧ (slide_rings_J1 v3).bind some = some r) ?_ ?_
  · rintro a w ⟨v3, A11, c11, hF, hS, hm⟩
    unfold slide_rings_J1 at hm
    have hm : some v3 = some r := hm
    obtain rfl := Option.some.inj hm
    exact endV (rs := []) (vs := []) hF rfl (rv_nil) rfl ⟨_, rfl, A11, c11, rfl, hS⟩ rfl
  · refine seqR ?_
    refine at_do (d := 2) (s := vS (Instr.box 32 (.agg #[.int .i64 g1, .int .i64 g2, .slice A1 g3.length c1]))) (v := .pointer (some ⟨w.heap.size, 0, none⟩)) (w' := w.alloc (.cells #[.int .i64 g1, .int .i64 g2, .slice A1 g3.length c1] 32)) hF (by kernel_rfl) (by kernel_rfl) (by kernel_rfl) (fun a hF => ?_)
    have hS : Sep w0 B (w.alloc (.cells #[.int .i64 g1, .int .i64 g2, .slice A1 g3.length c1] 32)) (blk w.heap.size 32 #[.int .i64 g1, .int .i64 g2, .slice A1 g3.length c1] :: (blk g4 32 #[.int .i64 v_W1, .int .i64 v_H1, .slice A2 v_Cells1.length c2] :: blk g5 22 #[.slice A3 v1.length c3] :: own 3 (.slice A3 v1.length c3) (vI v1) :: fs)) := hS.box 32 #[.int .i64 g1, .int .i64 g2, .slice A1 g3.length c1]
    generalize w.heap.size = g6 at hF hS
    generalize w.alloc (.cells #[.int .i64 g1, .int .i64 g2, .slice A1 g3.length c1] 32) = w at hS ⊢
    refine at_end [1, 2] [pl 1 (.func (.func 54) #[] #[.pointer (some ⟨g4, 0, none⟩), .pointer (some ⟨g5, 0, none⟩)]), pl 2 (.pointer (some ⟨g6, 0, none⟩))] hF rfl (by kernel_rfl) (fun hF => ?_)
    refine then_n ?_
    refine seqR ?_
    obtain ⟨r1, hr1, hm⟩ := call_b hm
    refine at_do (d := 13) (s := vS (Instr.makeMap 95 none)) (v := .map (some w.heap.size)) (w' := w.alloc (.map #[] 0)) hF (by kernel_rfl) (by kernel_rfl) (by kernel_rfl) (fun a hF => ?_)
    have hS : Sep w0 B (w.alloc (.map #[] 0)) (mapH kf98 (Value.int .i64) w.heap.size ([] : List ((Int × Int × Int × Int × Int × Int) × Int)) :: (blk g6 32 #[.int .i64 g1, .int .i64 g2, .slice A1 g3.length c1] :: blk g4 32 #[.int .i64 v_W1, .int .i64 v_H1, .slice A2 v_Cells1.length c2] :: blk g5 22 #[.slice A3 v1.length c3] :: own 3 (.slice A3 v1.length c3) (vI v1) :: fs)) := hS.mapNew _ _
    generalize w.heap.size = g7 at hF hS
    generalize w.alloc (.map #[] 0) = w at hS ⊢
    refine at_run 3 [⟨false, [], vS (Instr.loadAt 22 (.pointer (some ⟨g6, 2, none⟩))), .slice A1 g3.length c1⟩, ⟨false, [], callFunc 55 #[.slice A1 g3.length c1], .agg (List.toArray (([] : List Value) ++ (arr1 (Value.int .i64) (0 : Int) 6 r1 ++ ([] : List Value))))⟩] [none, some (.slice A1 g3.length c1), some (.agg (List.toArray (([] : List Value) ++ (arr1 (Value.int .i64) (0 : Int) 6 r1 ++ ([] : List Value)))))] [1, 2, 13, 16] [pl 1 (.func (.func 54) #[] #[.pointer (some ⟨g4, 0, none⟩), .pointer (some ⟨g5, 0, none⟩)]), pl 2 (.pointer (some ⟨g6, 0, none⟩)), pl 13 (.map (some g7)), pl 16 (.agg (List.toArray (([] : List Value) ++ (arr1 (Value.int .i64) (0 : Int) 6 r1 ++ ([] : List Value)))))] hF hS (by kernel_rfl) (by kernel_rfl) ?_ (fun a w hF hS => ?_)
    · exact obs_cons (ob_load Agg22 (fun _ _ hS => (hS.at_ 1 rfl).cell rfl)) <| obs_cons (ob_call Try.func55 (by kernel_rfl) rfl (fun _ _ hS => slide_nameOf_w hr1 hS (fun _ hS => (hr_g3 _ (hS.dropN 5))) _hc_g3 rfl)) <| obs_nil
    obtain ⟨w, hrun, hS⟩ := run_mput (P := Try.prog) (t := 95) (vf := (Value.int .i64)) MK98 UndM95 (geti r1 0, geti r1 1, geti r1 2, geti r1 3, geti r1 4, geti r1 5) (-1) (hS.at_ 0 rfl)
    refine at_skip hF (by kernel_rfl) hrun ?_
    have hS : Sep w0 B w (mapH kf98 (Value.int .i64) g7 (mput (geti r1 0, geti r1 1, geti r1 2, geti r1 3, geti r1 4, geti r1 5) (-1) ([] : List ((Int × Int × Int × Int × Int × Int) × Int))) :: blk g6 32 #[.int .i64 g1, .int .i64 g2, .slice A1 g3.length c1] :: blk g4 32 #[.int .i64 v_W1, .int .i64 v_H1, .slice A2 v_Cells1.length c2] :: blk g5 22 #[.slice A3 v1.length c3] :: own 3 (.slice A3 v1.length c3) (vI v1) :: fs) := hS
    refine at_run 2 [] [] [1, 2, 4] [pl 1 (.func (.func 54) #[] #[.pointer (some ⟨g4, 0, none⟩), .pointer (some ⟨g5, 0, none⟩)]), pl 2 (.pointer (some ⟨g6, 0, none⟩)), pl 4 (.map (some g7))] hF hS (by kernel_rfl) (by kernel_rfl) ?_ (fun a w hF hS => ?_)
    · exact obs_nil
    refine at_end [1, 2, 4] [pl 1 (.func (.func 54) #[] #[.pointer (some ⟨g4, 0, none⟩), .pointer (some ⟨g5, 0, none⟩)]), pl 2 (.pointer (some ⟨g6, 0, none⟩)), pl 4 (.map (some g7))] hF rfl (by kernel_rfl) (fun hF => ?_)
    refine then_n ?_
    refine seqR ?_
    obtain ⟨r2, hr2, hm⟩ := call_b hm
    refine at_run 1 [⟨false, [], vS (Instr.loadAt 32 (.pointer (some ⟨g6, 0, none⟩))), .agg #[.int .i64 g1, .int .i64 g2, .slice A1 g3.length c1]⟩] [some (.agg #[.int .i64 g1, .int .i64 g2, .slice A1 g3.length c1])] [1, 4, 18] [pl 1 (.func (.func 54) #[] #[.pointer (some ⟨g4, 0, none⟩), .pointer (some ⟨g5, 0, none⟩)]), pl 4 (.map (some g7)), pl 18 (.agg #[.int .i64 g1, .int .i64 g2, .slice A1 g3.length c1])] hF hS (by kernel_rfl) (by kernel_rfl) ?_ (fun a w hF hS => ?_)
    · exact obs_cons (ob_loadA (cs := #[.int .i64 g1, .int .i64 g2, .slice A1 g3.length c1]) (by kernel_rfl) (by kernel_rfl) (fun _ _ hS => (hS.at_ 1 rfl).cellsAt 0 (by rfl))) <| obs_nil
    refine at_call (f := 56) (args := #[.agg #[.int .i64 g1, .int .i64 g2, .slice A1 g3.length c1]]) (d := 19) hF (by kernel_rfl) (by kernel_rfl) Try.func56 (by kernel_rfl) rfl (slide_newTray_w hr2 hS (fun _ hS => (hr_g3 _ (hS.dropN 5))) _hc_g3 rfl) (fun v a w hR hF => ?_)
    clear hS
    obtain ⟨g8, A5, c5, rfl, hS⟩ := hR
    have hS : Sep w0 B w (blk g8 103 #[.int .i64 r2.1, .int .i64 r2.2.1, .slice A5 r2.2.2.1.length c5, .int .i64 r2.2.2.2] :: own 3 (.slice A5 r2.2.2.1.length c5) (vI r2.2.2.1) :: mapH kf98 (Value.int .i64) g7 (mput (geti r1 0, geti r1 1, geti r1 2, geti r1 3, geti r1 4, geti r1 5) (-1) ([] : List ((Int × Int × Int × Int × Int × Int) × Int))) :: blk g6 32 #[.int .i64 g1, .int .i64 g2, .slice A1 g3.length c1] :: blk g4 32 #[.int .i64 v_W1, .int .i64 v_H1, .slice A2 v_Cells1.length c2] :: blk g5 22 #[.slice A3 v1.length c3] :: own 3 (.slice A3 v1.length c3) (vI v1) :: fs) := hS
    have hS : Sep w0 B w (noB :: blk g8 103 #[.int .i64 r2.1, .int .i64 r2.2.1, .slice A5 r2.2.2.1.length c5, .int .i64 r2.2.2.2] :: own 3 (.slice A5 r2.2.2.1.length c5) (vI r2.2.2.1) :: mapH kf98 (Value.int .i64) g7 (mput (geti r1 0, geti r1 1, geti r1 2, geti r1 3, geti r1 4, geti r1 5) (-1) ([] : List ((Int × Int × Int × Int × Int × Int) × Int))) :: blk g6 32 #[.int .i64 g1, .int .i64 g2, .slice A1 g3.length c1] :: blk g4 32 #[.int .i64 v_W1, .int .i64 v_H1, .slice A2 v_Cells1.length c2] :: blk g5 22 #[.slice A3 v1.length c3] :: own 3 (.slice A3 v1.length c3) (vI v1) :: fs) := hS.noB
    have hc1 := (hS.at_ 2 rfl).cap1
    have hS := hS.pickN 8 [2, 0, 1, 3, 4, 5, 6, 7] (by decide)
    have hS : Sep w0 B w ((twoB (own 3 (.slice A5 r2.2.2.1.length c5) (vI r2.2.2.1)) noB) :: blk g8 103 #[.int .i64 r2.1, .int .i64 r2.2.1, .slice A5 r2.2.2.1.length c5, .int .i64 r2.2.2.2] :: mapH kf98 (Value.int .i64) g7 (mput (geti r1 0, geti r1 1, geti r1 2, geti r1 3, geti r1 4, geti r1 5) (-1) ([] : List ((Int × Int × Int × Int × Int × Int) × Int))) :: blk g6 32 #[.int .i64 g1, .int .i64 g2, .slice A1 g3.length c1] :: blk g4 32 #[.int .i64 v_W1, .int .i64 v_H1, .slice A2 v_Cells1.length c2] :: blk g5 22 #[.slice A3 v1.length c3] :: own 3 (.slice A3 v1.length c3) (vI v1) :: fs) := hS.two
    have hS : Sep w0 B w ((twoB (own 3 (.slice A5 r2.2.2.1.length c5) (vI r2.2.2.1)) noB) :: blk g8 103 #[.int .i64 r2.1, .int .i64 r2.2.1, .slice A5 r2.2.2.1.length c5, .int .i64 r2.2.2.2] :: mapH kf98 (Value.int .i64) g7 (mput (geti r1 0, geti r1 1, geti r1 2, geti r1 3, geti r1 4, geti r1 5) (-1) ([] : List ((Int × Int × Int × Int × Int × Int) × Int))) :: blk g6 32 #[.int .i64 g1, .int .i64 g2, .slice A1 g3.length c1] :: blk g4 32 #[.int .i64 v_W1, .int .i64 v_H1, .slice A2 v_Cells1.length c2] :: blk g5 22 #[.slice A3 v1.length c3] :: own 3 (.slice A3 v1.length c3) (vI v1) :: fs) := hS
    have hS := hS.pickN 7 [1, 0, 2, 3, 4, 5, 6] (by decide)
    have hS : Sep w0 B w ((twoB (blk g8 103 #[.int .i64 r2.1, .int .i64 r2.2.1, .slice A5 r2.2.2.1.length c5, .int .i64 r2.2.2.2]) (twoB (own 3 (.slice A5 r2.2.2.1.length c5) (vI r2.2.2.1)) noB)) :: mapH kf98 (Value.int .i64) g7 (mput (geti r1 0, geti r1 1, geti r1 2, geti r1 3, geti r1 4, geti r1 5) (-1) ([] : List ((Int × Int × Int × Int × Int × Int) × Int))) :: blk g6 32 #[.int .i64 g1, .int .i64 g2, .slice A1 g3.length c1] :: blk g4 32 #[.int .i64 v_W1, .int .i64 v_H1, .slice A2 v_Cells1.length c2] :: blk g5 22 #[.slice A3 v1.length c3] :: own 3 (.slice A3 v1.length c3) (vI v1) :: fs) := hS.two
    refine at_do (d := 20) (s := vS (Instr.buildSlice 94 1 #[(0, .pointer (some ⟨g8, 0, none⟩))])) (v := .slice (some ⟨w.heap.size, 0, none⟩) 1 1) (w' := w.alloc (.cells #[.pointer (some ⟨g8, 0, none⟩)] 100)) hF (by kernel_rfl) (by kernel_rfl) (by kernel_rfl) (fun a hF => ?_)
    have hS : Sep w0 B (w.alloc (.cells #[.pointer (some ⟨g8, 0, none⟩)] 100)) (els encP100 Rel100 (twoB (blk g8 103 #[.int .i64 r2.1, .int .i64 r2.2.1, .slice A5 r2.2.2.1.length c5, .int .i64 r2.2.2.2]) (twoB (own 3 (.slice A5 r2.2.2.1.length c5) (vI r2.2.2.1)) noB)) 100 1 (some (⟨w.heap.size, 0, none⟩ : Addr)) 1 1 ([(g8, (A5, r2.2.2.1.length, c5))] : List (Nat × Hd3)) ([r2] : List (Int × Int × List Int × Int)) :: ((twoB (blk g8 103 #[.int .i64 r2.1, .int .i64 r2.2.1, .slice A5 r2.2.2.1.length c5, .int .i64 r2.2.2.2]) (twoB (own 3 (.slice A5 r2.2.2.1.length c5) (vI r2.2.2.1)) noB)) :: mapH kf98 (Value.int .i64) g7 (mput (geti r1 0, geti r1 1, geti r1 2, geti r1 3, geti r1 4, geti r1 5) (-1) ([] : List ((Int × Int × Int × Int × Int × Int) × Int))) :: blk g6 32 #[.int .i64 g1, .int .i64 g2, .slice A1 g3.length c1] :: blk g4 32 #[.int .i64 v_W1, .int .i64 v_H1, .slice A2 v_Cells1.length c2] :: blk g5 22 #[.slice A3 v1.length c3] :: own 3 (.slice A3 v1.length c3) (vI v1) :: fs)) := Sep.ownEls' (l := []) (hS.litK 100 1 #[.pointer (some ⟨g8, 0, none⟩)] 1 rfl (by omega)) rfl (PAll.cons ⟨(PoolB.of (cs := ([.int .i64 r2.1, .int .i64 r2.2.1, .slice A5 r2.2.2.1.length c5, .int .i64 r2.2.2.2] : List Value)) rfl : PoolB (twoB (blk g8 103 #[.int .i64 r2.1, .int .i64 r2.2.1, .slice A5 r2.2.2.1.length c5, .int .i64 r2.2.2.2]) (twoB (own 3 (.slice A5 r2.2.2.1.length c5) (vI r2.2.2.1)) noB)) g8 ([.int .i64 r2.1, .int .i64 r2.2.1, .slice A5 r2.2.2.1.length c5, .int .i64 r2.2.2.2] : List Value)), SlR.of (PoolW.mono PoolLe.right (PoolW.own : PoolW (twoB (own 3 (.slice A5 r2.2.2.1.length c5) (vI r2.2.2.1)) noB) A5 r2.2.2.1)) hc1⟩ (PAll.nil : PAll Rel100 (twoB (blk g8 103 #[.int .i64 r2.1, .int .i64 r2.2.1, .slice A5 r2.2.2.1.length c5, .int .i64 r2.2.2.2]) (twoB (own 3 (.slice A5 r2.2.2.1.length c5) (vI r2.2.2.1)) noB)) ([] : List (Nat × Hd3)) ([] : List (Int × Int × List Int × Int))))
    generalize (some (⟨w.heap.size, 0, none⟩ : Addr)) = g9 at hF hS
    generalize w.alloc (.cells #[.pointer (some ⟨g8, 0, none⟩)] 100) = w at hS ⊢
    refine at_run 1 [] [] [1, 4, 5] [pl 1 (.func (.func 54) #[] #[.pointer (some ⟨g4, 0, none⟩), .pointer (some ⟨g5, 0, none⟩)]), pl 4 (.map (some g7)), pl 5 (.slice g9 1 1)] hF hS (by kernel_rfl) (by kernel_rfl) ?_ (fun a w hF hS => ?_)
    · exact obs_nil
    refine at_end [1, 4, 5] [pl 1 (.func (.func 54) #[] #[.pointer (some ⟨g4, 0, none⟩), .pointer (some ⟨g5, 0, none⟩)]), pl 4 (.map (some g7)), pl 5 (.slice g9 1 1)] hF rfl (by kernel_rfl) (fun hF => ?_)
    refine then_n ?_
    refine wpIn_block ?_
    have hl1 := (hS.at_ 0 rfl).lenE encPK100
    have hS := (hS.at_ 0 rfl).reNE hl1
    have hS : Sep w0 B w (els encP100 Rel100 (twoB (blk g8 103 #[.int .i64 r2.1, .int .i64 r2.2.1, .slice A5 r2.2.2.1.length c5, .int .i64 r2.2.2.2]) (twoB (own 3 (.slice A5 r2.2.2.1.length c5) (vI r2.2.2.1)) noB)) 100 1 g9 (([r2] : List (Int × Int × List Int × Int)).length) 1 ([(g8, (A5, r2.2.2.1.length, c5))] : List (Nat × Hd3)) ([r2] : List (Int × Int × List Int × Int)) :: (twoB (blk g8 103 #[.int .i64 r2.1, .int .i64 r2.2.1, .slice A5 r2.2.2.1.length c5, .int .i64 r2.2.2.2]) (twoB (own 3 (.slice A5 r2.2.2.1.length c5) (vI r2.2.2.1)) noB)) :: mapH kf98 (Value.int .i64) g7 (mput (geti r1 0, geti r1 1, geti r1 2, geti r1 3, geti r1 4, geti r1 5) (-1) ([] : List ((Int × Int × Int × Int × Int × Int) × Int))) :: blk g6 32 #[.int .i64 g1, .int .i64 g2, .slice A1 g3.length c1] :: blk g4 32 #[.int .i64 v_W1, .int .i64 v_H1, .slice A2 v_Cells1.length c2] :: blk g5 22 #[.slice A3 v1.length c3] :: own 3 (.slice A3 v1.length c3) (vI v1) :: fs) := hS
    have hF := hF.cast (t := 5) (v := .slice g9 1 1) (v' := .slice g9 (([r2] : List (Int × Int × List Int × Int)).length) 1) rfl rfl (congrArg (fun k => Value.slice g9 k 1) hl1)
    have hS := hS.pickN 7 [4, 5, 6, 2, 1, 0] (by decide)
    refine wp_loop_model (S := (List Int × List ((Int × Int × Int × Int × Int × Int) × Int) × List (Int × Int × List Int × Int))) (R := (List Int)) (slide_rings_L1 v_W1 v_H1 v_Cells1) (fun x => (slide_rings_K1 x).bind some) r (fun (x : (List Int × List ((Int × Int × Int × Int × Int × Int) × Int) × List (Int × Int × List Int × Int))) a w => ∃ (A6 : Option Addr) (c6 : Nat) (pg1 : HP) (raw1 : List (Nat × Hd3)) (A7 : Option Addr) (c7 : Nat), Fr 91 [pl 1 (.func (.func 54) #[] #[.pointer (some ⟨g4, 0, none⟩), .pointer (some ⟨g5, 0, none⟩)]), pl 4 (.map (some g7)), pl 5 (.slice A7 x.2.2.length c7)] a ∧ Sep w0 B w (blk g4 32 #[.int .i64 v_W1, .int .i64 v_H1, .slice A2 v_Cells1.length c2] :: blk g5 22 #[.slice A6 x.1.length c6] :: own 3 (.slice A6 x.1.length c6) (vI x.1) :: mapH kf98 (Value.int .i64) g7 x.2.1 :: pg1 :: els encP100 Rel100 pg1 100 1 A7 x.2.2.length c7 raw1 x.2.2 :: fs)) (assoc_b hm) ⟨A3, c3, (twoB (blk g8 103 #[.int .i64 r2.1, .int .i64 r2.2.1, .slice A5 r2.2.2.1.length c5, .int .i64 r2.2.2.2]) (twoB (own 3 (.slice A5 r2.2.2.1.length c5) (vI r2.2.2.1)) noB)), ([(g8, (A5, r2.2.2.1.length, c5))] : List (Nat × Hd3)), g9, 1, hF.weak [1, 4, 5] (by kernel_rfl), hS⟩ ?_
    clear hF hS hm
    rintro nn1 ⟨tell1, came1, ring1⟩ a w ⟨A6, c6, pg1, raw1, A7, c7, hF, hS⟩ hm
    generalize hφ1 : stK (slide_rings_L1 v_W1 v_H1 v_Cells1) nn1 (fun x => (slide_rings_K1 x).bind some) = φ1 at hm
    unfold slide_rings_L1 at hm
    dsimp only at hF hS hm
    refine seq_cut (fun a w => ∃ (tell3 : List Int) (A10 : Option Addr) (c10 : Nat), Fr 91 [pl 1 (.func (.func 54) #[] #[.pointer (some ⟨g4, 0, none⟩), .pointer (some ⟨g5, 0, none⟩)]), pl 4 (.map (some g7)), pl 5 (.slice A7 ring1.length c7)] a ∧ Sep w0 B w (blk g4 32 #[.int .i64 v_W1, .int .i64 v_H1, .slice A2 v_Cells1.length c2] :: blk g5 22 #[.slice A10 tell3.length c10] :: own 3 (.slice A10 tell3.length c10) (vI tell3) :: mapH kf98 (Value.int .i64) g7 came1 :: (twoB (els encP100 Rel100 pg1 100 1 A7 ring1.length c7 raw1 ring1) pg1) :: fs) ∧ PoolE encP100 Rel100 (twoB (els encP100 Rel100 pg1 100 1 A7 ring1.length c7 raw1 ring1) pg1) A7 raw1 ring1 ∧ ring1.length ≤ c7 ∧ ((slide_rings_J2 came1 ring1) tell3).bind φ1 = some r) ?_ ?_
    · rintro a w ⟨tell3, A10, c10, hF, hS, hp2, hc5, hm⟩
      unfold slide_rings_J2 at hm
      refine wpIn_block ?_
      refine reg [] [] [1, 4, 5, 6] [pl 1 (.func (.func 54) #[] #[.pointer (some ⟨g4, 0, none⟩), .pointer (some ⟨g5, 0, none⟩)]), pl 4 (.map (some g7)), pl 5 (.slice A7 ring1.length c7), pl 6 (.slice none 0 0)] hF hS Fol (by kernel_rfl) (by kernel_rfl) (by kernel_rfl) ?_ (fun a w hF hS => ?_)
      · exact obs_nil
      refine seq_cut (fun a w => ∃ (came3 : List ((Int × Int × Int × Int × Int × Int) × Int)) (next2 : List (Int × Int × List Int × Int)) (pg3 : HP) (raw4 : List (Nat × Hd3)) (A14 : Option Addr) (c14 : Nat), Fr 91 [pl 1 (.func (.func 54) #[] #[.pointer (some ⟨g4, 0, none⟩), .pointer (some ⟨g5, 0, none⟩)]), pl 4 (.map (some g7)), pl 6 (.slice A14 next2.length c14)] a ∧ Sep w0 B w (blk g4 32 #[.int .i64 v_W1, .int .i64 v_H1, .slice A2 v_Cells1.length c2] :: blk g5 22 #[.slice A10 tell3.length c10] :: own 3 (.slice A10 tell3.length c10) (vI tell3) :: mapH kf98 (Value.int .i64) g7 came3 :: pg3 :: els encP100 Rel100 pg3 100 1 A14 next2.length c14 raw4 next2 :: fs) ∧ ((slide_rings_J4 tell3) came3 next2).bind φ1 = some r) ?_ ?_
      · rintro a w ⟨came3, next2, pg3, raw4, A14, c14, hF, hS, hm⟩
        unfold slide_rings_J4 at hm
        refine reg1 [] [] [1, 4, 5] [pl 1 (.func (.func 54) #[] #[.pointer (some ⟨g4, 0, none⟩), .pointer (some ⟨g5, 0, none⟩)]), pl 4 (.map (some g7)), pl 5 (.slice A14 next2.length c14)] hF hS Fol (by kernel_rfl) (by kernel_rfl) (by kernel_rfl) ?_ (fun a w hF hS => ?_)
        · exact obs_nil
        refine block_n ?_
        refine then_n ?_
        rw [← hφ1] at hm
        exact ⟨(tell3, came3, next2), ⟨A10, c10, pg3, raw4, A14, c14, hF.weak [1, 4, 5] (by kernel_rfl), hS⟩, hm⟩
      · refine reg [] [] [1, 4, 6, 30, 31, 32] [pl 1 (.func (.func 54) #[] #[.pointer (some ⟨g4, 0, none⟩), .pointer (some ⟨g5, 0, none⟩)]), pl 4 (.map (some g7)), pl 6 (.slice none 0 0), pl 30 (.slice A7 ring1.length c7), pl 31 (.int .i64 (ring1.length : Int)), pl 32 (.int .i64 0)] hF hS Fol (by kernel_rfl) (by kernel_rfl) (by kernel_rfl) ?_ (fun a w hF hS => ?_)
        · exact obs_nil
        refine wpIn_block ?_
        have hS : Sep w0 B w (els encP100 Rel100 (twoB (els encP100 Rel100 pg1 100 1 A7 ring1.length c7 raw1 ring1) pg1) 100 1 none 0 0 ([] : List (Nat × Hd3)) ([] : List (Int × Int × List Int × Int)) :: blk g4 32 #[.int .i64 v_W1, .int .i64 v_H1, .slice A2 v_Cells1.length c2] :: blk g5 22 #[.slice A10 tell3.length c10] :: own 3 (.slice A10 tell3.length c10) (vI tell3) :: mapH kf98 (Value.int .i64) g7 came1 :: (twoB (els encP100 Rel100 pg1 100 1 A7 ring1.length c7 raw1 ring1) pg1) :: fs) := hS.nilE encP100 Rel100 (twoB (els encP100 Rel100 pg1 100 1 A7 ring1.length c7 raw1 ring1) pg1) 100 1
        have hl2 := (hS.at_ 0 rfl).lenE encPK100
        have hS := (hS.at_ 0 rfl).reNE hl2
        have hS : Sep w0 B w (els encP100 Rel100 (twoB (els encP100 Rel100 pg1 100 1 A7 ring1.length c7 raw1 ring1) pg1) 100 1 none (([] : List (Int × Int × List Int × Int)).length) 0 ([] : List (Nat × Hd3)) ([] : List (Int × Int × List Int × Int)) :: blk g4 32 #[.int .i64 v_W1, .int .i64 v_H1, .slice A2 v_Cells1.length c2] :: blk g5 22 #[.slice A10 tell3.length c10] :: own 3 (.slice A10 tell3.length c10) (vI tell3) :: mapH kf98 (Value.int .i64) g7 came1 :: (twoB (els encP100 Rel100 pg1 100 1 A7 ring1.length c7 raw1 ring1) pg1) :: fs) := hS
        have hF := hF.cast (t := 6) (v := .slice none 0 0) (v' := .slice none (([] : List (Int × Int × List Int × Int)).length) 0) rfl rfl (congrArg (fun k => Value.slice none k 0) hl2)
        have hS := hS.pickN 6 [1, 2, 3, 4, 5, 0] (by decide)
        refine wp_loop_model (S := (List ((Int × Int × Int × Int × Int × Int) × Int) × List (Int × Int × List Int × Int) × List (Int × Int × List Int × Int) × Int)) (R := (List ((Int × Int × Int × Int × Int × Int) × Int) × List (Int × Int × List Int × Int))) (slide_rings_L2 ring1) (fun x => ((slide_rings_K2 tell3) x).bind φ1) r (fun (x : (List ((Int × Int × Int × Int × Int × Int) × Int) × List (Int × Int × List Int × Int) × List (Int × Int × List Int × Int) × Int)) a w => ∃ (pg2 : HP) (A12 : Option Addr) (c12 : Nat) (raw2 : List (Nat × Hd3)) (A13 : Option Addr) (c13 : Nat) (raw3 : List (Nat × Hd3)), Fr 91 [pl 1 (.func (.func 54) #[] #[.pointer (some ⟨g4, 0, none⟩), .pointer (some ⟨g5, 0, none⟩)]), pl 4 (.map (some g7)), pl 6 (.slice A12 x.2.1.length c12), pl 30 (.slice A13 x.2.2.1.length c13), pl 31 (.int .i64 (ring1.length : Int)), pl 32 (.int .i64 x.2.2.2)] a ∧ Sep w0 B w (blk g4 32 #[.int .i64 v_W1, .int .i64 v_H1, .slice A2 v_Cells1.length c2] :: blk g5 22 #[.slice A10 tell3.length c10] :: own 3 (.slice A10 tell3.length c10) (vI tell3) :: mapH kf98 (Value.int .i64) g7 x.1 :: pg2 :: els encP100 Rel100 pg2 100 1 A12 x.2.1.length c12 raw2 x.2.1 :: fs) ∧ PoolE encP100 Rel100 pg2 A13 raw3 x.2.2.1 ∧ x.2.2.1.length ≤ c13) (assoc_b hm) ⟨(twoB (els encP100 Rel100 pg1 100 1 A7 ring1.length c7 raw1 ring1) pg1), none, 0, ([] : List (Nat × Hd3)), A7, c7, raw1, hF.weak [1, 4, 6, 30, 31, 32] (by kernel_rfl), hS, hp2, hc5⟩ ?_
        clear hF hS hm
        rintro nn2 ⟨came2, next1, z2, z3⟩ a w ⟨pg2, A12, c12, raw2, A13, c13, raw3, hF, hS, hp3, hc6⟩ hm
        generalize hφ2 : stK (slide_rings_L2 ring1) nn2 (fun x => ((slide_rings_K2 tell3) x).bind φ1) = φ2 at hm
        unfold slide_rings_L2 at hm
        dsimp only at hF hS hm
        refine reg [] [] [1, 4, 6, 30, 31, 32, 33] [pl 1 (.func (.func 54) #[] #[.pointer (some ⟨g4, 0, none⟩), .pointer (some ⟨g5, 0, none⟩)]), pl 4 (.map (some g7)), pl 6 (.slice A12 next1.length c12), pl 30 (.slice A13 z2.length c13), pl 31 (.int .i64 (ring1.length : Int)), pl 32 (.int .i64 z3), pl 33 (.bool (decide (z3 < (ring1.length : Int))))] hF hS Fol (by kernel_rfl) (by kernel_rfl) (by kernel_rfl) ?_ (fun a w hF hS => ?_)
        · exact obs_nil
        refine seq_cut (fun a w => Fr 91 [pl 1 (.func (.func 54) #[] #[.pointer (some ⟨g4, 0, none⟩), .pointer (some ⟨g5, 0, none⟩)]), pl 4 (.map (some g7)), pl 6 (.slice A12 next1.length c12), pl 30 (.slice A13 z2.length c13), pl 31 (.int .i64 (ring1.length : Int)), pl 32 (.int .i64 z3)] a ∧ Sep w0 B w (blk g4 32 #[.int .i64 v_W1, .int .i64 v_H1, .slice A2 v_Cells1.length c2] :: blk g5 22 #[.slice A10 tell3.length c10] :: own 3 (.slice A10 tell3.length c10) (vI tell3) :: mapH kf98 (Value.int .i64) g7 came2 :: pg2 :: els encP100 Rel100 pg2 100 1 A12 next1.length c12 raw2 next1 :: fs) ∧ ((slide_rings_J5 came2 next1 z2 z3)).bind φ2 = some r) ?_ ?_
        · rintro a w ⟨hF, hS, hm⟩
          unfold slide_rings_J5 at hm
          refine seq_cut (fun a w => ∃ (came5 : List ((Int × Int × Int × Int × Int × Int) × Int)) (next4 : List (Int × Int × List Int × Int)) (z6 : List (Int × Int × List Int × Int)) (pg5 : HP) (raw7 : List (Nat × Hd3)) (A17 : Option Addr) (c17 : Nat) (A18 : Option Addr) (c18 : Nat) (raw8 : List (Nat × Hd3)), Fr 91 [pl 1 (.func (.func 54) #[] #[.pointer (some ⟨g4, 0, none⟩), .pointer (some ⟨g5, 0, none⟩)]), pl 4 (.map (some g7)), pl 6 (.slice A17 next4.length c17), pl 30 (.slice A18 z6.length c18), pl 31 (.int .i64 (ring1.length : Int)), pl 32 (.int .i64 z3)] a ∧ Sep w0 B w (blk g4 32 #[.int .i64 v_W1, .int .i64 v_H1, .slice A2 v_Cells1.length c2] :: blk g5 22 #[.slice A10 tell3.length c10] :: own 3 (.slice A10 tell3.length c10) (vI tell3) :: mapH kf98 (Value.int .i64) g7 came5 :: pg5 :: els encP100 Rel100 pg5 100 1 A17 next4.length c17 raw7 next4 :: fs) ∧ PoolE encP100 Rel100 pg5 A18 raw8 z6 ∧ z6.length ≤ c18 ∧ ((slide_rings_J6 z3) came5 next4 z6).bind φ2 = some r) ?_ ?_
          · rintro a w ⟨came5, next4, z6, pg5, raw7, A17, c17, A18, c18, raw8, hF, hS, hp8, hc10, hm⟩
            unfold slide_rings_J6 at hm
            refine reg1 [] [] [1, 4, 6, 30, 31, 32] [pl 1 (.func (.func 54) #[] #[.pointer (some ⟨g4, 0, none⟩), .pointer (some ⟨g5, 0, none⟩)]), pl 4 (.map (some g7)), pl 6 (.slice A17 next4.length c17), pl 30 (.slice A18 z6.length c18), pl 31 (.int .i64 (ring1.length : Int)), pl 32 (.int .i64 (w64 (z3 + 1)))] hF hS Fol (by kernel_rfl) (by kernel_rfl) (by kernel_rfl) ?_ (fun a w hF hS => ?_)
            · exact obs_nil
            refine then_n ?_
            rw [← hφ2] at hm
            exact ⟨(came5, next4, z6, (w64 (z3 + 1))), ⟨pg5, A17, c17, raw7, A18, c18, raw8, hF.weak [1, 4, 6, 30, 31, 32] (by kernel_rfl), hS, hp8, hc10⟩, hm⟩
          · refine wpIn_block ?_
            obtain ⟨hp4, hm⟩ := asrt_b hm
            refine reg [⟨true, [], vS (Instr.indexAt 94 (.slice A13 z2.length c13) (.int .i64 z3)), .pointer (some (sAddrK A13 1 z3))⟩, ⟨false, [], vS (Instr.loadAt 100 (.pointer (some (Addr.add (sAddrK A13 1 z3) 0)))), .pointer (some ⟨(getd rzP100 raw3 z3).1, 0, none⟩)⟩] [some (.pointer (some (sAddrK A13 1 z3))), some (.pointer (some ⟨(getd rzP100 raw3 z3).1, 0, none⟩)), none] [1, 4, 6, 8, 30, 31, 32] [pl 1 (.func (.func 54) #[] #[.pointer (some ⟨g4, 0, none⟩), .pointer (some ⟨g5, 0, none⟩)]), pl 4 (.map (some g7)), pl 6 (.slice A12 next1.length c12), pl 8 (.pointer (some ⟨(getd rzP100 raw3 z3).1, 0, none⟩)), pl 30 (.slice A13 z2.length c13), pl 31 (.int .i64 (ring1.length : Int)), pl 32 (.int .i64 z3)] hF hS Fol (by kernel_rfl) (by kernel_rfl) (by kernel_rfl) ?_ (fun a w hF hS => ?_)
            · exact obs_cons (ob_ixK (m := raw3) encPK100 Und94 hi100 hs100 (hp3.at_ hS 4 rfl) hp3.2.lenS (fun _ => hp4)) <| obs_cons (ob_getPF (n := z2.length) (raw := raw3) (j := 0) encPK100 rzP100 Agg100 (fun _ hS => ⟨_, (hp3.at_ hS 4 rfl)⟩) (fun _ hS => hp3.2.lenS) (fun _ => hp4) (by decide) (val100 (PAll.atM rzP100 zP100 hp3.2 hp4)) rfl) <| obs_nil
            refine reg [] [] [1, 4, 6, 8, 30, 31, 32, 36] [pl 1 (.func (.func 54) #[] #[.pointer (some ⟨g4, 0, none⟩), .pointer (some ⟨g5, 0, none⟩)]), pl 4 (.map (some g7)), pl 6 (.slice A12 next1.length c12), pl 8 (.pointer (some ⟨(getd rzP100 raw3 z3).1, 0, none⟩)), pl 30 (.slice A13 z2.length c13), pl 31 (.int .i64 (ring1.length : Int)), pl 32 (.int .i64 z3), pl 36 (.int .i64 0)] hF hS Fol (by kernel_rfl) (by kernel_rfl) (by kernel_rfl) ?_ (fun a w hF hS => ?_)
            · exact obs_nil
            refine wpIn_block ?_
            refine wp_loop_model (S := (List ((Int × Int × Int × Int × Int × Int) × Int) × List (Int × Int × List Int × Int) × List (Int × Int × List Int × Int) × Int)) (R := (List ((Int × Int × Int × Int × Int × Int) × Int) × List (Int × Int × List Int × Int) × List (Int × Int × List Int × Int))) (slide_rings_L3 z2 z3) (fun x => ((slide_rings_K3 z3) x).bind φ2) r (fun (x : (List ((Int × Int × Int × Int × Int × Int) × Int) × List (Int × Int × List Int × Int) × List (Int × Int × List Int × Int) × Int)) a w => ∃ (pg4 : HP) (raw5 : List (Nat × Hd3)) (A15 : Option Addr) (c15 : Nat) (A16 : Option Addr) (c16 : Nat) (raw6 : List (Nat × Hd3)), Fr 91 [pl 1 (.func (.func 54) #[] #[.pointer (some ⟨g4, 0, none⟩), .pointer (some ⟨g5, 0, none⟩)]), pl 4 (.map (some g7)), pl 6 (.slice A15 x.2.1.length c15), pl 8 (.pointer (some ⟨(getd rzP100 raw3 z3).1, 0, none⟩)), pl 30 (.slice A16 x.2.2.1.length c16), pl 31 (.int .i64 (ring1.length : Int)), pl 32 (.int .i64 z3), pl 36 (.int .i64 x.2.2.2)] a ∧ Sep w0 B w (blk g4 32 #[.int .i64 v_W1, .int .i64 v_H1, .slice A2 v_Cells1.length c2] :: blk g5 22 #[.slice A10 tell3.length c10] :: own 3 (.slice A10 tell3.length c10) (vI tell3) :: mapH kf98 (Value.int .i64) g7 x.1 :: pg4 :: els encP100 Rel100 pg4 100 1 A15 x.2.1.length c15 raw5 x.2.1 :: fs) ∧ PoolB pg4 ((getd rzP100 raw3 z3).1) ([.int .i64 ((getd zP100 z2 z3).1), .int .i64 ((getd zP100 z2 z3).2.1), .slice ((getd rzP100 raw3 z3).2.1) (((getd zP100 z2 z3).2.2.1).length) ((getd rzP100 raw3 z3).2.2.2), .int .i64 ((getd zP100 z2 z3).2.2.2)] : List Value) ∧ True ∧ PoolW pg4 ((getd rzP100 raw3 z3).2.1) ((getd zP100 z2 z3).2.2.1) ∧ ((getd zP100 z2 z3).2.2.1).length ≤ (getd rzP100 raw3 z3).2.2.2 ∧ PoolE encP100 Rel100 pg4 A16 raw6 x.2.2.1 ∧ x.2.2.1.length ≤ c16) (assoc_b hm) ⟨pg2, raw2, A12, c12, A13, c13, raw3, hF.weak [1, 4, 6, 8, 30, 31, 32, 36] (by kernel_rfl), hS, (PAll.atM rzP100 zP100 hp3.2 hp4).1, trivial, (PAll.atM rzP100 zP100 hp3.2 hp4).2.2.2, (PAll.atM rzP100 zP100 hp3.2 hp4).2.2.1, hp3, hc6⟩ ?_
            clear hF hS hm
            rintro nn3 ⟨came4, next3, z4, z5⟩ a w ⟨pg4, raw5, A15, c15, A16, c16, raw6, hF, hS, hp5, hc7, hp6, hc8, hp7, hc9⟩ hm
            generalize hφ3 : stK (slide_rings_L3 z2 z3) nn3 (fun x => ((slide_rings_K3 z3) x).bind φ2) = φ3 at hm
            unfold slide_rings_L3 at hm
            dsimp only at hF hS hm
            refine reg [] [] [1, 4, 6, 8, 30, 31, 32, 36, 37] [pl 1 (.func (.func 54) #[] #[.pointer (some ⟨g4, 0, none⟩), .pointer (some ⟨g5, 0, none⟩)]), pl 4 (.map (some g7)), pl 6 (.slice A15 next3.length c15), pl 8 (.pointer (some ⟨(getd rzP100 raw3 z3).1, 0, none⟩)), pl 30 (.slice A16 z4.length c16), pl 31 (.int .i64 (ring1.length : Int)), pl 32 (.int .i64 z3), pl 36 (.int .i64 z5), pl 37 (.bool (decide (z5 < 4)))] hF hS Fol (by kernel_rfl) (by kernel_rfl) (by kernel_rfl) ?_ (fun a w hF hS => ?_)
            · exact obs_nil
            refine seq_cut (fun a w => Fr 91 [pl 1 (.func (.func 54) #[] #[.pointer (some ⟨g4, 0, none⟩), .pointer (some ⟨g5, 0, none⟩)]), pl 4 (.map (some g7)), pl 6 (.slice A15 next3.length c15), pl 8 (.pointer (some ⟨(getd rzP100 raw3 z3).1, 0, none⟩)), pl 30 (.slice A16 z4.length c16), pl 31 (.int .i64 (ring1.length : Int)), pl 32 (.int .i64 z3), pl 36 (.int .i64 z5)] a ∧ Sep w0 B w (blk g4 32 #[.int .i64 v_W1, .int .i64 v_H1, .slice A2 v_Cells1.length c2] :: blk g5 22 #[.slice A10 tell3.length c10] :: own 3 (.slice A10 tell3.length c10) (vI tell3) :: mapH kf98 (Value.int .i64) g7 came4 :: pg4 :: els encP100 Rel100 pg4 100 1 A15 next3.length c15 raw5 next3 :: fs) ∧ ((slide_rings_J7 z2 z3 came4 next3 z4 z5)).bind φ3 = some r) ?_ ?_
            · rintro a w ⟨hF, hS, hm⟩
              unfold slide_rings_J7 at hm
              refine seq_cut (fun a w => ∃ (came6 : List ((Int × Int × Int × Int × Int × Int) × Int)) (next5 : List (Int × Int × List Int × Int)) (z7 : List (Int × Int × List Int × Int)) (pg6 : HP) (raw9 : List (Nat × Hd3)) (A20 : Option Addr) (c20 : Nat) (A21 : Option Addr) (c21 : Nat) (raw10 : List (Nat × Hd3)), Fr 91 [pl 1 (.func (.func 54) #[] #[.pointer (some ⟨g4, 0, none⟩), .pointer (some ⟨g5, 0, none⟩)]), pl 4 (.map (some g7)), pl 6 (.slice A20 next5.length c20), pl 8 (.pointer (some ⟨(getd rzP100 raw3 z3).1, 0, none⟩)), pl 30 (.slice A21 z7.length c21), pl 31 (.int .i64 (ring1.length : Int)), pl 32 (.int .i64 z3), pl 36 (.int .i64 z5)] a ∧ Sep w0 B w (blk g4 32 #[.int .i64 v_W1, .int .i64 v_H1, .slice A2 v_Cells1.length c2] :: blk g5 22 #[.slice A10 tell3.length c10] :: own 3 (.slice A10 tell3.length c10) (vI tell3) :: mapH kf98 (Value.int .i64) g7 came6 :: pg6 :: els encP100 Rel100 pg6 100 1 A20 next5.length c20 raw9 next5 :: fs) ∧ PoolB pg6 ((getd rzP100 raw3 z3).1) ([.int .i64 ((getd zP100 z2 z3).1), .int .i64 ((getd zP100 z2 z3).2.1), .slice ((getd rzP100 raw3 z3).2.1) (((getd zP100 z2 z3).2.2.1).length) ((getd rzP100 raw3 z3).2.2.2), .int .i64 ((getd zP100 z2 z3).2.2.2)] : List Value) ∧ True ∧ PoolW pg6 ((getd rzP100 raw3 z3).2.1) ((getd zP100 z2 z3).2.2.1) ∧ ((getd zP100 z2 z3).2.2.1).length ≤ (getd rzP100 raw3 z3).2.2.2 ∧ PoolE encP100 Rel100 pg6 A21 raw10 z7 ∧ z7.length ≤ c21 ∧ ((slide_rings_J8 z5) came6 next5 z7).bind φ3 = some r) ?_ ?_
              · rintro a w ⟨came6, next5, z7, pg6, raw9, A20, c20, A21, c21, raw10, hF, hS, hp9, hc11, hp10, hc12, hp11, hc13, hm⟩
                unfold slide_rings_J8 at hm
                refine reg1 [] [] [1, 4, 6, 8, 30, 31, 32, 36] [pl 1 (.func (.func 54) #[] #[.pointer (some ⟨g4, 0, none⟩), .pointer (some ⟨g5, 0, none⟩)]), pl 4 (.map (some g7)), pl 6 (.slice A20 next5.length c20), pl 8 (.pointer (some ⟨(getd rzP100 raw3 z3).1, 0, none⟩)), pl 30 (.slice A21 z7.length c21), pl 31 (.int .i64 (ring1.length : Int)), pl 32 (.int .i64 z3), pl 36 (.int .i64 (w64 (z5 + 1)))] hF hS Fol (by kernel_rfl) (by kernel_rfl) (by kernel_rfl) ?_ (fun a w hF hS => ?_)
                · exact obs_nil
                refine then_n ?_
                rw [← hφ3] at hm
                exact ⟨(came6, next5, z7, (w64 (z5 + 1))), ⟨pg6, raw9, A20, c20, A21, c21, raw10, hF.weak [1, 4, 6, 8, 30, 31, 32, 36] (by kernel_rfl), hS, hp9, trivial, hp10, hc12, hp11, hc13⟩, hm⟩
              · refine wpIn_block ?_
                refine reg [] [] [1, 4, 6, 8, 9, 30, 31, 32, 36] [pl 1 (.func (.func 54) #[] #[.pointer (some ⟨g4, 0, none⟩), .pointer (some ⟨g5, 0, none⟩)]), pl 4 (.map (some g7)), pl 6 (.slice A15 next3.length c15), pl 8 (.pointer (some ⟨(getd rzP100 raw3 z3).1, 0, none⟩)), pl 9 (.int .i64 z5), pl 30 (.slice A16 z4.length c16), pl 31 (.int .i64 (ring1.length : Int)), pl 32 (.int .i64 z3), pl 36 (.int .i64 z5)] hF hS Fol (by kernel_rfl) (by kernel_rfl) (by kernel_rfl) ?_ (fun a w hF hS => ?_)
                · exact obs_nil
                refine wpIn_seq ?_
                refine regMix4 [0, 1, 2, 3, 4, 5, 6, 7, 8] [9, 10] [⟨false, [], vS (Instr.loadAt 32 (.pointer (some ⟨(getd rzP100 raw3 z3).1, 0, none⟩))), .agg #[.int .i64 ((getd zP100 z2 z3).1), .int .i64 ((getd zP100 z2 z3).2.1), .slice ((getd rzP100 raw3 z3).2.1) (((getd zP100 z2 z3).2.2.1).length) ((getd rzP100 raw3 z3).2.2.2)]⟩, ⟨false, [], vS (Instr.loadAt 3 (.pointer (some ⟨(getd rzP100 raw3 z3).1, 3, none⟩))), .int .i64 ((getd zP100 z2 z3).2.2.2)⟩] [none, none, none, some (.agg #[.int .i64 ((getd zP100 z2 z3).1), .int .i64 ((getd zP100 z2 z3).2.1), .slice ((getd rzP100 raw3 z3).2.1) (((getd zP100 z2 z3).2.2.1).length) ((getd rzP100 raw3 z3).2.2.2)]), none, none, none, some (.int .i64 ((getd zP100 z2 z3).2.2.2)), none] [1, 4, 6, 8, 9, 30, 31, 32, 36, 47] [pl 1 (.func (.func 54) #[] #[.pointer (some ⟨g4, 0, none⟩), .pointer (some ⟨g5, 0, none⟩)]), pl 4 (.map (some g7)), pl 6 (.slice A15 next3.length c15), pl 8 (.pointer (some ⟨(getd rzP100 raw3 z3).1, 0, none⟩)), pl 9 (.int .i64 z5), pl 30 (.slice A16 z4.length c16), pl 31 (.int .i64 (ring1.length : Int)), pl 32 (.int .i64 z3), pl 36 (.int .i64 z5), pl 47 (.agg #[.int .i64 ((getd zP100 z2 z3).1), .int .i64 ((getd zP100 z2 z3).2.1), .slice ((getd rzP100 raw3 z3).2.1) (((getd zP100 z2 z3).2.2.1).length) ((getd rzP100 raw3 z3).2.2.2), .int .i64 ((getd zP100 z2 z3).2.2.2)])] hF hS Fol (by kernel_rfl) (by kernel_rfl) (by kernel_rfl) (by kernel_rfl) (by kernel_rfl) ?_ (fun a w hF hS => ?_)
                · exact obs_cons (ob_loadPA (cs := ([.int .i64 ((getd zP100 z2 z3).1), .int .i64 ((getd zP100 z2 z3).2.1), .slice ((getd rzP100 raw3 z3).2.1) (((getd zP100 z2 z3).2.2.1).length) ((getd rzP100 raw3 z3).2.2.2), .int .i64 ((getd zP100 z2 z3).2.2.2)] : List Value)) (us := ([.int .i64 ((getd zP100 z2 z3).1), .int .i64 ((getd zP100 z2 z3).2.1), .slice ((getd rzP100 raw3 z3).2.1) (((getd zP100 z2 z3).2.2.1).length) ((getd rzP100 raw3 z3).2.2.2)] : List Value)) (k := 3) (by kernel_rfl) (by kernel_rfl) rfl (fun _ hS => PoolB.at_ (cs := ([.int .i64 ((getd zP100 z2 z3).1), .int .i64 ((getd zP100 z2 z3).2.1), .slice ((getd rzP100 raw3 z3).2.1) (((getd zP100 z2 z3).2.2.1).length) ((getd rzP100 raw3 z3).2.2.2), .int .i64 ((getd zP100 z2 z3).2.2.2)] : List Value)) hp5 hS 4 rfl) (fun j v hv => by match j, hv with | 0, hv => exact hv | 1, hv => exact hv | 2, hv => exact hv | j + 3, hv => simp at hv)) <| obs_cons (ob_loadP (cs := ([.int .i64 ((getd zP100 z2 z3).1), .int .i64 ((getd zP100 z2 z3).2.1), .slice ((getd rzP100 raw3 z3).2.1) (((getd zP100 z2 z3).2.2.1).length) ((getd rzP100 raw3 z3).2.2.2), .int .i64 ((getd zP100 z2 z3).2.2.2)] : List Value)) Agg3 (fun _ hS => PoolB.at_ (cs := ([.int .i64 ((getd zP100 z2 z3).1), .int .i64 ((getd zP100 z2 z3).2.1), .slice ((getd rzP100 raw3 z3).2.1) (((getd zP100 z2 z3).2.2.1).length) ((getd rzP100 raw3 z3).2.2.2), .int .i64 ((getd zP100 z2 z3).2.2.2)] : List Value)) hp5 hS 4 rfl) rfl) <| obs_nil
                refine at_do (d := 48) (s := vS (Instr.box 103 (.agg #[.int .i64 ((getd zP100 z2 z3).1), .int .i64 ((getd zP100 z2 z3).2.1), .slice ((getd rzP100 raw3 z3).2.1) (((getd zP100 z2 z3).2.2.1).length) ((getd rzP100 raw3 z3).2.2.2), .int .i64 ((getd zP100 z2 z3).2.2.2)]))) (v := .pointer (some ⟨w.heap.size, 0, none⟩)) (w' := w.alloc (.cells #[.int .i64 ((getd zP100 z2 z3).1), .int .i64 ((getd zP100 z2 z3).2.1), .slice ((getd rzP100 raw3 z3).2.1) (((getd zP100 z2 z3).2.2.1).length) ((getd rzP100 raw3 z3).2.2.2), .int .i64 ((getd zP100 z2 z3).2.2.2)] 103)) hF (by kernel_rfl) (by kernel_rfl) (by kernel_rfl) (fun a hF => ?_)
                have hS : Sep w0 B (w.alloc (.cells #[.int .i64 ((getd zP100 z2 z3).1), .int .i64 ((getd zP100 z2 z3).2.1), .slice ((getd rzP100 raw3 z3).2.1) (((getd zP100 z2 z3).2.2.1).length) ((getd rzP100 raw3 z3).2.2.2), .int .i64 ((getd zP100 z2 z3).2.2.2)] 103)) (blk w.heap.size 103 #[.int .i64 ((getd zP100 z2 z3).1), .int .i64 ((getd zP100 z2 z3).2.1), .slice ((getd rzP100 raw3 z3).2.1) (((getd zP100 z2 z3).2.2.1).length) ((getd rzP100 raw3 z3).2.2.2), .int .i64 ((getd zP100 z2 z3).2.2.2)] :: (blk g4 32 #[.int .i64 v_W1, .int .i64 v_H1, .slice A2 v_Cells1.length c2] :: blk g5 22 #[.slice A10 tell3.length c10] :: own 3 (.slice A10 tell3.length c10) (vI tell3) :: mapH kf98 (Value.int .i64) g7 came4 :: pg4 :: els encP100 Rel100 pg4 100 1 A15 next3.length c15 raw5 next3 :: fs)) := hS.box 103 #[.int .i64 ((getd zP100 z2 z3).1), .int .i64 ((getd zP100 z2 z3).2.1), .slice ((getd rzP100 raw3 z3).2.1) (((getd zP100 z2 z3).2.2.1).length) ((getd rzP100 raw3 z3).2.2.2), .int .i64 ((getd zP100 z2 z3).2.2.2)]
                generalize w.heap.size = g10 at hF hS
                generalize w.alloc (.cells #[.int .i64 ((getd zP100 z2 z3).1), .int .i64 ((getd zP100 z2 z3).2.1), .slice ((getd rzP100 raw3 z3).2.1) (((getd zP100 z2 z3).2.2.1).length) ((getd rzP100 raw3 z3).2.2.2), .int .i64 ((getd zP100 z2 z3).2.2.2)] 103) = w at hS ⊢
                refine at_run 1 [] [] [1, 4, 6, 8, 9, 10, 30, 31, 32, 36] [pl 1 (.func (.func 54) #[] #[.pointer (some ⟨g4, 0, none⟩), .pointer (some ⟨g5, 0, none⟩)]), pl 4 (.map (some g7)), pl 6 (.slice A15 next3.length c15), pl 8 (.pointer (some ⟨(getd rzP100 raw3 z3).1, 0, none⟩)), pl 9 (.int .i64 z5), pl 10 (.pointer (some ⟨g10, 0, none⟩)), pl 30 (.slice A16 z4.length c16), pl 31 (.int .i64 (ring1.length : Int)), pl 32 (.int .i64 z3), pl 36 (.int .i64 z5)] hF hS (by kernel_rfl) (by kernel_rfl) ?_ (fun a w hF hS => ?_)
                · exact obs_nil
                refine at_end [1, 4, 6, 8, 9, 10, 30, 31, 32, 36] [pl 1 (.func (.func 54) #[] #[.pointer (some ⟨g4, 0, none⟩), .pointer (some ⟨g5, 0, none⟩)]), pl 4 (.map (some g7)), pl 6 (.slice A15 next3.length c15), pl 8 (.pointer (some ⟨(getd rzP100 raw3 z3).1, 0, none⟩)), pl 9 (.int .i64 z5), pl 10 (.pointer (some ⟨g10, 0, none⟩)), pl 30 (.slice A16 z4.length c16), pl 31 (.int .i64 (ring1.length : Int)), pl 32 (.int .i64 z3), pl 36 (.int .i64 z5)] hF rfl (by kernel_rfl) (fun hF => ?_)
                refine np_n ?_
                refine then_n ?_
                refine seqR ?_
                obtain ⟨r4, hr4, hm⟩ := call_b hm
                refine at_run 6 [⟨false, [], vS (Instr.loadAt 22 (.pointer (some ⟨(getd rzP100 raw3 z3).1, 2, none⟩))), .slice ((getd rzP100 raw3 z3).2.1) (((getd zP100 z2 z3).2.2.1).length) ((getd rzP100 raw3 z3).2.2.2)⟩] [none, none, none, none, none, some (.slice ((getd rzP100 raw3 z3).2.1) (((getd zP100 z2 z3).2.2.1).length) ((getd rzP100 raw3 z3).2.2.2))] [1, 4, 6, 8, 9, 10, 30, 31, 32, 36, 49, 54] [pl 1 (.func (.func 54) #[] #[.pointer (some ⟨g4, 0, none⟩), .pointer (some ⟨g5, 0, none⟩)]), pl 4 (.map (some g7)), pl 6 (.slice A15 next3.length c15), pl 8 (.pointer (some ⟨(getd rzP100 raw3 z3).1, 0, none⟩)), pl 9 (.int .i64 z5), pl 10 (.pointer (some ⟨g10, 0, none⟩)), pl 30 (.slice A16 z4.length c16), pl 31 (.int .i64 (ring1.length : Int)), pl 32 (.int .i64 z3), pl 36 (.int .i64 z5), pl 49 (.pointer (some ⟨g10, 0, none⟩)), pl 54 (.slice ((getd rzP100 raw3 z3).2.1) (((getd zP100 z2 z3).2.2.1).length) ((getd rzP100 raw3 z3).2.2.2))] hF hS (by kernel_rfl) (by kernel_rfl) ?_ (fun a w hF hS => ?_)
                · exact obs_cons (ob_loadP (cs := ([.int .i64 ((getd zP100 z2 z3).1), .int .i64 ((getd zP100 z2 z3).2.1), .slice ((getd rzP100 raw3 z3).2.1) (((getd zP100 z2 z3).2.2.1).length) ((getd rzP100 raw3 z3).2.2.2), .int .i64 ((getd zP100 z2 z3).2.2.2)] : List Value)) Agg22 (fun _ hS => PoolB.at_ (cs := ([.int .i64 ((getd zP100 z2 z3).1), .int .i64 ((getd zP100 z2 z3).2.1), .slice ((getd rzP100 raw3 z3).2.1) (((getd zP100 z2 z3).2.2.1).length) ((getd rzP100 raw3 z3).2.2.2), .int .i64 ((getd zP100 z2 z3).2.2.2)] : List Value)) hp5 hS 5 rfl) rfl) <| obs_nil
                refine at_call (f := 78) (args := #[.slice ((getd rzP100 raw3 z3).2.1) (((getd zP100 z2 z3).2.2.1).length) ((getd rzP100 raw3 z3).2.2.2)]) (d := 55) hF (by kernel_rfl) (by kernel_rfl) Try.func78 (by kernel_rfl) rfl (slices_Clone_w hr4 hS (fun _ hS => (hp6.at_ hS 5 rfl)) hc8 rfl) (fun v a w hR hF => ?_)
                clear hS
                obtain ⟨A19, c19, rfl, hS⟩ := hR
                have hS : Sep w0 B w (own 3 (.slice A19 r4.length c19) (vI r4) :: blk g10 103 #[.int .i64 ((getd zP100 z2 z3).1), .int .i64 ((getd zP100 z2 z3).2.1), .slice ((getd rzP100 raw3 z3).2.1) (((getd zP100 z2 z3).2.2.1).length) ((getd rzP100 raw3 z3).2.2.2), .int .i64 ((getd zP100 z2 z3).2.2.2)] :: blk g4 32 #[.int .i64 v_W1, .int .i64 v_H1, .slice A2 v_Cells1.length c2] :: blk g5 22 #[.slice A10 tell3.length c10] :: own 3 (.slice A10 tell3.length c10) (vI tell3) :: mapH kf98 (Value.int .i64) g7 came4 :: pg4 :: els encP100 Rel100 pg4 100 1 A15 next3.length c15 raw5 next3 :: fs) := hS
                refine at_run 3 [] [] [1, 4, 6, 8, 9, 10, 30, 31, 32, 36, 55, 58] [pl 1 (.func (.func 54) #[] #[.pointer (some ⟨g4, 0, none⟩), .pointer (some ⟨g5, 0, none⟩)]), pl 4 (.map (some g7)), pl 6 (.slice A15 next3.length c15), pl 8 (.pointer (some ⟨(getd rzP100 raw3 z3).1, 0, none⟩)), pl 9 (.int .i64 z5), pl 10 (.pointer (some ⟨g10, 0, none⟩)), pl 30 (.slice A16 z4.length c16), pl 31 (.int .i64 (ring1.length : Int)), pl 32 (.int .i64 z3), pl 36 (.int .i64 z5), pl 55 (.slice A19 r4.length c19), pl 58 (.pointer (some ⟨g10, 2, none⟩))] hF hS (by kernel_rfl) (by kernel_rfl) ?_ (fun a w hF hS => ?_)
                · exact obs_nil
                obtain ⟨w, hrun, hS⟩ := run_put (P := Try.prog) (t := 22) (u := .slice A19 r4.length c19) (i := 2) (hS.at_ 1 rfl) hi22 hs22 rfl (Nat.lt_of_lt_of_eq (Nat.lt_of_succ_le (Nat.le_of_ble_eq_true (by kernel_rfl))) rfl)
                refine at_skip hF (by kernel_rfl) hrun ?_
                have hS : Sep w0 B w (own 3 (.slice A19 r4.length c19) (vI r4) :: blk g10 103 #[.int .i64 ((getd zP100 z2 z3).1), .int .i64 ((getd zP100 z2 z3).2.1), .slice A19 r4.length c19, .int .i64 ((getd zP100 z2 z3).2.2.2)] :: blk g4 32 #[.int .i64 v_W1, .int .i64 v_H1, .slice A2 v_Cells1.length c2] :: blk g5 22 #[.slice A10 tell3.length c10] :: own 3 (.slice A10 tell3.length c10) (vI tell3) :: mapH kf98 (Value.int .i64) g7 came4 :: pg4 :: els encP100 Rel100 pg4 100 1 A15 next3.length c15 raw5 next3 :: fs) := hS
                refine at_end [1, 4, 6, 8, 9, 10, 30, 31, 32, 36] [pl 1 (.func (.func 54) #[] #[.pointer (some ⟨g4, 0, none⟩), .pointer (some ⟨g5, 0, none⟩)]), pl 4 (.map (some g7)), pl 6 (.slice A15 next3.length c15), pl 8 (.pointer (some ⟨(getd rzP100 raw3 z3).1, 0, none⟩)), pl 9 (.int .i64 z5), pl 10 (.pointer (some ⟨g10, 0, none⟩)), pl 30 (.slice A16 z4.length c16), pl 31 (.int .i64 (ring1.length : Int)), pl 32 (.int .i64 z3), pl 36 (.int .i64 z5)] hF rfl (by kernel_rfl) (fun hF => ?_)
                refine then_n ?_
                refine seq_cut (fun a w => ∃ (u1 : List Int) (u2 : Int), Fr 91 [pl 1 (.func (.func 54) #[] #[.pointer (some ⟨g4, 0, none⟩), .pointer (some ⟨g5, 0, none⟩)]), pl 4 (.map (some g7)), pl 6 (.slice A15 next3.length c15), pl 8 (.pointer (some ⟨(getd rzP100 raw3 z3).1, 0, none⟩)), pl 9 (.int .i64 z5), pl 10 (.pointer (some ⟨g10, 0, none⟩)), pl 30 (.slice A16 z4.length c16), pl 31 (.int .i64 (ring1.length : Int)), pl 32 (.int .i64 z3), pl 36 (.int .i64 z5)] a ∧ Sep w0 B w (blk g4 32 #[.int .i64 v_W1, .int .i64 v_H1, .slice A2 v_Cells1.length c2] :: blk g5 22 #[.slice A10 tell3.length c10] :: own 3 (.slice A10 tell3.length c10) (vI tell3) :: mapH kf98 (Value.int .i64) g7 came4 :: pg4 :: els encP100 Rel100 pg4 100 1 A15 next3.length c15 raw5 next3 :: blk g10 103 #[.int .i64 ((getd zP100 z2 z3).1), .int .i64 ((getd zP100 z2 z3).2.1), .slice A19 r4.length c19, .int .i64 u2] :: own 3 (.slice A19 r4.length c19) (vI u1) :: fs) ∧ ((slide_rings_J9 z2 z3 came4 next3 z4 z5) u1 u2).bind φ3 = some r) ?_ ?_
                · rintro a w ⟨u1, u2, hF, hS, hm⟩
                  unfold slide_rings_J9 at hm
                  obtain ⟨r6, hr6, hm⟩ := call_b hm
                  refine reg [⟨false, [], vS (Instr.loadAt 22 (.pointer (some ⟨g10, 2, none⟩))), .slice A19 r4.length c19⟩, ⟨false, [], callFunc 55 #[.slice A19 r4.length c19], .agg (List.toArray (([] : List Value) ++ (arr1 (Value.int .i64) (0 : Int) 6 r6 ++ ([] : List Value))))⟩, ⟨false, [], vS (Instr.lookup 95 (.map (some g7)) (.agg (List.toArray (([] : List Value) ++ (arr1 (Value.int .i64) (0 : Int) 6 r6 ++ ([] : List Value))))) true), .tuple #[.int .i64 (mget (0 : Int) (geti r6 0, geti r6 1, geti r6 2, geti r6 3, geti r6 4, geti r6 5) came4), .bool (mhas (geti r6 0, geti r6 1, geti r6 2, geti r6 3, geti r6 4, geti r6 5) came4)]⟩] [none, none, none, none, none, some (.slice A19 r4.length c19), some (.agg (List.toArray (([] : List Value) ++ (arr1 (Value.int .i64) (0 : Int) 6 r6 ++ ([] : List Value))))), some (.tuple #[.int .i64 (mget (0 : Int) (geti r6 0, geti r6 1, geti r6 2, geti r6 3, geti r6 4, geti r6 5) came4), .bool (mhas (geti r6 0, geti r6 1, geti r6 2, geti r6 3, geti r6 4, geti r6 5) came4)]), none, none, none, none, none] [1, 4, 6, 8, 9, 10, 12, 30, 31, 32, 36] [pl 1 (.func (.func 54) #[] #[.pointer (some ⟨g4, 0, none⟩), .pointer (some ⟨g5, 0, none⟩)]), pl 4 (.map (some g7)), pl 6 (.slice A15 next3.length c15), pl 8 (.pointer (some ⟨(getd rzP100 raw3 z3).1, 0, none⟩)), pl 9 (.int .i64 z5), pl 10 (.pointer (some ⟨g10, 0, none⟩)), pl 12 (.bool (mhas (geti r6 0, geti r6 1, geti r6 2, geti r6 3, geti r6 4, geti r6 5) came4)), pl 30 (.slice A16 z4.length c16), pl 31 (.int .i64 (ring1.length : Int)), pl 32 (.int .i64 z3), pl 36 (.int .i64 z5)] hF hS Fol (by kernel_rfl) (by kernel_rfl) (by kernel_rfl) ?_ (fun a w hF hS => ?_)
                  · exact obs_cons (ob_load Agg22 (fun _ _ hS => (hS.at_ 6 rfl).cell rfl)) <| obs_cons (ob_call Try.func55 (by kernel_rfl) rfl (fun _ _ hS => slide_nameOf_w hr6 hS (fun _ hS => (hS.at_ 7 rfl).rd) ((hS.at_ 7 rfl).cap1) ((hS.at_ 7 rfl).len1))) <| obs_cons (ob_look2 (k := (geti r6 0, geti r6 1, geti r6 2, geti r6 3, geti r6 4, geti r6 5)) (m := came4) MK98 UndM95 (z := (0 : Int)) MZ3 (fun _ hS => ⟨_, _, _, _, hS.at_ 3 rfl⟩)) <| obs_nil
                  refine reg [] [] [1, 4, 6, 8, 9, 10, 30, 31, 32, 36, 75] [pl 1 (.func (.func 54) #[] #[.pointer (some ⟨g4, 0, none⟩), .pointer (some ⟨g5, 0, none⟩)]), pl 4 (.map (some g7)), pl 6 (.slice A15 next3.length c15), pl 8 (.pointer (some ⟨(getd rzP100 raw3 z3).1, 0, none⟩)), pl 9 (.int .i64 z5), pl 10 (.pointer (some ⟨g10, 0, none⟩)), pl 30 (.slice A16 z4.length c16), pl 31 (.int .i64 (ring1.length : Int)), pl 32 (.int .i64 z3), pl 36 (.int .i64 z5), pl 75 (.bool (!(mhas (geti r6 0, geti r6 1, geti r6 2, geti r6 3, geti r6 4, geti r6 5) came4)))] hF hS Fol (by kernel_rfl) (by kernel_rfl) (by kernel_rfl) ?_ (fun a w hF hS => ?_)
                  · exact obs_nil
                  refine cond_ev (t := 75) (b := !(mhas (geti r6 0, geti r6 1, geti r6 2, geti r6 3, geti r6 4, geti r6 5) came4)) hF (by kernel_rfl) (fun hb => ?_) (fun hb => ?_)
                  · replace hm := if_t hm hb
                    refine seqR ?_
                    obtain ⟨r7, hr7, hm⟩ := call_b hm
                    refine at_run 8 [⟨false, [], vS (Instr.loadAt 22 (.pointer (some ⟨g10, 2, none⟩))), .slice A19 r4.length c19⟩, ⟨false, [], callFunc 55 #[.slice A19 r4.length c19], .agg (List.toArray (([] : List Value) ++ (arr1 (Value.int .i64) (0 : Int) 6 r7 ++ ([] : List Value))))⟩] [none, none, none, none, none, some (.slice A19 r4.length c19), some (.agg (List.toArray (([] : List Value) ++ (arr1 (Value.int .i64) (0 : Int) 6 r7 ++ ([] : List Value))))), none] [1, 4, 6, 8, 10, 30, 31, 32, 36, 76, 82, 83] [pl 1 (.func (.func 54) #[] #[.pointer (some ⟨g4, 0, none⟩), .pointer (some ⟨g5, 0, none⟩)]), pl 4 (.map (some g7)), pl 6 (.slice A15 next3.length c15), pl 8 (.pointer (some ⟨(getd rzP100 raw3 z3).1, 0, none⟩)), pl 10 (.pointer (some ⟨g10, 0, none⟩)), pl 30 (.slice A16 z4.length c16), pl 31 (.int .i64 (ring1.length : Int)), pl 32 (.int .i64 z3), pl 36 (.int .i64 z5), pl 76 (.map (some g7)), pl 82 (.agg (List.toArray (([] : List Value) ++ (arr1 (Value.int .i64) (0 : Int) 6 r7 ++ ([] : List Value))))), pl 83 (.int .i64 z5)] hF hS (by kernel_rfl) (by kernel_rfl) ?_ (fun a w hF hS => ?_)
                    · exact obs_cons (ob_load Agg22 (fun _ _ hS => (hS.at_ 6 rfl).cell rfl)) <| obs_cons (ob_call Try.func55 (by kernel_rfl) rfl (fun _ _ hS => slide_nameOf_w hr7 hS (fun _ hS => (hS.at_ 7 rfl).rd) ((hS.at_ 7 rfl).cap1) ((hS.at_ 7 rfl).len1))) <| obs_nil
                    obtain ⟨w, hrun, hS⟩ := run_mput (P := Try.prog) (t := 95) (vf := (Value.int .i64)) MK98 UndM95 (geti r7 0, geti r7 1, geti r7 2, geti r7 3, geti r7 4, geti r7 5) z5 (hS.at_ 3 rfl)
                    refine at_skip hF (by kernel_rfl) hrun ?_
                    have hS : Sep w0 B w (blk g4 32 #[.int .i64 v_W1, .int .i64 v_H1, .slice A2 v_Cells1.length c2] :: blk g5 22 #[.slice A10 tell3.length c10] :: own 3 (.slice A10 tell3.length c10) (vI tell3) :: mapH kf98 (Value.int .i64) g7 (mput (geti r7 0, geti r7 1, geti r7 2, geti r7 3, geti r7 4, geti r7 5) z5 came4) :: pg4 :: els encP100 Rel100 pg4 100 1 A15 next3.length c15 raw5 next3 :: blk g10 103 #[.int .i64 ((getd zP100 z2 z3).1), .int .i64 ((getd zP100 z2 z3).2.1), .slice A19 r4.length c19, .int .i64 u2] :: own 3 (.slice A19 r4.length c19) (vI u1) :: fs) := hS
                    refine at_end [1, 4, 6, 8, 10, 30, 31, 32, 36] [pl 1 (.func (.func 54) #[] #[.pointer (some ⟨g4, 0, none⟩), .pointer (some ⟨g5, 0, none⟩)]), pl 4 (.map (some g7)), pl 6 (.slice A15 next3.length c15), pl 8 (.pointer (some ⟨(getd rzP100 raw3 z3).1, 0, none⟩)), pl 10 (.pointer (some ⟨g10, 0, none⟩)), pl 30 (.slice A16 z4.length c16), pl 31 (.int .i64 (ring1.length : Int)), pl 32 (.int .i64 z3), pl 36 (.int .i64 z5)] hF rfl (by kernel_rfl) (fun hF => ?_)
                    refine then_n ?_
                    refine oneR ?_
                    obtain ⟨hp12, hm⟩ := asrt_b hm
                    refine at_run 2 [] [] [1, 4, 8, 30, 31, 32, 36, 84, 85] [pl 1 (.func (.func 54) #[] #[.pointer (some ⟨g4, 0, none⟩), .pointer (some ⟨g5, 0, none⟩)]), pl 4 (.map (some g7)), pl 8 (.pointer (some ⟨(getd rzP100 raw3 z3).1, 0, none⟩)), pl 30 (.slice A16 z4.length c16), pl 31 (.int .i64 (ring1.length : Int)), pl 32 (.int .i64 z3), pl 36 (.int .i64 z5), pl 84 (.slice A15 next3.length c15), pl 85 (.pointer (some ⟨g10, 0, none⟩))] hF hS (by kernel_rfl) (by kernel_rfl) ?_ (fun a w hF hS => ?_)
                    · exact obs_nil
                    have hl3 := (hS.at_ 7 rfl).len1
                    have hS := (hS.at_ 7 rfl).reN hl3
                    have hS := (hS.at_ 6 rfl).reBlk (congrArg (fun k9 => (#[.int .i64 ((getd zP100 z2 z3).1), .int .i64 ((getd zP100 z2 z3).2.1), .slice A19 k9 c19, .int .i64 u2] : Array Value)) hl3)
                    have hS : Sep w0 B w (blk g4 32 #[.int .i64 v_W1, .int .i64 v_H1, .slice A2 v_Cells1.length c2] :: blk g5 22 #[.slice A10 tell3.length c10] :: own 3 (.slice A10 tell3.length c10) (vI tell3) :: mapH kf98 (Value.int .i64) g7 (mput (geti r7 0, geti r7 1, geti r7 2, geti r7 3, geti r7 4, geti r7 5) z5 came4) :: pg4 :: els encP100 Rel100 pg4 100 1 A15 next3.length c15 raw5 next3 :: blk g10 103 #[.int .i64 ((getd zP100 z2 z3).1), .int .i64 ((getd zP100 z2 z3).2.1), .slice A19 u1.length c19, .int .i64 u2] :: own 3 (.slice A19 u1.length c19) (vI u1) :: fs) := hS
                    have hc14 := (hS.at_ 7 rfl).cap1
                    have hS := hS.pickN 8 [7, 4, 0, 1, 2, 3, 5, 6] (by decide)
                    have hS : Sep w0 B w ((twoB (own 3 (.slice A19 u1.length c19) (vI u1)) pg4) :: blk g4 32 #[.int .i64 v_W1, .int .i64 v_H1, .slice A2 v_Cells1.length c2] :: blk g5 22 #[.slice A10 tell3.length c10] :: own 3 (.slice A10 tell3.length c10) (vI tell3) :: mapH kf98 (Value.int .i64) g7 (mput (geti r7 0, geti r7 1, geti r7 2, geti r7 3, geti r7 4, geti r7 5) z5 came4) :: els encP100 Rel100 pg4 100 1 A15 next3.length c15 raw5 next3 :: blk g10 103 #[.int .i64 ((getd zP100 z2 z3).1), .int .i64 ((getd zP100 z2 z3).2.1), .slice A19 u1.length c19, .int .i64 u2] :: fs) := hS.two
                    have hS : Sep w0 B w ((twoB (own 3 (.slice A19 u1.length c19) (vI u1)) pg4) :: blk g4 32 #[.int .i64 v_W1, .int .i64 v_H1, .slice A2 v_Cells1.length c2] :: blk g5 22 #[.slice A10 tell3.length c10] :: own 3 (.slice A10 tell3.length c10) (vI tell3) :: mapH kf98 (Value.int .i64) g7 (mput (geti r7 0, geti r7 1, geti r7 2, geti r7 3, geti r7 4, geti r7 5) z5 came4) :: els encP100 Rel100 (twoB (own 3 (.slice A19 u1.length c19) (vI u1)) pg4) 100 1 A15 next3.length c15 raw5 next3 :: blk g10 103 #[.int .i64 ((getd zP100 z2 z3).1), .int .i64 ((getd zP100 z2 z3).2.1), .slice A19 u1.length c19, .int .i64 u2] :: fs) := (hS.at_ 5 rfl).elsMonoM RelM100 PoolLe.right
                    have hS : Sep w0 B w ((twoB (own 3 (.slice A19 u1.length c19) (vI u1)) pg4) :: blk g4 32 #[.int .i64 v_W1, .int .i64 v_H1, .slice A2 v_Cells1.length c2] :: blk g5 22 #[.slice A10 tell3.length c10] :: own 3 (.slice A10 tell3.length c10) (vI tell3) :: mapH kf98 (Value.int .i64) g7 (mput (geti r7 0, geti r7 1, geti r7 2, geti r7 3, geti r7 4, geti r7 5) z5 came4) :: els encP100 Rel100 (twoB (own 3 (.slice A19 u1.length c19) (vI u1)) pg4) 100 1 A15 next3.length c15 raw5 next3 :: blk g10 103 #[.int .i64 ((getd zP100 z2 z3).1), .int .i64 ((getd zP100 z2 z3).2.1), .slice A19 u1.length c19, .int .i64 u2] :: fs) := hS
                    have hS := hS.pickN 7 [6, 0, 1, 2, 3, 4, 5] (by decide)
                    have hS : Sep w0 B w ((twoB (blk g10 103 #[.int .i64 ((getd zP100 z2 z3).1), .int .i64 ((getd zP100 z2 z3).2.1), .slice A19 u1.length c19, .int .i64 u2]) (twoB (own 3 (.slice A19 u1.length c19) (vI u1)) pg4)) :: blk g4 32 #[.int .i64 v_W1, .int .i64 v_H1, .slice A2 v_Cells1.length c2] :: blk g5 22 #[.slice A10 tell3.length c10] :: own 3 (.slice A10 tell3.length c10) (vI tell3) :: mapH kf98 (Value.int .i64) g7 (mput (geti r7 0, geti r7 1, geti r7 2, geti r7 3, geti r7 4, geti r7 5) z5 came4) :: els encP100 Rel100 (twoB (own 3 (.slice A19 u1.length c19) (vI u1)) pg4) 100 1 A15 next3.length c15 raw5 next3 :: fs) := hS.two
                    have hS : Sep w0 B w ((twoB (blk g10 103 #[.int .i64 ((getd zP100 z2 z3).1), .int .i64 ((getd zP100 z2 z3).2.1), .slice A19 u1.length c19, .int .i64 u2]) (twoB (own 3 (.slice A19 u1.length c19) (vI u1)) pg4)) :: blk g4 32 #[.int .i64 v_W1, .int .i64 v_H1, .slice A2 v_Cells1.length c2] :: blk g5 22 #[.slice A10 tell3.length c10] :: own 3 (.slice A10 tell3.length c10) (vI tell3) :: mapH kf98 (Value.int .i64) g7 (mput (geti r7 0, geti r7 1, geti r7 2, geti r7 3, geti r7 4, geti r7 5) z5 came4) :: els encP100 Rel100 (twoB (blk g10 103 #[.int .i64 ((getd zP100 z2 z3).1), .int .i64 ((getd zP100 z2 z3).2.1), .slice A19 u1.length c19, .int .i64 u2]) (twoB (own 3 (.slice A19 u1.length c19) (vI u1)) pg4)) 100 1 A15 next3.length c15 raw5 next3 :: fs) := (hS.at_ 5 rfl).elsMonoM RelM100 PoolLe.right
                    refine at_do (d := 86) (s := vS (Instr.buildSlice 94 1 #[(0, .pointer (some ⟨g10, 0, none⟩))])) (v := .slice (some ⟨w.heap.size, 0, none⟩) 1 1) (w' := w.alloc (.cells #[.pointer (some ⟨g10, 0, none⟩)] 100)) hF (by kernel_rfl) (by kernel_rfl) (by kernel_rfl) (fun a hF => ?_)
                    have hS : Sep w0 B (w.alloc (.cells #[.pointer (some ⟨g10, 0, none⟩)] 100)) (els encP100 Rel100 (twoB (blk g10 103 #[.int .i64 ((getd zP100 z2 z3).1), .int .i64 ((getd zP100 z2 z3).2.1), .slice A19 u1.length c19, .int .i64 u2]) (twoB (own 3 (.slice A19 u1.length c19) (vI u1)) pg4)) 100 1 (some (⟨w.heap.size, 0, none⟩ : Addr)) 1 1 ([(g10, (A19, u1.length, c19))] : List (Nat × Hd3)) ([((getd zP100 z2 z3).1, (getd zP100 z2 z3).2.1, u1, u2)] : List (Int × Int × List Int × Int)) :: ((twoB (blk g10 103 #[.int .i64 ((getd zP100 z2 z3).1), .int .i64 ((getd zP100 z2 z3).2.1), .slice A19 u1.length c19, .int .i64 u2]) (twoB (own 3 (.slice A19 u1.length c19) (vI u1)) pg4)) :: blk g4 32 #[.int .i64 v_W1, .int .i64 v_H1, .slice A2 v_Cells1.length c2] :: blk g5 22 #[.slice A10 tell3.length c10] :: own 3 (.slice A10 tell3.length c10) (vI tell3) :: mapH kf98 (Value.int .i64) g7 (mput (geti r7 0, geti r7 1, geti r7 2, geti r7 3, geti r7 4, geti r7 5) z5 came4) :: els encP100 Rel100 (twoB (blk g10 103 #[.int .i64 ((getd zP100 z2 z3).1), .int .i64 ((getd zP100 z2 z3).2.1), .slice A19 u1.length c19, .int .i64 u2]) (twoB (own 3 (.slice A19 u1.length c19) (vI u1)) pg4)) 100 1 A15 next3.length c15 raw5 next3 :: fs)) := Sep.ownEls' (l := []) (hS.litK 100 1 #[.pointer (some ⟨g10, 0, none⟩)] 1 rfl (by omega)) rfl (PAll.cons ⟨(PoolB.of (cs := ([.int .i64 ((getd zP100 z2 z3).1), .int .i64 ((getd zP100 z2 z3).2.1), .slice A19 u1.length c19, .int .i64 u2] : List Value)) rfl : PoolB (twoB (blk g10 103 #[.int .i64 ((getd zP100 z2 z3).1), .int .i64 ((getd zP100 z2 z3).2.1), .slice A19 u1.length c19, .int .i64 u2]) (twoB (own 3 (.slice A19 u1.length c19) (vI u1)) pg4)) g10 ([.int .i64 ((getd zP100 z2 z3).1), .int .i64 ((getd zP100 z2 z3).2.1), .slice A19 u1.length c19, .int .i64 u2] : List Value)), SlR.of (PoolW.mono PoolLe.right (PoolW.own : PoolW (twoB (own 3 (.slice A19 u1.length c19) (vI u1)) pg4) A19 u1)) hc14⟩ (PAll.nil : PAll Rel100 (twoB (blk g10 103 #[.int .i64 ((getd zP100 z2 z3).1), .int .i64 ((getd zP100 z2 z3).2.1), .slice A19 u1.length c19, .int .i64 u2]) (twoB (own 3 (.slice A19 u1.length c19) (vI u1)) pg4)) ([] : List (Nat × Hd3)) ([] : List (Int × Int × List Int × Int))))
                    generalize (some (⟨w.heap.size, 0, none⟩ : Addr)) = g11 at hF hS
                    generalize w.alloc (.cells #[.pointer (some ⟨g10, 0, none⟩)] 100) = w at hS ⊢
                    obtain ⟨A22, c22, w, hrun, hS⟩ := run_appE (P := Try.prog) (t := 94) (ys := ([(g10, (A19, u1.length, c19))] : List (Nat × Hd3))) (my := ([((getd zP100 z2 z3).1, (getd zP100 z2 z3).2.1, u1, u2)] : List (Int × Int × List Int × Int))) (A2 := g11) (m2 := 1) (c2 := 1) encPK100 (hS.at_ 6 rfl) (hS.at_ 0 rfl).rdE (hS.at_ 0 rfl).elsAll ((hS.at_ 0 rfl).lenEr encPK100) 94 Und94 hi100 hz100 hs100 rfl (by omega) hp12
                    have hS : Sep w0 B w (els encP100 Rel100 (twoB (blk g10 103 #[.int .i64 ((getd zP100 z2 z3).1), .int .i64 ((getd zP100 z2 z3).2.1), .slice A19 u1.length c19, .int .i64 u2]) (twoB (own 3 (.slice A19 u1.length c19) (vI u1)) pg4)) 100 1 g11 1 1 ([(g10, (A19, u1.length, c19))] : List (Nat × Hd3)) ([((getd zP100 z2 z3).1, (getd zP100 z2 z3).2.1, u1, u2)] : List (Int × Int × List Int × Int)) :: (twoB (blk g10 103 #[.int .i64 ((getd zP100 z2 z3).1), .int .i64 ((getd zP100 z2 z3).2.1), .slice A19 u1.length c19, .int .i64 u2]) (twoB (own 3 (.slice A19 u1.length c19) (vI u1)) pg4)) :: blk g4 32 #[.int .i64 v_W1, .int .i64 v_H1, .slice A2 v_Cells1.length c2] :: blk g5 22 #[.slice A10 tell3.length c10] :: own 3 (.slice A10 tell3.length c10) (vI tell3) :: mapH kf98 (Value.int .i64) g7 (mput (geti r7 0, geti r7 1, geti r7 2, geti r7 3, geti r7 4, geti r7 5) z5 came4) :: els encP100 Rel100 (twoB (blk g10 103 #[.int .i64 ((getd zP100 z2 z3).1), .int .i64 ((getd zP100 z2 z3).2.1), .slice A19 u1.length c19, .int .i64 u2]) (twoB (own 3 (.slice A19 u1.length c19) (vI u1)) pg4)) 100 1 A22 ((next3 ++ ([((getd zP100 z2 z3).1, (getd zP100 z2 z3).2.1, u1, u2)] : List (Int × Int × List Int × Int))).length) c22 (raw5 ++ ([(g10, (A19, u1.length, c19))] : List (Nat × Hd3))) (next3 ++ ([((getd zP100 z2 z3).1, (getd zP100 z2 z3).2.1, u1, u2)] : List (Int × Int × List Int × Int))) :: fs) := hS
                    refine at_do (d := 87) hF (by kernel_rfl) (by kernel_rfl) hrun (fun a hF => ?_)
                    refine at_run 1 [] [] [1, 4, 6, 8, 30, 31, 32, 36] [pl 1 (.func (.func 54) #[] #[.pointer (some ⟨g4, 0, none⟩), .pointer (some ⟨g5, 0, none⟩)]), pl 4 (.map (some g7)), pl 6 (.slice A22 ((next3 ++ ([((getd zP100 z2 z3).1, (getd zP100 z2 z3).2.1, u1, u2)] : List (Int × Int × List Int × Int))).length) c22), pl 8 (.pointer (some ⟨(getd rzP100 raw3 z3).1, 0, none⟩)), pl 30 (.slice A16 z4.length c16), pl 31 (.int .i64 (ring1.length : Int)), pl 32 (.int .i64 z3), pl 36 (.int .i64 z5)] hF hS (by kernel_rfl) (by kernel_rfl) ?_ (fun a w hF hS => ?_)
                    · exact obs_nil
                    refine at_end [1, 4, 6, 8, 30, 31, 32, 36] [pl 1 (.func (.func 54) #[] #[.pointer (some ⟨g4, 0, none⟩), .pointer (some ⟨g5, 0, none⟩)]), pl 4 (.map (some g7)), pl 6 (.slice A22 ((next3 ++ ([((getd zP100 z2 z3).1, (getd zP100 z2 z3).2.1, u1, u2)] : List (Int × Int × List Int × Int))).length) c22), pl 8 (.pointer (some ⟨(getd rzP100 raw3 z3).1, 0, none⟩)), pl 30 (.slice A16 z4.length c16), pl 31 (.int .i64 (ring1.length : Int)), pl 32 (.int .i64 z3), pl 36 (.int .i64 z5)] hF rfl (by kernel_rfl) (fun hF => ?_)
                    refine block_n ?_
                    refine then_n ?_
                    have hS := hS.pickN 7 [2, 3, 4, 5, 1, 6] (by decide)
                    exact ⟨(mput (geti r7 0, geti r7 1, geti r7 2, geti r7 3, geti r7 4, geti r7 5) z5 came4), (next3 ++ ([((getd zP100 z2 z3).1, (getd zP100 z2 z3).2.1, u1, u2)] : List (Int × Int × List Int × Int))), z4, (twoB (blk g10 103 #[.int .i64 ((getd zP100 z2 z3).1), .int .i64 ((getd zP100 z2 z3).2.1), .slice A19 u1.length c19, .int .i64 u2]) (twoB (own 3 (.slice A19 u1.length c19) (vI u1)) pg4)), (raw5 ++ ([(g10, (A19, u1.length, c19))] : List (Nat × Hd3))), A22, c22, A16, c16, raw6, hF.weak [1, 4, 6, 8, 30, 31, 32, 36] (by kernel_rfl), hS, (PoolB.mono PoolLe.right (PoolB.mono PoolLe.right hp5)), trivial, (PoolW.mono PoolLe.right (PoolW.mono PoolLe.right hp6)), hc8, (PoolE.monoM RelM100 PoolLe.right (PoolE.monoM RelM100 PoolLe.right hp7)), hc9, hm⟩
                  · replace hm := if_f hm hb
                    refine wpIn_skip ?_
                    refine block_n ?_
                    refine then_n ?_
                    have hS := hS.pickN 8 [0, 1, 2, 3, 4, 5] (by decide)
                    exact ⟨came4, next3, z4, pg4, raw5, A15, c15, A16, c16, raw6, hF.weak [1, 4, 6, 8, 30, 31, 32, 36] (by kernel_rfl), hS, hp5, trivial, hp6, hc8, hp7, hc9, hm⟩
                · refine seqR ?_
                  obtain ⟨r5, hr5, hm⟩ := call_b hm
                  refine at_run 2 [] [] [1, 4, 6, 8, 9, 10, 30, 31, 32, 36, 59, 60] [pl 1 (.func (.func 54) #[] #[.pointer (some ⟨g4, 0, none⟩), .pointer (some ⟨g5, 0, none⟩)]), pl 4 (.map (some g7)), pl 6 (.slice A15 next3.length c15), pl 8 (.pointer (some ⟨(getd rzP100 raw3 z3).1, 0, none⟩)), pl 9 (.int .i64 z5), pl 10 (.pointer (some ⟨g10, 0, none⟩)), pl 30 (.slice A16 z4.length c16), pl 31 (.int .i64 (ring1.length : Int)), pl 32 (.int .i64 z3), pl 36 (.int .i64 z5), pl 59 (.pointer (some ⟨g10, 0, none⟩)), pl 60 (.int .i64 z5)] hF hS (by kernel_rfl) (by kernel_rfl) ?_ (fun a w hF hS => ?_)
                  · exact obs_nil
                  have hS : Sep w0 B w (blk g10 103 #[.int .i64 ((getd zP100 z2 z3).1), .int .i64 ((getd zP100 z2 z3).2.1), .slice A19 r4.length c19, .int .i64 ((getd zP100 z2 z3).2.2.2)] :: own 3 (.slice A19 r4.length c19) (vI r4) :: blk g4 32 #[.int .i64 v_W1, .int .i64 v_H1, .slice A2 v_Cells1.length c2] :: blk g5 22 #[.slice A10 tell3.length c10] :: own 3 (.slice A10 tell3.length c10) (vI tell3) :: mapH kf98 (Value.int .i64) g7 came4 :: pg4 :: els encP100 Rel100 pg4 100 1 A15 next3.length c15 raw5 next3 :: fs) := hS.pickN 8 [1, 0, 2, 3, 4, 5, 6, 7] (by decide)
                  refine at_call (f := 57) (args := #[.pointer (some ⟨g10, 0, none⟩), .int .i64 z5]) (d := 61) hF (by kernel_rfl) (by kernel_rfl) Try.func57 (by kernel_rfl) rfl (slide_tray_move_w hr5 hS ) (fun v a w hR hF => ?_)
                  clear hS
                  obtain ⟨rfl, hS⟩ := hR
                  have hS : Sep w0 B w (blk g10 103 #[.int .i64 ((getd zP100 z2 z3).1), .int .i64 ((getd zP100 z2 z3).2.1), .slice A19 r4.length c19, .int .i64 r5.2.2] :: own 3 (.slice A19 r4.length c19) (vI r5.2.1) :: blk g4 32 #[.int .i64 v_W1, .int .i64 v_H1, .slice A2 v_Cells1.length c2] :: blk g5 22 #[.slice A10 tell3.length c10] :: own 3 (.slice A10 tell3.length c10) (vI tell3) :: mapH kf98 (Value.int .i64) g7 came4 :: pg4 :: els encP100 Rel100 pg4 100 1 A15 next3.length c15 raw5 next3 :: fs) := hS
                  refine at_run 1 [] [] [1, 4, 6, 8, 9, 10, 30, 31, 32, 36, 62] [pl 1 (.func (.func 54) #[] #[.pointer (some ⟨g4, 0, none⟩), .pointer (some ⟨g5, 0, none⟩)]), pl 4 (.map (some g7)), pl 6 (.slice A15 next3.length c15), pl 8 (.pointer (some ⟨(getd rzP100 raw3 z3).1, 0, none⟩)), pl 9 (.int .i64 z5), pl 10 (.pointer (some ⟨g10, 0, none⟩)), pl 30 (.slice A16 z4.length c16), pl 31 (.int .i64 (ring1.length : Int)), pl 32 (.int .i64 z3), pl 36 (.int .i64 z5), pl 62 (.bool (!r5.1))] hF hS (by kernel_rfl) (by kernel_rfl) ?_ (fun a w hF hS => ?_)
                  · exact obs_nil
                  refine at_end [1, 4, 6, 8, 9, 10, 30, 31, 32, 36, 62] [pl 1 (.func (.func 54) #[] #[.pointer (some ⟨g4, 0, none⟩), .pointer (some ⟨g5, 0, none⟩)]), pl 4 (.map (some g7)), pl 6 (.slice A15 next3.length c15), pl 8 (.pointer (some ⟨(getd rzP100 raw3 z3).1, 0, none⟩)), pl 9 (.int .i64 z5), pl 10 (.pointer (some ⟨g10, 0, none⟩)), pl 30 (.slice A16 z4.length c16), pl 31 (.int .i64 (ring1.length : Int)), pl 32 (.int .i64 z3), pl 36 (.int .i64 z5), pl 62 (.bool (!r5.1))] hF rfl (by kernel_rfl) (fun hF => ?_)
                  refine then_n ?_
                  refine cond_ev (t := 62) (b := !r5.1) hF (by kernel_rfl) (fun hb => ?_) (fun hb => ?_)
                  · replace hm := if_t hm hb
                    refine wpIn_exit ?_
                    refine then_e (block_e (then_n ?_))
                    have hS := hS.pickN 8 [2, 3, 4, 5, 6, 7] (by decide)
                    exact ⟨came4, next3, z4, pg4, raw5, A15, c15, A16, c16, raw6, hF.weak [1, 4, 6, 8, 30, 31, 32, 36] (by kernel_rfl), hS, hp5, trivial, hp6, hc8, hp7, hc9, hm⟩
                  · replace hm := if_f hm hb
                    refine wpIn_skip ?_
                    refine then_n ?_
                    have hS := hS.pickN 8 [2, 3, 4, 5, 6, 7, 0, 1] (by decide)
                    exact ⟨r5.2.1, r5.2.2, hF.weak [1, 4, 6, 8, 9, 10, 30, 31, 32, 36] (by kernel_rfl), hS, hm⟩
            · refine cond_ev (t := 37) (b := decide (z5 < 4)) hF (by kernel_rfl) (fun hb => ?_) (fun hb => ?_)
              · replace hm := if_t hm hb
                refine wpIn_skip ?_
                refine then_n ?_
                exact ⟨hF.weak [1, 4, 6, 8, 30, 31, 32, 36] (by kernel_rfl), hS, hm⟩
              · replace hm := if_f hm hb
                refine wpIn_exit ?_
                refine then_e (then_e (block_e (block_n (then_n ?_))))
                rw [← hφ3] at hm
                replace hm := done_b hm
                unfold slide_rings_K3 at hm
                try dsimp only at hm
                have hm : ((slide_rings_J6 z3) came4 next3 z4).bind φ2 = some r := hm
                exact ⟨came4, next3, z4, pg4, raw5, A15, c15, A16, c16, raw6, hF.weak [1, 4, 6, 30, 31, 32] (by kernel_rfl), hS, hp7, hc9, hm⟩
        · refine cond_ev (t := 33) (b := decide (z3 < (ring1.length : Int))) hF (by kernel_rfl) (fun hb => ?_) (fun hb => ?_)
          · replace hm := if_t hm hb
            refine wpIn_skip ?_
            refine then_n ?_
            exact ⟨hF.weak [1, 4, 6, 30, 31, 32] (by kernel_rfl), hS, hm⟩
          · replace hm := if_f hm hb
            refine wpIn_exit ?_
            refine then_e (then_e (block_e (then_n ?_)))
            rw [← hφ2] at hm
            replace hm := done_b hm
            unfold slide_rings_K2 at hm
            try dsimp only at hm
            have hm : ((slide_rings_J4 tell3) came2 next1).bind φ1 = some r := hm
            exact ⟨came2, next1, pg2, raw2, A12, c12, hF.weak [1, 4, 6] (by kernel_rfl), hS, hm⟩
    · refine seq_cut (fun a w => ∃ (tell2 : List Int) (z1 : Bool) (A9 : Option Addr) (c9 : Nat), Fr 91 [pl 1 (.func (.func 54) #[] #[.pointer (some ⟨g4, 0, none⟩), .pointer (some ⟨g5, 0, none⟩)]), pl 4 (.map (some g7)), pl 5 (.slice A7 ring1.length c7), pl 29 (.bool z1)] a ∧ Sep w0 B w (blk g4 32 #[.int .i64 v_W1, .int .i64 v_H1, .slice A2 v_Cells1.length c2] :: blk g5 22 #[.slice A9 tell2.length c9] :: own 3 (.slice A9 tell2.length c9) (vI tell2) :: mapH kf98 (Value.int .i64) g7 came1 :: (twoB (els encP100 Rel100 pg1 100 1 A7 ring1.length c7 raw1 ring1) pg1) :: fs) ∧ PoolE encP100 Rel100 (twoB (els encP100 Rel100 pg1 100 1 A7 ring1.length c7 raw1 ring1) pg1) A7 raw1 ring1 ∧ ring1.length ≤ c7 ∧ ((slide_rings_J3 came1 ring1) tell2 z1).bind φ1 = some r) ?_ ?_
      · rintro a w ⟨tell2, z1, A9, c9, hF, hS, hp1, hc3, hm⟩
        unfold slide_rings_J3 at hm
        refine cond_ev (t := 29) (b := z1) hF (by kernel_rfl) (fun hb => ?_) (fun hb => ?_)
        · replace hm := if_t hm hb
          refine wpIn_skip ?_
          refine then_n ?_
          exact ⟨tell2, A9, c9, hF.weak [1, 4, 5] (by kernel_rfl), hS, hp1, hc3, hm⟩
        · replace hm := if_f hm hb
          refine wpIn_exit ?_
          refine then_e (then_e (block_e (then_n ?_)))
          have hS := hS.pickN 5 [0, 1, 2] (by decide)
          rw [← hφ1] at hm
          replace hm := done_b hm
          unfold slide_rings_K1 at hm
          try dsimp only at hm
          have hm : (slide_rings_J1 tell2).bind some = some r := hm
          exact ⟨tell2, A9, c9, hF.weak [] (by kernel_rfl), hS, hm⟩
      · refine oneR ?_
        refine at_run 7 [] [] [1, 4, 5, 24, 25, 26, 27] [pl 1 (.func (.func 54) #[] #[.pointer (some ⟨g4, 0, none⟩), .pointer (some ⟨g5, 0, none⟩)]), pl 4 (.map (some g7)), pl 5 (.slice A7 ring1.length c7), pl 24 (.bool (decide ((0 : Int) < (ring1.length : Int)))), ⟨25, [(24, true)], .func (.func 54) #[] #[.pointer (some ⟨g4, 0, none⟩), .pointer (some ⟨g5, 0, none⟩)]⟩, ⟨26, [(24, true)], .slice A7 ring1.length c7⟩, ⟨27, [(24, true)], .map (some g7)⟩] hF hS (by kernel_rfl) (by kernel_rfl) ?_ (fun a w hF hS => ?_)
        · exact obs_nil
        rcases Bool.eq_false_or_eq_true (decide ((0 : Int) < (ring1.length : Int))) with hg1 | hg1
        · replace hm := if_t hm hg1
          obtain ⟨r3, hr3, hm⟩ := call_b hm
          have hc2 := (hS.at_ 5 rfl).capE encPK100
          have hg2 := (hS.at_ 5 rfl).elsAll
          have hS := hS.pickN 6 [5, 4, 0, 1, 2, 3] (by decide)
          have hS : Sep w0 B w ((twoB (els encP100 Rel100 pg1 100 1 A7 ring1.length c7 raw1 ring1) pg1) :: blk g4 32 #[.int .i64 v_W1, .int .i64 v_H1, .slice A2 v_Cells1.length c2] :: blk g5 22 #[.slice A6 tell1.length c6] :: own 3 (.slice A6 tell1.length c6) (vI tell1) :: mapH kf98 (Value.int .i64) g7 came1 :: fs) := hS.two
          have hS : Sep w0 B w ((twoB (els encP100 Rel100 pg1 100 1 A7 ring1.length c7 raw1 ring1) pg1) :: mapH kf98 (Value.int .i64) g7 came1 :: blk g4 32 #[.int .i64 v_W1, .int .i64 v_H1, .slice A2 v_Cells1.length c2] :: blk g5 22 #[.slice A6 tell1.length c6] :: own 3 (.slice A6 tell1.length c6) (vI tell1) :: fs) := hS.pickN 5 [0, 4, 1, 2, 3] (by decide)
          refine at_gcall (hs := [(decide ((0 : Int) < (ring1.length : Int)), true)]) (fun y hy => by simp only [List.mem_cons, List.not_mem_nil, or_false] at hy; subst hy; first | exact hg1) (f := 54) (args := #[.slice A7 ring1.length c7, .map (some g7), .pointer (some ⟨g4, 0, none⟩), .pointer (some ⟨g5, 0, none⟩)]) (d := 28) hF (by kernel_rfl) (by kernel_rfl) Try.func54 (by kernel_rfl) rfl (slide_Home_1_w hr3 hS (PoolE.ownM RelM100 hg2 : PoolE encP100 Rel100 (twoB (els encP100 Rel100 pg1 100 1 A7 ring1.length c7 raw1 ring1) pg1) A7 raw1 ring1) hc2 rfl (fun _ hS => (hr_v_Cells1 _ (hS.dropN 0))) _hc_v_Cells1 rfl) (fun v a w hR hF => ?_)
          clear hS
          obtain ⟨A8, c8, rfl, hle1, hS⟩ := hR
          have hS : Sep w0 B w ((twoB (els encP100 Rel100 pg1 100 1 A7 ring1.length c7 raw1 ring1) pg1) :: mapH kf98 (Value.int .i64) g7 came1 :: blk g4 32 #[.int .i64 v_W1, .int .i64 v_H1, .slice A2 v_Cells1.length c2] :: blk g5 22 #[.slice A8 r3.2.length c8] :: own 3 (.slice A8 r3.2.length c8) (vI r3.2) :: fs) := hS
          refine at_run 1 [] [] [1, 4, 5, 29] [pl 1 (.func (.func 54) #[] #[.pointer (some ⟨g4, 0, none⟩), .pointer (some ⟨g5, 0, none⟩)]), pl 4 (.map (some g7)), pl 5 (.slice A7 ring1.length c7), pl 29 (.bool ((decide ((0 : Int) < (ring1.length : Int))) && r3.1))] hF hS (by kernel_rfl) (by kernel_rfl) ?_ (fun a w hF hS => ?_)
          · exact obs_nil
          refine at_end [1, 4, 5, 29] [pl 1 (.func (.func 54) #[] #[.pointer (some ⟨g4, 0, none⟩), .pointer (some ⟨g5, 0, none⟩)]), pl 4 (.map (some g7)), pl 5 (.slice A7 ring1.length c7), pl 29 (.bool ((decide ((0 : Int) < (ring1.length : Int))) && r3.1))] hF rfl (by kernel_rfl) (fun hF => ?_)
          refine then_n ?_
          have hS := hS.pickN 5 [2, 3, 4, 1, 0] (by decide)
          exact ⟨r3.2, ((decide ((0 : Int) < (ring1.length : Int))) && r3.1), A8, c8, hF.weak [1, 4, 5, 29] (by kernel_rfl), hS, (PoolE.monoM RelM100 hle1 (PoolE.ownM RelM100 hg2 : PoolE encP100 Rel100 (twoB (els encP100 Rel100 pg1 100 1 A7 ring1.length c7 raw1 ring1) pg1) A7 raw1 ring1)), hc2, hm⟩
        · replace hm := if_f hm hg1
          refine at_gskip (d := 28) (v := .bool false) (hs := [(decide ((0 : Int) < (ring1.length : Int)), true)]) (ctx := [(24, true)]) hF (by kernel_rfl) (by kernel_rfl) (fun h => absurd (h (decide ((0 : Int) < (ring1.length : Int)), true) (by simp)) (by first | exact fun hz => Bool.noConfusion (Eq.trans (Eq.symm hg1) hz) | simp [hg1])) (fun a hF => ?_)
          refine at_run 1 [] [] [1, 4, 5, 29] [pl 1 (.func (.func 54) #[] #[.pointer (some ⟨g4, 0, none⟩), .pointer (some ⟨g5, 0, none⟩)]), pl 4 (.map (some g7)), pl 5 (.slice A7 ring1.length c7), pl 29 (.bool ((decide ((0 : Int) < (ring1.length : Int))) && false))] hF hS (by kernel_rfl) (by kernel_rfl) ?_ (fun a w hF hS => ?_)
          · exact obs_nil
          refine at_end [1, 4, 5, 29] [pl 1 (.func (.func 54) #[] #[.pointer (some ⟨g4, 0, none⟩), .pointer (some ⟨g5, 0, none⟩)]), pl 4 (.map (some g7)), pl 5 (.slice A7 ring1.length c7), pl 29 (.bool ((decide ((0 : Int) < (ring1.length : Int))) && false))] hF rfl (by kernel_rfl) (fun hF => ?_)
          refine then_n ?_
          have hc4 := (hS.at_ 5 rfl).capE encPK100
          have hg3 := (hS.at_ 5 rfl).elsAll
          have hS := hS.pickN 6 [5, 4, 0, 1, 2, 3] (by decide)
          have hS : Sep w0 B w ((twoB (els encP100 Rel100 pg1 100 1 A7 ring1.length c7 raw1 ring1) pg1) :: blk g4 32 #[.int .i64 v_W1, .int .i64 v_H1, .slice A2 v_Cells1.length c2] :: blk g5 22 #[.slice A6 tell1.length c6] :: own 3 (.slice A6 tell1.length c6) (vI tell1) :: mapH kf98 (Value.int .i64) g7 came1 :: fs) := hS.two
          have hS := hS.pickN 5 [1, 2, 3, 4, 0] (by decide)
          exact ⟨tell1, ((decide ((0 : Int) < (ring1.length : Int))) && false), A6, c6, hF.weak [1, 4, 5, 29] (by kernel_rfl), hS, (PoolE.ownM RelM100 hg3 : PoolE encP100 Rel100 (twoB (els encP100 Rel100 pg1 100 1 A7 ring1.length c7 raw1 ring1) pg1) A7 raw1 ring1), hc4, hm⟩

noncomputable def slide_Home_J1  (g1 : Int) (g2 : Int) (g3 : List Int) : Option (List Int × Int) :=
  (slide_home_m g1 g2).bind fun r3 => (slide_rings_m r3.1 r3.2.1 r3.2.2 g1 g2 g3 ([] : List Int)).bind fun r4 => some (r4, 0)

noncomputable def slide_Home_m  (g1 : Int) (g2 : Int) (g3 : List Int) : Option (List Int × Int) :=
  (slide_May_m g1 g2 g3).bind fun r1 => if (!r1) then (some (([] : List Int), 12)) else (if (decide ((6 : Int) < (g3.length : Int))) then (some (([] : List Int), 2)) else ((slide_parity_m g1 g2 g3).bind fun r2 => if (r2 != 0) then (some (([] : List Int), 10)) else ((slide_Home_J1 g1 g2 g3))))

set_option maxRecDepth 100000 in
set_option maxHeartbeats 4000000 in
theorem slide_Home_w  {g1 : Int} {g2 : Int} {A1 : Option Addr} {c1 : Nat} {n1 : Nat} {g3 : List Int} {r : (List Int × Int)} {w0 w : World} {B : Nat} {fs : List HP} (hm : slide_Home_m g1 g2 g3 = some r) (hS : Sep w0 B w (fs)) (hr_g3 : RdF w0 B fs A1 (vI g3)) (_hc_g3 : g3.length ≤ c1) (_hn_g3 : n1 = g3.length) :
    Calls Try.prog 12 #[.agg #[.int .i64 g1, .int .i64 g2, .slice A1 n1 c1]] w fun e w' => ∃ v, e = .returned v ∧ ∃ (A4 : Option Addr) (c4 : Nat), v = .tuple #[.slice A4 r.1.length c4, .int .i64 r.2] ∧ Sep w0 B w' (own 3 (.slice A4 r.1.length c4) (vI r.1) :: fs) := by
  obtain ⟨i3, hi3, hz3, hs3, hb3⟩ := info_parts Info3
  obtain rfl := _hn_g3
  unfold slide_Home_m at hm
  replace hm := start_b hm
  refine enter (l := [.agg #[.int .i64 g1, .int .i64 g2, .slice A1 g3.length c1]]) (n := 26) Try.func12 rfl rfl (by simp) (fun a hF => ?_)
  refine seqR ?_
  refine at_do (d := 1) (s := vS (Instr.box 32 (.agg #[.int .i64 g1, .int .i64 g2, .slice A1 g3.length c1]))) (v := .pointer (some ⟨w.heap.size, 0, none⟩)) (w' := w.alloc (.cells #[.int .i64 g1, .int .i64 g2, .slice A1 g3.length c1] 32)) hF (by kernel_rfl) (by kernel_rfl) (by kernel_rfl) (fun a hF => ?_)
  have hS : Sep w0 B (w.alloc (.cells #[.int .i64 g1, .int .i64 g2, .slice A1 g3.length c1] 32)) (blk w.heap.size 32 #[.int .i64 g1, .int .i64 g2, .slice A1 g3.length c1] :: (fs)) := hS.box 32 #[.int .i64 g1, .int .i64 g2, .slice A1 g3.length c1]
  generalize w.heap.size = g4 at hF hS
  generalize w.alloc (.cells #[.int .i64 g1, .int .i64 g2, .slice A1 g3.length c1] 32) = w at hS ⊢
  refine at_run 2 [] [] [1] [pl 1 (.pointer (some ⟨g4, 0, none⟩))] hF hS (by kernel_rfl) (by kernel_rfl) ?_ (fun a w hF hS => ?_)
  · exact obs_nil
  refine at_end [1] [pl 1 (.pointer (some ⟨g4, 0, none⟩))] hF rfl (by kernel_rfl) (fun hF => ?_)
  refine then_n ?_
  refine seq_cut (fun a w => Fr 26 [pl 1 (.pointer (some ⟨g4, 0, none⟩))] a ∧ Sep w0 B w (blk g4 32 #[.int .i64 g1, .int .i64 g2, .slice A1 g3.length c1] :: fs) ∧ ((slide_Home_J1 g1 g2 g3)).bind some = some r) ?_ ?_
  · rintro a w ⟨hF, hS, hm⟩
    unfold slide_Home_J1 at hm
    refine seqR ?_
    refine at_do (d := 4) (s := vS (Instr.alloc 22 true (.tuple #[]))) (v := .pointer (some ⟨w.heap.size, 0, none⟩)) (w' := w.alloc (.cells #[.slice none 0 0] 22)) hF (by kernel_rfl) (by kernel_rfl) (by kernel_rfl) (fun a hF => ?_)
    have hS : Sep w0 B (w.alloc (.cells #[.slice none 0 0] 22)) (blk w.heap.size 22 #[.slice none 0 0] :: (blk g4 32 #[.int .i64 g1, .int .i64 g2, .slice A1 g3.length c1] :: fs)) := hS.box 22 #[.slice none 0 0]
    generalize w.heap.size = g5 at hF hS
    generalize w.alloc (.cells #[.slice none 0 0] 22) = w at hS ⊢
    refine at_end [1, 4] [pl 1 (.pointer (some ⟨g4, 0, none⟩)), pl 4 (.pointer (some ⟨g5, 0, none⟩))] hF rfl (by kernel_rfl) (fun hF => ?_)
    refine then_n ?_
    refine seqR ?_
    obtain ⟨r3, hr3, hm⟩ := call_b hm
    obtain ⟨r4, hr4, hm⟩ := call_b hm
    refine at_run 4 [⟨false, [], vS (Instr.loadAt 3 (.pointer (some ⟨g4, 0, none⟩))), .int .i64 g1⟩, ⟨false, [], vS (Instr.loadAt 3 (.pointer (some ⟨g4, 1, none⟩))), .int .i64 g2⟩] [none, some (.int .i64 g1), none, some (.int .i64 g2)] [1, 4, 19, 21] [pl 1 (.pointer (some ⟨g4, 0, none⟩)), pl 4 (.pointer (some ⟨g5, 0, none⟩)), pl 19 (.int .i64 g1), pl 21 (.int .i64 g2)] hF hS (by kernel_rfl) (by kernel_rfl) ?_ (fun a w hF hS => ?_)
    · exact obs_cons (ob_load Agg3 (fun _ _ hS => (hS.at_ 1 rfl).cell rfl)) <| obs_cons (ob_load Agg3 (fun _ _ hS => (hS.at_ 1 rfl).cell rfl)) <| obs_nil
    refine at_call (f := 53) (args := #[.int .i64 g1, .int .i64 g2]) (d := 22) hF (by kernel_rfl) (by kernel_rfl) Try.func53 (by kernel_rfl) rfl (slide_home_w hr3 hS ) (fun v a w hR hF => ?_)
    clear hS
    obtain ⟨A2, c2, rfl, hS⟩ := hR
    have hS : Sep w0 B w (own 3 (.slice A2 r3.2.2.length c2) (vI r3.2.2) :: blk g5 22 #[.slice none 0 0] :: blk g4 32 #[.int .i64 g1, .int .i64 g2, .slice A1 g3.length c1] :: fs) := hS
    refine at_run 1 [] [] [4, 22, 23] [pl 4 (.pointer (some ⟨g5, 0, none⟩)), pl 22 (.agg #[.int .i64 r3.1, .int .i64 r3.2.1, .slice A2 r3.2.2.length c2]), pl 23 (.func (.func 54) #[] #[.pointer (some ⟨g4, 0, none⟩), .pointer (some ⟨g5, 0, none⟩)])] hF hS (by kernel_rfl) (by kernel_rfl) ?_ (fun a w hF hS => ?_)
    · exact obs_nil
    have hS : Sep w0 B w (own 3 (.slice none 0 0) (vI ([] : List Int)) :: own 3 (.slice A2 r3.2.2.length c2) (vI r3.2.2) :: blk g5 22 #[.slice none 0 0] :: blk g4 32 #[.int .i64 g1, .int .i64 g2, .slice A1 g3.length c1] :: fs) := hS.nil 3
    have hS : Sep w0 B w (own 3 (.slice none 0 0) (vI ([] : List Int)) :: own 3 (.slice A2 r3.2.2.length c2) (vI r3.2.2) :: blk g5 22 #[.slice none 0 0] :: blk g4 32 #[.int .i64 g1, .int .i64 g2, .slice A1 g3.length c1] :: fs) := hS
    have hS : Sep w0 B w (blk g4 32 #[.int .i64 g1, .int .i64 g2, .slice A1 g3.length c1] :: blk g5 22 #[.slice none 0 0] :: own 3 (.slice none 0 0) (vI ([] : List Int)) :: own 3 (.slice A2 r3.2.2.length c2) (vI r3.2.2) :: fs) := hS.pickN 4 [3, 2, 0, 1] (by decide)
    refine at_call (f := 52) (args := #[.agg #[.int .i64 r3.1, .int .i64 r3.2.1, .slice A2 r3.2.2.length c2], .func (.func 54) #[] #[.pointer (some ⟨g4, 0, none⟩), .pointer (some ⟨g5, 0, none⟩)]]) (d := 24) hF (by kernel_rfl) (by kernel_rfl) Try.func52 (by kernel_rfl) rfl (slide_rings_w hr4 hS (fun _ hS => (hS.at_ 0 rfl).rd) (((hS.dropN 3).at_ 0 rfl).cap1) rfl (fun _ hS => (hr_g3 _ (hS.dropN 1))) _hc_g3 rfl) (fun v a w hR hF => ?_)
    clear hS
    obtain ⟨A3, c3, rfl, hS⟩ := hR
    have hS : Sep w0 B w (blk g4 32 #[.int .i64 g1, .int .i64 g2, .slice A1 g3.length c1] :: blk g5 22 #[.slice A3 r4.length c3] :: own 3 (.slice A3 r4.length c3) (vI r4) :: own 3 (.slice A2 r3.2.2.length c2) (vI r3.2.2) :: fs) := hS
    refine at_end [4] [pl 4 (.pointer (some ⟨g5, 0, none⟩))] hF rfl (by kernel_rfl) (fun hF => ?_)
    refine then_n ?_
    refine reg [⟨false, [], vS (Instr.loadAt 22 (.pointer (some ⟨g5, 0, none⟩))), .slice A3 r4.length c3⟩] [some (.slice A3 r4.length c3), none, none] [2, 3] [pl 2 (.slice A3 r4.length c3), pl 3 (.int .i64 0)] hF hS Fol (by kernel_rfl) (by kernel_rfl) (by kernel_rfl) ?_ (fun a w hF hS => ?_)
    · exact obs_cons (ob_load Agg22 (fun _ _ hS => (hS.at_ 1 rfl).cell rfl)) <| obs_nil
    refine wpIn_ret ?_
    have hS := hS.pickN 4 [2] (by decide)
    have hm : some (r4, 0) = some r := hm
    obtain rfl := Option.some.inj hm
    exact retV (rs := [.tmp 2, .tmp 3]) (vs := [.slice A3 r4.length c3, .int .i64 0]) hF rfl (rv_t (by kernel_rfl) <| rv_t (by kernel_rfl) <| rv_nil) rfl ⟨_, rfl, A3, c3, rfl, hS⟩
  · refine wpIn_block ?_
    obtain ⟨r1, hr1, hm⟩ := call_b hm
    refine reg [⟨false, [], vS (Instr.loadAt 32 (.pointer (some ⟨g4, 0, none⟩))), .agg #[.int .i64 g1, .int .i64 g2, .slice A1 g3.length c1]⟩, ⟨false, [], callFunc 50 #[.agg #[.int .i64 g1, .int .i64 g2, .slice A1 g3.length c1]], .bool r1⟩] [some (.agg #[.int .i64 g1, .int .i64 g2, .slice A1 g3.length c1]), some (.bool r1), none, none] [1, 5] [pl 1 (.pointer (some ⟨g4, 0, none⟩)), pl 5 (.bool (!r1))] hF hS Fol (by kernel_rfl) (by kernel_rfl) (by kernel_rfl) ?_ (fun a w hF hS => ?_)
    · exact obs_cons (ob_loadA (cs := #[.int .i64 g1, .int .i64 g2, .slice A1 g3.length c1]) (by kernel_rfl) (by kernel_rfl) (fun _ _ hS => (hS.at_ 0 rfl).cellsAt 0 (by rfl))) <| obs_cons (ob_call Try.func50 (by kernel_rfl) rfl (fun _ _ hS => slide_May_w hr1 hS (fun _ hS => (hr_g3 _ (hS.dropN 1))) _hc_g3 rfl)) <| obs_nil
    refine cond_ev (t := 5) (b := !r1) hF (by kernel_rfl) (fun hb => ?_) (fun hb => ?_)
    · replace hm := if_t hm hb
      refine reg [] [] [2, 3] [pl 2 (.slice none 0 0), pl 3 (.int .i64 12)] hF hS Fol (by kernel_rfl) (by kernel_rfl) (by kernel_rfl) ?_ (fun a w hF hS => ?_)
      · exact obs_nil
      refine wpIn_ret ?_
      refine block_r (then_r ?_)
      have hS : Sep w0 B w (own 3 (.slice none 0 0) (vI ([] : List Int)) :: blk g4 32 #[.int .i64 g1, .int .i64 g2, .slice A1 g3.length c1] :: fs) := hS.nil 3
      have hl1 := (hS.at_ 0 rfl).len1
      have hS := (hS.at_ 0 rfl).reN hl1
      have hS : Sep w0 B w (own 3 (.slice none (([] : List Int).length) 0) (vI ([] : List Int)) :: blk g4 32 #[.int .i64 g1, .int .i64 g2, .slice A1 g3.length c1] :: fs) := hS
      have hS := hS.pickN 2 [0] (by decide)
      have hm : some (([] : List Int), 12) = some r := hm
      obtain rfl := Option.some.inj hm
      exact retV (rs := [.tmp 2, .tmp 3]) (vs := [.slice none (([] : List Int).length) 0, .int .i64 12]) hF rfl (rv_t (by kernel_rfl) <| rv_t (by kernel_rfl) <| rv_nil) rfl ⟨_, rfl, none, 0, rfl, hS⟩
    · replace hm := if_f hm hb
      refine reg [⟨false, [], vS (Instr.loadAt 22 (.pointer (some ⟨g4, 2, none⟩))), .slice A1 g3.length c1⟩] [none, some (.slice A1 g3.length c1), none, none, none] [1, 9] [pl 1 (.pointer (some ⟨g4, 0, none⟩)), pl 9 (.bool (decide ((6 : Int) < (g3.length : Int))))] hF hS Fol (by kernel_rfl) (by kernel_rfl) (by kernel_rfl) ?_ (fun a w hF hS => ?_)
      · exact obs_cons (ob_load Agg22 (fun _ _ hS => (hS.at_ 0 rfl).cell rfl)) <| obs_nil
      refine cond_ev (t := 9) (b := decide ((6 : Int) < (g3.length : Int))) hF (by kernel_rfl) (fun hb => ?_) (fun hb => ?_)
      · replace hm := if_t hm hb
        refine reg [] [] [2, 3] [pl 2 (.slice none 0 0), pl 3 (.int .i64 2)] hF hS Fol (by kernel_rfl) (by kernel_rfl) (by kernel_rfl) ?_ (fun a w hF hS => ?_)
        · exact obs_nil
        refine wpIn_ret ?_
        refine block_r (then_r ?_)
        have hS : Sep w0 B w (own 3 (.slice none 0 0) (vI ([] : List Int)) :: blk g4 32 #[.int .i64 g1, .int .i64 g2, .slice A1 g3.length c1] :: fs) := hS.nil 3
        have hl2 := (hS.at_ 0 rfl).len1
        have hS := (hS.at_ 0 rfl).reN hl2
        have hS : Sep w0 B w (own 3 (.slice none (([] : List Int).length) 0) (vI ([] : List Int)) :: blk g4 32 #[.int .i64 g1, .int .i64 g2, .slice A1 g3.length c1] :: fs) := hS
        have hS := hS.pickN 2 [0] (by decide)
        have hm : some (([] : List Int), 2) = some r := hm
        obtain rfl := Option.some.inj hm
        exact retV (rs := [.tmp 2, .tmp 3]) (vs := [.slice none (([] : List Int).length) 0, .int .i64 2]) hF rfl (rv_t (by kernel_rfl) <| rv_t (by kernel_rfl) <| rv_nil) rfl ⟨_, rfl, none, 0, rfl, hS⟩
      · replace hm := if_f hm hb
        obtain ⟨r2, hr2, hm⟩ := call_b hm
        refine reg [⟨false, [], vS (Instr.loadAt 32 (.pointer (some ⟨g4, 0, none⟩))), .agg #[.int .i64 g1, .int .i64 g2, .slice A1 g3.length c1]⟩, ⟨false, [], callFunc 51 #[.agg #[.int .i64 g1, .int .i64 g2, .slice A1 g3.length c1]], .int .i64 r2⟩] [some (.agg #[.int .i64 g1, .int .i64 g2, .slice A1 g3.length c1]), some (.int .i64 r2), none, none] [1, 14] [pl 1 (.pointer (some ⟨g4, 0, none⟩)), pl 14 (.bool (r2 != 0))] hF hS Fol (by kernel_rfl) (by kernel_rfl) (by kernel_rfl) ?_ (fun a w hF hS => ?_)
        · exact obs_cons (ob_loadA (cs := #[.int .i64 g1, .int .i64 g2, .slice A1 g3.length c1]) (by kernel_rfl) (by kernel_rfl) (fun _ _ hS => (hS.at_ 0 rfl).cellsAt 0 (by rfl))) <| obs_cons (ob_call Try.func51 (by kernel_rfl) rfl (fun _ _ hS => slide_parity_w hr2 hS (fun _ hS => (hr_g3 _ (hS.dropN 1))) _hc_g3 rfl)) <| obs_nil
        refine cond_ev (t := 14) (b := (r2 != 0)) hF (by kernel_rfl) (fun hb => ?_) (fun hb => ?_)
        · replace hm := if_t hm hb
          refine reg [] [] [2, 3] [pl 2 (.slice none 0 0), pl 3 (.int .i64 10)] hF hS Fol (by kernel_rfl) (by kernel_rfl) (by kernel_rfl) ?_ (fun a w hF hS => ?_)
          · exact obs_nil
          refine wpIn_ret ?_
          refine block_r (then_r ?_)
          have hS : Sep w0 B w (own 3 (.slice none 0 0) (vI ([] : List Int)) :: blk g4 32 #[.int .i64 g1, .int .i64 g2, .slice A1 g3.length c1] :: fs) := hS.nil 3
          have hl3 := (hS.at_ 0 rfl).len1
          have hS := (hS.at_ 0 rfl).reN hl3
          have hS : Sep w0 B w (own 3 (.slice none (([] : List Int).length) 0) (vI ([] : List Int)) :: blk g4 32 #[.int .i64 g1, .int .i64 g2, .slice A1 g3.length c1] :: fs) := hS
          have hS := hS.pickN 2 [0] (by decide)
          have hm : some (([] : List Int), 10) = some r := hm
          obtain rfl := Option.some.inj hm
          exact retV (rs := [.tmp 2, .tmp 3]) (vs := [.slice none (([] : List Int).length) 0, .int .i64 10]) hF rfl (rv_t (by kernel_rfl) <| rv_t (by kernel_rfl) <| rv_nil) rfl ⟨_, rfl, none, 0, rfl, hS⟩
        · replace hm := if_f hm hb
          refine wpIn_skip ?_
          refine block_n ?_
          refine then_n ?_
          exact ⟨hF.weak [1] (by kernel_rfl), hS, hm⟩

noncomputable def slide_Count_1_J1  (p21 : Int) (p33 : Int) : Option (Bool × Int × Int) :=
  some ((decide ((0 : Int) ≤ (w64 (p21 - 1)))), (w64 (p21 - 1)), p33)
end Go.Proofs.Ytkpkkdpfcbnfdaa
