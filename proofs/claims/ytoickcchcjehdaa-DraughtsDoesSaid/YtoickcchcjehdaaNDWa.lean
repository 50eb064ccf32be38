/-
  Models and walks, printed by our own program (wip/gen).
-/
import Derived.Test.YtoickcchcjehdaaFB
import Derived.Test.YtoickcchcjehdaaSR
import Derived.Test.YtoickcchcjehdaaLibPl
import Derived.Test.YtoickcchcjehdaaLibAS
import Derived.Test.YtoickcchcjehdaaLibHd
import Derived.Test.YtoickcchcjehdaaLibAN
namespace Go.Proofs.Ytoickcchcjehdaa
open Go Go.GL Go.RowKit




noncomputable def gameroomref_Ints_m  (l1 : List Int) : Option (List Int) :=
  asrt ((0 : Int) + (l1.length : Int) ≤ bigN) <| some ([] ++ l1)

set_option maxRecDepth 100000 in
set_option maxHeartbeats 4000000 in
theorem gameroomref_Ints_w  {A1 : Option Addr} {c1 : Nat} {n1 : Nat} {l1 : List Int} {r : (List Int)} {w0 w : World} {B : Nat} {fs : List HP} (hm : gameroomref_Ints_m l1 = some r) (hS : Sep w0 B w (fs)) (hr_l1 : RdF w0 B fs A1 (vI l1)) (_hc_l1 : l1.length ≤ c1) (_hn_l1 : n1 = l1.length) :
    Calls Try.prog 84 #[.slice A1 n1 c1] w fun e w' => ∃ v, e = .returned v ∧ ∃ (A3 : Option Addr) (c3 : Nat), v = .slice A3 r.length c3 ∧ Sep w0 B w' (own 3 (.slice A3 r.length c3) (vI r) :: fs) := by
  obtain ⟨i3, hi3, hz3, hs3, hb3⟩ := info_parts Info3
  obtain rfl := _hn_l1
  unfold gameroomref_Ints_m at hm
  replace hm := start_b hm
  refine enter (l := [.slice A1 l1.length c1]) (n := 5) Try.func84 rfl rfl (by simp) (fun a hF => ?_)
  refine reg [] [] [0] [pl 0 (.slice A1 l1.length c1)] hF hS Fol (by kernel_rfl) (by kernel_rfl) (by kernel_rfl) ?_ (fun a w hF hS => ?_)
  · exact obs_nil
  refine seqR ?_
  obtain ⟨hp1, hm⟩ := asrt_b hm
  refine at_run 1 [] [] [3] [pl 3 (.slice A1 l1.length c1)] hF hS (by kernel_rfl) (by kernel_rfl) ?_ (fun a w hF hS => ?_)
  · exact obs_nil
  have hS : Sep w0 B w (own 3 (.slice none 0 0) (vI ([] : List Int)) :: fs) := hS.nil 3
  obtain ⟨A2, c2, w, hrun, hS⟩ := run_app1 (P := Try.prog) (t := 22) (m := ([] : List Int)) (ys := l1) (A2 := A1) (m2 := l1.length) (c2 := c1) (Value.int .i64) (0 : Int) (hS.at_ 0 rfl) (hr_l1 _ (hS.dropN 1)) rfl 22 Und22 hi3 hz3 hs3 (by omega) rfl (fun _ => rfl) hp1
  have hS : Sep w0 B w (own 3 (.slice A2 (([] ++ l1).length) c2) (vI ([] ++ l1)) :: fs) := hS
  refine at_do (d := 4) hF (by kernel_rfl) (by kernel_rfl) hrun (fun a hF => ?_)
  refine at_run 1 [] [] [2] [pl 2 (.slice A2 (([] ++ l1).length) c2)] hF hS (by kernel_rfl) (by kernel_rfl) ?_ (fun a w hF hS => ?_)
  · exact obs_nil
  refine at_end [2] [pl 2 (.slice A2 (([] ++ l1).length) c2)] hF rfl (by kernel_rfl) (fun hF => ?_)
  refine then_n ?_
  refine wpIn_ret ?_
  have hm : some ([] ++ l1) = some r := hm
  obtain rfl := Option.some.inj hm
  exact retV (rs := [.tmp 2]) (vs := [.slice A2 (([] ++ l1).length) c2]) hF rfl (rv_t (by kernel_rfl) <| rv_nil) rfl ⟨_, rfl, A2, c2, rfl, hS⟩

noncomputable def gameroomref_DraughtsOf_m  (b1 : List Int) (b2 : Int) : Option (List Int × Int) :=
  (gameroomref_Ints_m b1).bind fun r1 => some (r1, b2)

set_option maxRecDepth 100000 in
set_option maxHeartbeats 4000000 in
theorem gameroomref_DraughtsOf_w  {A1 : Option Addr} {c1 : Nat} {n1 : Nat} {b1 : List Int} {b2 : Int} {r : (List Int × Int)} {w0 w : World} {B : Nat} {fs : List HP} (hm : gameroomref_DraughtsOf_m b1 b2 = some r) (hS : Sep w0 B w (fs)) (hr_b1 : RdF w0 B fs A1 (vI b1)) (_hc_b1 : b1.length ≤ c1) (_hn_b1 : n1 = b1.length) :
    Calls Try.prog 41 #[.agg #[.slice A1 n1 c1, .int .i64 b2]] w fun e w' => ∃ v, e = .returned v ∧ ∃ (A3 : Option Addr) (c3 : Nat), v = .agg #[.slice A3 r.1.length c3, .int .i64 r.2] ∧ Sep w0 B w' (own 3 (.slice A3 r.1.length c3) (vI r.1) :: fs) := by
  obtain ⟨i3, hi3, hz3, hs3, hb3⟩ := info_parts Info3
  obtain ⟨i22, hi22, hz22, hs22, hb22⟩ := info_parts Info22
  obtain rfl := _hn_b1
  unfold gameroomref_DraughtsOf_m at hm
  replace hm := start_b hm
  refine enter (l := [.agg #[.slice A1 b1.length c1, .int .i64 b2]]) (n := 8) Try.func41 rfl rfl (by simp) (fun a hF => ?_)
  refine seqR ?_
  refine at_do (d := 1) (s := vS (Instr.box 66 (.agg #[.slice A1 b1.length c1, .int .i64 b2]))) (v := .pointer (some ⟨w.heap.size, 0, none⟩)) (w' := w.alloc (.cells #[.slice A1 b1.length c1, .int .i64 b2] 66)) hF (by kernel_rfl) (by kernel_rfl) (by kernel_rfl) (fun a hF => ?_)
  have hS : Sep w0 B (w.alloc (.cells #[.slice A1 b1.length c1, .int .i64 b2] 66)) (blk w.heap.size 66 #[.slice A1 b1.length c1, .int .i64 b2] :: (fs)) := hS.box 66 #[.slice A1 b1.length c1, .int .i64 b2]
  generalize w.heap.size = g1 at hF hS
  generalize w.alloc (.cells #[.slice A1 b1.length c1, .int .i64 b2] 66) = w at hS ⊢
  refine at_do (d := 2) (s := vS (Instr.alloc 66 true (.tuple #[]))) (v := .pointer (some ⟨w.heap.size, 0, none⟩)) (w' := w.alloc (.cells #[.slice none 0 0, .int .i64 0] 66)) hF (by kernel_rfl) (by kernel_rfl) (by kernel_rfl) (fun a hF => ?_)
  have hS : Sep w0 B (w.alloc (.cells #[.slice none 0 0, .int .i64 0] 66)) (blk w.heap.size 66 #[.slice none 0 0, .int .i64 0] :: (blk g1 66 #[.slice A1 b1.length c1, .int .i64 b2] :: fs)) := hS.box 66 #[.slice none 0 0, .int .i64 0]
  generalize w.heap.size = g2 at hF hS
  generalize w.alloc (.cells #[.slice none 0 0, .int .i64 0] 66) = w at hS ⊢
  refine at_end [1, 2] [pl 1 (.pointer (some ⟨g1, 0, none⟩)), pl 2 (.pointer (some ⟨g2, 0, none⟩))] hF rfl (by kernel_rfl) (fun hF => ?_)
  refine then_n ?_
  refine seqR ?_
  obtain ⟨r1, hr1, hm⟩ := call_b hm
  refine at_run 2 [⟨false, [], vS (Instr.loadAt 22 (.pointer (some ⟨g1, 0, none⟩))), .slice A1 b1.length c1⟩] [none, some (.slice A1 b1.length c1)] [1, 2, 4] [pl 1 (.pointer (some ⟨g1, 0, none⟩)), pl 2 (.pointer (some ⟨g2, 0, none⟩)), pl 4 (.slice A1 b1.length c1)] hF hS (by kernel_rfl) (by kernel_rfl) ?_ (fun a w hF hS => ?_)
  · exact obs_cons (ob_load Agg22 (fun _ _ hS => (hS.at_ 1 rfl).cell rfl)) <| obs_nil
  refine at_call (f := 84) (args := #[.slice A1 b1.length c1]) (d := 5) hF (by kernel_rfl) (by kernel_rfl) Try.func84 (by kernel_rfl) rfl (gameroomref_Ints_w hr1 hS (fun _ hS => (hr_b1 _ (hS.dropN 2))) _hc_b1 rfl) (fun v a w hR hF => ?_)
  clear hS
  obtain ⟨A2, c2, rfl, hS⟩ := hR
  have hS : Sep w0 B w (own 3 (.slice A2 r1.length c2) (vI r1) :: blk g2 66 #[.slice none 0 0, .int .i64 0] :: blk g1 66 #[.slice A1 b1.length c1, .int .i64 b2] :: fs) := hS
  refine at_run 1 [] [] [1, 2, 5, 6] [pl 1 (.pointer (some ⟨g1, 0, none⟩)), pl 2 (.pointer (some ⟨g2, 0, none⟩)), pl 5 (.slice A2 r1.length c2), pl 6 (.pointer (some ⟨g1, 0, none⟩))] hF hS (by kernel_rfl) (by kernel_rfl) ?_ (fun a w hF hS => ?_)
  · exact obs_nil
  obtain ⟨w, hrun, hS⟩ := run_put (P := Try.prog) (t := 22) (u := .slice A2 r1.length c2) (i := 0) (hS.at_ 2 rfl) hi22 hs22 rfl (Nat.lt_of_lt_of_eq (Nat.lt_of_succ_le (Nat.le_of_ble_eq_true (by kernel_rfl))) rfl)
  refine at_skip hF (by kernel_rfl) hrun ?_
  have hS : Sep w0 B w (own 3 (.slice A2 r1.length c2) (vI r1) :: blk g2 66 #[.slice none 0 0, .int .i64 0] :: blk g1 66 #[.slice A2 r1.length c2, .int .i64 b2] :: fs) := hS
  refine at_end [1, 2] [pl 1 (.pointer (some ⟨g1, 0, none⟩)), pl 2 (.pointer (some ⟨g2, 0, none⟩))] hF rfl (by kernel_rfl) (fun hF => ?_)
  refine then_n ?_
  refine seqR ?_
  refine at_run 1 [⟨false, [], vS (Instr.loadAt 66 (.pointer (some ⟨g1, 0, none⟩))), .agg #[.slice A2 r1.length c2, .int .i64 b2]⟩] [some (.agg #[.slice A2 r1.length c2, .int .i64 b2])] [2, 7] [pl 2 (.pointer (some ⟨g2, 0, none⟩)), pl 7 (.agg #[.slice A2 r1.length c2, .int .i64 b2])] hF hS (by kernel_rfl) (by kernel_rfl) ?_ (fun a w hF hS => ?_)
  · exact obs_cons (ob_loadA (cs := #[.slice A2 r1.length c2, .int .i64 b2]) (by kernel_rfl) (by kernel_rfl) (fun _ _ hS => (hS.at_ 2 rfl).cellsAt 0 (by rfl))) <| obs_nil
  obtain ⟨w, hrun, hS⟩ := run_putA (P := Try.prog) (t := 66) (us := #[.slice A2 r1.length c2, .int .i64 b2]) (o := 0) (hS.at_ 1 rfl) (by kernel_rfl) (all_one (by kernel_rfl)) (Nat.le_of_ble_eq_true (by kernel_rfl))
  refine at_skip hF (by kernel_rfl) hrun ?_
  have hS : Sep w0 B w (own 3 (.slice A2 r1.length c2) (vI r1) :: blk g2 66 #[.slice A2 r1.length c2, .int .i64 b2] :: blk g1 66 #[.slice A2 r1.length c2, .int .i64 b2] :: fs) := hS
  refine at_end [2] [pl 2 (.pointer (some ⟨g2, 0, none⟩))] hF rfl (by kernel_rfl) (fun hF => ?_)
  refine then_n ?_
  refine wpIn_ret ?_
  have hld0 := run_loadVarA (P := Try.prog) (t := 66) (cs := #[.slice A2 r1.length c2, .int .i64 b2]) (by kernel_rfl) (by kernel_rfl) ((hS.at_ 1 rfl).cellsAt 0 (by rfl))
  have hS := hS.pickN 3 [0] (by decide)
  have hm : some (r1, b2) = some r := hm
  obtain rfl := Option.some.inj hm
  exact retV (rs := [.cell 2 66]) (vs := [.agg #[.slice A2 r1.length c2, .int .i64 b2]]) hF rfl (rv_c (by kernel_rfl) hld0 <| rv_nil) rfl ⟨_, rfl, A2, c2, rfl, hS⟩

noncomputable def draughts_May_J4  (z1 : Int) (many3 : List Int) : Option (St (List Int × Int) (Fl (List Int) Bool)) :=
  some (.next (many3, (w64 (z1 + 1))))

noncomputable def draughts_May_J3  (b1 : List Int) (many1 : List Int) (z1 : Int) : Option (St (List Int × Int) (Fl (List Int) Bool)) :=
  asrt (0 ≤ z1 ∧ z1 < (b1.length : Int)) <| if ((((decide ((geti b1 z1) < (-2))) || (decide ((2 : Int) < (geti b1 z1)))) || (((geti b1 z1) == 1) && (decide (z1 ≤ 4)))) || (((geti b1 z1) == (-1)) && (decide ((29 : Int) ≤ z1)))) then (some (.done (.ret false))) else (if (decide ((0 : Int) < (geti b1 z1))) then (asrt (0 ≤ (1 : Int) ∧ (1 : Int) < 3) <| asrt (0 ≤ (1 : Int) ∧ (1 : Int) < 3) <| asrt (1 < (many1.length : Int)) <| (draughts_May_J4 z1) (many1.set (Int.toNat 1) (w64 ((geti many1 1) + 1)))) else (if (decide ((geti b1 z1) < 0)) then (asrt (0 ≤ (2 : Int) ∧ (2 : Int) < 3) <| asrt (0 ≤ (2 : Int) ∧ (2 : Int) < 3) <| asrt (2 < (many1.length : Int)) <| (draughts_May_J4 z1) (many1.set (Int.toNat 2) (w64 ((geti many1 2) + 1)))) else ((draughts_May_J4 z1) many1)))

noncomputable def draughts_May_J2  (many2 : List Int) : Option Bool :=
  asrt (0 ≤ (1 : Int) ∧ (1 : Int) < 3) <| asrt ((decide ((geti many2 1) ≤ 12)) = true → 0 ≤ (2 : Int) ∧ (2 : Int) < 3) <| some ((decide ((geti many2 1) ≤ 12)) && (decide ((geti many2 2) ≤ 12)))

noncomputable def draughts_May_K1  : (Fl (List Int) Bool) → Option Bool :=
  fun (x : (Fl (List Int) Bool)) => match x with | .go many2 => draughts_May_J2 many2 | .ret x => some x

noncomputable def draughts_May_L1  (b1 : List Int) : (List Int × Int) → Option (St (List Int × Int) (Fl (List Int) Bool)) :=
  fun (x : (List Int × Int)) => match x with | (many1, z1) => if (decide (z1 < (b1.length : Int))) then ((draughts_May_J3 b1 many1 z1)) else (some (.done (.go many1)))

noncomputable def draughts_May_J1  (b1 : List Int) : Option Bool :=
  (loop (draughts_May_L1 b1) ((List.replicate 3 (0 : Int)), 0)).bind draughts_May_K1

noncomputable def draughts_May_m  (b1 : List Int) (b2 : Int) : Option Bool :=
  asrt (((b1.length : Int) != 33) = false → 0 ≤ (0 : Int) ∧ (0 : Int) < (b1.length : Int)) <| if ((((b1.length : Int) != 33) || ((geti b1 0) != 0)) || ((b2 != 1) && (b2 != 2))) then (some false) else ((draughts_May_J1 b1))

set_option maxRecDepth 100000 in
set_option maxHeartbeats 4000000 in
theorem draughts_May_w  {A1 : Option Addr} {c1 : Nat} {n1 : Nat} {b1 : List Int} {b2 : Int} {r : Bool} {w0 w : World} {B : Nat} {fs : List HP} (hm : draughts_May_m b1 b2 = some r) (hS : Sep w0 B w (fs)) (hr_b1 : RdF w0 B fs A1 (vI b1)) (_hc_b1 : b1.length ≤ c1) (_hn_b1 : n1 = b1.length) :
    Calls Try.prog 40 #[.agg #[.slice A1 n1 c1, .int .i64 b2]] w fun e w' => e = .returned (.bool r) ∧ Sep w0 B w' (fs) := by
  obtain ⟨i3, hi3, hz3, hs3, hb3⟩ := info_parts Info3
  obtain rfl := _hn_b1
  unfold draughts_May_m at hm
  replace hm := start_b hm
  refine enter (l := [.agg #[.slice A1 b1.length c1, .int .i64 b2]]) (n := 81) Try.func40 rfl rfl (by simp) (fun a hF => ?_)
  refine seqR ?_
  refine at_do (d := 1) (s := vS (Instr.box 66 (.agg #[.slice A1 b1.length c1, .int .i64 b2]))) (v := .pointer (some ⟨w.heap.size, 0, none⟩)) (w' := w.alloc (.cells #[.slice A1 b1.length c1, .int .i64 b2] 66)) hF (by kernel_rfl) (by kernel_rfl) (by kernel_rfl) (fun a hF => ?_)
  have hS : Sep w0 B (w.alloc (.cells #[.slice A1 b1.length c1, .int .i64 b2] 66)) (blk w.heap.size 66 #[.slice A1 b1.length c1, .int .i64 b2] :: (fs)) := hS.box 66 #[.slice A1 b1.length c1, .int .i64 b2]
  generalize w.heap.size = g1 at hF hS
  generalize w.alloc (.cells #[.slice A1 b1.length c1, .int .i64 b2] 66) = w at hS ⊢
  refine at_run 1 [] [] [1] [pl 1 (.pointer (some ⟨g1, 0, none⟩))] hF hS (by kernel_rfl) (by kernel_rfl) ?_ (fun a w hF hS => ?_)
  · exact obs_nil
  refine at_end [1] [pl 1 (.pointer (some ⟨g1, 0, none⟩))] hF rfl (by kernel_rfl) (fun hF => ?_)
  refine then_n ?_
  refine seq_cut (fun a w => Fr 81 [pl 1 (.pointer (some ⟨g1, 0, none⟩))] a ∧ Sep w0 B w (blk g1 66 #[.slice A1 b1.length c1, .int .i64 b2] :: fs) ∧ ((draughts_May_J1 b1)).bind some = some r) ?_ ?_
  · rintro a w ⟨hF, hS, hm⟩
    unfold draughts_May_J1 at hm
    refine seqR ?_
    refine at_do (d := 3) (s := vS (Instr.alloc 158 true (.tuple #[]))) (v := .pointer (some ⟨w.heap.size, 0, none⟩)) (w' := w.alloc (.cells (List.toArray (([] : List Value) ++ (arr1 (Value.int .i64) (0 : Int) 3 (List.replicate 3 (0 : Int)) ++ ([] : List Value)))) 158)) hF (by kernel_rfl) (by kernel_rfl) (by kernel_rfl) (fun a hF => ?_)
    have hS : Sep w0 B (w.alloc (.cells (List.toArray (([] : List Value) ++ (arr1 (Value.int .i64) (0 : Int) 3 (List.replicate 3 (0 : Int)) ++ ([] : List Value)))) 158)) (blk w.heap.size 158 (List.toArray (([] : List Value) ++ (arr1 (Value.int .i64) (0 : Int) 3 (List.replicate 3 (0 : Int)) ++ ([] : List Value)))) :: (blk g1 66 #[.slice A1 b1.length c1, .int .i64 b2] :: fs)) := hS.box 158 (List.toArray (([] : List Value) ++ (arr1 (Value.int .i64) (0 : Int) 3 (List.replicate 3 (0 : Int)) ++ ([] : List Value))))
    generalize w.heap.size = g2 at hF hS
    generalize w.alloc (.cells (List.toArray (([] : List Value) ++ (arr1 (Value.int .i64) (0 : Int) 3 (List.replicate 3 (0 : Int)) ++ ([] : List Value)))) 158) = w at hS ⊢
    refine at_end [1, 3] [pl 1 (.pointer (some ⟨g1, 0, none⟩)), pl 3 (.pointer (some ⟨g2, 0, none⟩))] hF rfl (by kernel_rfl) (fun hF => ?_)
    refine then_n ?_
    refine seq_cut (fun a w => ∃ (many2 : List Int), Fr 81 [pl 3 (.pointer (some ⟨g2, 0, none⟩))] a ∧ Sep w0 B w (blk g2 158 (List.toArray (([] : List Value) ++ (arr1 (Value.int .i64) (0 : Int) 3 many2 ++ ([] : List Value)))) :: fs) ∧ (draughts_May_J2 many2).bind some = some r) ?_ ?_
    · rintro a w ⟨many2, hF, hS, hm⟩
      unfold draughts_May_J2 at hm
      obtain ⟨hp9, hm⟩ := asrt_b hm
      obtain ⟨hp10, hm⟩ := asrt_b hm
      refine reg [⟨true, [], vS (Instr.indexAt 158 (.pointer (some ⟨g2, 0, none⟩)) (.int .i64 1)), .pointer (some ((⟨g2, 0, none⟩ : Addr).add (Int.toNat 1 * 1)))⟩, ⟨false, [], vS (Instr.loadAt 3 (.pointer (some ((⟨g2, 0, none⟩ : Addr).add (Int.toNat 1 * 1))))), .int .i64 (geti many2 1)⟩, ⟨true, [(decide ((geti many2 1) ≤ 12), true)], vS (Instr.indexAt 158 (.pointer (some ⟨g2, 0, none⟩)) (.int .i64 2)), .pointer (some ((⟨g2, 0, none⟩ : Addr).add (Int.toNat 2 * 1)))⟩, ⟨false, [(decide ((geti many2 1) ≤ 12), true)], vS (Instr.loadAt 3 (.pointer (some ((⟨g2, 0, none⟩ : Addr).add (Int.toNat 2 * 1))))), .int .i64 (geti many2 2)⟩] [some (.pointer (some ((⟨g2, 0, none⟩ : Addr).add (Int.toNat 1 * 1)))), some (.int .i64 (geti many2 1)), none, none, some (.pointer (some ((⟨g2, 0, none⟩ : Addr).add (Int.toNat 2 * 1)))), some (.int .i64 (geti many2 2)), none, none, none] [2] [pl 2 (.bool ((decide ((geti many2 1) ≤ 12)) && (decide ((geti many2 2) ≤ 12))))] hF hS Fol (by kernel_rfl) (by kernel_rfl) (by kernel_rfl) ?_ (fun a w hF hS => ?_)
      · exact obs_cons (ob_ixA UndA158 hi3 hs3 (fun _ => hp9)) <| obs_cons (ob_getA (m := many2) (Value.int .i64) (0 : Int) 3 ([] : List Value) ([] : List Value) 1 Agg3 rfl (fun _ hS => ⟨_, _, _, _, _, hS.at_ 0 rfl⟩) (fun hy => by have h0 := hp9; omega)) <| obs_cons (ob_ixA UndA158 hi3 hs3 (fun hy => hp10 (hy (decide ((geti many2 1) ≤ 12), true) (by simp)))) <| obs_cons (ob_getA (m := many2) (Value.int .i64) (0 : Int) 3 ([] : List Value) ([] : List Value) 2 Agg3 rfl (fun _ hS => ⟨_, _, _, _, _, hS.at_ 0 rfl⟩) (fun hy => by have h0 := hp10 (hy (decide ((geti many2 1) ≤ 12), true) (by simp)); omega)) <| obs_nil
      refine wpIn_ret ?_
      have hS := hS.pickN 1 [] (by decide)
      have hm : some ((decide ((geti many2 1) ≤ 12)) && (decide ((geti many2 2) ≤ 12))) = some r := hm
      obtain rfl := Option.some.inj hm
      exact retV (rs := [.tmp 2]) (vs := [.bool ((decide ((geti many2 1) ≤ 12)) && (decide ((geti many2 2) ≤ 12)))]) hF rfl (rv_t (by kernel_rfl) <| rv_nil) rfl ⟨rfl, hS⟩
    · refine reg [⟨false, [], vS (Instr.loadAt 22 (.pointer (some ⟨g1, 0, none⟩))), .slice A1 b1.length c1⟩] [none, some (.slice A1 b1.length c1), none, none] [3, 28, 29, 30] [pl 3 (.pointer (some ⟨g2, 0, none⟩)), pl 28 (.slice A1 b1.length c1), pl 29 (.int .i64 (b1.length : Int)), pl 30 (.int .i64 0)] hF hS Fol (by kernel_rfl) (by kernel_rfl) (by kernel_rfl) ?_ (fun a w hF hS => ?_)
      · exact obs_cons (ob_load Agg22 (fun _ _ hS => (hS.at_ 1 rfl).cell rfl)) <| obs_nil
      refine wpIn_block ?_
      have hS := hS.pickN 2 [0] (by decide)
      refine wp_loop_model (S := (List Int × Int)) (R := (Fl (List Int) Bool)) (draughts_May_L1 b1) (fun x => (draughts_May_K1 x).bind some) r (fun (x : (List Int × Int)) a w => Fr 81 [pl 3 (.pointer (some ⟨g2, 0, none⟩)), pl 28 (.slice A1 b1.length c1), pl 29 (.int .i64 (b1.length : Int)), pl 30 (.int .i64 x.2)] a ∧ Sep w0 B w (blk g2 158 (List.toArray (([] : List Value) ++ (arr1 (Value.int .i64) (0 : Int) 3 x.1 ++ ([] : List Value)))) :: fs)) (assoc_b hm) ⟨hF.weak [3, 28, 29, 30] (by kernel_rfl), hS⟩ ?_
      clear hF hS hm
      rintro nn1 ⟨many1, z1⟩ a w ⟨hF, hS⟩ hm
      generalize hφ1 : stK (draughts_May_L1 b1) nn1 (fun x => (draughts_May_K1 x).bind some) = φ1 at hm
      unfold draughts_May_L1 at hm
      dsimp only at hF hS hm
      refine reg [] [] [3, 28, 29, 30, 31] [pl 3 (.pointer (some ⟨g2, 0, none⟩)), pl 28 (.slice A1 b1.length c1), pl 29 (.int .i64 (b1.length : Int)), pl 30 (.int .i64 z1), pl 31 (.bool (decide (z1 < (b1.length : Int))))] hF hS Fol (by kernel_rfl) (by kernel_rfl) (by kernel_rfl) ?_ (fun a w hF hS => ?_)
      · exact obs_nil
      refine seq_cut (fun a w => Fr 81 [pl 3 (.pointer (some ⟨g2, 0, none⟩)), pl 28 (.slice A1 b1.length c1), pl 29 (.int .i64 (b1.length : Int)), pl 30 (.int .i64 z1)] a ∧ Sep w0 B w (blk g2 158 (List.toArray (([] : List Value) ++ (arr1 (Value.int .i64) (0 : Int) 3 many1 ++ ([] : List Value)))) :: fs) ∧ ((draughts_May_J3 b1 many1 z1)).bind φ1 = some r) ?_ ?_
      · rintro a w ⟨hF, hS, hm⟩
        unfold draughts_May_J3 at hm
        refine seq_cut (fun a w => ∃ (many3 : List Int), Fr 81 [pl 3 (.pointer (some ⟨g2, 0, none⟩)), pl 28 (.slice A1 b1.length c1), pl 29 (.int .i64 (b1.length : Int)), pl 30 (.int .i64 z1)] a ∧ Sep w0 B w (blk g2 158 (List.toArray (([] : List Value) ++ (arr1 (Value.int .i64) (0 : Int) 3 many3 ++ ([] : List Value)))) :: fs) ∧ ((draughts_May_J4 z1) many3).bind φ1 = some r) ?_ ?_
        · rintro a w ⟨many3, hF, hS, hm⟩
          unfold draughts_May_J4 at hm
          refine reg1 [] [] [3, 28, 29, 30] [pl 3 (.pointer (some ⟨g2, 0, none⟩)), pl 28 (.slice A1 b1.length c1), pl 29 (.int .i64 (b1.length : Int)), pl 30 (.int .i64 (w64 (z1 + 1)))] hF hS Fol (by kernel_rfl) (by kernel_rfl) (by kernel_rfl) ?_ (fun a w hF hS => ?_)
          · exact obs_nil
          refine then_n ?_
          rw [← hφ1] at hm
          exact ⟨(many3, (w64 (z1 + 1))), ⟨hF.weak [3, 28, 29, 30] (by kernel_rfl), hS⟩, hm⟩
        · refine wpIn_block ?_
          obtain ⟨hp2, hm⟩ := asrt_b hm
          refine reg [⟨true, [], vS (Instr.indexAt 22 (.slice A1 b1.length c1) (.int .i64 z1)), .pointer (some (sAddr A1 z1))⟩, ⟨false, [], vS (Instr.loadAt 3 (.pointer (some (sAddr A1 z1)))), .int .i64 (geti b1 z1)⟩] [none, some (.pointer (some (sAddr A1 z1))), some (.int .i64 (geti b1 z1)), none, none] [3, 4, 5, 28, 29, 30] [pl 3 (.pointer (some ⟨g2, 0, none⟩)), pl 4 (.int .i64 z1), pl 5 (.int .i64 (geti b1 z1)), pl 28 (.slice A1 b1.length c1), pl 29 (.int .i64 (b1.length : Int)), pl 30 (.int .i64 z1)] hF hS Fol (by kernel_rfl) (by kernel_rfl) (by kernel_rfl) ?_ (fun a w hF hS => ?_)
          · exact obs_cons (ob_ix1 (f := (Value.int .i64)) (m := b1) Und22 hi3 hs3 (hr_b1 _ (hS.dropN 1)) rfl (fun _ => hp2)) <| obs_cons (ob_get1 (n := b1.length) (m := b1) (Value.int .i64) (0 : Int) Agg3 (fun _ hS => ⟨_, (hr_b1 _ (hS.dropN 1))⟩) (fun _ hS => rfl) (fun _ => hp2)) <| obs_nil
          refine wpIn_block ?_
          refine reg [] [] [3, 5, 28, 29, 30, 35] [pl 3 (.pointer (some ⟨g2, 0, none⟩)), pl 5 (.int .i64 (geti b1 z1)), pl 28 (.slice A1 b1.length c1), pl 29 (.int .i64 (b1.length : Int)), pl 30 (.int .i64 z1), pl 35 (.bool ((((decide ((geti b1 z1) < (-2))) || (decide ((2 : Int) < (geti b1 z1)))) || (((geti b1 z1) == 1) && (decide (z1 ≤ 4)))) || (((geti b1 z1) == (-1)) && (decide ((29 : Int) ≤ z1)))))] hF hS Fol (by kernel_rfl) (by kernel_rfl) (by kernel_rfl) ?_ (fun a w hF hS => ?_)
          · exact obs_nil
          refine cond_ev (t := 35) (b := (((decide ((geti b1 z1) < (-2))) || (decide ((2 : Int) < (geti b1 z1)))) || (((geti b1 z1) == 1) && (decide (z1 ≤ 4)))) || (((geti b1 z1) == (-1)) && (decide ((29 : Int) ≤ z1)))) hF (by kernel_rfl) (fun hb => ?_) (fun hb => ?_)
          · replace hm := if_t hm hb
            refine reg [] [] [2] [pl 2 (.bool false)] hF hS Fol (by kernel_rfl) (by kernel_rfl) (by kernel_rfl) ?_ (fun a w hF hS => ?_)
            · exact obs_nil
            refine wpIn_ret ?_
            refine block_r (block_r (then_r (then_r (block_r (then_r ?_)))))
            rw [← hφ1] at hm
            replace hm := done_b hm
            unfold draughts_May_K1 at hm
            try dsimp only at hm
            have hS := hS.pickN 1 [] (by decide)
            have hm : some false = some r := hm
            obtain rfl := Option.some.inj hm
            exact retV (rs := [.tmp 2]) (vs := [.bool false]) hF rfl (rv_t (by kernel_rfl) <| rv_nil) rfl ⟨rfl, hS⟩
          · replace hm := if_f hm hb
            refine reg [] [] [3, 5, 28, 29, 30, 58] [pl 3 (.pointer (some ⟨g2, 0, none⟩)), pl 5 (.int .i64 (geti b1 z1)), pl 28 (.slice A1 b1.length c1), pl 29 (.int .i64 (b1.length : Int)), pl 30 (.int .i64 z1), pl 58 (.bool (decide ((0 : Int) < (geti b1 z1))))] hF hS Fol (by kernel_rfl) (by kernel_rfl) (by kernel_rfl) ?_ (fun a w hF hS => ?_)
            · exact obs_nil
            refine cond_ev (t := 58) (b := decide ((0 : Int) < (geti b1 z1))) hF (by kernel_rfl) (fun hb => ?_) (fun hb => ?_)
            · replace hm := if_t hm hb
              refine oneR ?_
              obtain ⟨hp3, hm⟩ := asrt_b hm
              obtain ⟨hp4, hm⟩ := asrt_b hm
              obtain ⟨hp5, hm⟩ := asrt_b hm
              refine at_run 4 [⟨true, [], vS (Instr.indexAt 158 (.pointer (some ⟨g2, 0, none⟩)) (.int .i64 1)), .pointer (some ((⟨g2, 0, none⟩ : Addr).add (Int.toNat 1 * 1)))⟩, ⟨false, [], vS (Instr.loadAt 3 (.pointer (some ((⟨g2, 0, none⟩ : Addr).add (Int.toNat 1 * 1))))), .int .i64 (geti many1 1)⟩, ⟨true, [], vS (Instr.indexAt 158 (.pointer (some ⟨g2, 0, none⟩)) (.int .i64 1)), .pointer (some ((⟨g2, 0, none⟩ : Addr).add (Int.toNat 1 * 1)))⟩] [some (.pointer (some ((⟨g2, 0, none⟩ : Addr).add (Int.toNat 1 * 1)))), some (.int .i64 (geti many1 1)), none, some (.pointer (some ((⟨g2, 0, none⟩ : Addr).add (Int.toNat 1 * 1))))] [3, 28, 29, 30, 63, 64] [pl 3 (.pointer (some ⟨g2, 0, none⟩)), pl 28 (.slice A1 b1.length c1), pl 29 (.int .i64 (b1.length : Int)), pl 30 (.int .i64 z1), pl 63 (.int .i64 (w64 ((geti many1 1) + 1))), pl 64 (.pointer (some ((⟨g2, 0, none⟩ : Addr).add (Int.toNat 1 * 1))))] hF hS (by kernel_rfl) (by kernel_rfl) ?_ (fun a w hF hS => ?_)
              · exact obs_cons (ob_ixA UndA158 hi3 hs3 (fun _ => hp3)) <| obs_cons (ob_getA (m := many1) (Value.int .i64) (0 : Int) 3 ([] : List Value) ([] : List Value) 1 Agg3 rfl (fun _ hS => ⟨_, _, _, _, _, hS.at_ 0 rfl⟩) (fun hy => by have h0 := hp3; omega)) <| obs_cons (ob_ixA UndA158 hi3 hs3 (fun _ => hp4)) <| obs_nil
              obtain ⟨w, hrun, hS⟩ := run_setA (P := Try.prog) (t := 3) (x := (w64 ((geti many1 1) + 1))) (i := 1) (m := many1) (d := Int.toNat 1 * 1) (Value.int .i64) (0 : Int) 3 ([] : List Value) ([] : List Value) (hS.at_ 0 rfl) rfl hi3 hs3 rfl (by have h0 := hp4; omega) (by have h0 := hp4; have h9 := hp5; omega)
              refine at_skip hF (by kernel_rfl) hrun ?_
              have hS : Sep w0 B w (blk g2 158 (List.toArray (([] : List Value) ++ (arr1 (Value.int .i64) (0 : Int) 3 (many1.set (Int.toNat 1) (w64 ((geti many1 1) + 1))) ++ ([] : List Value)))) :: fs) := hS
              refine at_end [3, 28, 29, 30] [pl 3 (.pointer (some ⟨g2, 0, none⟩)), pl 28 (.slice A1 b1.length c1), pl 29 (.int .i64 (b1.length : Int)), pl 30 (.int .i64 z1)] hF rfl (by kernel_rfl) (fun hF => ?_)
              refine block_n ?_
              refine block_n ?_
              refine then_n ?_
              exact ⟨(many1.set (Int.toNat 1) (w64 ((geti many1 1) + 1))), hF.weak [3, 28, 29, 30] (by kernel_rfl), hS, hm⟩
            · replace hm := if_f hm hb
              refine reg [] [] [3, 28, 29, 30, 65] [pl 3 (.pointer (some ⟨g2, 0, none⟩)), pl 28 (.slice A1 b1.length c1), pl 29 (.int .i64 (b1.length : Int)), pl 30 (.int .i64 z1), pl 65 (.bool (decide ((geti b1 z1) < 0)))] hF hS Fol (by kernel_rfl) (by kernel_rfl) (by kernel_rfl) ?_ (fun a w hF hS => ?_)
              · exact obs_nil
              refine cond_ev (t := 65) (b := decide ((geti b1 z1) < 0)) hF (by kernel_rfl) (fun hb => ?_) (fun hb => ?_)
              · replace hm := if_t hm hb
                refine oneR ?_
                obtain ⟨hp6, hm⟩ := asrt_b hm
                obtain ⟨hp7, hm⟩ := asrt_b hm
                obtain ⟨hp8, hm⟩ := asrt_b hm
                refine at_run 4 [⟨true, [], vS (Instr.indexAt 158 (.pointer (some ⟨g2, 0, none⟩)) (.int .i64 2)), .pointer (some ((⟨g2, 0, none⟩ : Addr).add (Int.toNat 2 * 1)))⟩, ⟨false, [], vS (Instr.loadAt 3 (.pointer (some ((⟨g2, 0, none⟩ : Addr).add (Int.toNat 2 * 1))))), .int .i64 (geti many1 2)⟩, ⟨true, [], vS (Instr.indexAt 158 (.pointer (some ⟨g2, 0, none⟩)) (.int .i64 2)), .pointer (some ((⟨g2, 0, none⟩ : Addr).add (Int.toNat 2 * 1)))⟩] [some (.pointer (some ((⟨g2, 0, none⟩ : Addr).add (Int.toNat 2 * 1)))), some (.int .i64 (geti many1 2)), none, some (.pointer (some ((⟨g2, 0, none⟩ : Addr).add (Int.toNat 2 * 1))))] [3, 28, 29, 30, 70, 71] [pl 3 (.pointer (some ⟨g2, 0, none⟩)), pl 28 (.slice A1 b1.length c1), pl 29 (.int .i64 (b1.length : Int)), pl 30 (.int .i64 z1), pl 70 (.int .i64 (w64 ((geti many1 2) + 1))), pl 71 (.pointer (some ((⟨g2, 0, none⟩ : Addr).add (Int.toNat 2 * 1))))] hF hS (by kernel_rfl) (by kernel_rfl) ?_ (fun a w hF hS => ?_)
                · exact obs_cons (ob_ixA UndA158 hi3 hs3 (fun _ => hp6)) <| obs_cons (ob_getA (m := many1) (Value.int .i64) (0 : Int) 3 ([] : List Value) ([] : List Value) 2 Agg3 rfl (fun _ hS => ⟨_, _, _, _, _, hS.at_ 0 rfl⟩) (fun hy => by have h0 := hp6; omega)) <| obs_cons (ob_ixA UndA158 hi3 hs3 (fun _ => hp7)) <| obs_nil
                obtain ⟨w, hrun, hS⟩ := run_setA (P := Try.prog) (t := 3) (x := (w64 ((geti many1 2) + 1))) (i := 2) (m := many1) (d := Int.toNat 2 * 1) (Value.int .i64) (0 : Int) 3 ([] : List Value) ([] : List Value) (hS.at_ 0 rfl) rfl hi3 hs3 rfl (by have h0 := hp7; omega) (by have h0 := hp7; have h9 := hp8; omega)
                refine at_skip hF (by kernel_rfl) hrun ?_
                have hS : Sep w0 B w (blk g2 158 (List.toArray (([] : List Value) ++ (arr1 (Value.int .i64) (0 : Int) 3 (many1.set (Int.toNat 2) (w64 ((geti many1 2) + 1))) ++ ([] : List Value)))) :: fs) := hS
                refine at_end [3, 28, 29, 30] [pl 3 (.pointer (some ⟨g2, 0, none⟩)), pl 28 (.slice A1 b1.length c1), pl 29 (.int .i64 (b1.length : Int)), pl 30 (.int .i64 z1)] hF rfl (by kernel_rfl) (fun hF => ?_)
                refine block_n ?_
                refine block_n ?_
                refine then_n ?_
                exact ⟨(many1.set (Int.toNat 2) (w64 ((geti many1 2) + 1))), hF.weak [3, 28, 29, 30] (by kernel_rfl), hS, hm⟩
              · replace hm := if_f hm hb
                refine wpIn_skip ?_
                refine block_n ?_
                refine block_n ?_
                refine then_n ?_
                exact ⟨many1, hF.weak [3, 28, 29, 30] (by kernel_rfl), hS, hm⟩
      · refine cond_ev (t := 31) (b := decide (z1 < (b1.length : Int))) hF (by kernel_rfl) (fun hb => ?_) (fun hb => ?_)
        · replace hm := if_t hm hb
          refine wpIn_skip ?_
          refine then_n ?_
          exact ⟨hF.weak [3, 28, 29, 30] (by kernel_rfl), hS, hm⟩
        · replace hm := if_f hm hb
          refine wpIn_exit ?_
          refine then_e (then_e (block_e (then_n ?_)))
          rw [← hφ1] at hm
          replace hm := done_b hm
          unfold draughts_May_K1 at hm
          try dsimp only at hm
          have hm : (draughts_May_J2 many1).bind some = some r := hm
          exact ⟨many1, hF.weak [3] (by kernel_rfl), hS, hm⟩
  · obtain ⟨hp1, hm⟩ := asrt_b hm
    refine reg [⟨false, [], vS (Instr.loadAt 22 (.pointer (some ⟨g1, 0, none⟩))), .slice A1 b1.length c1⟩, ⟨false, [(((b1.length : Int) != 33), false)], vS (Instr.loadAt 22 (.pointer (some ⟨g1, 0, none⟩))), .slice A1 b1.length c1⟩, ⟨true, [(((b1.length : Int) != 33), false)], vS (Instr.indexAt 22 (.slice A1 b1.length c1) (.int .i64 0)), .pointer (some (sAddr A1 0))⟩, ⟨false, [(((b1.length : Int) != 33), false)], vS (Instr.loadAt 3 (.pointer (some (sAddr A1 0)))), .int .i64 (geti b1 0)⟩, ⟨false, [(((b1.length : Int) != 33) || ((geti b1 0) != 0), false)], vS (Instr.loadAt 3 (.pointer (some ⟨g1, 1, none⟩))), .int .i64 b2⟩, ⟨false, [((b2 != 1), true), (((b1.length : Int) != 33) || ((geti b1 0) != 0), false)], vS (Instr.loadAt 3 (.pointer (some ⟨g1, 1, none⟩))), .int .i64 b2⟩] [none, some (.slice A1 b1.length c1), none, none, none, none, some (.slice A1 b1.length c1), some (.pointer (some (sAddr A1 0))), some (.int .i64 (geti b1 0)), none, none, none, none, some (.int .i64 b2), none, none, none, some (.int .i64 b2), none, none, none] [1, 26] [pl 1 (.pointer (some ⟨g1, 0, none⟩)), pl 26 (.bool ((((b1.length : Int) != 33) || ((geti b1 0) != 0)) || ((b2 != 1) && (b2 != 2))))] hF hS Fol (by kernel_rfl) (by kernel_rfl) (by kernel_rfl) ?_ (fun a w hF hS => ?_)
    · exact obs_cons (ob_load Agg22 (fun _ _ hS => (hS.at_ 0 rfl).cell rfl)) <| obs_cons (ob_load Agg22 (fun _ _ hS => (hS.at_ 0 rfl).cell rfl)) <| obs_cons (ob_ix1 (f := (Value.int .i64)) (m := b1) Und22 hi3 hs3 (hr_b1 _ (hS.dropN 1)) rfl (fun hy => hp1 (hy (((b1.length : Int) != 33), false) (by simp)))) <| obs_cons (ob_get1 (n := b1.length) (m := b1) (Value.int .i64) (0 : Int) Agg3 (fun _ hS => ⟨_, (hr_b1 _ (hS.dropN 1))⟩) (fun _ hS => rfl) (fun hy => hp1 (hy (((b1.length : Int) != 33), false) (by simp)))) <| obs_cons (ob_load Agg3 (fun _ _ hS => (hS.at_ 0 rfl).cell rfl)) <| obs_cons (ob_load Agg3 (fun _ _ hS => (hS.at_ 0 rfl).cell rfl)) <| obs_nil
    refine cond_ev (t := 26) (b := (((b1.length : Int) != 33) || ((geti b1 0) != 0)) || ((b2 != 1) && (b2 != 2))) hF (by kernel_rfl) (fun hb => ?_) (fun hb => ?_)
    · replace hm := if_t hm hb
      refine reg [] [] [2] [pl 2 (.bool false)] hF hS Fol (by kernel_rfl) (by kernel_rfl) (by kernel_rfl) ?_ (fun a w hF hS => ?_)
      · exact obs_nil
      refine wpIn_ret ?_
      refine then_r ?_
      have hS := hS.pickN 1 [] (by decide)
      have hm : some false = some r := hm
      obtain rfl := Option.some.inj hm
      exact retV (rs := [.tmp 2]) (vs := [.bool false]) hF rfl (rv_t (by kernel_rfl) <| rv_nil) rfl ⟨rfl, hS⟩
    · replace hm := if_f hm hb
      refine wpIn_skip ?_
      refine then_n ?_
      exact ⟨hF.weak [1] (by kernel_rfl), hS, hm⟩

noncomputable def slices_Clone_J1  (s1 : List Int) : Option (List Int) :=
  asrt ((0 : Int) + (s1.length : Int) ≤ bigN) <| some (([] : List Int) ++ s1)

noncomputable def slices_Clone_m  (s1 : List Int) : Option (List Int) :=
  (slices_Clone_J1 s1)

set_option maxRecDepth 100000 in
set_option maxHeartbeats 4000000 in
theorem slices_Clone_w  {A1 : Option Addr} {c1 : Nat} {n1 : Nat} {s1 : List Int} {r : (List Int)} {w0 w : World} {B : Nat} {fs : List HP} (hm : slices_Clone_m s1 = some r) (hS : Sep w0 B w (fs)) (hr_s1 : RdF w0 B fs A1 (vI s1)) (_hc_s1 : s1.length ≤ c1) (_hn_s1 : n1 = s1.length) :
    Calls Try.prog 81 #[.slice A1 n1 c1] w fun e w' => ∃ v, e = .returned v ∧ ∃ (A3 : Option Addr) (c3 : Nat), v = .slice A3 r.length c3 ∧ Sep w0 B w' (own 3 (.slice A3 r.length c3) (vI r) :: fs) := by
  obtain ⟨i3, hi3, hz3, hs3, hb3⟩ := info_parts Info3
  obtain rfl := _hn_s1
  unfold slices_Clone_m at hm
  replace hm := start_b hm
  refine enter (l := [.slice A1 s1.length c1]) (n := 8) Try.func81 rfl rfl (by simp) (fun a hF => ?_)
  refine reg [] [] [0] [pl 0 (.slice A1 s1.length c1)] hF hS Fol (by kernel_rfl) (by kernel_rfl) (by kernel_rfl) ?_ (fun a w hF hS => ?_)
  · exact obs_nil
  refine seq_cut (fun a w => Fr 8 [pl 0 (.slice A1 s1.length c1)] a ∧ Sep w0 B w (fs) ∧ ((slices_Clone_J1 s1)).bind some = some r) ?_ ?_
  · rintro a w ⟨hF, hS, hm⟩
    unfold slices_Clone_J1 at hm
    refine seqR ?_
    obtain ⟨hp1, hm⟩ := asrt_b hm
    refine at_do (d := 5) (s := vS (Instr.buildSlice 22 0 #[])) (v := .slice (some ⟨w.heap.size, 0, none⟩) 0 0) (w' := w.alloc (.cells #[] 3)) hF (by kernel_rfl) (by kernel_rfl) (by kernel_rfl) (fun a hF => ?_)
    have hS : Sep w0 B (w.alloc (.cells #[] 3)) (own 3 (.slice (some (⟨w.heap.size, 0, none⟩ : Addr)) 0 0) (vI ([] : List Int)) :: (fs)) := hS.lit 3 #[] 0 rfl (by omega)
    generalize (some (⟨w.heap.size, 0, none⟩ : Addr)) = g1 at hF hS
    generalize w.alloc (.cells #[] 3) = w at hS ⊢
    refine at_run 1 [] [] [5, 6] [pl 5 (.slice g1 0 0), pl 6 (.slice A1 s1.length c1)] hF hS (by kernel_rfl) (by kernel_rfl) ?_ (fun a w hF hS => ?_)
    · exact obs_nil
    obtain ⟨A2, c2, w, hrun, hS⟩ := run_app1 (P := Try.prog) (t := 22) (m := ([] : List Int)) (ys := s1) (A2 := A1) (m2 := s1.length) (c2 := c1) (Value.int .i64) (0 : Int) (hS.at_ 0 rfl) (hr_s1 _ (hS.dropN 1)) rfl 22 Und22 hi3 hz3 hs3 (by omega) rfl (fun _ => rfl) hp1
    have hS : Sep w0 B w (own 3 (.slice A2 ((([] : List Int) ++ s1).length) c2) (vI (([] : List Int) ++ s1)) :: fs) := hS
    refine at_do (d := 7) hF (by kernel_rfl) (by kernel_rfl) hrun (fun a hF => ?_)
    refine at_run 1 [] [] [2] [pl 2 (.slice A2 ((([] : List Int) ++ s1).length) c2)] hF hS (by kernel_rfl) (by kernel_rfl) ?_ (fun a w hF hS => ?_)
    · exact obs_nil
    refine at_end [2] [pl 2 (.slice A2 ((([] : List Int) ++ s1).length) c2)] hF rfl (by kernel_rfl) (fun hF => ?_)
    refine then_n ?_
    refine wpIn_ret ?_
    have hm : some (([] : List Int) ++ s1) = some r := hm
    obtain rfl := Option.some.inj hm
    exact retV (rs := [.tmp 2]) (vs := [.slice A2 ((([] : List Int) ++ s1).length) c2]) hF rfl (rv_t (by kernel_rfl) <| rv_nil) rfl ⟨_, rfl, A2, c2, rfl, hS⟩
  · refine reg [⟨true, [], vS (binOp .eql 22 (.slice A1 s1.length c1) (.slice none 0 0)), .bool A1.isNone⟩] [none, some (.bool A1.isNone)] [0, 4] [pl 0 (.slice A1 s1.length c1), pl 4 (.bool A1.isNone)] hF hS Fol (by kernel_rfl) (by kernel_rfl) (by kernel_rfl) ?_ (fun a w hF hS => ?_)
    · exact obs_cons (ob_isnil Und22 rfl) <| obs_nil
    refine cond_ev (t := 4) (b := A1.isNone) hF (by kernel_rfl) (fun hb => ?_) (fun hb => ?_)
    · have hA9 := Option.isNone_iff_eq_none.1 hb
      have hnil9 : s1 = [] := by have h9 := (hr_s1 _ (hS.dropN 0)); rw [hA9] at h9; exact h9.none_nil
      have hm : (some ([] : List Int)).bind some = some r := by rw [hnil9] at hm; simpa [asrt, bigN, slices_Clone_J1] using hm
      refine reg [] [] [2] [pl 2 (.slice none 0 0)] hF hS Fol (by kernel_rfl) (by kernel_rfl) (by kernel_rfl) ?_ (fun a w hF hS => ?_)
      · exact obs_nil
      refine wpIn_ret ?_
      refine then_r ?_
      have hS : Sep w0 B w (own 3 (.slice none 0 0) (vI ([] : List Int)) :: fs) := hS.nil 3
      have hl1 := (hS.at_ 0 rfl).len1
      have hS := (hS.at_ 0 rfl).reN hl1
      have hS : Sep w0 B w (own 3 (.slice none (([] : List Int).length) 0) (vI ([] : List Int)) :: fs) := hS
      have hm : some ([] : List Int) = some r := hm
      obtain rfl := Option.some.inj hm
      exact retV (rs := [.tmp 2]) (vs := [.slice none (([] : List Int).length) 0]) hF rfl (rv_t (by kernel_rfl) <| rv_nil) rfl ⟨_, rfl, none, 0, rfl, hS⟩
    · refine wpIn_skip ?_
      refine then_n ?_
      exact ⟨hF.weak [0] (by kernel_rfl), hS, hm⟩

noncomputable def draughts_newPlay_J1  (b2 : Int) (z1 : List Int) : Option (List Int × Int × List (List Int)) :=
  some (z1, (w64 (3 - (w64 (2 * b2)))), ([] : List (List Int)))

noncomputable def draughts_newPlay_m  (b1 : List Int) (b2 : Int) : Option (List Int × Int × List (List Int)) :=
  (slices_Clone_m b1).bind fun r1 => (draughts_newPlay_J1 b2) r1

set_option maxRecDepth 100000 in
set_option maxHeartbeats 4000000 in
theorem draughts_newPlay_w  {A1 : Option Addr} {c1 : Nat} {n1 : Nat} {b1 : List Int} {b2 : Int} {r : (List Int × Int × List (List Int))} {w0 w : World} {B : Nat} {fs : List HP} (hm : draughts_newPlay_m b1 b2 = some r) (hS : Sep w0 B w (fs)) (hr_b1 : RdF w0 B fs A1 (vI b1)) (_hc_b1 : b1.length ≤ c1) (_hn_b1 : n1 = b1.length) :
    Calls Try.prog 115 #[.agg #[.slice A1 n1 c1, .int .i64 b2]] w fun e w' => ∃ v, e = .returned v ∧ ∃ (g4 : Nat) (A5 : Option Addr) (c5 : Nat) (A6 : Option Addr) (c6 : Nat) (hd1 : List Hd), v = .pointer (some ⟨g4, 0, none⟩) ∧ Sep w0 B w' (blk g4 169 #[.slice A5 r.1.length c5, .int .i64 r.2.1, .slice A6 r.2.2.length c6] :: own 3 (.slice A5 r.1.length c5) (vI r.1) :: rows 22 3 (.slice A6 r.2.2.length c6) hd1 r.2.2 :: fs) := by
  obtain ⟨i3, hi3, hz3, hs3, hb3⟩ := info_parts Info3
  obtain rfl := _hn_b1
  unfold draughts_newPlay_m at hm
  replace hm := start_b hm
  refine enter (l := [.agg #[.slice A1 b1.length c1, .int .i64 b2]]) (n := 12) Try.func115 rfl rfl (by simp) (fun a hF => ?_)
  refine seqR ?_
  refine at_do (d := 1) (s := vS (Instr.box 66 (.agg #[.slice A1 b1.length c1, .int .i64 b2]))) (v := .pointer (some ⟨w.heap.size, 0, none⟩)) (w' := w.alloc (.cells #[.slice A1 b1.length c1, .int .i64 b2] 66)) hF (by kernel_rfl) (by kernel_rfl) (by kernel_rfl) (fun a hF => ?_)
  have hS : Sep w0 B (w.alloc (.cells #[.slice A1 b1.length c1, .int .i64 b2] 66)) (blk w.heap.size 66 #[.slice A1 b1.length c1, .int .i64 b2] :: (fs)) := hS.box 66 #[.slice A1 b1.length c1, .int .i64 b2]
  generalize w.heap.size = g1 at hF hS
  generalize w.alloc (.cells #[.slice A1 b1.length c1, .int .i64 b2] 66) = w at hS ⊢
  refine at_run 1 [] [] [1] [pl 1 (.pointer (some ⟨g1, 0, none⟩))] hF hS (by kernel_rfl) (by kernel_rfl) ?_ (fun a w hF hS => ?_)
  · exact obs_nil
  refine at_end [1] [pl 1 (.pointer (some ⟨g1, 0, none⟩))] hF rfl (by kernel_rfl) (fun hF => ?_)
  refine then_n ?_
  refine seq_cut (fun a w => ∃ (z1 : List Int) (g3 : Nat) (A4 : Option Addr) (c4 : Nat), Fr 12 [pl 2 (.pointer (some ⟨g3, 0, none⟩))] a ∧ Sep w0 B w (blk g3 169 #[.slice A4 z1.length c4, .int .i64 (w64 (3 - (w64 (2 * b2)))), .slice none 0 0] :: own 3 (.slice A4 z1.length c4) (vI z1) :: fs) ∧ ((draughts_newPlay_J1 b2) z1).bind some = some r) ?_ ?_
  · rintro a w ⟨z1, g3, A4, c4, hF, hS, hm⟩
    unfold draughts_newPlay_J1 at hm
    refine wpIn_ret ?_
    have hS : Sep w0 B w (rows 22 3 (.slice none 0 0) ([]) ([] : List (List Int)) :: blk g3 169 #[.slice A4 z1.length c4, .int .i64 (w64 (3 - (w64 (2 * b2)))), .slice none 0 0] :: own 3 (.slice A4 z1.length c4) (vI z1) :: fs) := hS.nilRows0 22 3
    have hS : Sep w0 B w (rows 22 3 (.slice none 0 0) ([]) ([] : List (List Int)) :: blk g3 169 #[.slice A4 z1.length c4, .int .i64 (w64 (3 - (w64 (2 * b2)))), .slice none 0 0] :: own 3 (.slice A4 z1.length c4) (vI z1) :: fs) := hS
    have hl1 := (hS.at_ 0 rfl).lenR
    have hS := (hS.at_ 0 rfl).reNR hl1
    have hS := (hS.at_ 1 rfl).reBlk (congrArg (fun k9 => (#[.slice A4 z1.length c4, .int .i64 (w64 (3 - (w64 (2 * b2)))), .slice none k9 0] : Array Value)) hl1)
    have hS : Sep w0 B w (rows 22 3 (.slice none (([] : List (List Int)).length) 0) ([]) ([] : List (List Int)) :: blk g3 169 #[.slice A4 z1.length c4, .int .i64 (w64 (3 - (w64 (2 * b2)))), .slice none (([] : List (List Int)).length) 0] :: own 3 (.slice A4 z1.length c4) (vI z1) :: fs) := hS
    have hS := hS.pickN 3 [1, 2, 0] (by decide)
    have hm : some (z1, (w64 (3 - (w64 (2 * b2)))), ([] : List (List Int))) = some r := hm
    obtain rfl := Option.some.inj hm
    exact retV (rs := [.tmp 2]) (vs := [.pointer (some ⟨g3, 0, none⟩)]) hF rfl (rv_t (by kernel_rfl) <| rv_nil) rfl ⟨_, rfl, g3, A4, c4, none, 0, ([]), rfl, hS⟩
  · obtain ⟨r1, hr1, hm⟩ := call_b hm
    refine regMix5 [0, 1, 3, 4, 5, 6] [] 4 #[true, true, false, true, true, true, true, false, false, false] [⟨false, [], vS (Instr.loadAt 22 (.pointer (some ⟨g1, 0, none⟩))), .slice A1 b1.length c1⟩, ⟨false, [], vS (Instr.loadAt 3 (.pointer (some ⟨g1, 1, none⟩))), .int .i64 b2⟩] [none, some (.slice A1 b1.length c1), none, some (.int .i64 b2), none, none] [4, 9] [pl 4 (.slice A1 b1.length c1), pl 9 (.int .i64 (w64 (3 - (w64 (2 * b2)))))] hF hS Fol (by kernel_rfl) (by kernel_rfl) (by kernel_rfl) (by kernel_rfl) ?_ (fun a w hF hS => ?_)
    · exact obs_cons (ob_load Agg22 (fun _ _ hS => (hS.at_ 0 rfl).cell rfl)) <| obs_cons (ob_load Agg3 (fun _ _ hS => (hS.at_ 0 rfl).cell rfl)) <| obs_nil
    refine any_step [2] (by kernel_rfl) rfl ?_
    refine (all_cons ?_ all_nil)
    · refine any_op (listed' := #[true, true, true, true, true, true, true, false, false, false]) (by kernel_rfl) (by kernel_rfl) ?_
      refine at_call (f := 81) (args := #[.slice A1 b1.length c1]) (d := 5) hF (by kernel_rfl) (by kernel_rfl) Try.func81 (by kernel_rfl) rfl (slices_Clone_w hr1 hS (fun _ hS => (hr_b1 _ (hS.dropN 1))) _hc_b1 rfl) (fun v a w hR hF => ?_)
      clear hS
      obtain ⟨A3, c3, rfl, hS⟩ := hR
      have hS : Sep w0 B w (own 3 (.slice A3 r1.length c3) (vI r1) :: blk g1 66 #[.slice A1 b1.length c1, .int .i64 b2] :: fs) := hS
      refine any_fin rfl (hS.pickN 2 [1] (by decide)) ?_
      refine any_step [7] (by kernel_rfl) rfl ?_
      refine (all_cons ?_ all_nil)
      · refine any_op (listed' := #[true, true, true, true, true, true, true, true, false, false]) (by kernel_rfl) (by kernel_rfl) ?_
        refine at_runW 1 [] [] [10] [pl 10 (.agg #[.slice A3 r1.length c3, .int .i64 (w64 (3 - (w64 (2 * b2)))), .slice none 0 0])] hF hS (by kernel_rfl) (by kernel_rfl) ?_ (fun a hF => ?_)
        · exact obs_nil
        refine any_finI rfl (fun h => h) ?_
        refine any_step [8] (by kernel_rfl) rfl ?_
        refine (all_cons ?_ all_nil)
        · refine any_op (listed' := #[true, true, true, true, true, true, true, true, true, false]) (by kernel_rfl) (by kernel_rfl) ?_
          refine at_do (d := 11) (s := vS (Instr.box 169 (.agg #[.slice A3 r1.length c3, .int .i64 (w64 (3 - (w64 (2 * b2)))), .slice none 0 0]))) (v := .pointer (some ⟨w.heap.size, 0, none⟩)) (w' := w.alloc (.cells #[.slice A3 r1.length c3, .int .i64 (w64 (3 - (w64 (2 * b2)))), .slice none 0 0] 169)) hF (by kernel_rfl) (by kernel_rfl) (by kernel_rfl) (fun a hF => ?_)
          have hS : Sep w0 B (w.alloc (.cells #[.slice A3 r1.length c3, .int .i64 (w64 (3 - (w64 (2 * b2)))), .slice none 0 0] 169)) (blk w.heap.size 169 #[.slice A3 r1.length c3, .int .i64 (w64 (3 - (w64 (2 * b2)))), .slice none 0 0] :: (own 3 (.slice A3 r1.length c3) (vI r1) :: blk g1 66 #[.slice A1 b1.length c1, .int .i64 b2] :: fs)) := hS.box 169 #[.slice A3 r1.length c3, .int .i64 (w64 (3 - (w64 (2 * b2)))), .slice none 0 0]
          generalize w.heap.size = g2 at hF hS
          generalize w.alloc (.cells #[.slice A3 r1.length c3, .int .i64 (w64 (3 - (w64 (2 * b2)))), .slice none 0 0] 169) = w at hS ⊢
          refine any_fin rfl (hS.pickN 3 [2] (by decide)) ?_
          refine any_step [9] (by kernel_rfl) rfl ?_
          refine (all_cons ?_ all_nil)
          · refine any_op (listed' := #[true, true, true, true, true, true, true, true, true, true]) (by kernel_rfl) (by kernel_rfl) ?_
            refine at_runW 1 [] [] [2] [pl 2 (.pointer (some ⟨g2, 0, none⟩))] hF hS (by kernel_rfl) (by kernel_rfl) ?_ (fun a hF => ?_)
            · exact obs_nil
            refine any_finI rfl (fun h => h) ?_
            refine any_end (by kernel_rfl) ?_
            refine np_n ?_
            refine then_n ?_
            have hS := hS.pickN 3 [0, 1] (by decide)
            exact ⟨r1, g2, A3, c3, hF.weak [2] (by kernel_rfl), hS, hm⟩

noncomputable def draughts_play_at_m  (p_b1 : List Int) (p_sign1 : Int) (p_out1 : List (List Int)) (place1 : Int) : Option Int :=
  asrt (0 ≤ place1 ∧ place1 < (p_b1.length : Int)) <| some (w64 (p_sign1 * (geti p_b1 place1)))

set_option maxRecDepth 100000 in
set_option maxHeartbeats 4000000 in
theorem draughts_play_at_w  {g1 : Nat} {A1 : Option Addr} {c1 : Nat} {n1 : Nat} {p_b1 : List Int} {p_sign1 : Int} {A2 : Option Addr} {c2 : Nat} {n2 : Nat} {hd1 : List Hd} {p_out1 : List (List Int)} {place1 : Int} {r : Int} {w0 w : World} {B : Nat} {fs : List HP} (hm : draughts_play_at_m p_b1 p_sign1 p_out1 place1 = some r) (hS : Sep w0 B w (blk g1 169 #[.slice A1 n1 c1, .int .i64 p_sign1, .slice A2 n2 c2] :: own 3 (.slice A1 n1 c1) (vI p_b1) :: rows 22 3 (.slice A2 n2 c2) hd1 p_out1 :: fs)) :
    Calls Try.prog 196 #[.pointer (some ⟨g1, 0, none⟩), .int .i64 place1] w fun e w' => e = .returned (.int .i64 r) ∧ Sep w0 B w' (blk g1 169 #[.slice A1 n1 c1, .int .i64 p_sign1, .slice A2 n2 c2] :: own 3 (.slice A1 n1 c1) (vI p_b1) :: rows 22 3 (.slice A2 n2 c2) hd1 p_out1 :: fs) := by
  obtain ⟨i3, hi3, hz3, hs3, hb3⟩ := info_parts Info3
  obtain rfl := (hS.at_ 1 rfl).len1
  obtain rfl := (hS.at_ 2 rfl).lenR
  unfold draughts_play_at_m at hm
  replace hm := start_b hm
  refine enter (l := [.pointer (some ⟨g1, 0, none⟩), .int .i64 place1]) (n := 17) Try.func196 rfl rfl (by simp) (fun a hF => ?_)
  refine reg [] [] [0, 1] [pl 0 (.pointer (some ⟨g1, 0, none⟩)), pl 1 (.int .i64 place1)] hF hS Fol (by kernel_rfl) (by kernel_rfl) (by kernel_rfl) ?_ (fun a w hF hS => ?_)
  · exact obs_nil
  obtain ⟨hp1, hm⟩ := asrt_b hm
  refine reg [⟨false, [], vS (Instr.loadAt 3 (.pointer (some ⟨g1, 1, none⟩))), .int .i64 p_sign1⟩, ⟨false, [], vS (Instr.loadAt 22 (.pointer (some ⟨g1, 0, none⟩))), .slice A1 p_b1.length c1⟩, ⟨true, [], vS (Instr.indexAt 22 (.slice A1 p_b1.length c1) (.int .i64 place1)), .pointer (some (sAddr A1 place1))⟩, ⟨false, [], vS (Instr.loadAt 3 (.pointer (some (sAddr A1 place1)))), .int .i64 (geti p_b1 place1)⟩] [none, none, none, some (.int .i64 p_sign1), none, none, none, some (.slice A1 p_b1.length c1), none, some (.pointer (some (sAddr A1 place1))), some (.int .i64 (geti p_b1 place1)), none, none] [4] [pl 4 (.int .i64 (w64 (p_sign1 * (geti p_b1 place1))))] hF hS Fol (by kernel_rfl) (by kernel_rfl) (by kernel_rfl) ?_ (fun a w hF hS => ?_)
  · exact obs_cons (ob_load Agg3 (fun _ _ hS => (hS.at_ 0 rfl).cell rfl)) <| obs_cons (ob_load Agg22 (fun _ _ hS => (hS.at_ 0 rfl).cell rfl)) <| obs_cons (ob_ix1 (f := (Value.int .i64)) (m := p_b1) Und22 hi3 hs3 (hS.at_ 1 rfl).rd rfl (fun _ => hp1)) <| obs_cons (ob_get1 (n := p_b1.length) (m := p_b1) (Value.int .i64) (0 : Int) Agg3 (fun _ hS => ⟨_, (hS.at_ 1 rfl).rd⟩) (fun _ hS => rfl) (fun _ => hp1)) <| obs_nil
  refine wpIn_ret ?_
  have hm : some (w64 (p_sign1 * (geti p_b1 place1))) = some r := hm
  obtain rfl := Option.some.inj hm
  exact retV (rs := [.tmp 4]) (vs := [.int .i64 (w64 (p_sign1 * (geti p_b1 place1)))]) hF rfl (rv_t (by kernel_rfl) <| rv_nil) rfl ⟨rfl, hS⟩

noncomputable def draughts_play_dirs_J1  : Option (List Int) :=
  some ([2, 3] : List Int)

noncomputable def draughts_play_dirs_m  (p_b1 : List Int) (p_sign1 : Int) (p_out1 : List (List Int)) (piece1 : Int) : Option (List Int) :=
  if (piece1 == 2) then (some ([0, 1, 2, 3] : List Int)) else (if (decide ((0 : Int) < p_sign1)) then (some ([0, 1] : List Int)) else (draughts_play_dirs_J1))

set_option maxRecDepth 100000 in
set_option maxHeartbeats 4000000 in
theorem draughts_play_dirs_w  {g1 : Nat} {A1 : Option Addr} {c1 : Nat} {n1 : Nat} {p_b1 : List Int} {p_sign1 : Int} {A2 : Option Addr} {c2 : Nat} {n2 : Nat} {hd1 : List Hd} {p_out1 : List (List Int)} {piece1 : Int} {r : (List Int)} {w0 w : World} {B : Nat} {fs : List HP} (hm : draughts_play_dirs_m p_b1 p_sign1 p_out1 piece1 = some r) (hS : Sep w0 B w (blk g1 169 #[.slice A1 n1 c1, .int .i64 p_sign1, .slice A2 n2 c2] :: own 3 (.slice A1 n1 c1) (vI p_b1) :: rows 22 3 (.slice A2 n2 c2) hd1 p_out1 :: fs)) :
    Calls Try.prog 198 #[.pointer (some ⟨g1, 0, none⟩), .int .i64 piece1] w fun e w' => ∃ v, e = .returned v ∧ ∃ (A3 : Option Addr) (c3 : Nat), v = .slice A3 r.length c3 ∧ Sep w0 B w' (blk g1 169 #[.slice A1 n1 c1, .int .i64 p_sign1, .slice A2 n2 c2] :: own 3 (.slice A1 n1 c1) (vI p_b1) :: rows 22 3 (.slice A2 n2 c2) hd1 p_out1 :: own 3 (.slice A3 r.length c3) (vI r) :: fs) := by
  obtain ⟨i3, hi3, hz3, hs3, hb3⟩ := info_parts Info3
  obtain rfl := (hS.at_ 1 rfl).len1
  obtain rfl := (hS.at_ 2 rfl).lenR
  unfold draughts_play_dirs_m at hm
  replace hm := start_b hm
  refine enter (l := [.pointer (some ⟨g1, 0, none⟩), .int .i64 piece1]) (n := 17) Try.func198 rfl rfl (by simp) (fun a hF => ?_)
  refine reg [] [] [0, 1] [pl 0 (.pointer (some ⟨g1, 0, none⟩)), pl 1 (.int .i64 piece1)] hF hS Fol (by kernel_rfl) (by kernel_rfl) (by kernel_rfl) ?_ (fun a w hF hS => ?_)
  · exact obs_nil
  refine seq_cut (fun a w => Fr 17 [] a ∧ Sep w0 B w (blk g1 169 #[.slice A1 p_b1.length c1, .int .i64 p_sign1, .slice A2 p_out1.length c2] :: own 3 (.slice A1 p_b1.length c1) (vI p_b1) :: rows 22 3 (.slice A2 p_out1.length c2) hd1 p_out1 :: fs) ∧ (draughts_play_dirs_J1).bind some = some r) ?_ ?_
  · rintro a w ⟨hF, hS, hm⟩
    unfold draughts_play_dirs_J1 at hm
    refine seqR ?_
    refine at_do (d := 16) (s := vS (Instr.buildSlice 22 2 #[(0, .int .i64 2), (1, .int .i64 3)])) (v := .slice (some ⟨w.heap.size, 0, none⟩) 2 2) (w' := w.alloc (.cells #[.int .i64 2, .int .i64 3] 3)) hF (by kernel_rfl) (by kernel_rfl) (by kernel_rfl) (fun a hF => ?_)
    have hS : Sep w0 B (w.alloc (.cells #[.int .i64 2, .int .i64 3] 3)) (own 3 (.slice (some (⟨w.heap.size, 0, none⟩ : Addr)) 2 2) (vI ([2, 3] : List Int)) :: (blk g1 169 #[.slice A1 p_b1.length c1, .int .i64 p_sign1, .slice A2 p_out1.length c2] :: own 3 (.slice A1 p_b1.length c1) (vI p_b1) :: rows 22 3 (.slice A2 p_out1.length c2) hd1 p_out1 :: fs)) := hS.lit 3 #[.int .i64 2, .int .i64 3] 2 rfl (by omega)
    generalize (some (⟨w.heap.size, 0, none⟩ : Addr)) = g4 at hF hS
    generalize w.alloc (.cells #[.int .i64 2, .int .i64 3] 3) = w at hS ⊢
    refine at_run 1 [] [] [4] [pl 4 (.slice g4 2 2)] hF hS (by kernel_rfl) (by kernel_rfl) ?_ (fun a w hF hS => ?_)
    · exact obs_nil
    refine at_end [4] [pl 4 (.slice g4 2 2)] hF rfl (by kernel_rfl) (fun hF => ?_)
    refine then_n ?_
    refine wpIn_ret ?_
    have hl3 := (hS.at_ 0 rfl).len1
    have hS := (hS.at_ 0 rfl).reN hl3
    have hS : Sep w0 B w (own 3 (.slice g4 (([2, 3] : List Int).length) 2) (vI ([2, 3] : List Int)) :: blk g1 169 #[.slice A1 p_b1.length c1, .int .i64 p_sign1, .slice A2 p_out1.length c2] :: own 3 (.slice A1 p_b1.length c1) (vI p_b1) :: rows 22 3 (.slice A2 p_out1.length c2) hd1 p_out1 :: fs) := hS
    have hF := hF.cast (t := 4) (v := .slice g4 2 2) (v' := .slice g4 (([2, 3] : List Int).length) 2) rfl rfl (congrArg (fun k => Value.slice g4 k 2) hl3)
    have hS := hS.pickN 4 [1, 2, 3, 0] (by decide)
    have hm : some ([2, 3] : List Int) = some r := hm
    obtain rfl := Option.some.inj hm
    exact retV (rs := [.tmp 4]) (vs := [.slice g4 (([2, 3] : List Int).length) 2]) hF rfl (rv_t (by kernel_rfl) <| rv_nil) rfl ⟨_, rfl, g4, 2, rfl, hS⟩
  · refine wpIn_block ?_
    refine reg [] [] [0, 5] [pl 0 (.pointer (some ⟨g1, 0, none⟩)), pl 5 (.bool (piece1 == 2))] hF hS Fol (by kernel_rfl) (by kernel_rfl) (by kernel_rfl) ?_ (fun a w hF hS => ?_)
    · exact obs_nil
    refine cond_ev (t := 5) (b := (piece1 == 2)) hF (by kernel_rfl) (fun hb => ?_) (fun hb => ?_)
    · replace hm := if_t hm hb
      refine seqR ?_
      refine at_do (d := 8) (s := vS (Instr.buildSlice 22 4 #[(0, .int .i64 0), (1, .int .i64 1), (2, .int .i64 2), (3, .int .i64 3)])) (v := .slice (some ⟨w.heap.size, 0, none⟩) 4 4) (w' := w.alloc (.cells #[.int .i64 0, .int .i64 1, .int .i64 2, .int .i64 3] 3)) hF (by kernel_rfl) (by kernel_rfl) (by kernel_rfl) (fun a hF => ?_)
      have hS : Sep w0 B (w.alloc (.cells #[.int .i64 0, .int .i64 1, .int .i64 2, .int .i64 3] 3)) (own 3 (.slice (some (⟨w.heap.size, 0, none⟩ : Addr)) 4 4) (vI ([0, 1, 2, 3] : List Int)) :: (blk g1 169 #[.slice A1 p_b1.length c1, .int .i64 p_sign1, .slice A2 p_out1.length c2] :: own 3 (.slice A1 p_b1.length c1) (vI p_b1) :: rows 22 3 (.slice A2 p_out1.length c2) hd1 p_out1 :: fs)) := hS.lit 3 #[.int .i64 0, .int .i64 1, .int .i64 2, .int .i64 3] 4 rfl (by omega)
      generalize (some (⟨w.heap.size, 0, none⟩ : Addr)) = g2 at hF hS
      generalize w.alloc (.cells #[.int .i64 0, .int .i64 1, .int .i64 2, .int .i64 3] 3) = w at hS ⊢
      refine at_run 1 [] [] [4] [pl 4 (.slice g2 4 4)] hF hS (by kernel_rfl) (by kernel_rfl) ?_ (fun a w hF hS => ?_)
      · exact obs_nil
      refine at_end [4] [pl 4 (.slice g2 4 4)] hF rfl (by kernel_rfl) (fun hF => ?_)
      refine then_n ?_
      refine wpIn_ret ?_
      refine block_r (then_r ?_)
      have hl1 := (hS.at_ 0 rfl).len1
      have hS := (hS.at_ 0 rfl).reN hl1
      have hS : Sep w0 B w (own 3 (.slice g2 (([0, 1, 2, 3] : List Int).length) 4) (vI ([0, 1, 2, 3] : List Int)) :: blk g1 169 #[.slice A1 p_b1.length c1, .int .i64 p_sign1, .slice A2 p_out1.length c2] :: own 3 (.slice A1 p_b1.length c1) (vI p_b1) :: rows 22 3 (.slice A2 p_out1.length c2) hd1 p_out1 :: fs) := hS
      have hF := hF.cast (t := 4) (v := .slice g2 4 4) (v' := .slice g2 (([0, 1, 2, 3] : List Int).length) 4) rfl rfl (congrArg (fun k => Value.slice g2 k 4) hl1)
      have hS := hS.pickN 4 [1, 2, 3, 0] (by decide)
      have hm : some ([0, 1, 2, 3] : List Int) = some r := hm
      obtain rfl := Option.some.inj hm
      exact retV (rs := [.tmp 4]) (vs := [.slice g2 (([0, 1, 2, 3] : List Int).length) 4]) hF rfl (rv_t (by kernel_rfl) <| rv_nil) rfl ⟨_, rfl, g2, 4, rfl, hS⟩
    · replace hm := if_f hm hb
      refine reg [⟨false, [], vS (Instr.loadAt 3 (.pointer (some ⟨g1, 1, none⟩))), .int .i64 p_sign1⟩] [none, none, none, some (.int .i64 p_sign1), none, none] [9] [pl 9 (.bool (decide ((0 : Int) < p_sign1)))] hF hS Fol (by kernel_rfl) (by kernel_rfl) (by kernel_rfl) ?_ (fun a w hF hS => ?_)
      · exact obs_cons (ob_load Agg3 (fun _ _ hS => (hS.at_ 0 rfl).cell rfl)) <| obs_nil
      refine cond_ev (t := 9) (b := decide ((0 : Int) < p_sign1)) hF (by kernel_rfl) (fun hb => ?_) (fun hb => ?_)
      · replace hm := if_t hm hb
        refine seqR ?_
        refine at_do (d := 15) (s := vS (Instr.buildSlice 22 2 #[(0, .int .i64 0), (1, .int .i64 1)])) (v := .slice (some ⟨w.heap.size, 0, none⟩) 2 2) (w' := w.alloc (.cells #[.int .i64 0, .int .i64 1] 3)) hF (by kernel_rfl) (by kernel_rfl) (by kernel_rfl) (fun a hF => ?_)
        have hS : Sep w0 B (w.alloc (.cells #[.int .i64 0, .int .i64 1] 3)) (own 3 (.slice (some (⟨w.heap.size, 0, none⟩ : Addr)) 2 2) (vI ([0, 1] : List Int)) :: (blk g1 169 #[.slice A1 p_b1.length c1, .int .i64 p_sign1, .slice A2 p_out1.length c2] :: own 3 (.slice A1 p_b1.length c1) (vI p_b1) :: rows 22 3 (.slice A2 p_out1.length c2) hd1 p_out1 :: fs)) := hS.lit 3 #[.int .i64 0, .int .i64 1] 2 rfl (by omega)
        generalize (some (⟨w.heap.size, 0, none⟩ : Addr)) = g3 at hF hS
        generalize w.alloc (.cells #[.int .i64 0, .int .i64 1] 3) = w at hS ⊢
        refine at_run 1 [] [] [4] [pl 4 (.slice g3 2 2)] hF hS (by kernel_rfl) (by kernel_rfl) ?_ (fun a w hF hS => ?_)
        · exact obs_nil
        refine at_end [4] [pl 4 (.slice g3 2 2)] hF rfl (by kernel_rfl) (fun hF => ?_)
        refine then_n ?_
        refine wpIn_ret ?_
        refine block_r (then_r ?_)
        have hl2 := (hS.at_ 0 rfl).len1
        have hS := (hS.at_ 0 rfl).reN hl2
        have hS : Sep w0 B w (own 3 (.slice g3 (([0, 1] : List Int).length) 2) (vI ([0, 1] : List Int)) :: blk g1 169 #[.slice A1 p_b1.length c1, .int .i64 p_sign1, .slice A2 p_out1.length c2] :: own 3 (.slice A1 p_b1.length c1) (vI p_b1) :: rows 22 3 (.slice A2 p_out1.length c2) hd1 p_out1 :: fs) := hS
        have hF := hF.cast (t := 4) (v := .slice g3 2 2) (v' := .slice g3 (([0, 1] : List Int).length) 2) rfl rfl (congrArg (fun k => Value.slice g3 k 2) hl2)
        have hS := hS.pickN 4 [1, 2, 3, 0] (by decide)
        have hm : some ([0, 1] : List Int) = some r := hm
        obtain rfl := Option.some.inj hm
        exact retV (rs := [.tmp 4]) (vs := [.slice g3 (([0, 1] : List Int).length) 2]) hF rfl (rv_t (by kernel_rfl) <| rv_nil) rfl ⟨_, rfl, g3, 2, rfl, hS⟩
      · replace hm := if_f hm hb
        refine wpIn_skip ?_
        refine block_n ?_
        refine then_n ?_
        exact ⟨hF.weak [] (by kernel_rfl), hS, hm⟩

noncomputable def draughts_next_J1  (p1 : Int) (dir1 : Int) : Option Int :=
  some (w64 ((w64 ((w64 (4 * (w64 ((w64 (Int.tdiv (w64 (p1 - 1)) 4)) + (w64 ((w64 (2 * (shrK .i64 dir1 1))) - 1)))))) + (w64 (Int.tdiv (w64 ((w64 ((w64 ((w64 (2 * (Int.tmod (w64 (p1 - 1)) 4))) + 1)) - (bAnd (w64 (Int.tdiv (w64 (p1 - 1)) 4)) 1))) + (w64 ((w64 (2 * (bAnd dir1 1))) - 1)))) 2)))) + 1))

noncomputable def draughts_next_m  (p1 : Int) (dir1 : Int) : Option Int :=
  if ((((decide ((w64 ((w64 ((w64 ((w64 (2 * (Int.tmod (w64 (p1 - 1)) 4))) + 1)) - (bAnd (w64 (Int.tdiv (w64 (p1 - 1)) 4)) 1))) + (w64 ((w64 (2 * (bAnd dir1 1))) - 1)))) < 0)) || (decide ((7 : Int) < (w64 ((w64 ((w64 ((w64 (2 * (Int.tmod (w64 (p1 - 1)) 4))) + 1)) - (bAnd (w64 (Int.tdiv (w64 (p1 - 1)) 4)) 1))) + (w64 ((w64 (2 * (bAnd dir1 1))) - 1))))))) || (decide ((w64 ((w64 (Int.tdiv (w64 (p1 - 1)) 4)) + (w64 ((w64 (2 * (shrK .i64 dir1 1))) - 1)))) < 0))) || (decide ((7 : Int) < (w64 ((w64 (Int.tdiv (w64 (p1 - 1)) 4)) + (w64 ((w64 (2 * (shrK .i64 dir1 1))) - 1))))))) then (some 0) else ((draughts_next_J1 p1 dir1))

set_option maxRecDepth 100000 in
set_option maxHeartbeats 4000000 in
theorem draughts_next_w  {p1 : Int} {dir1 : Int} {r : Int} {w0 w : World} {B : Nat} {fs : List HP} (hm : draughts_next_m p1 dir1 = some r) (hS : Sep w0 B w (fs)) :
    Calls Try.prog 199 #[.int .i64 p1, .int .i64 dir1] w fun e w' => e = .returned (.int .i64 r) ∧ Sep w0 B w' (fs) := by
  unfold draughts_next_m at hm
  replace hm := start_b hm
  refine enter (l := [.int .i64 p1, .int .i64 dir1]) (n := 50) Try.func199 rfl rfl (by simp) (fun a hF => ?_)
  refine reg [] [] [0, 1] [pl 0 (.int .i64 p1), pl 1 (.int .i64 dir1)] hF hS Fol (by kernel_rfl) (by kernel_rfl) (by kernel_rfl) ?_ (fun a w hF hS => ?_)
  · exact obs_nil
  refine reg [] [] [0, 1, 5] [pl 0 (.int .i64 p1), pl 1 (.int .i64 dir1), pl 5 (.int .i64 (w64 (Int.tdiv (w64 (p1 - 1)) 4)))] hF hS Fol (by kernel_rfl) (by kernel_rfl) (by kernel_rfl) ?_ (fun a w hF hS => ?_)
  · exact obs_nil
  refine reg [] [] [1, 5, 6] [pl 1 (.int .i64 dir1), pl 5 (.int .i64 (w64 (Int.tdiv (w64 (p1 - 1)) 4))), pl 6 (.int .i64 (w64 ((w64 ((w64 (2 * (Int.tmod (w64 (p1 - 1)) 4))) + 1)) - (bAnd (w64 (Int.tdiv (w64 (p1 - 1)) 4)) 1))))] hF hS Fol (by kernel_rfl) (by kernel_rfl) (by kernel_rfl) ?_ (fun a w hF hS => ?_)
  · exact obs_nil
  refine reg [] [] [1, 5, 6] [pl 1 (.int .i64 dir1), pl 5 (.int .i64 (w64 (Int.tdiv (w64 (p1 - 1)) 4))), pl 6 (.int .i64 (w64 ((w64 ((w64 ((w64 (2 * (Int.tmod (w64 (p1 - 1)) 4))) + 1)) - (bAnd (w64 (Int.tdiv (w64 (p1 - 1)) 4)) 1))) + (w64 ((w64 (2 * (bAnd dir1 1))) - 1)))))] hF hS Fol (by kernel_rfl) (by kernel_rfl) (by kernel_rfl) ?_ (fun a w hF hS => ?_)
  · exact obs_nil
  refine reg [⟨true, [], vS (Op.shift .shr .i64 dir1 .u64 1), .int .i64 (shrK .i64 dir1 1)⟩] [none, none, some (.int .i64 (shrK .i64 dir1 1)), none, none, none, none] [5, 6] [pl 5 (.int .i64 (w64 ((w64 (Int.tdiv (w64 (p1 - 1)) 4)) + (w64 ((w64 (2 * (shrK .i64 dir1 1))) - 1))))), pl 6 (.int .i64 (w64 ((w64 ((w64 ((w64 (2 * (Int.tmod (w64 (p1 - 1)) 4))) + 1)) - (bAnd (w64 (Int.tdiv (w64 (p1 - 1)) 4)) 1))) + (w64 ((w64 (2 * (bAnd dir1 1))) - 1)))))] hF hS Fol (by kernel_rfl) (by kernel_rfl) (by kernel_rfl) ?_ (fun a w hF hS => ?_)
  · exact obs_cons (ob_shr (fun _ => by decide)) <| obs_nil
  refine seq_cut (fun a w => Fr 50 [pl 5 (.int .i64 (w64 ((w64 (Int.tdiv (w64 (p1 - 1)) 4)) + (w64 ((w64 (2 * (shrK .i64 dir1 1))) - 1))))), pl 6 (.int .i64 (w64 ((w64 ((w64 ((w64 (2 * (Int.tmod (w64 (p1 - 1)) 4))) + 1)) - (bAnd (w64 (Int.tdiv (w64 (p1 - 1)) 4)) 1))) + (w64 ((w64 (2 * (bAnd dir1 1))) - 1)))))] a ∧ Sep w0 B w (fs) ∧ ((draughts_next_J1 p1 dir1)).bind some = some r) ?_ ?_
  · rintro a w ⟨hF, hS, hm⟩
    unfold draughts_next_J1 at hm
    refine reg [] [] [4] [pl 4 (.int .i64 (w64 ((w64 ((w64 (4 * (w64 ((w64 (Int.tdiv (w64 (p1 - 1)) 4)) + (w64 ((w64 (2 * (shrK .i64 dir1 1))) - 1)))))) + (w64 (Int.tdiv (w64 ((w64 ((w64 ((w64 (2 * (Int.tmod (w64 (p1 - 1)) 4))) + 1)) - (bAnd (w64 (Int.tdiv (w64 (p1 - 1)) 4)) 1))) + (w64 ((w64 (2 * (bAnd dir1 1))) - 1)))) 2)))) + 1)))] hF hS Fol (by kernel_rfl) (by kernel_rfl) (by kernel_rfl) ?_ (fun a w hF hS => ?_)
    · exact obs_nil
    refine wpIn_ret ?_
    have hm : some (w64 ((w64 ((w64 (4 * (w64 ((w64 (Int.tdiv (w64 (p1 - 1)) 4)) + (w64 ((w64 (2 * (shrK .i64 dir1 1))) - 1)))))) + (w64 (Int.tdiv (w64 ((w64 ((w64 ((w64 (2 * (Int.tmod (w64 (p1 - 1)) 4))) + 1)) - (bAnd (w64 (Int.tdiv (w64 (p1 - 1)) 4)) 1))) + (w64 ((w64 (2 * (bAnd dir1 1))) - 1)))) 2)))) + 1)) = some r := hm
    obtain rfl := Option.some.inj hm
    exact retV (rs := [.tmp 4]) (vs := [.int .i64 (w64 ((w64 ((w64 (4 * (w64 ((w64 (Int.tdiv (w64 (p1 - 1)) 4)) + (w64 ((w64 (2 * (shrK .i64 dir1 1))) - 1)))))) + (w64 (Int.tdiv (w64 ((w64 ((w64 ((w64 (2 * (Int.tmod (w64 (p1 - 1)) 4))) + 1)) - (bAnd (w64 (Int.tdiv (w64 (p1 - 1)) 4)) 1))) + (w64 ((w64 (2 * (bAnd dir1 1))) - 1)))) 2)))) + 1))]) hF rfl (rv_t (by kernel_rfl) <| rv_nil) rfl ⟨rfl, hS⟩
  · refine reg [] [] [5, 6, 43] [pl 5 (.int .i64 (w64 ((w64 (Int.tdiv (w64 (p1 - 1)) 4)) + (w64 ((w64 (2 * (shrK .i64 dir1 1))) - 1))))), pl 6 (.int .i64 (w64 ((w64 ((w64 ((w64 (2 * (Int.tmod (w64 (p1 - 1)) 4))) + 1)) - (bAnd (w64 (Int.tdiv (w64 (p1 - 1)) 4)) 1))) + (w64 ((w64 (2 * (bAnd dir1 1))) - 1))))), pl 43 (.bool ((((decide ((w64 ((w64 ((w64 ((w64 (2 * (Int.tmod (w64 (p1 - 1)) 4))) + 1)) - (bAnd (w64 (Int.tdiv (w64 (p1 - 1)) 4)) 1))) + (w64 ((w64 (2 * (bAnd dir1 1))) - 1)))) < 0)) || (decide ((7 : Int) < (w64 ((w64 ((w64 ((w64 (2 * (Int.tmod (w64 (p1 - 1)) 4))) + 1)) - (bAnd (w64 (Int.tdiv (w64 (p1 - 1)) 4)) 1))) + (w64 ((w64 (2 * (bAnd dir1 1))) - 1))))))) || (decide ((w64 ((w64 (Int.tdiv (w64 (p1 - 1)) 4)) + (w64 ((w64 (2 * (shrK .i64 dir1 1))) - 1)))) < 0))) || (decide ((7 : Int) < (w64 ((w64 (Int.tdiv (w64 (p1 - 1)) 4)) + (w64 ((w64 (2 * (shrK .i64 dir1 1))) - 1))))))))] hF hS Fol (by kernel_rfl) (by kernel_rfl) (by kernel_rfl) ?_ (fun a w hF hS => ?_)
    · exact obs_nil
    refine cond_ev (t := 43) (b := (((decide ((w64 ((w64 ((w64 ((w64 (2 * (Int.tmod (w64 (p1 - 1)) 4))) + 1)) - (bAnd (w64 (Int.tdiv (w64 (p1 - 1)) 4)) 1))) + (w64 ((w64 (2 * (bAnd dir1 1))) - 1)))) < 0)) || (decide ((7 : Int) < (w64 ((w64 ((w64 ((w64 (2 * (Int.tmod (w64 (p1 - 1)) 4))) + 1)) - (bAnd (w64 (Int.tdiv (w64 (p1 - 1)) 4)) 1))) + (w64 ((w64 (2 * (bAnd dir1 1))) - 1))))))) || (decide ((w64 ((w64 (Int.tdiv (w64 (p1 - 1)) 4)) + (w64 ((w64 (2 * (shrK .i64 dir1 1))) - 1)))) < 0))) || (decide ((7 : Int) < (w64 ((w64 (Int.tdiv (w64 (p1 - 1)) 4)) + (w64 ((w64 (2 * (shrK .i64 dir1 1))) - 1))))))) hF (by kernel_rfl) (fun hb => ?_) (fun hb => ?_)
    · replace hm := if_t hm hb
      refine reg [] [] [4] [pl 4 (.int .i64 0)] hF hS Fol (by kernel_rfl) (by kernel_rfl) (by kernel_rfl) ?_ (fun a w hF hS => ?_)
      · exact obs_nil
      refine wpIn_ret ?_
      refine then_r ?_
      have hm : some 0 = some r := hm
      obtain rfl := Option.some.inj hm
      exact retV (rs := [.tmp 4]) (vs := [.int .i64 0]) hF rfl (rv_t (by kernel_rfl) <| rv_nil) rfl ⟨rfl, hS⟩
    · replace hm := if_f hm hb
      refine wpIn_skip ?_
      refine then_n ?_
      exact ⟨hF.weak [5, 6] (by kernel_rfl), hS, hm⟩

noncomputable def slices_Index_J3  (z1 : Int) : Option (St Int (Fl Unit Int)) :=
  some (.next (w64 (z1 + 1)))

noncomputable def slices_Index_J2  (s1 : List Int) (v1 : Int) (z1 : Int) : Option (St Int (Fl Unit Int)) :=
  asrt (0 ≤ z1 ∧ z1 < (s1.length : Int)) <| if (v1 == (geti s1 z1)) then (some (.done (.ret z1))) else ((slices_Index_J3 z1))

noncomputable def slices_Index_J1  : Option Int :=
  some (-1)

noncomputable def slices_Index_K1  : (Fl Unit Int) → Option Int :=
  fun (x : (Fl Unit Int)) => match x with | .go _ => slices_Index_J1 | .ret x => some x

noncomputable def slices_Index_L1  (s1 : List Int) (v1 : Int) : Int → Option (St Int (Fl Unit Int)) :=
  fun (x : Int) => match x with | z1 => if (decide (z1 < (s1.length : Int))) then ((slices_Index_J2 s1 v1 z1)) else (some (.done (.go ())))

noncomputable def slices_Index_m  (s1 : List Int) (v1 : Int) : Option Int :=
  (loop (slices_Index_L1 s1 v1) 0).bind slices_Index_K1

set_option maxRecDepth 100000 in
set_option maxHeartbeats 4000000 in
theorem slices_Index_w  {A1 : Option Addr} {c1 : Nat} {n1 : Nat} {s1 : List Int} {v1 : Int} {r : Int} {w0 w : World} {B : Nat} {fs : List HP} (hm : slices_Index_m s1 v1 = some r) (hS : Sep w0 B w (fs)) (hr_s1 : RdF w0 B fs A1 (vI s1)) (_hc_s1 : s1.length ≤ c1) (_hn_s1 : n1 = s1.length) :
    Calls Try.prog 157 #[.slice A1 n1 c1, .int .i64 v1] w fun e w' => e = .returned (.int .i64 r) ∧ Sep w0 B w' (fs) := by
  obtain ⟨i3, hi3, hz3, hs3, hb3⟩ := info_parts Info3
  obtain rfl := _hn_s1
  unfold slices_Index_m at hm
  replace hm := start_b hm
  refine enter (l := [.slice A1 s1.length c1, .int .i64 v1]) (n := 19) Try.func157 rfl rfl (by simp) (fun a hF => ?_)
  refine reg [] [] [0, 1] [pl 0 (.slice A1 s1.length c1), pl 1 (.int .i64 v1)] hF hS Fol (by kernel_rfl) (by kernel_rfl) (by kernel_rfl) ?_ (fun a w hF hS => ?_)
  · exact obs_nil
  refine seq_cut (fun a w => Fr 19 [] a ∧ Sep w0 B w (fs) ∧ (slices_Index_J1).bind some = some r) ?_ ?_
  · rintro a w ⟨hF, hS, hm⟩
    unfold slices_Index_J1 at hm
    refine reg [] [] [4] [pl 4 (.int .i64 (-1))] hF hS Fol (by kernel_rfl) (by kernel_rfl) (by kernel_rfl) ?_ (fun a w hF hS => ?_)
    · exact obs_nil
    refine wpIn_ret ?_
    have hm : some (-1) = some r := hm
    obtain rfl := Option.some.inj hm
    exact retV (rs := [.tmp 4]) (vs := [.int .i64 (-1)]) hF rfl (rv_t (by kernel_rfl) <| rv_nil) rfl ⟨rfl, hS⟩
  · refine reg [] [] [0, 1, 7, 8] [pl 0 (.slice A1 s1.length c1), pl 1 (.int .i64 v1), pl 7 (.int .i64 (s1.length : Int)), pl 8 (.int .i64 0)] hF hS Fol (by kernel_rfl) (by kernel_rfl) (by kernel_rfl) ?_ (fun a w hF hS => ?_)
    · exact obs_nil
    refine wpIn_block ?_
    refine wp_loop_model (S := Int) (R := (Fl Unit Int)) (slices_Index_L1 s1 v1) (fun x => (slices_Index_K1 x).bind some) r (fun (x : Int) a w => Fr 19 [pl 0 (.slice A1 s1.length c1), pl 1 (.int .i64 v1), pl 7 (.int .i64 (s1.length : Int)), pl 8 (.int .i64 x)] a ∧ Sep w0 B w (fs)) (assoc_b hm) ⟨hF.weak [0, 1, 7, 8] (by kernel_rfl), hS⟩ ?_
    clear hF hS hm
    rintro nn1 z1 a w ⟨hF, hS⟩ hm
    generalize hφ1 : stK (slices_Index_L1 s1 v1) nn1 (fun x => (slices_Index_K1 x).bind some) = φ1 at hm
    unfold slices_Index_L1 at hm
    dsimp only at hm
    refine reg [] [] [0, 1, 7, 8, 9] [pl 0 (.slice A1 s1.length c1), pl 1 (.int .i64 v1), pl 7 (.int .i64 (s1.length : Int)), pl 8 (.int .i64 z1), pl 9 (.bool (decide (z1 < (s1.length : Int))))] hF hS Fol (by kernel_rfl) (by kernel_rfl) (by kernel_rfl) ?_ (fun a w hF hS => ?_)
    · exact obs_nil
    refine seq_cut (fun a w => Fr 19 [pl 0 (.slice A1 s1.length c1), pl 1 (.int .i64 v1), pl 7 (.int .i64 (s1.length : Int)), pl 8 (.int .i64 z1)] a ∧ Sep w0 B w (fs) ∧ ((slices_Index_J2 s1 v1 z1)).bind φ1 = some r) ?_ ?_
    · rintro a w ⟨hF, hS, hm⟩
      unfold slices_Index_J2 at hm
      refine seq_cut (fun a w => Fr 19 [pl 0 (.slice A1 s1.length c1), pl 1 (.int .i64 v1), pl 7 (.int .i64 (s1.length : Int)), pl 8 (.int .i64 z1)] a ∧ Sep w0 B w (fs) ∧ ((slices_Index_J3 z1)).bind φ1 = some r) ?_ ?_
      · rintro a w ⟨hF, hS, hm⟩
        unfold slices_Index_J3 at hm
        refine reg1 [] [] [0, 1, 7, 8] [pl 0 (.slice A1 s1.length c1), pl 1 (.int .i64 v1), pl 7 (.int .i64 (s1.length : Int)), pl 8 (.int .i64 (w64 (z1 + 1)))] hF hS Fol (by kernel_rfl) (by kernel_rfl) (by kernel_rfl) ?_ (fun a w hF hS => ?_)
        · exact obs_nil
        refine then_n ?_
        rw [← hφ1] at hm
        exact ⟨(w64 (z1 + 1)), ⟨hF.weak [0, 1, 7, 8] (by kernel_rfl), hS⟩, hm⟩
      · refine wpIn_block ?_
        refine reg [] [] [0, 1, 5, 7, 8] [pl 0 (.slice A1 s1.length c1), pl 1 (.int .i64 v1), pl 5 (.int .i64 z1), pl 7 (.int .i64 (s1.length : Int)), pl 8 (.int .i64 z1)] hF hS Fol (by kernel_rfl) (by kernel_rfl) (by kernel_rfl) ?_ (fun a w hF hS => ?_)
        · exact obs_nil
        obtain ⟨hp1, hm⟩ := asrt_b hm
        refine reg [⟨true, [], vS (Instr.indexAt 22 (.slice A1 s1.length c1) (.int .i64 z1)), .pointer (some (sAddr A1 z1))⟩, ⟨false, [], vS (Instr.loadAt 3 (.pointer (some (sAddr A1 z1)))), .int .i64 (geti s1 z1)⟩] [none, none, none, some (.pointer (some (sAddr A1 z1))), some (.int .i64 (geti s1 z1)), none] [0, 1, 5, 7, 8, 16] [pl 0 (.slice A1 s1.length c1), pl 1 (.int .i64 v1), pl 5 (.int .i64 z1), pl 7 (.int .i64 (s1.length : Int)), pl 8 (.int .i64 z1), pl 16 (.bool (v1 == (geti s1 z1)))] hF hS Fol (by kernel_rfl) (by kernel_rfl) (by kernel_rfl) ?_ (fun a w hF hS => ?_)
        · exact obs_cons (ob_ix1 (f := (Value.int .i64)) (m := s1) Und22 hi3 hs3 (hr_s1 _ (hS.dropN 0)) rfl (fun _ => hp1)) <| obs_cons (ob_get1 (n := s1.length) (m := s1) (Value.int .i64) (0 : Int) Agg3 (fun _ hS => ⟨_, (hr_s1 _ (hS.dropN 0))⟩) (fun _ hS => rfl) (fun _ => hp1)) <| obs_nil
        refine cond_ev (t := 16) (b := (v1 == (geti s1 z1))) hF (by kernel_rfl) (fun hb => ?_) (fun hb => ?_)
        · replace hm := if_t hm hb
          refine reg [] [] [4] [pl 4 (.int .i64 z1)] hF hS Fol (by kernel_rfl) (by kernel_rfl) (by kernel_rfl) ?_ (fun a w hF hS => ?_)
          · exact obs_nil
          refine wpIn_ret ?_
          refine block_r (then_r (then_r (block_r (then_r ?_))))
          rw [← hφ1] at hm
          replace hm := done_b hm
          unfold slices_Index_K1 at hm
          try dsimp only at hm
          have hm : some z1 = some r := hm
          obtain rfl := Option.some.inj hm
          exact retV (rs := [.tmp 4]) (vs := [.int .i64 z1]) hF rfl (rv_t (by kernel_rfl) <| rv_nil) rfl ⟨rfl, hS⟩
        · replace hm := if_f hm hb
          refine wpIn_skip ?_
          refine block_n ?_
          refine then_n ?_
          exact ⟨hF.weak [0, 1, 7, 8] (by kernel_rfl), hS, hm⟩
    · refine cond_ev (t := 9) (b := decide (z1 < (s1.length : Int))) hF (by kernel_rfl) (fun hb => ?_) (fun hb => ?_)
      · replace hm := if_t hm hb
        refine wpIn_skip ?_
        refine then_n ?_
        exact ⟨hF.weak [0, 1, 7, 8] (by kernel_rfl), hS, hm⟩
      · replace hm := if_f hm hb
        refine wpIn_exit ?_
        refine then_e (then_e (block_e (then_n ?_)))
        rw [← hφ1] at hm
        replace hm := done_b hm
        unfold slices_Index_K1 at hm
        try dsimp only at hm
        have hm : (slices_Index_J1).bind some = some r := hm
        exact ⟨hF.weak [] (by kernel_rfl), hS, hm⟩

noncomputable def slices_Contains_m  (s1 : List Int) (v1 : Int) : Option Bool :=
  (slices_Index_m s1 v1).bind fun r1 => some (decide ((0 : Int) ≤ r1))

set_option maxRecDepth 100000 in
set_option maxHeartbeats 4000000 in
theorem slices_Contains_w  {A1 : Option Addr} {c1 : Nat} {n1 : Nat} {s1 : List Int} {v1 : Int} {r : Bool} {w0 w : World} {B : Nat} {fs : List HP} (hm : slices_Contains_m s1 v1 = some r) (hS : Sep w0 B w (fs)) (hr_s1 : RdF w0 B fs A1 (vI s1)) (_hc_s1 : s1.length ≤ c1) (_hn_s1 : n1 = s1.length) :
    Calls Try.prog 96 #[.slice A1 n1 c1, .int .i64 v1] w fun e w' => e = .returned (.bool r) ∧ Sep w0 B w' (fs) := by
  obtain ⟨i3, hi3, hz3, hs3, hb3⟩ := info_parts Info3
  obtain rfl := _hn_s1
  unfold slices_Contains_m at hm
  replace hm := start_b hm
  refine enter (l := [.slice A1 s1.length c1, .int .i64 v1]) (n := 9) Try.func96 rfl rfl (by simp) (fun a hF => ?_)
  refine reg [] [] [0, 1] [pl 0 (.slice A1 s1.length c1), pl 1 (.int .i64 v1)] hF hS Fol (by kernel_rfl) (by kernel_rfl) (by kernel_rfl) ?_ (fun a w hF hS => ?_)
  · exact obs_nil
  obtain ⟨r1, hr1, hm⟩ := call_b hm
  refine reg [⟨false, [], callFunc 157 #[.slice A1 s1.length c1, .int .i64 v1], .int .i64 r1⟩] [none, none, some (.int .i64 r1), none, none] [4] [pl 4 (.bool (decide ((0 : Int) ≤ r1)))] hF hS Fol (by kernel_rfl) (by kernel_rfl) (by kernel_rfl) ?_ (fun a w hF hS => ?_)
  · exact obs_cons (ob_call Try.func157 (by kernel_rfl) rfl (fun _ _ hS => slices_Index_w hr1 hS (fun _ hS => (hr_s1 _ (hS.dropN 0))) _hc_s1 rfl)) <| obs_nil
  refine wpIn_ret ?_
  have hm : some (decide ((0 : Int) ≤ r1)) = some r := hm
  obtain rfl := Option.some.inj hm
  exact retV (rs := [.tmp 4]) (vs := [.bool (decide ((0 : Int) ≤ r1))]) hF rfl (rv_t (by kernel_rfl) <| rv_nil) rfl ⟨rfl, hS⟩

noncomputable def draughts_play_last_J1  (place1 : Int) : Option Bool :=
  some (decide ((29 : Int) ≤ place1))

noncomputable def draughts_play_last_m  (p_b1 : List Int) (p_sign1 : Int) (p_out1 : List (List Int)) (place1 : Int) : Option Bool :=
  if (decide ((0 : Int) < p_sign1)) then (some (decide (place1 ≤ 4))) else ((draughts_play_last_J1 place1))

set_option maxRecDepth 100000 in
set_option maxHeartbeats 4000000 in
theorem draughts_play_last_w  {g1 : Nat} {A1 : Option Addr} {c1 : Nat} {n1 : Nat} {p_b1 : List Int} {p_sign1 : Int} {A2 : Option Addr} {c2 : Nat} {n2 : Nat} {hd1 : List Hd} {p_out1 : List (List Int)} {place1 : Int} {r : Bool} {w0 w : World} {B : Nat} {fs : List HP} (hm : draughts_play_last_m p_b1 p_sign1 p_out1 place1 = some r) (hS : Sep w0 B w (blk g1 169 #[.slice A1 n1 c1, .int .i64 p_sign1, .slice A2 n2 c2] :: own 3 (.slice A1 n1 c1) (vI p_b1) :: rows 22 3 (.slice A2 n2 c2) hd1 p_out1 :: fs)) :
    Calls Try.prog 203 #[.pointer (some ⟨g1, 0, none⟩), .int .i64 place1] w fun e w' => e = .returned (.bool r) ∧ Sep w0 B w' (blk g1 169 #[.slice A1 n1 c1, .int .i64 p_sign1, .slice A2 n2 c2] :: own 3 (.slice A1 n1 c1) (vI p_b1) :: rows 22 3 (.slice A2 n2 c2) hd1 p_out1 :: fs) := by
  obtain ⟨i3, hi3, hz3, hs3, hb3⟩ := info_parts Info3
  obtain rfl := (hS.at_ 1 rfl).len1
  obtain rfl := (hS.at_ 2 rfl).lenR
  unfold draughts_play_last_m at hm
  replace hm := start_b hm
  refine enter (l := [.pointer (some ⟨g1, 0, none⟩), .int .i64 place1]) (n := 14) Try.func203 rfl rfl (by simp) (fun a hF => ?_)
  refine reg [] [] [0, 1] [pl 0 (.pointer (some ⟨g1, 0, none⟩)), pl 1 (.int .i64 place1)] hF hS Fol (by kernel_rfl) (by kernel_rfl) (by kernel_rfl) ?_ (fun a w hF hS => ?_)
  · exact obs_nil
  refine seq_cut (fun a w => Fr 14 [pl 1 (.int .i64 place1)] a ∧ Sep w0 B w (blk g1 169 #[.slice A1 p_b1.length c1, .int .i64 p_sign1, .slice A2 p_out1.length c2] :: own 3 (.slice A1 p_b1.length c1) (vI p_b1) :: rows 22 3 (.slice A2 p_out1.length c2) hd1 p_out1 :: fs) ∧ ((draughts_play_last_J1 place1)).bind some = some r) ?_ ?_
  · rintro a w ⟨hF, hS, hm⟩
    unfold draughts_play_last_J1 at hm
    refine reg [] [] [4] [pl 4 (.bool (decide ((29 : Int) ≤ place1)))] hF hS Fol (by kernel_rfl) (by kernel_rfl) (by kernel_rfl) ?_ (fun a w hF hS => ?_)
    · exact obs_nil
    refine wpIn_ret ?_
    have hm : some (decide ((29 : Int) ≤ place1)) = some r := hm
    obtain rfl := Option.some.inj hm
    exact retV (rs := [.tmp 4]) (vs := [.bool (decide ((29 : Int) ≤ place1))]) hF rfl (rv_t (by kernel_rfl) <| rv_nil) rfl ⟨rfl, hS⟩
  · refine reg [⟨false, [], vS (Instr.loadAt 3 (.pointer (some ⟨g1, 1, none⟩))), .int .i64 p_sign1⟩] [none, none, none, some (.int .i64 p_sign1), none] [1, 9] [pl 1 (.int .i64 place1), pl 9 (.bool (decide ((0 : Int) < p_sign1)))] hF hS Fol (by kernel_rfl) (by kernel_rfl) (by kernel_rfl) ?_ (fun a w hF hS => ?_)
    · exact obs_cons (ob_load Agg3 (fun _ _ hS => (hS.at_ 0 rfl).cell rfl)) <| obs_nil
    refine cond_ev (t := 9) (b := decide ((0 : Int) < p_sign1)) hF (by kernel_rfl) (fun hb => ?_) (fun hb => ?_)
    · replace hm := if_t hm hb
      refine reg [] [] [4] [pl 4 (.bool (decide (place1 ≤ 4)))] hF hS Fol (by kernel_rfl) (by kernel_rfl) (by kernel_rfl) ?_ (fun a w hF hS => ?_)
      · exact obs_nil
      refine wpIn_ret ?_
      refine then_r ?_
      have hm : some (decide (place1 ≤ 4)) = some r := hm
      obtain rfl := Option.some.inj hm
      exact retV (rs := [.tmp 4]) (vs := [.bool (decide (place1 ≤ 4))]) hF rfl (rv_t (by kernel_rfl) <| rv_nil) rfl ⟨rfl, hS⟩
    · replace hm := if_f hm hb
      refine wpIn_skip ?_
      refine then_n ?_
      exact ⟨hF.weak [1] (by kernel_rfl), hS, hm⟩

noncomputable def draughts_play_jumps_2_J4  (z1 : Int) (p4 : List (List Int)) (on3 : Bool) : Option (St (List (List Int) × Bool × Int) (List (List Int) × Bool)) :=
  some (.next (p4, on3, (w64 (z1 + 1))))

noncomputable def draughts_play_jumps_2_J7  (rec_draughts_play_jumps_2 : List Int → Int → List (List Int) → List Int → Int → List Int → Option (List (List Int))) (p_b1 : List Int) (p_sign1 : Int) (piece1 : Int) (over1 : List Int) (p2 : List (List Int)) (z1 : Int) (r2 : Int) (r5 : Int) (r7 : (List Int)) : Option (St (List (List Int) × Bool × Int) (List (List Int) × Bool)) :=
  (slices_Clone_m over1).bind fun r9 => asrt ((r9.length : Int) + 1 ≤ bigN) <| (rec_draughts_play_jumps_2 p_b1 p_sign1 p2 (r7 ++ ([r5] : List Int)) piece1 (r9 ++ ([r2] : List Int))).bind fun r10 => (draughts_play_jumps_2_J4 z1) r10 true

noncomputable def draughts_play_jumps_2_J6  (rec_draughts_play_jumps_2 : List Int → Int → List (List Int) → List Int → Int → List Int → Option (List (List Int))) (p_b1 : List Int) (p_sign1 : Int) (way1 : List Int) (piece1 : Int) (over1 : List Int) (p2 : List (List Int)) (z1 : Int) (r2 : Int) (r5 : Int) : Option (St (List (List Int) × Bool × Int) (List (List Int) × Bool)) :=
  (slices_Clone_m way1).bind fun r7 => asrt ((r7.length : Int) + 1 ≤ bigN) <| ((if (piece1 == 1) then draughts_play_last_m p_b1 p_sign1 p2 r5 else some false)).bind fun r8 => if ((piece1 == 1) && r8) then (asrt (((p2.length : Int) : Int) + 1 ≤ bigR) <| (draughts_play_jumps_2_J4 z1) (p2 ++ [(r7 ++ ([r5] : List Int))]) true) else ((draughts_play_jumps_2_J7 rec_draughts_play_jumps_2 p_b1 p_sign1 piece1 over1 p2 z1 r2 r5 r7))

noncomputable def draughts_play_jumps_2_J5  (rec_draughts_play_jumps_2 : List Int → Int → List (List Int) → List Int → Int → List Int → Option (List (List Int))) (p_b1 : List Int) (p_sign1 : Int) (way1 : List Int) (piece1 : Int) (over1 : List Int) (r1 : (List Int)) (p2 : List (List Int)) (on1 : Bool) (z1 : Int) (r2 : Int) : Option (St (List (List Int) × Bool × Int) (List (List Int) × Bool)) :=
  (draughts_next_m r2 (geti r1 z1)).bind fun r5 => ((if (!(r5 == 0)) then draughts_play_at_m p_b1 p_sign1 p2 r5 else some 0)).bind fun r6 => asrt ((r6 != 0) = true → (r5 == 0) = false → 0 ≤ (0 : Int) ∧ (0 : Int) < (way1.length : Int)) <| if ((r5 == 0) || ((r6 != 0) && (r5 != (geti way1 0)))) then ((draughts_play_jumps_2_J4 z1) p2 on1) else ((draughts_play_jumps_2_J6 rec_draughts_play_jumps_2 p_b1 p_sign1 way1 piece1 over1 p2 z1 r2 r5))

noncomputable def draughts_play_jumps_2_J3  (rec_draughts_play_jumps_2 : List Int → Int → List (List Int) → List Int → Int → List Int → Option (List (List Int))) (p_b1 : List Int) (p_sign1 : Int) (way1 : List Int) (piece1 : Int) (over1 : List Int) (r1 : (List Int)) (p2 : List (List Int)) (on1 : Bool) (z1 : Int) : Option (St (List (List Int) × Bool × Int) (List (List Int) × Bool)) :=
  asrt (0 ≤ z1 ∧ z1 < (r1.length : Int)) <| (draughts_next_m (geti way1 (w64 ((way1.length : Int) - 1))) (geti r1 z1)).bind fun r2 => ((if (!(r2 == 0)) then draughts_play_at_m p_b1 p_sign1 p2 r2 else some 0)).bind fun r3 => ((if (!((r2 == 0) || (decide ((0 : Int) ≤ r3)))) then slices_Contains_m over1 r2 else some false)).bind fun r4 => if (((r2 == 0) || (decide ((0 : Int) ≤ r3))) || r4) then ((draughts_play_jumps_2_J4 z1) p2 on1) else ((draughts_play_jumps_2_J5 rec_draughts_play_jumps_2 p_b1 p_sign1 way1 piece1 over1 r1 p2 on1 z1 r2))

noncomputable def draughts_play_jumps_2_J1  (p5 : List (List Int)) : Option (List (List Int)) :=
  some p5

noncomputable def draughts_play_jumps_2_J2  (way1 : List Int) (p3 : List (List Int)) (on2 : Bool) : Option (List (List Int)) :=
  if ((!on2) && (decide ((1 : Int) < (way1.length : Int)))) then (asrt (((p3.length : Int) : Int) + 1 ≤ bigR) <| draughts_play_jumps_2_J1 (p3 ++ [way1])) else (draughts_play_jumps_2_J1 p3)

noncomputable def draughts_play_jumps_2_K1  (way1 : List Int) : (List (List Int) × Bool) → Option (List (List Int)) :=
  fun (x : (List (List Int) × Bool)) => match x with | (p3, on2) => (draughts_play_jumps_2_J2 way1) p3 on2

noncomputable def draughts_play_jumps_2_L1  (rec_draughts_play_jumps_2 : List Int → Int → List (List Int) → List Int → Int → List Int → Option (List (List Int))) (p_b1 : List Int) (p_sign1 : Int) (way1 : List Int) (piece1 : Int) (over1 : List Int) (r1 : (List Int)) : (List (List Int) × Bool × Int) → Option (St (List (List Int) × Bool × Int) (List (List Int) × Bool)) :=
  fun (x : (List (List Int) × Bool × Int)) => match x with | (p2, on1, z1) => if (decide (z1 < (r1.length : Int))) then ((draughts_play_jumps_2_J3 rec_draughts_play_jumps_2 p_b1 p_sign1 way1 piece1 over1 r1 p2 on1 z1)) else (some (.done (p2, on1)))

noncomputable def draughts_play_jumps_2_B  (rec_draughts_play_jumps_2 : List Int → Int → List (List Int) → List Int → Int → List Int → Option (List (List Int))) (p_b1 : List Int) (p_sign1 : Int) (p_out1 : List (List Int)) (way1 : List Int) (piece1 : Int) (over1 : List Int) : Option (List (List Int)) :=
  asrt (0 ≤ (w64 ((way1.length : Int) - 1)) ∧ (w64 ((way1.length : Int) - 1)) < (way1.length : Int)) <| (draughts_play_dirs_m p_b1 p_sign1 p_out1 piece1).bind fun r1 => (loop (draughts_play_jumps_2_L1 rec_draughts_play_jumps_2 p_b1 p_sign1 way1 piece1 over1 r1) (p_out1, false, 0)).bind (draughts_play_jumps_2_K1 way1)

noncomputable def draughts_play_jumps_2_mF  : Nat → List Int → Int → List (List Int) → List Int → Int → List Int → Option (List (List Int))
  | 0 => fun _ _ _ _ _ _ => none
  | n + 1 => fun p_b1 p_sign1 p_out1 way1 piece1 over1 => draughts_play_jumps_2_B (draughts_play_jumps_2_mF n) p_b1 p_sign1 p_out1 way1 piece1 over1

noncomputable def draughts_play_jumps_2_m  (p_b1 : List Int) (p_sign1 : Int) (p_out1 : List (List Int)) (way1 : List Int) (piece1 : Int) (over1 : List Int) : Option (List (List Int)) :=
  recM fun n => draughts_play_jumps_2_mF n p_b1 p_sign1 p_out1 way1 piece1 over1

set_option maxRecDepth 100000 in
set_option maxHeartbeats 4000000 in
theorem draughts_play_jumps_2_wB  {rec_draughts_play_jumps_2 : List Int → Int → List (List Int) → List Int → Int → List Int → Option (List (List Int))} (ih_draughts_play_jumps_2 : ∀ {g1 : Nat} {A1 : Option Addr} {c1 : Nat} {n1 : Nat} {p_b1 : List Int} {p_sign1 : Int} {A2 : Option Addr} {c2 : Nat} {n2 : Nat} {hd1 : List Hd} {p_out1 : List (List Int)} {A3 : Option Addr} {c3 : Nat} {n3 : Nat} {way1 : List Int} {piece1 : Int} {A4 : Option Addr} {c4 : Nat} {n4 : Nat} {over1 : List Int} {r : (List (List Int))} {w0 w : World} {B : Nat} {fs : List HP} (_ : rec_draughts_play_jumps_2 p_b1 p_sign1 p_out1 way1 piece1 over1 = some r) (_ : Sep w0 B w (blk g1 169 #[.slice A1 n1 c1, .int .i64 p_sign1, .slice A2 n2 c2] :: own 3 (.slice A1 n1 c1) (vI p_b1) :: rows 22 3 (.slice A2 n2 c2) hd1 p_out1 :: own 3 (.slice A3 n3 c3) (vI way1) :: fs)) (_hr_over1 : RdF w0 B fs A4 (vI over1)) (_hc_over1 : over1.length ≤ c4) (_hn_over1 : n4 = over1.length), Calls Try.prog 197 #[.pointer (some ⟨g1, 0, none⟩), .slice A3 n3 c3, .int .i64 piece1, .slice A4 n4 c4] w fun e w' => ∃ v, e = .returned v ∧ ∃ (A5 : Option Addr) (c5 : Nat) (hd2 : List Hd), v = .tuple #[] ∧ Sep w0 B w' (blk g1 169 #[.slice A1 n1 c1, .int .i64 p_sign1, .slice A5 r.length c5] :: own 3 (.slice A1 n1 c1) (vI p_b1) :: rows 22 3 (.slice A5 r.length c5) hd2 r :: fs)) {g1 : Nat} {A1 : Option Addr} {c1 : Nat} {n1 : Nat} {p_b1 : List Int} {p_sign1 : Int} {A2 : Option Addr} {c2 : Nat} {n2 : Nat} {hd1 : List Hd} {p_out1 : List (List Int)} {A3 : Option Addr} {c3 : Nat} {n3 : Nat} {way1 : List Int} {piece1 : Int} {A4 : Option Addr} {c4 : Nat} {n4 : Nat} {over1 : List Int} {r : (List (List Int))} {w0 w : World} {B : Nat} {fs : List HP} (hm : draughts_play_jumps_2_B rec_draughts_play_jumps_2 p_b1 p_sign1 p_out1 way1 piece1 over1 = some r) (hS : Sep w0 B w (blk g1 169 #[.slice A1 n1 c1, .int .i64 p_sign1, .slice A2 n2 c2] :: own 3 (.slice A1 n1 c1) (vI p_b1) :: rows 22 3 (.slice A2 n2 c2) hd1 p_out1 :: own 3 (.slice A3 n3 c3) (vI way1) :: fs)) (hr_over1 : RdF w0 B fs A4 (vI over1)) (_hc_over1 : over1.length ≤ c4) (_hn_over1 : n4 = over1.length) :
    Calls Try.prog 197 #[.pointer (some ⟨g1, 0, none⟩), .slice A3 n3 c3, .int .i64 piece1, .slice A4 n4 c4] w fun e w' => ∃ v, e = .returned v ∧ ∃ (A5 : Option Addr) (c5 : Nat) (hd2 : List Hd), v = .tuple #[] ∧ Sep w0 B w' (blk g1 169 #[.slice A1 n1 c1, .int .i64 p_sign1, .slice A5 r.length c5] :: own 3 (.slice A1 n1 c1) (vI p_b1) :: rows 22 3 (.slice A5 r.length c5) hd2 r :: fs) := by
  obtain ⟨i3, hi3, hz3, hs3, hb3⟩ := info_parts Info3
  obtain ⟨i22, hi22, hz22, hs22, hb22⟩ := info_parts Info22
  obtain ⟨i42, hi42, hz42, hs42, hb42⟩ := info_parts Info42
  obtain rfl := (hS.at_ 1 rfl).len1
  obtain rfl := (hS.at_ 2 rfl).lenR
  obtain rfl := (hS.at_ 3 rfl).len1
  obtain rfl := _hn_over1
  unfold draughts_play_jumps_2_B at hm
  replace hm := start_b hm
  refine enter (l := [.pointer (some ⟨g1, 0, none⟩), .slice A3 way1.length c3, .int .i64 piece1, .slice A4 over1.length c4]) (n := 112) Try.func197 rfl rfl (by simp) (fun a hF => ?_)
  refine end_cut (fun a w => ∃ (p5 : List (List Int)) (A17 : Option Addr) (c17 : Nat) (hd7 : List Hd), Fr 112 [] a ∧ Sep w0 B w (blk g1 169 #[.slice A1 p_b1.length c1, .int .i64 p_sign1, .slice A17 p5.length c17] :: own 3 (.slice A1 p_b1.length c1) (vI p_b1) :: rows 22 3 (.slice A17 p5.length c17) hd7 p5 :: fs) ∧ (draughts_play_jumps_2_J1 p5).bind some = some r) ?_ ?_
  · rintro a w ⟨p5, A17, c17, hd7, hF, hS, hm⟩
    unfold draughts_play_jumps_2_J1 at hm
    have hm : some p5 = some r := hm
    obtain rfl := Option.some.inj hm
    exact endV (rs := []) (vs := []) hF rfl (rv_nil) rfl ⟨_, rfl, A17, c17, hd7, rfl, hS⟩ rfl
  · obtain ⟨hp1, hm⟩ := asrt_b hm
    refine reg [⟨true, [], vS (Instr.indexAt 22 (.slice A3 way1.length c3) (.int .i64 (w64 ((way1.length : Int) - 1)))), .pointer (some (sAddr A3 (w64 ((way1.length : Int) - 1))))⟩, ⟨false, [], vS (Instr.loadAt 3 (.pointer (some (sAddr A3 (w64 ((way1.length : Int) - 1)))))), .int .i64 (geti way1 (w64 ((way1.length : Int) - 1)))⟩] [none, none, none, none, some (.pointer (some (sAddr A3 (w64 ((way1.length : Int) - 1))))), some (.int .i64 (geti way1 (w64 ((way1.length : Int) - 1)))), none] [0, 1, 2, 3, 8] [pl 0 (.pointer (some ⟨g1, 0, none⟩)), pl 1 (.slice A3 way1.length c3), pl 2 (.int .i64 piece1), pl 3 (.slice A4 over1.length c4), pl 8 (.int .i64 (geti way1 (w64 ((way1.length : Int) - 1))))] hF hS Fol (by kernel_rfl) (by kernel_rfl) (by kernel_rfl) ?_ (fun a w hF hS => ?_)
    · exact obs_cons (ob_ix1 (f := (Value.int .i64)) (m := way1) Und22 hi3 hs3 (hS.at_ 3 rfl).rd rfl (fun _ => hp1)) <| obs_cons (ob_get1 (n := way1.length) (m := way1) (Value.int .i64) (0 : Int) Agg3 (fun _ hS => ⟨_, (hS.at_ 3 rfl).rd⟩) (fun _ hS => rfl) (fun _ => hp1)) <| obs_nil
    refine reg [] [] [0, 1, 2, 3, 8, 9] [pl 0 (.pointer (some ⟨g1, 0, none⟩)), pl 1 (.slice A3 way1.length c3), pl 2 (.int .i64 piece1), pl 3 (.slice A4 over1.length c4), pl 8 (.int .i64 (geti way1 (w64 ((way1.length : Int) - 1)))), pl 9 (.bool false)] hF hS Fol (by kernel_rfl) (by kernel_rfl) (by kernel_rfl) ?_ (fun a w hF hS => ?_)
    · exact obs_nil
    refine seq_cut (fun a w => ∃ (p3 : List (List Int)) (on2 : Bool) (A8 : Option Addr) (c8 : Nat) (hd4 : List Hd), Fr 112 [pl 0 (.pointer (some ⟨g1, 0, none⟩)), pl 1 (.slice A3 way1.length c3), pl 9 (.bool on2)] a ∧ Sep w0 B w (blk g1 169 #[.slice A1 p_b1.length c1, .int .i64 p_sign1, .slice A8 p3.length c8] :: own 3 (.slice A1 p_b1.length c1) (vI p_b1) :: rows 22 3 (.slice A8 p3.length c8) hd4 p3 :: own 3 (.slice A3 way1.length c3) (vI way1) :: fs) ∧ ((draughts_play_jumps_2_J2 way1) p3 on2).bind some = some r) ?_ ?_
    · rintro a w ⟨p3, on2, A8, c8, hd4, hF, hS, hm⟩
      unfold draughts_play_jumps_2_J2 at hm
      refine reg [] [] [0, 1, 101] [pl 0 (.pointer (some ⟨g1, 0, none⟩)), pl 1 (.slice A3 way1.length c3), pl 101 (.bool ((!on2) && (decide ((1 : Int) < (way1.length : Int)))))] hF hS Fol (by kernel_rfl) (by kernel_rfl) (by kernel_rfl) ?_ (fun a w hF hS => ?_)
      · exact obs_nil
      refine cond_ev (t := 101) (b := (!on2) && (decide ((1 : Int) < (way1.length : Int)))) hF (by kernel_rfl) (fun hb => ?_) (fun hb => ?_)
      · replace hm := if_t hm hb
        refine oneR ?_
        obtain ⟨hp7, hm⟩ := asrt_b hm
        refine at_run 6 [⟨false, [], vS (Instr.loadAt 42 (.pointer (some ⟨g1, 2, none⟩))), .slice A8 p3.length c8⟩] [none, none, none, none, some (.slice A8 p3.length c8), none] [102, 106, 107] [pl 102 (.pointer (some ⟨g1, 0, none⟩)), pl 106 (.slice A8 p3.length c8), pl 107 (.slice A3 way1.length c3)] hF hS (by kernel_rfl) (by kernel_rfl) ?_ (fun a w hF hS => ?_)
        · exact obs_cons (ob_load Agg42 (fun _ _ hS => (hS.at_ 0 rfl).cell rfl)) <| obs_nil
        refine at_do (d := 108) (s := vS (Instr.buildSlice 42 1 #[(0, .slice A3 way1.length c3)])) (v := .slice (some ⟨w.heap.size, 0, none⟩) 1 1) (w' := w.alloc (.cells #[.slice A3 way1.length c3] 22)) hF (by kernel_rfl) (by kernel_rfl) (by kernel_rfl) (fun a hF => ?_)
        have hS : Sep w0 B (w.alloc (.cells #[.slice A3 way1.length c3] 22)) (own 22 (.slice (some (⟨w.heap.size, 0, none⟩ : Addr)) 1 1) [.slice A3 way1.length c3] :: (blk g1 169 #[.slice A1 p_b1.length c1, .int .i64 p_sign1, .slice A8 p3.length c8] :: own 3 (.slice A1 p_b1.length c1) (vI p_b1) :: rows 22 3 (.slice A8 p3.length c8) hd4 p3 :: own 3 (.slice A3 way1.length c3) (vI way1) :: fs)) := hS.lit 22 #[.slice A3 way1.length c3] 1 rfl (by omega)
        generalize (some (⟨w.heap.size, 0, none⟩ : Addr)) = g5 at hF hS
        generalize w.alloc (.cells #[.slice A3 way1.length c3] 22) = w at hS ⊢
        have hS := hS.pickN 5 [4, 0, 1, 2, 3] (by decide)
        have hS : Sep w0 B w (own 3 (.slice A3 way1.length c3) (vI way1) :: own 22 (.slice g5 1 1) [.slice A3 way1.length c3] :: blk g1 169 #[.slice A1 p_b1.length c1, .int .i64 p_sign1, .slice A8 p3.length c8] :: own 3 (.slice A1 p_b1.length c1) (vI p_b1) :: rows 22 3 (.slice A8 p3.length c8) hd4 p3 :: fs) := hS
        obtain ⟨A16, c16, w, hrun, hS⟩ := run_appRow (P := Try.prog) (t := 42) (A2 := g5) (c2 := 1) (hS.at2 3 rfl) (hS.at_ 1 rfl).rd 42 Und42 hi22 hz22 hs22 hb22 hp7
        have hS : Sep w0 B w (own 22 (.slice g5 1 1) [.slice A3 way1.length c3] :: blk g1 169 #[.slice A1 p_b1.length c1, .int .i64 p_sign1, .slice A8 p3.length c8] :: own 3 (.slice A1 p_b1.length c1) (vI p_b1) :: rows 22 3 (.slice A16 ((p3 ++ [way1]).length) c16) (hd4 ++ [(A3, c3)]) (p3 ++ [way1]) :: fs) := hS
        refine at_do (d := 109) hF (by kernel_rfl) (by kernel_rfl) hrun (fun a hF => ?_)
        refine at_run 2 [] [] [109, 111] [pl 109 (.slice A16 ((p3 ++ [way1]).length) c16), pl 111 (.pointer (some ⟨g1, 2, none⟩))] hF hS (by kernel_rfl) (by kernel_rfl) ?_ (fun a w hF hS => ?_)
        · exact obs_nil
        obtain ⟨w, hrun, hS⟩ := run_put (P := Try.prog) (t := 42) (u := .slice A16 ((p3 ++ [way1]).length) c16) (i := 2) (hS.at_ 1 rfl) hi42 hs42 rfl (Nat.lt_of_lt_of_eq (Nat.lt_of_succ_le (Nat.le_of_ble_eq_true (by kernel_rfl))) rfl)
        refine at_skip hF (by kernel_rfl) hrun ?_
        have hS : Sep w0 B w (own 22 (.slice g5 1 1) [.slice A3 way1.length c3] :: blk g1 169 #[.slice A1 p_b1.length c1, .int .i64 p_sign1, .slice A16 ((p3 ++ [way1]).length) c16] :: own 3 (.slice A1 p_b1.length c1) (vI p_b1) :: rows 22 3 (.slice A16 ((p3 ++ [way1]).length) c16) (hd4 ++ [(A3, c3)]) (p3 ++ [way1]) :: fs) := hS
        refine at_end [] [] hF rfl (by kernel_rfl) (fun hF => ?_)
        refine then_n ?_
        have hS := hS.pickN 4 [1, 2, 3] (by decide)
        exact ⟨(p3 ++ [way1]), A16, c16, (hd4 ++ [(A3, c3)]), hF.weak [] (by kernel_rfl), hS, hm⟩
      · replace hm := if_f hm hb
        refine wpIn_skip ?_
        refine then_n ?_
        have hS := hS.pickN 4 [0, 1, 2] (by decide)
        exact ⟨p3, A8, c8, hd4, hF.weak [] (by kernel_rfl), hS, hm⟩
    · refine seqR ?_
      obtain ⟨r1, hr1, hm⟩ := call_b hm
      refine at_run 2 [] [] [0, 1, 2, 3, 8, 9, 21, 22] [pl 0 (.pointer (some ⟨g1, 0, none⟩)), pl 1 (.slice A3 way1.length c3), pl 2 (.int .i64 piece1), pl 3 (.slice A4 over1.length c4), pl 8 (.int .i64 (geti way1 (w64 ((way1.length : Int) - 1)))), pl 9 (.bool false), pl 21 (.pointer (some ⟨g1, 0, none⟩)), pl 22 (.int .i64 piece1)] hF hS (by kernel_rfl) (by kernel_rfl) ?_ (fun a w hF hS => ?_)
      · exact obs_nil
      refine at_call (f := 198) (args := #[.pointer (some ⟨g1, 0, none⟩), .int .i64 piece1]) (d := 23) hF (by kernel_rfl) (by kernel_rfl) Try.func198 (by kernel_rfl) rfl (draughts_play_dirs_w hr1 hS ) (fun v a w hR hF => ?_)
      clear hS
      obtain ⟨A6, c6, rfl, hS⟩ := hR
      have hS : Sep w0 B w (blk g1 169 #[.slice A1 p_b1.length c1, .int .i64 p_sign1, .slice A2 p_out1.length c2] :: own 3 (.slice A1 p_b1.length c1) (vI p_b1) :: rows 22 3 (.slice A2 p_out1.length c2) hd1 p_out1 :: own 3 (.slice A6 r1.length c6) (vI r1) :: own 3 (.slice A3 way1.length c3) (vI way1) :: fs) := hS
      refine at_run 2 [] [] [0, 1, 2, 3, 8, 9, 23, 24, 25] [pl 0 (.pointer (some ⟨g1, 0, none⟩)), pl 1 (.slice A3 way1.length c3), pl 2 (.int .i64 piece1), pl 3 (.slice A4 over1.length c4), pl 8 (.int .i64 (geti way1 (w64 ((way1.length : Int) - 1)))), pl 9 (.bool false), pl 23 (.slice A6 r1.length c6), pl 24 (.int .i64 (r1.length : Int)), pl 25 (.int .i64 0)] hF hS (by kernel_rfl) (by kernel_rfl) ?_ (fun a w hF hS => ?_)
      · exact obs_nil
      refine at_end [0, 1, 2, 3, 8, 9, 23, 24, 25] [pl 0 (.pointer (some ⟨g1, 0, none⟩)), pl 1 (.slice A3 way1.length c3), pl 2 (.int .i64 piece1), pl 3 (.slice A4 over1.length c4), pl 8 (.int .i64 (geti way1 (w64 ((way1.length : Int) - 1)))), pl 9 (.bool false), pl 23 (.slice A6 r1.length c6), pl 24 (.int .i64 (r1.length : Int)), pl 25 (.int .i64 0)] hF rfl (by kernel_rfl) (fun hF => ?_)
      refine then_n ?_
      refine wpIn_block ?_
      have hS := hS.pickN 5 [0, 1, 2, 4, 3] (by decide)
      refine wp_loop_model (S := (List (List Int) × Bool × Int)) (R := (List (List Int) × Bool)) (draughts_play_jumps_2_L1 rec_draughts_play_jumps_2 p_b1 p_sign1 way1 piece1 over1 r1) (fun x => ((draughts_play_jumps_2_K1 way1) x).bind some) r (fun (x : (List (List Int) × Bool × Int)) a w => ∃ (A7 : Option Addr) (c7 : Nat) (hd3 : List Hd), Fr 112 [pl 0 (.pointer (some ⟨g1, 0, none⟩)), pl 1 (.slice A3 way1.length c3), pl 2 (.int .i64 piece1), pl 3 (.slice A4 over1.length c4), pl 8 (.int .i64 (geti way1 (w64 ((way1.length : Int) - 1)))), pl 9 (.bool x.2.1), pl 23 (.slice A6 r1.length c6), pl 24 (.int .i64 (r1.length : Int)), pl 25 (.int .i64 x.2.2)] a ∧ Sep w0 B w (blk g1 169 #[.slice A1 p_b1.length c1, .int .i64 p_sign1, .slice A7 x.1.length c7] :: own 3 (.slice A1 p_b1.length c1) (vI p_b1) :: rows 22 3 (.slice A7 x.1.length c7) hd3 x.1 :: own 3 (.slice A3 way1.length c3) (vI way1) :: own 3 (.slice A6 r1.length c6) (vI r1) :: fs)) (assoc_b hm) ⟨A2, c2, hd1, hF.weak [0, 1, 2, 3, 8, 9, 23, 24, 25] (by kernel_rfl), hS⟩ ?_
      clear hF hS hm
      rintro nn1 ⟨p2, on1, z1⟩ a w ⟨A7, c7, hd3, hF, hS⟩ hm
      generalize hφ1 : stK (draughts_play_jumps_2_L1 rec_draughts_play_jumps_2 p_b1 p_sign1 way1 piece1 over1 r1) nn1 (fun x => ((draughts_play_jumps_2_K1 way1) x).bind some) = φ1 at hm
      unfold draughts_play_jumps_2_L1 at hm
      dsimp only at hF hS hm
      refine reg [] [] [0, 1, 2, 3, 8, 9, 23, 24, 25, 26] [pl 0 (.pointer (some ⟨g1, 0, none⟩)), pl 1 (.slice A3 way1.length c3), pl 2 (.int .i64 piece1), pl 3 (.slice A4 over1.length c4), pl 8 (.int .i64 (geti way1 (w64 ((way1.length : Int) - 1)))), pl 9 (.bool on1), pl 23 (.slice A6 r1.length c6), pl 24 (.int .i64 (r1.length : Int)), pl 25 (.int .i64 z1), pl 26 (.bool (decide (z1 < (r1.length : Int))))] hF hS Fol (by kernel_rfl) (by kernel_rfl) (by kernel_rfl) ?_ (fun a w hF hS => ?_)
      · exact obs_nil
      refine seq_cut (fun a w => Fr 112 [pl 0 (.pointer (some ⟨g1, 0, none⟩)), pl 1 (.slice A3 way1.length c3), pl 2 (.int .i64 piece1), pl 3 (.slice A4 over1.length c4), pl 8 (.int .i64 (geti way1 (w64 ((way1.length : Int) - 1)))), pl 9 (.bool on1), pl 23 (.slice A6 r1.length c6), pl 24 (.int .i64 (r1.length : Int)), pl 25 (.int .i64 z1)] a ∧ Sep w0 B w (blk g1 169 #[.slice A1 p_b1.length c1, .int .i64 p_sign1, .slice A7 p2.length c7] :: own 3 (.slice A1 p_b1.length c1) (vI p_b1) :: rows 22 3 (.slice A7 p2.length c7) hd3 p2 :: own 3 (.slice A3 way1.length c3) (vI way1) :: own 3 (.slice A6 r1.length c6) (vI r1) :: fs) ∧ ((draughts_play_jumps_2_J3 rec_draughts_play_jumps_2 p_b1 p_sign1 way1 piece1 over1 r1 p2 on1 z1)).bind φ1 = some r) ?_ ?_
      · rintro a w ⟨hF, hS, hm⟩
        unfold draughts_play_jumps_2_J3 at hm
        refine seq_cut (fun a w => ∃ (p4 : List (List Int)) (on3 : Bool) (A9 : Option Addr) (c9 : Nat) (hd5 : List Hd), Fr 112 [pl 0 (.pointer (some ⟨g1, 0, none⟩)), pl 1 (.slice A3 way1.length c3), pl 2 (.int .i64 piece1), pl 3 (.slice A4 over1.length c4), pl 8 (.int .i64 (geti way1 (w64 ((way1.length : Int) - 1)))), pl 9 (.bool on3), pl 23 (.slice A6 r1.length c6), pl 24 (.int .i64 (r1.length : Int)), pl 25 (.int .i64 z1)] a ∧ Sep w0 B w (blk g1 169 #[.slice A1 p_b1.length c1, .int .i64 p_sign1, .slice A9 p4.length c9] :: own 3 (.slice A1 p_b1.length c1) (vI p_b1) :: rows 22 3 (.slice A9 p4.length c9) hd5 p4 :: own 3 (.slice A3 way1.length c3) (vI way1) :: own 3 (.slice A6 r1.length c6) (vI r1) :: fs) ∧ ((draughts_play_jumps_2_J4 z1) p4 on3).bind φ1 = some r) ?_ ?_
        · rintro a w ⟨p4, on3, A9, c9, hd5, hF, hS, hm⟩
          unfold draughts_play_jumps_2_J4 at hm
          refine reg1 [] [] [0, 1, 2, 3, 8, 9, 23, 24, 25] [pl 0 (.pointer (some ⟨g1, 0, none⟩)), pl 1 (.slice A3 way1.length c3), pl 2 (.int .i64 piece1), pl 3 (.slice A4 over1.length c4), pl 8 (.int .i64 (geti way1 (w64 ((way1.length : Int) - 1)))), pl 9 (.bool on3), pl 23 (.slice A6 r1.length c6), pl 24 (.int .i64 (r1.length : Int)), pl 25 (.int .i64 (w64 (z1 + 1)))] hF hS Fol (by kernel_rfl) (by kernel_rfl) (by kernel_rfl) ?_ (fun a w hF hS => ?_)
          · exact obs_nil
          refine then_n ?_
          rw [← hφ1] at hm
          exact ⟨(p4, on3, (w64 (z1 + 1))), ⟨A9, c9, hd5, hF.weak [0, 1, 2, 3, 8, 9, 23, 24, 25] (by kernel_rfl), hS⟩, hm⟩
        · refine wpIn_block ?_
          obtain ⟨hp2, hm⟩ := asrt_b hm
          refine reg [⟨true, [], vS (Instr.indexAt 22 (.slice A6 r1.length c6) (.int .i64 z1)), .pointer (some (sAddr A6 z1))⟩, ⟨false, [], vS (Instr.loadAt 3 (.pointer (some (sAddr A6 z1)))), .int .i64 (geti r1 z1)⟩] [some (.pointer (some (sAddr A6 z1))), some (.int .i64 (geti r1 z1)), none] [0, 1, 2, 3, 8, 9, 11, 23, 24, 25] [pl 0 (.pointer (some ⟨g1, 0, none⟩)), pl 1 (.slice A3 way1.length c3), pl 2 (.int .i64 piece1), pl 3 (.slice A4 over1.length c4), pl 8 (.int .i64 (geti way1 (w64 ((way1.length : Int) - 1)))), pl 9 (.bool on1), pl 11 (.int .i64 (geti r1 z1)), pl 23 (.slice A6 r1.length c6), pl 24 (.int .i64 (r1.length : Int)), pl 25 (.int .i64 z1)] hF hS Fol (by kernel_rfl) (by kernel_rfl) (by kernel_rfl) ?_ (fun a w hF hS => ?_)
          · exact obs_cons (ob_ix1 (f := (Value.int .i64)) (m := r1) Und22 hi3 hs3 (hS.at_ 4 rfl).rd rfl (fun _ => hp2)) <| obs_cons (ob_get1 (n := r1.length) (m := r1) (Value.int .i64) (0 : Int) Agg3 (fun _ hS => ⟨_, (hS.at_ 4 rfl).rd⟩) (fun _ hS => rfl) (fun _ => hp2)) <| obs_nil
          obtain ⟨r2, hr2, hm⟩ := call_b hm
          refine reg [⟨false, [], callFunc 199 #[.int .i64 (geti way1 (w64 ((way1.length : Int) - 1))), .int .i64 (geti r1 z1)], .int .i64 r2⟩] [none, none, some (.int .i64 r2), none] [0, 1, 2, 3, 8, 9, 11, 12, 23, 24, 25] [pl 0 (.pointer (some ⟨g1, 0, none⟩)), pl 1 (.slice A3 way1.length c3), pl 2 (.int .i64 piece1), pl 3 (.slice A4 over1.length c4), pl 8 (.int .i64 (geti way1 (w64 ((way1.length : Int) - 1)))), pl 9 (.bool on1), pl 11 (.int .i64 (geti r1 z1)), pl 12 (.int .i64 r2), pl 23 (.slice A6 r1.length c6), pl 24 (.int .i64 (r1.length : Int)), pl 25 (.int .i64 z1)] hF hS Fol (by kernel_rfl) (by kernel_rfl) (by kernel_rfl) ?_ (fun a w hF hS => ?_)
          · exact obs_cons (ob_call Try.func199 (by kernel_rfl) rfl (fun _ _ hS => draughts_next_w hr2 hS )) <| obs_nil
          refine seq_cut (fun a w => Fr 112 [pl 0 (.pointer (some ⟨g1, 0, none⟩)), pl 1 (.slice A3 way1.length c3), pl 2 (.int .i64 piece1), pl 3 (.slice A4 over1.length c4), pl 8 (.int .i64 (geti way1 (w64 ((way1.length : Int) - 1)))), pl 9 (.bool on1), pl 11 (.int .i64 (geti r1 z1)), pl 12 (.int .i64 r2), pl 23 (.slice A6 r1.length c6), pl 24 (.int .i64 (r1.length : Int)), pl 25 (.int .i64 z1)] a ∧ Sep w0 B w (blk g1 169 #[.slice A1 p_b1.length c1, .int .i64 p_sign1, .slice A7 p2.length c7] :: own 3 (.slice A1 p_b1.length c1) (vI p_b1) :: rows 22 3 (.slice A7 p2.length c7) hd3 p2 :: own 3 (.slice A3 way1.length c3) (vI way1) :: own 3 (.slice A6 r1.length c6) (vI r1) :: fs) ∧ ((draughts_play_jumps_2_J5 rec_draughts_play_jumps_2 p_b1 p_sign1 way1 piece1 over1 r1 p2 on1 z1 r2)).bind φ1 = some r) ?_ ?_
          · rintro a w ⟨hF, hS, hm⟩
            unfold draughts_play_jumps_2_J5 at hm
            obtain ⟨r5, hr5, hm⟩ := call_b hm
            refine reg [⟨false, [], callFunc 199 #[.int .i64 r2, .int .i64 (geti r1 z1)], .int .i64 r5⟩] [none, none, some (.int .i64 r5), none] [0, 1, 2, 3, 8, 9, 12, 13, 23, 24, 25] [pl 0 (.pointer (some ⟨g1, 0, none⟩)), pl 1 (.slice A3 way1.length c3), pl 2 (.int .i64 piece1), pl 3 (.slice A4 over1.length c4), pl 8 (.int .i64 (geti way1 (w64 ((way1.length : Int) - 1)))), pl 9 (.bool on1), pl 12 (.int .i64 r2), pl 13 (.int .i64 r5), pl 23 (.slice A6 r1.length c6), pl 24 (.int .i64 (r1.length : Int)), pl 25 (.int .i64 z1)] hF hS Fol (by kernel_rfl) (by kernel_rfl) (by kernel_rfl) ?_ (fun a w hF hS => ?_)
            · exact obs_cons (ob_call Try.func199 (by kernel_rfl) rfl (fun _ _ hS => draughts_next_w hr5 hS )) <| obs_nil
            refine seq_cut (fun a w => Fr 112 [pl 0 (.pointer (some ⟨g1, 0, none⟩)), pl 1 (.slice A3 way1.length c3), pl 2 (.int .i64 piece1), pl 3 (.slice A4 over1.length c4), pl 8 (.int .i64 (geti way1 (w64 ((way1.length : Int) - 1)))), pl 12 (.int .i64 r2), pl 13 (.int .i64 r5), pl 23 (.slice A6 r1.length c6), pl 24 (.int .i64 (r1.length : Int)), pl 25 (.int .i64 z1)] a ∧ Sep w0 B w (blk g1 169 #[.slice A1 p_b1.length c1, .int .i64 p_sign1, .slice A7 p2.length c7] :: own 3 (.slice A1 p_b1.length c1) (vI p_b1) :: rows 22 3 (.slice A7 p2.length c7) hd3 p2 :: own 3 (.slice A3 way1.length c3) (vI way1) :: own 3 (.slice A6 r1.length c6) (vI r1) :: fs) ∧ ((draughts_play_jumps_2_J6 rec_draughts_play_jumps_2 p_b1 p_sign1 way1 piece1 over1 p2 z1 r2 r5)).bind φ1 = some r) ?_ ?_
            · rintro a w ⟨hF, hS, hm⟩
              unfold draughts_play_jumps_2_J6 at hm
              refine reg [] [] [0, 1, 2, 3, 8, 9, 12, 13, 23, 24, 25] [pl 0 (.pointer (some ⟨g1, 0, none⟩)), pl 1 (.slice A3 way1.length c3), pl 2 (.int .i64 piece1), pl 3 (.slice A4 over1.length c4), pl 8 (.int .i64 (geti way1 (w64 ((way1.length : Int) - 1)))), pl 9 (.bool true), pl 12 (.int .i64 r2), pl 13 (.int .i64 r5), pl 23 (.slice A6 r1.length c6), pl 24 (.int .i64 (r1.length : Int)), pl 25 (.int .i64 z1)] hF hS Fol (by kernel_rfl) (by kernel_rfl) (by kernel_rfl) ?_ (fun a w hF hS => ?_)
              · exact obs_nil
              refine seqR ?_
              obtain ⟨r7, hr7, hm⟩ := call_b hm
              obtain ⟨hp4, hm⟩ := asrt_b hm
              refine at_run 1 [] [] [0, 1, 2, 3, 8, 9, 12, 13, 23, 24, 25, 63] [pl 0 (.pointer (some ⟨g1, 0, none⟩)), pl 1 (.slice A3 way1.length c3), pl 2 (.int .i64 piece1), pl 3 (.slice A4 over1.length c4), pl 8 (.int .i64 (geti way1 (w64 ((way1.length : Int) - 1)))), pl 9 (.bool true), pl 12 (.int .i64 r2), pl 13 (.int .i64 r5), pl 23 (.slice A6 r1.length c6), pl 24 (.int .i64 (r1.length : Int)), pl 25 (.int .i64 z1), pl 63 (.slice A3 way1.length c3)] hF hS (by kernel_rfl) (by kernel_rfl) ?_ (fun a w hF hS => ?_)
              · exact obs_nil
              refine at_call (f := 81) (args := #[.slice A3 way1.length c3]) (d := 64) hF (by kernel_rfl) (by kernel_rfl) Try.func81 (by kernel_rfl) rfl (slices_Clone_w hr7 hS (fun _ hS => (hS.at_ 3 rfl).rd) ((hS.at_ 3 rfl).cap1) rfl) (fun v a w hR hF => ?_)
              clear hS
              obtain ⟨A10, c10, rfl, hS⟩ := hR
              have hS : Sep w0 B w (own 3 (.slice A10 r7.length c10) (vI r7) :: blk g1 169 #[.slice A1 p_b1.length c1, .int .i64 p_sign1, .slice A7 p2.length c7] :: own 3 (.slice A1 p_b1.length c1) (vI p_b1) :: rows 22 3 (.slice A7 p2.length c7) hd3 p2 :: own 3 (.slice A3 way1.length c3) (vI way1) :: own 3 (.slice A6 r1.length c6) (vI r1) :: fs) := hS
              refine at_run 1 [] [] [0, 1, 2, 3, 8, 9, 12, 13, 23, 24, 25, 64, 65] [pl 0 (.pointer (some ⟨g1, 0, none⟩)), pl 1 (.slice A3 way1.length c3), pl 2 (.int .i64 piece1), pl 3 (.slice A4 over1.length c4), pl 8 (.int .i64 (geti way1 (w64 ((way1.length : Int) - 1)))), pl 9 (.bool true), pl 12 (.int .i64 r2), pl 13 (.int .i64 r5), pl 23 (.slice A6 r1.length c6), pl 24 (.int .i64 (r1.length : Int)), pl 25 (.int .i64 z1), pl 64 (.slice A10 r7.length c10), pl 65 (.int .i64 r5)] hF hS (by kernel_rfl) (by kernel_rfl) ?_ (fun a w hF hS => ?_)
              · exact obs_nil
              refine at_do (d := 66) (s := vS (Instr.buildSlice 22 1 #[(0, .int .i64 r5)])) (v := .slice (some ⟨w.heap.size, 0, none⟩) 1 1) (w' := w.alloc (.cells #[.int .i64 r5] 3)) hF (by kernel_rfl) (by kernel_rfl) (by kernel_rfl) (fun a hF => ?_)
              have hS : Sep w0 B (w.alloc (.cells #[.int .i64 r5] 3)) (own 3 (.slice (some (⟨w.heap.size, 0, none⟩ : Addr)) 1 1) (vI ([r5] : List Int)) :: (own 3 (.slice A10 r7.length c10) (vI r7) :: blk g1 169 #[.slice A1 p_b1.length c1, .int .i64 p_sign1, .slice A7 p2.length c7] :: own 3 (.slice A1 p_b1.length c1) (vI p_b1) :: rows 22 3 (.slice A7 p2.length c7) hd3 p2 :: own 3 (.slice A3 way1.length c3) (vI way1) :: own 3 (.slice A6 r1.length c6) (vI r1) :: fs)) := hS.lit 3 #[.int .i64 r5] 1 rfl (by omega)
              generalize (some (⟨w.heap.size, 0, none⟩ : Addr)) = g2 at hF hS
              generalize w.alloc (.cells #[.int .i64 r5] 3) = w at hS ⊢
              obtain ⟨A11, c11, w, hrun, hS⟩ := run_app1 (P := Try.prog) (t := 22) (m := r7) (ys := ([r5] : List Int)) (A2 := g2) (m2 := 1) (c2 := 1) (Value.int .i64) (0 : Int) (hS.at_ 1 rfl) (hS.at_ 0 rfl).rd ((hS.at_ 0 rfl).len1) 22 Und22 hi3 hz3 hs3 (by omega) rfl (fun _ => rfl) hp4
              have hS : Sep w0 B w (own 3 (.slice g2 1 1) (vI ([r5] : List Int)) :: own 3 (.slice A11 ((r7 ++ ([r5] : List Int)).length) c11) (vI (r7 ++ ([r5] : List Int))) :: blk g1 169 #[.slice A1 p_b1.length c1, .int .i64 p_sign1, .slice A7 p2.length c7] :: own 3 (.slice A1 p_b1.length c1) (vI p_b1) :: rows 22 3 (.slice A7 p2.length c7) hd3 p2 :: own 3 (.slice A3 way1.length c3) (vI way1) :: own 3 (.slice A6 r1.length c6) (vI r1) :: fs) := hS
              refine at_do (d := 67) hF (by kernel_rfl) (by kernel_rfl) hrun (fun a hF => ?_)
              refine at_run 1 [] [] [0, 1, 2, 3, 8, 9, 12, 13, 14, 23, 24, 25] [pl 0 (.pointer (some ⟨g1, 0, none⟩)), pl 1 (.slice A3 way1.length c3), pl 2 (.int .i64 piece1), pl 3 (.slice A4 over1.length c4), pl 8 (.int .i64 (geti way1 (w64 ((way1.length : Int) - 1)))), pl 9 (.bool true), pl 12 (.int .i64 r2), pl 13 (.int .i64 r5), pl 14 (.slice A11 ((r7 ++ ([r5] : List Int)).length) c11), pl 23 (.slice A6 r1.length c6), pl 24 (.int .i64 (r1.length : Int)), pl 25 (.int .i64 z1)] hF hS (by kernel_rfl) (by kernel_rfl) ?_ (fun a w hF hS => ?_)
              · exact obs_nil
              refine at_end [0, 1, 2, 3, 8, 9, 12, 13, 14, 23, 24, 25] [pl 0 (.pointer (some ⟨g1, 0, none⟩)), pl 1 (.slice A3 way1.length c3), pl 2 (.int .i64 piece1), pl 3 (.slice A4 over1.length c4), pl 8 (.int .i64 (geti way1 (w64 ((way1.length : Int) - 1)))), pl 9 (.bool true), pl 12 (.int .i64 r2), pl 13 (.int .i64 r5), pl 14 (.slice A11 ((r7 ++ ([r5] : List Int)).length) c11), pl 23 (.slice A6 r1.length c6), pl 24 (.int .i64 (r1.length : Int)), pl 25 (.int .i64 z1)] hF rfl (by kernel_rfl) (fun hF => ?_)
              refine then_n ?_
              refine seq_cut (fun a w => Fr 112 [pl 0 (.pointer (some ⟨g1, 0, none⟩)), pl 1 (.slice A3 way1.length c3), pl 2 (.int .i64 piece1), pl 3 (.slice A4 over1.length c4), pl 8 (.int .i64 (geti way1 (w64 ((way1.length : Int) - 1)))), pl 9 (.bool true), pl 12 (.int .i64 r2), pl 14 (.slice A11 ((r7 ++ ([r5] : List Int)).length) c11), pl 23 (.slice A6 r1.length c6), pl 24 (.int .i64 (r1.length : Int)), pl 25 (.int .i64 z1)] a ∧ Sep w0 B w (blk g1 169 #[.slice A1 p_b1.length c1, .int .i64 p_sign1, .slice A7 p2.length c7] :: own 3 (.slice A1 p_b1.length c1) (vI p_b1) :: rows 22 3 (.slice A7 p2.length c7) hd3 p2 :: own 3 (.slice A3 way1.length c3) (vI way1) :: own 3 (.slice A11 ((r7 ++ ([r5] : List Int)).length) c11) (vI (r7 ++ ([r5] : List Int))) :: own 3 (.slice A6 r1.length c6) (vI r1) :: fs) ∧ ((draughts_play_jumps_2_J7 rec_draughts_play_jumps_2 p_b1 p_sign1 piece1 over1 p2 z1 r2 r5 r7)).bind φ1 = some r) ?_ ?_
              · rintro a w ⟨hF, hS, hm⟩
                unfold draughts_play_jumps_2_J7 at hm
                refine oneR ?_
                obtain ⟨r9, hr9, hm⟩ := call_b hm
                obtain ⟨hp6, hm⟩ := asrt_b hm
                obtain ⟨r10, hr10, hm⟩ := call_b hm
                refine at_run 4 [] [] [0, 1, 2, 3, 8, 9, 12, 23, 24, 25, 85, 86, 87, 88] [pl 0 (.pointer (some ⟨g1, 0, none⟩)), pl 1 (.slice A3 way1.length c3), pl 2 (.int .i64 piece1), pl 3 (.slice A4 over1.length c4), pl 8 (.int .i64 (geti way1 (w64 ((way1.length : Int) - 1)))), pl 9 (.bool true), pl 12 (.int .i64 r2), pl 23 (.slice A6 r1.length c6), pl 24 (.int .i64 (r1.length : Int)), pl 25 (.int .i64 z1), pl 85 (.pointer (some ⟨g1, 0, none⟩)), pl 86 (.slice A11 ((r7 ++ ([r5] : List Int)).length) c11), pl 87 (.int .i64 piece1), pl 88 (.slice A4 over1.length c4)] hF hS (by kernel_rfl) (by kernel_rfl) ?_ (fun a w hF hS => ?_)
                · exact obs_nil
                refine at_call (f := 81) (args := #[.slice A4 over1.length c4]) (d := 89) hF (by kernel_rfl) (by kernel_rfl) Try.func81 (by kernel_rfl) rfl (slices_Clone_w hr9 hS (fun _ hS => (hr_over1 _ (hS.dropN 6))) _hc_over1 rfl) (fun v a w hR hF => ?_)
                clear hS
                obtain ⟨A13, c13, rfl, hS⟩ := hR
                have hS : Sep w0 B w (own 3 (.slice A13 r9.length c13) (vI r9) :: blk g1 169 #[.slice A1 p_b1.length c1, .int .i64 p_sign1, .slice A7 p2.length c7] :: own 3 (.slice A1 p_b1.length c1) (vI p_b1) :: rows 22 3 (.slice A7 p2.length c7) hd3 p2 :: own 3 (.slice A3 way1.length c3) (vI way1) :: own 3 (.slice A11 ((r7 ++ ([r5] : List Int)).length) c11) (vI (r7 ++ ([r5] : List Int))) :: own 3 (.slice A6 r1.length c6) (vI r1) :: fs) := hS
                refine at_run 1 [] [] [0, 1, 2, 3, 8, 9, 23, 24, 25, 85, 86, 87, 89, 90] [pl 0 (.pointer (some ⟨g1, 0, none⟩)), pl 1 (.slice A3 way1.length c3), pl 2 (.int .i64 piece1), pl 3 (.slice A4 over1.length c4), pl 8 (.int .i64 (geti way1 (w64 ((way1.length : Int) - 1)))), pl 9 (.bool true), pl 23 (.slice A6 r1.length c6), pl 24 (.int .i64 (r1.length : Int)), pl 25 (.int .i64 z1), pl 85 (.pointer (some ⟨g1, 0, none⟩)), pl 86 (.slice A11 ((r7 ++ ([r5] : List Int)).length) c11), pl 87 (.int .i64 piece1), pl 89 (.slice A13 r9.length c13), pl 90 (.int .i64 r2)] hF hS (by kernel_rfl) (by kernel_rfl) ?_ (fun a w hF hS => ?_)
                · exact obs_nil
                refine at_do (d := 91) (s := vS (Instr.buildSlice 22 1 #[(0, .int .i64 r2)])) (v := .slice (some ⟨w.heap.size, 0, none⟩) 1 1) (w' := w.alloc (.cells #[.int .i64 r2] 3)) hF (by kernel_rfl) (by kernel_rfl) (by kernel_rfl) (fun a hF => ?_)
                have hS : Sep w0 B (w.alloc (.cells #[.int .i64 r2] 3)) (own 3 (.slice (some (⟨w.heap.size, 0, none⟩ : Addr)) 1 1) (vI ([r2] : List Int)) :: (own 3 (.slice A13 r9.length c13) (vI r9) :: blk g1 169 #[.slice A1 p_b1.length c1, .int .i64 p_sign1, .slice A7 p2.length c7] :: own 3 (.slice A1 p_b1.length c1) (vI p_b1) :: rows 22 3 (.slice A7 p2.length c7) hd3 p2 :: own 3 (.slice A3 way1.length c3) (vI way1) :: own 3 (.slice A11 ((r7 ++ ([r5] : List Int)).length) c11) (vI (r7 ++ ([r5] : List Int))) :: own 3 (.slice A6 r1.length c6) (vI r1) :: fs)) := hS.lit 3 #[.int .i64 r2] 1 rfl (by omega)
                generalize (some (⟨w.heap.size, 0, none⟩ : Addr)) = g4 at hF hS
                generalize w.alloc (.cells #[.int .i64 r2] 3) = w at hS ⊢
                obtain ⟨A14, c14, w, hrun, hS⟩ := run_app1 (P := Try.prog) (t := 22) (m := r9) (ys := ([r2] : List Int)) (A2 := g4) (m2 := 1) (c2 := 1) (Value.int .i64) (0 : Int) (hS.at_ 1 rfl) (hS.at_ 0 rfl).rd ((hS.at_ 0 rfl).len1) 22 Und22 hi3 hz3 hs3 (by omega) rfl (fun _ => rfl) hp6
                have hS : Sep w0 B w (own 3 (.slice g4 1 1) (vI ([r2] : List Int)) :: own 3 (.slice A14 ((r9 ++ ([r2] : List Int)).length) c14) (vI (r9 ++ ([r2] : List Int))) :: blk g1 169 #[.slice A1 p_b1.length c1, .int .i64 p_sign1, .slice A7 p2.length c7] :: own 3 (.slice A1 p_b1.length c1) (vI p_b1) :: rows 22 3 (.slice A7 p2.length c7) hd3 p2 :: own 3 (.slice A3 way1.length c3) (vI way1) :: own 3 (.slice A11 ((r7 ++ ([r5] : List Int)).length) c11) (vI (r7 ++ ([r5] : List Int))) :: own 3 (.slice A6 r1.length c6) (vI r1) :: fs) := hS
                refine at_do (d := 92) hF (by kernel_rfl) (by kernel_rfl) hrun (fun a hF => ?_)
                have hS : Sep w0 B w (blk g1 169 #[.slice A1 p_b1.length c1, .int .i64 p_sign1, .slice A7 p2.length c7] :: own 3 (.slice A1 p_b1.length c1) (vI p_b1) :: rows 22 3 (.slice A7 p2.length c7) hd3 p2 :: own 3 (.slice A11 ((r7 ++ ([r5] : List Int)).length) c11) (vI (r7 ++ ([r5] : List Int))) :: own 3 (.slice g4 1 1) (vI ([r2] : List Int)) :: own 3 (.slice A14 ((r9 ++ ([r2] : List Int)).length) c14) (vI (r9 ++ ([r2] : List Int))) :: own 3 (.slice A3 way1.length c3) (vI way1) :: own 3 (.slice A6 r1.length c6) (vI r1) :: fs) := hS.pickN 8 [2, 3, 4, 6, 0, 1, 5, 7] (by decide)
                refine at_call (f := 197) (args := #[.pointer (some ⟨g1, 0, none⟩), .slice A11 ((r7 ++ ([r5] : List Int)).length) c11, .int .i64 piece1, .slice A14 ((r9 ++ ([r2] : List Int)).length) c14]) (d := 93) hF (by kernel_rfl) (by kernel_rfl) Try.func197 (by kernel_rfl) rfl (ih_draughts_play_jumps_2 hr10 hS (fun _ hS => (hS.at_ 1 rfl).rd) (((hS.dropN 4).at_ 1 rfl).cap1) rfl) (fun v a w hR hF => ?_)
                clear hS
                obtain ⟨A15, c15, hd6, rfl, hS⟩ := hR
                have hS : Sep w0 B w (blk g1 169 #[.slice A1 p_b1.length c1, .int .i64 p_sign1, .slice A15 r10.length c15] :: own 3 (.slice A1 p_b1.length c1) (vI p_b1) :: rows 22 3 (.slice A15 r10.length c15) hd6 r10 :: own 3 (.slice g4 1 1) (vI ([r2] : List Int)) :: own 3 (.slice A14 ((r9 ++ ([r2] : List Int)).length) c14) (vI (r9 ++ ([r2] : List Int))) :: own 3 (.slice A3 way1.length c3) (vI way1) :: own 3 (.slice A6 r1.length c6) (vI r1) :: fs) := hS
                refine at_end [0, 1, 2, 3, 8, 9, 23, 24, 25] [pl 0 (.pointer (some ⟨g1, 0, none⟩)), pl 1 (.slice A3 way1.length c3), pl 2 (.int .i64 piece1), pl 3 (.slice A4 over1.length c4), pl 8 (.int .i64 (geti way1 (w64 ((way1.length : Int) - 1)))), pl 9 (.bool true), pl 23 (.slice A6 r1.length c6), pl 24 (.int .i64 (r1.length : Int)), pl 25 (.int .i64 z1)] hF rfl (by kernel_rfl) (fun hF => ?_)
                refine block_n ?_
                refine then_n ?_
                have hS := hS.pickN 7 [0, 1, 2, 5, 6] (by decide)
                exact ⟨r10, true, A15, c15, hd6, hF.weak [0, 1, 2, 3, 8, 9, 23, 24, 25] (by kernel_rfl), hS, hm⟩
              · obtain ⟨r8, hr8, hm⟩ := call_b hm
                refine reg [⟨false, [((piece1 == 1), true)], callFunc 203 #[.pointer (some ⟨g1, 0, none⟩), .int .i64 r5], .bool r8⟩] [none, none, none, none, none, some (.bool r8), none] [0, 1, 2, 3, 8, 9, 12, 14, 23, 24, 25, 74] [pl 0 (.pointer (some ⟨g1, 0, none⟩)), pl 1 (.slice A3 way1.length c3), pl 2 (.int .i64 piece1), pl 3 (.slice A4 over1.length c4), pl 8 (.int .i64 (geti way1 (w64 ((way1.length : Int) - 1)))), pl 9 (.bool true), pl 12 (.int .i64 r2), pl 14 (.slice A11 ((r7 ++ ([r5] : List Int)).length) c11), pl 23 (.slice A6 r1.length c6), pl 24 (.int .i64 (r1.length : Int)), pl 25 (.int .i64 z1), pl 74 (.bool ((piece1 == 1) && r8))] hF hS Fol (by kernel_rfl) (by kernel_rfl) (by kernel_rfl) ?_ (fun a w hF hS => ?_)
                · exact obs_cons (ob_call Try.func203 (by kernel_rfl) rfl (fun hy _ hS => quiet_pick hS 7 [2, 3, 4, 0, 1, 5, 6] (by decide) [3, 4, 0, 1, 2, 5, 6] (by decide) (qs := (blk g1 169 #[.slice A1 p_b1.length c1, .int .i64 p_sign1, .slice A7 p2.length c7] :: own 3 (.slice A1 p_b1.length c1) (vI p_b1) :: rows 22 3 (.slice A7 p2.length c7) hd3 p2 :: own 3 (.slice g2 1 1) (vI ([r5] : List Int)) :: own 3 (.slice A11 ((r7 ++ ([r5] : List Int)).length) c11) (vI (r7 ++ ([r5] : List Int))) :: own 3 (.slice A3 way1.length c3) (vI way1) :: own 3 (.slice A6 r1.length c6) (vI r1) :: fs)) rfl (fun hS => draughts_play_last_w (ite_some hr8 (by rw [show (piece1 == 1) = true from hy ((piece1 == 1), true) (by simp)]; try rfl)) hS ) 7 rfl)) <| obs_nil
                refine cond_ev (t := 74) (b := (piece1 == 1) && r8) hF (by kernel_rfl) (fun hb => ?_) (fun hb => ?_)
                · replace hm := if_t hm hb
                  refine seqR ?_
                  obtain ⟨hp5, hm⟩ := asrt_b hm
                  refine at_run 6 [⟨false, [], vS (Instr.loadAt 42 (.pointer (some ⟨g1, 2, none⟩))), .slice A7 p2.length c7⟩] [none, none, none, none, some (.slice A7 p2.length c7), none] [0, 1, 2, 3, 8, 9, 23, 24, 25, 75, 79, 80] [pl 0 (.pointer (some ⟨g1, 0, none⟩)), pl 1 (.slice A3 way1.length c3), pl 2 (.int .i64 piece1), pl 3 (.slice A4 over1.length c4), pl 8 (.int .i64 (geti way1 (w64 ((way1.length : Int) - 1)))), pl 9 (.bool true), pl 23 (.slice A6 r1.length c6), pl 24 (.int .i64 (r1.length : Int)), pl 25 (.int .i64 z1), pl 75 (.pointer (some ⟨g1, 0, none⟩)), pl 79 (.slice A7 p2.length c7), pl 80 (.slice A11 ((r7 ++ ([r5] : List Int)).length) c11)] hF hS (by kernel_rfl) (by kernel_rfl) ?_ (fun a w hF hS => ?_)
                  · exact obs_cons (ob_load Agg42 (fun _ _ hS => (hS.at_ 2 rfl).cell rfl)) <| obs_nil
                  refine at_do (d := 81) (s := vS (Instr.buildSlice 42 1 #[(0, .slice A11 ((r7 ++ ([r5] : List Int)).length) c11)])) (v := .slice (some ⟨w.heap.size, 0, none⟩) 1 1) (w' := w.alloc (.cells #[.slice A11 ((r7 ++ ([r5] : List Int)).length) c11] 22)) hF (by kernel_rfl) (by kernel_rfl) (by kernel_rfl) (fun a hF => ?_)
                  have hS : Sep w0 B (w.alloc (.cells #[.slice A11 ((r7 ++ ([r5] : List Int)).length) c11] 22)) (own 22 (.slice (some (⟨w.heap.size, 0, none⟩ : Addr)) 1 1) [.slice A11 ((r7 ++ ([r5] : List Int)).length) c11] :: (own 3 (.slice g2 1 1) (vI ([r5] : List Int)) :: own 3 (.slice A11 ((r7 ++ ([r5] : List Int)).length) c11) (vI (r7 ++ ([r5] : List Int))) :: blk g1 169 #[.slice A1 p_b1.length c1, .int .i64 p_sign1, .slice A7 p2.length c7] :: own 3 (.slice A1 p_b1.length c1) (vI p_b1) :: rows 22 3 (.slice A7 p2.length c7) hd3 p2 :: own 3 (.slice A3 way1.length c3) (vI way1) :: own 3 (.slice A6 r1.length c6) (vI r1) :: fs)) := hS.lit 22 #[.slice A11 ((r7 ++ ([r5] : List Int)).length) c11] 1 rfl (by omega)
                  generalize (some (⟨w.heap.size, 0, none⟩ : Addr)) = g3 at hF hS
                  generalize w.alloc (.cells #[.slice A11 ((r7 ++ ([r5] : List Int)).length) c11] 22) = w at hS ⊢
                  have hS := hS.pickN 8 [2, 0, 1, 3, 4, 5, 6, 7] (by decide)
                  have hS : Sep w0 B w (own 3 (.slice A11 ((r7 ++ ([r5] : List Int)).length) c11) (vI (r7 ++ ([r5] : List Int))) :: own 22 (.slice g3 1 1) [.slice A11 ((r7 ++ ([r5] : List Int)).length) c11] :: own 3 (.slice g2 1 1) (vI ([r5] : List Int)) :: blk g1 169 #[.slice A1 p_b1.length c1, .int .i64 p_sign1, .slice A7 p2.length c7] :: own 3 (.slice A1 p_b1.length c1) (vI p_b1) :: rows 22 3 (.slice A7 p2.length c7) hd3 p2 :: own 3 (.slice A3 way1.length c3) (vI way1) :: own 3 (.slice A6 r1.length c6) (vI r1) :: fs) := hS
                  obtain ⟨A12, c12, w, hrun, hS⟩ := run_appRow (P := Try.prog) (t := 42) (A2 := g3) (c2 := 1) (hS.at2 4 rfl) (hS.at_ 1 rfl).rd 42 Und42 hi22 hz22 hs22 hb22 hp5
                  have hS : Sep w0 B w (own 22 (.slice g3 1 1) [.slice A11 ((r7 ++ ([r5] : List Int)).length) c11] :: own 3 (.slice g2 1 1) (vI ([r5] : List Int)) :: blk g1 169 #[.slice A1 p_b1.length c1, .int .i64 p_sign1, .slice A7 p2.length c7] :: own 3 (.slice A1 p_b1.length c1) (vI p_b1) :: rows 22 3 (.slice A12 ((p2 ++ [(r7 ++ ([r5] : List Int))]).length) c12) (hd3 ++ [(A11, c11)]) (p2 ++ [(r7 ++ ([r5] : List Int))]) :: own 3 (.slice A3 way1.length c3) (vI way1) :: own 3 (.slice A6 r1.length c6) (vI r1) :: fs) := hS
                  refine at_do (d := 82) hF (by kernel_rfl) (by kernel_rfl) hrun (fun a hF => ?_)
                  refine at_run 2 [] [] [0, 1, 2, 3, 8, 9, 23, 24, 25, 82, 84] [pl 0 (.pointer (some ⟨g1, 0, none⟩)), pl 1 (.slice A3 way1.length c3), pl 2 (.int .i64 piece1), pl 3 (.slice A4 over1.length c4), pl 8 (.int .i64 (geti way1 (w64 ((way1.length : Int) - 1)))), pl 9 (.bool true), pl 23 (.slice A6 r1.length c6), pl 24 (.int .i64 (r1.length : Int)), pl 25 (.int .i64 z1), pl 82 (.slice A12 ((p2 ++ [(r7 ++ ([r5] : List Int))]).length) c12), pl 84 (.pointer (some ⟨g1, 2, none⟩))] hF hS (by kernel_rfl) (by kernel_rfl) ?_ (fun a w hF hS => ?_)
                  · exact obs_nil
                  obtain ⟨w, hrun, hS⟩ := run_put (P := Try.prog) (t := 42) (u := .slice A12 ((p2 ++ [(r7 ++ ([r5] : List Int))]).length) c12) (i := 2) (hS.at_ 2 rfl) hi42 hs42 rfl (Nat.lt_of_lt_of_eq (Nat.lt_of_succ_le (Nat.le_of_ble_eq_true (by kernel_rfl))) rfl)
                  refine at_skip hF (by kernel_rfl) hrun ?_
                  have hS : Sep w0 B w (own 22 (.slice g3 1 1) [.slice A11 ((r7 ++ ([r5] : List Int)).length) c11] :: own 3 (.slice g2 1 1) (vI ([r5] : List Int)) :: blk g1 169 #[.slice A1 p_b1.length c1, .int .i64 p_sign1, .slice A12 ((p2 ++ [(r7 ++ ([r5] : List Int))]).length) c12] :: own 3 (.slice A1 p_b1.length c1) (vI p_b1) :: rows 22 3 (.slice A12 ((p2 ++ [(r7 ++ ([r5] : List Int))]).length) c12) (hd3 ++ [(A11, c11)]) (p2 ++ [(r7 ++ ([r5] : List Int))]) :: own 3 (.slice A3 way1.length c3) (vI way1) :: own 3 (.slice A6 r1.length c6) (vI r1) :: fs) := hS
                  refine at_end [0, 1, 2, 3, 8, 9, 23, 24, 25] [pl 0 (.pointer (some ⟨g1, 0, none⟩)), pl 1 (.slice A3 way1.length c3), pl 2 (.int .i64 piece1), pl 3 (.slice A4 over1.length c4), pl 8 (.int .i64 (geti way1 (w64 ((way1.length : Int) - 1)))), pl 9 (.bool true), pl 23 (.slice A6 r1.length c6), pl 24 (.int .i64 (r1.length : Int)), pl 25 (.int .i64 z1)] hF rfl (by kernel_rfl) (fun hF => ?_)
                  refine then_n ?_
                  refine wpIn_exit ?_
                  refine then_e (block_e (then_n ?_))
                  have hS := hS.pickN 7 [2, 3, 4, 5, 6] (by decide)
                  exact ⟨(p2 ++ [(r7 ++ ([r5] : List Int))]), true, A12, c12, (hd3 ++ [(A11, c11)]), hF.weak [0, 1, 2, 3, 8, 9, 23, 24, 25] (by kernel_rfl), hS, hm⟩
                · replace hm := if_f hm hb
                  refine wpIn_skip ?_
                  refine then_n ?_
                  have hS := hS.pickN 7 [2, 3, 4, 5, 1, 6] (by decide)
                  exact ⟨hF.weak [0, 1, 2, 3, 8, 9, 12, 14, 23, 24, 25] (by kernel_rfl), hS, hm⟩
            · obtain ⟨r6, hr6, hm⟩ := call_b hm
              obtain ⟨hp3, hm⟩ := asrt_b hm
              refine reg [⟨false, [((r5 == 0), false)], callFunc 196 #[.pointer (some ⟨g1, 0, none⟩), .int .i64 r5], .int .i64 r6⟩, ⟨true, [((r6 != 0), true), ((r5 == 0), false)], vS (Instr.indexAt 22 (.slice A3 way1.length c3) (.int .i64 0)), .pointer (some (sAddr A3 0))⟩, ⟨false, [((r6 != 0), true), ((r5 == 0), false)], vS (Instr.loadAt 3 (.pointer (some (sAddr A3 0)))), .int .i64 (geti way1 0)⟩] [none, none, none, none, none, some (.int .i64 r6), none, none, none, none, some (.pointer (some (sAddr A3 0))), some (.int .i64 (geti way1 0)), none, none, none] [0, 1, 2, 3, 8, 9, 12, 13, 23, 24, 25, 62] [pl 0 (.pointer (some ⟨g1, 0, none⟩)), pl 1 (.slice A3 way1.length c3), pl 2 (.int .i64 piece1), pl 3 (.slice A4 over1.length c4), pl 8 (.int .i64 (geti way1 (w64 ((way1.length : Int) - 1)))), pl 9 (.bool on1), pl 12 (.int .i64 r2), pl 13 (.int .i64 r5), pl 23 (.slice A6 r1.length c6), pl 24 (.int .i64 (r1.length : Int)), pl 25 (.int .i64 z1), pl 62 (.bool ((r5 == 0) || ((r6 != 0) && (r5 != (geti way1 0)))))] hF hS Fol (by kernel_rfl) (by kernel_rfl) (by kernel_rfl) ?_ (fun a w hF hS => ?_)
              · exact obs_cons (ob_call Try.func196 (by kernel_rfl) rfl (fun hy _ hS => draughts_play_at_w (ite_some hr6 (by rw [show (r5 == 0) = false from hy ((r5 == 0), false) (by simp)]; try rfl)) hS )) <| obs_cons (ob_ix1 (f := (Value.int .i64)) (m := way1) Und22 hi3 hs3 (hS.at_ 3 rfl).rd rfl (fun hy => hp3 (hy ((r6 != 0), true) (by simp)) (hy ((r5 == 0), false) (by simp)))) <| obs_cons (ob_get1 (n := way1.length) (m := way1) (Value.int .i64) (0 : Int) Agg3 (fun _ hS => ⟨_, (hS.at_ 3 rfl).rd⟩) (fun _ hS => rfl) (fun hy => hp3 (hy ((r6 != 0), true) (by simp)) (hy ((r5 == 0), false) (by simp)))) <| obs_nil
              refine cond_ev (t := 62) (b := (r5 == 0) || ((r6 != 0) && (r5 != (geti way1 0)))) hF (by kernel_rfl) (fun hb => ?_) (fun hb => ?_)
              · replace hm := if_t hm hb
                refine wpIn_exit ?_
                refine then_e (block_e (then_n ?_))
                exact ⟨p2, on1, A7, c7, hd3, hF.weak [0, 1, 2, 3, 8, 9, 23, 24, 25] (by kernel_rfl), hS, hm⟩
              · replace hm := if_f hm hb
                refine wpIn_skip ?_
                refine then_n ?_
                exact ⟨hF.weak [0, 1, 2, 3, 8, 12, 13, 23, 24, 25] (by kernel_rfl), hS, hm⟩
          · obtain ⟨r3, hr3, hm⟩ := call_b hm
            obtain ⟨r4, hr4, hm⟩ := call_b hm
            refine reg [⟨false, [((r2 == 0), false)], callFunc 196 #[.pointer (some ⟨g1, 0, none⟩), .int .i64 r2], .int .i64 r3⟩, ⟨false, [((r2 == 0) || (decide ((0 : Int) ≤ r3)), false)], callFunc 96 #[.slice A4 over1.length c4, .int .i64 r2], .bool r4⟩] [none, none, none, none, none, some (.int .i64 r3), none, none, none, none, none, some (.bool r4), none] [0, 1, 2, 3, 8, 9, 11, 12, 23, 24, 25, 44] [pl 0 (.pointer (some ⟨g1, 0, none⟩)), pl 1 (.slice A3 way1.length c3), pl 2 (.int .i64 piece1), pl 3 (.slice A4 over1.length c4), pl 8 (.int .i64 (geti way1 (w64 ((way1.length : Int) - 1)))), pl 9 (.bool on1), pl 11 (.int .i64 (geti r1 z1)), pl 12 (.int .i64 r2), pl 23 (.slice A6 r1.length c6), pl 24 (.int .i64 (r1.length : Int)), pl 25 (.int .i64 z1), pl 44 (.bool (((r2 == 0) || (decide ((0 : Int) ≤ r3))) || r4))] hF hS Fol (by kernel_rfl) (by kernel_rfl) (by kernel_rfl) ?_ (fun a w hF hS => ?_)
            · exact obs_cons (ob_call Try.func196 (by kernel_rfl) rfl (fun hy _ hS => draughts_play_at_w (ite_some hr3 (by rw [show (r2 == 0) = false from hy ((r2 == 0), false) (by simp)]; try rfl)) hS )) <| obs_cons (ob_call Try.func96 (by kernel_rfl) rfl (fun hy _ hS => slices_Contains_w (ite_some hr4 (by rw [show ((r2 == 0) || (decide ((0 : Int) ≤ r3))) = false from hy ((r2 == 0) || (decide ((0 : Int) ≤ r3)), false) (by simp)]; try rfl)) hS (fun _ hS => (hr_over1 _ (hS.dropN 5))) _hc_over1 rfl)) <| obs_nil
            refine cond_ev (t := 44) (b := ((r2 == 0) || (decide ((0 : Int) ≤ r3))) || r4) hF (by kernel_rfl) (fun hb => ?_) (fun hb => ?_)
            · replace hm := if_t hm hb
              refine wpIn_exit ?_
              refine then_e (block_e (then_n ?_))
              exact ⟨p2, on1, A7, c7, hd3, hF.weak [0, 1, 2, 3, 8, 9, 23, 24, 25] (by kernel_rfl), hS, hm⟩
            · replace hm := if_f hm hb
              refine wpIn_skip ?_
              refine then_n ?_
              exact ⟨hF.weak [0, 1, 2, 3, 8, 9, 11, 12, 23, 24, 25] (by kernel_rfl), hS, hm⟩
      · refine cond_ev (t := 26) (b := decide (z1 < (r1.length : Int))) hF (by kernel_rfl) (fun hb => ?_) (fun hb => ?_)
        · replace hm := if_t hm hb
          refine wpIn_skip ?_
          refine then_n ?_
          exact ⟨hF.weak [0, 1, 2, 3, 8, 9, 23, 24, 25] (by kernel_rfl), hS, hm⟩
        · replace hm := if_f hm hb
          refine wpIn_exit ?_
          refine then_e (then_e (block_e (then_n ?_)))
          have hS := hS.pickN 5 [0, 1, 2, 3] (by decide)
          rw [← hφ1] at hm
          replace hm := done_b hm
          unfold draughts_play_jumps_2_K1 at hm
          try dsimp only at hm
          have hm : ((draughts_play_jumps_2_J2 way1) p2 on1).bind some = some r := hm
          exact ⟨p2, on1, A7, c7, hd3, hF.weak [0, 1, 9] (by kernel_rfl), hS, hm⟩

theorem draughts_play_jumps_2_w  {g1 : Nat} {A1 : Option Addr} {c1 : Nat} {n1 : Nat} {p_b1 : List Int} {p_sign1 : Int} {A2 : Option Addr} {c2 : Nat} {n2 : Nat} {hd1 : List Hd} {p_out1 : List (List Int)} {A3 : Option Addr} {c3 : Nat} {n3 : Nat} {way1 : List Int} {piece1 : Int} {A4 : Option Addr} {c4 : Nat} {n4 : Nat} {over1 : List Int} {r : (List (List Int))} {w0 w : World} {B : Nat} {fs : List HP} (hm : draughts_play_jumps_2_m p_b1 p_sign1 p_out1 way1 piece1 over1 = some r) (hS : Sep w0 B w (blk g1 169 #[.slice A1 n1 c1, .int .i64 p_sign1, .slice A2 n2 c2] :: own 3 (.slice A1 n1 c1) (vI p_b1) :: rows 22 3 (.slice A2 n2 c2) hd1 p_out1 :: own 3 (.slice A3 n3 c3) (vI way1) :: fs)) (hr_over1 : RdF w0 B fs A4 (vI over1)) (_hc_over1 : over1.length ≤ c4) (_hn_over1 : n4 = over1.length) :
    Calls Try.prog 197 #[.pointer (some ⟨g1, 0, none⟩), .slice A3 n3 c3, .int .i64 piece1, .slice A4 n4 c4] w fun e w' => ∃ v, e = .returned v ∧ ∃ (A5 : Option Addr) (c5 : Nat) (hd2 : List Hd), v = .tuple #[] ∧ Sep w0 B w' (blk g1 169 #[.slice A1 n1 c1, .int .i64 p_sign1, .slice A5 r.length c5] :: own 3 (.slice A1 n1 c1) (vI p_b1) :: rows 22 3 (.slice A5 r.length c5) hd2 r :: fs) := by
  have key : ∀ (n : Nat) {g1 : Nat} {A1 : Option Addr} {c1 : Nat} {n1 : Nat} {p_b1 : List Int} {p_sign1 : Int} {A2 : Option Addr} {c2 : Nat} {n2 : Nat} {hd1 : List Hd} {p_out1 : List (List Int)} {A3 : Option Addr} {c3 : Nat} {n3 : Nat} {way1 : List Int} {piece1 : Int} {A4 : Option Addr} {c4 : Nat} {n4 : Nat} {over1 : List Int} {r : (List (List Int))} {w0 w : World} {B : Nat} {fs : List HP} (_ : draughts_play_jumps_2_mF n p_b1 p_sign1 p_out1 way1 piece1 over1 = some r) (_ : Sep w0 B w (blk g1 169 #[.slice A1 n1 c1, .int .i64 p_sign1, .slice A2 n2 c2] :: own 3 (.slice A1 n1 c1) (vI p_b1) :: rows 22 3 (.slice A2 n2 c2) hd1 p_out1 :: own 3 (.slice A3 n3 c3) (vI way1) :: fs)) (hr_over1 : RdF w0 B fs A4 (vI over1)) (_hc_over1 : over1.length ≤ c4) (_hn_over1 : n4 = over1.length), Calls Try.prog 197 #[.pointer (some ⟨g1, 0, none⟩), .slice A3 n3 c3, .int .i64 piece1, .slice A4 n4 c4] w fun e w' => ∃ v, e = .returned v ∧ ∃ (A5 : Option Addr) (c5 : Nat) (hd2 : List Hd), v = .tuple #[] ∧ Sep w0 B w' (blk g1 169 #[.slice A1 n1 c1, .int .i64 p_sign1, .slice A5 r.length c5] :: own 3 (.slice A1 n1 c1) (vI p_b1) :: rows 22 3 (.slice A5 r.length c5) hd2 r :: fs) := by
    intro n
    induction n with
    | zero => intros; rename_i hm0 _ _ _ _; cases hm0
    | succ n ih => intros; rename_i hm0 hS0 h0 h1 h2; exact draughts_play_jumps_2_wB (rec_draughts_play_jumps_2 := draughts_play_jumps_2_mF n) (fun hm hS h0 h1 h2 => ih hm hS h0 h1 h2) hm0 hS0 h0 h1 h2
  obtain ⟨n, hn⟩ := recM_some hm
  exact key n hn hS hr_over1 _hc_over1 _hn_over1

set_option maxRecDepth 100000 in
theorem draughts_play_jumps_2_J7_le_draughts_play_jumps_2 {rec_draughts_play_jumps_21 rec_draughts_play_jumps_22 : List Int → Int → List (List Int) → List Int → Int → List Int → Option (List (List Int))} (h_rec_draughts_play_jumps_2 : ∀ a0 a1 a2 a3 a4 a5, Le (rec_draughts_play_jumps_21 a0 a1 a2 a3 a4 a5) (rec_draughts_play_jumps_22 a0 a1 a2 a3 a4 a5)) (p_b1 : List Int) (p_sign1 : Int) (piece1 : Int) (over1 : List Int) (p2 : List (List Int)) (z1 : Int) (r2 : Int) (r5 : Int) (r7 : (List Int)) : Le (draughts_play_jumps_2_J7 rec_draughts_play_jumps_21 p_b1 p_sign1 piece1 over1 p2 z1 r2 r5 r7) (draughts_play_jumps_2_J7 rec_draughts_play_jumps_22 p_b1 p_sign1 piece1 over1 p2 z1 r2 r5 r7) := by
  unfold draughts_play_jumps_2_J7
  repeat' (first | with_reducible exact Le.refl _ | with_reducible exact h_rec_draughts_play_jumps_2 _ _ _ _ _ _ | with_reducible refine Le.asrt ?_ | with_reducible refine Le.ite ?_ ?_ | refine Le.bind ?_ (fun _ => ?_) | refine Le.loop2 (fun _ => ?_) | refine Le.elim2 (fun _ => ?_) (fun _ => ?_))

set_option maxRecDepth 100000 in
theorem draughts_play_jumps_2_J6_le_draughts_play_jumps_2 {rec_draughts_play_jumps_21 rec_draughts_play_jumps_22 : List Int → Int → List (List Int) → List Int → Int → List Int → Option (List (List Int))} (h_rec_draughts_play_jumps_2 : ∀ a0 a1 a2 a3 a4 a5, Le (rec_draughts_play_jumps_21 a0 a1 a2 a3 a4 a5) (rec_draughts_play_jumps_22 a0 a1 a2 a3 a4 a5)) (p_b1 : List Int) (p_sign1 : Int) (way1 : List Int) (piece1 : Int) (over1 : List Int) (p2 : List (List Int)) (z1 : Int) (r2 : Int) (r5 : Int) : Le (draughts_play_jumps_2_J6 rec_draughts_play_jumps_21 p_b1 p_sign1 way1 piece1 over1 p2 z1 r2 r5) (draughts_play_jumps_2_J6 rec_draughts_play_jumps_22 p_b1 p_sign1 way1 piece1 over1 p2 z1 r2 r5) := by
  unfold draughts_play_jumps_2_J6
  repeat' (first | with_reducible exact Le.refl _ | with_reducible exact h_rec_draughts_play_jumps_2 _ _ _ _ _ _ | with_reducible exact draughts_play_jumps_2_J7_le_draughts_play_jumps_2 h_rec_draughts_play_jumps_2 _ _ _ _ _ _ _ _ _ | with_reducible refine Le.asrt ?_ | with_reducible refine Le.ite ?_ ?_ | refine Le.bind ?_ (fun _ => ?_) | refine Le.loop2 (fun _ => ?_) | refine Le.elim2 (fun _ => ?_) (fun _ => ?_))

set_option maxRecDepth 100000 in
theorem draughts_play_jumps_2_J5_le_draughts_play_jumps_2 {rec_draughts_play_jumps_21 rec_draughts_play_jumps_22 : List Int → Int → List (List Int) → List Int → Int → List Int → Option (List (List Int))} (h_rec_draughts_play_jumps_2 : ∀ a0 a1 a2 a3 a4 a5, Le (rec_draughts_play_jumps_21 a0 a1 a2 a3 a4 a5) (rec_draughts_play_jumps_22 a0 a1 a2 a3 a4 a5)) (p_b1 : List Int) (p_sign1 : Int) (way1 : List Int) (piece1 : Int) (over1 : List Int) (r1 : (List Int)) (p2 : List (List Int)) (on1 : Bool) (z1 : Int) (r2 : Int) : Le (draughts_play_jumps_2_J5 rec_draughts_play_jumps_21 p_b1 p_sign1 way1 piece1 over1 r1 p2 on1 z1 r2) (draughts_play_jumps_2_J5 rec_draughts_play_jumps_22 p_b1 p_sign1 way1 piece1 over1 r1 p2 on1 z1 r2) := by
  unfold draughts_play_jumps_2_J5
  repeat' (first | with_reducible exact Le.refl _ | with_reducible exact h_rec_draughts_play_jumps_2 _ _ _ _ _ _ | with_reducible exact draughts_play_jumps_2_J6_le_draughts_play_jumps_2 h_rec_draughts_play_jumps_2 _ _ _ _ _ _ _ _ _ | with_reducible refine Le.asrt ?_ | with_reducible refine Le.ite ?_ ?_ | refine Le.bind ?_ (fun _ => ?_) | refine Le.loop2 (fun _ => ?_) | refine Le.elim2 (fun _ => ?_) (fun _ => ?_))

set_option maxRecDepth 100000 in
theorem draughts_play_jumps_2_J3_le_draughts_play_jumps_2 {rec_draughts_play_jumps_21 rec_draughts_play_jumps_22 : List Int → Int → List (List Int) → List Int → Int → List Int → Option (List (List Int))} (h_rec_draughts_play_jumps_2 : ∀ a0 a1 a2 a3 a4 a5, Le (rec_draughts_play_jumps_21 a0 a1 a2 a3 a4 a5) (rec_draughts_play_jumps_22 a0 a1 a2 a3 a4 a5)) (p_b1 : List Int) (p_sign1 : Int) (way1 : List Int) (piece1 : Int) (over1 : List Int) (r1 : (List Int)) (p2 : List (List Int)) (on1 : Bool) (z1 : Int) : Le (draughts_play_jumps_2_J3 rec_draughts_play_jumps_21 p_b1 p_sign1 way1 piece1 over1 r1 p2 on1 z1) (draughts_play_jumps_2_J3 rec_draughts_play_jumps_22 p_b1 p_sign1 way1 piece1 over1 r1 p2 on1 z1) := by
  unfold draughts_play_jumps_2_J3
  repeat' (first | with_reducible exact Le.refl _ | with_reducible exact h_rec_draughts_play_jumps_2 _ _ _ _ _ _ | with_reducible exact draughts_play_jumps_2_J5_le_draughts_play_jumps_2 h_rec_draughts_play_jumps_2 _ _ _ _ _ _ _ _ _ _ | with_reducible refine Le.asrt ?_ | with_reducible refine Le.ite ?_ ?_ | refine Le.bind ?_ (fun _ => ?_) | refine Le.loop2 (fun _ => ?_) | refine Le.elim2 (fun _ => ?_) (fun _ => ?_))

set_option maxRecDepth 100000 in
theorem draughts_play_jumps_2_L1_le_draughts_play_jumps_2 {rec_draughts_play_jumps_21 rec_draughts_play_jumps_22 : List Int → Int → List (List Int) → List Int → Int → List Int → Option (List (List Int))} (h_rec_draughts_play_jumps_2 : ∀ a0 a1 a2 a3 a4 a5, Le (rec_draughts_play_jumps_21 a0 a1 a2 a3 a4 a5) (rec_draughts_play_jumps_22 a0 a1 a2 a3 a4 a5)) (p_b1 : List Int) (p_sign1 : Int) (way1 : List Int) (piece1 : Int) (over1 : List Int) (r1 : (List Int)) (x : (List (List Int) × Bool × Int)) : Le (draughts_play_jumps_2_L1 rec_draughts_play_jumps_21 p_b1 p_sign1 way1 piece1 over1 r1 x) (draughts_play_jumps_2_L1 rec_draughts_play_jumps_22 p_b1 p_sign1 way1 piece1 over1 r1 x) := by
  rcases x with ⟨p2, on1, z1⟩
  all_goals
    unfold draughts_play_jumps_2_L1
    try dsimp only
    repeat' (first | with_reducible exact Le.refl _ | with_reducible exact h_rec_draughts_play_jumps_2 _ _ _ _ _ _ | with_reducible exact draughts_play_jumps_2_J3_le_draughts_play_jumps_2 h_rec_draughts_play_jumps_2 _ _ _ _ _ _ _ _ _ | with_reducible refine Le.asrt ?_ | with_reducible refine Le.ite ?_ ?_ | refine Le.bind ?_ (fun _ => ?_) | refine Le.loop2 (fun _ => ?_) | refine Le.elim2 (fun _ => ?_) (fun _ => ?_))

set_option maxRecDepth 100000 in
theorem draughts_play_jumps_2_B_le {rec_draughts_play_jumps_21 rec_draughts_play_jumps_22 : List Int → Int → List (List Int) → List Int → Int → List Int → Option (List (List Int))} (h_rec_draughts_play_jumps_2 : ∀ a0 a1 a2 a3 a4 a5, Le (rec_draughts_play_jumps_21 a0 a1 a2 a3 a4 a5) (rec_draughts_play_jumps_22 a0 a1 a2 a3 a4 a5)) (p_b1 : List Int) (p_sign1 : Int) (p_out1 : List (List Int)) (way1 : List Int) (piece1 : Int) (over1 : List Int) : Le (draughts_play_jumps_2_B rec_draughts_play_jumps_21 p_b1 p_sign1 p_out1 way1 piece1 over1) (draughts_play_jumps_2_B rec_draughts_play_jumps_22 p_b1 p_sign1 p_out1 way1 piece1 over1) := by
  unfold draughts_play_jumps_2_B
  repeat' (first | with_reducible exact Le.refl _ | with_reducible exact h_rec_draughts_play_jumps_2 _ _ _ _ _ _ | with_reducible exact draughts_play_jumps_2_L1_le_draughts_play_jumps_2 h_rec_draughts_play_jumps_2 _ _ _ _ _ _ _ | with_reducible refine Le.asrt ?_ | with_reducible refine Le.ite ?_ ?_ | refine Le.bind ?_ (fun _ => ?_) | refine Le.loop2 (fun _ => ?_) | refine Le.elim2 (fun _ => ?_) (fun _ => ?_))

set_option maxRecDepth 100000 in
theorem draughts_play_jumps_2_mF_le : ∀ (n : Nat) (p_b1 : List Int) (p_sign1 : Int) (p_out1 : List (List Int)) (way1 : List Int) (piece1 : Int) (over1 : List Int), Le (draughts_play_jumps_2_mF n p_b1 p_sign1 p_out1 way1 piece1 over1) (draughts_play_jumps_2_mF (n + 1) p_b1 p_sign1 p_out1 way1 piece1 over1)
  | 0, _, _, _, _, _, _ => fun _ h => by cases h
  | n + 1, _, _, _, _, _, _ => draughts_play_jumps_2_B_le (fun a0 a1 a2 a3 a4 a5 => draughts_play_jumps_2_mF_le n a0 a1 a2 a3 a4 a5) _ _ _ _ _ _

set_option maxRecDepth 100000 in
theorem draughts_play_jumps_2_m_of (N : Nat) (p_b1 : List Int) (p_sign1 : Int) (p_out1 : List (List Int)) (way1 : List Int) (piece1 : Int) (over1 : List Int) {r : (List (List Int))} (h : draughts_play_jumps_2_mF N p_b1 p_sign1 p_out1 way1 piece1 over1 = some r) : draughts_play_jumps_2_m p_b1 p_sign1 p_out1 way1 piece1 over1 = some r :=
  recM_mono (fun n => draughts_play_jumps_2_mF_le n _ _ _ _ _ _) h

noncomputable def slices_SortFunc_2_m (x1 : List (List Int)) : Option (List (List Int)) :=
  asrt ((x1.length : Int) ≤ bigN) <| some (sortK cmpL x1)

theorem slices_SortFunc_2_w {A1 : Option Addr} {c1 : Nat} {n1 : Nat} {hd1 : List Hd} {x1 : List (List Int)} {r : (List (List Int))} {w0 w : World} {B : Nat} {fs : List HP} (hm : slices_SortFunc_2_m x1 = some r) (hS : Sep w0 B w (rows 22 3 (.slice A1 n1 c1) hd1 x1 :: fs)) :
    Calls Try.prog 132 #[.slice A1 n1 c1, .func (.func 133) #[] #[]] w fun e w' => ∃ v, e = .returned v ∧ ∃ (hd2 : List Hd), v = .tuple #[] ∧ Sep w0 B w' (rows 22 3 (.slice A1 n1 c1) hd2 r :: fs) := by
  unfold slices_SortFunc_2_m at hm
  obtain ⟨hb, hm⟩ := asrt_b (start_b hm)
  obtain rfl := Option.some.inj hm
  exact sortR_own SortRL SortRE SortRC hS hb

noncomputable def slices_CompactFunc_2_m (s1 : List (List Int)) : Option (List (List Int)) :=
  asrt ((s1.length : Int) ≤ bigN) <| some (compR s1)

theorem slices_CompactFunc_2_w {A1 : Option Addr} {c1 : Nat} {n1 : Nat} {hd1 : List Hd} {s1 : List (List Int)} {r : (List (List Int))} {w0 w : World} {B : Nat} {fs : List HP} (hm : slices_CompactFunc_2_m s1 = some r) (hS : Sep w0 B w (rows 22 3 (.slice A1 n1 c1) hd1 s1 :: fs)) :
    Calls Try.prog 134 #[.slice A1 n1 c1, .func (.func 126) #[] #[]] w fun e w' => ∃ v, e = .returned v ∧ ∃ (A2 : Option Addr) (c2 : Nat) (hd2 : List Hd), v = .slice A2 r.length c2 ∧ Sep w0 B w' (rows 22 3 (.slice A2 r.length c2) hd2 r :: fs) := by
  unfold slices_CompactFunc_2_m at hm
  obtain ⟨hb, hm⟩ := asrt_b (start_b hm)
  obtain rfl := Option.some.inj hm
  exact compR_own hS hb

noncomputable def draughts_play_moves_J3  (place1 : Int) (p3 : List (List Int)) : Option (St (List (List Int) × Int) (List (List Int))) :=
  some (.next (p3, (w64 (place1 + 1))))

noncomputable def draughts_play_moves_J2  (p_b1 : List Int) (p_sign1 : Int) (p1 : List (List Int)) (place1 : Int) : Option (St (List (List Int) × Int) (List (List Int))) :=
  (draughts_play_at_m p_b1 p_sign1 p1 place1).bind fun r1 => if (decide ((0 : Int) < r1)) then ((draughts_play_at_m p_b1 p_sign1 p1 place1).bind fun r2 => (draughts_play_jumps_2_m p_b1 p_sign1 p1 ([place1] : List Int) r2 ([] : List Int)).bind fun r3 => (draughts_play_moves_J3 place1) r3) else ((draughts_play_moves_J3 place1) p1)

noncomputable def draughts_play_moves_J8  (z1 : Int) (p8 : List (List Int)) : Option (St (List (List Int) × Int) (List (List Int))) :=
  some (.next (p8, (w64 (z1 + 1))))

noncomputable def draughts_play_moves_J7  (p_b1 : List Int) (p_sign1 : Int) (place2 : Int) (r5 : (List Int)) (p6 : List (List Int)) (z1 : Int) : Option (St (List (List Int) × Int) (List (List Int))) :=
  asrt (0 ≤ z1 ∧ z1 < (r5.length : Int)) <| (draughts_next_m place2 (geti r5 z1)).bind fun r6 => ((if (decide ((0 : Int) < r6)) then draughts_play_at_m p_b1 p_sign1 p6 r6 else some 0)).bind fun r7 => if ((decide ((0 : Int) < r6)) && (r7 == 0)) then (asrt (((p6.length : Int) : Int) + 1 ≤ bigR) <| (draughts_play_moves_J8 z1) (p6 ++ [([place2, r6] : List Int)])) else ((draughts_play_moves_J8 z1) p6)

noncomputable def draughts_play_moves_L3  (p_b1 : List Int) (p_sign1 : Int) (place2 : Int) (r5 : (List Int)) : (List (List Int) × Int) → Option (St (List (List Int) × Int) (List (List Int))) :=
  fun (x : (List (List Int) × Int)) => match x with | (p6, z1) => if (decide (z1 < (r5.length : Int))) then ((draughts_play_moves_J7 p_b1 p_sign1 place2 r5 p6 z1)) else (some (.done p6))

noncomputable def draughts_play_moves_J6  (place2 : Int) (p7 : List (List Int)) : Option (St (List (List Int) × Int) (List (List Int))) :=
  some (.next (p7, (w64 (place2 + 1))))

noncomputable def draughts_play_moves_K3  (place2 : Int) : (List (List Int)) → Option (St (List (List Int) × Int) (List (List Int))) :=
  fun (x : (List (List Int))) => match x with | p7 => (draughts_play_moves_J6 place2) p7

noncomputable def draughts_play_moves_J5  (p_b1 : List Int) (p_sign1 : Int) (p4 : List (List Int)) (place2 : Int) : Option (St (List (List Int) × Int) (List (List Int))) :=
  (draughts_play_at_m p_b1 p_sign1 p4 place2).bind fun r4 => if (decide ((0 : Int) < r4)) then ((draughts_play_dirs_m p_b1 p_sign1 p4 r4).bind fun r5 => (loop (draughts_play_moves_L3 p_b1 p_sign1 place2 r5) (p4, 0)).bind (draughts_play_moves_K3 place2)) else ((draughts_play_moves_J6 place2) p4)

noncomputable def draughts_play_moves_L2  (p_b1 : List Int) (p_sign1 : Int) : (List (List Int) × Int) → Option (St (List (List Int) × Int) (List (List Int))) :=
  fun (x : (List (List Int) × Int)) => match x with | (p4, place2) => if (decide (place2 ≤ 32)) then ((draughts_play_moves_J5 p_b1 p_sign1 p4 place2)) else (some (.done p4))

noncomputable def draughts_play_moves_J4  (p5 : List (List Int)) : Option (List (List Int)) :=
  (slices_SortFunc_2_m p5).bind fun r8 => (slices_CompactFunc_2_m r8).bind fun r9 => some r9

noncomputable def draughts_play_moves_K2  : (List (List Int)) → Option (List (List Int)) :=
  fun (x : (List (List Int))) => match x with | p5 => draughts_play_moves_J4 p5

noncomputable def draughts_play_moves_J1  (p_b1 : List Int) (p_sign1 : Int) (p2 : List (List Int)) : Option (List (List Int)) :=
  if ((p2.length : Int) == 0) then ((loop (draughts_play_moves_L2 p_b1 p_sign1) (p2, 1)).bind draughts_play_moves_K2) else (draughts_play_moves_J4 p2)

noncomputable def draughts_play_moves_K1  (p_b1 : List Int) (p_sign1 : Int) : (List (List Int)) → Option (List (List Int)) :=
  fun (x : (List (List Int))) => match x with | p2 => (draughts_play_moves_J1 p_b1 p_sign1) p2

noncomputable def draughts_play_moves_L1  (p_b1 : List Int) (p_sign1 : Int) : (List (List Int) × Int) → Option (St (List (List Int) × Int) (List (List Int))) :=
  fun (x : (List (List Int) × Int)) => match x with | (p1, place1) => if (decide (place1 ≤ 32)) then ((draughts_play_moves_J2 p_b1 p_sign1 p1 place1)) else (some (.done p1))

noncomputable def draughts_play_moves_m  (p_b1 : List Int) (p_sign1 : Int) (p_out1 : List (List Int)) : Option (List (List Int)) :=
  (loop (draughts_play_moves_L1 p_b1 p_sign1) (p_out1, 1)).bind (draughts_play_moves_K1 p_b1 p_sign1)

set_option maxRecDepth 100000 in
set_option maxHeartbeats 4000000 in
theorem draughts_play_moves_w  {g1 : Nat} {A1 : Option Addr} {c1 : Nat} {n1 : Nat} {p_b1 : List Int} {p_sign1 : Int} {A2 : Option Addr} {c2 : Nat} {n2 : Nat} {hd1 : List Hd} {p_out1 : List (List Int)} {r : (List (List Int))} {w0 w : World} {B : Nat} {fs : List HP} (hm : draughts_play_moves_m p_b1 p_sign1 p_out1 = some r) (hS : Sep w0 B w (blk g1 169 #[.slice A1 n1 c1, .int .i64 p_sign1, .slice A2 n2 c2] :: own 3 (.slice A1 n1 c1) (vI p_b1) :: rows 22 3 (.slice A2 n2 c2) hd1 p_out1 :: fs)) :
    Calls Try.prog 116 #[.pointer (some ⟨g1, 0, none⟩)] w fun e w' => ∃ v, e = .returned v ∧ ∃ (j1 : Value) (A3 : Option Addr) (c3 : Nat) (hd2 : List Hd), v = .slice A3 r.length c3 ∧ Sep w0 B w' (blk g1 169 #[.slice A1 n1 c1, .int .i64 p_sign1, j1] :: own 3 (.slice A1 n1 c1) (vI p_b1) :: rows 22 3 (.slice A3 r.length c3) hd2 r :: fs) := by
  obtain ⟨i3, hi3, hz3, hs3, hb3⟩ := info_parts Info3
  obtain ⟨i22, hi22, hz22, hs22, hb22⟩ := info_parts Info22
  obtain ⟨i42, hi42, hz42, hs42, hb42⟩ := info_parts Info42
  obtain rfl := (hS.at_ 1 rfl).len1
  obtain rfl := (hS.at_ 2 rfl).lenR
  unfold draughts_play_moves_m at hm
  replace hm := start_b hm
  refine enter (l := [.pointer (some ⟨g1, 0, none⟩)]) (n := 81) Try.func116 rfl rfl (by simp) (fun a hF => ?_)
  refine reg [] [] [0] [pl 0 (.pointer (some ⟨g1, 0, none⟩))] hF hS Fol (by kernel_rfl) (by kernel_rfl) (by kernel_rfl) ?_ (fun a w hF hS => ?_)
  · exact obs_nil
  refine seq_cut (fun a w => ∃ (p2 : List (List Int)) (A5 : Option Addr) (c5 : Nat) (hd4 : List Hd), Fr 81 [pl 0 (.pointer (some ⟨g1, 0, none⟩))] a ∧ Sep w0 B w (blk g1 169 #[.slice A1 p_b1.length c1, .int .i64 p_sign1, .slice A5 p2.length c5] :: own 3 (.slice A1 p_b1.length c1) (vI p_b1) :: rows 22 3 (.slice A5 p2.length c5) hd4 p2 :: fs) ∧ ((draughts_play_moves_J1 p_b1 p_sign1) p2).bind some = some r) ?_ ?_
  · rintro a w ⟨p2, A5, c5, hd4, hF, hS, hm⟩
    unfold draughts_play_moves_J1 at hm
    refine seq_cut (fun a w => ∃ (p5 : List (List Int)) (A9 : Option Addr) (c9 : Nat) (hd8 : List Hd), Fr 81 [pl 0 (.pointer (some ⟨g1, 0, none⟩))] a ∧ Sep w0 B w (blk g1 169 #[.slice A1 p_b1.length c1, .int .i64 p_sign1, .slice A9 p5.length c9] :: own 3 (.slice A1 p_b1.length c1) (vI p_b1) :: rows 22 3 (.slice A9 p5.length c9) hd8 p5 :: fs) ∧ (draughts_play_moves_J4 p5).bind some = some r) ?_ ?_
    · rintro a w ⟨p5, A9, c9, hd8, hF, hS, hm⟩
      unfold draughts_play_moves_J4 at hm
      refine seqR ?_
      obtain ⟨r8, hr8, hm⟩ := call_b hm
      refine at_run 4 [⟨false, [], vS (Instr.loadAt 42 (.pointer (some ⟨g1, 2, none⟩))), .slice A9 p5.length c9⟩] [none, none, none, some (.slice A9 p5.length c9)] [0, 74] [pl 0 (.pointer (some ⟨g1, 0, none⟩)), pl 74 (.slice A9 p5.length c9)] hF hS (by kernel_rfl) (by kernel_rfl) ?_ (fun a w hF hS => ?_)
      · exact obs_cons (ob_load Agg42 (fun _ _ hS => (hS.at_ 0 rfl).cell rfl)) <| obs_nil
      have hS : Sep w0 B w (rows 22 3 (.slice A9 p5.length c9) hd8 p5 :: blk g1 169 #[.slice A1 p_b1.length c1, .int .i64 p_sign1, .slice A9 p5.length c9] :: own 3 (.slice A1 p_b1.length c1) (vI p_b1) :: fs) := hS.pickN 3 [2, 0, 1] (by decide)
      refine at_call (f := 132) (args := #[.slice A9 p5.length c9, .func (.func 133) #[] #[]]) (d := 75) hF (by kernel_rfl) (by kernel_rfl) Try.func132 (by kernel_rfl) rfl (slices_SortFunc_2_w hr8 hS ) (fun v a w hR hF => ?_)
      clear hS
      obtain ⟨hd12, rfl, hS⟩ := hR
      have hS : Sep w0 B w (rows 22 3 (.slice A9 p5.length c9) hd12 r8 :: blk g1 169 #[.slice A1 p_b1.length c1, .int .i64 p_sign1, .slice A9 p5.length c9] :: own 3 (.slice A1 p_b1.length c1) (vI p_b1) :: fs) := hS
      refine at_end [0] [pl 0 (.pointer (some ⟨g1, 0, none⟩))] hF rfl (by kernel_rfl) (fun hF => ?_)
      refine then_n ?_
      refine seqR ?_
      obtain ⟨r9, hr9, hm⟩ := call_b hm
      refine at_run 4 [⟨false, [], vS (Instr.loadAt 42 (.pointer (some ⟨g1, 2, none⟩))), .slice A9 p5.length c9⟩] [none, none, none, some (.slice A9 p5.length c9)] [79] [pl 79 (.slice A9 p5.length c9)] hF hS (by kernel_rfl) (by kernel_rfl) ?_ (fun a w hF hS => ?_)
      · exact obs_cons (ob_load Agg42 (fun _ _ hS => (hS.at_ 1 rfl).cell rfl)) <| obs_nil
      refine at_call (f := 134) (args := #[.slice A9 p5.length c9, .func (.func 126) #[] #[]]) (d := 80) hF (by kernel_rfl) (by kernel_rfl) Try.func134 (by kernel_rfl) rfl (slices_CompactFunc_2_w hr9 hS ) (fun v a w hR hF => ?_)
      clear hS
      obtain ⟨A15, c15, hd13, rfl, hS⟩ := hR
      have hS : Sep w0 B w (rows 22 3 (.slice A15 r9.length c15) hd13 r9 :: blk g1 169 #[.slice A1 p_b1.length c1, .int .i64 p_sign1, .slice A9 p5.length c9] :: own 3 (.slice A1 p_b1.length c1) (vI p_b1) :: fs) := hS
      refine at_run 1 [] [] [2] [pl 2 (.slice A15 r9.length c15)] hF hS (by kernel_rfl) (by kernel_rfl) ?_ (fun a w hF hS => ?_)
      · exact obs_nil
      refine at_end [2] [pl 2 (.slice A15 r9.length c15)] hF rfl (by kernel_rfl) (fun hF => ?_)
      refine then_n ?_
      refine wpIn_ret ?_
      have hS := hS.pickN 3 [1, 2, 0] (by decide)
      have hm : some r9 = some r := hm
      obtain rfl := Option.some.inj hm
      exact retV (rs := [.tmp 2]) (vs := [.slice A15 r9.length c15]) hF rfl (rv_t (by kernel_rfl) <| rv_nil) rfl ⟨_, rfl, (.slice A9 p5.length c9), A15, c15, hd13, rfl, hS⟩
    · refine reg [⟨false, [], vS (Instr.loadAt 42 (.pointer (some ⟨g1, 2, none⟩))), .slice A5 p2.length c5⟩] [none, none, none, some (.slice A5 p2.length c5), none, none] [0, 29] [pl 0 (.pointer (some ⟨g1, 0, none⟩)), pl 29 (.bool ((p2.length : Int) == 0))] hF hS Fol (by kernel_rfl) (by kernel_rfl) (by kernel_rfl) ?_ (fun a w hF hS => ?_)
      · exact obs_cons (ob_load Agg42 (fun _ _ hS => (hS.at_ 0 rfl).cell rfl)) <| obs_nil
      refine cond_ev (t := 29) (b := ((p2.length : Int) == 0)) hF (by kernel_rfl) (fun hb => ?_) (fun hb => ?_)
      · replace hm := if_t hm hb
        refine reg [] [] [0, 4] [pl 0 (.pointer (some ⟨g1, 0, none⟩)), pl 4 (.int .i64 1)] hF hS Fol (by kernel_rfl) (by kernel_rfl) (by kernel_rfl) ?_ (fun a w hF hS => ?_)
        · exact obs_nil
        refine wpIn_block ?_
        refine wp_loop_model (S := (List (List Int) × Int)) (R := (List (List Int))) (draughts_play_moves_L2 p_b1 p_sign1) (fun x => (draughts_play_moves_K2 x).bind some) r (fun (x : (List (List Int) × Int)) a w => ∃ (A8 : Option Addr) (c8 : Nat) (hd7 : List Hd), Fr 81 [pl 0 (.pointer (some ⟨g1, 0, none⟩)), pl 4 (.int .i64 x.2)] a ∧ Sep w0 B w (blk g1 169 #[.slice A1 p_b1.length c1, .int .i64 p_sign1, .slice A8 x.1.length c8] :: own 3 (.slice A1 p_b1.length c1) (vI p_b1) :: rows 22 3 (.slice A8 x.1.length c8) hd7 x.1 :: fs)) (assoc_b hm) ⟨A5, c5, hd4, hF.weak [0, 4] (by kernel_rfl), hS⟩ ?_
        clear hF hS hm
        rintro nn2 ⟨p4, place2⟩ a w ⟨A8, c8, hd7, hF, hS⟩ hm
        generalize hφ2 : stK (draughts_play_moves_L2 p_b1 p_sign1) nn2 (fun x => (draughts_play_moves_K2 x).bind some) = φ2 at hm
        unfold draughts_play_moves_L2 at hm
        dsimp only at hF hS hm
        refine seq_cut (fun a w => Fr 81 [pl 0 (.pointer (some ⟨g1, 0, none⟩)), pl 4 (.int .i64 place2)] a ∧ Sep w0 B w (blk g1 169 #[.slice A1 p_b1.length c1, .int .i64 p_sign1, .slice A8 p4.length c8] :: own 3 (.slice A1 p_b1.length c1) (vI p_b1) :: rows 22 3 (.slice A8 p4.length c8) hd7 p4 :: fs) ∧ ((draughts_play_moves_J5 p_b1 p_sign1 p4 place2)).bind φ2 = some r) ?_ ?_
        · rintro a w ⟨hF, hS, hm⟩
          unfold draughts_play_moves_J5 at hm
          refine seq_cut (fun a w => ∃ (p7 : List (List Int)) (A12 : Option Addr) (c12 : Nat) (hd10 : List Hd), Fr 81 [pl 0 (.pointer (some ⟨g1, 0, none⟩)), pl 4 (.int .i64 place2)] a ∧ Sep w0 B w (blk g1 169 #[.slice A1 p_b1.length c1, .int .i64 p_sign1, .slice A12 p7.length c12] :: own 3 (.slice A1 p_b1.length c1) (vI p_b1) :: rows 22 3 (.slice A12 p7.length c12) hd10 p7 :: fs) ∧ ((draughts_play_moves_J6 place2) p7).bind φ2 = some r) ?_ ?_
          · rintro a w ⟨p7, A12, c12, hd10, hF, hS, hm⟩
            unfold draughts_play_moves_J6 at hm
            refine reg1 [] [] [0, 4] [pl 0 (.pointer (some ⟨g1, 0, none⟩)), pl 4 (.int .i64 (w64 (place2 + 1)))] hF hS Fol (by kernel_rfl) (by kernel_rfl) (by kernel_rfl) ?_ (fun a w hF hS => ?_)
            · exact obs_nil
            refine then_n ?_
            rw [← hφ2] at hm
            exact ⟨(p7, (w64 (place2 + 1))), ⟨A12, c12, hd10, hF.weak [0, 4] (by kernel_rfl), hS⟩, hm⟩
          · refine wpIn_block ?_
            obtain ⟨r4, hr4, hm⟩ := call_b hm
            refine reg [⟨false, [], callFunc 196 #[.pointer (some ⟨g1, 0, none⟩), .int .i64 place2], .int .i64 r4⟩] [none, none, some (.int .i64 r4), none] [0, 4, 5] [pl 0 (.pointer (some ⟨g1, 0, none⟩)), pl 4 (.int .i64 place2), pl 5 (.int .i64 r4)] hF hS Fol (by kernel_rfl) (by kernel_rfl) (by kernel_rfl) ?_ (fun a w hF hS => ?_)
            · exact obs_cons (ob_call Try.func196 (by kernel_rfl) rfl (fun _ _ hS => draughts_play_at_w hr4 hS )) <| obs_nil
            refine reg [] [] [0, 4, 5, 38] [pl 0 (.pointer (some ⟨g1, 0, none⟩)), pl 4 (.int .i64 place2), pl 5 (.int .i64 r4), pl 38 (.bool (decide ((0 : Int) < r4)))] hF hS Fol (by kernel_rfl) (by kernel_rfl) (by kernel_rfl) ?_ (fun a w hF hS => ?_)
            · exact obs_nil
            refine cond_ev (t := 38) (b := decide ((0 : Int) < r4)) hF (by kernel_rfl) (fun hb => ?_) (fun hb => ?_)
            · replace hm := if_t hm hb
              refine seqR ?_
              obtain ⟨r5, hr5, hm⟩ := call_b hm
              refine at_run 2 [] [] [0, 4, 39, 40] [pl 0 (.pointer (some ⟨g1, 0, none⟩)), pl 4 (.int .i64 place2), pl 39 (.pointer (some ⟨g1, 0, none⟩)), pl 40 (.int .i64 r4)] hF hS (by kernel_rfl) (by kernel_rfl) ?_ (fun a w hF hS => ?_)
              · exact obs_nil
              refine at_call (f := 198) (args := #[.pointer (some ⟨g1, 0, none⟩), .int .i64 r4]) (d := 41) hF (by kernel_rfl) (by kernel_rfl) Try.func198 (by kernel_rfl) rfl (draughts_play_dirs_w hr5 hS ) (fun v a w hR hF => ?_)
              clear hS
              obtain ⟨A10, c10, rfl, hS⟩ := hR
              have hS : Sep w0 B w (blk g1 169 #[.slice A1 p_b1.length c1, .int .i64 p_sign1, .slice A8 p4.length c8] :: own 3 (.slice A1 p_b1.length c1) (vI p_b1) :: rows 22 3 (.slice A8 p4.length c8) hd7 p4 :: own 3 (.slice A10 r5.length c10) (vI r5) :: fs) := hS
              refine at_run 2 [] [] [0, 4, 41, 42, 43] [pl 0 (.pointer (some ⟨g1, 0, none⟩)), pl 4 (.int .i64 place2), pl 41 (.slice A10 r5.length c10), pl 42 (.int .i64 (r5.length : Int)), pl 43 (.int .i64 0)] hF hS (by kernel_rfl) (by kernel_rfl) ?_ (fun a w hF hS => ?_)
              · exact obs_nil
              refine at_end [0, 4, 41, 42, 43] [pl 0 (.pointer (some ⟨g1, 0, none⟩)), pl 4 (.int .i64 place2), pl 41 (.slice A10 r5.length c10), pl 42 (.int .i64 (r5.length : Int)), pl 43 (.int .i64 0)] hF rfl (by kernel_rfl) (fun hF => ?_)
              refine then_n ?_
              refine wpIn_block ?_
              refine wp_loop_model (S := (List (List Int) × Int)) (R := (List (List Int))) (draughts_play_moves_L3 p_b1 p_sign1 place2 r5) (fun x => ((draughts_play_moves_K3 place2) x).bind φ2) r (fun (x : (List (List Int) × Int)) a w => ∃ (A11 : Option Addr) (c11 : Nat) (hd9 : List Hd), Fr 81 [pl 0 (.pointer (some ⟨g1, 0, none⟩)), pl 4 (.int .i64 place2), pl 41 (.slice A10 r5.length c10), pl 42 (.int .i64 (r5.length : Int)), pl 43 (.int .i64 x.2)] a ∧ Sep w0 B w (blk g1 169 #[.slice A1 p_b1.length c1, .int .i64 p_sign1, .slice A11 x.1.length c11] :: own 3 (.slice A1 p_b1.length c1) (vI p_b1) :: rows 22 3 (.slice A11 x.1.length c11) hd9 x.1 :: own 3 (.slice A10 r5.length c10) (vI r5) :: fs)) (assoc_b hm) ⟨A8, c8, hd7, hF.weak [0, 4, 41, 42, 43] (by kernel_rfl), hS⟩ ?_
              clear hF hS hm
              rintro nn3 ⟨p6, z1⟩ a w ⟨A11, c11, hd9, hF, hS⟩ hm
              generalize hφ3 : stK (draughts_play_moves_L3 p_b1 p_sign1 place2 r5) nn3 (fun x => ((draughts_play_moves_K3 place2) x).bind φ2) = φ3 at hm
              unfold draughts_play_moves_L3 at hm
              dsimp only at hF hS hm
              refine reg [] [] [0, 4, 41, 42, 43, 44] [pl 0 (.pointer (some ⟨g1, 0, none⟩)), pl 4 (.int .i64 place2), pl 41 (.slice A10 r5.length c10), pl 42 (.int .i64 (r5.length : Int)), pl 43 (.int .i64 z1), pl 44 (.bool (decide (z1 < (r5.length : Int))))] hF hS Fol (by kernel_rfl) (by kernel_rfl) (by kernel_rfl) ?_ (fun a w hF hS => ?_)
              · exact obs_nil
              refine seq_cut (fun a w => Fr 81 [pl 0 (.pointer (some ⟨g1, 0, none⟩)), pl 4 (.int .i64 place2), pl 41 (.slice A10 r5.length c10), pl 42 (.int .i64 (r5.length : Int)), pl 43 (.int .i64 z1)] a ∧ Sep w0 B w (blk g1 169 #[.slice A1 p_b1.length c1, .int .i64 p_sign1, .slice A11 p6.length c11] :: own 3 (.slice A1 p_b1.length c1) (vI p_b1) :: rows 22 3 (.slice A11 p6.length c11) hd9 p6 :: own 3 (.slice A10 r5.length c10) (vI r5) :: fs) ∧ ((draughts_play_moves_J7 p_b1 p_sign1 place2 r5 p6 z1)).bind φ3 = some r) ?_ ?_
              · rintro a w ⟨hF, hS, hm⟩
                unfold draughts_play_moves_J7 at hm
                refine seq_cut (fun a w => ∃ (p8 : List (List Int)) (A14 : Option Addr) (c14 : Nat) (hd11 : List Hd), Fr 81 [pl 0 (.pointer (some ⟨g1, 0, none⟩)), pl 4 (.int .i64 place2), pl 41 (.slice A10 r5.length c10), pl 42 (.int .i64 (r5.length : Int)), pl 43 (.int .i64 z1)] a ∧ Sep w0 B w (blk g1 169 #[.slice A1 p_b1.length c1, .int .i64 p_sign1, .slice A14 p8.length c14] :: own 3 (.slice A1 p_b1.length c1) (vI p_b1) :: rows 22 3 (.slice A14 p8.length c14) hd11 p8 :: own 3 (.slice A10 r5.length c10) (vI r5) :: fs) ∧ ((draughts_play_moves_J8 z1) p8).bind φ3 = some r) ?_ ?_
                · rintro a w ⟨p8, A14, c14, hd11, hF, hS, hm⟩
                  unfold draughts_play_moves_J8 at hm
                  refine reg1 [] [] [0, 4, 41, 42, 43] [pl 0 (.pointer (some ⟨g1, 0, none⟩)), pl 4 (.int .i64 place2), pl 41 (.slice A10 r5.length c10), pl 42 (.int .i64 (r5.length : Int)), pl 43 (.int .i64 (w64 (z1 + 1)))] hF hS Fol (by kernel_rfl) (by kernel_rfl) (by kernel_rfl) ?_ (fun a w hF hS => ?_)
                  · exact obs_nil
                  refine then_n ?_
                  rw [← hφ3] at hm
                  exact ⟨(p8, (w64 (z1 + 1))), ⟨A14, c14, hd11, hF.weak [0, 4, 41, 42, 43] (by kernel_rfl), hS⟩, hm⟩
                · refine wpIn_block ?_
                  obtain ⟨hp1, hm⟩ := asrt_b hm
                  refine reg [⟨true, [], vS (Instr.indexAt 22 (.slice A10 r5.length c10) (.int .i64 z1)), .pointer (some (sAddr A10 z1))⟩, ⟨false, [], vS (Instr.loadAt 3 (.pointer (some (sAddr A10 z1)))), .int .i64 (geti r5 z1)⟩] [some (.pointer (some (sAddr A10 z1))), some (.int .i64 (geti r5 z1)), none] [0, 4, 7, 41, 42, 43] [pl 0 (.pointer (some ⟨g1, 0, none⟩)), pl 4 (.int .i64 place2), pl 7 (.int .i64 (geti r5 z1)), pl 41 (.slice A10 r5.length c10), pl 42 (.int .i64 (r5.length : Int)), pl 43 (.int .i64 z1)] hF hS Fol (by kernel_rfl) (by kernel_rfl) (by kernel_rfl) ?_ (fun a w hF hS => ?_)
                  · exact obs_cons (ob_ix1 (f := (Value.int .i64)) (m := r5) Und22 hi3 hs3 (hS.at_ 3 rfl).rd rfl (fun _ => hp1)) <| obs_cons (ob_get1 (n := r5.length) (m := r5) (Value.int .i64) (0 : Int) Agg3 (fun _ hS => ⟨_, (hS.at_ 3 rfl).rd⟩) (fun _ hS => rfl) (fun _ => hp1)) <| obs_nil
                  obtain ⟨r6, hr6, hm⟩ := call_b hm
                  refine reg [⟨false, [], callFunc 199 #[.int .i64 place2, .int .i64 (geti r5 z1)], .int .i64 r6⟩] [none, none, some (.int .i64 r6), none] [0, 4, 8, 41, 42, 43] [pl 0 (.pointer (some ⟨g1, 0, none⟩)), pl 4 (.int .i64 place2), pl 8 (.int .i64 r6), pl 41 (.slice A10 r5.length c10), pl 42 (.int .i64 (r5.length : Int)), pl 43 (.int .i64 z1)] hF hS Fol (by kernel_rfl) (by kernel_rfl) (by kernel_rfl) ?_ (fun a w hF hS => ?_)
                  · exact obs_cons (ob_call Try.func199 (by kernel_rfl) rfl (fun _ _ hS => draughts_next_w hr6 hS )) <| obs_nil
                  obtain ⟨r7, hr7, hm⟩ := call_b hm
                  refine reg [⟨false, [(decide ((0 : Int) < r6), true)], callFunc 196 #[.pointer (some ⟨g1, 0, none⟩), .int .i64 r6], .int .i64 r7⟩] [none, none, none, none, none, some (.int .i64 r7), none, none] [0, 4, 8, 41, 42, 43, 57] [pl 0 (.pointer (some ⟨g1, 0, none⟩)), pl 4 (.int .i64 place2), pl 8 (.int .i64 r6), pl 41 (.slice A10 r5.length c10), pl 42 (.int .i64 (r5.length : Int)), pl 43 (.int .i64 z1), pl 57 (.bool ((decide ((0 : Int) < r6)) && (r7 == 0)))] hF hS Fol (by kernel_rfl) (by kernel_rfl) (by kernel_rfl) ?_ (fun a w hF hS => ?_)
                  · exact obs_cons (ob_call Try.func196 (by kernel_rfl) rfl (fun hy _ hS => draughts_play_at_w (ite_some hr7 (by rw [show (decide ((0 : Int) < r6)) = true from hy (decide ((0 : Int) < r6), true) (by simp)]; try rfl)) hS )) <| obs_nil
                  refine cond_ev (t := 57) (b := (decide ((0 : Int) < r6)) && (r7 == 0)) hF (by kernel_rfl) (fun hb => ?_) (fun hb => ?_)
                  · replace hm := if_t hm hb
                    refine oneR ?_
                    obtain ⟨hp2, hm⟩ := asrt_b hm
                    refine at_run 7 [⟨false, [], vS (Instr.loadAt 42 (.pointer (some ⟨g1, 2, none⟩))), .slice A11 p6.length c11⟩] [none, none, none, none, some (.slice A11 p6.length c11), none, none] [0, 4, 41, 42, 43, 58, 62, 63, 64] [pl 0 (.pointer (some ⟨g1, 0, none⟩)), pl 4 (.int .i64 place2), pl 41 (.slice A10 r5.length c10), pl 42 (.int .i64 (r5.length : Int)), pl 43 (.int .i64 z1), pl 58 (.pointer (some ⟨g1, 0, none⟩)), pl 62 (.slice A11 p6.length c11), pl 63 (.int .i64 place2), pl 64 (.int .i64 r6)] hF hS (by kernel_rfl) (by kernel_rfl) ?_ (fun a w hF hS => ?_)
                    · exact obs_cons (ob_load Agg42 (fun _ _ hS => (hS.at_ 0 rfl).cell rfl)) <| obs_nil
                    refine at_do (d := 65) (s := vS (Instr.buildSlice 22 2 #[(0, .int .i64 place2), (1, .int .i64 r6)])) (v := .slice (some ⟨w.heap.size, 0, none⟩) 2 2) (w' := w.alloc (.cells #[.int .i64 place2, .int .i64 r6] 3)) hF (by kernel_rfl) (by kernel_rfl) (by kernel_rfl) (fun a hF => ?_)
                    have hS : Sep w0 B (w.alloc (.cells #[.int .i64 place2, .int .i64 r6] 3)) (own 3 (.slice (some (⟨w.heap.size, 0, none⟩ : Addr)) 2 2) (vI ([place2, r6] : List Int)) :: (blk g1 169 #[.slice A1 p_b1.length c1, .int .i64 p_sign1, .slice A11 p6.length c11] :: own 3 (.slice A1 p_b1.length c1) (vI p_b1) :: rows 22 3 (.slice A11 p6.length c11) hd9 p6 :: own 3 (.slice A10 r5.length c10) (vI r5) :: fs)) := hS.lit 3 #[.int .i64 place2, .int .i64 r6] 2 rfl (by omega)
                    generalize (some (⟨w.heap.size, 0, none⟩ : Addr)) = g3 at hF hS
                    generalize w.alloc (.cells #[.int .i64 place2, .int .i64 r6] 3) = w at hS ⊢
                    refine at_do (d := 66) (s := vS (Instr.buildSlice 42 1 #[(0, .slice g3 2 2)])) (v := .slice (some ⟨w.heap.size, 0, none⟩) 1 1) (w' := w.alloc (.cells #[.slice g3 2 2] 22)) hF (by kernel_rfl) (by kernel_rfl) (by kernel_rfl) (fun a hF => ?_)
                    have hS : Sep w0 B (w.alloc (.cells #[.slice g3 2 2] 22)) (own 22 (.slice (some (⟨w.heap.size, 0, none⟩ : Addr)) 1 1) [.slice g3 2 2] :: (own 3 (.slice g3 2 2) (vI ([place2, r6] : List Int)) :: blk g1 169 #[.slice A1 p_b1.length c1, .int .i64 p_sign1, .slice A11 p6.length c11] :: own 3 (.slice A1 p_b1.length c1) (vI p_b1) :: rows 22 3 (.slice A11 p6.length c11) hd9 p6 :: own 3 (.slice A10 r5.length c10) (vI r5) :: fs)) := hS.lit 22 #[.slice g3 2 2] 1 rfl (by omega)
                    generalize (some (⟨w.heap.size, 0, none⟩ : Addr)) = g4 at hF hS
                    generalize w.alloc (.cells #[.slice g3 2 2] 22) = w at hS ⊢
                    have hl1 := (hS.at_ 1 rfl).len1
                    have hS := (hS.at_ 1 rfl).reN hl1
                    have hS : Sep w0 B w (own 22 (.slice g4 1 1) [.slice g3 2 2] :: own 3 (.slice g3 (([place2, r6] : List Int).length) 2) (vI ([place2, r6] : List Int)) :: blk g1 169 #[.slice A1 p_b1.length c1, .int .i64 p_sign1, .slice A11 p6.length c11] :: own 3 (.slice A1 p_b1.length c1) (vI p_b1) :: rows 22 3 (.slice A11 p6.length c11) hd9 p6 :: own 3 (.slice A10 r5.length c10) (vI r5) :: fs) := hS
                    have hS := (hS.at_ 0 rfl).reOwn (congrArg (fun k => [Value.slice g3 k 2]) hl1)
                    have hS : Sep w0 B w (own 22 (.slice g4 1 1) [.slice g3 ([place2, r6] : List Int).length 2] :: own 3 (.slice g3 (([place2, r6] : List Int).length) 2) (vI ([place2, r6] : List Int)) :: blk g1 169 #[.slice A1 p_b1.length c1, .int .i64 p_sign1, .slice A11 p6.length c11] :: own 3 (.slice A1 p_b1.length c1) (vI p_b1) :: rows 22 3 (.slice A11 p6.length c11) hd9 p6 :: own 3 (.slice A10 r5.length c10) (vI r5) :: fs) := hS
                    have hS := hS.pickN 6 [1, 0, 2, 3, 4, 5] (by decide)
                    have hS : Sep w0 B w (own 3 (.slice g3 (([place2, r6] : List Int).length) 2) (vI ([place2, r6] : List Int)) :: own 22 (.slice g4 1 1) [.slice g3 ([place2, r6] : List Int).length 2] :: blk g1 169 #[.slice A1 p_b1.length c1, .int .i64 p_sign1, .slice A11 p6.length c11] :: own 3 (.slice A1 p_b1.length c1) (vI p_b1) :: rows 22 3 (.slice A11 p6.length c11) hd9 p6 :: own 3 (.slice A10 r5.length c10) (vI r5) :: fs) := hS
                    obtain ⟨A13, c13, w, hrun, hS⟩ := run_appRow (P := Try.prog) (t := 42) (A2 := g4) (c2 := 1) (hS.at2 3 rfl) (hS.at_ 1 rfl).rd 42 Und42 hi22 hz22 hs22 hb22 hp2
                    have hS : Sep w0 B w (own 22 (.slice g4 1 1) [.slice g3 ([place2, r6] : List Int).length 2] :: blk g1 169 #[.slice A1 p_b1.length c1, .int .i64 p_sign1, .slice A11 p6.length c11] :: own 3 (.slice A1 p_b1.length c1) (vI p_b1) :: rows 22 3 (.slice A13 ((p6 ++ [([place2, r6] : List Int)]).length) c13) (hd9 ++ [(g3, 2)]) (p6 ++ [([place2, r6] : List Int)]) :: own 3 (.slice A10 r5.length c10) (vI r5) :: fs) := hS
                    refine at_do (d := 67) hF (by kernel_rfl) (by kernel_rfl) hrun (fun a hF => ?_)
                    refine at_run 2 [] [] [0, 4, 41, 42, 43, 67, 69] [pl 0 (.pointer (some ⟨g1, 0, none⟩)), pl 4 (.int .i64 place2), pl 41 (.slice A10 r5.length c10), pl 42 (.int .i64 (r5.length : Int)), pl 43 (.int .i64 z1), pl 67 (.slice A13 ((p6 ++ [([place2, r6] : List Int)]).length) c13), pl 69 (.pointer (some ⟨g1, 2, none⟩))] hF hS (by kernel_rfl) (by kernel_rfl) ?_ (fun a w hF hS => ?_)
                    · exact obs_nil
                    obtain ⟨w, hrun, hS⟩ := run_put (P := Try.prog) (t := 42) (u := .slice A13 ((p6 ++ [([place2, r6] : List Int)]).length) c13) (i := 2) (hS.at_ 1 rfl) hi42 hs42 rfl (Nat.lt_of_lt_of_eq (Nat.lt_of_succ_le (Nat.le_of_ble_eq_true (by kernel_rfl))) rfl)
                    refine at_skip hF (by kernel_rfl) hrun ?_
                    have hS : Sep w0 B w (own 22 (.slice g4 1 1) [.slice g3 ([place2, r6] : List Int).length 2] :: blk g1 169 #[.slice A1 p_b1.length c1, .int .i64 p_sign1, .slice A13 ((p6 ++ [([place2, r6] : List Int)]).length) c13] :: own 3 (.slice A1 p_b1.length c1) (vI p_b1) :: rows 22 3 (.slice A13 ((p6 ++ [([place2, r6] : List Int)]).length) c13) (hd9 ++ [(g3, 2)]) (p6 ++ [([place2, r6] : List Int)]) :: own 3 (.slice A10 r5.length c10) (vI r5) :: fs) := hS
                    refine at_end [0, 4, 41, 42, 43] [pl 0 (.pointer (some ⟨g1, 0, none⟩)), pl 4 (.int .i64 place2), pl 41 (.slice A10 r5.length c10), pl 42 (.int .i64 (r5.length : Int)), pl 43 (.int .i64 z1)] hF rfl (by kernel_rfl) (fun hF => ?_)
                    refine block_n ?_
                    refine then_n ?_
                    have hS := hS.pickN 5 [1, 2, 3, 4] (by decide)
                    exact ⟨(p6 ++ [([place2, r6] : List Int)]), A13, c13, (hd9 ++ [(g3, 2)]), hF.weak [0, 4, 41, 42, 43] (by kernel_rfl), hS, hm⟩
                  · replace hm := if_f hm hb
                    refine wpIn_skip ?_
                    refine block_n ?_
                    refine then_n ?_
                    exact ⟨p6, A11, c11, hd9, hF.weak [0, 4, 41, 42, 43] (by kernel_rfl), hS, hm⟩
              · refine cond_ev (t := 44) (b := decide (z1 < (r5.length : Int))) hF (by kernel_rfl) (fun hb => ?_) (fun hb => ?_)
                · replace hm := if_t hm hb
                  refine wpIn_skip ?_
                  refine then_n ?_
                  exact ⟨hF.weak [0, 4, 41, 42, 43] (by kernel_rfl), hS, hm⟩
                · replace hm := if_f hm hb
                  refine wpIn_exit ?_
                  refine then_e (then_e (block_e (block_n (then_n ?_))))
                  have hS := hS.pickN 4 [0, 1, 2] (by decide)
                  rw [← hφ3] at hm
                  replace hm := done_b hm
                  unfold draughts_play_moves_K3 at hm
                  try dsimp only at hm
                  have hm : ((draughts_play_moves_J6 place2) p6).bind φ2 = some r := hm
                  exact ⟨p6, A11, c11, hd9, hF.weak [0, 4] (by kernel_rfl), hS, hm⟩
            · replace hm := if_f hm hb
              refine wpIn_skip ?_
              refine block_n ?_
              refine then_n ?_
              exact ⟨p4, A8, c8, hd7, hF.weak [0, 4] (by kernel_rfl), hS, hm⟩
        · refine reg [] [] [0, 4, 31] [pl 0 (.pointer (some ⟨g1, 0, none⟩)), pl 4 (.int .i64 place2), pl 31 (.bool (decide (place2 ≤ 32)))] hF hS Fol (by kernel_rfl) (by kernel_rfl) (by kernel_rfl) ?_ (fun a w hF hS => ?_)
          · exact obs_nil
          refine cond_ev (t := 31) (b := decide (place2 ≤ 32)) hF (by kernel_rfl) (fun hb => ?_) (fun hb => ?_)
          · replace hm := if_t hm hb
            refine wpIn_skip ?_
            refine then_n ?_
            exact ⟨hF.weak [0, 4] (by kernel_rfl), hS, hm⟩
          · replace hm := if_f hm hb
            refine wpIn_exit ?_
            refine then_e (then_e (block_e (then_n ?_)))
            rw [← hφ2] at hm
            replace hm := done_b hm
            unfold draughts_play_moves_K2 at hm
            try dsimp only at hm
            have hm : (draughts_play_moves_J4 p4).bind some = some r := hm
            exact ⟨p4, A8, c8, hd7, hF.weak [0] (by kernel_rfl), hS, hm⟩
      · replace hm := if_f hm hb
        refine wpIn_skip ?_
        refine then_n ?_
        exact ⟨p2, A5, c5, hd4, hF.weak [0] (by kernel_rfl), hS, hm⟩
  · refine reg [] [] [0, 3] [pl 0 (.pointer (some ⟨g1, 0, none⟩)), pl 3 (.int .i64 1)] hF hS Fol (by kernel_rfl) (by kernel_rfl) (by kernel_rfl) ?_ (fun a w hF hS => ?_)
    · exact obs_nil
    refine wpIn_block ?_
    refine wp_loop_model (S := (List (List Int) × Int)) (R := (List (List Int))) (draughts_play_moves_L1 p_b1 p_sign1) (fun x => ((draughts_play_moves_K1 p_b1 p_sign1) x).bind some) r (fun (x : (List (List Int) × Int)) a w => ∃ (A4 : Option Addr) (c4 : Nat) (hd3 : List Hd), Fr 81 [pl 0 (.pointer (some ⟨g1, 0, none⟩)), pl 3 (.int .i64 x.2)] a ∧ Sep w0 B w (blk g1 169 #[.slice A1 p_b1.length c1, .int .i64 p_sign1, .slice A4 x.1.length c4] :: own 3 (.slice A1 p_b1.length c1) (vI p_b1) :: rows 22 3 (.slice A4 x.1.length c4) hd3 x.1 :: fs)) (assoc_b hm) ⟨A2, c2, hd1, hF.weak [0, 3] (by kernel_rfl), hS⟩ ?_
    clear hF hS hm
    rintro nn1 ⟨p1, place1⟩ a w ⟨A4, c4, hd3, hF, hS⟩ hm
    generalize hφ1 : stK (draughts_play_moves_L1 p_b1 p_sign1) nn1 (fun x => ((draughts_play_moves_K1 p_b1 p_sign1) x).bind some) = φ1 at hm
    unfold draughts_play_moves_L1 at hm
    dsimp only at hF hS hm
    refine seq_cut (fun a w => Fr 81 [pl 0 (.pointer (some ⟨g1, 0, none⟩)), pl 3 (.int .i64 place1)] a ∧ Sep w0 B w (blk g1 169 #[.slice A1 p_b1.length c1, .int .i64 p_sign1, .slice A4 p1.length c4] :: own 3 (.slice A1 p_b1.length c1) (vI p_b1) :: rows 22 3 (.slice A4 p1.length c4) hd3 p1 :: fs) ∧ ((draughts_play_moves_J2 p_b1 p_sign1 p1 place1)).bind φ1 = some r) ?_ ?_
    · rintro a w ⟨hF, hS, hm⟩
      unfold draughts_play_moves_J2 at hm
      refine seq_cut (fun a w => ∃ (p3 : List (List Int)) (A7 : Option Addr) (c7 : Nat) (hd6 : List Hd), Fr 81 [pl 0 (.pointer (some ⟨g1, 0, none⟩)), pl 3 (.int .i64 place1)] a ∧ Sep w0 B w (blk g1 169 #[.slice A1 p_b1.length c1, .int .i64 p_sign1, .slice A7 p3.length c7] :: own 3 (.slice A1 p_b1.length c1) (vI p_b1) :: rows 22 3 (.slice A7 p3.length c7) hd6 p3 :: fs) ∧ ((draughts_play_moves_J3 place1) p3).bind φ1 = some r) ?_ ?_
      · rintro a w ⟨p3, A7, c7, hd6, hF, hS, hm⟩
        unfold draughts_play_moves_J3 at hm
        refine reg1 [] [] [0, 3] [pl 0 (.pointer (some ⟨g1, 0, none⟩)), pl 3 (.int .i64 (w64 (place1 + 1)))] hF hS Fol (by kernel_rfl) (by kernel_rfl) (by kernel_rfl) ?_ (fun a w hF hS => ?_)
        · exact obs_nil
        refine then_n ?_
        rw [← hφ1] at hm
        exact ⟨(p3, (w64 (place1 + 1))), ⟨A7, c7, hd6, hF.weak [0, 3] (by kernel_rfl), hS⟩, hm⟩
      · refine wpIn_block ?_
        obtain ⟨r1, hr1, hm⟩ := call_b hm
        refine reg [⟨false, [], callFunc 196 #[.pointer (some ⟨g1, 0, none⟩), .int .i64 place1], .int .i64 r1⟩] [none, none, some (.int .i64 r1), none] [0, 3, 16] [pl 0 (.pointer (some ⟨g1, 0, none⟩)), pl 3 (.int .i64 place1), pl 16 (.bool (decide ((0 : Int) < r1)))] hF hS Fol (by kernel_rfl) (by kernel_rfl) (by kernel_rfl) ?_ (fun a w hF hS => ?_)
        · exact obs_cons (ob_call Try.func196 (by kernel_rfl) rfl (fun _ _ hS => draughts_play_at_w hr1 hS )) <| obs_nil
        refine cond_ev (t := 16) (b := decide ((0 : Int) < r1)) hF (by kernel_rfl) (fun hb => ?_) (fun hb => ?_)
        · replace hm := if_t hm hb
          refine oneR ?_
          obtain ⟨r2, hr2, hm⟩ := call_b hm
          obtain ⟨r3, hr3, hm⟩ := call_b hm
          refine at_run 2 [] [] [0, 3, 17, 18] [pl 0 (.pointer (some ⟨g1, 0, none⟩)), pl 3 (.int .i64 place1), pl 17 (.pointer (some ⟨g1, 0, none⟩)), pl 18 (.int .i64 place1)] hF hS (by kernel_rfl) (by kernel_rfl) ?_ (fun a w hF hS => ?_)
          · exact obs_nil
          refine at_do (d := 19) (s := vS (Instr.buildSlice 22 1 #[(0, .int .i64 place1)])) (v := .slice (some ⟨w.heap.size, 0, none⟩) 1 1) (w' := w.alloc (.cells #[.int .i64 place1] 3)) hF (by kernel_rfl) (by kernel_rfl) (by kernel_rfl) (fun a hF => ?_)
          have hS : Sep w0 B (w.alloc (.cells #[.int .i64 place1] 3)) (own 3 (.slice (some (⟨w.heap.size, 0, none⟩ : Addr)) 1 1) (vI ([place1] : List Int)) :: (blk g1 169 #[.slice A1 p_b1.length c1, .int .i64 p_sign1, .slice A4 p1.length c4] :: own 3 (.slice A1 p_b1.length c1) (vI p_b1) :: rows 22 3 (.slice A4 p1.length c4) hd3 p1 :: fs)) := hS.lit 3 #[.int .i64 place1] 1 rfl (by omega)
          generalize (some (⟨w.heap.size, 0, none⟩ : Addr)) = g2 at hF hS
          generalize w.alloc (.cells #[.int .i64 place1] 3) = w at hS ⊢
          refine at_run 3 [⟨false, [], callFunc 196 #[.pointer (some ⟨g1, 0, none⟩), .int .i64 place1], .int .i64 r2⟩] [none, none, some (.int .i64 r2)] [0, 3, 17, 19, 22] [pl 0 (.pointer (some ⟨g1, 0, none⟩)), pl 3 (.int .i64 place1), pl 17 (.pointer (some ⟨g1, 0, none⟩)), pl 19 (.slice g2 1 1), pl 22 (.int .i64 r2)] hF hS (by kernel_rfl) (by kernel_rfl) ?_ (fun a w hF hS => ?_)
          · exact obs_cons (ob_call Try.func196 (by kernel_rfl) rfl (fun _ _ hS => quiet_pick hS 4 [1, 2, 3, 0] (by decide) [3, 0, 1, 2] (by decide) (qs := (blk g1 169 #[.slice A1 p_b1.length c1, .int .i64 p_sign1, .slice A4 p1.length c4] :: own 3 (.slice A1 p_b1.length c1) (vI p_b1) :: rows 22 3 (.slice A4 p1.length c4) hd3 p1 :: own 3 (.slice g2 1 1) (vI ([place1] : List Int)) :: fs)) rfl (fun hS => draughts_play_at_w hr2 hS ) 4 rfl)) <| obs_nil
          have hS : Sep w0 B w (blk g1 169 #[.slice A1 p_b1.length c1, .int .i64 p_sign1, .slice A4 p1.length c4] :: own 3 (.slice A1 p_b1.length c1) (vI p_b1) :: rows 22 3 (.slice A4 p1.length c4) hd3 p1 :: own 3 (.slice g2 1 1) (vI ([place1] : List Int)) :: fs) := hS.pickN 4 [1, 2, 3, 0] (by decide)
          refine at_call (f := 197) (args := #[.pointer (some ⟨g1, 0, none⟩), .slice g2 1 1, .int .i64 r2, .slice none 0 0]) (d := 23) hF (by kernel_rfl) (by kernel_rfl) Try.func197 (by kernel_rfl) rfl (draughts_play_jumps_2_w hr3 hS (fun _ hS => Rd.nil _ _ _) (Nat.le_refl _) rfl) (fun v a w hR hF => ?_)
          clear hS
          obtain ⟨A6, c6, hd5, rfl, hS⟩ := hR
          have hS : Sep w0 B w (blk g1 169 #[.slice A1 p_b1.length c1, .int .i64 p_sign1, .slice A6 r3.length c6] :: own 3 (.slice A1 p_b1.length c1) (vI p_b1) :: rows 22 3 (.slice A6 r3.length c6) hd5 r3 :: fs) := hS
          refine at_end [0, 3] [pl 0 (.pointer (some ⟨g1, 0, none⟩)), pl 3 (.int .i64 place1)] hF rfl (by kernel_rfl) (fun hF => ?_)
          refine block_n ?_
          refine then_n ?_
          exact ⟨r3, A6, c6, hd5, hF.weak [0, 3] (by kernel_rfl), hS, hm⟩
        · replace hm := if_f hm hb
          refine wpIn_skip ?_
          refine block_n ?_
          refine then_n ?_
          exact ⟨p1, A4, c4, hd3, hF.weak [0, 3] (by kernel_rfl), hS, hm⟩
    · refine reg [] [] [0, 3, 10] [pl 0 (.pointer (some ⟨g1, 0, none⟩)), pl 3 (.int .i64 place1), pl 10 (.bool (decide (place1 ≤ 32)))] hF hS Fol (by kernel_rfl) (by kernel_rfl) (by kernel_rfl) ?_ (fun a w hF hS => ?_)
      · exact obs_nil
      refine cond_ev (t := 10) (b := decide (place1 ≤ 32)) hF (by kernel_rfl) (fun hb => ?_) (fun hb => ?_)
      · replace hm := if_t hm hb
        refine wpIn_skip ?_
        refine then_n ?_
        exact ⟨hF.weak [0, 3] (by kernel_rfl), hS, hm⟩
      · replace hm := if_f hm hb
        refine wpIn_exit ?_
        refine then_e (then_e (block_e (then_n ?_)))
        rw [← hφ1] at hm
        replace hm := done_b hm
        unfold draughts_play_moves_K1 at hm
        try dsimp only at hm
        have hm : ((draughts_play_moves_J1 p_b1 p_sign1) p1).bind some = some r := hm
        exact ⟨p1, A4, c4, hd3, hF.weak [0] (by kernel_rfl), hS, hm⟩

noncomputable def gameroomref_within_m  (n1 : Int) (low1 : Int) (high1 : Int) : Option Bool :=
  some ((decide (low1 ≤ n1)) && (decide (n1 ≤ high1)))

set_option maxRecDepth 100000 in
set_option maxHeartbeats 4000000 in
theorem gameroomref_within_w  {n1 : Int} {low1 : Int} {high1 : Int} {r : Bool} {w0 w : World} {B : Nat} {fs : List HP} (hm : gameroomref_within_m n1 low1 high1 = some r) (hS : Sep w0 B w (fs)) :
    Calls Try.prog 85 #[.int .i64 n1, .int .i64 low1, .int .i64 high1] w fun e w' => e = .returned (.bool r) ∧ Sep w0 B w' (fs) := by
  unfold gameroomref_within_m at hm
  replace hm := start_b hm
  refine enter (l := [.int .i64 n1, .int .i64 low1, .int .i64 high1]) (n := 15) Try.func85 rfl rfl (by simp) (fun a hF => ?_)
  refine reg [] [] [0, 1, 2] [pl 0 (.int .i64 n1), pl 1 (.int .i64 low1), pl 2 (.int .i64 high1)] hF hS Fol (by kernel_rfl) (by kernel_rfl) (by kernel_rfl) ?_ (fun a w hF hS => ?_)
  · exact obs_nil
  refine reg [] [] [6] [pl 6 (.bool ((decide (low1 ≤ n1)) && (decide (n1 ≤ high1))))] hF hS Fol (by kernel_rfl) (by kernel_rfl) (by kernel_rfl) ?_ (fun a w hF hS => ?_)
  · exact obs_nil
  refine wpIn_ret ?_
  have hm : some ((decide (low1 ≤ n1)) && (decide (n1 ≤ high1))) = some r := hm
  obtain rfl := Option.some.inj hm
  exact retV (rs := [.tmp 6]) (vs := [.bool ((decide (low1 ≤ n1)) && (decide (n1 ≤ high1)))]) hF rfl (rv_t (by kernel_rfl) <| rv_nil) rfl ⟨rfl, hS⟩

noncomputable def gameroomref_sameInts_J4  (i1 : Int) : Option (St Int (Fl Unit Bool)) :=
  some (.next (w64 (i1 + 1)))

noncomputable def gameroomref_sameInts_J3  (a1 : List Int) (b1 : List Int) (i1 : Int) : Option (St Int (Fl Unit Bool)) :=
  asrt (0 ≤ i1 ∧ i1 < (a1.length : Int)) <| asrt (0 ≤ i1 ∧ i1 < (b1.length : Int)) <| if ((geti a1 i1) != (geti b1 i1)) then (some (.done (.ret false))) else ((gameroomref_sameInts_J4 i1))

noncomputable def gameroomref_sameInts_J2  : Option Bool :=
  some true

noncomputable def gameroomref_sameInts_K1  : (Fl Unit Bool) → Option Bool :=
  fun (x : (Fl Unit Bool)) => match x with | .go _ => gameroomref_sameInts_J2 | .ret x => some x

noncomputable def gameroomref_sameInts_L1  (a1 : List Int) (b1 : List Int) : Int → Option (St Int (Fl Unit Bool)) :=
  fun (x : Int) => match x with | i1 => if (decide (i1 < (a1.length : Int))) then ((gameroomref_sameInts_J3 a1 b1 i1)) else (some (.done (.go ())))

noncomputable def gameroomref_sameInts_J1  (a1 : List Int) (b1 : List Int) : Option Bool :=
  (loop (gameroomref_sameInts_L1 a1 b1) 0).bind gameroomref_sameInts_K1

noncomputable def gameroomref_sameInts_m  (a1 : List Int) (b1 : List Int) : Option Bool :=
  if ((a1.length : Int) != (b1.length : Int)) then (some false) else ((gameroomref_sameInts_J1 a1 b1))

set_option maxRecDepth 100000 in
set_option maxHeartbeats 4000000 in
theorem gameroomref_sameInts_w  {A1 : Option Addr} {c1 : Nat} {n1 : Nat} {a1 : List Int} {A2 : Option Addr} {c2 : Nat} {n2 : Nat} {b1 : List Int} {r : Bool} {w0 w : World} {B : Nat} {fs : List HP} (hm : gameroomref_sameInts_m a1 b1 = some r) (hS : Sep w0 B w (fs)) (hr_a1 : RdF w0 B fs A1 (vI a1)) (_hc_a1 : a1.length ≤ c1) (_hn_a1 : n1 = a1.length) (hr_b1 : RdF w0 B fs A2 (vI b1)) (_hc_b1 : b1.length ≤ c2) (_hn_b1 : n2 = b1.length) :
    Calls Try.prog 87 #[.slice A1 n1 c1, .slice A2 n2 c2] w fun e w' => e = .returned (.bool r) ∧ Sep w0 B w' (fs) := by
  obtain ⟨i3, hi3, hz3, hs3, hb3⟩ := info_parts Info3
  obtain rfl := _hn_a1
  obtain rfl := _hn_b1
  unfold gameroomref_sameInts_m at hm
  replace hm := start_b hm
  refine enter (l := [.slice A1 a1.length c1, .slice A2 b1.length c2]) (n := 26) Try.func87 rfl rfl (by simp) (fun a hF => ?_)
  refine reg [] [] [0, 1] [pl 0 (.slice A1 a1.length c1), pl 1 (.slice A2 b1.length c2)] hF hS Fol (by kernel_rfl) (by kernel_rfl) (by kernel_rfl) ?_ (fun a w hF hS => ?_)
  · exact obs_nil
  refine seq_cut (fun a w => Fr 26 [pl 0 (.slice A1 a1.length c1), pl 1 (.slice A2 b1.length c2)] a ∧ Sep w0 B w (fs) ∧ ((gameroomref_sameInts_J1 a1 b1)).bind some = some r) ?_ ?_
  · rintro a w ⟨hF, hS, hm⟩
    unfold gameroomref_sameInts_J1 at hm
    refine seq_cut (fun a w => Fr 26 [] a ∧ Sep w0 B w (fs) ∧ (gameroomref_sameInts_J2).bind some = some r) ?_ ?_
    · rintro a w ⟨hF, hS, hm⟩
      unfold gameroomref_sameInts_J2 at hm
      refine reg [] [] [4] [pl 4 (.bool true)] hF hS Fol (by kernel_rfl) (by kernel_rfl) (by kernel_rfl) ?_ (fun a w hF hS => ?_)
      · exact obs_nil
      refine wpIn_ret ?_
      have hm : some true = some r := hm
      obtain rfl := Option.some.inj hm
      exact retV (rs := [.tmp 4]) (vs := [.bool true]) hF rfl (rv_t (by kernel_rfl) <| rv_nil) rfl ⟨rfl, hS⟩
    · refine reg [] [] [0, 1, 5] [pl 0 (.slice A1 a1.length c1), pl 1 (.slice A2 b1.length c2), pl 5 (.int .i64 0)] hF hS Fol (by kernel_rfl) (by kernel_rfl) (by kernel_rfl) ?_ (fun a w hF hS => ?_)
      · exact obs_nil
      refine wpIn_block ?_
      refine wp_loop_model (S := Int) (R := (Fl Unit Bool)) (gameroomref_sameInts_L1 a1 b1) (fun x => (gameroomref_sameInts_K1 x).bind some) r (fun (x : Int) a w => Fr 26 [pl 0 (.slice A1 a1.length c1), pl 1 (.slice A2 b1.length c2), pl 5 (.int .i64 x)] a ∧ Sep w0 B w (fs)) (assoc_b hm) ⟨hF.weak [0, 1, 5] (by kernel_rfl), hS⟩ ?_
      clear hF hS hm
      rintro nn1 i1 a w ⟨hF, hS⟩ hm
      generalize hφ1 : stK (gameroomref_sameInts_L1 a1 b1) nn1 (fun x => (gameroomref_sameInts_K1 x).bind some) = φ1 at hm
      unfold gameroomref_sameInts_L1 at hm
      dsimp only at hm
      refine seq_cut (fun a w => Fr 26 [pl 0 (.slice A1 a1.length c1), pl 1 (.slice A2 b1.length c2), pl 5 (.int .i64 i1)] a ∧ Sep w0 B w (fs) ∧ ((gameroomref_sameInts_J3 a1 b1 i1)).bind φ1 = some r) ?_ ?_
      · rintro a w ⟨hF, hS, hm⟩
        unfold gameroomref_sameInts_J3 at hm
        refine seq_cut (fun a w => Fr 26 [pl 0 (.slice A1 a1.length c1), pl 1 (.slice A2 b1.length c2), pl 5 (.int .i64 i1)] a ∧ Sep w0 B w (fs) ∧ ((gameroomref_sameInts_J4 i1)).bind φ1 = some r) ?_ ?_
        · rintro a w ⟨hF, hS, hm⟩
          unfold gameroomref_sameInts_J4 at hm
          refine reg1 [] [] [0, 1, 5] [pl 0 (.slice A1 a1.length c1), pl 1 (.slice A2 b1.length c2), pl 5 (.int .i64 (w64 (i1 + 1)))] hF hS Fol (by kernel_rfl) (by kernel_rfl) (by kernel_rfl) ?_ (fun a w hF hS => ?_)
          · exact obs_nil
          refine then_n ?_
          rw [← hφ1] at hm
          exact ⟨(w64 (i1 + 1)), ⟨hF.weak [0, 1, 5] (by kernel_rfl), hS⟩, hm⟩
        · refine wpIn_block ?_
          obtain ⟨hp1, hm⟩ := asrt_b hm
          obtain ⟨hp2, hm⟩ := asrt_b hm
          refine reg [⟨true, [], vS (Instr.indexAt 22 (.slice A1 a1.length c1) (.int .i64 i1)), .pointer (some (sAddr A1 i1))⟩, ⟨false, [], vS (Instr.loadAt 3 (.pointer (some (sAddr A1 i1)))), .int .i64 (geti a1 i1)⟩, ⟨true, [], vS (Instr.indexAt 22 (.slice A2 b1.length c2) (.int .i64 i1)), .pointer (some (sAddr A2 i1))⟩, ⟨false, [], vS (Instr.loadAt 3 (.pointer (some (sAddr A2 i1)))), .int .i64 (geti b1 i1)⟩] [none, none, some (.pointer (some (sAddr A1 i1))), some (.int .i64 (geti a1 i1)), none, none, some (.pointer (some (sAddr A2 i1))), some (.int .i64 (geti b1 i1)), none] [0, 1, 5, 25] [pl 0 (.slice A1 a1.length c1), pl 1 (.slice A2 b1.length c2), pl 5 (.int .i64 i1), pl 25 (.bool ((geti a1 i1) != (geti b1 i1)))] hF hS Fol (by kernel_rfl) (by kernel_rfl) (by kernel_rfl) ?_ (fun a w hF hS => ?_)
          · exact obs_cons (ob_ix1 (f := (Value.int .i64)) (m := a1) Und22 hi3 hs3 (hr_a1 _ (hS.dropN 0)) rfl (fun _ => hp1)) <| obs_cons (ob_get1 (n := a1.length) (m := a1) (Value.int .i64) (0 : Int) Agg3 (fun _ hS => ⟨_, (hr_a1 _ (hS.dropN 0))⟩) (fun _ hS => rfl) (fun _ => hp1)) <| obs_cons (ob_ix1 (f := (Value.int .i64)) (m := b1) Und22 hi3 hs3 (hr_b1 _ (hS.dropN 0)) rfl (fun _ => hp2)) <| obs_cons (ob_get1 (n := b1.length) (m := b1) (Value.int .i64) (0 : Int) Agg3 (fun _ hS => ⟨_, (hr_b1 _ (hS.dropN 0))⟩) (fun _ hS => rfl) (fun _ => hp2)) <| obs_nil
          refine cond_ev (t := 25) (b := ((geti a1 i1) != (geti b1 i1))) hF (by kernel_rfl) (fun hb => ?_) (fun hb => ?_)
          · replace hm := if_t hm hb
            refine reg [] [] [4] [pl 4 (.bool false)] hF hS Fol (by kernel_rfl) (by kernel_rfl) (by kernel_rfl) ?_ (fun a w hF hS => ?_)
            · exact obs_nil
            refine wpIn_ret ?_
            refine block_r (then_r (then_r (block_r (then_r ?_))))
            rw [← hφ1] at hm
            replace hm := done_b hm
            unfold gameroomref_sameInts_K1 at hm
            try dsimp only at hm
            have hm : some false = some r := hm
            obtain rfl := Option.some.inj hm
            exact retV (rs := [.tmp 4]) (vs := [.bool false]) hF rfl (rv_t (by kernel_rfl) <| rv_nil) rfl ⟨rfl, hS⟩
          · replace hm := if_f hm hb
            refine wpIn_skip ?_
            refine block_n ?_
            refine then_n ?_
            exact ⟨hF.weak [0, 1, 5] (by kernel_rfl), hS, hm⟩
      · refine reg [] [] [0, 1, 5, 14] [pl 0 (.slice A1 a1.length c1), pl 1 (.slice A2 b1.length c2), pl 5 (.int .i64 i1), pl 14 (.bool (decide (i1 < (a1.length : Int))))] hF hS Fol (by kernel_rfl) (by kernel_rfl) (by kernel_rfl) ?_ (fun a w hF hS => ?_)
        · exact obs_nil
        refine cond_ev (t := 14) (b := decide (i1 < (a1.length : Int))) hF (by kernel_rfl) (fun hb => ?_) (fun hb => ?_)
        · replace hm := if_t hm hb
          refine wpIn_skip ?_
          refine then_n ?_
          exact ⟨hF.weak [0, 1, 5] (by kernel_rfl), hS, hm⟩
        · replace hm := if_f hm hb
          refine wpIn_exit ?_
          refine then_e (then_e (block_e (then_n ?_)))
          rw [← hφ1] at hm
          replace hm := done_b hm
          unfold gameroomref_sameInts_K1 at hm
          try dsimp only at hm
          have hm : (gameroomref_sameInts_J2).bind some = some r := hm
          exact ⟨hF.weak [] (by kernel_rfl), hS, hm⟩
  · refine reg [] [] [0, 1, 10] [pl 0 (.slice A1 a1.length c1), pl 1 (.slice A2 b1.length c2), pl 10 (.bool ((a1.length : Int) != (b1.length : Int)))] hF hS Fol (by kernel_rfl) (by kernel_rfl) (by kernel_rfl) ?_ (fun a w hF hS => ?_)
    · exact obs_nil
    refine cond_ev (t := 10) (b := ((a1.length : Int) != (b1.length : Int))) hF (by kernel_rfl) (fun hb => ?_) (fun hb => ?_)
    · replace hm := if_t hm hb
      refine reg [] [] [4] [pl 4 (.bool false)] hF hS Fol (by kernel_rfl) (by kernel_rfl) (by kernel_rfl) ?_ (fun a w hF hS => ?_)
      · exact obs_nil
      refine wpIn_ret ?_
      refine then_r ?_
      have hm : some false = some r := hm
      obtain rfl := Option.some.inj hm
      exact retV (rs := [.tmp 4]) (vs := [.bool false]) hF rfl (rv_t (by kernel_rfl) <| rv_nil) rfl ⟨rfl, hS⟩
    · replace hm := if_f hm hb
      refine wpIn_skip ?_
      refine then_n ?_
      exact ⟨hF.weak [0, 1] (by kernel_rfl), hS, hm⟩

noncomputable def gameroomref_SameDraughts_m  (a1 : List Int) (a2 : Int) (b1 : List Int) (b2 : Int) : Option Bool :=
  ((if (a2 == b2) then gameroomref_sameInts_m a1 b1 else some false)).bind fun r1 => some ((a2 == b2) && r1)

set_option maxRecDepth 100000 in
set_option maxHeartbeats 4000000 in
theorem gameroomref_SameDraughts_w  {A1 : Option Addr} {c1 : Nat} {n1 : Nat} {a1 : List Int} {a2 : Int} {A2 : Option Addr} {c2 : Nat} {n2 : Nat} {b1 : List Int} {b2 : Int} {r : Bool} {w0 w : World} {B : Nat} {fs : List HP} (hm : gameroomref_SameDraughts_m a1 a2 b1 b2 = some r) (hS : Sep w0 B w (fs)) (hr_a1 : RdF w0 B fs A1 (vI a1)) (_hc_a1 : a1.length ≤ c1) (_hn_a1 : n1 = a1.length) (hr_b1 : RdF w0 B fs A2 (vI b1)) (_hc_b1 : b1.length ≤ c2) (_hn_b1 : n2 = b1.length) :
    Calls Try.prog 43 #[.agg #[.slice A1 n1 c1, .int .i64 a2], .agg #[.slice A2 n2 c2, .int .i64 b2]] w fun e w' => e = .returned (.bool r) ∧ Sep w0 B w' (fs) := by
  obtain ⟨i3, hi3, hz3, hs3, hb3⟩ := info_parts Info3
  obtain rfl := _hn_a1
  obtain rfl := _hn_b1
  unfold gameroomref_SameDraughts_m at hm
  replace hm := start_b hm
  refine enter (l := [.agg #[.slice A1 a1.length c1, .int .i64 a2], .agg #[.slice A2 b1.length c2, .int .i64 b2]]) (n := 17) Try.func43 rfl rfl (by simp) (fun a hF => ?_)
  refine seqR ?_
  refine at_do (d := 2) (s := vS (Instr.box 66 (.agg #[.slice A1 a1.length c1, .int .i64 a2]))) (v := .pointer (some ⟨w.heap.size, 0, none⟩)) (w' := w.alloc (.cells #[.slice A1 a1.length c1, .int .i64 a2] 66)) hF (by kernel_rfl) (by kernel_rfl) (by kernel_rfl) (fun a hF => ?_)
  have hS : Sep w0 B (w.alloc (.cells #[.slice A1 a1.length c1, .int .i64 a2] 66)) (blk w.heap.size 66 #[.slice A1 a1.length c1, .int .i64 a2] :: (fs)) := hS.box 66 #[.slice A1 a1.length c1, .int .i64 a2]
  generalize w.heap.size = g1 at hF hS
  generalize w.alloc (.cells #[.slice A1 a1.length c1, .int .i64 a2] 66) = w at hS ⊢
  refine at_do (d := 3) (s := vS (Instr.box 66 (.agg #[.slice A2 b1.length c2, .int .i64 b2]))) (v := .pointer (some ⟨w.heap.size, 0, none⟩)) (w' := w.alloc (.cells #[.slice A2 b1.length c2, .int .i64 b2] 66)) hF (by kernel_rfl) (by kernel_rfl) (by kernel_rfl) (fun a hF => ?_)
  have hS : Sep w0 B (w.alloc (.cells #[.slice A2 b1.length c2, .int .i64 b2] 66)) (blk w.heap.size 66 #[.slice A2 b1.length c2, .int .i64 b2] :: (blk g1 66 #[.slice A1 a1.length c1, .int .i64 a2] :: fs)) := hS.box 66 #[.slice A2 b1.length c2, .int .i64 b2]
  generalize w.heap.size = g2 at hF hS
  generalize w.alloc (.cells #[.slice A2 b1.length c2, .int .i64 b2] 66) = w at hS ⊢
  refine at_run 1 [] [] [2, 3] [pl 2 (.pointer (some ⟨g1, 0, none⟩)), pl 3 (.pointer (some ⟨g2, 0, none⟩))] hF hS (by kernel_rfl) (by kernel_rfl) ?_ (fun a w hF hS => ?_)
  · exact obs_nil
  refine at_end [2, 3] [pl 2 (.pointer (some ⟨g1, 0, none⟩)), pl 3 (.pointer (some ⟨g2, 0, none⟩))] hF rfl (by kernel_rfl) (fun hF => ?_)
  refine then_n ?_
  obtain ⟨r1, hr1, hm⟩ := call_b hm
  refine reg [⟨false, [], vS (Instr.loadAt 3 (.pointer (some ⟨g1, 1, none⟩))), .int .i64 a2⟩, ⟨false, [], vS (Instr.loadAt 3 (.pointer (some ⟨g2, 1, none⟩))), .int .i64 b2⟩, ⟨false, [((a2 == b2), true)], vS (Instr.loadAt 22 (.pointer (some ⟨g1, 0, none⟩))), .slice A1 a1.length c1⟩, ⟨false, [((a2 == b2), true)], vS (Instr.loadAt 22 (.pointer (some ⟨g2, 0, none⟩))), .slice A2 b1.length c2⟩, ⟨false, [((a2 == b2), true)], callFunc 87 #[.slice A1 a1.length c1, .slice A2 b1.length c2], .bool r1⟩] [none, some (.int .i64 a2), none, some (.int .i64 b2), none, none, none, some (.slice A1 a1.length c1), none, some (.slice A2 b1.length c2), some (.bool r1), none, none] [4] [pl 4 (.bool ((a2 == b2) && r1))] hF hS Fol (by kernel_rfl) (by kernel_rfl) (by kernel_rfl) ?_ (fun a w hF hS => ?_)
  · exact obs_cons (ob_load Agg3 (fun _ _ hS => (hS.at_ 1 rfl).cell rfl)) <| obs_cons (ob_load Agg3 (fun _ _ hS => (hS.at_ 0 rfl).cell rfl)) <| obs_cons (ob_load Agg22 (fun _ _ hS => (hS.at_ 1 rfl).cell rfl)) <| obs_cons (ob_load Agg22 (fun _ _ hS => (hS.at_ 0 rfl).cell rfl)) <| obs_cons (ob_call Try.func87 (by kernel_rfl) rfl (fun hy _ hS => gameroomref_sameInts_w (ite_some hr1 (by rw [show (a2 == b2) = true from hy ((a2 == b2), true) (by simp)]; try rfl)) hS (fun _ hS => (hr_a1 _ (hS.dropN 2))) _hc_a1 rfl (fun _ hS => (hr_b1 _ (hS.dropN 2))) _hc_b1 rfl)) <| obs_nil
  refine wpIn_ret ?_
  have hS := hS.pickN 2 [] (by decide)
  have hm : some ((a2 == b2) && r1) = some r := hm
  obtain rfl := Option.some.inj hm
  exact retV (rs := [.tmp 4]) (vs := [.bool ((a2 == b2) && r1)]) hF rfl (rv_t (by kernel_rfl) <| rv_nil) rfl ⟨rfl, hS⟩

noncomputable def gameroomref_DraughtsMay_J4  (p1 : Int) (one4 : Int) (two3 : Int) : Option (St (Int × Int × Int) (Fl (Int × Int) Bool)) :=
  some (.next (one4, two3, (w64 (p1 + 1))))

noncomputable def gameroomref_DraughtsMay_J6  (b1 : List Int) (two1 : Int) (p1 : Int) (one3 : Int) : Option (St (Int × Int × Int) (Fl (Int × Int) Bool)) :=
  if (decide ((geti b1 p1) < 0)) then ((gameroomref_DraughtsMay_J4 p1) one3 (w64 (two1 + 1))) else ((gameroomref_DraughtsMay_J4 p1) one3 two1)

noncomputable def gameroomref_DraughtsMay_J5  (b1 : List Int) (one1 : Int) (two1 : Int) (p1 : Int) : Option (St (Int × Int × Int) (Fl (Int × Int) Bool)) :=
  if (decide ((0 : Int) < (geti b1 p1))) then ((gameroomref_DraughtsMay_J6 b1 two1 p1) (w64 (one1 + 1))) else ((gameroomref_DraughtsMay_J6 b1 two1 p1) one1)

noncomputable def gameroomref_DraughtsMay_J3  (b1 : List Int) (one1 : Int) (two1 : Int) (p1 : Int) : Option (St (Int × Int × Int) (Fl (Int × Int) Bool)) :=
  asrt (0 ≤ p1 ∧ p1 < (b1.length : Int)) <| (gameroomref_within_m (geti b1 p1) (-2) 2).bind fun r2 => if (((!r2) || (((geti b1 p1) == 1) && (decide (p1 ≤ 4)))) || (((geti b1 p1) == (-1)) && (decide ((29 : Int) ≤ p1)))) then (some (.done (.ret false))) else ((gameroomref_DraughtsMay_J5 b1 one1 two1 p1))

noncomputable def gameroomref_DraughtsMay_J2  (one2 : Int) (two2 : Int) : Option Bool :=
  some ((decide (one2 ≤ 12)) && (decide (two2 ≤ 12)))

noncomputable def gameroomref_DraughtsMay_K1  : (Fl (Int × Int) Bool) → Option Bool :=
  fun (x : (Fl (Int × Int) Bool)) => match x with | .go (one2, two2) => gameroomref_DraughtsMay_J2 one2 two2 | .ret x => some x

noncomputable def gameroomref_DraughtsMay_L1  (b1 : List Int) : (Int × Int × Int) → Option (St (Int × Int × Int) (Fl (Int × Int) Bool)) :=
  fun (x : (Int × Int × Int)) => match x with | (one1, two1, p1) => if (decide (p1 < 33)) then ((gameroomref_DraughtsMay_J3 b1 one1 two1 p1)) else (some (.done (.go (one1, two1))))

noncomputable def gameroomref_DraughtsMay_J1  (b1 : List Int) : Option Bool :=
  (loop (gameroomref_DraughtsMay_L1 b1) (0, 0, 1)).bind gameroomref_DraughtsMay_K1

noncomputable def gameroomref_DraughtsMay_m  (b1 : List Int) (b2 : Int) : Option Bool :=
  asrt (((b1.length : Int) != 33) = false → 0 ≤ (0 : Int) ∧ (0 : Int) < (b1.length : Int)) <| ((if (!(((b1.length : Int) != 33) || ((geti b1 0) != 0))) then gameroomref_within_m b2 1 2 else some false)).bind fun r1 => if ((((b1.length : Int) != 33) || ((geti b1 0) != 0)) || (!r1)) then (some false) else ((gameroomref_DraughtsMay_J1 b1))

set_option maxRecDepth 100000 in
set_option maxHeartbeats 4000000 in
theorem gameroomref_DraughtsMay_w  {A1 : Option Addr} {c1 : Nat} {n1 : Nat} {b1 : List Int} {b2 : Int} {r : Bool} {w0 w : World} {B : Nat} {fs : List HP} (hm : gameroomref_DraughtsMay_m b1 b2 = some r) (hS : Sep w0 B w (fs)) (hr_b1 : RdF w0 B fs A1 (vI b1)) (_hc_b1 : b1.length ≤ c1) (_hn_b1 : n1 = b1.length) :
    Calls Try.prog 46 #[.agg #[.slice A1 n1 c1, .int .i64 b2]] w fun e w' => e = .returned (.bool r) ∧ Sep w0 B w' (fs) := by
  obtain ⟨i3, hi3, hz3, hs3, hb3⟩ := info_parts Info3
  obtain rfl := _hn_b1
  unfold gameroomref_DraughtsMay_m at hm
  replace hm := start_b hm
  refine enter (l := [.agg #[.slice A1 b1.length c1, .int .i64 b2]]) (n := 66) Try.func46 rfl rfl (by simp) (fun a hF => ?_)
  refine seqR ?_
  refine at_do (d := 1) (s := vS (Instr.box 66 (.agg #[.slice A1 b1.length c1, .int .i64 b2]))) (v := .pointer (some ⟨w.heap.size, 0, none⟩)) (w' := w.alloc (.cells #[.slice A1 b1.length c1, .int .i64 b2] 66)) hF (by kernel_rfl) (by kernel_rfl) (by kernel_rfl) (fun a hF => ?_)
  have hS : Sep w0 B (w.alloc (.cells #[.slice A1 b1.length c1, .int .i64 b2] 66)) (blk w.heap.size 66 #[.slice A1 b1.length c1, .int .i64 b2] :: (fs)) := hS.box 66 #[.slice A1 b1.length c1, .int .i64 b2]
  generalize w.heap.size = g1 at hF hS
  generalize w.alloc (.cells #[.slice A1 b1.length c1, .int .i64 b2] 66) = w at hS ⊢
  refine at_run 1 [] [] [1] [pl 1 (.pointer (some ⟨g1, 0, none⟩))] hF hS (by kernel_rfl) (by kernel_rfl) ?_ (fun a w hF hS => ?_)
  · exact obs_nil
  refine at_end [1] [pl 1 (.pointer (some ⟨g1, 0, none⟩))] hF rfl (by kernel_rfl) (fun hF => ?_)
  refine then_n ?_
  refine seq_cut (fun a w => Fr 66 [pl 1 (.pointer (some ⟨g1, 0, none⟩))] a ∧ Sep w0 B w (blk g1 66 #[.slice A1 b1.length c1, .int .i64 b2] :: fs) ∧ ((gameroomref_DraughtsMay_J1 b1)).bind some = some r) ?_ ?_
  · rintro a w ⟨hF, hS, hm⟩
    unfold gameroomref_DraughtsMay_J1 at hm
    refine reg [] [] [1, 3, 4] [pl 1 (.pointer (some ⟨g1, 0, none⟩)), pl 3 (.int .i64 0), pl 4 (.int .i64 0)] hF hS Fol (by kernel_rfl) (by kernel_rfl) (by kernel_rfl) ?_ (fun a w hF hS => ?_)
    · exact obs_nil
    refine seq_cut (fun a w => ∃ (one2 : Int) (two2 : Int), Fr 66 [pl 3 (.int .i64 one2), pl 4 (.int .i64 two2)] a ∧ Sep w0 B w (fs) ∧ (gameroomref_DraughtsMay_J2 one2 two2).bind some = some r) ?_ ?_
    · rintro a w ⟨one2, two2, hF, hS, hm⟩
      unfold gameroomref_DraughtsMay_J2 at hm
      refine reg [] [] [2] [pl 2 (.bool ((decide (one2 ≤ 12)) && (decide (two2 ≤ 12))))] hF hS Fol (by kernel_rfl) (by kernel_rfl) (by kernel_rfl) ?_ (fun a w hF hS => ?_)
      · exact obs_nil
      refine wpIn_ret ?_
      have hm : some ((decide (one2 ≤ 12)) && (decide (two2 ≤ 12))) = some r := hm
      obtain rfl := Option.some.inj hm
      exact retV (rs := [.tmp 2]) (vs := [.bool ((decide (one2 ≤ 12)) && (decide (two2 ≤ 12)))]) hF rfl (rv_t (by kernel_rfl) <| rv_nil) rfl ⟨rfl, hS⟩
    · refine reg [] [] [1, 3, 4, 5] [pl 1 (.pointer (some ⟨g1, 0, none⟩)), pl 3 (.int .i64 0), pl 4 (.int .i64 0), pl 5 (.int .i64 1)] hF hS Fol (by kernel_rfl) (by kernel_rfl) (by kernel_rfl) ?_ (fun a w hF hS => ?_)
      · exact obs_nil
      refine wpIn_block ?_
      refine wp_loop_model (S := (Int × Int × Int)) (R := (Fl (Int × Int) Bool)) (gameroomref_DraughtsMay_L1 b1) (fun x => (gameroomref_DraughtsMay_K1 x).bind some) r (fun (x : (Int × Int × Int)) a w => Fr 66 [pl 1 (.pointer (some ⟨g1, 0, none⟩)), pl 3 (.int .i64 x.1), pl 4 (.int .i64 x.2.1), pl 5 (.int .i64 x.2.2)] a ∧ Sep w0 B w (blk g1 66 #[.slice A1 b1.length c1, .int .i64 b2] :: fs)) (assoc_b hm) ⟨hF.weak [1, 3, 4, 5] (by kernel_rfl), hS⟩ ?_
      clear hF hS hm
      rintro nn1 ⟨one1, two1, p1⟩ a w ⟨hF, hS⟩ hm
      generalize hφ1 : stK (gameroomref_DraughtsMay_L1 b1) nn1 (fun x => (gameroomref_DraughtsMay_K1 x).bind some) = φ1 at hm
      unfold gameroomref_DraughtsMay_L1 at hm
      dsimp only at hF hS hm
      refine seq_cut (fun a w => Fr 66 [pl 1 (.pointer (some ⟨g1, 0, none⟩)), pl 3 (.int .i64 one1), pl 4 (.int .i64 two1), pl 5 (.int .i64 p1)] a ∧ Sep w0 B w (blk g1 66 #[.slice A1 b1.length c1, .int .i64 b2] :: fs) ∧ ((gameroomref_DraughtsMay_J3 b1 one1 two1 p1)).bind φ1 = some r) ?_ ?_
      · rintro a w ⟨hF, hS, hm⟩
        unfold gameroomref_DraughtsMay_J3 at hm
        refine seq_cut (fun a w => ∃ (one4 : Int) (two3 : Int), Fr 66 [pl 1 (.pointer (some ⟨g1, 0, none⟩)), pl 3 (.int .i64 one4), pl 4 (.int .i64 two3), pl 5 (.int .i64 p1)] a ∧ Sep w0 B w (blk g1 66 #[.slice A1 b1.length c1, .int .i64 b2] :: fs) ∧ ((gameroomref_DraughtsMay_J4 p1) one4 two3).bind φ1 = some r) ?_ ?_
        · rintro a w ⟨one4, two3, hF, hS, hm⟩
          unfold gameroomref_DraughtsMay_J4 at hm
          refine reg1 [] [] [1, 3, 4, 5] [pl 1 (.pointer (some ⟨g1, 0, none⟩)), pl 3 (.int .i64 one4), pl 4 (.int .i64 two3), pl 5 (.int .i64 (w64 (p1 + 1)))] hF hS Fol (by kernel_rfl) (by kernel_rfl) (by kernel_rfl) ?_ (fun a w hF hS => ?_)
          · exact obs_nil
          refine then_n ?_
          rw [← hφ1] at hm
          exact ⟨(one4, two3, (w64 (p1 + 1))), ⟨hF.weak [1, 3, 4, 5] (by kernel_rfl), hS⟩, hm⟩
        · refine wpIn_block ?_
          obtain ⟨hp2, hm⟩ := asrt_b hm
          refine reg [⟨false, [], vS (Instr.loadAt 22 (.pointer (some ⟨g1, 0, none⟩))), .slice A1 b1.length c1⟩, ⟨true, [], vS (Instr.indexAt 22 (.slice A1 b1.length c1) (.int .i64 p1)), .pointer (some (sAddr A1 p1))⟩, ⟨false, [], vS (Instr.loadAt 3 (.pointer (some (sAddr A1 p1)))), .int .i64 (geti b1 p1)⟩] [none, some (.slice A1 b1.length c1), none, some (.pointer (some (sAddr A1 p1))), some (.int .i64 (geti b1 p1)), none] [1, 3, 4, 5, 6] [pl 1 (.pointer (some ⟨g1, 0, none⟩)), pl 3 (.int .i64 one1), pl 4 (.int .i64 two1), pl 5 (.int .i64 p1), pl 6 (.int .i64 (geti b1 p1))] hF hS Fol (by kernel_rfl) (by kernel_rfl) (by kernel_rfl) ?_ (fun a w hF hS => ?_)
          · exact obs_cons (ob_load Agg22 (fun _ _ hS => (hS.at_ 0 rfl).cell rfl)) <| obs_cons (ob_ix1 (f := (Value.int .i64)) (m := b1) Und22 hi3 hs3 (hr_b1 _ (hS.dropN 1)) rfl (fun _ => hp2)) <| obs_cons (ob_get1 (n := b1.length) (m := b1) (Value.int .i64) (0 : Int) Agg3 (fun _ hS => ⟨_, (hr_b1 _ (hS.dropN 1))⟩) (fun _ hS => rfl) (fun _ => hp2)) <| obs_nil
          refine seq_cut (fun a w => Fr 66 [pl 1 (.pointer (some ⟨g1, 0, none⟩)), pl 3 (.int .i64 one1), pl 4 (.int .i64 two1), pl 5 (.int .i64 p1), pl 6 (.int .i64 (geti b1 p1))] a ∧ Sep w0 B w (blk g1 66 #[.slice A1 b1.length c1, .int .i64 b2] :: fs) ∧ ((gameroomref_DraughtsMay_J5 b1 one1 two1 p1)).bind φ1 = some r) ?_ ?_
          · rintro a w ⟨hF, hS, hm⟩
            unfold gameroomref_DraughtsMay_J5 at hm
            refine seq_cut (fun a w => ∃ (one3 : Int), Fr 66 [pl 1 (.pointer (some ⟨g1, 0, none⟩)), pl 3 (.int .i64 one3), pl 4 (.int .i64 two1), pl 5 (.int .i64 p1), pl 6 (.int .i64 (geti b1 p1))] a ∧ Sep w0 B w (blk g1 66 #[.slice A1 b1.length c1, .int .i64 b2] :: fs) ∧ ((gameroomref_DraughtsMay_J6 b1 two1 p1) one3).bind φ1 = some r) ?_ ?_
            · rintro a w ⟨one3, hF, hS, hm⟩
              unfold gameroomref_DraughtsMay_J6 at hm
              refine reg [] [] [1, 3, 4, 5, 57] [pl 1 (.pointer (some ⟨g1, 0, none⟩)), pl 3 (.int .i64 one3), pl 4 (.int .i64 two1), pl 5 (.int .i64 p1), pl 57 (.bool (decide ((geti b1 p1) < 0)))] hF hS Fol (by kernel_rfl) (by kernel_rfl) (by kernel_rfl) ?_ (fun a w hF hS => ?_)
              · exact obs_nil
              refine cond_ev (t := 57) (b := decide ((geti b1 p1) < 0)) hF (by kernel_rfl) (fun hb => ?_) (fun hb => ?_)
              · replace hm := if_t hm hb
                refine reg1 [] [] [1, 3, 4, 5] [pl 1 (.pointer (some ⟨g1, 0, none⟩)), pl 3 (.int .i64 one3), pl 4 (.int .i64 (w64 (two1 + 1))), pl 5 (.int .i64 p1)] hF hS Fol (by kernel_rfl) (by kernel_rfl) (by kernel_rfl) ?_ (fun a w hF hS => ?_)
                · exact obs_nil
                refine block_n ?_
                refine then_n ?_
                exact ⟨one3, (w64 (two1 + 1)), hF.weak [1, 3, 4, 5] (by kernel_rfl), hS, hm⟩
              · replace hm := if_f hm hb
                refine wpIn_skip ?_
                refine block_n ?_
                refine then_n ?_
                exact ⟨one3, two1, hF.weak [1, 3, 4, 5] (by kernel_rfl), hS, hm⟩
            · refine reg [] [] [1, 3, 4, 5, 6, 53] [pl 1 (.pointer (some ⟨g1, 0, none⟩)), pl 3 (.int .i64 one1), pl 4 (.int .i64 two1), pl 5 (.int .i64 p1), pl 6 (.int .i64 (geti b1 p1)), pl 53 (.bool (decide ((0 : Int) < (geti b1 p1))))] hF hS Fol (by kernel_rfl) (by kernel_rfl) (by kernel_rfl) ?_ (fun a w hF hS => ?_)
              · exact obs_nil
              refine cond_ev (t := 53) (b := decide ((0 : Int) < (geti b1 p1))) hF (by kernel_rfl) (fun hb => ?_) (fun hb => ?_)
              · replace hm := if_t hm hb
                refine reg1 [] [] [1, 3, 4, 5, 6] [pl 1 (.pointer (some ⟨g1, 0, none⟩)), pl 3 (.int .i64 (w64 (one1 + 1))), pl 4 (.int .i64 two1), pl 5 (.int .i64 p1), pl 6 (.int .i64 (geti b1 p1))] hF hS Fol (by kernel_rfl) (by kernel_rfl) (by kernel_rfl) ?_ (fun a w hF hS => ?_)
                · exact obs_nil
                refine then_n ?_
                exact ⟨(w64 (one1 + 1)), hF.weak [1, 3, 4, 5, 6] (by kernel_rfl), hS, hm⟩
              · replace hm := if_f hm hb
                refine wpIn_skip ?_
                refine then_n ?_
                exact ⟨one1, hF.weak [1, 3, 4, 5, 6] (by kernel_rfl), hS, hm⟩
          · obtain ⟨r2, hr2, hm⟩ := call_b hm
            refine reg [⟨false, [], callFunc 85 #[.int .i64 (geti b1 p1), .int .i64 (-2), .int .i64 2], .bool r2⟩] [none, some (.bool r2), none, none, none, none, none, none, none, none, none, none, none, none, none, none, none, none, none] [1, 3, 4, 5, 6, 51] [pl 1 (.pointer (some ⟨g1, 0, none⟩)), pl 3 (.int .i64 one1), pl 4 (.int .i64 two1), pl 5 (.int .i64 p1), pl 6 (.int .i64 (geti b1 p1)), pl 51 (.bool (((!r2) || (((geti b1 p1) == 1) && (decide (p1 ≤ 4)))) || (((geti b1 p1) == (-1)) && (decide ((29 : Int) ≤ p1)))))] hF hS Fol (by kernel_rfl) (by kernel_rfl) (by kernel_rfl) ?_ (fun a w hF hS => ?_)
            · exact obs_cons (ob_call Try.func85 (by kernel_rfl) rfl (fun _ _ hS => gameroomref_within_w hr2 hS )) <| obs_nil
            refine cond_ev (t := 51) (b := ((!r2) || (((geti b1 p1) == 1) && (decide (p1 ≤ 4)))) || (((geti b1 p1) == (-1)) && (decide ((29 : Int) ≤ p1)))) hF (by kernel_rfl) (fun hb => ?_) (fun hb => ?_)
            · replace hm := if_t hm hb
              refine reg [] [] [2] [pl 2 (.bool false)] hF hS Fol (by kernel_rfl) (by kernel_rfl) (by kernel_rfl) ?_ (fun a w hF hS => ?_)
              · exact obs_nil
              refine wpIn_ret ?_
              refine then_r (block_r (then_r (then_r (block_r (then_r ?_)))))
              rw [← hφ1] at hm
              replace hm := done_b hm
              unfold gameroomref_DraughtsMay_K1 at hm
              try dsimp only at hm
              have hS := hS.pickN 1 [] (by decide)
              have hm : some false = some r := hm
              obtain rfl := Option.some.inj hm
              exact retV (rs := [.tmp 2]) (vs := [.bool false]) hF rfl (rv_t (by kernel_rfl) <| rv_nil) rfl ⟨rfl, hS⟩
            · replace hm := if_f hm hb
              refine wpIn_skip ?_
              refine then_n ?_
              exact ⟨hF.weak [1, 3, 4, 5, 6] (by kernel_rfl), hS, hm⟩
      · refine reg [] [] [1, 3, 4, 5, 25] [pl 1 (.pointer (some ⟨g1, 0, none⟩)), pl 3 (.int .i64 one1), pl 4 (.int .i64 two1), pl 5 (.int .i64 p1), pl 25 (.bool (decide (p1 < 33)))] hF hS Fol (by kernel_rfl) (by kernel_rfl) (by kernel_rfl) ?_ (fun a w hF hS => ?_)
        · exact obs_nil
        refine cond_ev (t := 25) (b := decide (p1 < 33)) hF (by kernel_rfl) (fun hb => ?_) (fun hb => ?_)
        · replace hm := if_t hm hb
          refine wpIn_skip ?_
          refine then_n ?_
          exact ⟨hF.weak [1, 3, 4, 5] (by kernel_rfl), hS, hm⟩
        · replace hm := if_f hm hb
          refine wpIn_exit ?_
          refine then_e (then_e (block_e (then_n ?_)))
          have hS := hS.pickN 1 [] (by decide)
          rw [← hφ1] at hm
          replace hm := done_b hm
          unfold gameroomref_DraughtsMay_K1 at hm
          try dsimp only at hm
          have hm : (gameroomref_DraughtsMay_J2 one1 two1).bind some = some r := hm
          exact ⟨one1, two1, hF.weak [3, 4] (by kernel_rfl), hS, hm⟩
  · obtain ⟨hp1, hm⟩ := asrt_b hm
    obtain ⟨r1, hr1, hm⟩ := call_b hm
    refine reg [⟨false, [], vS (Instr.loadAt 22 (.pointer (some ⟨g1, 0, none⟩))), .slice A1 b1.length c1⟩, ⟨false, [(((b1.length : Int) != 33), false)], vS (Instr.loadAt 22 (.pointer (some ⟨g1, 0, none⟩))), .slice A1 b1.length c1⟩, ⟨true, [(((b1.length : Int) != 33), false)], vS (Instr.indexAt 22 (.slice A1 b1.length c1) (.int .i64 0)), .pointer (some (sAddr A1 0))⟩, ⟨false, [(((b1.length : Int) != 33), false)], vS (Instr.loadAt 3 (.pointer (some (sAddr A1 0)))), .int .i64 (geti b1 0)⟩, ⟨false, [(((b1.length : Int) != 33) || ((geti b1 0) != 0), false)], vS (Instr.loadAt 3 (.pointer (some ⟨g1, 1, none⟩))), .int .i64 b2⟩, ⟨false, [(((b1.length : Int) != 33) || ((geti b1 0) != 0), false)], callFunc 85 #[.int .i64 b2, .int .i64 1, .int .i64 2], .bool r1⟩] [none, some (.slice A1 b1.length c1), none, none, none, none, some (.slice A1 b1.length c1), some (.pointer (some (sAddr A1 0))), some (.int .i64 (geti b1 0)), none, none, none, none, some (.int .i64 b2), some (.bool r1), none, none] [1, 23] [pl 1 (.pointer (some ⟨g1, 0, none⟩)), pl 23 (.bool ((((b1.length : Int) != 33) || ((geti b1 0) != 0)) || (!r1)))] hF hS Fol (by kernel_rfl) (by kernel_rfl) (by kernel_rfl) ?_ (fun a w hF hS => ?_)
    · exact obs_cons (ob_load Agg22 (fun _ _ hS => (hS.at_ 0 rfl).cell rfl)) <| obs_cons (ob_load Agg22 (fun _ _ hS => (hS.at_ 0 rfl).cell rfl)) <| obs_cons (ob_ix1 (f := (Value.int .i64)) (m := b1) Und22 hi3 hs3 (hr_b1 _ (hS.dropN 1)) rfl (fun hy => hp1 (hy (((b1.length : Int) != 33), false) (by simp)))) <| obs_cons (ob_get1 (n := b1.length) (m := b1) (Value.int .i64) (0 : Int) Agg3 (fun _ hS => ⟨_, (hr_b1 _ (hS.dropN 1))⟩) (fun _ hS => rfl) (fun hy => hp1 (hy (((b1.length : Int) != 33), false) (by simp)))) <| obs_cons (ob_load Agg3 (fun _ _ hS => (hS.at_ 0 rfl).cell rfl)) <| obs_cons (ob_call Try.func85 (by kernel_rfl) rfl (fun hy _ hS => gameroomref_within_w (ite_some hr1 (by rw [show (((b1.length : Int) != 33) || ((geti b1 0) != 0)) = false from hy (((b1.length : Int) != 33) || ((geti b1 0) != 0), false) (by simp)]; try rfl)) hS )) <| obs_nil
    refine cond_ev (t := 23) (b := (((b1.length : Int) != 33) || ((geti b1 0) != 0)) || (!r1)) hF (by kernel_rfl) (fun hb => ?_) (fun hb => ?_)
    · replace hm := if_t hm hb
      refine reg [] [] [2] [pl 2 (.bool false)] hF hS Fol (by kernel_rfl) (by kernel_rfl) (by kernel_rfl) ?_ (fun a w hF hS => ?_)
      · exact obs_nil
      refine wpIn_ret ?_
      refine then_r ?_
      have hS := hS.pickN 1 [] (by decide)
      have hm : some false = some r := hm
      obtain rfl := Option.some.inj hm
      exact retV (rs := [.tmp 2]) (vs := [.bool false]) hF rfl (rv_t (by kernel_rfl) <| rv_nil) rfl ⟨rfl, hS⟩
    · replace hm := if_f hm hb
      refine wpIn_skip ?_
      refine then_n ?_
      exact ⟨hF.weak [1] (by kernel_rfl), hS, hm⟩

noncomputable def gameroomref_ownerOf_J2  : Option Int :=
  some 0

noncomputable def gameroomref_ownerOf_J1  (x1 : Int) : Option Int :=
  if (decide (x1 < 0)) then (some 2) else (gameroomref_ownerOf_J2)

noncomputable def gameroomref_ownerOf_m  (x1 : Int) : Option Int :=
  if (decide ((0 : Int) < x1)) then (some 1) else ((gameroomref_ownerOf_J1 x1))

set_option maxRecDepth 100000 in
set_option maxHeartbeats 4000000 in
theorem gameroomref_ownerOf_w  {x1 : Int} {r : Int} {w0 w : World} {B : Nat} {fs : List HP} (hm : gameroomref_ownerOf_m x1 = some r) (hS : Sep w0 B w (fs)) :
    Calls Try.prog 117 #[.int .i64 x1] w fun e w' => e = .returned (.int .i64 r) ∧ Sep w0 B w' (fs) := by
  unfold gameroomref_ownerOf_m at hm
  replace hm := start_b hm
  refine enter (l := [.int .i64 x1]) (n := 7) Try.func117 rfl rfl (by simp) (fun a hF => ?_)
  refine reg [] [] [0] [pl 0 (.int .i64 x1)] hF hS Fol (by kernel_rfl) (by kernel_rfl) (by kernel_rfl) ?_ (fun a w hF hS => ?_)
  · exact obs_nil
  refine seq_cut (fun a w => Fr 7 [pl 0 (.int .i64 x1)] a ∧ Sep w0 B w (fs) ∧ ((gameroomref_ownerOf_J1 x1)).bind some = some r) ?_ ?_
  · rintro a w ⟨hF, hS, hm⟩
    unfold gameroomref_ownerOf_J1 at hm
    refine seq_cut (fun a w => Fr 7 [] a ∧ Sep w0 B w (fs) ∧ (gameroomref_ownerOf_J2).bind some = some r) ?_ ?_
    · rintro a w ⟨hF, hS, hm⟩
      unfold gameroomref_ownerOf_J2 at hm
      refine reg [] [] [2] [pl 2 (.int .i64 0)] hF hS Fol (by kernel_rfl) (by kernel_rfl) (by kernel_rfl) ?_ (fun a w hF hS => ?_)
      · exact obs_nil
      refine wpIn_ret ?_
      have hm : some 0 = some r := hm
      obtain rfl := Option.some.inj hm
      exact retV (rs := [.tmp 2]) (vs := [.int .i64 0]) hF rfl (rv_t (by kernel_rfl) <| rv_nil) rfl ⟨rfl, hS⟩
    · refine reg [] [] [6] [pl 6 (.bool (decide (x1 < 0)))] hF hS Fol (by kernel_rfl) (by kernel_rfl) (by kernel_rfl) ?_ (fun a w hF hS => ?_)
      · exact obs_nil
      refine cond_ev (t := 6) (b := decide (x1 < 0)) hF (by kernel_rfl) (fun hb => ?_) (fun hb => ?_)
      · replace hm := if_t hm hb
        refine reg [] [] [2] [pl 2 (.int .i64 2)] hF hS Fol (by kernel_rfl) (by kernel_rfl) (by kernel_rfl) ?_ (fun a w hF hS => ?_)
        · exact obs_nil
        refine wpIn_ret ?_
        refine then_r ?_
        have hm : some 2 = some r := hm
        obtain rfl := Option.some.inj hm
        exact retV (rs := [.tmp 2]) (vs := [.int .i64 2]) hF rfl (rv_t (by kernel_rfl) <| rv_nil) rfl ⟨rfl, hS⟩
      · replace hm := if_f hm hb
        refine wpIn_skip ?_
        refine then_n ?_
        exact ⟨hF.weak [] (by kernel_rfl), hS, hm⟩
  · refine reg [] [] [0, 4] [pl 0 (.int .i64 x1), pl 4 (.bool (decide ((0 : Int) < x1)))] hF hS Fol (by kernel_rfl) (by kernel_rfl) (by kernel_rfl) ?_ (fun a w hF hS => ?_)
    · exact obs_nil
    refine cond_ev (t := 4) (b := decide ((0 : Int) < x1)) hF (by kernel_rfl) (fun hb => ?_) (fun hb => ?_)
    · replace hm := if_t hm hb
      refine reg [] [] [2] [pl 2 (.int .i64 1)] hF hS Fol (by kernel_rfl) (by kernel_rfl) (by kernel_rfl) ?_ (fun a w hF hS => ?_)
      · exact obs_nil
      refine wpIn_ret ?_
      refine then_r ?_
      have hm : some 1 = some r := hm
      obtain rfl := Option.some.inj hm
      exact retV (rs := [.tmp 2]) (vs := [.int .i64 1]) hF rfl (rv_t (by kernel_rfl) <| rv_nil) rfl ⟨rfl, hS⟩
    · replace hm := if_f hm hb
      refine wpIn_skip ?_
      refine then_n ?_
      exact ⟨hF.weak [0] (by kernel_rfl), hS, hm⟩

noncomputable def gameroomref_darkY_m  (p1 : Int) : Option Int :=
  some (w64 (Int.tdiv (w64 (p1 - 1)) 4))

set_option maxRecDepth 100000 in
set_option maxHeartbeats 4000000 in
theorem gameroomref_darkY_w  {p1 : Int} {r : Int} {w0 w : World} {B : Nat} {fs : List HP} (hm : gameroomref_darkY_m p1 = some r) (hS : Sep w0 B w (fs)) :
    Calls Try.prog 122 #[.int .i64 p1] w fun e w' => e = .returned (.int .i64 r) ∧ Sep w0 B w' (fs) := by
  unfold gameroomref_darkY_m at hm
  replace hm := start_b hm
  refine enter (l := [.int .i64 p1]) (n := 6) Try.func122 rfl rfl (by simp) (fun a hF => ?_)
  refine reg [] [] [0] [pl 0 (.int .i64 p1)] hF hS Fol (by kernel_rfl) (by kernel_rfl) (by kernel_rfl) ?_ (fun a w hF hS => ?_)
  · exact obs_nil
  refine reg [] [] [2] [pl 2 (.int .i64 (w64 (Int.tdiv (w64 (p1 - 1)) 4)))] hF hS Fol (by kernel_rfl) (by kernel_rfl) (by kernel_rfl) ?_ (fun a w hF hS => ?_)
  · exact obs_nil
  refine wpIn_ret ?_
  have hm : some (w64 (Int.tdiv (w64 (p1 - 1)) 4)) = some r := hm
  obtain rfl := Option.some.inj hm
  exact retV (rs := [.tmp 2]) (vs := [.int .i64 (w64 (Int.tdiv (w64 (p1 - 1)) 4))]) hF rfl (rv_t (by kernel_rfl) <| rv_nil) rfl ⟨rfl, hS⟩

noncomputable def gameroomref_darkX_J1  (p1 : Int) : Option Int :=
  some (w64 (2 * (Int.tmod (w64 (p1 - 1)) 4)))

noncomputable def gameroomref_darkX_m  (p1 : Int) : Option Int :=
  (gameroomref_darkY_m p1).bind fun r1 => if ((Int.tmod r1 2) == 0) then (some (w64 ((w64 (2 * (Int.tmod (w64 (p1 - 1)) 4))) + 1))) else ((gameroomref_darkX_J1 p1))

set_option maxRecDepth 100000 in
set_option maxHeartbeats 4000000 in
theorem gameroomref_darkX_w  {p1 : Int} {r : Int} {w0 w : World} {B : Nat} {fs : List HP} (hm : gameroomref_darkX_m p1 = some r) (hS : Sep w0 B w (fs)) :
    Calls Try.prog 121 #[.int .i64 p1] w fun e w' => e = .returned (.int .i64 r) ∧ Sep w0 B w' (fs) := by
  unfold gameroomref_darkX_m at hm
  replace hm := start_b hm
  refine enter (l := [.int .i64 p1]) (n := 16) Try.func121 rfl rfl (by simp) (fun a hF => ?_)
  refine reg [] [] [0] [pl 0 (.int .i64 p1)] hF hS Fol (by kernel_rfl) (by kernel_rfl) (by kernel_rfl) ?_ (fun a w hF hS => ?_)
  · exact obs_nil
  refine seq_cut (fun a w => Fr 16 [pl 0 (.int .i64 p1)] a ∧ Sep w0 B w (fs) ∧ ((gameroomref_darkX_J1 p1)).bind some = some r) ?_ ?_
  · rintro a w ⟨hF, hS, hm⟩
    unfold gameroomref_darkX_J1 at hm
    refine reg [] [] [2] [pl 2 (.int .i64 (w64 (2 * (Int.tmod (w64 (p1 - 1)) 4))))] hF hS Fol (by kernel_rfl) (by kernel_rfl) (by kernel_rfl) ?_ (fun a w hF hS => ?_)
    · exact obs_nil
    refine wpIn_ret ?_
    have hm : some (w64 (2 * (Int.tmod (w64 (p1 - 1)) 4))) = some r := hm
    obtain rfl := Option.some.inj hm
    exact retV (rs := [.tmp 2]) (vs := [.int .i64 (w64 (2 * (Int.tmod (w64 (p1 - 1)) 4)))]) hF rfl (rv_t (by kernel_rfl) <| rv_nil) rfl ⟨rfl, hS⟩
  · obtain ⟨r1, hr1, hm⟩ := call_b hm
    refine reg [⟨false, [], callFunc 122 #[.int .i64 p1], .int .i64 r1⟩] [none, some (.int .i64 r1), none, none] [0, 6] [pl 0 (.int .i64 p1), pl 6 (.bool ((Int.tmod r1 2) == 0))] hF hS Fol (by kernel_rfl) (by kernel_rfl) (by kernel_rfl) ?_ (fun a w hF hS => ?_)
    · exact obs_cons (ob_call Try.func122 (by kernel_rfl) rfl (fun _ _ hS => gameroomref_darkY_w hr1 hS )) <| obs_nil
    refine cond_ev (t := 6) (b := ((Int.tmod r1 2) == 0)) hF (by kernel_rfl) (fun hb => ?_) (fun hb => ?_)
    · replace hm := if_t hm hb
      refine reg [] [] [2] [pl 2 (.int .i64 (w64 ((w64 (2 * (Int.tmod (w64 (p1 - 1)) 4))) + 1)))] hF hS Fol (by kernel_rfl) (by kernel_rfl) (by kernel_rfl) ?_ (fun a w hF hS => ?_)
      · exact obs_nil
      refine wpIn_ret ?_
      refine then_r ?_
      have hm : some (w64 ((w64 (2 * (Int.tmod (w64 (p1 - 1)) 4))) + 1)) = some r := hm
      obtain rfl := Option.some.inj hm
      exact retV (rs := [.tmp 2]) (vs := [.int .i64 (w64 ((w64 (2 * (Int.tmod (w64 (p1 - 1)) 4))) + 1))]) hF rfl (rv_t (by kernel_rfl) <| rv_nil) rfl ⟨rfl, hS⟩
    · replace hm := if_f hm hb
      refine wpIn_skip ?_
      refine then_n ?_
      exact ⟨hF.weak [0] (by kernel_rfl), hS, hm⟩

noncomputable def gameroomref_darkAt_J1  (x1 : Int) (y1 : Int) : Option Int :=
  some (w64 ((w64 ((w64 (4 * y1)) + (w64 (Int.tdiv x1 2)))) + 1))

noncomputable def gameroomref_darkAt_m  (x1 : Int) (y1 : Int) : Option Int :=
  (gameroomref_within_m x1 0 7).bind fun r1 => ((if (!(!r1)) then gameroomref_within_m y1 0 7 else some false)).bind fun r2 => if (((!r1) || (!r2)) || ((Int.tmod (w64 (x1 + y1)) 2) == 0)) then (some 0) else ((gameroomref_darkAt_J1 x1 y1))

set_option maxRecDepth 100000 in
set_option maxHeartbeats 4000000 in
theorem gameroomref_darkAt_w  {x1 : Int} {y1 : Int} {r : Int} {w0 w : World} {B : Nat} {fs : List HP} (hm : gameroomref_darkAt_m x1 y1 = some r) (hS : Sep w0 B w (fs)) :
    Calls Try.prog 120 #[.int .i64 x1, .int .i64 y1] w fun e w' => e = .returned (.int .i64 r) ∧ Sep w0 B w' (fs) := by
  unfold gameroomref_darkAt_m at hm
  replace hm := start_b hm
  refine enter (l := [.int .i64 x1, .int .i64 y1]) (n := 26) Try.func120 rfl rfl (by simp) (fun a hF => ?_)
  refine reg [] [] [0, 1] [pl 0 (.int .i64 x1), pl 1 (.int .i64 y1)] hF hS Fol (by kernel_rfl) (by kernel_rfl) (by kernel_rfl) ?_ (fun a w hF hS => ?_)
  · exact obs_nil
  refine seq_cut (fun a w => Fr 26 [pl 0 (.int .i64 x1), pl 1 (.int .i64 y1)] a ∧ Sep w0 B w (fs) ∧ ((gameroomref_darkAt_J1 x1 y1)).bind some = some r) ?_ ?_
  · rintro a w ⟨hF, hS, hm⟩
    unfold gameroomref_darkAt_J1 at hm
    refine reg [] [] [4] [pl 4 (.int .i64 (w64 ((w64 ((w64 (4 * y1)) + (w64 (Int.tdiv x1 2)))) + 1)))] hF hS Fol (by kernel_rfl) (by kernel_rfl) (by kernel_rfl) ?_ (fun a w hF hS => ?_)
    · exact obs_nil
    refine wpIn_ret ?_
    have hm : some (w64 ((w64 ((w64 (4 * y1)) + (w64 (Int.tdiv x1 2)))) + 1)) = some r := hm
    obtain rfl := Option.some.inj hm
    exact retV (rs := [.tmp 4]) (vs := [.int .i64 (w64 ((w64 ((w64 (4 * y1)) + (w64 (Int.tdiv x1 2)))) + 1))]) hF rfl (rv_t (by kernel_rfl) <| rv_nil) rfl ⟨rfl, hS⟩
  · obtain ⟨r1, hr1, hm⟩ := call_b hm
    obtain ⟨r2, hr2, hm⟩ := call_b hm
    refine reg [⟨false, [], callFunc 85 #[.int .i64 x1, .int .i64 0, .int .i64 7], .bool r1⟩, ⟨false, [(!r1, false)], callFunc 85 #[.int .i64 y1, .int .i64 0, .int .i64 7], .bool r2⟩] [none, some (.bool r1), none, none, none, some (.bool r2), none, none, none, none, none, none, none, none, none] [0, 1, 19] [pl 0 (.int .i64 x1), pl 1 (.int .i64 y1), pl 19 (.bool (((!r1) || (!r2)) || ((Int.tmod (w64 (x1 + y1)) 2) == 0)))] hF hS Fol (by kernel_rfl) (by kernel_rfl) (by kernel_rfl) ?_ (fun a w hF hS => ?_)
    · exact obs_cons (ob_call Try.func85 (by kernel_rfl) rfl (fun _ _ hS => gameroomref_within_w hr1 hS )) <| obs_cons (ob_call Try.func85 (by kernel_rfl) rfl (fun hy _ hS => gameroomref_within_w (ite_some hr2 (by rw [show (!r1) = false from hy (!r1, false) (by simp)]; try rfl)) hS )) <| obs_nil
    refine cond_ev (t := 19) (b := ((!r1) || (!r2)) || ((Int.tmod (w64 (x1 + y1)) 2) == 0)) hF (by kernel_rfl) (fun hb => ?_) (fun hb => ?_)
    · replace hm := if_t hm hb
      refine reg [] [] [4] [pl 4 (.int .i64 0)] hF hS Fol (by kernel_rfl) (by kernel_rfl) (by kernel_rfl) ?_ (fun a w hF hS => ?_)
      · exact obs_nil
      refine wpIn_ret ?_
      refine then_r ?_
      have hm : some 0 = some r := hm
      obtain rfl := Option.some.inj hm
      exact retV (rs := [.tmp 4]) (vs := [.int .i64 0]) hF rfl (rv_t (by kernel_rfl) <| rv_nil) rfl ⟨rfl, hS⟩
    · replace hm := if_f hm hb
      refine wpIn_skip ?_
      refine then_n ?_
      exact ⟨hF.weak [0, 1] (by kernel_rfl), hS, hm⟩

noncomputable def gameroomref_forwardMay_m  (x1 : Int) (dy1 : Int) : Option Bool :=
  some ((((x1 == 2) || (x1 == (-2))) || ((x1 == 1) && (decide (dy1 < 0)))) || ((x1 == (-1)) && (decide ((0 : Int) < dy1))))

set_option maxRecDepth 100000 in
set_option maxHeartbeats 4000000 in
theorem gameroomref_forwardMay_w  {x1 : Int} {dy1 : Int} {r : Bool} {w0 w : World} {B : Nat} {fs : List HP} (hm : gameroomref_forwardMay_m x1 dy1 = some r) (hS : Sep w0 B w (fs)) :
    Calls Try.prog 123 #[.int .i64 x1, .int .i64 dy1] w fun e w' => e = .returned (.bool r) ∧ Sep w0 B w' (fs) := by
  unfold gameroomref_forwardMay_m at hm
  replace hm := start_b hm
  refine enter (l := [.int .i64 x1, .int .i64 dy1]) (n := 27) Try.func123 rfl rfl (by simp) (fun a hF => ?_)
  refine reg [] [] [0, 1] [pl 0 (.int .i64 x1), pl 1 (.int .i64 dy1)] hF hS Fol (by kernel_rfl) (by kernel_rfl) (by kernel_rfl) ?_ (fun a w hF hS => ?_)
  · exact obs_nil
  refine reg [] [] [4] [pl 4 (.bool ((((x1 == 2) || (x1 == (-2))) || ((x1 == 1) && (decide (dy1 < 0)))) || ((x1 == (-1)) && (decide ((0 : Int) < dy1)))))] hF hS Fol (by kernel_rfl) (by kernel_rfl) (by kernel_rfl) ?_ (fun a w hF hS => ?_)
  · exact obs_nil
  refine wpIn_ret ?_
  have hm : some ((((x1 == 2) || (x1 == (-2))) || ((x1 == 1) && (decide (dy1 < 0)))) || ((x1 == (-1)) && (decide ((0 : Int) < dy1)))) = some r := hm
  obtain rfl := Option.some.inj hm
  exact retV (rs := [.tmp 4]) (vs := [.bool ((((x1 == 2) || (x1 == (-2))) || ((x1 == 1) && (decide (dy1 < 0)))) || ((x1 == (-1)) && (decide ((0 : Int) < dy1))))]) hF rfl (rv_t (by kernel_rfl) <| rv_nil) rfl ⟨rfl, hS⟩

noncomputable def gameroomref_at_J3  (i1 : Int) : Option (St Int (Fl Unit Int)) :=
  some (.next (w64 (i1 + 1)))

noncomputable def gameroomref_at_J2  (l1 : List Int) (n2 : Int) (i1 : Int) : Option (St Int (Fl Unit Int)) :=
  asrt (0 ≤ i1 ∧ i1 < (l1.length : Int)) <| if ((geti l1 i1) == n2) then (some (.done (.ret i1))) else ((gameroomref_at_J3 i1))

noncomputable def gameroomref_at_J1  : Option Int :=
  some (-1)

noncomputable def gameroomref_at_K1  : (Fl Unit Int) → Option Int :=
  fun (x : (Fl Unit Int)) => match x with | .go _ => gameroomref_at_J1 | .ret x => some x

noncomputable def gameroomref_at_L1  (l1 : List Int) (n2 : Int) : Int → Option (St Int (Fl Unit Int)) :=
  fun (x : Int) => match x with | i1 => if (decide (i1 < (l1.length : Int))) then ((gameroomref_at_J2 l1 n2 i1)) else (some (.done (.go ())))

noncomputable def gameroomref_at_m  (l1 : List Int) (n2 : Int) : Option Int :=
  (loop (gameroomref_at_L1 l1 n2) 0).bind gameroomref_at_K1

set_option maxRecDepth 100000 in
set_option maxHeartbeats 4000000 in
theorem gameroomref_at_w  {A1 : Option Addr} {c1 : Nat} {n1 : Nat} {l1 : List Int} {n2 : Int} {r : Int} {w0 w : World} {B : Nat} {fs : List HP} (hm : gameroomref_at_m l1 n2 = some r) (hS : Sep w0 B w (fs)) (hr_l1 : RdF w0 B fs A1 (vI l1)) (_hc_l1 : l1.length ≤ c1) (_hn_l1 : n1 = l1.length) :
    Calls Try.prog 110 #[.slice A1 n1 c1, .int .i64 n2] w fun e w' => e = .returned (.int .i64 r) ∧ Sep w0 B w' (fs) := by
  obtain ⟨i3, hi3, hz3, hs3, hb3⟩ := info_parts Info3
  obtain rfl := _hn_l1
  unfold gameroomref_at_m at hm
  replace hm := start_b hm
  refine enter (l := [.slice A1 l1.length c1, .int .i64 n2]) (n := 19) Try.func110 rfl rfl (by simp) (fun a hF => ?_)
  refine reg [] [] [0, 1] [pl 0 (.slice A1 l1.length c1), pl 1 (.int .i64 n2)] hF hS Fol (by kernel_rfl) (by kernel_rfl) (by kernel_rfl) ?_ (fun a w hF hS => ?_)
  · exact obs_nil
  refine seq_cut (fun a w => Fr 19 [] a ∧ Sep w0 B w (fs) ∧ (gameroomref_at_J1).bind some = some r) ?_ ?_
  · rintro a w ⟨hF, hS, hm⟩
    unfold gameroomref_at_J1 at hm
    refine reg [] [] [4] [pl 4 (.int .i64 (-1))] hF hS Fol (by kernel_rfl) (by kernel_rfl) (by kernel_rfl) ?_ (fun a w hF hS => ?_)
    · exact obs_nil
    refine wpIn_ret ?_
    have hm : some (-1) = some r := hm
    obtain rfl := Option.some.inj hm
    exact retV (rs := [.tmp 4]) (vs := [.int .i64 (-1)]) hF rfl (rv_t (by kernel_rfl) <| rv_nil) rfl ⟨rfl, hS⟩
  · refine reg [] [] [0, 1, 5] [pl 0 (.slice A1 l1.length c1), pl 1 (.int .i64 n2), pl 5 (.int .i64 0)] hF hS Fol (by kernel_rfl) (by kernel_rfl) (by kernel_rfl) ?_ (fun a w hF hS => ?_)
    · exact obs_nil
    refine wpIn_block ?_
    refine wp_loop_model (S := Int) (R := (Fl Unit Int)) (gameroomref_at_L1 l1 n2) (fun x => (gameroomref_at_K1 x).bind some) r (fun (x : Int) a w => Fr 19 [pl 0 (.slice A1 l1.length c1), pl 1 (.int .i64 n2), pl 5 (.int .i64 x)] a ∧ Sep w0 B w (fs)) (assoc_b hm) ⟨hF.weak [0, 1, 5] (by kernel_rfl), hS⟩ ?_
    clear hF hS hm
    rintro nn1 i1 a w ⟨hF, hS⟩ hm
    generalize hφ1 : stK (gameroomref_at_L1 l1 n2) nn1 (fun x => (gameroomref_at_K1 x).bind some) = φ1 at hm
    unfold gameroomref_at_L1 at hm
    dsimp only at hm
    refine seq_cut (fun a w => Fr 19 [pl 0 (.slice A1 l1.length c1), pl 1 (.int .i64 n2), pl 5 (.int .i64 i1)] a ∧ Sep w0 B w (fs) ∧ ((gameroomref_at_J2 l1 n2 i1)).bind φ1 = some r) ?_ ?_
    · rintro a w ⟨hF, hS, hm⟩
      unfold gameroomref_at_J2 at hm
      refine seq_cut (fun a w => Fr 19 [pl 0 (.slice A1 l1.length c1), pl 1 (.int .i64 n2), pl 5 (.int .i64 i1)] a ∧ Sep w0 B w (fs) ∧ ((gameroomref_at_J3 i1)).bind φ1 = some r) ?_ ?_
      · rintro a w ⟨hF, hS, hm⟩
        unfold gameroomref_at_J3 at hm
        refine reg1 [] [] [0, 1, 5] [pl 0 (.slice A1 l1.length c1), pl 1 (.int .i64 n2), pl 5 (.int .i64 (w64 (i1 + 1)))] hF hS Fol (by kernel_rfl) (by kernel_rfl) (by kernel_rfl) ?_ (fun a w hF hS => ?_)
        · exact obs_nil
        refine then_n ?_
        rw [← hφ1] at hm
        exact ⟨(w64 (i1 + 1)), ⟨hF.weak [0, 1, 5] (by kernel_rfl), hS⟩, hm⟩
      · refine wpIn_block ?_
        obtain ⟨hp1, hm⟩ := asrt_b hm
        refine reg [⟨true, [], vS (Instr.indexAt 22 (.slice A1 l1.length c1) (.int .i64 i1)), .pointer (some (sAddr A1 i1))⟩, ⟨false, [], vS (Instr.loadAt 3 (.pointer (some (sAddr A1 i1)))), .int .i64 (geti l1 i1)⟩] [none, none, some (.pointer (some (sAddr A1 i1))), some (.int .i64 (geti l1 i1)), none, none] [0, 1, 5, 17] [pl 0 (.slice A1 l1.length c1), pl 1 (.int .i64 n2), pl 5 (.int .i64 i1), pl 17 (.bool ((geti l1 i1) == n2))] hF hS Fol (by kernel_rfl) (by kernel_rfl) (by kernel_rfl) ?_ (fun a w hF hS => ?_)
        · exact obs_cons (ob_ix1 (f := (Value.int .i64)) (m := l1) Und22 hi3 hs3 (hr_l1 _ (hS.dropN 0)) rfl (fun _ => hp1)) <| obs_cons (ob_get1 (n := l1.length) (m := l1) (Value.int .i64) (0 : Int) Agg3 (fun _ hS => ⟨_, (hr_l1 _ (hS.dropN 0))⟩) (fun _ hS => rfl) (fun _ => hp1)) <| obs_nil
        refine cond_ev (t := 17) (b := ((geti l1 i1) == n2)) hF (by kernel_rfl) (fun hb => ?_) (fun hb => ?_)
        · replace hm := if_t hm hb
          refine reg [] [] [4] [pl 4 (.int .i64 i1)] hF hS Fol (by kernel_rfl) (by kernel_rfl) (by kernel_rfl) ?_ (fun a w hF hS => ?_)
          · exact obs_nil
          refine wpIn_ret ?_
          refine block_r (then_r (then_r (block_r (then_r ?_))))
          rw [← hφ1] at hm
          replace hm := done_b hm
          unfold gameroomref_at_K1 at hm
          try dsimp only at hm
          have hm : some i1 = some r := hm
          obtain rfl := Option.some.inj hm
          exact retV (rs := [.tmp 4]) (vs := [.int .i64 i1]) hF rfl (rv_t (by kernel_rfl) <| rv_nil) rfl ⟨rfl, hS⟩
        · replace hm := if_f hm hb
          refine wpIn_skip ?_
          refine block_n ?_
          refine then_n ?_
          exact ⟨hF.weak [0, 1, 5] (by kernel_rfl), hS, hm⟩
    · refine reg [] [] [0, 1, 5, 9] [pl 0 (.slice A1 l1.length c1), pl 1 (.int .i64 n2), pl 5 (.int .i64 i1), pl 9 (.bool (decide (i1 < (l1.length : Int))))] hF hS Fol (by kernel_rfl) (by kernel_rfl) (by kernel_rfl) ?_ (fun a w hF hS => ?_)
      · exact obs_nil
      refine cond_ev (t := 9) (b := decide (i1 < (l1.length : Int))) hF (by kernel_rfl) (fun hb => ?_) (fun hb => ?_)
      · replace hm := if_t hm hb
        refine wpIn_skip ?_
        refine then_n ?_
        exact ⟨hF.weak [0, 1, 5] (by kernel_rfl), hS, hm⟩
      · replace hm := if_f hm hb
        refine wpIn_exit ?_
        refine then_e (then_e (block_e (then_n ?_)))
        rw [← hφ1] at hm
        replace hm := done_b hm
        unfold gameroomref_at_K1 at hm
        try dsimp only at hm
        have hm : (gameroomref_at_J1).bind some = some r := hm
        exact ⟨hF.weak [] (by kernel_rfl), hS, hm⟩

noncomputable def gameroomref_jumpsOn_J5  (dy1 : Int) (out5 : List (List Int)) : Option (St (List (List Int) × Int) (List (List Int))) :=
  some (.next (out5, (w64 (dy1 + 2))))

noncomputable def gameroomref_jumpsOn_J8  (out3 : List (List Int)) (dy1 : Int) (more2 : List (List Int)) : Option (St (List (List Int) × Int) (List (List Int))) :=
  asrt (((out3.length : Int) : Int) + (more2.length : Int) ≤ bigR) <| (gameroomref_jumpsOn_J5 dy1) (out3 ++ more2)

noncomputable def gameroomref_jumpsOn_J7  (out3 : List (List Int)) (dy1 : Int) (r6 : Int) (r10 : (List Int)) (more1 : List (List Int)) : Option (St (List (List Int) × Int) (List (List Int))) :=
  if ((more1.length : Int) == 0) then ((gameroomref_jumpsOn_J8 out3 dy1) ([(r10 ++ ([r6] : List Int))] : List (List Int))) else ((gameroomref_jumpsOn_J8 out3 dy1) more1)

noncomputable def gameroomref_jumpsOn_J6  (rec_gameroomref_jumpsOn : List Int → Int → Int → List Int → List Int → Option (List (List Int))) (b1 : List Int) (b2 : Int) (piece1 : Int) (way1 : List Int) (over1 : List Int) (out3 : List (List Int)) (dy1 : Int) (r3 : Int) (r6 : Int) : Option (St (List (List Int) × Int) (List (List Int))) :=
  (gameroomref_Ints_m way1).bind fun r10 => asrt ((r10.length : Int) + 1 ≤ bigN) <| if (!(((piece1 == 1) && (decide (r6 ≤ 4))) || ((piece1 == (-1)) && (decide ((29 : Int) ≤ r6))))) then ((gameroomref_Ints_m over1).bind fun r11 => asrt ((r11.length : Int) + 1 ≤ bigN) <| (rec_gameroomref_jumpsOn b1 b2 piece1 (r10 ++ ([r6] : List Int)) (r11 ++ ([r3] : List Int))).bind fun r12 => (gameroomref_jumpsOn_J7 out3 dy1 r6 r10) r12) else ((gameroomref_jumpsOn_J7 out3 dy1 r6 r10) ([] : List (List Int)))

noncomputable def gameroomref_jumpsOn_J4  (rec_gameroomref_jumpsOn : List Int → Int → Int → List Int → List Int → Option (List (List Int))) (b1 : List Int) (b2 : Int) (piece1 : Int) (way1 : List Int) (over1 : List Int) (dx1 : Int) (out3 : List (List Int)) (dy1 : Int) : Option (St (List (List Int) × Int) (List (List Int))) :=
  (gameroomref_darkX_m (geti way1 (w64 ((way1.length : Int) - 1)))).bind fun r1 => (gameroomref_darkY_m (geti way1 (w64 ((way1.length : Int) - 1)))).bind fun r2 => (gameroomref_darkAt_m (w64 (r1 + dx1)) (w64 (r2 + dy1))).bind fun r3 => (gameroomref_darkX_m (geti way1 (w64 ((way1.length : Int) - 1)))).bind fun r4 => (gameroomref_darkY_m (geti way1 (w64 ((way1.length : Int) - 1)))).bind fun r5 => (gameroomref_darkAt_m (w64 (r4 + (w64 (2 * dx1)))) (w64 (r5 + (w64 (2 * dy1))))).bind fun r6 => (gameroomref_forwardMay_m piece1 dy1).bind fun r7 => asrt (((!r7) || (r6 == 0)) = false → 0 ≤ r3 ∧ r3 < (b1.length : Int)) <| ((if (!((!r7) || (r6 == 0))) then gameroomref_ownerOf_m (geti b1 r3) else some 0)).bind fun r8 => ((if (!(((!r7) || (r6 == 0)) || (r8 != (w64 (3 - b2))))) then gameroomref_at_m over1 r3 else some 0)).bind fun r9 => asrt (((((!r7) || (r6 == 0)) || (r8 != (w64 (3 - b2)))) || (decide ((0 : Int) ≤ r9))) = false → 0 ≤ r6 ∧ r6 < (b1.length : Int)) <| asrt (((geti b1 r6) != 0) = true → ((((!r7) || (r6 == 0)) || (r8 != (w64 (3 - b2)))) || (decide ((0 : Int) ≤ r9))) = false → 0 ≤ (0 : Int) ∧ (0 : Int) < (way1.length : Int)) <| if (((((!r7) || (r6 == 0)) || (r8 != (w64 (3 - b2)))) || (decide ((0 : Int) ≤ r9))) || (((geti b1 r6) != 0) && (r6 != (geti way1 0)))) then ((gameroomref_jumpsOn_J5 dy1) out3) else ((gameroomref_jumpsOn_J6 rec_gameroomref_jumpsOn b1 b2 piece1 way1 over1 out3 dy1 r3 r6))

noncomputable def gameroomref_jumpsOn_J3  (dx1 : Int) (out4 : List (List Int)) : Option (St (List (List Int) × Int) (List (List Int))) :=
  some (.next (out4, (w64 (dx1 + 2))))

noncomputable def gameroomref_jumpsOn_K2  (dx1 : Int) : (List (List Int)) → Option (St (List (List Int) × Int) (List (List Int))) :=
  fun (x : (List (List Int))) => match x with | out4 => (gameroomref_jumpsOn_J3 dx1) out4

noncomputable def gameroomref_jumpsOn_L2  (rec_gameroomref_jumpsOn : List Int → Int → Int → List Int → List Int → Option (List (List Int))) (b1 : List Int) (b2 : Int) (piece1 : Int) (way1 : List Int) (over1 : List Int) (dx1 : Int) : (List (List Int) × Int) → Option (St (List (List Int) × Int) (List (List Int))) :=
  fun (x : (List (List Int) × Int)) => match x with | (out3, dy1) => if (decide (dy1 ≤ 1)) then ((gameroomref_jumpsOn_J4 rec_gameroomref_jumpsOn b1 b2 piece1 way1 over1 dx1 out3 dy1)) else (some (.done out3))

noncomputable def gameroomref_jumpsOn_J2  (rec_gameroomref_jumpsOn : List Int → Int → Int → List Int → List Int → Option (List (List Int))) (b1 : List Int) (b2 : Int) (piece1 : Int) (way1 : List Int) (over1 : List Int) (out1 : List (List Int)) (dx1 : Int) : Option (St (List (List Int) × Int) (List (List Int))) :=
  (loop (gameroomref_jumpsOn_L2 rec_gameroomref_jumpsOn b1 b2 piece1 way1 over1 dx1) (out1, (-1))).bind (gameroomref_jumpsOn_K2 dx1)

noncomputable def gameroomref_jumpsOn_J1  (out2 : List (List Int)) : Option (List (List Int)) :=
  some out2
end Go.Proofs.Ytoickcchcjehdaa
