/-
  Models and walks, printed by our own program (wip/gen).
-/
import Derived.Test.YtoickcchcjehdaaFB
import Derived.Test.YtoickcchcjehdaaLibJ
import Derived.Test.YtoickcchcjehdaaLibBc
import Derived.Test.YtoickcchcjehdaaLibOq
import Derived.Test.YtoickcchcjehdaaLibRF
namespace Go.Proofs.Ytoickcchcjehdaa
open Go Go.GL Go.RowKit




noncomputable def gameroomlaw_ints_m  (l1 : List Int) : Option (List Int) :=
  asrt ((0 : Int) + (l1.length : Int) ≤ bigN) <| some ([] ++ l1)

set_option maxRecDepth 100000 in
set_option maxHeartbeats 4000000 in
theorem gameroomlaw_ints_w  {A1 : Option Addr} {c1 : Nat} {n1 : Nat} {l1 : List Int} {r : (List Int)} {w0 w : World} {B : Nat} {fs : List HP} (hm : gameroomlaw_ints_m l1 = some r) (hS : Sep w0 B w (fs)) (hr_l1 : RdF w0 B fs A1 (vI l1)) (_hc_l1 : l1.length ≤ c1) (_hn_l1 : n1 = l1.length) :
    Calls Try.prog 17 #[.slice A1 n1 c1] w fun e w' => ∃ v, e = .returned v ∧ ∃ (A3 : Option Addr) (c3 : Nat), v = .slice A3 r.length c3 ∧ Sep w0 B w' (own 3 (.slice A3 r.length c3) (vI r) :: fs) := by
  obtain ⟨i3, hi3, hz3, hs3, hb3⟩ := info_parts Info3
  obtain rfl := _hn_l1
  unfold gameroomlaw_ints_m at hm
  replace hm := start_b hm
  refine enter (l := [.slice A1 l1.length c1]) (n := 5) Try.func17 rfl rfl (by simp) (fun a hF => ?_)
  refine reg [] [] [0] [pl 0 (.slice A1 l1.length c1)] hF hS Fol (by kernel_rfl) (by kernel_rfl) (by kernel_rfl) ?_ (fun a w hF hS => ?_)
  · exact obs_nil
  refine seqR ?_
  obtain ⟨hp1, hm⟩ := asrt_b hm
  refine at_run 1 [] [] [3] [pl 3 (.slice A1 l1.length c1)] hF hS (by kernel_rfl) (by kernel_rfl) ?_ (fun a w hF hS => ?_)
  · exact obs_nil
  have hS : Sep w0 B w (own 3 (.slice none 0 0) (vI ([] : List Int)) :: fs) := hS.nil 3
  obtain ⟨A2, c2, w, hrun, hS⟩ := run_app1 (P := Try.prog) (t := 22) (m := ([] : List Int)) (ys := l1) (A2 := A1) (m2 := l1.length) (c2 := c1) (Value.int .i64) (0 : Int) (hS.at_ 0 rfl) (hr_l1 _ (hS.dropN 1)) rfl 22 Und22 hi3 hz3 hs3 (by omega) rfl (fun _ => rfl) hp1
  have hS : Sep w0 B w (own 3 (.slice A2 (([] ++ l1).length) c2) (vI ([] ++ l1)) :: fs) := hS
  refine at_do (d := 4) hF (by kernel_rfl) (by kernel_rfl) hrun (fun a hF => ?_)
  refine at_run 1 [] [] [2] [pl 2 (.slice A2 (([] ++ l1).length) c2)] hF hS (by kernel_rfl) (by kernel_rfl) ?_ (fun a w hF hS => ?_)
  · exact obs_nil
  refine at_end [2] [pl 2 (.slice A2 (([] ++ l1).length) c2)] hF rfl (by kernel_rfl) (fun hF => ?_)
  refine then_n ?_
  refine wpIn_ret ?_
  have hm : some ([] ++ l1) = some r := hm
  obtain rfl := Option.some.inj hm
  exact retV (rs := [.tmp 2]) (vs := [.slice A2 (([] ++ l1).length) c2]) hF rfl (rv_t (by kernel_rfl) <| rv_nil) rfl ⟨_, rfl, A2, c2, rfl, hS⟩

noncomputable def poker_check_J3  (z1 : Int) : Option (St Int (Fl Unit Int)) :=
  some (.next (w64 (z1 + 1)))

noncomputable def poker_check_J2  (l1 : List Int) (z1 : Int) : Option (St Int (Fl Unit Int)) :=
  asrt (0 ≤ z1 ∧ z1 < (l1.length : Int)) <| if ((decide ((geti l1 z1) < 0)) || (decide ((52 : Int) ≤ (geti l1 z1)))) then (some (.done (.ret 3))) else ((poker_check_J3 z1))

noncomputable def poker_check_J6  (l1 : List Int) (seen1 : List Bool) (z2 : Int) : Option (St (List Bool × Int) (Fl Unit Int)) :=
  some (.next ((seen1.set (Int.toNat (geti l1 z2)) true), (w64 (z2 + 1))))

noncomputable def poker_check_J7  (l1 : List Int) (seen1 : List Bool) (z2 : Int) : Option (St (List Bool × Int) (Fl Unit Int)) :=
  asrt (0 ≤ (geti l1 z2) ∧ (geti l1 z2) < 52) <| asrt ((geti l1 z2) < (seen1.length : Int)) <| (poker_check_J6 l1 seen1 z2)

noncomputable def poker_check_J5  (l1 : List Int) (seen1 : List Bool) (z2 : Int) : Option (St (List Bool × Int) (Fl Unit Int)) :=
  asrt (0 ≤ z2 ∧ z2 < (l1.length : Int)) <| asrt (0 ≤ (geti l1 z2) ∧ (geti l1 z2) < 52) <| if (getb seen1 (geti l1 z2)) then (some (.done (.ret 6))) else ((poker_check_J7 l1 seen1 z2))

noncomputable def poker_check_L2  (l1 : List Int) : (List Bool × Int) → Option (St (List Bool × Int) (Fl Unit Int)) :=
  fun (x : (List Bool × Int)) => match x with | (seen1, z2) => if (decide (z2 < (l1.length : Int))) then ((poker_check_J5 l1 seen1 z2)) else (some (.done (.go ())))

noncomputable def poker_check_J4  : Option Int :=
  some 0

noncomputable def poker_check_K2  : (Fl Unit Int) → Option Int :=
  fun (x : (Fl Unit Int)) => match x with | .go _ => poker_check_J4 | .ret x => some x

noncomputable def poker_check_J1  (l1 : List Int) : Option Int :=
  (loop (poker_check_L2 l1) ((List.replicate 52 false), 0)).bind poker_check_K2

noncomputable def poker_check_K1  (l1 : List Int) : (Fl Unit Int) → Option Int :=
  fun (x : (Fl Unit Int)) => match x with | .go _ => (poker_check_J1 l1) | .ret x => some x

noncomputable def poker_check_L1  (l1 : List Int) : Int → Option (St Int (Fl Unit Int)) :=
  fun (x : Int) => match x with | z1 => if (decide (z1 < (l1.length : Int))) then ((poker_check_J2 l1 z1)) else (some (.done (.go ())))

noncomputable def poker_check_m  (l1 : List Int) : Option Int :=
  (loop (poker_check_L1 l1) 0).bind (poker_check_K1 l1)

set_option maxRecDepth 100000 in
set_option maxHeartbeats 4000000 in
theorem poker_check_w  {A1 : Option Addr} {c1 : Nat} {n1 : Nat} {l1 : List Int} {r : Int} {w0 w : World} {B : Nat} {fs : List HP} (hm : poker_check_m l1 = some r) (hS : Sep w0 B w (fs)) (hr_l1 : RdF w0 B fs A1 (vI l1)) (_hc_l1 : l1.length ≤ c1) (_hn_l1 : n1 = l1.length) :
    Calls Try.prog 112 #[.slice A1 n1 c1] w fun e w' => e = .returned (.int .i64 r) ∧ Sep w0 B w' (fs) := by
  obtain ⟨i3, hi3, hz3, hs3, hb3⟩ := info_parts Info3
  obtain ⟨i4, hi4, hz4, hs4, hb4⟩ := info_parts Info4
  obtain rfl := _hn_l1
  unfold poker_check_m at hm
  replace hm := start_b hm
  refine enter (l := [.slice A1 l1.length c1]) (n := 33) Try.func112 rfl rfl (by simp) (fun a hF => ?_)
  refine reg [] [] [0] [pl 0 (.slice A1 l1.length c1)] hF hS Fol (by kernel_rfl) (by kernel_rfl) (by kernel_rfl) ?_ (fun a w hF hS => ?_)
  · exact obs_nil
  refine seqR ?_
  refine at_do (d := 3) (s := vS (Instr.alloc 230 true (.tuple #[]))) (v := .pointer (some ⟨w.heap.size, 0, none⟩)) (w' := w.alloc (.cells (List.toArray (([] : List Value) ++ (arr1 Value.bool false 52 (List.replicate 52 false) ++ ([] : List Value)))) 230)) hF (by kernel_rfl) (by kernel_rfl) (by kernel_rfl) (fun a hF => ?_)
  have hS : Sep w0 B (w.alloc (.cells (List.toArray (([] : List Value) ++ (arr1 Value.bool false 52 (List.replicate 52 false) ++ ([] : List Value)))) 230)) (blk w.heap.size 230 (List.toArray (([] : List Value) ++ (arr1 Value.bool false 52 (List.replicate 52 false) ++ ([] : List Value)))) :: (fs)) := hS.box 230 (List.toArray (([] : List Value) ++ (arr1 Value.bool false 52 (List.replicate 52 false) ++ ([] : List Value))))
  generalize w.heap.size = g1 at hF hS
  generalize w.alloc (.cells (List.toArray (([] : List Value) ++ (arr1 Value.bool false 52 (List.replicate 52 false) ++ ([] : List Value)))) 230) = w at hS ⊢
  refine at_end [0, 3] [pl 0 (.slice A1 l1.length c1), pl 3 (.pointer (some ⟨g1, 0, none⟩))] hF rfl (by kernel_rfl) (fun hF => ?_)
  refine then_n ?_
  refine seq_cut (fun a w => Fr 33 [pl 0 (.slice A1 l1.length c1), pl 3 (.pointer (some ⟨g1, 0, none⟩))] a ∧ Sep w0 B w (blk g1 230 (List.toArray (([] : List Value) ++ (arr1 Value.bool false 52 (List.replicate 52 false) ++ ([] : List Value)))) :: fs) ∧ ((poker_check_J1 l1)).bind some = some r) ?_ ?_
  · rintro a w ⟨hF, hS, hm⟩
    unfold poker_check_J1 at hm
    refine seq_cut (fun a w => Fr 33 [] a ∧ Sep w0 B w (fs) ∧ (poker_check_J4).bind some = some r) ?_ ?_
    · rintro a w ⟨hF, hS, hm⟩
      unfold poker_check_J4 at hm
      refine reg [] [] [2] [pl 2 (.int .i64 0)] hF hS Fol (by kernel_rfl) (by kernel_rfl) (by kernel_rfl) ?_ (fun a w hF hS => ?_)
      · exact obs_nil
      refine wpIn_ret ?_
      have hm : some 0 = some r := hm
      obtain rfl := Option.some.inj hm
      exact retV (rs := [.tmp 2]) (vs := [.int .i64 0]) hF rfl (rv_t (by kernel_rfl) <| rv_nil) rfl ⟨rfl, hS⟩
    · refine reg [] [] [3, 21, 22, 23] [pl 3 (.pointer (some ⟨g1, 0, none⟩)), pl 21 (.slice A1 l1.length c1), pl 22 (.int .i64 (l1.length : Int)), pl 23 (.int .i64 0)] hF hS Fol (by kernel_rfl) (by kernel_rfl) (by kernel_rfl) ?_ (fun a w hF hS => ?_)
      · exact obs_nil
      refine wpIn_block ?_
      refine wp_loop_model (S := (List Bool × Int)) (R := (Fl Unit Int)) (poker_check_L2 l1) (fun x => (poker_check_K2 x).bind some) r (fun (x : (List Bool × Int)) a w => Fr 33 [pl 3 (.pointer (some ⟨g1, 0, none⟩)), pl 21 (.slice A1 l1.length c1), pl 22 (.int .i64 (l1.length : Int)), pl 23 (.int .i64 x.2)] a ∧ Sep w0 B w (blk g1 230 (List.toArray (([] : List Value) ++ (arr1 Value.bool false 52 x.1 ++ ([] : List Value)))) :: fs)) (assoc_b hm) ⟨hF.weak [3, 21, 22, 23] (by kernel_rfl), hS⟩ ?_
      clear hF hS hm
      rintro nn2 ⟨seen1, z2⟩ a w ⟨hF, hS⟩ hm
      generalize hφ2 : stK (poker_check_L2 l1) nn2 (fun x => (poker_check_K2 x).bind some) = φ2 at hm
      unfold poker_check_L2 at hm
      dsimp only at hF hS hm
      refine reg [] [] [3, 21, 22, 23, 24] [pl 3 (.pointer (some ⟨g1, 0, none⟩)), pl 21 (.slice A1 l1.length c1), pl 22 (.int .i64 (l1.length : Int)), pl 23 (.int .i64 z2), pl 24 (.bool (decide (z2 < (l1.length : Int))))] hF hS Fol (by kernel_rfl) (by kernel_rfl) (by kernel_rfl) ?_ (fun a w hF hS => ?_)
      · exact obs_nil
      refine seq_cut (fun a w => Fr 33 [pl 3 (.pointer (some ⟨g1, 0, none⟩)), pl 21 (.slice A1 l1.length c1), pl 22 (.int .i64 (l1.length : Int)), pl 23 (.int .i64 z2)] a ∧ Sep w0 B w (blk g1 230 (List.toArray (([] : List Value) ++ (arr1 Value.bool false 52 seen1 ++ ([] : List Value)))) :: fs) ∧ ((poker_check_J5 l1 seen1 z2)).bind φ2 = some r) ?_ ?_
      · rintro a w ⟨hF, hS, hm⟩
        unfold poker_check_J5 at hm
        refine seq_cut (fun a w => Fr 33 [pl 3 (.pointer (some ⟨g1, 0, none⟩)), pl 21 (.slice A1 l1.length c1), pl 22 (.int .i64 (l1.length : Int)), pl 23 (.int .i64 z2)] a ∧ Sep w0 B w (blk g1 230 (List.toArray (([] : List Value) ++ (arr1 Value.bool false 52 (seen1.set (Int.toNat (geti l1 z2)) true) ++ ([] : List Value)))) :: fs) ∧ ((poker_check_J6 l1 seen1 z2)).bind φ2 = some r) ?_ ?_
        · rintro a w ⟨hF, hS, hm⟩
          unfold poker_check_J6 at hm
          refine reg1 [] [] [3, 21, 22, 23] [pl 3 (.pointer (some ⟨g1, 0, none⟩)), pl 21 (.slice A1 l1.length c1), pl 22 (.int .i64 (l1.length : Int)), pl 23 (.int .i64 (w64 (z2 + 1)))] hF hS Fol (by kernel_rfl) (by kernel_rfl) (by kernel_rfl) ?_ (fun a w hF hS => ?_)
          · exact obs_nil
          refine then_n ?_
          rw [← hφ2] at hm
          exact ⟨((seen1.set (Int.toNat (geti l1 z2)) true), (w64 (z2 + 1))), ⟨hF.weak [3, 21, 22, 23] (by kernel_rfl), hS⟩, hm⟩
        · refine wpIn_block ?_
          obtain ⟨hp2, hm⟩ := asrt_b hm
          refine reg [⟨true, [], vS (Instr.indexAt 22 (.slice A1 l1.length c1) (.int .i64 z2)), .pointer (some (sAddr A1 z2))⟩, ⟨false, [], vS (Instr.loadAt 3 (.pointer (some (sAddr A1 z2)))), .int .i64 (geti l1 z2)⟩] [some (.pointer (some (sAddr A1 z2))), some (.int .i64 (geti l1 z2)), none] [3, 7, 21, 22, 23] [pl 3 (.pointer (some ⟨g1, 0, none⟩)), pl 7 (.int .i64 (geti l1 z2)), pl 21 (.slice A1 l1.length c1), pl 22 (.int .i64 (l1.length : Int)), pl 23 (.int .i64 z2)] hF hS Fol (by kernel_rfl) (by kernel_rfl) (by kernel_rfl) ?_ (fun a w hF hS => ?_)
          · exact obs_cons (ob_ix1 (f := (Value.int .i64)) (m := l1) Und22 hi3 hs3 (hr_l1 _ (hS.dropN 1)) rfl (fun _ => hp2)) <| obs_cons (ob_get1 (n := l1.length) (m := l1) (Value.int .i64) (0 : Int) Agg3 (fun _ hS => ⟨_, (hr_l1 _ (hS.dropN 1))⟩) (fun _ hS => rfl) (fun _ => hp2)) <| obs_nil
          refine seq_cut (fun a w => Fr 33 [pl 3 (.pointer (some ⟨g1, 0, none⟩)), pl 7 (.int .i64 (geti l1 z2)), pl 21 (.slice A1 l1.length c1), pl 22 (.int .i64 (l1.length : Int)), pl 23 (.int .i64 z2)] a ∧ Sep w0 B w (blk g1 230 (List.toArray (([] : List Value) ++ (arr1 Value.bool false 52 seen1 ++ ([] : List Value)))) :: fs) ∧ ((poker_check_J7 l1 seen1 z2)).bind φ2 = some r) ?_ ?_
          · rintro a w ⟨hF, hS, hm⟩
            unfold poker_check_J7 at hm
            refine oneR ?_
            obtain ⟨hp4, hm⟩ := asrt_b hm
            obtain ⟨hp5, hm⟩ := asrt_b hm
            refine at_run 2 [⟨true, [], vS (Instr.indexAt 230 (.pointer (some ⟨g1, 0, none⟩)) (.int .i64 (geti l1 z2))), .pointer (some ((⟨g1, 0, none⟩ : Addr).add (Int.toNat (geti l1 z2) * 1)))⟩] [none, some (.pointer (some ((⟨g1, 0, none⟩ : Addr).add (Int.toNat (geti l1 z2) * 1))))] [3, 21, 22, 23, 31] [pl 3 (.pointer (some ⟨g1, 0, none⟩)), pl 21 (.slice A1 l1.length c1), pl 22 (.int .i64 (l1.length : Int)), pl 23 (.int .i64 z2), pl 31 (.pointer (some ((⟨g1, 0, none⟩ : Addr).add (Int.toNat (geti l1 z2) * 1))))] hF hS (by kernel_rfl) (by kernel_rfl) ?_ (fun a w hF hS => ?_)
            · exact obs_cons (ob_ixA UndA230 hi4 hs4 (fun _ => hp4)) <| obs_nil
            obtain ⟨w, hrun, hS⟩ := run_setA (P := Try.prog) (t := 4) (x := true) (i := (geti l1 z2)) (m := seen1) (d := Int.toNat (geti l1 z2) * 1) Value.bool false 52 ([] : List Value) ([] : List Value) (hS.at_ 0 rfl) rfl hi4 hs4 rfl (by have h0 := hp4; omega) (by have h0 := hp4; have h9 := hp5; omega)
            refine at_skip hF (by kernel_rfl) hrun ?_
            have hS : Sep w0 B w (blk g1 230 (List.toArray (([] : List Value) ++ (arr1 Value.bool false 52 (seen1.set (Int.toNat (geti l1 z2)) true) ++ ([] : List Value)))) :: fs) := hS
            refine at_end [3, 21, 22, 23] [pl 3 (.pointer (some ⟨g1, 0, none⟩)), pl 21 (.slice A1 l1.length c1), pl 22 (.int .i64 (l1.length : Int)), pl 23 (.int .i64 z2)] hF rfl (by kernel_rfl) (fun hF => ?_)
            refine block_n ?_
            refine then_n ?_
            exact ⟨hF.weak [3, 21, 22, 23] (by kernel_rfl), hS, hm⟩
          · obtain ⟨hp3, hm⟩ := asrt_b hm
            refine reg [⟨true, [], vS (Instr.indexAt 230 (.pointer (some ⟨g1, 0, none⟩)) (.int .i64 (geti l1 z2))), .pointer (some ((⟨g1, 0, none⟩ : Addr).add (Int.toNat (geti l1 z2) * 1)))⟩, ⟨false, [], vS (Instr.loadAt 4 (.pointer (some ((⟨g1, 0, none⟩ : Addr).add (Int.toNat (geti l1 z2) * 1))))), .bool (getb seen1 (geti l1 z2))⟩] [none, some (.pointer (some ((⟨g1, 0, none⟩ : Addr).add (Int.toNat (geti l1 z2) * 1)))), some (.bool (getb seen1 (geti l1 z2)))] [3, 7, 21, 22, 23, 29] [pl 3 (.pointer (some ⟨g1, 0, none⟩)), pl 7 (.int .i64 (geti l1 z2)), pl 21 (.slice A1 l1.length c1), pl 22 (.int .i64 (l1.length : Int)), pl 23 (.int .i64 z2), pl 29 (.bool (getb seen1 (geti l1 z2)))] hF hS Fol (by kernel_rfl) (by kernel_rfl) (by kernel_rfl) ?_ (fun a w hF hS => ?_)
            · exact obs_cons (ob_ixA UndA230 hi4 hs4 (fun _ => hp3)) <| obs_cons (ob_getA (m := seen1) Value.bool false 52 ([] : List Value) ([] : List Value) (geti l1 z2) Agg4 rfl (fun _ hS => ⟨_, _, _, _, _, hS.at_ 0 rfl⟩) (fun hy => by have h0 := hp3; omega)) <| obs_nil
            refine cond_ev (t := 29) (b := getb seen1 (geti l1 z2)) hF (by kernel_rfl) (fun hb => ?_) (fun hb => ?_)
            · replace hm := if_t hm hb
              refine reg [] [] [2] [pl 2 (.int .i64 6)] hF hS Fol (by kernel_rfl) (by kernel_rfl) (by kernel_rfl) ?_ (fun a w hF hS => ?_)
              · exact obs_nil
              refine wpIn_ret ?_
              refine then_r (block_r (then_r (then_r (block_r (then_r ?_)))))
              rw [← hφ2] at hm
              replace hm := done_b hm
              unfold poker_check_K2 at hm
              try dsimp only at hm
              have hS := hS.pickN 1 [] (by decide)
              have hm : some 6 = some r := hm
              obtain rfl := Option.some.inj hm
              exact retV (rs := [.tmp 2]) (vs := [.int .i64 6]) hF rfl (rv_t (by kernel_rfl) <| rv_nil) rfl ⟨rfl, hS⟩
            · replace hm := if_f hm hb
              refine wpIn_skip ?_
              refine then_n ?_
              exact ⟨hF.weak [3, 7, 21, 22, 23] (by kernel_rfl), hS, hm⟩
      · refine cond_ev (t := 24) (b := decide (z2 < (l1.length : Int))) hF (by kernel_rfl) (fun hb => ?_) (fun hb => ?_)
        · replace hm := if_t hm hb
          refine wpIn_skip ?_
          refine then_n ?_
          exact ⟨hF.weak [3, 21, 22, 23] (by kernel_rfl), hS, hm⟩
        · replace hm := if_f hm hb
          refine wpIn_exit ?_
          refine then_e (then_e (block_e (then_n ?_)))
          have hS := hS.pickN 1 [] (by decide)
          rw [← hφ2] at hm
          replace hm := done_b hm
          unfold poker_check_K2 at hm
          try dsimp only at hm
          have hm : (poker_check_J4).bind some = some r := hm
          exact ⟨hF.weak [] (by kernel_rfl), hS, hm⟩
  · refine reg [] [] [0, 3, 8, 9, 10] [pl 0 (.slice A1 l1.length c1), pl 3 (.pointer (some ⟨g1, 0, none⟩)), pl 8 (.slice A1 l1.length c1), pl 9 (.int .i64 (l1.length : Int)), pl 10 (.int .i64 0)] hF hS Fol (by kernel_rfl) (by kernel_rfl) (by kernel_rfl) ?_ (fun a w hF hS => ?_)
    · exact obs_nil
    refine wpIn_block ?_
    refine wp_loop_model (S := Int) (R := (Fl Unit Int)) (poker_check_L1 l1) (fun x => ((poker_check_K1 l1) x).bind some) r (fun (x : Int) a w => Fr 33 [pl 0 (.slice A1 l1.length c1), pl 3 (.pointer (some ⟨g1, 0, none⟩)), pl 8 (.slice A1 l1.length c1), pl 9 (.int .i64 (l1.length : Int)), pl 10 (.int .i64 x)] a ∧ Sep w0 B w (blk g1 230 (List.toArray (([] : List Value) ++ (arr1 Value.bool false 52 (List.replicate 52 false) ++ ([] : List Value)))) :: fs)) (assoc_b hm) ⟨hF.weak [0, 3, 8, 9, 10] (by kernel_rfl), hS⟩ ?_
    clear hF hS hm
    rintro nn1 z1 a w ⟨hF, hS⟩ hm
    generalize hφ1 : stK (poker_check_L1 l1) nn1 (fun x => ((poker_check_K1 l1) x).bind some) = φ1 at hm
    unfold poker_check_L1 at hm
    dsimp only at hm
    refine reg [] [] [0, 3, 8, 9, 10, 11] [pl 0 (.slice A1 l1.length c1), pl 3 (.pointer (some ⟨g1, 0, none⟩)), pl 8 (.slice A1 l1.length c1), pl 9 (.int .i64 (l1.length : Int)), pl 10 (.int .i64 z1), pl 11 (.bool (decide (z1 < (l1.length : Int))))] hF hS Fol (by kernel_rfl) (by kernel_rfl) (by kernel_rfl) ?_ (fun a w hF hS => ?_)
    · exact obs_nil
    refine seq_cut (fun a w => Fr 33 [pl 0 (.slice A1 l1.length c1), pl 3 (.pointer (some ⟨g1, 0, none⟩)), pl 8 (.slice A1 l1.length c1), pl 9 (.int .i64 (l1.length : Int)), pl 10 (.int .i64 z1)] a ∧ Sep w0 B w (blk g1 230 (List.toArray (([] : List Value) ++ (arr1 Value.bool false 52 (List.replicate 52 false) ++ ([] : List Value)))) :: fs) ∧ ((poker_check_J2 l1 z1)).bind φ1 = some r) ?_ ?_
    · rintro a w ⟨hF, hS, hm⟩
      unfold poker_check_J2 at hm
      refine seq_cut (fun a w => Fr 33 [pl 0 (.slice A1 l1.length c1), pl 3 (.pointer (some ⟨g1, 0, none⟩)), pl 8 (.slice A1 l1.length c1), pl 9 (.int .i64 (l1.length : Int)), pl 10 (.int .i64 z1)] a ∧ Sep w0 B w (blk g1 230 (List.toArray (([] : List Value) ++ (arr1 Value.bool false 52 (List.replicate 52 false) ++ ([] : List Value)))) :: fs) ∧ ((poker_check_J3 z1)).bind φ1 = some r) ?_ ?_
      · rintro a w ⟨hF, hS, hm⟩
        unfold poker_check_J3 at hm
        refine reg1 [] [] [0, 3, 8, 9, 10] [pl 0 (.slice A1 l1.length c1), pl 3 (.pointer (some ⟨g1, 0, none⟩)), pl 8 (.slice A1 l1.length c1), pl 9 (.int .i64 (l1.length : Int)), pl 10 (.int .i64 (w64 (z1 + 1)))] hF hS Fol (by kernel_rfl) (by kernel_rfl) (by kernel_rfl) ?_ (fun a w hF hS => ?_)
        · exact obs_nil
        refine then_n ?_
        rw [← hφ1] at hm
        exact ⟨(w64 (z1 + 1)), ⟨hF.weak [0, 3, 8, 9, 10] (by kernel_rfl), hS⟩, hm⟩
      · refine wpIn_block ?_
        obtain ⟨hp1, hm⟩ := asrt_b hm
        refine reg [⟨true, [], vS (Instr.indexAt 22 (.slice A1 l1.length c1) (.int .i64 z1)), .pointer (some (sAddr A1 z1))⟩, ⟨false, [], vS (Instr.loadAt 3 (.pointer (some (sAddr A1 z1)))), .int .i64 (geti l1 z1)⟩] [some (.pointer (some (sAddr A1 z1))), some (.int .i64 (geti l1 z1)), none] [0, 3, 5, 8, 9, 10] [pl 0 (.slice A1 l1.length c1), pl 3 (.pointer (some ⟨g1, 0, none⟩)), pl 5 (.int .i64 (geti l1 z1)), pl 8 (.slice A1 l1.length c1), pl 9 (.int .i64 (l1.length : Int)), pl 10 (.int .i64 z1)] hF hS Fol (by kernel_rfl) (by kernel_rfl) (by kernel_rfl) ?_ (fun a w hF hS => ?_)
        · exact obs_cons (ob_ix1 (f := (Value.int .i64)) (m := l1) Und22 hi3 hs3 (hr_l1 _ (hS.dropN 1)) rfl (fun _ => hp1)) <| obs_cons (ob_get1 (n := l1.length) (m := l1) (Value.int .i64) (0 : Int) Agg3 (fun _ hS => ⟨_, (hr_l1 _ (hS.dropN 1))⟩) (fun _ hS => rfl) (fun _ => hp1)) <| obs_nil
        refine reg [] [] [0, 3, 8, 9, 10, 19] [pl 0 (.slice A1 l1.length c1), pl 3 (.pointer (some ⟨g1, 0, none⟩)), pl 8 (.slice A1 l1.length c1), pl 9 (.int .i64 (l1.length : Int)), pl 10 (.int .i64 z1), pl 19 (.bool ((decide ((geti l1 z1) < 0)) || (decide ((52 : Int) ≤ (geti l1 z1)))))] hF hS Fol (by kernel_rfl) (by kernel_rfl) (by kernel_rfl) ?_ (fun a w hF hS => ?_)
        · exact obs_nil
        refine cond_ev (t := 19) (b := (decide ((geti l1 z1) < 0)) || (decide ((52 : Int) ≤ (geti l1 z1)))) hF (by kernel_rfl) (fun hb => ?_) (fun hb => ?_)
        · replace hm := if_t hm hb
          refine reg [] [] [2] [pl 2 (.int .i64 3)] hF hS Fol (by kernel_rfl) (by kernel_rfl) (by kernel_rfl) ?_ (fun a w hF hS => ?_)
          · exact obs_nil
          refine wpIn_ret ?_
          refine block_r (then_r (then_r (block_r (then_r ?_))))
          rw [← hφ1] at hm
          replace hm := done_b hm
          unfold poker_check_K1 at hm
          try dsimp only at hm
          have hS := hS.pickN 1 [] (by decide)
          have hm : some 3 = some r := hm
          obtain rfl := Option.some.inj hm
          exact retV (rs := [.tmp 2]) (vs := [.int .i64 3]) hF rfl (rv_t (by kernel_rfl) <| rv_nil) rfl ⟨rfl, hS⟩
        · replace hm := if_f hm hb
          refine wpIn_skip ?_
          refine block_n ?_
          refine then_n ?_
          exact ⟨hF.weak [0, 3, 8, 9, 10] (by kernel_rfl), hS, hm⟩
    · refine cond_ev (t := 11) (b := decide (z1 < (l1.length : Int))) hF (by kernel_rfl) (fun hb => ?_) (fun hb => ?_)
      · replace hm := if_t hm hb
        refine wpIn_skip ?_
        refine then_n ?_
        exact ⟨hF.weak [0, 3, 8, 9, 10] (by kernel_rfl), hS, hm⟩
      · replace hm := if_f hm hb
        refine wpIn_exit ?_
        refine then_e (then_e (block_e (then_n ?_)))
        rw [← hφ1] at hm
        replace hm := done_b hm
        unfold poker_check_K1 at hm
        try dsimp only at hm
        have hm : ((poker_check_J1 l1)).bind some = some r := hm
        exact ⟨hF.weak [0, 3] (by kernel_rfl), hS, hm⟩

noncomputable def poker_fives_m  (l1 : List Int) : Option Unit :=
  some ()

set_option maxRecDepth 100000 in
set_option maxHeartbeats 4000000 in
theorem poker_fives_w  {A1 : Option Addr} {c1 : Nat} {n1 : Nat} {l1 : List Int} {r : Unit} {w0 w : World} {B : Nat} {fs : List HP} (hm : poker_fives_m l1 = some r) (hS : Sep w0 B w (fs)) (hr_l1 : RdF w0 B fs A1 (vI l1)) (_hc_l1 : l1.length ≤ c1) (_hn_l1 : n1 = l1.length) :
    Calls Try.prog 194 #[.slice A1 n1 c1] w fun e w' => ∃ v, e = .returned v ∧ ∃ (g2 : Nat), v = .func (.func 243) #[] #[.pointer (some ⟨g2, 0, none⟩)] ∧ Sep w0 B w' (blk g2 22 #[.slice A1 n1 c1] :: fs) := by
  obtain ⟨i3, hi3, hz3, hs3, hb3⟩ := info_parts Info3
  obtain rfl := _hn_l1
  unfold poker_fives_m at hm
  replace hm := start_b hm
  refine enter (l := [.slice A1 l1.length c1]) (n := 4) Try.func194 rfl rfl (by simp) (fun a hF => ?_)
  refine seqR ?_
  refine at_do (d := 1) (s := vS (Instr.box 22 (.slice A1 l1.length c1))) (v := .pointer (some ⟨w.heap.size, 0, none⟩)) (w' := w.alloc (.cells #[.slice A1 l1.length c1] 22)) hF (by kernel_rfl) (by kernel_rfl) (by kernel_rfl) (fun a hF => ?_)
  have hS : Sep w0 B (w.alloc (.cells #[.slice A1 l1.length c1] 22)) (blk w.heap.size 22 #[.slice A1 l1.length c1] :: (fs)) := hS.box 22 #[.slice A1 l1.length c1]
  generalize w.heap.size = g1 at hF hS
  generalize w.alloc (.cells #[.slice A1 l1.length c1] 22) = w at hS ⊢
  refine at_run 1 [] [] [1] [pl 1 (.pointer (some ⟨g1, 0, none⟩))] hF hS (by kernel_rfl) (by kernel_rfl) ?_ (fun a w hF hS => ?_)
  · exact obs_nil
  refine at_end [1] [pl 1 (.pointer (some ⟨g1, 0, none⟩))] hF rfl (by kernel_rfl) (fun hF => ?_)
  refine then_n ?_
  refine reg [] [] [2] [pl 2 (.func (.func 243) #[] #[.pointer (some ⟨g1, 0, none⟩)])] hF hS Fol (by kernel_rfl) (by kernel_rfl) (by kernel_rfl) ?_ (fun a w hF hS => ?_)
  · exact obs_nil
  refine wpIn_ret ?_
  have hm : some () = some r := hm
  obtain rfl := Option.some.inj hm
  exact retV (rs := [.tmp 2]) (vs := [.func (.func 243) #[] #[.pointer (some ⟨g1, 0, none⟩)]]) hF rfl (rv_t (by kernel_rfl) <| rv_nil) rfl ⟨_, rfl, g1, rfl, hS⟩

noncomputable def poker_fives_1_1_J4 {S : Type}  (i1 : Int) (z4 : List Int) (z5 : List Int) (z6 : S) : Option (St (List Int × List Int × S × Int) (Fl (S × List Int × List Int) (Bool × S × List Int × List Int))) :=
  some (.next (z4, z5, z6, (w64 (i1 + 1))))

noncomputable def poker_fives_1_1_J5 {S : Type}  (rec_poker_fives_1_1 : Int → Int → ((List Int × List Int) → S → Option (S × Bool)) → S → List Int → List Int → List Int → Option (Bool × S × List Int × List Int)) (k1 : Int) (yd1 : (List Int × List Int) → S → Option (S × Bool)) (p51 : List Int) (z1 : List Int) (z2 : List Int) (z3 : S) (i1 : Int) : Option (St (List Int × List Int × S × Int) (Fl (S × List Int × List Int) (Bool × S × List Int × List Int))) :=
  (rec_poker_fives_1_1 (w64 (i1 + 1)) (w64 (k1 + 1)) yd1 z3 (z1.set (Int.toNat k1) i1) (z2.set (Int.toNat k1) (geti p51 i1)) p51).bind fun r2 => if (!r2.1) then (some (.done (.ret (false, r2.2.1, r2.2.2.1, r2.2.2.2)))) else ((poker_fives_1_1_J4 i1) r2.2.2.1 r2.2.2.2 r2.2.1)

noncomputable def poker_fives_1_1_J3 {S : Type}  (rec_poker_fives_1_1 : Int → Int → ((List Int × List Int) → S → Option (S × Bool)) → S → List Int → List Int → List Int → Option (Bool × S × List Int × List Int)) (k1 : Int) (yd1 : (List Int × List Int) → S → Option (S × Bool)) (p51 : List Int) (z1 : List Int) (z2 : List Int) (z3 : S) (i1 : Int) : Option (St (List Int × List Int × S × Int) (Fl (S × List Int × List Int) (Bool × S × List Int × List Int))) :=
  asrt (0 ≤ k1 ∧ k1 < 5) <| asrt (0 ≤ i1 ∧ i1 < (p51.length : Int)) <| asrt (k1 < (z1.length : Int)) <| asrt (0 ≤ k1 ∧ k1 < 5) <| asrt (k1 < (z2.length : Int)) <| (poker_fives_1_1_J5 rec_poker_fives_1_1 k1 yd1 p51 z1 z2 z3 i1)

noncomputable def poker_fives_1_1_J2 {S : Type}  (p22 : S) (p33 : List Int) (p43 : List Int) : Option (Bool × S × List Int × List Int) :=
  some (true, p22, p33, p43)

noncomputable def poker_fives_1_1_K1 {S : Type}  : (Fl (S × List Int × List Int) (Bool × S × List Int × List Int)) → Option (Bool × S × List Int × List Int) :=
  fun (x : (Fl (S × List Int × List Int) (Bool × S × List Int × List Int))) => match x with | .go (p22, p33, p43) => poker_fives_1_1_J2 p22 p33 p43 | .ret x => some x

noncomputable def poker_fives_1_1_L1 {S : Type}  (rec_poker_fives_1_1 : Int → Int → ((List Int × List Int) → S → Option (S × Bool)) → S → List Int → List Int → List Int → Option (Bool × S × List Int × List Int)) (k1 : Int) (yd1 : (List Int × List Int) → S → Option (S × Bool)) (p51 : List Int) : (List Int × List Int × S × Int) → Option (St (List Int × List Int × S × Int) (Fl (S × List Int × List Int) (Bool × S × List Int × List Int))) :=
  fun (x : (List Int × List Int × S × Int)) => match x with | (z1, z2, z3, i1) => if (decide (i1 < (p51.length : Int))) then ((poker_fives_1_1_J3 rec_poker_fives_1_1 k1 yd1 p51 z1 z2 z3 i1)) else (some (.done (.go (z3, z1, z2))))

noncomputable def poker_fives_1_1_J1 {S : Type}  (rec_poker_fives_1_1 : Int → Int → ((List Int × List Int) → S → Option (S × Bool)) → S → List Int → List Int → List Int → Option (Bool × S × List Int × List Int)) (from1 : Int) (k1 : Int) (yd1 : (List Int × List Int) → S → Option (S × Bool)) (sv1 : S) (p31 : List Int) (p41 : List Int) (p51 : List Int) : Option (Bool × S × List Int × List Int) :=
  (loop (poker_fives_1_1_L1 rec_poker_fives_1_1 k1 yd1 p51) (p31, p41, sv1, from1)).bind poker_fives_1_1_K1

noncomputable def poker_fives_1_1_B {S : Type}  (rec_poker_fives_1_1 : Int → Int → ((List Int × List Int) → S → Option (S × Bool)) → S → List Int → List Int → List Int → Option (Bool × S × List Int × List Int)) (from1 : Int) (k1 : Int) (yd1 : (List Int × List Int) → S → Option (S × Bool)) (sv1 : S) (p31 : List Int) (p41 : List Int) (p51 : List Int) : Option (Bool × S × List Int × List Int) :=
  if (k1 == 5) then ((yd1 (p31, p41) sv1).bind fun r1 => some (r1.2, r1.1, p31, p41)) else ((poker_fives_1_1_J1 rec_poker_fives_1_1 from1 k1 yd1 sv1 p31 p41 p51))

noncomputable def poker_fives_1_1_mF {S : Type}  : Nat → Int → Int → ((List Int × List Int) → S → Option (S × Bool)) → S → List Int → List Int → List Int → Option (Bool × S × List Int × List Int)
  | 0 => fun _ _ _ _ _ _ _ => none
  | n + 1 => fun from1 k1 yd1 sv1 p31 p41 p51 => poker_fives_1_1_B (poker_fives_1_1_mF n) from1 k1 yd1 sv1 p31 p41 p51

noncomputable def poker_fives_1_1_m {S : Type}  (from1 : Int) (k1 : Int) (yd1 : (List Int × List Int) → S → Option (S × Bool)) (sv1 : S) (p31 : List Int) (p41 : List Int) (p51 : List Int) : Option (Bool × S × List Int × List Int) :=
  recM fun n => poker_fives_1_1_mF n from1 k1 yd1 sv1 p31 p41 p51

set_option maxRecDepth 100000 in
set_option maxHeartbeats 4000000 in
theorem poker_fives_1_1_wB {S : Type}  {rec_poker_fives_1_1 : Int → Int → ((List Int × List Int) → S → Option (S × Bool)) → S → List Int → List Int → List Int → Option (Bool × S × List Int × List Int)} (ih_poker_fives_1_1 : ∀ {from1 : Int} {k1 : Int} {g1 : Nat} {l1 : Nat} {RS : S → List HP → Prop} {yd1 : (List Int × List Int) → S → Option (S × Bool)} {sv1 : S} {g2 : Nat} {p31 : List Int} {g3 : Nat} {p41 : List Int} {g4 : Nat} {A1 : Option Addr} {c1 : Nat} {n1 : Nat} {p51 : List Int} {g5 : Nat} {r : (Bool × S × List Int × List Int)} {w0 w : World} {B : Nat} {fs : List HP} (_ : rec_poker_fives_1_1 from1 k1 yd1 sv1 p31 p41 p51 = some r) (_ : Sep w0 B w (stateH RS sv1 :: blk g1 274 #[.func (.yield l1) #[] #[]] :: blk g2 233 (List.toArray (([] : List Value) ++ (arr1 (Value.int .i64) (0 : Int) 5 p31 ++ ([] : List Value)))) :: blk g3 233 (List.toArray (([] : List Value) ++ (arr1 (Value.int .i64) (0 : Int) 5 p41 ++ ([] : List Value)))) :: blk g4 22 #[.slice A1 n1 c1] :: blk g5 166 #[.func (.func 244) #[] #[.pointer (some ⟨g1, 0, none⟩), .pointer (some ⟨g2, 0, none⟩), .pointer (some ⟨g3, 0, none⟩), .pointer (some ⟨g4, 0, none⟩), .pointer (some ⟨g5, 0, none⟩)]] :: fs)) (_hY : YieldC Try.prog w0 B l1 (fun (x : (List Int × List Int)) => #[.agg (List.toArray (([] : List Value) ++ (arr1 (Value.int .i64) (0 : Int) 5 x.1 ++ ([] : List Value)))), .agg (List.toArray (([] : List Value) ++ (arr1 (Value.int .i64) (0 : Int) 5 x.2 ++ ([] : List Value))))]) RS yd1 (blk g4 22 #[.slice A1 n1 c1] :: fs)) (_hr_p51 : RdF w0 B fs A1 (vI p51)) (_hc_p51 : p51.length ≤ c1) (_hn_p51 : n1 = p51.length), Calls Try.prog 244 #[.int .i64 from1, .int .i64 k1, .pointer (some ⟨g1, 0, none⟩), .pointer (some ⟨g2, 0, none⟩), .pointer (some ⟨g3, 0, none⟩), .pointer (some ⟨g4, 0, none⟩), .pointer (some ⟨g5, 0, none⟩)] w fun e w' => ∃ v, e = .returned v ∧ v = .bool r.1 ∧ Sep w0 B w' (blk g1 274 #[.func (.yield l1) #[] #[]] :: stateH RS r.2.1 :: blk g2 233 (List.toArray (([] : List Value) ++ (arr1 (Value.int .i64) (0 : Int) 5 r.2.2.1 ++ ([] : List Value)))) :: blk g3 233 (List.toArray (([] : List Value) ++ (arr1 (Value.int .i64) (0 : Int) 5 r.2.2.2 ++ ([] : List Value)))) :: blk g4 22 #[.slice A1 n1 c1] :: blk g5 166 #[.func (.func 244) #[] #[.pointer (some ⟨g1, 0, none⟩), .pointer (some ⟨g2, 0, none⟩), .pointer (some ⟨g3, 0, none⟩), .pointer (some ⟨g4, 0, none⟩), .pointer (some ⟨g5, 0, none⟩)]] :: fs)) {from1 : Int} {k1 : Int} {g1 : Nat} {l1 : Nat} {RS : S → List HP → Prop} {yd1 : (List Int × List Int) → S → Option (S × Bool)} {sv1 : S} {g2 : Nat} {p31 : List Int} {g3 : Nat} {p41 : List Int} {g4 : Nat} {A1 : Option Addr} {c1 : Nat} {n1 : Nat} {p51 : List Int} {g5 : Nat} {r : (Bool × S × List Int × List Int)} {w0 w : World} {B : Nat} {fs : List HP} (hm : poker_fives_1_1_B rec_poker_fives_1_1 from1 k1 yd1 sv1 p31 p41 p51 = some r) (hS : Sep w0 B w (stateH RS sv1 :: blk g1 274 #[.func (.yield l1) #[] #[]] :: blk g2 233 (List.toArray (([] : List Value) ++ (arr1 (Value.int .i64) (0 : Int) 5 p31 ++ ([] : List Value)))) :: blk g3 233 (List.toArray (([] : List Value) ++ (arr1 (Value.int .i64) (0 : Int) 5 p41 ++ ([] : List Value)))) :: blk g4 22 #[.slice A1 n1 c1] :: blk g5 166 #[.func (.func 244) #[] #[.pointer (some ⟨g1, 0, none⟩), .pointer (some ⟨g2, 0, none⟩), .pointer (some ⟨g3, 0, none⟩), .pointer (some ⟨g4, 0, none⟩), .pointer (some ⟨g5, 0, none⟩)]] :: fs)) (hY : YieldC Try.prog w0 B l1 (fun (x : (List Int × List Int)) => #[.agg (List.toArray (([] : List Value) ++ (arr1 (Value.int .i64) (0 : Int) 5 x.1 ++ ([] : List Value)))), .agg (List.toArray (([] : List Value) ++ (arr1 (Value.int .i64) (0 : Int) 5 x.2 ++ ([] : List Value))))]) RS yd1 (blk g4 22 #[.slice A1 n1 c1] :: fs)) (hr_p51 : RdF w0 B fs A1 (vI p51)) (_hc_p51 : p51.length ≤ c1) (_hn_p51 : n1 = p51.length) :
    Calls Try.prog 244 #[.int .i64 from1, .int .i64 k1, .pointer (some ⟨g1, 0, none⟩), .pointer (some ⟨g2, 0, none⟩), .pointer (some ⟨g3, 0, none⟩), .pointer (some ⟨g4, 0, none⟩), .pointer (some ⟨g5, 0, none⟩)] w fun e w' => ∃ v, e = .returned v ∧ v = .bool r.1 ∧ Sep w0 B w' (blk g1 274 #[.func (.yield l1) #[] #[]] :: stateH RS r.2.1 :: blk g2 233 (List.toArray (([] : List Value) ++ (arr1 (Value.int .i64) (0 : Int) 5 r.2.2.1 ++ ([] : List Value)))) :: blk g3 233 (List.toArray (([] : List Value) ++ (arr1 (Value.int .i64) (0 : Int) 5 r.2.2.2 ++ ([] : List Value)))) :: blk g4 22 #[.slice A1 n1 c1] :: blk g5 166 #[.func (.func 244) #[] #[.pointer (some ⟨g1, 0, none⟩), .pointer (some ⟨g2, 0, none⟩), .pointer (some ⟨g3, 0, none⟩), .pointer (some ⟨g4, 0, none⟩), .pointer (some ⟨g5, 0, none⟩)]] :: fs) := by
  obtain ⟨i3, hi3, hz3, hs3, hb3⟩ := info_parts Info3
  obtain rfl := _hn_p51
  unfold poker_fives_1_1_B at hm
  replace hm := start_b hm
  refine enter (l := [.int .i64 from1, .int .i64 k1, .pointer (some ⟨g1, 0, none⟩), .pointer (some ⟨g2, 0, none⟩), .pointer (some ⟨g3, 0, none⟩), .pointer (some ⟨g4, 0, none⟩), .pointer (some ⟨g5, 0, none⟩)]) (n := 40) Try.func244 rfl rfl (by simp) (fun a hF => ?_)
  refine reg [] [] [0, 1, 2, 3, 4, 5, 6] [pl 0 (.int .i64 from1), pl 1 (.int .i64 k1), pl 2 (.pointer (some ⟨g1, 0, none⟩)), pl 3 (.pointer (some ⟨g2, 0, none⟩)), pl 4 (.pointer (some ⟨g3, 0, none⟩)), pl 5 (.pointer (some ⟨g4, 0, none⟩)), pl 6 (.pointer (some ⟨g5, 0, none⟩))] hF hS Fol (by kernel_rfl) (by kernel_rfl) (by kernel_rfl) ?_ (fun a w hF hS => ?_)
  · exact obs_nil
  refine seq_cut (fun a w => Fr 40 [pl 0 (.int .i64 from1), pl 1 (.int .i64 k1), pl 3 (.pointer (some ⟨g2, 0, none⟩)), pl 4 (.pointer (some ⟨g3, 0, none⟩)), pl 5 (.pointer (some ⟨g4, 0, none⟩)), pl 6 (.pointer (some ⟨g5, 0, none⟩))] a ∧ Sep w0 B w (blk g2 233 (List.toArray (([] : List Value) ++ (arr1 (Value.int .i64) (0 : Int) 5 p31 ++ ([] : List Value)))) :: blk g3 233 (List.toArray (([] : List Value) ++ (arr1 (Value.int .i64) (0 : Int) 5 p41 ++ ([] : List Value)))) :: blk g4 22 #[.slice A1 p51.length c1] :: blk g5 166 #[.func (.func 244) #[] #[.pointer (some ⟨g1, 0, none⟩), .pointer (some ⟨g2, 0, none⟩), .pointer (some ⟨g3, 0, none⟩), .pointer (some ⟨g4, 0, none⟩), .pointer (some ⟨g5, 0, none⟩)]] :: blk g1 274 #[.func (.yield l1) #[] #[]] :: stateH RS sv1 :: fs) ∧ ((poker_fives_1_1_J1 rec_poker_fives_1_1 from1 k1 yd1 sv1 p31 p41 p51)).bind some = some r) ?_ ?_
  · rintro a w ⟨hF, hS, hm⟩
    unfold poker_fives_1_1_J1 at hm
    refine seq_cut (fun a w => ∃ (p22 : S) (p33 : List Int) (p43 : List Int), Fr 40 [] a ∧ Sep w0 B w (blk g1 274 #[.func (.yield l1) #[] #[]] :: stateH RS p22 :: blk g2 233 (List.toArray (([] : List Value) ++ (arr1 (Value.int .i64) (0 : Int) 5 p33 ++ ([] : List Value)))) :: blk g3 233 (List.toArray (([] : List Value) ++ (arr1 (Value.int .i64) (0 : Int) 5 p43 ++ ([] : List Value)))) :: blk g4 22 #[.slice A1 p51.length c1] :: blk g5 166 #[.func (.func 244) #[] #[.pointer (some ⟨g1, 0, none⟩), .pointer (some ⟨g2, 0, none⟩), .pointer (some ⟨g3, 0, none⟩), .pointer (some ⟨g4, 0, none⟩), .pointer (some ⟨g5, 0, none⟩)]] :: fs) ∧ (poker_fives_1_1_J2 p22 p33 p43).bind some = some r) ?_ ?_
    · rintro a w ⟨p22, p33, p43, hF, hS, hm⟩
      unfold poker_fives_1_1_J2 at hm
      refine reg [] [] [9] [pl 9 (.bool true)] hF hS Fol (by kernel_rfl) (by kernel_rfl) (by kernel_rfl) ?_ (fun a w hF hS => ?_)
      · exact obs_nil
      refine wpIn_ret ?_
      have hm : some (true, p22, p33, p43) = some r := hm
      obtain rfl := Option.some.inj hm
      exact retV (rs := [.tmp 9]) (vs := [.bool true]) hF rfl (rv_t (by kernel_rfl) <| rv_nil) rfl ⟨_, rfl, rfl, hS⟩
    · refine reg [] [] [1, 3, 4, 5, 6, 10] [pl 1 (.int .i64 k1), pl 3 (.pointer (some ⟨g2, 0, none⟩)), pl 4 (.pointer (some ⟨g3, 0, none⟩)), pl 5 (.pointer (some ⟨g4, 0, none⟩)), pl 6 (.pointer (some ⟨g5, 0, none⟩)), pl 10 (.int .i64 from1)] hF hS Fol (by kernel_rfl) (by kernel_rfl) (by kernel_rfl) ?_ (fun a w hF hS => ?_)
      · exact obs_nil
      refine wpIn_block ?_
      refine wp_loop_model (S := (List Int × List Int × S × Int)) (R := (Fl (S × List Int × List Int) (Bool × S × List Int × List Int))) (poker_fives_1_1_L1 rec_poker_fives_1_1 k1 yd1 p51) (fun x => (poker_fives_1_1_K1 x).bind some) r (fun (x : (List Int × List Int × S × Int)) a w => Fr 40 [pl 1 (.int .i64 k1), pl 3 (.pointer (some ⟨g2, 0, none⟩)), pl 4 (.pointer (some ⟨g3, 0, none⟩)), pl 5 (.pointer (some ⟨g4, 0, none⟩)), pl 6 (.pointer (some ⟨g5, 0, none⟩)), pl 10 (.int .i64 x.2.2.2)] a ∧ Sep w0 B w (blk g2 233 (List.toArray (([] : List Value) ++ (arr1 (Value.int .i64) (0 : Int) 5 x.1 ++ ([] : List Value)))) :: blk g3 233 (List.toArray (([] : List Value) ++ (arr1 (Value.int .i64) (0 : Int) 5 x.2.1 ++ ([] : List Value)))) :: blk g4 22 #[.slice A1 p51.length c1] :: blk g5 166 #[.func (.func 244) #[] #[.pointer (some ⟨g1, 0, none⟩), .pointer (some ⟨g2, 0, none⟩), .pointer (some ⟨g3, 0, none⟩), .pointer (some ⟨g4, 0, none⟩), .pointer (some ⟨g5, 0, none⟩)]] :: blk g1 274 #[.func (.yield l1) #[] #[]] :: stateH RS x.2.2.1 :: fs)) (assoc_b hm) ⟨hF.weak [1, 3, 4, 5, 6, 10] (by kernel_rfl), hS⟩ ?_
      clear hF hS hm
      rintro nn1 ⟨z1, z2, z3, i1⟩ a w ⟨hF, hS⟩ hm
      generalize hφ1 : stK (poker_fives_1_1_L1 rec_poker_fives_1_1 k1 yd1 p51) nn1 (fun x => (poker_fives_1_1_K1 x).bind some) = φ1 at hm
      unfold poker_fives_1_1_L1 at hm
      dsimp only at hF hS hm
      refine seq_cut (fun a w => Fr 40 [pl 1 (.int .i64 k1), pl 3 (.pointer (some ⟨g2, 0, none⟩)), pl 4 (.pointer (some ⟨g3, 0, none⟩)), pl 5 (.pointer (some ⟨g4, 0, none⟩)), pl 6 (.pointer (some ⟨g5, 0, none⟩)), pl 10 (.int .i64 i1)] a ∧ Sep w0 B w (blk g2 233 (List.toArray (([] : List Value) ++ (arr1 (Value.int .i64) (0 : Int) 5 z1 ++ ([] : List Value)))) :: blk g3 233 (List.toArray (([] : List Value) ++ (arr1 (Value.int .i64) (0 : Int) 5 z2 ++ ([] : List Value)))) :: blk g4 22 #[.slice A1 p51.length c1] :: blk g5 166 #[.func (.func 244) #[] #[.pointer (some ⟨g1, 0, none⟩), .pointer (some ⟨g2, 0, none⟩), .pointer (some ⟨g3, 0, none⟩), .pointer (some ⟨g4, 0, none⟩), .pointer (some ⟨g5, 0, none⟩)]] :: blk g1 274 #[.func (.yield l1) #[] #[]] :: stateH RS z3 :: fs) ∧ ((poker_fives_1_1_J3 rec_poker_fives_1_1 k1 yd1 p51 z1 z2 z3 i1)).bind φ1 = some r) ?_ ?_
      · rintro a w ⟨hF, hS, hm⟩
        unfold poker_fives_1_1_J3 at hm
        refine seq_cut (fun a w => ∃ (z4 : List Int) (z5 : List Int) (z6 : S), Fr 40 [pl 1 (.int .i64 k1), pl 3 (.pointer (some ⟨g2, 0, none⟩)), pl 4 (.pointer (some ⟨g3, 0, none⟩)), pl 5 (.pointer (some ⟨g4, 0, none⟩)), pl 6 (.pointer (some ⟨g5, 0, none⟩)), pl 10 (.int .i64 i1)] a ∧ Sep w0 B w (blk g2 233 (List.toArray (([] : List Value) ++ (arr1 (Value.int .i64) (0 : Int) 5 z4 ++ ([] : List Value)))) :: blk g3 233 (List.toArray (([] : List Value) ++ (arr1 (Value.int .i64) (0 : Int) 5 z5 ++ ([] : List Value)))) :: blk g4 22 #[.slice A1 p51.length c1] :: blk g5 166 #[.func (.func 244) #[] #[.pointer (some ⟨g1, 0, none⟩), .pointer (some ⟨g2, 0, none⟩), .pointer (some ⟨g3, 0, none⟩), .pointer (some ⟨g4, 0, none⟩), .pointer (some ⟨g5, 0, none⟩)]] :: blk g1 274 #[.func (.yield l1) #[] #[]] :: stateH RS z6 :: fs) ∧ ((poker_fives_1_1_J4 i1) z4 z5 z6).bind φ1 = some r) ?_ ?_
        · rintro a w ⟨z4, z5, z6, hF, hS, hm⟩
          unfold poker_fives_1_1_J4 at hm
          refine reg1 [] [] [1, 3, 4, 5, 6, 10] [pl 1 (.int .i64 k1), pl 3 (.pointer (some ⟨g2, 0, none⟩)), pl 4 (.pointer (some ⟨g3, 0, none⟩)), pl 5 (.pointer (some ⟨g4, 0, none⟩)), pl 6 (.pointer (some ⟨g5, 0, none⟩)), pl 10 (.int .i64 (w64 (i1 + 1)))] hF hS Fol (by kernel_rfl) (by kernel_rfl) (by kernel_rfl) ?_ (fun a w hF hS => ?_)
          · exact obs_nil
          refine then_n ?_
          rw [← hφ1] at hm
          exact ⟨(z4, z5, z6, (w64 (i1 + 1))), ⟨hF.weak [1, 3, 4, 5, 6, 10] (by kernel_rfl), hS⟩, hm⟩
        · refine wpIn_block ?_
          refine seq_cut (fun a w => Fr 40 [pl 1 (.int .i64 k1), pl 3 (.pointer (some ⟨g2, 0, none⟩)), pl 4 (.pointer (some ⟨g3, 0, none⟩)), pl 5 (.pointer (some ⟨g4, 0, none⟩)), pl 6 (.pointer (some ⟨g5, 0, none⟩)), pl 10 (.int .i64 i1)] a ∧ Sep w0 B w (blk g2 233 (List.toArray (([] : List Value) ++ (arr1 (Value.int .i64) (0 : Int) 5 (z1.set (Int.toNat k1) i1) ++ ([] : List Value)))) :: blk g3 233 (List.toArray (([] : List Value) ++ (arr1 (Value.int .i64) (0 : Int) 5 (z2.set (Int.toNat k1) (geti p51 i1)) ++ ([] : List Value)))) :: blk g4 22 #[.slice A1 p51.length c1] :: blk g5 166 #[.func (.func 244) #[] #[.pointer (some ⟨g1, 0, none⟩), .pointer (some ⟨g2, 0, none⟩), .pointer (some ⟨g3, 0, none⟩), .pointer (some ⟨g4, 0, none⟩), .pointer (some ⟨g5, 0, none⟩)]] :: blk g1 274 #[.func (.yield l1) #[] #[]] :: stateH RS z3 :: fs) ∧ ((poker_fives_1_1_J5 rec_poker_fives_1_1 k1 yd1 p51 z1 z2 z3 i1)).bind φ1 = some r) ?_ ?_
          · rintro a w ⟨hF, hS, hm⟩
            unfold poker_fives_1_1_J5 at hm
            refine seqR ?_
            obtain ⟨r2, hr2, hm⟩ := call_b hm
            refine at_run 5 [⟨false, [], vS (Instr.loadAt 166 (.pointer (some ⟨g5, 0, none⟩))), .func (.func 244) #[] #[.pointer (some ⟨g1, 0, none⟩), .pointer (some ⟨g2, 0, none⟩), .pointer (some ⟨g3, 0, none⟩), .pointer (some ⟨g4, 0, none⟩), .pointer (some ⟨g5, 0, none⟩)]⟩] [some (.func (.func 244) #[] #[.pointer (some ⟨g1, 0, none⟩), .pointer (some ⟨g2, 0, none⟩), .pointer (some ⟨g3, 0, none⟩), .pointer (some ⟨g4, 0, none⟩), .pointer (some ⟨g5, 0, none⟩)]), none, none, none, none] [1, 3, 4, 5, 6, 10, 33, 35, 37] [pl 1 (.int .i64 k1), pl 3 (.pointer (some ⟨g2, 0, none⟩)), pl 4 (.pointer (some ⟨g3, 0, none⟩)), pl 5 (.pointer (some ⟨g4, 0, none⟩)), pl 6 (.pointer (some ⟨g5, 0, none⟩)), pl 10 (.int .i64 i1), pl 33 (.func (.func 244) #[] #[.pointer (some ⟨g1, 0, none⟩), .pointer (some ⟨g2, 0, none⟩), .pointer (some ⟨g3, 0, none⟩), .pointer (some ⟨g4, 0, none⟩), .pointer (some ⟨g5, 0, none⟩)]), pl 35 (.int .i64 (w64 (i1 + 1))), pl 37 (.int .i64 (w64 (k1 + 1)))] hF hS (by kernel_rfl) (by kernel_rfl) ?_ (fun a w hF hS => ?_)
            · exact obs_cons (ob_load Agg166 (fun _ _ hS => (hS.at_ 3 rfl).cell rfl)) <| obs_nil
            have hS : Sep w0 B w (stateH RS z3 :: blk g1 274 #[.func (.yield l1) #[] #[]] :: blk g2 233 (List.toArray (([] : List Value) ++ (arr1 (Value.int .i64) (0 : Int) 5 (z1.set (Int.toNat k1) i1) ++ ([] : List Value)))) :: blk g3 233 (List.toArray (([] : List Value) ++ (arr1 (Value.int .i64) (0 : Int) 5 (z2.set (Int.toNat k1) (geti p51 i1)) ++ ([] : List Value)))) :: blk g4 22 #[.slice A1 p51.length c1] :: blk g5 166 #[.func (.func 244) #[] #[.pointer (some ⟨g1, 0, none⟩), .pointer (some ⟨g2, 0, none⟩), .pointer (some ⟨g3, 0, none⟩), .pointer (some ⟨g4, 0, none⟩), .pointer (some ⟨g5, 0, none⟩)]] :: fs) := hS.pickN 6 [5, 4, 0, 1, 2, 3] (by decide)
            refine at_call (f := 244) (args := #[.int .i64 (w64 (i1 + 1)), .int .i64 (w64 (k1 + 1)), .pointer (some ⟨g1, 0, none⟩), .pointer (some ⟨g2, 0, none⟩), .pointer (some ⟨g3, 0, none⟩), .pointer (some ⟨g4, 0, none⟩), .pointer (some ⟨g5, 0, none⟩)]) (d := 38) hF (by kernel_rfl) (by kernel_rfl) Try.func244 (by kernel_rfl) rfl (ih_poker_fives_1_1 hr2 hS hY (fun _ hS => (hr_p51 _ (hS.dropN 0))) _hc_p51 rfl) (fun v a w hR hF => ?_)
            clear hS
            obtain ⟨rfl, hS⟩ := hR
            have hS : Sep w0 B w (blk g1 274 #[.func (.yield l1) #[] #[]] :: stateH RS r2.2.1 :: blk g2 233 (List.toArray (([] : List Value) ++ (arr1 (Value.int .i64) (0 : Int) 5 r2.2.2.1 ++ ([] : List Value)))) :: blk g3 233 (List.toArray (([] : List Value) ++ (arr1 (Value.int .i64) (0 : Int) 5 r2.2.2.2 ++ ([] : List Value)))) :: blk g4 22 #[.slice A1 p51.length c1] :: blk g5 166 #[.func (.func 244) #[] #[.pointer (some ⟨g1, 0, none⟩), .pointer (some ⟨g2, 0, none⟩), .pointer (some ⟨g3, 0, none⟩), .pointer (some ⟨g4, 0, none⟩), .pointer (some ⟨g5, 0, none⟩)]] :: fs) := hS
            refine at_run 1 [] [] [1, 3, 4, 5, 6, 10, 39] [pl 1 (.int .i64 k1), pl 3 (.pointer (some ⟨g2, 0, none⟩)), pl 4 (.pointer (some ⟨g3, 0, none⟩)), pl 5 (.pointer (some ⟨g4, 0, none⟩)), pl 6 (.pointer (some ⟨g5, 0, none⟩)), pl 10 (.int .i64 i1), pl 39 (.bool (!r2.1))] hF hS (by kernel_rfl) (by kernel_rfl) ?_ (fun a w hF hS => ?_)
            · exact obs_nil
            refine at_end [1, 3, 4, 5, 6, 10, 39] [pl 1 (.int .i64 k1), pl 3 (.pointer (some ⟨g2, 0, none⟩)), pl 4 (.pointer (some ⟨g3, 0, none⟩)), pl 5 (.pointer (some ⟨g4, 0, none⟩)), pl 6 (.pointer (some ⟨g5, 0, none⟩)), pl 10 (.int .i64 i1), pl 39 (.bool (!r2.1))] hF rfl (by kernel_rfl) (fun hF => ?_)
            refine then_n ?_
            refine cond_ev (t := 39) (b := !r2.1) hF (by kernel_rfl) (fun hb => ?_) (fun hb => ?_)
            · replace hm := if_t hm hb
              refine reg [] [] [9] [pl 9 (.bool false)] hF hS Fol (by kernel_rfl) (by kernel_rfl) (by kernel_rfl) ?_ (fun a w hF hS => ?_)
              · exact obs_nil
              refine wpIn_ret ?_
              refine block_r (then_r (then_r (block_r (then_r ?_))))
              rw [← hφ1] at hm
              replace hm := done_b hm
              unfold poker_fives_1_1_K1 at hm
              try dsimp only at hm
              have hm : some (false, r2.2.1, r2.2.2.1, r2.2.2.2) = some r := hm
              obtain rfl := Option.some.inj hm
              exact retV (rs := [.tmp 9]) (vs := [.bool false]) hF rfl (rv_t (by kernel_rfl) <| rv_nil) rfl ⟨_, rfl, rfl, hS⟩
            · replace hm := if_f hm hb
              refine wpIn_skip ?_
              refine block_n ?_
              refine then_n ?_
              have hS := hS.pickN 6 [2, 3, 4, 5, 0, 1] (by decide)
              exact ⟨r2.2.2.1, r2.2.2.2, r2.2.1, hF.weak [1, 3, 4, 5, 6, 10] (by kernel_rfl), hS, hm⟩
          · obtain ⟨hp1, hm⟩ := asrt_b hm
            obtain ⟨hp2, hm⟩ := asrt_b hm
            obtain ⟨hp3, hm⟩ := asrt_b hm
            obtain ⟨hp4, hm⟩ := asrt_b hm
            obtain ⟨hp5, hm⟩ := asrt_b hm
            refine regMix5 [0, 1, 2, 4, 7] [8, 10] 6 #[true, true, true, false, true, false, false, true, false, false, false] [⟨true, [], vS (Instr.indexAt 233 (.pointer (some ⟨g2, 0, none⟩)) (.int .i64 k1)), .pointer (some ((⟨g2, 0, none⟩ : Addr).add (Int.toNat k1 * 1)))⟩] [none, none, none, none, some (.pointer (some ((⟨g2, 0, none⟩ : Addr).add (Int.toNat k1 * 1))))] [1, 3, 4, 5, 6, 10, 25, 26, 28, 31] [pl 1 (.int .i64 k1), pl 3 (.pointer (some ⟨g2, 0, none⟩)), pl 4 (.pointer (some ⟨g3, 0, none⟩)), pl 5 (.pointer (some ⟨g4, 0, none⟩)), pl 6 (.pointer (some ⟨g5, 0, none⟩)), pl 10 (.int .i64 i1), pl 25 (.int .i64 k1), pl 26 (.int .i64 i1), pl 28 (.int .i64 i1), pl 31 (.pointer (some ((⟨g2, 0, none⟩ : Addr).add (Int.toNat k1 * 1))))] hF hS Fol (by kernel_rfl) (by kernel_rfl) (by kernel_rfl) (by kernel_rfl) ?_ (fun a w hF hS => ?_)
            · exact obs_cons (ob_ixA UndA233 hi3 hs3 (fun _ => hp1)) <| obs_nil
            refine any_step [3, 8] (by kernel_rfl) rfl ?_
            refine (all_cons ?_ (all_cons ?_ all_nil))
            · refine any_op (listed' := #[true, true, true, true, true, false, false, true, false, false, false]) (by kernel_rfl) (by kernel_rfl) ?_
              refine at_runW 1 [⟨false, [], vS (Instr.loadAt 22 (.pointer (some ⟨g4, 0, none⟩))), .slice A1 p51.length c1⟩] [some (.slice A1 p51.length c1)] [1, 3, 4, 5, 6, 10, 25, 26, 27, 28, 31] [pl 1 (.int .i64 k1), pl 3 (.pointer (some ⟨g2, 0, none⟩)), pl 4 (.pointer (some ⟨g3, 0, none⟩)), pl 5 (.pointer (some ⟨g4, 0, none⟩)), pl 6 (.pointer (some ⟨g5, 0, none⟩)), pl 10 (.int .i64 i1), pl 25 (.int .i64 k1), pl 26 (.int .i64 i1), pl 27 (.slice A1 p51.length c1), pl 28 (.int .i64 i1), pl 31 (.pointer (some ((⟨g2, 0, none⟩ : Addr).add (Int.toNat k1 * 1))))] hF hS (by kernel_rfl) (by kernel_rfl) ?_ (fun a hF => ?_)
              · exact obs_cons (ob_load Agg22 (fun _ _ hS => (hS.at_ 2 rfl).cell rfl)) <| obs_nil
              refine any_finI rfl (fun h => h) ?_
              refine any_step [5, 8] (by kernel_rfl) rfl ?_
              refine (all_cons ?_ (all_cons ?_ all_nil))
              · refine any_op (listed' := #[true, true, true, true, true, true, false, true, false, false, false]) (by kernel_rfl) (by kernel_rfl) ?_
                refine at_runW 1 [⟨true, [], vS (Instr.indexAt 22 (.slice A1 p51.length c1) (.int .i64 i1)), .pointer (some (sAddr A1 i1))⟩] [some (.pointer (some (sAddr A1 i1)))] [1, 3, 4, 5, 6, 10, 25, 26, 29, 31] [pl 1 (.int .i64 k1), pl 3 (.pointer (some ⟨g2, 0, none⟩)), pl 4 (.pointer (some ⟨g3, 0, none⟩)), pl 5 (.pointer (some ⟨g4, 0, none⟩)), pl 6 (.pointer (some ⟨g5, 0, none⟩)), pl 10 (.int .i64 i1), pl 25 (.int .i64 k1), pl 26 (.int .i64 i1), pl 29 (.pointer (some (sAddr A1 i1))), pl 31 (.pointer (some ((⟨g2, 0, none⟩ : Addr).add (Int.toNat k1 * 1))))] hF hS (by kernel_rfl) (by kernel_rfl) ?_ (fun a hF => ?_)
                · exact obs_cons (ob_ix1 (f := (Value.int .i64)) (m := p51) Und22 hi3 hs3 (hr_p51 _ (hS.dropN 6)) rfl (fun _ => hp2)) <| obs_nil
                refine any_finI rfl (fun h => h) ?_
                refine any_step [6, 8] (by kernel_rfl) rfl ?_
                refine (all_cons ?_ (all_cons ?_ all_nil))
                · refine any_op (listed' := #[true, true, true, true, true, true, true, true, false, false, false]) (by kernel_rfl) (by kernel_rfl) ?_
                  refine at_runW 1 [⟨false, [], vS (Instr.loadAt 3 (.pointer (some (sAddr A1 i1)))), .int .i64 (geti p51 i1)⟩] [some (.int .i64 (geti p51 i1))] [1, 3, 4, 5, 6, 10, 25, 26, 30, 31] [pl 1 (.int .i64 k1), pl 3 (.pointer (some ⟨g2, 0, none⟩)), pl 4 (.pointer (some ⟨g3, 0, none⟩)), pl 5 (.pointer (some ⟨g4, 0, none⟩)), pl 6 (.pointer (some ⟨g5, 0, none⟩)), pl 10 (.int .i64 i1), pl 25 (.int .i64 k1), pl 26 (.int .i64 i1), pl 30 (.int .i64 (geti p51 i1)), pl 31 (.pointer (some ((⟨g2, 0, none⟩ : Addr).add (Int.toNat k1 * 1))))] hF hS (by kernel_rfl) (by kernel_rfl) ?_ (fun a hF => ?_)
                  · exact obs_cons (ob_get1 (n := p51.length) (m := p51) (Value.int .i64) (0 : Int) Agg3 (fun _ hS => ⟨_, (hr_p51 _ (hS.dropN 6))⟩) (fun _ hS => rfl) (fun _ => hp2)) <| obs_nil
                  refine any_finI rfl (fun h => h) ?_
                  refine any_step [8] (by kernel_rfl) rfl ?_
                  refine (all_cons ?_ all_nil)
                  · refine any_op (listed' := #[true, true, true, true, true, true, true, true, true, false, false]) (by kernel_rfl) (by kernel_rfl) ?_
                    obtain ⟨w, hrun, hS⟩ := run_setA (P := Try.prog) (t := 3) (x := i1) (i := k1) (m := z1) (d := Int.toNat k1 * 1) (Value.int .i64) (0 : Int) 5 ([] : List Value) ([] : List Value) (hS.at_ 0 rfl) rfl hi3 hs3 rfl (by have h0 := hp1; omega) (by have h0 := hp1; have h9 := hp3; omega)
                    refine at_skip hF (by kernel_rfl) hrun ?_
                    have hS : Sep w0 B w (blk g2 233 (List.toArray (([] : List Value) ++ (arr1 (Value.int .i64) (0 : Int) 5 (z1.set (Int.toNat k1) i1) ++ ([] : List Value)))) :: blk g3 233 (List.toArray (([] : List Value) ++ (arr1 (Value.int .i64) (0 : Int) 5 z2 ++ ([] : List Value)))) :: blk g4 22 #[.slice A1 p51.length c1] :: blk g5 166 #[.func (.func 244) #[] #[.pointer (some ⟨g1, 0, none⟩), .pointer (some ⟨g2, 0, none⟩), .pointer (some ⟨g3, 0, none⟩), .pointer (some ⟨g4, 0, none⟩), .pointer (some ⟨g5, 0, none⟩)]] :: blk g1 274 #[.func (.yield l1) #[] #[]] :: stateH RS z3 :: fs) := hS
                    refine any_finE rfl (by decide) ?_
                    refine any_step [9] (by kernel_rfl) rfl ?_
                    refine (all_cons ?_ all_nil)
                    · refine any_op (listed' := #[true, true, true, true, true, true, true, true, true, true, false]) (by kernel_rfl) (by kernel_rfl) ?_
                      refine at_runW 1 [⟨true, [], vS (Instr.indexAt 233 (.pointer (some ⟨g3, 0, none⟩)) (.int .i64 k1)), .pointer (some ((⟨g3, 0, none⟩ : Addr).add (Int.toNat k1 * 1)))⟩] [some (.pointer (some ((⟨g3, 0, none⟩ : Addr).add (Int.toNat k1 * 1))))] [1, 3, 4, 5, 6, 10, 30, 32] [pl 1 (.int .i64 k1), pl 3 (.pointer (some ⟨g2, 0, none⟩)), pl 4 (.pointer (some ⟨g3, 0, none⟩)), pl 5 (.pointer (some ⟨g4, 0, none⟩)), pl 6 (.pointer (some ⟨g5, 0, none⟩)), pl 10 (.int .i64 i1), pl 30 (.int .i64 (geti p51 i1)), pl 32 (.pointer (some ((⟨g3, 0, none⟩ : Addr).add (Int.toNat k1 * 1))))] hF hS (by kernel_rfl) (by kernel_rfl) ?_ (fun a hF => ?_)
                      · exact obs_cons (ob_ixA UndA233 hi3 hs3 (fun _ => hp4)) <| obs_nil
                      refine any_finI rfl (fun h => h) ?_
                      refine any_step [10] (by kernel_rfl) rfl ?_
                      refine (all_cons ?_ all_nil)
                      · refine any_op (listed' := #[true, true, true, true, true, true, true, true, true, true, true]) (by kernel_rfl) (by kernel_rfl) ?_
                        obtain ⟨w, hrun, hS⟩ := run_setA (P := Try.prog) (t := 3) (x := (geti p51 i1)) (i := k1) (m := z2) (d := Int.toNat k1 * 1) (Value.int .i64) (0 : Int) 5 ([] : List Value) ([] : List Value) (hS.at_ 1 rfl) rfl hi3 hs3 rfl (by have h0 := hp4; omega) (by have h0 := hp4; have h9 := hp5; omega)
                        refine at_skip hF (by kernel_rfl) hrun ?_
                        have hS : Sep w0 B w (blk g2 233 (List.toArray (([] : List Value) ++ (arr1 (Value.int .i64) (0 : Int) 5 (z1.set (Int.toNat k1) i1) ++ ([] : List Value)))) :: blk g3 233 (List.toArray (([] : List Value) ++ (arr1 (Value.int .i64) (0 : Int) 5 (z2.set (Int.toNat k1) (geti p51 i1)) ++ ([] : List Value)))) :: blk g4 22 #[.slice A1 p51.length c1] :: blk g5 166 #[.func (.func 244) #[] #[.pointer (some ⟨g1, 0, none⟩), .pointer (some ⟨g2, 0, none⟩), .pointer (some ⟨g3, 0, none⟩), .pointer (some ⟨g4, 0, none⟩), .pointer (some ⟨g5, 0, none⟩)]] :: blk g1 274 #[.func (.yield l1) #[] #[]] :: stateH RS z3 :: fs) := hS
                        refine any_finE rfl (by decide) ?_
                        refine any_end (by kernel_rfl) ?_
                        refine np_n ?_
                        refine then_n ?_
                        exact ⟨hF.weak [1, 3, 4, 5, 6, 10] (by kernel_rfl), hS, hm⟩
                · refine any_op (listed' := #[true, true, true, true, true, true, false, true, true, false, false]) (by kernel_rfl) (by kernel_rfl) ?_
                  obtain ⟨w, hrun, hS⟩ := run_setA (P := Try.prog) (t := 3) (x := i1) (i := k1) (m := z1) (d := Int.toNat k1 * 1) (Value.int .i64) (0 : Int) 5 ([] : List Value) ([] : List Value) (hS.at_ 0 rfl) rfl hi3 hs3 rfl (by have h0 := hp1; omega) (by have h0 := hp1; have h9 := hp3; omega)
                  refine at_skip hF (by kernel_rfl) hrun ?_
                  have hS : Sep w0 B w (blk g2 233 (List.toArray (([] : List Value) ++ (arr1 (Value.int .i64) (0 : Int) 5 (z1.set (Int.toNat k1) i1) ++ ([] : List Value)))) :: blk g3 233 (List.toArray (([] : List Value) ++ (arr1 (Value.int .i64) (0 : Int) 5 z2 ++ ([] : List Value)))) :: blk g4 22 #[.slice A1 p51.length c1] :: blk g5 166 #[.func (.func 244) #[] #[.pointer (some ⟨g1, 0, none⟩), .pointer (some ⟨g2, 0, none⟩), .pointer (some ⟨g3, 0, none⟩), .pointer (some ⟨g4, 0, none⟩), .pointer (some ⟨g5, 0, none⟩)]] :: blk g1 274 #[.func (.yield l1) #[] #[]] :: stateH RS z3 :: fs) := hS
                  refine any_finE rfl (by decide) ?_
                  refine any_step [6] (by kernel_rfl) rfl ?_
                  refine (all_cons ?_ all_nil)
                  · refine any_op (listed' := #[true, true, true, true, true, true, true, true, true, false, false]) (by kernel_rfl) (by kernel_rfl) ?_
                    refine at_runW 1 [⟨false, [], vS (Instr.loadAt 3 (.pointer (some (sAddr A1 i1)))), .int .i64 (geti p51 i1)⟩] [some (.int .i64 (geti p51 i1))] [1, 3, 4, 5, 6, 10, 25, 30] [pl 1 (.int .i64 k1), pl 3 (.pointer (some ⟨g2, 0, none⟩)), pl 4 (.pointer (some ⟨g3, 0, none⟩)), pl 5 (.pointer (some ⟨g4, 0, none⟩)), pl 6 (.pointer (some ⟨g5, 0, none⟩)), pl 10 (.int .i64 i1), pl 25 (.int .i64 k1), pl 30 (.int .i64 (geti p51 i1))] hF hS (by kernel_rfl) (by kernel_rfl) ?_ (fun a hF => ?_)
                    · exact obs_cons (ob_get1 (n := p51.length) (m := p51) (Value.int .i64) (0 : Int) Agg3 (fun _ hS => ⟨_, (hr_p51 _ (hS.dropN 6))⟩) (fun _ hS => rfl) (fun _ => hp2)) <| obs_nil
                    refine any_finI rfl (fun h => h) ?_
                    refine any_step [9] (by kernel_rfl) rfl ?_
                    refine (all_cons ?_ all_nil)
                    · refine any_op (listed' := #[true, true, true, true, true, true, true, true, true, true, false]) (by kernel_rfl) (by kernel_rfl) ?_
                      refine at_runW 1 [⟨true, [], vS (Instr.indexAt 233 (.pointer (some ⟨g3, 0, none⟩)) (.int .i64 k1)), .pointer (some ((⟨g3, 0, none⟩ : Addr).add (Int.toNat k1 * 1)))⟩] [some (.pointer (some ((⟨g3, 0, none⟩ : Addr).add (Int.toNat k1 * 1))))] [1, 3, 4, 5, 6, 10, 30, 32] [pl 1 (.int .i64 k1), pl 3 (.pointer (some ⟨g2, 0, none⟩)), pl 4 (.pointer (some ⟨g3, 0, none⟩)), pl 5 (.pointer (some ⟨g4, 0, none⟩)), pl 6 (.pointer (some ⟨g5, 0, none⟩)), pl 10 (.int .i64 i1), pl 30 (.int .i64 (geti p51 i1)), pl 32 (.pointer (some ((⟨g3, 0, none⟩ : Addr).add (Int.toNat k1 * 1))))] hF hS (by kernel_rfl) (by kernel_rfl) ?_ (fun a hF => ?_)
                      · exact obs_cons (ob_ixA UndA233 hi3 hs3 (fun _ => hp4)) <| obs_nil
                      refine any_finI rfl (fun h => h) ?_
                      refine any_step [10] (by kernel_rfl) rfl ?_
                      refine (all_cons ?_ all_nil)
                      · refine any_op (listed' := #[true, true, true, true, true, true, true, true, true, true, true]) (by kernel_rfl) (by kernel_rfl) ?_
                        obtain ⟨w, hrun, hS⟩ := run_setA (P := Try.prog) (t := 3) (x := (geti p51 i1)) (i := k1) (m := z2) (d := Int.toNat k1 * 1) (Value.int .i64) (0 : Int) 5 ([] : List Value) ([] : List Value) (hS.at_ 1 rfl) rfl hi3 hs3 rfl (by have h0 := hp4; omega) (by have h0 := hp4; have h9 := hp5; omega)
                        refine at_skip hF (by kernel_rfl) hrun ?_
                        have hS : Sep w0 B w (blk g2 233 (List.toArray (([] : List Value) ++ (arr1 (Value.int .i64) (0 : Int) 5 (z1.set (Int.toNat k1) i1) ++ ([] : List Value)))) :: blk g3 233 (List.toArray (([] : List Value) ++ (arr1 (Value.int .i64) (0 : Int) 5 (z2.set (Int.toNat k1) (geti p51 i1)) ++ ([] : List Value)))) :: blk g4 22 #[.slice A1 p51.length c1] :: blk g5 166 #[.func (.func 244) #[] #[.pointer (some ⟨g1, 0, none⟩), .pointer (some ⟨g2, 0, none⟩), .pointer (some ⟨g3, 0, none⟩), .pointer (some ⟨g4, 0, none⟩), .pointer (some ⟨g5, 0, none⟩)]] :: blk g1 274 #[.func (.yield l1) #[] #[]] :: stateH RS z3 :: fs) := hS
                        refine any_finE rfl (by decide) ?_
                        refine any_end (by kernel_rfl) ?_
                        refine np_n ?_
                        refine then_n ?_
                        exact ⟨hF.weak [1, 3, 4, 5, 6, 10] (by kernel_rfl), hS, hm⟩
              · refine any_op (listed' := #[true, true, true, true, true, false, false, true, true, false, false]) (by kernel_rfl) (by kernel_rfl) ?_
                obtain ⟨w, hrun, hS⟩ := run_setA (P := Try.prog) (t := 3) (x := i1) (i := k1) (m := z1) (d := Int.toNat k1 * 1) (Value.int .i64) (0 : Int) 5 ([] : List Value) ([] : List Value) (hS.at_ 0 rfl) rfl hi3 hs3 rfl (by have h0 := hp1; omega) (by have h0 := hp1; have h9 := hp3; omega)
                refine at_skip hF (by kernel_rfl) hrun ?_
                have hS : Sep w0 B w (blk g2 233 (List.toArray (([] : List Value) ++ (arr1 (Value.int .i64) (0 : Int) 5 (z1.set (Int.toNat k1) i1) ++ ([] : List Value)))) :: blk g3 233 (List.toArray (([] : List Value) ++ (arr1 (Value.int .i64) (0 : Int) 5 z2 ++ ([] : List Value)))) :: blk g4 22 #[.slice A1 p51.length c1] :: blk g5 166 #[.func (.func 244) #[] #[.pointer (some ⟨g1, 0, none⟩), .pointer (some ⟨g2, 0, none⟩), .pointer (some ⟨g3, 0, none⟩), .pointer (some ⟨g4, 0, none⟩), .pointer (some ⟨g5, 0, none⟩)]] :: blk g1 274 #[.func (.yield l1) #[] #[]] :: stateH RS z3 :: fs) := hS
                refine any_finE rfl (by decide) ?_
                refine any_step [5] (by kernel_rfl) rfl ?_
                refine (all_cons ?_ all_nil)
                · refine any_op (listed' := #[true, true, true, true, true, true, false, true, true, false, false]) (by kernel_rfl) (by kernel_rfl) ?_
                  refine at_runW 1 [⟨true, [], vS (Instr.indexAt 22 (.slice A1 p51.length c1) (.int .i64 i1)), .pointer (some (sAddr A1 i1))⟩] [some (.pointer (some (sAddr A1 i1)))] [1, 3, 4, 5, 6, 10, 25, 29] [pl 1 (.int .i64 k1), pl 3 (.pointer (some ⟨g2, 0, none⟩)), pl 4 (.pointer (some ⟨g3, 0, none⟩)), pl 5 (.pointer (some ⟨g4, 0, none⟩)), pl 6 (.pointer (some ⟨g5, 0, none⟩)), pl 10 (.int .i64 i1), pl 25 (.int .i64 k1), pl 29 (.pointer (some (sAddr A1 i1)))] hF hS (by kernel_rfl) (by kernel_rfl) ?_ (fun a hF => ?_)
                  · exact obs_cons (ob_ix1 (f := (Value.int .i64)) (m := p51) Und22 hi3 hs3 (hr_p51 _ (hS.dropN 6)) rfl (fun _ => hp2)) <| obs_nil
                  refine any_finI rfl (fun h => h) ?_
                  refine any_step [6] (by kernel_rfl) rfl ?_
                  refine (all_cons ?_ all_nil)
                  · refine any_op (listed' := #[true, true, true, true, true, true, true, true, true, false, false]) (by kernel_rfl) (by kernel_rfl) ?_
                    refine at_runW 1 [⟨false, [], vS (Instr.loadAt 3 (.pointer (some (sAddr A1 i1)))), .int .i64 (geti p51 i1)⟩] [some (.int .i64 (geti p51 i1))] [1, 3, 4, 5, 6, 10, 25, 30] [pl 1 (.int .i64 k1), pl 3 (.pointer (some ⟨g2, 0, none⟩)), pl 4 (.pointer (some ⟨g3, 0, none⟩)), pl 5 (.pointer (some ⟨g4, 0, none⟩)), pl 6 (.pointer (some ⟨g5, 0, none⟩)), pl 10 (.int .i64 i1), pl 25 (.int .i64 k1), pl 30 (.int .i64 (geti p51 i1))] hF hS (by kernel_rfl) (by kernel_rfl) ?_ (fun a hF => ?_)
                    · exact obs_cons (ob_get1 (n := p51.length) (m := p51) (Value.int .i64) (0 : Int) Agg3 (fun _ hS => ⟨_, (hr_p51 _ (hS.dropN 6))⟩) (fun _ hS => rfl) (fun _ => hp2)) <| obs_nil
                    refine any_finI rfl (fun h => h) ?_
                    refine any_step [9] (by kernel_rfl) rfl ?_
                    refine (all_cons ?_ all_nil)
                    · refine any_op (listed' := #[true, true, true, true, true, true, true, true, true, true, false]) (by kernel_rfl) (by kernel_rfl) ?_
                      refine at_runW 1 [⟨true, [], vS (Instr.indexAt 233 (.pointer (some ⟨g3, 0, none⟩)) (.int .i64 k1)), .pointer (some ((⟨g3, 0, none⟩ : Addr).add (Int.toNat k1 * 1)))⟩] [some (.pointer (some ((⟨g3, 0, none⟩ : Addr).add (Int.toNat k1 * 1))))] [1, 3, 4, 5, 6, 10, 30, 32] [pl 1 (.int .i64 k1), pl 3 (.pointer (some ⟨g2, 0, none⟩)), pl 4 (.pointer (some ⟨g3, 0, none⟩)), pl 5 (.pointer (some ⟨g4, 0, none⟩)), pl 6 (.pointer (some ⟨g5, 0, none⟩)), pl 10 (.int .i64 i1), pl 30 (.int .i64 (geti p51 i1)), pl 32 (.pointer (some ((⟨g3, 0, none⟩ : Addr).add (Int.toNat k1 * 1))))] hF hS (by kernel_rfl) (by kernel_rfl) ?_ (fun a hF => ?_)
                      · exact obs_cons (ob_ixA UndA233 hi3 hs3 (fun _ => hp4)) <| obs_nil
                      refine any_finI rfl (fun h => h) ?_
                      refine any_step [10] (by kernel_rfl) rfl ?_
                      refine (all_cons ?_ all_nil)
                      · refine any_op (listed' := #[true, true, true, true, true, true, true, true, true, true, true]) (by kernel_rfl) (by kernel_rfl) ?_
                        obtain ⟨w, hrun, hS⟩ := run_setA (P := Try.prog) (t := 3) (x := (geti p51 i1)) (i := k1) (m := z2) (d := Int.toNat k1 * 1) (Value.int .i64) (0 : Int) 5 ([] : List Value) ([] : List Value) (hS.at_ 1 rfl) rfl hi3 hs3 rfl (by have h0 := hp4; omega) (by have h0 := hp4; have h9 := hp5; omega)
                        refine at_skip hF (by kernel_rfl) hrun ?_
                        have hS : Sep w0 B w (blk g2 233 (List.toArray (([] : List Value) ++ (arr1 (Value.int .i64) (0 : Int) 5 (z1.set (Int.toNat k1) i1) ++ ([] : List Value)))) :: blk g3 233 (List.toArray (([] : List Value) ++ (arr1 (Value.int .i64) (0 : Int) 5 (z2.set (Int.toNat k1) (geti p51 i1)) ++ ([] : List Value)))) :: blk g4 22 #[.slice A1 p51.length c1] :: blk g5 166 #[.func (.func 244) #[] #[.pointer (some ⟨g1, 0, none⟩), .pointer (some ⟨g2, 0, none⟩), .pointer (some ⟨g3, 0, none⟩), .pointer (some ⟨g4, 0, none⟩), .pointer (some ⟨g5, 0, none⟩)]] :: blk g1 274 #[.func (.yield l1) #[] #[]] :: stateH RS z3 :: fs) := hS
                        refine any_finE rfl (by decide) ?_
                        refine any_end (by kernel_rfl) ?_
                        refine np_n ?_
                        refine then_n ?_
                        exact ⟨hF.weak [1, 3, 4, 5, 6, 10] (by kernel_rfl), hS, hm⟩
            · refine any_op (listed' := #[true, true, true, false, true, false, false, true, true, false, false]) (by kernel_rfl) (by kernel_rfl) ?_
              obtain ⟨w, hrun, hS⟩ := run_setA (P := Try.prog) (t := 3) (x := i1) (i := k1) (m := z1) (d := Int.toNat k1 * 1) (Value.int .i64) (0 : Int) 5 ([] : List Value) ([] : List Value) (hS.at_ 0 rfl) rfl hi3 hs3 rfl (by have h0 := hp1; omega) (by have h0 := hp1; have h9 := hp3; omega)
              refine at_skip hF (by kernel_rfl) hrun ?_
              have hS : Sep w0 B w (blk g2 233 (List.toArray (([] : List Value) ++ (arr1 (Value.int .i64) (0 : Int) 5 (z1.set (Int.toNat k1) i1) ++ ([] : List Value)))) :: blk g3 233 (List.toArray (([] : List Value) ++ (arr1 (Value.int .i64) (0 : Int) 5 z2 ++ ([] : List Value)))) :: blk g4 22 #[.slice A1 p51.length c1] :: blk g5 166 #[.func (.func 244) #[] #[.pointer (some ⟨g1, 0, none⟩), .pointer (some ⟨g2, 0, none⟩), .pointer (some ⟨g3, 0, none⟩), .pointer (some ⟨g4, 0, none⟩), .pointer (some ⟨g5, 0, none⟩)]] :: blk g1 274 #[.func (.yield l1) #[] #[]] :: stateH RS z3 :: fs) := hS
              refine any_finE rfl (by decide) ?_
              refine any_step [3] (by kernel_rfl) rfl ?_
              refine (all_cons ?_ all_nil)
              · refine any_op (listed' := #[true, true, true, true, true, false, false, true, true, false, false]) (by kernel_rfl) (by kernel_rfl) ?_
                refine at_runW 1 [⟨false, [], vS (Instr.loadAt 22 (.pointer (some ⟨g4, 0, none⟩))), .slice A1 p51.length c1⟩] [some (.slice A1 p51.length c1)] [1, 3, 4, 5, 6, 10, 25, 27, 28] [pl 1 (.int .i64 k1), pl 3 (.pointer (some ⟨g2, 0, none⟩)), pl 4 (.pointer (some ⟨g3, 0, none⟩)), pl 5 (.pointer (some ⟨g4, 0, none⟩)), pl 6 (.pointer (some ⟨g5, 0, none⟩)), pl 10 (.int .i64 i1), pl 25 (.int .i64 k1), pl 27 (.slice A1 p51.length c1), pl 28 (.int .i64 i1)] hF hS (by kernel_rfl) (by kernel_rfl) ?_ (fun a hF => ?_)
                · exact obs_cons (ob_load Agg22 (fun _ _ hS => (hS.at_ 2 rfl).cell rfl)) <| obs_nil
                refine any_finI rfl (fun h => h) ?_
                refine any_step [5] (by kernel_rfl) rfl ?_
                refine (all_cons ?_ all_nil)
                · refine any_op (listed' := #[true, true, true, true, true, true, false, true, true, false, false]) (by kernel_rfl) (by kernel_rfl) ?_
                  refine at_runW 1 [⟨true, [], vS (Instr.indexAt 22 (.slice A1 p51.length c1) (.int .i64 i1)), .pointer (some (sAddr A1 i1))⟩] [some (.pointer (some (sAddr A1 i1)))] [1, 3, 4, 5, 6, 10, 25, 29] [pl 1 (.int .i64 k1), pl 3 (.pointer (some ⟨g2, 0, none⟩)), pl 4 (.pointer (some ⟨g3, 0, none⟩)), pl 5 (.pointer (some ⟨g4, 0, none⟩)), pl 6 (.pointer (some ⟨g5, 0, none⟩)), pl 10 (.int .i64 i1), pl 25 (.int .i64 k1), pl 29 (.pointer (some (sAddr A1 i1)))] hF hS (by kernel_rfl) (by kernel_rfl) ?_ (fun a hF => ?_)
                  · exact obs_cons (ob_ix1 (f := (Value.int .i64)) (m := p51) Und22 hi3 hs3 (hr_p51 _ (hS.dropN 6)) rfl (fun _ => hp2)) <| obs_nil
                  refine any_finI rfl (fun h => h) ?_
                  refine any_step [6] (by kernel_rfl) rfl ?_
                  refine (all_cons ?_ all_nil)
                  · refine any_op (listed' := #[true, true, true, true, true, true, true, true, true, false, false]) (by kernel_rfl) (by kernel_rfl) ?_
                    refine at_runW 1 [⟨false, [], vS (Instr.loadAt 3 (.pointer (some (sAddr A1 i1)))), .int .i64 (geti p51 i1)⟩] [some (.int .i64 (geti p51 i1))] [1, 3, 4, 5, 6, 10, 25, 30] [pl 1 (.int .i64 k1), pl 3 (.pointer (some ⟨g2, 0, none⟩)), pl 4 (.pointer (some ⟨g3, 0, none⟩)), pl 5 (.pointer (some ⟨g4, 0, none⟩)), pl 6 (.pointer (some ⟨g5, 0, none⟩)), pl 10 (.int .i64 i1), pl 25 (.int .i64 k1), pl 30 (.int .i64 (geti p51 i1))] hF hS (by kernel_rfl) (by kernel_rfl) ?_ (fun a hF => ?_)
                    · exact obs_cons (ob_get1 (n := p51.length) (m := p51) (Value.int .i64) (0 : Int) Agg3 (fun _ hS => ⟨_, (hr_p51 _ (hS.dropN 6))⟩) (fun _ hS => rfl) (fun _ => hp2)) <| obs_nil
                    refine any_finI rfl (fun h => h) ?_
                    refine any_step [9] (by kernel_rfl) rfl ?_
                    refine (all_cons ?_ all_nil)
                    · refine any_op (listed' := #[true, true, true, true, true, true, true, true, true, true, false]) (by kernel_rfl) (by kernel_rfl) ?_
                      refine at_runW 1 [⟨true, [], vS (Instr.indexAt 233 (.pointer (some ⟨g3, 0, none⟩)) (.int .i64 k1)), .pointer (some ((⟨g3, 0, none⟩ : Addr).add (Int.toNat k1 * 1)))⟩] [some (.pointer (some ((⟨g3, 0, none⟩ : Addr).add (Int.toNat k1 * 1))))] [1, 3, 4, 5, 6, 10, 30, 32] [pl 1 (.int .i64 k1), pl 3 (.pointer (some ⟨g2, 0, none⟩)), pl 4 (.pointer (some ⟨g3, 0, none⟩)), pl 5 (.pointer (some ⟨g4, 0, none⟩)), pl 6 (.pointer (some ⟨g5, 0, none⟩)), pl 10 (.int .i64 i1), pl 30 (.int .i64 (geti p51 i1)), pl 32 (.pointer (some ((⟨g3, 0, none⟩ : Addr).add (Int.toNat k1 * 1))))] hF hS (by kernel_rfl) (by kernel_rfl) ?_ (fun a hF => ?_)
                      · exact obs_cons (ob_ixA UndA233 hi3 hs3 (fun _ => hp4)) <| obs_nil
                      refine any_finI rfl (fun h => h) ?_
                      refine any_step [10] (by kernel_rfl) rfl ?_
                      refine (all_cons ?_ all_nil)
                      · refine any_op (listed' := #[true, true, true, true, true, true, true, true, true, true, true]) (by kernel_rfl) (by kernel_rfl) ?_
                        obtain ⟨w, hrun, hS⟩ := run_setA (P := Try.prog) (t := 3) (x := (geti p51 i1)) (i := k1) (m := z2) (d := Int.toNat k1 * 1) (Value.int .i64) (0 : Int) 5 ([] : List Value) ([] : List Value) (hS.at_ 1 rfl) rfl hi3 hs3 rfl (by have h0 := hp4; omega) (by have h0 := hp4; have h9 := hp5; omega)
                        refine at_skip hF (by kernel_rfl) hrun ?_
                        have hS : Sep w0 B w (blk g2 233 (List.toArray (([] : List Value) ++ (arr1 (Value.int .i64) (0 : Int) 5 (z1.set (Int.toNat k1) i1) ++ ([] : List Value)))) :: blk g3 233 (List.toArray (([] : List Value) ++ (arr1 (Value.int .i64) (0 : Int) 5 (z2.set (Int.toNat k1) (geti p51 i1)) ++ ([] : List Value)))) :: blk g4 22 #[.slice A1 p51.length c1] :: blk g5 166 #[.func (.func 244) #[] #[.pointer (some ⟨g1, 0, none⟩), .pointer (some ⟨g2, 0, none⟩), .pointer (some ⟨g3, 0, none⟩), .pointer (some ⟨g4, 0, none⟩), .pointer (some ⟨g5, 0, none⟩)]] :: blk g1 274 #[.func (.yield l1) #[] #[]] :: stateH RS z3 :: fs) := hS
                        refine any_finE rfl (by decide) ?_
                        refine any_end (by kernel_rfl) ?_
                        refine np_n ?_
                        refine then_n ?_
                        exact ⟨hF.weak [1, 3, 4, 5, 6, 10] (by kernel_rfl), hS, hm⟩
      · refine reg [⟨false, [], vS (Instr.loadAt 22 (.pointer (some ⟨g4, 0, none⟩))), .slice A1 p51.length c1⟩] [none, some (.slice A1 p51.length c1), none, none] [1, 3, 4, 5, 6, 10, 21] [pl 1 (.int .i64 k1), pl 3 (.pointer (some ⟨g2, 0, none⟩)), pl 4 (.pointer (some ⟨g3, 0, none⟩)), pl 5 (.pointer (some ⟨g4, 0, none⟩)), pl 6 (.pointer (some ⟨g5, 0, none⟩)), pl 10 (.int .i64 i1), pl 21 (.bool (decide (i1 < (p51.length : Int))))] hF hS Fol (by kernel_rfl) (by kernel_rfl) (by kernel_rfl) ?_ (fun a w hF hS => ?_)
        · exact obs_cons (ob_load Agg22 (fun _ _ hS => (hS.at_ 2 rfl).cell rfl)) <| obs_nil
        refine cond_ev (t := 21) (b := decide (i1 < (p51.length : Int))) hF (by kernel_rfl) (fun hb => ?_) (fun hb => ?_)
        · replace hm := if_t hm hb
          refine wpIn_skip ?_
          refine then_n ?_
          exact ⟨hF.weak [1, 3, 4, 5, 6, 10] (by kernel_rfl), hS, hm⟩
        · replace hm := if_f hm hb
          refine wpIn_exit ?_
          refine then_e (then_e (block_e (then_n ?_)))
          have hS := hS.pickN 6 [4, 5, 0, 1, 2, 3] (by decide)
          rw [← hφ1] at hm
          replace hm := done_b hm
          unfold poker_fives_1_1_K1 at hm
          try dsimp only at hm
          have hm : (poker_fives_1_1_J2 z3 z1 z2).bind some = some r := hm
          exact ⟨z3, z1, z2, hF.weak [] (by kernel_rfl), hS, hm⟩
  · refine reg [] [] [0, 1, 2, 3, 4, 5, 6, 12] [pl 0 (.int .i64 from1), pl 1 (.int .i64 k1), pl 2 (.pointer (some ⟨g1, 0, none⟩)), pl 3 (.pointer (some ⟨g2, 0, none⟩)), pl 4 (.pointer (some ⟨g3, 0, none⟩)), pl 5 (.pointer (some ⟨g4, 0, none⟩)), pl 6 (.pointer (some ⟨g5, 0, none⟩)), pl 12 (.bool (k1 == 5))] hF hS Fol (by kernel_rfl) (by kernel_rfl) (by kernel_rfl) ?_ (fun a w hF hS => ?_)
    · exact obs_nil
    refine cond_ev (t := 12) (b := (k1 == 5)) hF (by kernel_rfl) (fun hb => ?_) (fun hb => ?_)
    · replace hm := if_t hm hb
      refine seqR ?_
      obtain ⟨r1, hr1, hm⟩ := call_b hm
      refine at_run 3 [⟨false, [], vS (Instr.loadAt 274 (.pointer (some ⟨g1, 0, none⟩))), .func (.yield l1) #[] #[]⟩, ⟨false, [], vS (Instr.loadAt 233 (.pointer (some ⟨g2, 0, none⟩))), .agg (List.toArray (([] : List Value) ++ (arr1 (Value.int .i64) (0 : Int) 5 p31 ++ ([] : List Value))))⟩, ⟨false, [], vS (Instr.loadAt 233 (.pointer (some ⟨g3, 0, none⟩))), .agg (List.toArray (([] : List Value) ++ (arr1 (Value.int .i64) (0 : Int) 5 p41 ++ ([] : List Value))))⟩] [some (.func (.yield l1) #[] #[]), some (.agg (List.toArray (([] : List Value) ++ (arr1 (Value.int .i64) (0 : Int) 5 p31 ++ ([] : List Value))))), some (.agg (List.toArray (([] : List Value) ++ (arr1 (Value.int .i64) (0 : Int) 5 p41 ++ ([] : List Value)))))] [13, 14, 15] [pl 13 (.func (.yield l1) #[] #[]), pl 14 (.agg (List.toArray (([] : List Value) ++ (arr1 (Value.int .i64) (0 : Int) 5 p31 ++ ([] : List Value))))), pl 15 (.agg (List.toArray (([] : List Value) ++ (arr1 (Value.int .i64) (0 : Int) 5 p41 ++ ([] : List Value)))))] hF hS (by kernel_rfl) (by kernel_rfl) ?_ (fun a w hF hS => ?_)
      · exact obs_cons (ob_load Agg274 (fun _ _ hS => (hS.at_ 1 rfl).cell rfl)) <| obs_cons (ob_loadA (cs := (List.toArray (([] : List Value) ++ (arr1 (Value.int .i64) (0 : Int) 5 p31 ++ ([] : List Value))))) (by kernel_rfl) (by kernel_rfl) (fun _ _ hS => (hS.at_ 2 rfl).cellsAt 0 (by rfl))) <| obs_cons (ob_loadA (cs := (List.toArray (([] : List Value) ++ (arr1 (Value.int .i64) (0 : Int) 5 p41 ++ ([] : List Value))))) (by kernel_rfl) (by kernel_rfl) (fun _ _ hS => (hS.at_ 3 rfl).cellsAt 0 (by rfl))) <| obs_nil
      have hS := hS.pickN 6 [1, 2, 3, 5, 0, 4] (by decide)
      refine at_yield (d := 16) hF (by kernel_rfl) (by kernel_rfl) (hY [blk g1 274 #[.func (.yield l1) #[] #[]], blk g2 233 (List.toArray (([] : List Value) ++ (arr1 (Value.int .i64) (0 : Int) 5 p31 ++ ([] : List Value)))), blk g3 233 (List.toArray (([] : List Value) ++ (arr1 (Value.int .i64) (0 : Int) 5 p41 ++ ([] : List Value)))), blk g5 166 #[.func (.func 244) #[] #[.pointer (some ⟨g1, 0, none⟩), .pointer (some ⟨g2, 0, none⟩), .pointer (some ⟨g3, 0, none⟩), .pointer (some ⟨g4, 0, none⟩), .pointer (some ⟨g5, 0, none⟩)]]] (p31, p41) sv1 _ _ hr1 (Sep.rot (us := [blk g1 274 #[.func (.yield l1) #[] #[]], blk g2 233 (List.toArray (([] : List Value) ++ (arr1 (Value.int .i64) (0 : Int) 5 p31 ++ ([] : List Value)))), blk g3 233 (List.toArray (([] : List Value) ++ (arr1 (Value.int .i64) (0 : Int) 5 p41 ++ ([] : List Value)))), blk g5 166 #[.func (.func 244) #[] #[.pointer (some ⟨g1, 0, none⟩), .pointer (some ⟨g2, 0, none⟩), .pointer (some ⟨g3, 0, none⟩), .pointer (some ⟨g4, 0, none⟩), .pointer (some ⟨g5, 0, none⟩)]]]) hS)) (fun v a w hR hF => ?_)
      obtain ⟨rfl, hS⟩ := hR
      have hS : Sep w0 B w (blk g1 274 #[.func (.yield l1) #[] #[]] :: blk g2 233 (List.toArray (([] : List Value) ++ (arr1 (Value.int .i64) (0 : Int) 5 p31 ++ ([] : List Value)))) :: blk g3 233 (List.toArray (([] : List Value) ++ (arr1 (Value.int .i64) (0 : Int) 5 p41 ++ ([] : List Value)))) :: blk g5 166 #[.func (.func 244) #[] #[.pointer (some ⟨g1, 0, none⟩), .pointer (some ⟨g2, 0, none⟩), .pointer (some ⟨g3, 0, none⟩), .pointer (some ⟨g4, 0, none⟩), .pointer (some ⟨g5, 0, none⟩)]] :: stateH RS r1.1 :: blk g4 22 #[.slice A1 p51.length c1] :: fs) := Sep.unrot (us := [blk g1 274 #[.func (.yield l1) #[] #[]], blk g2 233 (List.toArray (([] : List Value) ++ (arr1 (Value.int .i64) (0 : Int) 5 p31 ++ ([] : List Value)))), blk g3 233 (List.toArray (([] : List Value) ++ (arr1 (Value.int .i64) (0 : Int) 5 p41 ++ ([] : List Value)))), blk g5 166 #[.func (.func 244) #[] #[.pointer (some ⟨g1, 0, none⟩), .pointer (some ⟨g2, 0, none⟩), .pointer (some ⟨g3, 0, none⟩), .pointer (some ⟨g4, 0, none⟩), .pointer (some ⟨g5, 0, none⟩)]]]) hS
      refine at_run 1 [] [] [9] [pl 9 (.bool r1.2)] hF hS (by kernel_rfl) (by kernel_rfl) ?_ (fun a w hF hS => ?_)
      · exact obs_nil
      refine at_end [9] [pl 9 (.bool r1.2)] hF rfl (by kernel_rfl) (fun hF => ?_)
      refine then_n ?_
      refine wpIn_ret ?_
      refine then_r ?_
      have hS := hS.pickN 6 [0, 4, 1, 2, 5, 3] (by decide)
      have hm : some (r1.2, r1.1, p31, p41) = some r := hm
      obtain rfl := Option.some.inj hm
      exact retV (rs := [.tmp 9]) (vs := [.bool r1.2]) hF rfl (rv_t (by kernel_rfl) <| rv_nil) rfl ⟨_, rfl, rfl, hS⟩
    · replace hm := if_f hm hb
      refine wpIn_skip ?_
      refine then_n ?_
      have hS := hS.pickN 6 [2, 3, 4, 5, 1, 0] (by decide)
      exact ⟨hF.weak [0, 1, 3, 4, 5, 6] (by kernel_rfl), hS, hm⟩

theorem poker_fives_1_1_w {S : Type}  {from1 : Int} {k1 : Int} {g1 : Nat} {l1 : Nat} {RS : S → List HP → Prop} {yd1 : (List Int × List Int) → S → Option (S × Bool)} {sv1 : S} {g2 : Nat} {p31 : List Int} {g3 : Nat} {p41 : List Int} {g4 : Nat} {A1 : Option Addr} {c1 : Nat} {n1 : Nat} {p51 : List Int} {g5 : Nat} {r : (Bool × S × List Int × List Int)} {w0 w : World} {B : Nat} {fs : List HP} (hm : poker_fives_1_1_m from1 k1 yd1 sv1 p31 p41 p51 = some r) (hS : Sep w0 B w (stateH RS sv1 :: blk g1 274 #[.func (.yield l1) #[] #[]] :: blk g2 233 (List.toArray (([] : List Value) ++ (arr1 (Value.int .i64) (0 : Int) 5 p31 ++ ([] : List Value)))) :: blk g3 233 (List.toArray (([] : List Value) ++ (arr1 (Value.int .i64) (0 : Int) 5 p41 ++ ([] : List Value)))) :: blk g4 22 #[.slice A1 n1 c1] :: blk g5 166 #[.func (.func 244) #[] #[.pointer (some ⟨g1, 0, none⟩), .pointer (some ⟨g2, 0, none⟩), .pointer (some ⟨g3, 0, none⟩), .pointer (some ⟨g4, 0, none⟩), .pointer (some ⟨g5, 0, none⟩)]] :: fs)) (hY : YieldC Try.prog w0 B l1 (fun (x : (List Int × List Int)) => #[.agg (List.toArray (([] : List Value) ++ (arr1 (Value.int .i64) (0 : Int) 5 x.1 ++ ([] : List Value)))), .agg (List.toArray (([] : List Value) ++ (arr1 (Value.int .i64) (0 : Int) 5 x.2 ++ ([] : List Value))))]) RS yd1 (blk g4 22 #[.slice A1 n1 c1] :: fs)) (hr_p51 : RdF w0 B fs A1 (vI p51)) (_hc_p51 : p51.length ≤ c1) (_hn_p51 : n1 = p51.length) :
    Calls Try.prog 244 #[.int .i64 from1, .int .i64 k1, .pointer (some ⟨g1, 0, none⟩), .pointer (some ⟨g2, 0, none⟩), .pointer (some ⟨g3, 0, none⟩), .pointer (some ⟨g4, 0, none⟩), .pointer (some ⟨g5, 0, none⟩)] w fun e w' => ∃ v, e = .returned v ∧ v = .bool r.1 ∧ Sep w0 B w' (blk g1 274 #[.func (.yield l1) #[] #[]] :: stateH RS r.2.1 :: blk g2 233 (List.toArray (([] : List Value) ++ (arr1 (Value.int .i64) (0 : Int) 5 r.2.2.1 ++ ([] : List Value)))) :: blk g3 233 (List.toArray (([] : List Value) ++ (arr1 (Value.int .i64) (0 : Int) 5 r.2.2.2 ++ ([] : List Value)))) :: blk g4 22 #[.slice A1 n1 c1] :: blk g5 166 #[.func (.func 244) #[] #[.pointer (some ⟨g1, 0, none⟩), .pointer (some ⟨g2, 0, none⟩), .pointer (some ⟨g3, 0, none⟩), .pointer (some ⟨g4, 0, none⟩), .pointer (some ⟨g5, 0, none⟩)]] :: fs) := by
  have key : ∀ (n : Nat) {from1 : Int} {k1 : Int} {g1 : Nat} {l1 : Nat} {RS : S → List HP → Prop} {yd1 : (List Int × List Int) → S → Option (S × Bool)} {sv1 : S} {g2 : Nat} {p31 : List Int} {g3 : Nat} {p41 : List Int} {g4 : Nat} {A1 : Option Addr} {c1 : Nat} {n1 : Nat} {p51 : List Int} {g5 : Nat} {r : (Bool × S × List Int × List Int)} {w0 w : World} {B : Nat} {fs : List HP} (_ : poker_fives_1_1_mF n from1 k1 yd1 sv1 p31 p41 p51 = some r) (_ : Sep w0 B w (stateH RS sv1 :: blk g1 274 #[.func (.yield l1) #[] #[]] :: blk g2 233 (List.toArray (([] : List Value) ++ (arr1 (Value.int .i64) (0 : Int) 5 p31 ++ ([] : List Value)))) :: blk g3 233 (List.toArray (([] : List Value) ++ (arr1 (Value.int .i64) (0 : Int) 5 p41 ++ ([] : List Value)))) :: blk g4 22 #[.slice A1 n1 c1] :: blk g5 166 #[.func (.func 244) #[] #[.pointer (some ⟨g1, 0, none⟩), .pointer (some ⟨g2, 0, none⟩), .pointer (some ⟨g3, 0, none⟩), .pointer (some ⟨g4, 0, none⟩), .pointer (some ⟨g5, 0, none⟩)]] :: fs)) (hY : YieldC Try.prog w0 B l1 (fun (x : (List Int × List Int)) => #[.agg (List.toArray (([] : List Value) ++ (arr1 (Value.int .i64) (0 : Int) 5 x.1 ++ ([] : List Value)))), .agg (List.toArray (([] : List Value) ++ (arr1 (Value.int .i64) (0 : Int) 5 x.2 ++ ([] : List Value))))]) RS yd1 (blk g4 22 #[.slice A1 n1 c1] :: fs)) (hr_p51 : RdF w0 B fs A1 (vI p51)) (_hc_p51 : p51.length ≤ c1) (_hn_p51 : n1 = p51.length), Calls Try.prog 244 #[.int .i64 from1, .int .i64 k1, .pointer (some ⟨g1, 0, none⟩), .pointer (some ⟨g2, 0, none⟩), .pointer (some ⟨g3, 0, none⟩), .pointer (some ⟨g4, 0, none⟩), .pointer (some ⟨g5, 0, none⟩)] w fun e w' => ∃ v, e = .returned v ∧ v = .bool r.1 ∧ Sep w0 B w' (blk g1 274 #[.func (.yield l1) #[] #[]] :: stateH RS r.2.1 :: blk g2 233 (List.toArray (([] : List Value) ++ (arr1 (Value.int .i64) (0 : Int) 5 r.2.2.1 ++ ([] : List Value)))) :: blk g3 233 (List.toArray (([] : List Value) ++ (arr1 (Value.int .i64) (0 : Int) 5 r.2.2.2 ++ ([] : List Value)))) :: blk g4 22 #[.slice A1 n1 c1] :: blk g5 166 #[.func (.func 244) #[] #[.pointer (some ⟨g1, 0, none⟩), .pointer (some ⟨g2, 0, none⟩), .pointer (some ⟨g3, 0, none⟩), .pointer (some ⟨g4, 0, none⟩), .pointer (some ⟨g5, 0, none⟩)]] :: fs) := by
    intro n
    induction n with
    | zero => intros; rename_i hm0 _ _ _ _ _; cases hm0
    | succ n ih => intros; rename_i hm0 hS0 h0 h1 h2 h3; exact poker_fives_1_1_wB (rec_poker_fives_1_1 := poker_fives_1_1_mF n) (fun hm hS h0 h1 h2 h3 => ih hm hS h0 h1 h2 h3) hm0 hS0 h0 h1 h2 h3
  obtain ⟨n, hn⟩ := recM_some hm
  exact key n hn hS hY hr_p51 _hc_p51 _hn_p51

set_option maxRecDepth 100000 in
theorem poker_fives_1_1_J5_le_poker_fives_1_1 {S : Type} {rec_poker_fives_1_11 rec_poker_fives_1_12 : Int → Int → ((List Int × List Int) → S → Option (S × Bool)) → S → List Int → List Int → List Int → Option (Bool × S × List Int × List Int)} (h_rec_poker_fives_1_1 : ∀ a0 a1 a2 a3 a4 a5 a6, Le (rec_poker_fives_1_11 a0 a1 a2 a3 a4 a5 a6) (rec_poker_fives_1_12 a0 a1 a2 a3 a4 a5 a6)) (k1 : Int) (yd1 : (List Int × List Int) → S → Option (S × Bool)) (p51 : List Int) (z1 : List Int) (z2 : List Int) (z3 : S) (i1 : Int) : Le (poker_fives_1_1_J5 rec_poker_fives_1_11 k1 yd1 p51 z1 z2 z3 i1) (poker_fives_1_1_J5 rec_poker_fives_1_12 k1 yd1 p51 z1 z2 z3 i1) := by
  unfold poker_fives_1_1_J5
  repeat' (first | with_reducible exact Le.refl _ | with_reducible exact h_rec_poker_fives_1_1 _ _ _ _ _ _ _ | with_reducible refine Le.asrt ?_ | with_reducible refine Le.ite ?_ ?_ | refine Le.bind ?_ (fun _ => ?_) | refine Le.loop2 (fun _ => ?_) | refine Le.elim2 (fun _ => ?_) (fun _ => ?_))

set_option maxRecDepth 100000 in
theorem poker_fives_1_1_J3_le_poker_fives_1_1 {S : Type} {rec_poker_fives_1_11 rec_poker_fives_1_12 : Int → Int → ((List Int × List Int) → S → Option (S × Bool)) → S → List Int → List Int → List Int → Option (Bool × S × List Int × List Int)} (h_rec_poker_fives_1_1 : ∀ a0 a1 a2 a3 a4 a5 a6, Le (rec_poker_fives_1_11 a0 a1 a2 a3 a4 a5 a6) (rec_poker_fives_1_12 a0 a1 a2 a3 a4 a5 a6)) (k1 : Int) (yd1 : (List Int × List Int) → S → Option (S × Bool)) (p51 : List Int) (z1 : List Int) (z2 : List Int) (z3 : S) (i1 : Int) : Le (poker_fives_1_1_J3 rec_poker_fives_1_11 k1 yd1 p51 z1 z2 z3 i1) (poker_fives_1_1_J3 rec_poker_fives_1_12 k1 yd1 p51 z1 z2 z3 i1) := by
  unfold poker_fives_1_1_J3
  repeat' (first | with_reducible exact Le.refl _ | with_reducible exact h_rec_poker_fives_1_1 _ _ _ _ _ _ _ | with_reducible exact poker_fives_1_1_J5_le_poker_fives_1_1 h_rec_poker_fives_1_1 _ _ _ _ _ _ _ | with_reducible refine Le.asrt ?_ | with_reducible refine Le.ite ?_ ?_ | refine Le.bind ?_ (fun _ => ?_) | refine Le.loop2 (fun _ => ?_) | refine Le.elim2 (fun _ => ?_) (fun _ => ?_))

set_option maxRecDepth 100000 in
theorem poker_fives_1_1_L1_le_poker_fives_1_1 {S : Type} {rec_poker_fives_1_11 rec_poker_fives_1_12 : Int → Int → ((List Int × List Int) → S → Option (S × Bool)) → S → List Int → List Int → List Int → Option (Bool × S × List Int × List Int)} (h_rec_poker_fives_1_1 : ∀ a0 a1 a2 a3 a4 a5 a6, Le (rec_poker_fives_1_11 a0 a1 a2 a3 a4 a5 a6) (rec_poker_fives_1_12 a0 a1 a2 a3 a4 a5 a6)) (k1 : Int) (yd1 : (List Int × List Int) → S → Option (S × Bool)) (p51 : List Int) (x : (List Int × List Int × S × Int)) : Le (poker_fives_1_1_L1 rec_poker_fives_1_11 k1 yd1 p51 x) (poker_fives_1_1_L1 rec_poker_fives_1_12 k1 yd1 p51 x) := by
  rcases x with ⟨z1, z2, z3, i1⟩
  all_goals
    unfold poker_fives_1_1_L1
    try dsimp only
    repeat' (first | with_reducible exact Le.refl _ | with_reducible exact h_rec_poker_fives_1_1 _ _ _ _ _ _ _ | with_reducible exact poker_fives_1_1_J3_le_poker_fives_1_1 h_rec_poker_fives_1_1 _ _ _ _ _ _ _ | with_reducible refine Le.asrt ?_ | with_reducible refine Le.ite ?_ ?_ | refine Le.bind ?_ (fun _ => ?_) | refine Le.loop2 (fun _ => ?_) | refine Le.elim2 (fun _ => ?_) (fun _ => ?_))

set_option maxRecDepth 100000 in
theorem poker_fives_1_1_J1_le_poker_fives_1_1 {S : Type} {rec_poker_fives_1_11 rec_poker_fives_1_12 : Int → Int → ((List Int × List Int) → S → Option (S × Bool)) → S → List Int → List Int → List Int → Option (Bool × S × List Int × List Int)} (h_rec_poker_fives_1_1 : ∀ a0 a1 a2 a3 a4 a5 a6, Le (rec_poker_fives_1_11 a0 a1 a2 a3 a4 a5 a6) (rec_poker_fives_1_12 a0 a1 a2 a3 a4 a5 a6)) (from1 : Int) (k1 : Int) (yd1 : (List Int × List Int) → S → Option (S × Bool)) (sv1 : S) (p31 : List Int) (p41 : List Int) (p51 : List Int) : Le (poker_fives_1_1_J1 rec_poker_fives_1_11 from1 k1 yd1 sv1 p31 p41 p51) (poker_fives_1_1_J1 rec_poker_fives_1_12 from1 k1 yd1 sv1 p31 p41 p51) := by
  unfold poker_fives_1_1_J1
  repeat' (first | with_reducible exact Le.refl _ | with_reducible exact h_rec_poker_fives_1_1 _ _ _ _ _ _ _ | with_reducible exact poker_fives_1_1_L1_le_poker_fives_1_1 h_rec_poker_fives_1_1 _ _ _ _ | with_reducible refine Le.asrt ?_ | with_reducible refine Le.ite ?_ ?_ | refine Le.bind ?_ (fun _ => ?_) | refine Le.loop2 (fun _ => ?_) | refine Le.elim2 (fun _ => ?_) (fun _ => ?_))

set_option maxRecDepth 100000 in
theorem poker_fives_1_1_B_le {S : Type} {rec_poker_fives_1_11 rec_poker_fives_1_12 : Int → Int → ((List Int × List Int) → S → Option (S × Bool)) → S → List Int → List Int → List Int → Option (Bool × S × List Int × List Int)} (h_rec_poker_fives_1_1 : ∀ a0 a1 a2 a3 a4 a5 a6, Le (rec_poker_fives_1_11 a0 a1 a2 a3 a4 a5 a6) (rec_poker_fives_1_12 a0 a1 a2 a3 a4 a5 a6)) (from1 : Int) (k1 : Int) (yd1 : (List Int × List Int) → S → Option (S × Bool)) (sv1 : S) (p31 : List Int) (p41 : List Int) (p51 : List Int) : Le (poker_fives_1_1_B rec_poker_fives_1_11 from1 k1 yd1 sv1 p31 p41 p51) (poker_fives_1_1_B rec_poker_fives_1_12 from1 k1 yd1 sv1 p31 p41 p51) := by
  unfold poker_fives_1_1_B
  repeat' (first | with_reducible exact Le.refl _ | with_reducible exact h_rec_poker_fives_1_1 _ _ _ _ _ _ _ | with_reducible exact poker_fives_1_1_J1_le_poker_fives_1_1 h_rec_poker_fives_1_1 _ _ _ _ _ _ _ | with_reducible refine Le.asrt ?_ | with_reducible refine Le.ite ?_ ?_ | refine Le.bind ?_ (fun _ => ?_) | refine Le.loop2 (fun _ => ?_) | refine Le.elim2 (fun _ => ?_) (fun _ => ?_))

set_option maxRecDepth 100000 in
theorem poker_fives_1_1_mF_le {S : Type} : ∀ (n : Nat) (from1 : Int) (k1 : Int) (yd1 : (List Int × List Int) → S → Option (S × Bool)) (sv1 : S) (p31 : List Int) (p41 : List Int) (p51 : List Int), Le (poker_fives_1_1_mF n from1 k1 yd1 sv1 p31 p41 p51) (poker_fives_1_1_mF (n + 1) from1 k1 yd1 sv1 p31 p41 p51)
  | 0, _, _, _, _, _, _, _ => fun _ h => by cases h
  | n + 1, _, _, _, _, _, _, _ => poker_fives_1_1_B_le (fun a0 a1 a2 a3 a4 a5 a6 => poker_fives_1_1_mF_le n a0 a1 a2 a3 a4 a5 a6) _ _ _ _ _ _ _

set_option maxRecDepth 100000 in
theorem poker_fives_1_1_m_of {S : Type} (N : Nat) (from1 : Int) (k1 : Int) (yd1 : (List Int × List Int) → S → Option (S × Bool)) (sv1 : S) (p31 : List Int) (p41 : List Int) (p51 : List Int) {r : (Bool × S × List Int × List Int)} (h : poker_fives_1_1_mF N from1 k1 yd1 sv1 p31 p41 p51 = some r) : poker_fives_1_1_m from1 k1 yd1 sv1 p31 p41 p51 = some r :=
  recM_mono (fun n => poker_fives_1_1_mF_le n _ _ _ _ _ _ _) h

noncomputable def poker_fives_1_J1 {S : Type}  (sv3 : S) : Option S :=
  some sv3

noncomputable def poker_fives_1_m {S : Type}  (yd1 : (List Int × List Int) → S → Option (S × Bool)) (sv1 : S) (p11 : List Int) : Option S :=
  (poker_fives_1_1_m 0 0 yd1 sv1 (List.replicate 5 (0 : Int)) (List.replicate 5 (0 : Int)) p11).bind fun r1 => poker_fives_1_J1 r1.2.1

set_option maxRecDepth 100000 in
set_option maxHeartbeats 4000000 in
theorem poker_fives_1_w {S : Type}  {l1 : Nat} {RS : S → List HP → Prop} {yd1 : (List Int × List Int) → S → Option (S × Bool)} {sv1 : S} {g1 : Nat} {A1 : Option Addr} {c1 : Nat} {n1 : Nat} {p11 : List Int} {r : S} {w0 w : World} {B : Nat} {fs : List HP} (hm : poker_fives_1_m yd1 sv1 p11 = some r) (hS : Sep w0 B w (stateH RS sv1 :: blk g1 22 #[.slice A1 n1 c1] :: fs)) (hY : YieldC Try.prog w0 B l1 (fun (x : (List Int × List Int)) => #[.agg (List.toArray (([] : List Value) ++ (arr1 (Value.int .i64) (0 : Int) 5 x.1 ++ ([] : List Value)))), .agg (List.toArray (([] : List Value) ++ (arr1 (Value.int .i64) (0 : Int) 5 x.2 ++ ([] : List Value))))]) RS yd1 (blk g1 22 #[.slice A1 n1 c1] :: fs)) (hr_p11 : RdF w0 B fs A1 (vI p11)) (_hc_p11 : p11.length ≤ c1) (_hn_p11 : n1 = p11.length) :
    Calls Try.prog 243 #[.func (.yield l1) #[] #[], .pointer (some ⟨g1, 0, none⟩)] w fun e w' => ∃ v, e = .returned v ∧ v = .tuple #[] ∧ Sep w0 B w' (stateH RS r :: blk g1 22 #[.slice A1 n1 c1] :: fs) := by
  obtain ⟨i3, hi3, hz3, hs3, hb3⟩ := info_parts Info3
  obtain ⟨i166, hi166, hz166, hs166, hb166⟩ := info_parts Info166
  obtain rfl := _hn_p11
  unfold poker_fives_1_m at hm
  replace hm := start_b hm
  refine enter (l := [.func (.yield l1) #[] #[], .pointer (some ⟨g1, 0, none⟩)]) (n := 9) Try.func243 rfl rfl (by simp) (fun a hF => ?_)
  refine end_cut (fun a w => ∃ (sv3 : S), Fr 9 [] a ∧ Sep w0 B w (stateH RS sv3 :: blk g1 22 #[.slice A1 p11.length c1] :: fs) ∧ (poker_fives_1_J1 sv3).bind some = some r) ?_ ?_
  · rintro a w ⟨sv3, hF, hS, hm⟩
    unfold poker_fives_1_J1 at hm
    have hm : some sv3 = some r := hm
    obtain rfl := Option.some.inj hm
    exact endV (rs := []) (vs := []) hF rfl (rv_nil) rfl ⟨_, rfl, rfl, hS⟩ rfl
  · refine seqR ?_
    refine at_do (d := 2) (s := vS (Instr.box 274 (.func (.yield l1) #[] #[]))) (v := .pointer (some ⟨w.heap.size, 0, none⟩)) (w' := w.alloc (.cells #[.func (.yield l1) #[] #[]] 274)) hF (by kernel_rfl) (by kernel_rfl) (by kernel_rfl) (fun a hF => ?_)
    have hS : Sep w0 B (w.alloc (.cells #[.func (.yield l1) #[] #[]] 274)) (blk w.heap.size 274 #[.func (.yield l1) #[] #[]] :: (stateH RS sv1 :: blk g1 22 #[.slice A1 p11.length c1] :: fs)) := hS.box 274 #[.func (.yield l1) #[] #[]]
    generalize w.heap.size = g2 at hF hS
    generalize w.alloc (.cells #[.func (.yield l1) #[] #[]] 274) = w at hS ⊢
    refine at_end [1, 2] [pl 1 (.pointer (some ⟨g1, 0, none⟩)), pl 2 (.pointer (some ⟨g2, 0, none⟩))] hF rfl (by kernel_rfl) (fun hF => ?_)
    refine then_n ?_
    refine seqR ?_
    refine at_do (d := 3) (s := vS (Instr.alloc 233 true (.tuple #[]))) (v := .pointer (some ⟨w.heap.size, 0, none⟩)) (w' := w.alloc (.cells (List.toArray (([] : List Value) ++ (arr1 (Value.int .i64) (0 : Int) 5 (List.replicate 5 (0 : Int)) ++ ([] : List Value)))) 233)) hF (by kernel_rfl) (by kernel_rfl) (by kernel_rfl) (fun a hF => ?_)
    have hS : Sep w0 B (w.alloc (.cells (List.toArray (([] : List Value) ++ (arr1 (Value.int .i64) (0 : Int) 5 (List.replicate 5 (0 : Int)) ++ ([] : List Value)))) 233)) (blk w.heap.size 233 (List.toArray (([] : List Value) ++ (arr1 (Value.int .i64) (0 : Int) 5 (List.replicate 5 (0 : Int)) ++ ([] : List Value)))) :: (blk g2 274 #[.func (.yield l1) #[] #[]] :: stateH RS sv1 :: blk g1 22 #[.slice A1 p11.length c1] :: fs)) := hS.box 233 (List.toArray (([] : List Value) ++ (arr1 (Value.int .i64) (0 : Int) 5 (List.replicate 5 (0 : Int)) ++ ([] : List Value))))
    generalize w.heap.size = g3 at hF hS
    generalize w.alloc (.cells (List.toArray (([] : List Value) ++ (arr1 (Value.int .i64) (0 : Int) 5 (List.replicate 5 (0 : Int)) ++ ([] : List Value)))) 233) = w at hS ⊢
    refine at_do (d := 4) (s := vS (Instr.alloc 233 true (.tuple #[]))) (v := .pointer (some ⟨w.heap.size, 0, none⟩)) (w' := w.alloc (.cells (List.toArray (([] : List Value) ++ (arr1 (Value.int .i64) (0 : Int) 5 (List.replicate 5 (0 : Int)) ++ ([] : List Value)))) 233)) hF (by kernel_rfl) (by kernel_rfl) (by kernel_rfl) (fun a hF => ?_)
    have hS : Sep w0 B (w.alloc (.cells (List.toArray (([] : List Value) ++ (arr1 (Value.int .i64) (0 : Int) 5 (List.replicate 5 (0 : Int)) ++ ([] : List Value)))) 233)) (blk w.heap.size 233 (List.toArray (([] : List Value) ++ (arr1 (Value.int .i64) (0 : Int) 5 (List.replicate 5 (0 : Int)) ++ ([] : List Value)))) :: (blk g3 233 (List.toArray (([] : List Value) ++ (arr1 (Value.int .i64) (0 : Int) 5 (List.replicate 5 (0 : Int)) ++ ([] : List Value)))) :: blk g2 274 #[.func (.yield l1) #[] #[]] :: stateH RS sv1 :: blk g1 22 #[.slice A1 p11.length c1] :: fs)) := hS.box 233 (List.toArray (([] : List Value) ++ (arr1 (Value.int .i64) (0 : Int) 5 (List.replicate 5 (0 : Int)) ++ ([] : List Value))))
    generalize w.heap.size = g4 at hF hS
    generalize w.alloc (.cells (List.toArray (([] : List Value) ++ (arr1 (Value.int .i64) (0 : Int) 5 (List.replicate 5 (0 : Int)) ++ ([] : List Value)))) 233) = w at hS ⊢
    refine at_end [1, 2, 3, 4] [pl 1 (.pointer (some ⟨g1, 0, none⟩)), pl 2 (.pointer (some ⟨g2, 0, none⟩)), pl 3 (.pointer (some ⟨g3, 0, none⟩)), pl 4 (.pointer (some ⟨g4, 0, none⟩))] hF rfl (by kernel_rfl) (fun hF => ?_)
    refine then_n ?_
    refine seqR ?_
    refine at_do (d := 5) (s := vS (Instr.alloc 166 true (.tuple #[]))) (v := .pointer (some ⟨w.heap.size, 0, none⟩)) (w' := w.alloc (.cells #[.nilFunc] 166)) hF (by kernel_rfl) (by kernel_rfl) (by kernel_rfl) (fun a hF => ?_)
    have hS : Sep w0 B (w.alloc (.cells #[.nilFunc] 166)) (blk w.heap.size 166 #[.nilFunc] :: (blk g4 233 (List.toArray (([] : List Value) ++ (arr1 (Value.int .i64) (0 : Int) 5 (List.replicate 5 (0 : Int)) ++ ([] : List Value)))) :: blk g3 233 (List.toArray (([] : List Value) ++ (arr1 (Value.int .i64) (0 : Int) 5 (List.replicate 5 (0 : Int)) ++ ([] : List Value)))) :: blk g2 274 #[.func (.yield l1) #[] #[]] :: stateH RS sv1 :: blk g1 22 #[.slice A1 p11.length c1] :: fs)) := hS.box 166 #[.nilFunc]
    generalize w.heap.size = g5 at hF hS
    generalize w.alloc (.cells #[.nilFunc] 166) = w at hS ⊢
    refine at_end [1, 2, 3, 4, 5] [pl 1 (.pointer (some ⟨g1, 0, none⟩)), pl 2 (.pointer (some ⟨g2, 0, none⟩)), pl 3 (.pointer (some ⟨g3, 0, none⟩)), pl 4 (.pointer (some ⟨g4, 0, none⟩)), pl 5 (.pointer (some ⟨g5, 0, none⟩))] hF rfl (by kernel_rfl) (fun hF => ?_)
    refine then_n ?_
    refine seqR ?_
    refine at_run 1 [] [] [5, 6] [pl 5 (.pointer (some ⟨g5, 0, none⟩)), pl 6 (.func (.func 244) #[] #[.pointer (some ⟨g2, 0, none⟩), .pointer (some ⟨g3, 0, none⟩), .pointer (some ⟨g4, 0, none⟩), .pointer (some ⟨g1, 0, none⟩), .pointer (some ⟨g5, 0, none⟩)])] hF hS (by kernel_rfl) (by kernel_rfl) ?_ (fun a w hF hS => ?_)
    · exact obs_nil
    obtain ⟨w, hrun, hS⟩ := run_put (P := Try.prog) (t := 166) (u := .func (.func 244) #[] #[.pointer (some ⟨g2, 0, none⟩), .pointer (some ⟨g3, 0, none⟩), .pointer (some ⟨g4, 0, none⟩), .pointer (some ⟨g1, 0, none⟩), .pointer (some ⟨g5, 0, none⟩)]) (i := 0) (hS.at_ 0 rfl) hi166 hs166 rfl (Nat.lt_of_lt_of_eq (Nat.lt_of_succ_le (Nat.le_of_ble_eq_true (by kernel_rfl))) rfl)
    refine at_skip hF (by kernel_rfl) hrun ?_
    have hS : Sep w0 B w (blk g5 166 #[.func (.func 244) #[] #[.pointer (some ⟨g2, 0, none⟩), .pointer (some ⟨g3, 0, none⟩), .pointer (some ⟨g4, 0, none⟩), .pointer (some ⟨g1, 0, none⟩), .pointer (some ⟨g5, 0, none⟩)]] :: blk g4 233 (List.toArray (([] : List Value) ++ (arr1 (Value.int .i64) (0 : Int) 5 (List.replicate 5 (0 : Int)) ++ ([] : List Value)))) :: blk g3 233 (List.toArray (([] : List Value) ++ (arr1 (Value.int .i64) (0 : Int) 5 (List.replicate 5 (0 : Int)) ++ ([] : List Value)))) :: blk g2 274 #[.func (.yield l1) #[] #[]] :: stateH RS sv1 :: blk g1 22 #[.slice A1 p11.length c1] :: fs) := hS
    refine at_end [5] [pl 5 (.pointer (some ⟨g5, 0, none⟩))] hF rfl (by kernel_rfl) (fun hF => ?_)
    refine then_n ?_
    refine oneR ?_
    obtain ⟨r1, hr1, hm⟩ := call_b hm
    refine at_run 1 [⟨false, [], vS (Instr.loadAt 166 (.pointer (some ⟨g5, 0, none⟩))), .func (.func 244) #[] #[.pointer (some ⟨g2, 0, none⟩), .pointer (some ⟨g3, 0, none⟩), .pointer (some ⟨g4, 0, none⟩), .pointer (some ⟨g1, 0, none⟩), .pointer (some ⟨g5, 0, none⟩)]⟩] [some (.func (.func 244) #[] #[.pointer (some ⟨g2, 0, none⟩), .pointer (some ⟨g3, 0, none⟩), .pointer (some ⟨g4, 0, none⟩), .pointer (some ⟨g1, 0, none⟩), .pointer (some ⟨g5, 0, none⟩)])] [7] [pl 7 (.func (.func 244) #[] #[.pointer (some ⟨g2, 0, none⟩), .pointer (some ⟨g3, 0, none⟩), .pointer (some ⟨g4, 0, none⟩), .pointer (some ⟨g1, 0, none⟩), .pointer (some ⟨g5, 0, none⟩)])] hF hS (by kernel_rfl) (by kernel_rfl) ?_ (fun a w hF hS => ?_)
    · exact obs_cons (ob_load Agg166 (fun _ _ hS => (hS.at_ 0 rfl).cell rfl)) <| obs_nil
    have hS : Sep w0 B w (stateH RS sv1 :: blk g2 274 #[.func (.yield l1) #[] #[]] :: blk g3 233 (List.toArray (([] : List Value) ++ (arr1 (Value.int .i64) (0 : Int) 5 (List.replicate 5 (0 : Int)) ++ ([] : List Value)))) :: blk g4 233 (List.toArray (([] : List Value) ++ (arr1 (Value.int .i64) (0 : Int) 5 (List.replicate 5 (0 : Int)) ++ ([] : List Value)))) :: blk g1 22 #[.slice A1 p11.length c1] :: blk g5 166 #[.func (.func 244) #[] #[.pointer (some ⟨g2, 0, none⟩), .pointer (some ⟨g3, 0, none⟩), .pointer (some ⟨g4, 0, none⟩), .pointer (some ⟨g1, 0, none⟩), .pointer (some ⟨g5, 0, none⟩)]] :: fs) := hS.pickN 6 [4, 3, 2, 1, 5, 0] (by decide)
    refine at_call (f := 244) (args := #[.int .i64 0, .int .i64 0, .pointer (some ⟨g2, 0, none⟩), .pointer (some ⟨g3, 0, none⟩), .pointer (some ⟨g4, 0, none⟩), .pointer (some ⟨g1, 0, none⟩), .pointer (some ⟨g5, 0, none⟩)]) (d := 8) hF (by kernel_rfl) (by kernel_rfl) Try.func244 (by kernel_rfl) rfl (poker_fives_1_1_w hr1 hS hY (fun _ hS => (hr_p11 _ (hS.dropN 0))) _hc_p11 rfl) (fun v a w hR hF => ?_)
    clear hS
    obtain ⟨rfl, hS⟩ := hR
    have hS : Sep w0 B w (blk g2 274 #[.func (.yield l1) #[] #[]] :: stateH RS r1.2.1 :: blk g3 233 (List.toArray (([] : List Value) ++ (arr1 (Value.int .i64) (0 : Int) 5 r1.2.2.1 ++ ([] : List Value)))) :: blk g4 233 (List.toArray (([] : List Value) ++ (arr1 (Value.int .i64) (0 : Int) 5 r1.2.2.2 ++ ([] : List Value)))) :: blk g1 22 #[.slice A1 p11.length c1] :: blk g5 166 #[.func (.func 244) #[] #[.pointer (some ⟨g2, 0, none⟩), .pointer (some ⟨g3, 0, none⟩), .pointer (some ⟨g4, 0, none⟩), .pointer (some ⟨g1, 0, none⟩), .pointer (some ⟨g5, 0, none⟩)]] :: fs) := hS
    refine at_end [] [] hF rfl (by kernel_rfl) (fun hF => ?_)
    refine then_n ?_
    have hS := hS.pickN 6 [1, 4] (by decide)
    exact ⟨r1.2.1, hF.weak [] (by kernel_rfl), hS, hm⟩

noncomputable def cmp_isNaN_m  (x1 : Int) : Option Bool :=
  some (x1 != x1)

set_option maxRecDepth 100000 in
set_option maxHeartbeats 4000000 in
theorem cmp_isNaN_w  {x1 : Int} {r : Bool} {w0 w : World} {B : Nat} {fs : List HP} (hm : cmp_isNaN_m x1 = some r) (hS : Sep w0 B w (fs)) :
    Calls Try.prog 260 #[.int .i64 x1] w fun e w' => e = .returned (.bool r) ∧ Sep w0 B w' (fs) := by
  unfold cmp_isNaN_m at hm
  replace hm := start_b hm
  refine enter (l := [.int .i64 x1]) (n := 6) Try.func260 rfl rfl (by simp) (fun a hF => ?_)
  refine reg [] [] [0] [pl 0 (.int .i64 x1)] hF hS Fol (by kernel_rfl) (by kernel_rfl) (by kernel_rfl) ?_ (fun a w hF hS => ?_)
  · exact obs_nil
  refine reg [] [] [2] [pl 2 (.bool (x1 != x1))] hF hS Fol (by kernel_rfl) (by kernel_rfl) (by kernel_rfl) ?_ (fun a w hF hS => ?_)
  · exact obs_nil
  refine wpIn_ret ?_
  have hm : some (x1 != x1) = some r := hm
  obtain rfl := Option.some.inj hm
  exact retV (rs := [.tmp 2]) (vs := [.bool (x1 != x1)]) hF rfl (rv_t (by kernel_rfl) <| rv_nil) rfl ⟨rfl, hS⟩

noncomputable def cmp_Compare_J2  : Option Int :=
  some (-1)

noncomputable def cmp_Compare_J5  : Option Int :=
  some 0

noncomputable def cmp_Compare_J4  (x1 : Int) (y1 : Int) : Option Int :=
  if (decide (y1 < x1)) then (some 1) else (cmp_Compare_J5)

noncomputable def cmp_Compare_J3  (x1 : Int) (y1 : Int) : Option Int :=
  if (decide (x1 < y1)) then (some (-1)) else ((cmp_Compare_J4 x1 y1))

noncomputable def cmp_Compare_J1  (x1 : Int) (y1 : Int) (r2 : Bool) : Option Int :=
  if r2 then (some 1) else ((cmp_Compare_J3 x1 y1))

noncomputable def cmp_Compare_m  (x1 : Int) (y1 : Int) : Option Int :=
  (cmp_isNaN_m x1).bind fun r1 => (cmp_isNaN_m y1).bind fun r2 => if r1 then (if r2 then (some 0) else (cmp_Compare_J2)) else ((cmp_Compare_J1 x1 y1 r2))

set_option maxRecDepth 100000 in
set_option maxHeartbeats 4000000 in
theorem cmp_Compare_w  {x1 : Int} {y1 : Int} {r : Int} {w0 w : World} {B : Nat} {fs : List HP} (hm : cmp_Compare_m x1 y1 = some r) (hS : Sep w0 B w (fs)) :
    Calls Try.prog 211 #[.int .i64 x1, .int .i64 y1] w fun e w' => e = .returned (.int .i64 r) ∧ Sep w0 B w' (fs) := by
  unfold cmp_Compare_m at hm
  replace hm := start_b hm
  refine enter (l := [.int .i64 x1, .int .i64 y1]) (n := 20) Try.func211 rfl rfl (by simp) (fun a hF => ?_)
  refine reg [] [] [0, 1] [pl 0 (.int .i64 x1), pl 1 (.int .i64 y1)] hF hS Fol (by kernel_rfl) (by kernel_rfl) (by kernel_rfl) ?_ (fun a w hF hS => ?_)
  · exact obs_nil
  obtain ⟨r1, hr1, hm⟩ := call_b hm
  refine reg [⟨false, [], callFunc 260 #[.int .i64 x1], .bool r1⟩] [none, some (.bool r1), none] [0, 1, 5] [pl 0 (.int .i64 x1), pl 1 (.int .i64 y1), pl 5 (.bool r1)] hF hS Fol (by kernel_rfl) (by kernel_rfl) (by kernel_rfl) ?_ (fun a w hF hS => ?_)
  · exact obs_cons (ob_call Try.func260 (by kernel_rfl) rfl (fun _ _ hS => cmp_isNaN_w hr1 hS )) <| obs_nil
  obtain ⟨r2, hr2, hm⟩ := call_b hm
  refine reg [⟨false, [], callFunc 260 #[.int .i64 y1], .bool r2⟩] [none, some (.bool r2), none] [0, 1, 5, 6] [pl 0 (.int .i64 x1), pl 1 (.int .i64 y1), pl 5 (.bool r1), pl 6 (.bool r2)] hF hS Fol (by kernel_rfl) (by kernel_rfl) (by kernel_rfl) ?_ (fun a w hF hS => ?_)
  · exact obs_cons (ob_call Try.func260 (by kernel_rfl) rfl (fun _ _ hS => cmp_isNaN_w hr2 hS )) <| obs_nil
  refine seq_cut (fun a w => Fr 20 [pl 0 (.int .i64 x1), pl 1 (.int .i64 y1), pl 6 (.bool r2)] a ∧ Sep w0 B w (fs) ∧ ((cmp_Compare_J1 x1 y1 r2)).bind some = some r) ?_ ?_
  · rintro a w ⟨hF, hS, hm⟩
    unfold cmp_Compare_J1 at hm
    refine seq_cut (fun a w => Fr 20 [pl 0 (.int .i64 x1), pl 1 (.int .i64 y1)] a ∧ Sep w0 B w (fs) ∧ ((cmp_Compare_J3 x1 y1)).bind some = some r) ?_ ?_
    · rintro a w ⟨hF, hS, hm⟩
      unfold cmp_Compare_J3 at hm
      refine seq_cut (fun a w => Fr 20 [pl 0 (.int .i64 x1), pl 1 (.int .i64 y1)] a ∧ Sep w0 B w (fs) ∧ ((cmp_Compare_J4 x1 y1)).bind some = some r) ?_ ?_
      · rintro a w ⟨hF, hS, hm⟩
        unfold cmp_Compare_J4 at hm
        refine seq_cut (fun a w => Fr 20 [] a ∧ Sep w0 B w (fs) ∧ (cmp_Compare_J5).bind some = some r) ?_ ?_
        · rintro a w ⟨hF, hS, hm⟩
          unfold cmp_Compare_J5 at hm
          refine reg [] [] [4] [pl 4 (.int .i64 0)] hF hS Fol (by kernel_rfl) (by kernel_rfl) (by kernel_rfl) ?_ (fun a w hF hS => ?_)
          · exact obs_nil
          refine wpIn_ret ?_
          have hm : some 0 = some r := hm
          obtain rfl := Option.some.inj hm
          exact retV (rs := [.tmp 4]) (vs := [.int .i64 0]) hF rfl (rv_t (by kernel_rfl) <| rv_nil) rfl ⟨rfl, hS⟩
        · refine reg [] [] [19] [pl 19 (.bool (decide (y1 < x1)))] hF hS Fol (by kernel_rfl) (by kernel_rfl) (by kernel_rfl) ?_ (fun a w hF hS => ?_)
          · exact obs_nil
          refine cond_ev (t := 19) (b := decide (y1 < x1)) hF (by kernel_rfl) (fun hb => ?_) (fun hb => ?_)
          · replace hm := if_t hm hb
            refine reg [] [] [4] [pl 4 (.int .i64 1)] hF hS Fol (by kernel_rfl) (by kernel_rfl) (by kernel_rfl) ?_ (fun a w hF hS => ?_)
            · exact obs_nil
            refine wpIn_ret ?_
            refine then_r ?_
            have hm : some 1 = some r := hm
            obtain rfl := Option.some.inj hm
            exact retV (rs := [.tmp 4]) (vs := [.int .i64 1]) hF rfl (rv_t (by kernel_rfl) <| rv_nil) rfl ⟨rfl, hS⟩
          · replace hm := if_f hm hb
            refine wpIn_skip ?_
            refine then_n ?_
            exact ⟨hF.weak [] (by kernel_rfl), hS, hm⟩
      · refine reg [] [] [0, 1, 16] [pl 0 (.int .i64 x1), pl 1 (.int .i64 y1), pl 16 (.bool (decide (x1 < y1)))] hF hS Fol (by kernel_rfl) (by kernel_rfl) (by kernel_rfl) ?_ (fun a w hF hS => ?_)
        · exact obs_nil
        refine cond_ev (t := 16) (b := decide (x1 < y1)) hF (by kernel_rfl) (fun hb => ?_) (fun hb => ?_)
        · replace hm := if_t hm hb
          refine reg [] [] [4] [pl 4 (.int .i64 (-1))] hF hS Fol (by kernel_rfl) (by kernel_rfl) (by kernel_rfl) ?_ (fun a w hF hS => ?_)
          · exact obs_nil
          refine wpIn_ret ?_
          refine then_r ?_
          have hm : some (-1) = some r := hm
          obtain rfl := Option.some.inj hm
          exact retV (rs := [.tmp 4]) (vs := [.int .i64 (-1)]) hF rfl (rv_t (by kernel_rfl) <| rv_nil) rfl ⟨rfl, hS⟩
        · replace hm := if_f hm hb
          refine wpIn_skip ?_
          refine then_n ?_
          exact ⟨hF.weak [0, 1] (by kernel_rfl), hS, hm⟩
    · refine reg [] [] [0, 1, 13] [pl 0 (.int .i64 x1), pl 1 (.int .i64 y1), pl 13 (.bool r2)] hF hS Fol (by kernel_rfl) (by kernel_rfl) (by kernel_rfl) ?_ (fun a w hF hS => ?_)
      · exact obs_nil
      refine cond_ev (t := 13) (b := r2) hF (by kernel_rfl) (fun hb => ?_) (fun hb => ?_)
      · replace hm := if_t hm hb
        refine reg [] [] [4] [pl 4 (.int .i64 1)] hF hS Fol (by kernel_rfl) (by kernel_rfl) (by kernel_rfl) ?_ (fun a w hF hS => ?_)
        · exact obs_nil
        refine wpIn_ret ?_
        refine then_r ?_
        have hm : some 1 = some r := hm
        obtain rfl := Option.some.inj hm
        exact retV (rs := [.tmp 4]) (vs := [.int .i64 1]) hF rfl (rv_t (by kernel_rfl) <| rv_nil) rfl ⟨rfl, hS⟩
      · replace hm := if_f hm hb
        refine wpIn_skip ?_
        refine then_n ?_
        exact ⟨hF.weak [0, 1] (by kernel_rfl), hS, hm⟩
  · refine reg [] [] [0, 1, 6, 11] [pl 0 (.int .i64 x1), pl 1 (.int .i64 y1), pl 6 (.bool r2), pl 11 (.bool r1)] hF hS Fol (by kernel_rfl) (by kernel_rfl) (by kernel_rfl) ?_ (fun a w hF hS => ?_)
    · exact obs_nil
    refine cond_ev (t := 11) (b := r1) hF (by kernel_rfl) (fun hb => ?_) (fun hb => ?_)
    · replace hm := if_t hm hb
      refine seq_cut (fun a w => Fr 20 [] a ∧ Sep w0 B w (fs) ∧ (cmp_Compare_J2).bind some = some r) ?_ ?_
      · rintro a w ⟨hF, hS, hm⟩
        unfold cmp_Compare_J2 at hm
        refine reg [] [] [4] [pl 4 (.int .i64 (-1))] hF hS Fol (by kernel_rfl) (by kernel_rfl) (by kernel_rfl) ?_ (fun a w hF hS => ?_)
        · exact obs_nil
        refine wpIn_ret ?_
        refine then_r ?_
        have hm : some (-1) = some r := hm
        obtain rfl := Option.some.inj hm
        exact retV (rs := [.tmp 4]) (vs := [.int .i64 (-1)]) hF rfl (rv_t (by kernel_rfl) <| rv_nil) rfl ⟨rfl, hS⟩
      · refine reg [] [] [12] [pl 12 (.bool r2)] hF hS Fol (by kernel_rfl) (by kernel_rfl) (by kernel_rfl) ?_ (fun a w hF hS => ?_)
        · exact obs_nil
        refine cond_ev (t := 12) (b := r2) hF (by kernel_rfl) (fun hb => ?_) (fun hb => ?_)
        · replace hm := if_t hm hb
          refine reg [] [] [4] [pl 4 (.int .i64 0)] hF hS Fol (by kernel_rfl) (by kernel_rfl) (by kernel_rfl) ?_ (fun a w hF hS => ?_)
          · exact obs_nil
          refine wpIn_ret ?_
          refine then_r (then_r ?_)
          have hm : some 0 = some r := hm
          obtain rfl := Option.some.inj hm
          exact retV (rs := [.tmp 4]) (vs := [.int .i64 0]) hF rfl (rv_t (by kernel_rfl) <| rv_nil) rfl ⟨rfl, hS⟩
        · replace hm := if_f hm hb
          refine wpIn_skip ?_
          refine then_n ?_
          exact ⟨hF.weak [] (by kernel_rfl), hS, hm⟩
    · replace hm := if_f hm hb
      refine wpIn_skip ?_
      refine then_n ?_
      exact ⟨hF.weak [0, 1, 6] (by kernel_rfl), hS, hm⟩

noncomputable def poker_value_1_m  (a1 : Int) (b1 : Int) (p21 : List Int) : Option Int :=
  asrt (0 ≤ b1 ∧ b1 < 13) <| asrt (0 ≤ a1 ∧ a1 < 13) <| (cmp_Compare_m (geti p21 b1) (geti p21 a1)).bind fun r1 => some r1

set_option maxRecDepth 100000 in
set_option maxHeartbeats 4000000 in
theorem poker_value_1_w  {a1 : Int} {b1 : Int} {g1 : Nat} {p21 : List Int} {r : Int} {w0 w : World} {B : Nat} {fs : List HP} (hm : poker_value_1_m a1 b1 p21 = some r) (hS : Sep w0 B w (blk g1 275 (List.toArray (([] : List Value) ++ (arr1 (Value.int .i64) (0 : Int) 13 p21 ++ ([] : List Value)))) :: fs)) :
    Calls Try.prog 246 #[.int .i64 a1, .int .i64 b1, .pointer (some ⟨g1, 0, none⟩)] w fun e w' => e = .returned (.int .i64 r) ∧ Sep w0 B w' (blk g1 275 (List.toArray (([] : List Value) ++ (arr1 (Value.int .i64) (0 : Int) 13 p21 ++ ([] : List Value)))) :: fs) := by
  obtain ⟨i3, hi3, hz3, hs3, hb3⟩ := info_parts Info3
  unfold poker_value_1_m at hm
  replace hm := start_b hm
  refine enter (l := [.int .i64 a1, .int .i64 b1, .pointer (some ⟨g1, 0, none⟩)]) (n := 13) Try.func246 rfl rfl (by simp) (fun a hF => ?_)
  refine reg [] [] [0, 1, 2] [pl 0 (.int .i64 a1), pl 1 (.int .i64 b1), pl 2 (.pointer (some ⟨g1, 0, none⟩))] hF hS Fol (by kernel_rfl) (by kernel_rfl) (by kernel_rfl) ?_ (fun a w hF hS => ?_)
  · exact obs_nil
  obtain ⟨hp1, hm⟩ := asrt_b hm
  obtain ⟨hp2, hm⟩ := asrt_b hm
  obtain ⟨r1, hr1, hm⟩ := call_b hm
  refine reg [⟨true, [], vS (Instr.indexAt 275 (.pointer (some ⟨g1, 0, none⟩)) (.int .i64 b1)), .pointer (some ((⟨g1, 0, none⟩ : Addr).add (Int.toNat b1 * 1)))⟩, ⟨false, [], vS (Instr.loadAt 3 (.pointer (some ((⟨g1, 0, none⟩ : Addr).add (Int.toNat b1 * 1))))), .int .i64 (geti p21 b1)⟩, ⟨true, [], vS (Instr.indexAt 275 (.pointer (some ⟨g1, 0, none⟩)) (.int .i64 a1)), .pointer (some ((⟨g1, 0, none⟩ : Addr).add (Int.toNat a1 * 1)))⟩, ⟨false, [], vS (Instr.loadAt 3 (.pointer (some ((⟨g1, 0, none⟩ : Addr).add (Int.toNat a1 * 1))))), .int .i64 (geti p21 a1)⟩, ⟨false, [], callFunc 211 #[.int .i64 (geti p21 b1), .int .i64 (geti p21 a1)], .int .i64 r1⟩] [none, some (.pointer (some ((⟨g1, 0, none⟩ : Addr).add (Int.toNat b1 * 1)))), some (.int .i64 (geti p21 b1)), none, some (.pointer (some ((⟨g1, 0, none⟩ : Addr).add (Int.toNat a1 * 1)))), some (.int .i64 (geti p21 a1)), some (.int .i64 r1), none] [5] [pl 5 (.int .i64 r1)] hF hS Fol (by kernel_rfl) (by kernel_rfl) (by kernel_rfl) ?_ (fun a w hF hS => ?_)
  · exact obs_cons (ob_ixA UndA275 hi3 hs3 (fun _ => hp1)) <| obs_cons (ob_getA (m := p21) (Value.int .i64) (0 : Int) 13 ([] : List Value) ([] : List Value) b1 Agg3 rfl (fun _ hS => ⟨_, _, _, _, _, hS.at_ 0 rfl⟩) (fun hy => by have h0 := hp1; omega)) <| obs_cons (ob_ixA UndA275 hi3 hs3 (fun _ => hp2)) <| obs_cons (ob_getA (m := p21) (Value.int .i64) (0 : Int) 13 ([] : List Value) ([] : List Value) a1 Agg3 rfl (fun _ hS => ⟨_, _, _, _, _, hS.at_ 0 rfl⟩) (fun hy => by have h0 := hp2; omega)) <| obs_cons (ob_call Try.func211 (by kernel_rfl) rfl (fun _ _ hS => cmp_Compare_w hr1 hS )) <| obs_nil
  refine wpIn_ret ?_
  have hm : some r1 = some r := hm
  obtain rfl := Option.some.inj hm
  exact retV (rs := [.tmp 5]) (vs := [.int .i64 r1]) hF rfl (rv_t (by kernel_rfl) <| rv_nil) rfl ⟨rfl, hS⟩

noncomputable def slices_insertionSortCmpFunc_2_J5  (data5 : List Int) (j1 : Int) : Option (St (List Int × Int) (List Int)) :=
  some (.next (((data5.set (Int.toNat j1) (geti data5 (w64 (j1 - 1)))).set (Int.toNat (w64 (j1 - 1))) (geti data5 j1)), (w64 (j1 - 1))))

noncomputable def slices_insertionSortCmpFunc_2_J4  (data1 : List Int) (data5 : List Int) (j1 : Int) : Option (St (List Int × Int) (List Int)) :=
  asrt (0 ≤ (w64 (j1 - 1)) ∧ (w64 (j1 - 1)) < (data1.length : Int)) <| asrt (0 ≤ j1 ∧ j1 < (data1.length : Int)) <| asrt (0 ≤ j1 ∧ j1 < (data1.length : Int)) <| asrt (0 ≤ (w64 (j1 - 1)) ∧ (w64 (j1 - 1)) < (data1.length : Int)) <| (slices_insertionSortCmpFunc_2_J5 data5 j1)

noncomputable def slices_insertionSortCmpFunc_2_J3  (i1 : Int) (data6 : List Int) : Option (St (List Int × Int) (List Int)) :=
  some (.next (data6, (w64 (i1 + 1))))

noncomputable def slices_insertionSortCmpFunc_2_K2  (i1 : Int) : (List Int) → Option (St (List Int × Int) (List Int)) :=
  fun (x : (List Int)) => match x with | data6 => (slices_insertionSortCmpFunc_2_J3 i1) data6

noncomputable def slices_insertionSortCmpFunc_2_L2  (data1 : List Int) (a1 : Int) (v1 : List Int) : (List Int × Int) → Option (St (List Int × Int) (List Int)) :=
  fun (x : (List Int × Int)) => match x with | (data5, j1) => asrt ((decide (a1 < j1)) = true → 0 ≤ j1 ∧ j1 < (data1.length : Int)) <| asrt ((decide (a1 < j1)) = true → 0 ≤ (w64 (j1 - 1)) ∧ (w64 (j1 - 1)) < (data1.length : Int)) <| ((if (decide (a1 < j1)) then poker_value_1_m (geti data5 j1) (geti data5 (w64 (j1 - 1))) v1 else some 0)).bind fun r1 => if ((decide (a1 < j1)) && (decide (r1 < 0))) then ((slices_insertionSortCmpFunc_2_J4 data1 data5 j1)) else (some (.done data5))

noncomputable def slices_insertionSortCmpFunc_2_J2  (data1 : List Int) (a1 : Int) (v1 : List Int) (data3 : List Int) (i1 : Int) : Option (St (List Int × Int) (List Int)) :=
  (loop (slices_insertionSortCmpFunc_2_L2 data1 a1 v1) (data3, i1)).bind (slices_insertionSortCmpFunc_2_K2 i1)

noncomputable def slices_insertionSortCmpFunc_2_J1  (data4 : List Int) : Option (List Int) :=
  some data4

noncomputable def slices_insertionSortCmpFunc_2_K1  : (List Int) → Option (List Int) :=
  fun (x : (List Int)) => match x with | data4 => slices_insertionSortCmpFunc_2_J1 data4

noncomputable def slices_insertionSortCmpFunc_2_L1  (data1 : List Int) (a1 : Int) (b1 : Int) (v1 : List Int) : (List Int × Int) → Option (St (List Int × Int) (List Int)) :=
  fun (x : (List Int × Int)) => match x with | (data3, i1) => if (decide (i1 < b1)) then ((slices_insertionSortCmpFunc_2_J2 data1 a1 v1 data3 i1)) else (some (.done data3))

noncomputable def slices_insertionSortCmpFunc_2_m  (data1 : List Int) (a1 : Int) (b1 : Int) (v1 : List Int) : Option (List Int) :=
  (loop (slices_insertionSortCmpFunc_2_L1 data1 a1 b1 v1) (data1, (w64 (a1 + 1)))).bind slices_insertionSortCmpFunc_2_K1

set_option maxRecDepth 100000 in
set_option maxHeartbeats 4000000 in
theorem slices_insertionSortCmpFunc_2_w  {A1 : Option Addr} {c1 : Nat} {n1 : Nat} {data1 : List Int} {a1 : Int} {b1 : Int} {g1 : Nat} {v1 : List Int} {r : (List Int)} {w0 w : World} {B : Nat} {fs : List HP} (hm : slices_insertionSortCmpFunc_2_m data1 a1 b1 v1 = some r) (hS : Sep w0 B w (own 3 (.slice A1 n1 c1) (vI data1) :: blk g1 275 (List.toArray (([] : List Value) ++ (arr1 (Value.int .i64) (0 : Int) 13 v1 ++ ([] : List Value)))) :: fs)) :
    Calls Try.prog 299 #[.slice A1 n1 c1, .int .i64 a1, .int .i64 b1, .func (.func 246) #[] #[.pointer (some ⟨g1, 0, none⟩)]] w fun e w' => ∃ v, e = .returned v ∧ v = .tuple #[] ∧ Sep w0 B w' (own 3 (.slice A1 n1 c1) (vI r) :: blk g1 275 (List.toArray (([] : List Value) ++ (arr1 (Value.int .i64) (0 : Int) 13 v1 ++ ([] : List Value)))) :: fs) := by
  obtain ⟨i3, hi3, hz3, hs3, hb3⟩ := info_parts Info3
  obtain rfl := (hS.at_ 0 rfl).len1
  unfold slices_insertionSortCmpFunc_2_m at hm
  replace hm := start_b hm
  refine enter (l := [.slice A1 data1.length c1, .int .i64 a1, .int .i64 b1, .func (.func 246) #[] #[.pointer (some ⟨g1, 0, none⟩)]]) (n := 53) Try.func299 rfl rfl (by simp) (fun a hF => ?_)
  refine end_cut (fun a w => ∃ (data4 : List Int), Fr 53 [] a ∧ Sep w0 B w (own 3 (.slice A1 data1.length c1) (vI data4) :: blk g1 275 (List.toArray (([] : List Value) ++ (arr1 (Value.int .i64) (0 : Int) 13 v1 ++ ([] : List Value)))) :: fs) ∧ (slices_insertionSortCmpFunc_2_J1 data4).bind some = some r) ?_ ?_
  · rintro a w ⟨data4, hF, hS, hm⟩
    unfold slices_insertionSortCmpFunc_2_J1 at hm
    have hm : some data4 = some r := hm
    obtain rfl := Option.some.inj hm
    exact endV (rs := []) (vs := []) hF rfl (rv_nil) rfl ⟨_, rfl, rfl, hS⟩ rfl
  · refine reg [] [] [0, 1, 2, 3, 8] [pl 0 (.slice A1 data1.length c1), pl 1 (.int .i64 a1), pl 2 (.int .i64 b1), pl 3 (.func (.func 246) #[] #[.pointer (some ⟨g1, 0, none⟩)]), pl 8 (.int .i64 (w64 (a1 + 1)))] hF hS Fol (by kernel_rfl) (by kernel_rfl) (by kernel_rfl) ?_ (fun a w hF hS => ?_)
    · exact obs_nil
    refine wpIn_block ?_
    refine wp_loop_model (S := (List Int × Int)) (R := (List Int)) (slices_insertionSortCmpFunc_2_L1 data1 a1 b1 v1) (fun x => (slices_insertionSortCmpFunc_2_K1 x).bind some) r (fun (x : (List Int × Int)) a w => Fr 53 [pl 0 (.slice A1 data1.length c1), pl 1 (.int .i64 a1), pl 2 (.int .i64 b1), pl 3 (.func (.func 246) #[] #[.pointer (some ⟨g1, 0, none⟩)]), pl 8 (.int .i64 x.2)] a ∧ Sep w0 B w (own 3 (.slice A1 data1.length c1) (vI x.1) :: blk g1 275 (List.toArray (([] : List Value) ++ (arr1 (Value.int .i64) (0 : Int) 13 v1 ++ ([] : List Value)))) :: fs)) (assoc_b hm) ⟨hF.weak [0, 1, 2, 3, 8] (by kernel_rfl), hS⟩ ?_
    clear hF hS hm
    rintro nn1 ⟨data3, i1⟩ a w ⟨hF, hS⟩ hm
    generalize hφ1 : stK (slices_insertionSortCmpFunc_2_L1 data1 a1 b1 v1) nn1 (fun x => (slices_insertionSortCmpFunc_2_K1 x).bind some) = φ1 at hm
    unfold slices_insertionSortCmpFunc_2_L1 at hm
    dsimp only at hF hS hm
    refine seq_cut (fun a w => Fr 53 [pl 0 (.slice A1 data1.length c1), pl 1 (.int .i64 a1), pl 2 (.int .i64 b1), pl 3 (.func (.func 246) #[] #[.pointer (some ⟨g1, 0, none⟩)]), pl 8 (.int .i64 i1)] a ∧ Sep w0 B w (own 3 (.slice A1 data1.length c1) (vI data3) :: blk g1 275 (List.toArray (([] : List Value) ++ (arr1 (Value.int .i64) (0 : Int) 13 v1 ++ ([] : List Value)))) :: fs) ∧ ((slices_insertionSortCmpFunc_2_J2 data1 a1 v1 data3 i1)).bind φ1 = some r) ?_ ?_
    · rintro a w ⟨hF, hS, hm⟩
      unfold slices_insertionSortCmpFunc_2_J2 at hm
      refine seq_cut (fun a w => ∃ (data6 : List Int), Fr 53 [pl 0 (.slice A1 data1.length c1), pl 1 (.int .i64 a1), pl 2 (.int .i64 b1), pl 3 (.func (.func 246) #[] #[.pointer (some ⟨g1, 0, none⟩)]), pl 8 (.int .i64 i1)] a ∧ Sep w0 B w (own 3 (.slice A1 data1.length c1) (vI data6) :: blk g1 275 (List.toArray (([] : List Value) ++ (arr1 (Value.int .i64) (0 : Int) 13 v1 ++ ([] : List Value)))) :: fs) ∧ ((slices_insertionSortCmpFunc_2_J3 i1) data6).bind φ1 = some r) ?_ ?_
      · rintro a w ⟨data6, hF, hS, hm⟩
        unfold slices_insertionSortCmpFunc_2_J3 at hm
        refine reg1 [] [] [0, 1, 2, 3, 8] [pl 0 (.slice A1 data1.length c1), pl 1 (.int .i64 a1), pl 2 (.int .i64 b1), pl 3 (.func (.func 246) #[] #[.pointer (some ⟨g1, 0, none⟩)]), pl 8 (.int .i64 (w64 (i1 + 1)))] hF hS Fol (by kernel_rfl) (by kernel_rfl) (by kernel_rfl) ?_ (fun a w hF hS => ?_)
        · exact obs_nil
        refine then_n ?_
        rw [← hφ1] at hm
        exact ⟨(data6, (w64 (i1 + 1))), ⟨hF.weak [0, 1, 2, 3, 8] (by kernel_rfl), hS⟩, hm⟩
      · refine wpIn_block ?_
        refine reg [] [] [0, 1, 2, 3, 8, 9] [pl 0 (.slice A1 data1.length c1), pl 1 (.int .i64 a1), pl 2 (.int .i64 b1), pl 3 (.func (.func 246) #[] #[.pointer (some ⟨g1, 0, none⟩)]), pl 8 (.int .i64 i1), pl 9 (.int .i64 i1)] hF hS Fol (by kernel_rfl) (by kernel_rfl) (by kernel_rfl) ?_ (fun a w hF hS => ?_)
        · exact obs_nil
        refine wpIn_block ?_
        refine wp_loop_model (S := (List Int × Int)) (R := (List Int)) (slices_insertionSortCmpFunc_2_L2 data1 a1 v1) (fun x => ((slices_insertionSortCmpFunc_2_K2 i1) x).bind φ1) r (fun (x : (List Int × Int)) a w => Fr 53 [pl 0 (.slice A1 data1.length c1), pl 1 (.int .i64 a1), pl 2 (.int .i64 b1), pl 3 (.func (.func 246) #[] #[.pointer (some ⟨g1, 0, none⟩)]), pl 8 (.int .i64 i1), pl 9 (.int .i64 x.2)] a ∧ Sep w0 B w (own 3 (.slice A1 data1.length c1) (vI x.1) :: blk g1 275 (List.toArray (([] : List Value) ++ (arr1 (Value.int .i64) (0 : Int) 13 v1 ++ ([] : List Value)))) :: fs)) (assoc_b hm) ⟨hF.weak [0, 1, 2, 3, 8, 9] (by kernel_rfl), hS⟩ ?_
        clear hF hS hm
        rintro nn2 ⟨data5, j1⟩ a w ⟨hF, hS⟩ hm
        generalize hφ2 : stK (slices_insertionSortCmpFunc_2_L2 data1 a1 v1) nn2 (fun x => ((slices_insertionSortCmpFunc_2_K2 i1) x).bind φ1) = φ2 at hm
        unfold slices_insertionSortCmpFunc_2_L2 at hm
        dsimp only at hF hS hm
        refine seq_cut (fun a w => Fr 53 [pl 0 (.slice A1 data1.length c1), pl 1 (.int .i64 a1), pl 2 (.int .i64 b1), pl 3 (.func (.func 246) #[] #[.pointer (some ⟨g1, 0, none⟩)]), pl 8 (.int .i64 i1), pl 9 (.int .i64 j1)] a ∧ Sep w0 B w (own 3 (.slice A1 data1.length c1) (vI data5) :: blk g1 275 (List.toArray (([] : List Value) ++ (arr1 (Value.int .i64) (0 : Int) 13 v1 ++ ([] : List Value)))) :: fs) ∧ ((slices_insertionSortCmpFunc_2_J4 data1 data5 j1)).bind φ2 = some r) ?_ ?_
        · rintro a w ⟨hF, hS, hm⟩
          unfold slices_insertionSortCmpFunc_2_J4 at hm
          refine seq_cut (fun a w => Fr 53 [pl 0 (.slice A1 data1.length c1), pl 1 (.int .i64 a1), pl 2 (.int .i64 b1), pl 3 (.func (.func 246) #[] #[.pointer (some ⟨g1, 0, none⟩)]), pl 8 (.int .i64 i1), pl 9 (.int .i64 j1)] a ∧ Sep w0 B w (own 3 (.slice A1 data1.length c1) (vI ((data5.set (Int.toNat j1) (geti data5 (w64 (j1 - 1)))).set (Int.toNat (w64 (j1 - 1))) (geti data5 j1))) :: blk g1 275 (List.toArray (([] : List Value) ++ (arr1 (Value.int .i64) (0 : Int) 13 v1 ++ ([] : List Value)))) :: fs) ∧ ((slices_insertionSortCmpFunc_2_J5 data5 j1)).bind φ2 = some r) ?_ ?_
          · rintro a w ⟨hF, hS, hm⟩
            unfold slices_insertionSortCmpFunc_2_J5 at hm
            refine reg1 [] [] [0, 1, 2, 3, 8, 9] [pl 0 (.slice A1 data1.length c1), pl 1 (.int .i64 a1), pl 2 (.int .i64 b1), pl 3 (.func (.func 246) #[] #[.pointer (some ⟨g1, 0, none⟩)]), pl 8 (.int .i64 i1), pl 9 (.int .i64 (w64 (j1 - 1)))] hF hS Fol (by kernel_rfl) (by kernel_rfl) (by kernel_rfl) ?_ (fun a w hF hS => ?_)
            · exact obs_nil
            refine then_n ?_
            rw [← hφ2] at hm
            exact ⟨(((data5.set (Int.toNat j1) (geti data5 (w64 (j1 - 1)))).set (Int.toNat (w64 (j1 - 1))) (geti data5 j1)), (w64 (j1 - 1))), ⟨hF.weak [0, 1, 2, 3, 8, 9] (by kernel_rfl), hS⟩, hm⟩
          · refine wpIn_block ?_
            obtain ⟨hp3, hm⟩ := asrt_b hm
            obtain ⟨hp4, hm⟩ := asrt_b hm
            obtain ⟨hp5, hm⟩ := asrt_b hm
            obtain ⟨hp6, hm⟩ := asrt_b hm
            refine regMix4 [0, 1, 2, 3, 4, 5, 6, 7, 8, 9, 10, 11, 12, 13, 14] [15, 16, 17] [⟨true, [], vS (Instr.indexAt 22 (.slice A1 data1.length c1) (.int .i64 (w64 (j1 - 1)))), .pointer (some (sAddr A1 (w64 (j1 - 1))))⟩, ⟨false, [], vS (Instr.loadAt 3 (.pointer (some (sAddr A1 (w64 (j1 - 1)))))), .int .i64 (geti data5 (w64 (j1 - 1)))⟩, ⟨true, [], vS (Instr.indexAt 22 (.slice A1 data1.length c1) (.int .i64 j1)), .pointer (some (sAddr A1 j1))⟩, ⟨false, [], vS (Instr.loadAt 3 (.pointer (some (sAddr A1 j1)))), .int .i64 (geti data5 j1)⟩, ⟨true, [], vS (Instr.indexAt 22 (.slice A1 data1.length c1) (.int .i64 j1)), .pointer (some (sAddr A1 j1))⟩] [none, none, none, none, none, none, none, none, some (.pointer (some (sAddr A1 (w64 (j1 - 1))))), some (.int .i64 (geti data5 (w64 (j1 - 1)))), none, none, some (.pointer (some (sAddr A1 j1))), some (.int .i64 (geti data5 j1)), some (.pointer (some (sAddr A1 j1)))] [0, 1, 2, 3, 8, 9, 39, 41, 46, 50, 51] [pl 0 (.slice A1 data1.length c1), pl 1 (.int .i64 a1), pl 2 (.int .i64 b1), pl 3 (.func (.func 246) #[] #[.pointer (some ⟨g1, 0, none⟩)]), pl 8 (.int .i64 i1), pl 9 (.int .i64 j1), pl 39 (.slice A1 data1.length c1), pl 41 (.int .i64 (w64 (j1 - 1))), pl 46 (.int .i64 (geti data5 (w64 (j1 - 1)))), pl 50 (.int .i64 (geti data5 j1)), pl 51 (.pointer (some (sAddr A1 j1)))] hF hS Fol (by kernel_rfl) (by kernel_rfl) (by kernel_rfl) (by kernel_rfl) (by kernel_rfl) ?_ (fun a w hF hS => ?_)
            · exact obs_cons (ob_ix1 (f := (Value.int .i64)) (m := data5) Und22 hi3 hs3 (hS.at_ 0 rfl).rd ((hS.at_ 0 rfl).len1) (fun _ => hp3)) <| obs_cons (ob_get1 (n := data1.length) (m := data5) (Value.int .i64) (0 : Int) Agg3 (fun _ hS => ⟨_, (hS.at_ 0 rfl).rd⟩) (fun _ hS => ((hS.at_ 0 rfl).len1)) (fun _ => hp3)) <| obs_cons (ob_ix1 (f := (Value.int .i64)) (m := data5) Und22 hi3 hs3 (hS.at_ 0 rfl).rd ((hS.at_ 0 rfl).len1) (fun _ => hp4)) <| obs_cons (ob_get1 (n := data1.length) (m := data5) (Value.int .i64) (0 : Int) Agg3 (fun _ hS => ⟨_, (hS.at_ 0 rfl).rd⟩) (fun _ hS => ((hS.at_ 0 rfl).len1)) (fun _ => hp4)) <| obs_cons (ob_ix1 (f := (Value.int .i64)) (m := data5) Und22 hi3 hs3 (hS.at_ 0 rfl).rd ((hS.at_ 0 rfl).len1) (fun _ => hp5)) <| obs_nil
            obtain ⟨w, hrun, hS⟩ := run_set1 (P := Try.prog) (t := 3) (x := (geti data5 (w64 (j1 - 1)))) (Value.int .i64) (hS.at_ 0 rfl) hi3 hs3 rfl rfl hp5
            refine at_skip hF (by kernel_rfl) hrun ?_
            have hS : Sep w0 B w (own 3 (.slice A1 data1.length c1) (vI (data5.set (Int.toNat j1) (geti data5 (w64 (j1 - 1))))) :: blk g1 275 (List.toArray (([] : List Value) ++ (arr1 (Value.int .i64) (0 : Int) 13 v1 ++ ([] : List Value)))) :: fs) := hS
            refine at_run 1 [⟨true, [], vS (Instr.indexAt 22 (.slice A1 data1.length c1) (.int .i64 (w64 (j1 - 1)))), .pointer (some (sAddr A1 (w64 (j1 - 1))))⟩] [some (.pointer (some (sAddr A1 (w64 (j1 - 1)))))] [0, 1, 2, 3, 8, 9, 50, 52] [pl 0 (.slice A1 data1.length c1), pl 1 (.int .i64 a1), pl 2 (.int .i64 b1), pl 3 (.func (.func 246) #[] #[.pointer (some ⟨g1, 0, none⟩)]), pl 8 (.int .i64 i1), pl 9 (.int .i64 j1), pl 50 (.int .i64 (geti data5 j1)), pl 52 (.pointer (some (sAddr A1 (w64 (j1 - 1)))))] hF hS (by kernel_rfl) (by kernel_rfl) ?_ (fun a w hF hS => ?_)
            · exact obs_cons (ob_ix1 (f := (Value.int .i64)) (m := (data5.set (Int.toNat j1) (geti data5 (w64 (j1 - 1))))) Und22 hi3 hs3 (hS.at_ 0 rfl).rd ((hS.at_ 0 rfl).len1) (fun _ => hp6)) <| obs_nil
            obtain ⟨w, hrun, hS⟩ := run_set1 (P := Try.prog) (t := 3) (x := (geti data5 j1)) (Value.int .i64) (hS.at_ 0 rfl) hi3 hs3 rfl rfl hp6
            refine at_skip hF (by kernel_rfl) hrun ?_
            have hS : Sep w0 B w (own 3 (.slice A1 data1.length c1) (vI ((data5.set (Int.toNat j1) (geti data5 (w64 (j1 - 1)))).set (Int.toNat (w64 (j1 - 1))) (geti data5 j1))) :: blk g1 275 (List.toArray (([] : List Value) ++ (arr1 (Value.int .i64) (0 : Int) 13 v1 ++ ([] : List Value)))) :: fs) := hS
            refine at_end [0, 1, 2, 3, 8, 9] [pl 0 (.slice A1 data1.length c1), pl 1 (.int .i64 a1), pl 2 (.int .i64 b1), pl 3 (.func (.func 246) #[] #[.pointer (some ⟨g1, 0, none⟩)]), pl 8 (.int .i64 i1), pl 9 (.int .i64 j1)] hF rfl (by kernel_rfl) (fun hF => ?_)
            refine np_n ?_
            refine block_n ?_
            refine then_n ?_
            exact ⟨hF.weak [0, 1, 2, 3, 8, 9] (by kernel_rfl), hS, hm⟩
        · obtain ⟨hp1, hm⟩ := asrt_b hm
          obtain ⟨hp2, hm⟩ := asrt_b hm
          obtain ⟨r1, hr1, hm⟩ := call_b hm
          refine reg [⟨true, [(decide (a1 < j1), true)], vS (Instr.indexAt 22 (.slice A1 data1.length c1) (.int .i64 j1)), .pointer (some (sAddr A1 j1))⟩, ⟨false, [(decide (a1 < j1), true)], vS (Instr.loadAt 3 (.pointer (some (sAddr A1 j1)))), .int .i64 (geti data5 j1)⟩, ⟨true, [(decide (a1 < j1), true)], vS (Instr.indexAt 22 (.slice A1 data1.length c1) (.int .i64 (w64 (j1 - 1)))), .pointer (some (sAddr A1 (w64 (j1 - 1))))⟩, ⟨false, [(decide (a1 < j1), true)], vS (Instr.loadAt 3 (.pointer (some (sAddr A1 (w64 (j1 - 1)))))), .int .i64 (geti data5 (w64 (j1 - 1)))⟩, ⟨false, [(decide (a1 < j1), true)], callFunc 246 #[.int .i64 (geti data5 j1), .int .i64 (geti data5 (w64 (j1 - 1))), .pointer (some ⟨g1, 0, none⟩)], .int .i64 r1⟩] [none, none, none, none, none, none, none, some (.pointer (some (sAddr A1 j1))), some (.int .i64 (geti data5 j1)), none, none, none, some (.pointer (some (sAddr A1 (w64 (j1 - 1))))), some (.int .i64 (geti data5 (w64 (j1 - 1)))), some (.int .i64 r1), none, none] [0, 1, 2, 3, 8, 9, 34] [pl 0 (.slice A1 data1.length c1), pl 1 (.int .i64 a1), pl 2 (.int .i64 b1), pl 3 (.func (.func 246) #[] #[.pointer (some ⟨g1, 0, none⟩)]), pl 8 (.int .i64 i1), pl 9 (.int .i64 j1), pl 34 (.bool ((decide (a1 < j1)) && (decide (r1 < 0))))] hF hS Fol (by kernel_rfl) (by kernel_rfl) (by kernel_rfl) ?_ (fun a w hF hS => ?_)
          · exact obs_cons (ob_ix1 (f := (Value.int .i64)) (m := data5) Und22 hi3 hs3 (hS.at_ 0 rfl).rd ((hS.at_ 0 rfl).len1) (fun hy => hp1 (hy (decide (a1 < j1), true) (by simp)))) <| obs_cons (ob_get1 (n := data1.length) (m := data5) (Value.int .i64) (0 : Int) Agg3 (fun _ hS => ⟨_, (hS.at_ 0 rfl).rd⟩) (fun _ hS => ((hS.at_ 0 rfl).len1)) (fun hy => hp1 (hy (decide (a1 < j1), true) (by simp)))) <| obs_cons (ob_ix1 (f := (Value.int .i64)) (m := data5) Und22 hi3 hs3 (hS.at_ 0 rfl).rd ((hS.at_ 0 rfl).len1) (fun hy => hp2 (hy (decide (a1 < j1), true) (by simp)))) <| obs_cons (ob_get1 (n := data1.length) (m := data5) (Value.int .i64) (0 : Int) Agg3 (fun _ hS => ⟨_, (hS.at_ 0 rfl).rd⟩) (fun _ hS => ((hS.at_ 0 rfl).len1)) (fun hy => hp2 (hy (decide (a1 < j1), true) (by simp)))) <| obs_cons (ob_call Try.func246 (by kernel_rfl) rfl (fun hy _ hS => quiet_pick hS 2 [1, 0] (by decide) [1, 0] (by decide) (qs := (blk g1 275 (List.toArray (([] : List Value) ++ (arr1 (Value.int .i64) (0 : Int) 13 v1 ++ ([] : List Value)))) :: own 3 (.slice A1 data1.length c1) (vI data5) :: fs)) rfl (fun hS => poker_value_1_w (ite_some hr1 (by rw [show (decide (a1 < j1)) = true from hy (decide (a1 < j1), true) (by simp)]; try rfl)) hS ) 2 rfl)) <| obs_nil
          refine cond_ev (t := 34) (b := (decide (a1 < j1)) && (decide (r1 < 0))) hF (by kernel_rfl) (fun hb => ?_) (fun hb => ?_)
          · replace hm := if_t hm hb
            refine wpIn_skip ?_
            refine then_n ?_
            exact ⟨hF.weak [0, 1, 2, 3, 8, 9] (by kernel_rfl), hS, hm⟩
          · replace hm := if_f hm hb
            refine wpIn_exit ?_
            refine then_e (then_e (block_e (block_n (then_n ?_))))
            rw [← hφ2] at hm
            replace hm := done_b hm
            unfold slices_insertionSortCmpFunc_2_K2 at hm
            try dsimp only at hm
            have hm : ((slices_insertionSortCmpFunc_2_J3 i1) data5).bind φ1 = some r := hm
            exact ⟨data5, hF.weak [0, 1, 2, 3, 8] (by kernel_rfl), hS, hm⟩
    · refine reg [] [] [0, 1, 2, 3, 8, 14] [pl 0 (.slice A1 data1.length c1), pl 1 (.int .i64 a1), pl 2 (.int .i64 b1), pl 3 (.func (.func 246) #[] #[.pointer (some ⟨g1, 0, none⟩)]), pl 8 (.int .i64 i1), pl 14 (.bool (decide (i1 < b1)))] hF hS Fol (by kernel_rfl) (by kernel_rfl) (by kernel_rfl) ?_ (fun a w hF hS => ?_)
      · exact obs_nil
      refine cond_ev (t := 14) (b := decide (i1 < b1)) hF (by kernel_rfl) (fun hb => ?_) (fun hb => ?_)
      · replace hm := if_t hm hb
        refine wpIn_skip ?_
        refine then_n ?_
        exact ⟨hF.weak [0, 1, 2, 3, 8] (by kernel_rfl), hS, hm⟩
      · replace hm := if_f hm hb
        refine wpIn_exit ?_
        refine then_e (then_e (block_e (then_n ?_)))
        rw [← hφ1] at hm
        replace hm := done_b hm
        unfold slices_insertionSortCmpFunc_2_K1 at hm
        try dsimp only at hm
        have hm : (slices_insertionSortCmpFunc_2_J1 data3).bind some = some r := hm
        exact ⟨data3, hF.weak [] (by kernel_rfl), hS, hm⟩

noncomputable def slices_swapRangeCmpFunc_2_J3  (a1 : Int) (b1 : Int) (data3 : List Int) (i1 : Int) : Option (St (List Int × Int) (List Int)) :=
  some (.next (((data3.set (Int.toNat (w64 (a1 + i1))) (geti data3 (w64 (b1 + i1)))).set (Int.toNat (w64 (b1 + i1))) (geti data3 (w64 (a1 + i1)))), (w64 (i1 + 1))))

noncomputable def slices_swapRangeCmpFunc_2_J2  (data1 : List Int) (a1 : Int) (b1 : Int) (data3 : List Int) (i1 : Int) : Option (St (List Int × Int) (List Int)) :=
  asrt (0 ≤ (w64 (b1 + i1)) ∧ (w64 (b1 + i1)) < (data1.length : Int)) <| asrt (0 ≤ (w64 (a1 + i1)) ∧ (w64 (a1 + i1)) < (data1.length : Int)) <| asrt (0 ≤ (w64 (a1 + i1)) ∧ (w64 (a1 + i1)) < (data1.length : Int)) <| asrt (0 ≤ (w64 (b1 + i1)) ∧ (w64 (b1 + i1)) < (data1.length : Int)) <| (slices_swapRangeCmpFunc_2_J3 a1 b1 data3 i1)

noncomputable def slices_swapRangeCmpFunc_2_J1  (data4 : List Int) : Option (List Int) :=
  some data4

noncomputable def slices_swapRangeCmpFunc_2_K1  : (List Int) → Option (List Int) :=
  fun (x : (List Int)) => match x with | data4 => slices_swapRangeCmpFunc_2_J1 data4

noncomputable def slices_swapRangeCmpFunc_2_L1  (data1 : List Int) (a1 : Int) (b1 : Int) (n2 : Int) : (List Int × Int) → Option (St (List Int × Int) (List Int)) :=
  fun (x : (List Int × Int)) => match x with | (data3, i1) => if (decide (i1 < n2)) then ((slices_swapRangeCmpFunc_2_J2 data1 a1 b1 data3 i1)) else (some (.done data3))

noncomputable def slices_swapRangeCmpFunc_2_m  (data1 : List Int) (a1 : Int) (b1 : Int) (n2 : Int) (v1 : List Int) : Option (List Int) :=
  (loop (slices_swapRangeCmpFunc_2_L1 data1 a1 b1 n2) (data1, 0)).bind slices_swapRangeCmpFunc_2_K1

set_option maxRecDepth 100000 in
set_option maxHeartbeats 4000000 in
theorem slices_swapRangeCmpFunc_2_w  {A1 : Option Addr} {c1 : Nat} {n1 : Nat} {data1 : List Int} {a1 : Int} {b1 : Int} {n2 : Int} {g1 : Nat} {v1 : List Int} {r : (List Int)} {w0 w : World} {B : Nat} {fs : List HP} (hm : slices_swapRangeCmpFunc_2_m data1 a1 b1 n2 v1 = some r) (hS : Sep w0 B w (own 3 (.slice A1 n1 c1) (vI data1) :: blk g1 275 (List.toArray (([] : List Value) ++ (arr1 (Value.int .i64) (0 : Int) 13 v1 ++ ([] : List Value)))) :: fs)) :
    Calls Try.prog 315 #[.slice A1 n1 c1, .int .i64 a1, .int .i64 b1, .int .i64 n2, .func (.func 246) #[] #[.pointer (some ⟨g1, 0, none⟩)]] w fun e w' => ∃ v, e = .returned v ∧ v = .tuple #[] ∧ Sep w0 B w' (own 3 (.slice A1 n1 c1) (vI r) :: blk g1 275 (List.toArray (([] : List Value) ++ (arr1 (Value.int .i64) (0 : Int) 13 v1 ++ ([] : List Value)))) :: fs) := by
  obtain ⟨i3, hi3, hz3, hs3, hb3⟩ := info_parts Info3
  obtain rfl := (hS.at_ 0 rfl).len1
  unfold slices_swapRangeCmpFunc_2_m at hm
  replace hm := start_b hm
  refine enter (l := [.slice A1 data1.length c1, .int .i64 a1, .int .i64 b1, .int .i64 n2, .func (.func 246) #[] #[.pointer (some ⟨g1, 0, none⟩)]]) (n := 38) Try.func315 rfl rfl (by simp) (fun a hF => ?_)
  refine end_cut (fun a w => ∃ (data4 : List Int), Fr 38 [] a ∧ Sep w0 B w (own 3 (.slice A1 data1.length c1) (vI data4) :: blk g1 275 (List.toArray (([] : List Value) ++ (arr1 (Value.int .i64) (0 : Int) 13 v1 ++ ([] : List Value)))) :: fs) ∧ (slices_swapRangeCmpFunc_2_J1 data4).bind some = some r) ?_ ?_
  · rintro a w ⟨data4, hF, hS, hm⟩
    unfold slices_swapRangeCmpFunc_2_J1 at hm
    have hm : some data4 = some r := hm
    obtain rfl := Option.some.inj hm
    exact endV (rs := []) (vs := []) hF rfl (rv_nil) rfl ⟨_, rfl, rfl, hS⟩ rfl
  · refine reg [] [] [0, 1, 2, 3, 10] [pl 0 (.slice A1 data1.length c1), pl 1 (.int .i64 a1), pl 2 (.int .i64 b1), pl 3 (.int .i64 n2), pl 10 (.int .i64 0)] hF hS Fol (by kernel_rfl) (by kernel_rfl) (by kernel_rfl) ?_ (fun a w hF hS => ?_)
    · exact obs_nil
    refine wpIn_block ?_
    refine wp_loop_model (S := (List Int × Int)) (R := (List Int)) (slices_swapRangeCmpFunc_2_L1 data1 a1 b1 n2) (fun x => (slices_swapRangeCmpFunc_2_K1 x).bind some) r (fun (x : (List Int × Int)) a w => Fr 38 [pl 0 (.slice A1 data1.length c1), pl 1 (.int .i64 a1), pl 2 (.int .i64 b1), pl 3 (.int .i64 n2), pl 10 (.int .i64 x.2)] a ∧ Sep w0 B w (own 3 (.slice A1 data1.length c1) (vI x.1) :: blk g1 275 (List.toArray (([] : List Value) ++ (arr1 (Value.int .i64) (0 : Int) 13 v1 ++ ([] : List Value)))) :: fs)) (assoc_b hm) ⟨hF.weak [0, 1, 2, 3, 10] (by kernel_rfl), hS⟩ ?_
    clear hF hS hm
    rintro nn1 ⟨data3, i1⟩ a w ⟨hF, hS⟩ hm
    generalize hφ1 : stK (slices_swapRangeCmpFunc_2_L1 data1 a1 b1 n2) nn1 (fun x => (slices_swapRangeCmpFunc_2_K1 x).bind some) = φ1 at hm
    unfold slices_swapRangeCmpFunc_2_L1 at hm
    dsimp only at hF hS hm
    refine seq_cut (fun a w => Fr 38 [pl 0 (.slice A1 data1.length c1), pl 1 (.int .i64 a1), pl 2 (.int .i64 b1), pl 3 (.int .i64 n2), pl 10 (.int .i64 i1)] a ∧ Sep w0 B w (own 3 (.slice A1 data1.length c1) (vI data3) :: blk g1 275 (List.toArray (([] : List Value) ++ (arr1 (Value.int .i64) (0 : Int) 13 v1 ++ ([] : List Value)))) :: fs) ∧ ((slices_swapRangeCmpFunc_2_J2 data1 a1 b1 data3 i1)).bind φ1 = some r) ?_ ?_
    · rintro a w ⟨hF, hS, hm⟩
      unfold slices_swapRangeCmpFunc_2_J2 at hm
      refine seq_cut (fun a w => Fr 38 [pl 0 (.slice A1 data1.length c1), pl 1 (.int .i64 a1), pl 2 (.int .i64 b1), pl 3 (.int .i64 n2), pl 10 (.int .i64 i1)] a ∧ Sep w0 B w (own 3 (.slice A1 data1.length c1) (vI ((data3.set (Int.toNat (w64 (a1 + i1))) (geti data3 (w64 (b1 + i1)))).set (Int.toNat (w64 (b1 + i1))) (geti data3 (w64 (a1 + i1))))) :: blk g1 275 (List.toArray (([] : List Value) ++ (arr1 (Value.int .i64) (0 : Int) 13 v1 ++ ([] : List Value)))) :: fs) ∧ ((slices_swapRangeCmpFunc_2_J3 a1 b1 data3 i1)).bind φ1 = some r) ?_ ?_
      · rintro a w ⟨hF, hS, hm⟩
        unfold slices_swapRangeCmpFunc_2_J3 at hm
        refine reg1 [] [] [0, 1, 2, 3, 10] [pl 0 (.slice A1 data1.length c1), pl 1 (.int .i64 a1), pl 2 (.int .i64 b1), pl 3 (.int .i64 n2), pl 10 (.int .i64 (w64 (i1 + 1)))] hF hS Fol (by kernel_rfl) (by kernel_rfl) (by kernel_rfl) ?_ (fun a w hF hS => ?_)
        · exact obs_nil
        refine then_n ?_
        rw [← hφ1] at hm
        exact ⟨(((data3.set (Int.toNat (w64 (a1 + i1))) (geti data3 (w64 (b1 + i1)))).set (Int.toNat (w64 (b1 + i1))) (geti data3 (w64 (a1 + i1)))), (w64 (i1 + 1))), ⟨hF.weak [0, 1, 2, 3, 10] (by kernel_rfl), hS⟩, hm⟩
      · refine wpIn_block ?_
        obtain ⟨hp1, hm⟩ := asrt_b hm
        obtain ⟨hp2, hm⟩ := asrt_b hm
        obtain ⟨hp3, hm⟩ := asrt_b hm
        obtain ⟨hp4, hm⟩ := asrt_b hm
        refine regMix4 [0, 1, 2, 3, 4, 5, 6, 7, 8, 9, 10, 11, 12, 13, 14, 15, 16, 17, 18, 19, 20] [21, 22, 23] [⟨true, [], vS (Instr.indexAt 22 (.slice A1 data1.length c1) (.int .i64 (w64 (b1 + i1)))), .pointer (some (sAddr A1 (w64 (b1 + i1))))⟩, ⟨false, [], vS (Instr.loadAt 3 (.pointer (some (sAddr A1 (w64 (b1 + i1)))))), .int .i64 (geti data3 (w64 (b1 + i1)))⟩, ⟨true, [], vS (Instr.indexAt 22 (.slice A1 data1.length c1) (.int .i64 (w64 (a1 + i1)))), .pointer (some (sAddr A1 (w64 (a1 + i1))))⟩, ⟨false, [], vS (Instr.loadAt 3 (.pointer (some (sAddr A1 (w64 (a1 + i1)))))), .int .i64 (geti data3 (w64 (a1 + i1)))⟩, ⟨true, [], vS (Instr.indexAt 22 (.slice A1 data1.length c1) (.int .i64 (w64 (a1 + i1)))), .pointer (some (sAddr A1 (w64 (a1 + i1))))⟩] [none, none, none, none, none, none, none, none, none, none, none, none, some (.pointer (some (sAddr A1 (w64 (b1 + i1))))), some (.int .i64 (geti data3 (w64 (b1 + i1)))), none, none, none, none, some (.pointer (some (sAddr A1 (w64 (a1 + i1))))), some (.int .i64 (geti data3 (w64 (a1 + i1)))), some (.pointer (some (sAddr A1 (w64 (a1 + i1)))))] [0, 1, 2, 3, 10, 20, 23, 29, 35, 36] [pl 0 (.slice A1 data1.length c1), pl 1 (.int .i64 a1), pl 2 (.int .i64 b1), pl 3 (.int .i64 n2), pl 10 (.int .i64 i1), pl 20 (.slice A1 data1.length c1), pl 23 (.int .i64 (w64 (b1 + i1))), pl 29 (.int .i64 (geti data3 (w64 (b1 + i1)))), pl 35 (.int .i64 (geti data3 (w64 (a1 + i1)))), pl 36 (.pointer (some (sAddr A1 (w64 (a1 + i1)))))] hF hS Fol (by kernel_rfl) (by kernel_rfl) (by kernel_rfl) (by kernel_rfl) (by kernel_rfl) ?_ (fun a w hF hS => ?_)
        · exact obs_cons (ob_ix1 (f := (Value.int .i64)) (m := data3) Und22 hi3 hs3 (hS.at_ 0 rfl).rd ((hS.at_ 0 rfl).len1) (fun _ => hp1)) <| obs_cons (ob_get1 (n := data1.length) (m := data3) (Value.int .i64) (0 : Int) Agg3 (fun _ hS => ⟨_, (hS.at_ 0 rfl).rd⟩) (fun _ hS => ((hS.at_ 0 rfl).len1)) (fun _ => hp1)) <| obs_cons (ob_ix1 (f := (Value.int .i64)) (m := data3) Und22 hi3 hs3 (hS.at_ 0 rfl).rd ((hS.at_ 0 rfl).len1) (fun _ => hp2)) <| obs_cons (ob_get1 (n := data1.length) (m := data3) (Value.int .i64) (0 : Int) Agg3 (fun _ hS => ⟨_, (hS.at_ 0 rfl).rd⟩) (fun _ hS => ((hS.at_ 0 rfl).len1)) (fun _ => hp2)) <| obs_cons (ob_ix1 (f := (Value.int .i64)) (m := data3) Und22 hi3 hs3 (hS.at_ 0 rfl).rd ((hS.at_ 0 rfl).len1) (fun _ => hp3)) <| obs_nil
        obtain ⟨w, hrun, hS⟩ := run_set1 (P := Try.prog) (t := 3) (x := (geti data3 (w64 (b1 + i1)))) (Value.int .i64) (hS.at_ 0 rfl) hi3 hs3 rfl rfl hp3
        refine at_skip hF (by kernel_rfl) hrun ?_
        have hS : Sep w0 B w (own 3 (.slice A1 data1.length c1) (vI (data3.set (Int.toNat (w64 (a1 + i1))) (geti data3 (w64 (b1 + i1))))) :: blk g1 275 (List.toArray (([] : List Value) ++ (arr1 (Value.int .i64) (0 : Int) 13 v1 ++ ([] : List Value)))) :: fs) := hS
        refine at_run 1 [⟨true, [], vS (Instr.indexAt 22 (.slice A1 data1.length c1) (.int .i64 (w64 (b1 + i1)))), .pointer (some (sAddr A1 (w64 (b1 + i1))))⟩] [some (.pointer (some (sAddr A1 (w64 (b1 + i1)))))] [0, 1, 2, 3, 10, 35, 37] [pl 0 (.slice A1 data1.length c1), pl 1 (.int .i64 a1), pl 2 (.int .i64 b1), pl 3 (.int .i64 n2), pl 10 (.int .i64 i1), pl 35 (.int .i64 (geti data3 (w64 (a1 + i1)))), pl 37 (.pointer (some (sAddr A1 (w64 (b1 + i1)))))] hF hS (by kernel_rfl) (by kernel_rfl) ?_ (fun a w hF hS => ?_)
        · exact obs_cons (ob_ix1 (f := (Value.int .i64)) (m := (data3.set (Int.toNat (w64 (a1 + i1))) (geti data3 (w64 (b1 + i1))))) Und22 hi3 hs3 (hS.at_ 0 rfl).rd ((hS.at_ 0 rfl).len1) (fun _ => hp4)) <| obs_nil
        obtain ⟨w, hrun, hS⟩ := run_set1 (P := Try.prog) (t := 3) (x := (geti data3 (w64 (a1 + i1)))) (Value.int .i64) (hS.at_ 0 rfl) hi3 hs3 rfl rfl hp4
        refine at_skip hF (by kernel_rfl) hrun ?_
        have hS : Sep w0 B w (own 3 (.slice A1 data1.length c1) (vI ((data3.set (Int.toNat (w64 (a1 + i1))) (geti data3 (w64 (b1 + i1)))).set (Int.toNat (w64 (b1 + i1))) (geti data3 (w64 (a1 + i1))))) :: blk g1 275 (List.toArray (([] : List Value) ++ (arr1 (Value.int .i64) (0 : Int) 13 v1 ++ ([] : List Value)))) :: fs) := hS
        refine at_end [0, 1, 2, 3, 10] [pl 0 (.slice A1 data1.length c1), pl 1 (.int .i64 a1), pl 2 (.int .i64 b1), pl 3 (.int .i64 n2), pl 10 (.int .i64 i1)] hF rfl (by kernel_rfl) (fun hF => ?_)
        refine np_n ?_
        refine block_n ?_
        refine then_n ?_
        exact ⟨hF.weak [0, 1, 2, 3, 10] (by kernel_rfl), hS, hm⟩
    · refine reg [] [] [0, 1, 2, 3, 10, 13] [pl 0 (.slice A1 data1.length c1), pl 1 (.int .i64 a1), pl 2 (.int .i64 b1), pl 3 (.int .i64 n2), pl 10 (.int .i64 i1), pl 13 (.bool (decide (i1 < n2)))] hF hS Fol (by kernel_rfl) (by kernel_rfl) (by kernel_rfl) ?_ (fun a w hF hS => ?_)
      · exact obs_nil
      refine cond_ev (t := 13) (b := decide (i1 < n2)) hF (by kernel_rfl) (fun hb => ?_) (fun hb => ?_)
      · replace hm := if_t hm hb
        refine wpIn_skip ?_
        refine then_n ?_
        exact ⟨hF.weak [0, 1, 2, 3, 10] (by kernel_rfl), hS, hm⟩
      · replace hm := if_f hm hb
        refine wpIn_exit ?_
        refine then_e (then_e (block_e (then_n ?_)))
        rw [← hφ1] at hm
        replace hm := done_b hm
        unfold slices_swapRangeCmpFunc_2_K1 at hm
        try dsimp only at hm
        have hm : (slices_swapRangeCmpFunc_2_J1 data3).bind some = some r := hm
        exact ⟨data3, hF.weak [] (by kernel_rfl), hS, hm⟩

noncomputable def slices_rotateCmpFunc_2_J3  (m1 : Int) (v1 : List Int) (data3 : List Int) (i1 : Int) (j1 : Int) : Option (St (List Int × Int × Int) (List Int × Int)) :=
  if (decide (j1 < i1)) then ((slices_swapRangeCmpFunc_2_m data3 (w64 (m1 - i1)) m1 j1 v1).bind fun r1 => some (.next (r1, (w64 (i1 - j1)), j1))) else ((slices_swapRangeCmpFunc_2_m data3 (w64 (m1 - i1)) (w64 ((w64 (m1 + j1)) - i1)) i1 v1).bind fun r2 => some (.next (r2, i1, (w64 (j1 - i1)))))

noncomputable def slices_rotateCmpFunc_2_J1  (data5 : List Int) : Option (List Int) :=
  some data5

noncomputable def slices_rotateCmpFunc_2_J2  (m1 : Int) (v1 : List Int) (data4 : List Int) (i2 : Int) : Option (List Int) :=
  (slices_swapRangeCmpFunc_2_m data4 (w64 (m1 - i2)) m1 i2 v1).bind fun r3 => slices_rotateCmpFunc_2_J1 r3

noncomputable def slices_rotateCmpFunc_2_K1  (m1 : Int) (v1 : List Int) : (List Int × Int) → Option (List Int) :=
  fun (x : (List Int × Int)) => match x with | (data4, i2) => (slices_rotateCmpFunc_2_J2 m1 v1) data4 i2

noncomputable def slices_rotateCmpFunc_2_L1  (m1 : Int) (v1 : List Int) : (List Int × Int × Int) → Option (St (List Int × Int × Int) (List Int × Int)) :=
  fun (x : (List Int × Int × Int)) => match x with | (data3, i1, j1) => if (i1 != j1) then ((slices_rotateCmpFunc_2_J3 m1 v1 data3 i1 j1)) else (some (.done (data3, i1)))

noncomputable def slices_rotateCmpFunc_2_m  (data1 : List Int) (a1 : Int) (m1 : Int) (b1 : Int) (v1 : List Int) : Option (List Int) :=
  (loop (slices_rotateCmpFunc_2_L1 m1 v1) (data1, (w64 (m1 - a1)), (w64 (b1 - m1)))).bind (slices_rotateCmpFunc_2_K1 m1 v1)

set_option maxRecDepth 100000 in
set_option maxHeartbeats 4000000 in
theorem slices_rotateCmpFunc_2_w  {A1 : Option Addr} {c1 : Nat} {n1 : Nat} {data1 : List Int} {a1 : Int} {m1 : Int} {b1 : Int} {g1 : Nat} {v1 : List Int} {r : (List Int)} {w0 w : World} {B : Nat} {fs : List HP} (hm : slices_rotateCmpFunc_2_m data1 a1 m1 b1 v1 = some r) (hS : Sep w0 B w (own 3 (.slice A1 n1 c1) (vI data1) :: blk g1 275 (List.toArray (([] : List Value) ++ (arr1 (Value.int .i64) (0 : Int) 13 v1 ++ ([] : List Value)))) :: fs)) :
    Calls Try.prog 311 #[.slice A1 n1 c1, .int .i64 a1, .int .i64 m1, .int .i64 b1, .func (.func 246) #[] #[.pointer (some ⟨g1, 0, none⟩)]] w fun e w' => ∃ v, e = .returned v ∧ v = .tuple #[] ∧ Sep w0 B w' (own 3 (.slice A1 n1 c1) (vI r) :: blk g1 275 (List.toArray (([] : List Value) ++ (arr1 (Value.int .i64) (0 : Int) 13 v1 ++ ([] : List Value)))) :: fs) := by
  obtain ⟨i3, hi3, hz3, hs3, hb3⟩ := info_parts Info3
  obtain rfl := (hS.at_ 0 rfl).len1
  unfold slices_rotateCmpFunc_2_m at hm
  replace hm := start_b hm
  refine enter (l := [.slice A1 data1.length c1, .int .i64 a1, .int .i64 m1, .int .i64 b1, .func (.func 246) #[] #[.pointer (some ⟨g1, 0, none⟩)]]) (n := 58) Try.func311 rfl rfl (by simp) (fun a hF => ?_)
  refine end_cut (fun a w => ∃ (data5 : List Int), Fr 58 [] a ∧ Sep w0 B w (own 3 (.slice A1 data1.length c1) (vI data5) :: blk g1 275 (List.toArray (([] : List Value) ++ (arr1 (Value.int .i64) (0 : Int) 13 v1 ++ ([] : List Value)))) :: fs) ∧ (slices_rotateCmpFunc_2_J1 data5).bind some = some r) ?_ ?_
  · rintro a w ⟨data5, hF, hS, hm⟩
    unfold slices_rotateCmpFunc_2_J1 at hm
    have hm : some data5 = some r := hm
    obtain rfl := Option.some.inj hm
    exact endV (rs := []) (vs := []) hF rfl (rv_nil) rfl ⟨_, rfl, rfl, hS⟩ rfl
  · refine reg [] [] [0, 2, 3, 4, 10] [pl 0 (.slice A1 data1.length c1), pl 2 (.int .i64 m1), pl 3 (.int .i64 b1), pl 4 (.func (.func 246) #[] #[.pointer (some ⟨g1, 0, none⟩)]), pl 10 (.int .i64 (w64 (m1 - a1)))] hF hS Fol (by kernel_rfl) (by kernel_rfl) (by kernel_rfl) ?_ (fun a w hF hS => ?_)
    · exact obs_nil
    refine reg [] [] [0, 2, 4, 10, 11] [pl 0 (.slice A1 data1.length c1), pl 2 (.int .i64 m1), pl 4 (.func (.func 246) #[] #[.pointer (some ⟨g1, 0, none⟩)]), pl 10 (.int .i64 (w64 (m1 - a1))), pl 11 (.int .i64 (w64 (b1 - m1)))] hF hS Fol (by kernel_rfl) (by kernel_rfl) (by kernel_rfl) ?_ (fun a w hF hS => ?_)
    · exact obs_nil
    refine seq_cut (fun a w => ∃ (data4 : List Int) (i2 : Int), Fr 58 [pl 0 (.slice A1 data1.length c1), pl 2 (.int .i64 m1), pl 4 (.func (.func 246) #[] #[.pointer (some ⟨g1, 0, none⟩)]), pl 10 (.int .i64 i2)] a ∧ Sep w0 B w (own 3 (.slice A1 data1.length c1) (vI data4) :: blk g1 275 (List.toArray (([] : List Value) ++ (arr1 (Value.int .i64) (0 : Int) 13 v1 ++ ([] : List Value)))) :: fs) ∧ ((slices_rotateCmpFunc_2_J2 m1 v1) data4 i2).bind some = some r) ?_ ?_
    · rintro a w ⟨data4, i2, hF, hS, hm⟩
      unfold slices_rotateCmpFunc_2_J2 at hm
      refine oneR ?_
      obtain ⟨r3, hr3, hm⟩ := call_b hm
      refine at_run 7 [] [] [50, 53, 54, 55, 56] [pl 50 (.slice A1 data1.length c1), pl 53 (.int .i64 (w64 (m1 - i2))), pl 54 (.int .i64 m1), pl 55 (.int .i64 i2), pl 56 (.func (.func 246) #[] #[.pointer (some ⟨g1, 0, none⟩)])] hF hS (by kernel_rfl) (by kernel_rfl) ?_ (fun a w hF hS => ?_)
      · exact obs_nil
      refine at_call (f := 315) (args := #[.slice A1 data1.length c1, .int .i64 (w64 (m1 - i2)), .int .i64 m1, .int .i64 i2, .func (.func 246) #[] #[.pointer (some ⟨g1, 0, none⟩)]]) (d := 57) hF (by kernel_rfl) (by kernel_rfl) Try.func315 (by kernel_rfl) rfl (slices_swapRangeCmpFunc_2_w hr3 hS ) (fun v a w hR hF => ?_)
      clear hS
      obtain ⟨rfl, hS⟩ := hR
      have hS : Sep w0 B w (own 3 (.slice A1 data1.length c1) (vI r3) :: blk g1 275 (List.toArray (([] : List Value) ++ (arr1 (Value.int .i64) (0 : Int) 13 v1 ++ ([] : List Value)))) :: fs) := hS
      refine at_end [] [] hF rfl (by kernel_rfl) (fun hF => ?_)
      refine then_n ?_
      exact ⟨r3, hF.weak [] (by kernel_rfl), hS, hm⟩
    · refine wpIn_block ?_
      refine wp_loop_model (S := (List Int × Int × Int)) (R := (List Int × Int)) (slices_rotateCmpFunc_2_L1 m1 v1) (fun x => ((slices_rotateCmpFunc_2_K1 m1 v1) x).bind some) r (fun (x : (List Int × Int × Int)) a w => Fr 58 [pl 0 (.slice A1 data1.length c1), pl 2 (.int .i64 m1), pl 4 (.func (.func 246) #[] #[.pointer (some ⟨g1, 0, none⟩)]), pl 10 (.int .i64 x.2.1), pl 11 (.int .i64 x.2.2)] a ∧ Sep w0 B w (own 3 (.slice A1 data1.length c1) (vI x.1) :: blk g1 275 (List.toArray (([] : List Value) ++ (arr1 (Value.int .i64) (0 : Int) 13 v1 ++ ([] : List Value)))) :: fs)) (assoc_b hm) ⟨hF.weak [0, 2, 4, 10, 11] (by kernel_rfl), hS⟩ ?_
      clear hF hS hm
      rintro nn1 ⟨data3, i1, j1⟩ a w ⟨hF, hS⟩ hm
      generalize hφ1 : stK (slices_rotateCmpFunc_2_L1 m1 v1) nn1 (fun x => ((slices_rotateCmpFunc_2_K1 m1 v1) x).bind some) = φ1 at hm
      unfold slices_rotateCmpFunc_2_L1 at hm
      dsimp only at hF hS hm
      refine seq_cut (fun a w => Fr 58 [pl 0 (.slice A1 data1.length c1), pl 2 (.int .i64 m1), pl 4 (.func (.func 246) #[] #[.pointer (some ⟨g1, 0, none⟩)]), pl 10 (.int .i64 i1), pl 11 (.int .i64 j1)] a ∧ Sep w0 B w (own 3 (.slice A1 data1.length c1) (vI data3) :: blk g1 275 (List.toArray (([] : List Value) ++ (arr1 (Value.int .i64) (0 : Int) 13 v1 ++ ([] : List Value)))) :: fs) ∧ ((slices_rotateCmpFunc_2_J3 m1 v1 data3 i1 j1)).bind φ1 = some r) ?_ ?_
      · rintro a w ⟨hF, hS, hm⟩
        unfold slices_rotateCmpFunc_2_J3 at hm
        refine wpIn_block ?_
        refine reg [] [] [0, 2, 4, 10, 11, 23] [pl 0 (.slice A1 data1.length c1), pl 2 (.int .i64 m1), pl 4 (.func (.func 246) #[] #[.pointer (some ⟨g1, 0, none⟩)]), pl 10 (.int .i64 i1), pl 11 (.int .i64 j1), pl 23 (.bool (decide (j1 < i1)))] hF hS Fol (by kernel_rfl) (by kernel_rfl) (by kernel_rfl) ?_ (fun a w hF hS => ?_)
        · exact obs_nil
        refine cond_ev (t := 23) (b := decide (j1 < i1)) hF (by kernel_rfl) (fun hb => ?_) (fun hb => ?_)
        · replace hm := if_t hm hb
          refine seqR ?_
          obtain ⟨r1, hr1, hm⟩ := call_b hm
          refine at_run 7 [] [] [0, 2, 4, 10, 11, 24, 27, 28, 29, 30] [pl 0 (.slice A1 data1.length c1), pl 2 (.int .i64 m1), pl 4 (.func (.func 246) #[] #[.pointer (some ⟨g1, 0, none⟩)]), pl 10 (.int .i64 i1), pl 11 (.int .i64 j1), pl 24 (.slice A1 data1.length c1), pl 27 (.int .i64 (w64 (m1 - i1))), pl 28 (.int .i64 m1), pl 29 (.int .i64 j1), pl 30 (.func (.func 246) #[] #[.pointer (some ⟨g1, 0, none⟩)])] hF hS (by kernel_rfl) (by kernel_rfl) ?_ (fun a w hF hS => ?_)
          · exact obs_nil
          refine at_call (f := 315) (args := #[.slice A1 data1.length c1, .int .i64 (w64 (m1 - i1)), .int .i64 m1, .int .i64 j1, .func (.func 246) #[] #[.pointer (some ⟨g1, 0, none⟩)]]) (d := 31) hF (by kernel_rfl) (by kernel_rfl) Try.func315 (by kernel_rfl) rfl (slices_swapRangeCmpFunc_2_w hr1 hS ) (fun v a w hR hF => ?_)
          clear hS
          obtain ⟨rfl, hS⟩ := hR
          have hS : Sep w0 B w (own 3 (.slice A1 data1.length c1) (vI r1) :: blk g1 275 (List.toArray (([] : List Value) ++ (arr1 (Value.int .i64) (0 : Int) 13 v1 ++ ([] : List Value)))) :: fs) := hS
          refine at_end [0, 2, 4, 10, 11] [pl 0 (.slice A1 data1.length c1), pl 2 (.int .i64 m1), pl 4 (.func (.func 246) #[] #[.pointer (some ⟨g1, 0, none⟩)]), pl 10 (.int .i64 i1), pl 11 (.int .i64 j1)] hF rfl (by kernel_rfl) (fun hF => ?_)
          refine then_n ?_
          refine reg1 [] [] [0, 2, 4, 10, 11] [pl 0 (.slice A1 data1.length c1), pl 2 (.int .i64 m1), pl 4 (.func (.func 246) #[] #[.pointer (some ⟨g1, 0, none⟩)]), pl 10 (.int .i64 (w64 (i1 - j1))), pl 11 (.int .i64 j1)] hF hS Fol (by kernel_rfl) (by kernel_rfl) (by kernel_rfl) ?_ (fun a w hF hS => ?_)
          · exact obs_nil
          refine block_n ?_
          refine then_n ?_
          rw [← hφ1] at hm
          exact ⟨(r1, (w64 (i1 - j1)), j1), ⟨hF.weak [0, 2, 4, 10, 11] (by kernel_rfl), hS⟩, hm⟩
        · replace hm := if_f hm hb
          refine seqR ?_
          obtain ⟨r2, hr2, hm⟩ := call_b hm
          refine at_run 11 [] [] [0, 2, 4, 10, 11, 35, 38, 43, 44, 45] [pl 0 (.slice A1 data1.length c1), pl 2 (.int .i64 m1), pl 4 (.func (.func 246) #[] #[.pointer (some ⟨g1, 0, none⟩)]), pl 10 (.int .i64 i1), pl 11 (.int .i64 j1), pl 35 (.slice A1 data1.length c1), pl 38 (.int .i64 (w64 (m1 - i1))), pl 43 (.int .i64 (w64 ((w64 (m1 + j1)) - i1))), pl 44 (.int .i64 i1), pl 45 (.func (.func 246) #[] #[.pointer (some ⟨g1, 0, none⟩)])] hF hS (by kernel_rfl) (by kernel_rfl) ?_ (fun a w hF hS => ?_)
          · exact obs_nil
          refine at_call (f := 315) (args := #[.slice A1 data1.length c1, .int .i64 (w64 (m1 - i1)), .int .i64 (w64 ((w64 (m1 + j1)) - i1)), .int .i64 i1, .func (.func 246) #[] #[.pointer (some ⟨g1, 0, none⟩)]]) (d := 46) hF (by kernel_rfl) (by kernel_rfl) Try.func315 (by kernel_rfl) rfl (slices_swapRangeCmpFunc_2_w hr2 hS ) (fun v a w hR hF => ?_)
          clear hS
          obtain ⟨rfl, hS⟩ := hR
          have hS : Sep w0 B w (own 3 (.slice A1 data1.length c1) (vI r2) :: blk g1 275 (List.toArray (([] : List Value) ++ (arr1 (Value.int .i64) (0 : Int) 13 v1 ++ ([] : List Value)))) :: fs) := hS
          refine at_end [0, 2, 4, 10, 11] [pl 0 (.slice A1 data1.length c1), pl 2 (.int .i64 m1), pl 4 (.func (.func 246) #[] #[.pointer (some ⟨g1, 0, none⟩)]), pl 10 (.int .i64 i1), pl 11 (.int .i64 j1)] hF rfl (by kernel_rfl) (fun hF => ?_)
          refine then_n ?_
          refine reg1 [] [] [0, 2, 4, 10, 11] [pl 0 (.slice A1 data1.length c1), pl 2 (.int .i64 m1), pl 4 (.func (.func 246) #[] #[.pointer (some ⟨g1, 0, none⟩)]), pl 10 (.int .i64 i1), pl 11 (.int .i64 (w64 (j1 - i1)))] hF hS Fol (by kernel_rfl) (by kernel_rfl) (by kernel_rfl) ?_ (fun a w hF hS => ?_)
          · exact obs_nil
          refine block_n ?_
          refine then_n ?_
          rw [← hφ1] at hm
          exact ⟨(r2, i1, (w64 (j1 - i1))), ⟨hF.weak [0, 2, 4, 10, 11] (by kernel_rfl), hS⟩, hm⟩
      · refine reg [] [] [0, 2, 4, 10, 11, 20] [pl 0 (.slice A1 data1.length c1), pl 2 (.int .i64 m1), pl 4 (.func (.func 246) #[] #[.pointer (some ⟨g1, 0, none⟩)]), pl 10 (.int .i64 i1), pl 11 (.int .i64 j1), pl 20 (.bool (i1 != j1))] hF hS Fol (by kernel_rfl) (by kernel_rfl) (by kernel_rfl) ?_ (fun a w hF hS => ?_)
        · exact obs_nil
        refine cond_ev (t := 20) (b := (i1 != j1)) hF (by kernel_rfl) (fun hb => ?_) (fun hb => ?_)
        · replace hm := if_t hm hb
          refine wpIn_skip ?_
          refine then_n ?_
          exact ⟨hF.weak [0, 2, 4, 10, 11] (by kernel_rfl), hS, hm⟩
        · replace hm := if_f hm hb
          refine wpIn_exit ?_
          refine then_e (then_e (block_e (then_n ?_)))
          rw [← hφ1] at hm
          replace hm := done_b hm
          unfold slices_rotateCmpFunc_2_K1 at hm
          try dsimp only at hm
          have hm : ((slices_rotateCmpFunc_2_J2 m1 v1) data3 i1).bind some = some r := hm
          exact ⟨data3, i1, hF.weak [0, 2, 4, 10] (by kernel_rfl), hS, hm⟩

noncomputable def slices_symMergeCmpFunc_2_J4  (data1 : List Int) (a1 : Int) (v1 : List Int) (i1 : Int) (j1 : Int) : Option (St (Int × Int) Int) :=
  asrt (0 ≤ (w64 (shrK .u64 (IntKind.wrap .u64 (w64 (i1 + j1))) 1)) ∧ (w64 (shrK .u64 (IntKind.wrap .u64 (w64 (i1 + j1))) 1)) < (data1.length : Int)) <| asrt (0 ≤ a1 ∧ a1 < (data1.length : Int)) <| (poker_value_1_m (geti data1 (w64 (shrK .u64 (IntKind.wrap .u64 (w64 (i1 + j1))) 1))) (geti data1 a1) v1).bind fun r1 => if (decide (r1 < 0)) then (some (.next ((w64 ((w64 (shrK .u64 (IntKind.wrap .u64 (w64 (i1 + j1))) 1)) + 1)), j1))) else (some (.next (i1, (w64 (shrK .u64 (IntKind.wrap .u64 (w64 (i1 + j1))) 1)))))

noncomputable def slices_symMergeCmpFunc_2_J7  (data3 : List Int) (k1 : Int) : Option (St (List Int × Int) (List Int)) :=
  some (.next (((data3.set (Int.toNat k1) (geti data3 (w64 (k1 + 1)))).set (Int.toNat (w64 (k1 + 1))) (geti data3 k1)), (w64 (k1 + 1))))

noncomputable def slices_symMergeCmpFunc_2_J6  (data1 : List Int) (data3 : List Int) (k1 : Int) : Option (St (List Int × Int) (List Int)) :=
  asrt (0 ≤ (w64 (k1 + 1)) ∧ (w64 (k1 + 1)) < (data1.length : Int)) <| asrt (0 ≤ k1 ∧ k1 < (data1.length : Int)) <| asrt (0 ≤ k1 ∧ k1 < (data1.length : Int)) <| asrt (0 ≤ (w64 (k1 + 1)) ∧ (w64 (k1 + 1)) < (data1.length : Int)) <| (slices_symMergeCmpFunc_2_J7 data3 k1)

noncomputable def slices_symMergeCmpFunc_2_L2  (data1 : List Int) (i2 : Int) : (List Int × Int) → Option (St (List Int × Int) (List Int)) :=
  fun (x : (List Int × Int)) => match x with | (data3, k1) => if (decide (k1 < (w64 (i2 - 1)))) then ((slices_symMergeCmpFunc_2_J6 data1 data3 k1)) else (some (.done data3))

noncomputable def slices_symMergeCmpFunc_2_J5  (data4 : List Int) : Option (List Int) :=
  some data4

noncomputable def slices_symMergeCmpFunc_2_K2  : (List Int) → Option (List Int) :=
  fun (x : (List Int)) => match x with | data4 => slices_symMergeCmpFunc_2_J5 data4

noncomputable def slices_symMergeCmpFunc_2_J3  (data1 : List Int) (a1 : Int) (i2 : Int) : Option (List Int) :=
  (loop (slices_symMergeCmpFunc_2_L2 data1 i2) (data1, a1)).bind slices_symMergeCmpFunc_2_K2

noncomputable def slices_symMergeCmpFunc_2_K1  (data1 : List Int) (a1 : Int) : Int → Option (List Int) :=
  fun (x : Int) => match x with | i2 => (slices_symMergeCmpFunc_2_J3 data1 a1) i2

noncomputable def slices_symMergeCmpFunc_2_L1  (data1 : List Int) (a1 : Int) (v1 : List Int) : (Int × Int) → Option (St (Int × Int) Int) :=
  fun (x : (Int × Int)) => match x with | (i1, j1) => if (decide (i1 < j1)) then ((slices_symMergeCmpFunc_2_J4 data1 a1 v1 i1 j1)) else (some (.done i1))

noncomputable def slices_symMergeCmpFunc_2_J10  (data1 : List Int) (m1 : Int) (v1 : List Int) (i3 : Int) (j2 : Int) : Option (St (Int × Int) Int) :=
  asrt (0 ≤ m1 ∧ m1 < (data1.length : Int)) <| asrt (0 ≤ (w64 (shrK .u64 (IntKind.wrap .u64 (w64 (i3 + j2))) 1)) ∧ (w64 (shrK .u64 (IntKind.wrap .u64 (w64 (i3 + j2))) 1)) < (data1.length : Int)) <| (poker_value_1_m (geti data1 m1) (geti data1 (w64 (shrK .u64 (IntKind.wrap .u64 (w64 (i3 + j2))) 1))) v1).bind fun r2 => if (!(decide (r2 < 0))) then (some (.next ((w64 ((w64 (shrK .u64 (IntKind.wrap .u64 (w64 (i3 + j2))) 1)) + 1)), j2))) else (some (.next (i3, (w64 (shrK .u64 (IntKind.wrap .u64 (w64 (i3 + j2))) 1)))))

noncomputable def slices_symMergeCmpFunc_2_J13  (data5 : List Int) (k2 : Int) : Option (St (List Int × Int) (List Int)) :=
  some (.next (((data5.set (Int.toNat k2) (geti data5 (w64 (k2 - 1)))).set (Int.toNat (w64 (k2 - 1))) (geti data5 k2)), (w64 (k2 - 1))))

noncomputable def slices_symMergeCmpFunc_2_J12  (data1 : List Int) (data5 : List Int) (k2 : Int) : Option (St (List Int × Int) (List Int)) :=
  asrt (0 ≤ (w64 (k2 - 1)) ∧ (w64 (k2 - 1)) < (data1.length : Int)) <| asrt (0 ≤ k2 ∧ k2 < (data1.length : Int)) <| asrt (0 ≤ k2 ∧ k2 < (data1.length : Int)) <| asrt (0 ≤ (w64 (k2 - 1)) ∧ (w64 (k2 - 1)) < (data1.length : Int)) <| (slices_symMergeCmpFunc_2_J13 data5 k2)

noncomputable def slices_symMergeCmpFunc_2_L4  (data1 : List Int) (i4 : Int) : (List Int × Int) → Option (St (List Int × Int) (List Int)) :=
  fun (x : (List Int × Int)) => match x with | (data5, k2) => if (decide (i4 < k2)) then ((slices_symMergeCmpFunc_2_J12 data1 data5 k2)) else (some (.done data5))

noncomputable def slices_symMergeCmpFunc_2_J11  (data6 : List Int) : Option (List Int) :=
  some data6

noncomputable def slices_symMergeCmpFunc_2_K4  : (List Int) → Option (List Int) :=
  fun (x : (List Int)) => match x with | data6 => slices_symMergeCmpFunc_2_J11 data6

noncomputable def slices_symMergeCmpFunc_2_J9  (data1 : List Int) (m1 : Int) (i4 : Int) : Option (List Int) :=
  (loop (slices_symMergeCmpFunc_2_L4 data1 i4) (data1, m1)).bind slices_symMergeCmpFunc_2_K4

noncomputable def slices_symMergeCmpFunc_2_K3  (data1 : List Int) (m1 : Int) : Int → Option (List Int) :=
  fun (x : Int) => match x with | i4 => (slices_symMergeCmpFunc_2_J9 data1 m1) i4

noncomputable def slices_symMergeCmpFunc_2_L3  (data1 : List Int) (m1 : Int) (v1 : List Int) : (Int × Int) → Option (St (Int × Int) Int) :=
  fun (x : (Int × Int)) => match x with | (i3, j2) => if (decide (i3 < j2)) then ((slices_symMergeCmpFunc_2_J10 data1 m1 v1 i3 j2)) else (some (.done i3))

noncomputable def slices_symMergeCmpFunc_2_J16  (data1 : List Int) (a1 : Int) (m1 : Int) (b1 : Int) (v1 : List Int) (start2 : Int) (r4 : Int) : Option (St (Int × Int) Int) :=
  asrt (0 ≤ (w64 ((w64 ((w64 ((w64 (shrK .u64 (IntKind.wrap .u64 (w64 (a1 + b1))) 1)) + m1)) - 1)) - (w64 (shrK .u64 (IntKind.wrap .u64 (w64 (start2 + r4))) 1)))) ∧ (w64 ((w64 ((w64 ((w64 (shrK .u64 (IntKind.wrap .u64 (w64 (a1 + b1))) 1)) + m1)) - 1)) - (w64 (shrK .u64 (IntKind.wrap .u64 (w64 (start2 + r4))) 1)))) < (data1.length : Int)) <| asrt (0 ≤ (w64 (shrK .u64 (IntKind.wrap .u64 (w64 (start2 + r4))) 1)) ∧ (w64 (shrK .u64 (IntKind.wrap .u64 (w64 (start2 + r4))) 1)) < (data1.length : Int)) <| (poker_value_1_m (geti data1 (w64 ((w64 ((w64 ((w64 (shrK .u64 (IntKind.wrap .u64 (w64 (a1 + b1))) 1)) + m1)) - 1)) - (w64 (shrK .u64 (IntKind.wrap .u64 (w64 (start2 + r4))) 1))))) (geti data1 (w64 (shrK .u64 (IntKind.wrap .u64 (w64 (start2 + r4))) 1))) v1).bind fun r5 => if (!(decide (r5 < 0))) then (some (.next ((w64 ((w64 (shrK .u64 (IntKind.wrap .u64 (w64 (start2 + r4))) 1)) + 1)), r4))) else (some (.next (start2, (w64 (shrK .u64 (IntKind.wrap .u64 (w64 (start2 + r4))) 1)))))

noncomputable def slices_symMergeCmpFunc_2_J1  (data9 : List Int) : Option (List Int) :=
  some data9

noncomputable def slices_symMergeCmpFunc_2_J18  (rec_slices_symMergeCmpFunc_2 : List Int → Int → Int → Int → List Int → Option (List Int)) (a1 : Int) (m1 : Int) (b1 : Int) (v1 : List Int) (start3 : Int) (data8 : List Int) : Option (List Int) :=
  if ((decide ((w64 (shrK .u64 (IntKind.wrap .u64 (w64 (a1 + b1))) 1)) < (w64 ((w64 ((w64 (shrK .u64 (IntKind.wrap .u64 (w64 (a1 + b1))) 1)) + m1)) - start3)))) && (decide ((w64 ((w64 ((w64 (shrK .u64 (IntKind.wrap .u64 (w64 (a1 + b1))) 1)) + m1)) - start3)) < b1))) then ((rec_slices_symMergeCmpFunc_2 data8 (w64 (shrK .u64 (IntKind.wrap .u64 (w64 (a1 + b1))) 1)) (w64 ((w64 ((w64 (shrK .u64 (IntKind.wrap .u64 (w64 (a1 + b1))) 1)) + m1)) - start3)) b1 v1).bind fun r8 => slices_symMergeCmpFunc_2_J1 r8) else (slices_symMergeCmpFunc_2_J1 data8)

noncomputable def slices_symMergeCmpFunc_2_J17  (rec_slices_symMergeCmpFunc_2 : List Int → Int → Int → Int → List Int → Option (List Int)) (a1 : Int) (m1 : Int) (b1 : Int) (v1 : List Int) (start3 : Int) (data7 : List Int) : Option (List Int) :=
  if ((decide (a1 < start3)) && (decide (start3 < (w64 (shrK .u64 (IntKind.wrap .u64 (w64 (a1 + b1))) 1))))) then ((rec_slices_symMergeCmpFunc_2 data7 a1 start3 (w64 (shrK .u64 (IntKind.wrap .u64 (w64 (a1 + b1))) 1)) v1).bind fun r7 => (slices_symMergeCmpFunc_2_J18 rec_slices_symMergeCmpFunc_2 a1 m1 b1 v1 start3) r7) else ((slices_symMergeCmpFunc_2_J18 rec_slices_symMergeCmpFunc_2 a1 m1 b1 v1 start3) data7)

noncomputable def slices_symMergeCmpFunc_2_J15  (rec_slices_symMergeCmpFunc_2 : List Int → Int → Int → Int → List Int → Option (List Int)) (data1 : List Int) (a1 : Int) (m1 : Int) (b1 : Int) (v1 : List Int) (start3 : Int) : Option (List Int) :=
  if ((decide (start3 < m1)) && (decide (m1 < (w64 ((w64 ((w64 (shrK .u64 (IntKind.wrap .u64 (w64 (a1 + b1))) 1)) + m1)) - start3))))) then ((slices_rotateCmpFunc_2_m data1 start3 m1 (w64 ((w64 ((w64 (shrK .u64 (IntKind.wrap .u64 (w64 (a1 + b1))) 1)) + m1)) - start3)) v1).bind fun r6 => (slices_symMergeCmpFunc_2_J17 rec_slices_symMergeCmpFunc_2 a1 m1 b1 v1 start3) r6) else ((slices_symMergeCmpFunc_2_J17 rec_slices_symMergeCmpFunc_2 a1 m1 b1 v1 start3) data1)

noncomputable def slices_symMergeCmpFunc_2_K5  (rec_slices_symMergeCmpFunc_2 : List Int → Int → Int → Int → List Int → Option (List Int)) (data1 : List Int) (a1 : Int) (m1 : Int) (b1 : Int) (v1 : List Int) : Int → Option (List Int) :=
  fun (x : Int) => match x with | start3 => (slices_symMergeCmpFunc_2_J15 rec_slices_symMergeCmpFunc_2 data1 a1 m1 b1 v1) start3

noncomputable def slices_symMergeCmpFunc_2_L5  (data1 : List Int) (a1 : Int) (m1 : Int) (b1 : Int) (v1 : List Int) : (Int × Int) → Option (St (Int × Int) Int) :=
  fun (x : (Int × Int)) => match x with | (start2, r4) => if (decide (start2 < r4)) then ((slices_symMergeCmpFunc_2_J16 data1 a1 m1 b1 v1 start2 r4)) else (some (.done start2))

noncomputable def slices_symMergeCmpFunc_2_J14  (rec_slices_symMergeCmpFunc_2 : List Int → Int → Int → Int → List Int → Option (List Int)) (data1 : List Int) (a1 : Int) (m1 : Int) (b1 : Int) (v1 : List Int) (start1 : Int) (r3 : Int) : Option (List Int) :=
  (loop (slices_symMergeCmpFunc_2_L5 data1 a1 m1 b1 v1) (start1, r3)).bind (slices_symMergeCmpFunc_2_K5 rec_slices_symMergeCmpFunc_2 data1 a1 m1 b1 v1)

noncomputable def slices_symMergeCmpFunc_2_J8  (rec_slices_symMergeCmpFunc_2 : List Int → Int → Int → Int → List Int → Option (List Int)) (data1 : List Int) (a1 : Int) (m1 : Int) (b1 : Int) (v1 : List Int) : Option (List Int) :=
  if (decide ((w64 (shrK .u64 (IntKind.wrap .u64 (w64 (a1 + b1))) 1)) < m1)) then ((slices_symMergeCmpFunc_2_J14 rec_slices_symMergeCmpFunc_2 data1 a1 m1 b1 v1) (w64 ((w64 ((w64 (shrK .u64 (IntKind.wrap .u64 (w64 (a1 + b1))) 1)) + m1)) - b1)) (w64 (shrK .u64 (IntKind.wrap .u64 (w64 (a1 + b1))) 1))) else ((slices_symMergeCmpFunc_2_J14 rec_slices_symMergeCmpFunc_2 data1 a1 m1 b1 v1) a1 m1)

noncomputable def slices_symMergeCmpFunc_2_J2  (rec_slices_symMergeCmpFunc_2 : List Int → Int → Int → Int → List Int → Option (List Int)) (data1 : List Int) (a1 : Int) (m1 : Int) (b1 : Int) (v1 : List Int) : Option (List Int) :=
  if ((w64 (b1 - m1)) == 1) then ((loop (slices_symMergeCmpFunc_2_L3 data1 m1 v1) (a1, m1)).bind (slices_symMergeCmpFunc_2_K3 data1 m1)) else ((slices_symMergeCmpFunc_2_J8 rec_slices_symMergeCmpFunc_2 data1 a1 m1 b1 v1))

noncomputable def slices_symMergeCmpFunc_2_B  (rec_slices_symMergeCmpFunc_2 : List Int → Int → Int → Int → List Int → Option (List Int)) (data1 : List Int) (a1 : Int) (m1 : Int) (b1 : Int) (v1 : List Int) : Option (List Int) :=
  if ((w64 (m1 - a1)) == 1) then ((loop (slices_symMergeCmpFunc_2_L1 data1 a1 v1) (m1, b1)).bind (slices_symMergeCmpFunc_2_K1 data1 a1)) else ((slices_symMergeCmpFunc_2_J2 rec_slices_symMergeCmpFunc_2 data1 a1 m1 b1 v1))

noncomputable def slices_symMergeCmpFunc_2_mF  : Nat → List Int → Int → Int → Int → List Int → Option (List Int)
  | 0 => fun _ _ _ _ _ => none
  | n + 1 => fun data1 a1 m1 b1 v1 => slices_symMergeCmpFunc_2_B (slices_symMergeCmpFunc_2_mF n) data1 a1 m1 b1 v1
end Go.Proofs.Ytoickcchcjehdaa
