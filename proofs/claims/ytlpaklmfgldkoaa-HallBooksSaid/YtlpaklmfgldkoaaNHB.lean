/-
  Models and walks, printed by our own program (wip/gen).
-/
import Derived.Test.YtlpaklmfgldkoaaFB
import Derived.Test.YtlpaklmfgldkoaaLibSu
import Derived.Test.YtlpaklmfgldkoaaLibSt
namespace Go.Proofs.Ytlpaklmfgldkoaa
open Go Go.GL Go.RowKit


noncomputable def gameroomlaw_texts_m  (l1 : List (List UInt8)) : Option (List (List UInt8)) :=
  asrt ((0 : Int) + (l1.length : Int) ≤ bigP) <| some ([] ++ l1)

set_option maxRecDepth 100000 in
set_option maxHeartbeats 4000000 in
theorem gameroomlaw_texts_w {A1 : Option Addr} {c1 : Nat} {n1 : Nat} {l1 : List (List UInt8)} {r : (List (List UInt8))} {w0 w : World} {B : Nat} {fs : List HP} (hm : gameroomlaw_texts_m l1 = some r) (hS : Sep w0 B w (fs)) (hr_l1 : RdF w0 B fs A1 ((List.map strV l1))) (_hc_l1 : l1.length ≤ c1) (_hn_l1 : n1 = l1.length) :
    Calls Try.prog 13 #[.slice A1 n1 c1] w fun e w' => ∃ v, e = .returned v ∧ ∃ (A3 : Option Addr) (c3 : Nat), v = .slice A3 r.length c3 ∧ Sep w0 B w' (own 9 (.slice A3 r.length c3) ((List.map strV r)) :: fs) := by
  obtain ⟨i9, hi9, hz9, hs9, hb9⟩ := info_parts Info9
  obtain rfl := _hn_l1
  unfold gameroomlaw_texts_m at hm
  replace hm := start_b hm
  refine enter (l := [.slice A1 l1.length c1]) (n := 5) Try.func13 rfl rfl (by simp) (fun a hF => ?_)
  refine reg [] [] [0] [pl 0 (.slice A1 l1.length c1)] hF hS Fol (by kernel_rfl) (by kernel_rfl) (by kernel_rfl) ?_ (fun a w hF hS => ?_)
  · exact obs_nil
  refine seqR ?_
  obtain ⟨hp1, hm⟩ := asrt_b hm
  refine at_run 1 [] [] [3] [pl 3 (.slice A1 l1.length c1)] hF hS (by kernel_rfl) (by kernel_rfl) ?_ (fun a w hF hS => ?_)
  · exact obs_nil
  have hS : Sep w0 B w (own 9 (.slice none 0 0) ((List.map strV ([] : List (List UInt8)))) :: fs) := hS.nil 9
  obtain ⟨A2, c2, w, hrun, hS⟩ := run_appG (P := Try.prog) (t := 22) (m := ([] : List (List UInt8))) (ys := l1) (A2 := A1) (m2 := l1.length) (c2 := c1) strV ([] : List UInt8) 8796093022208 (hS.at_ 0 rfl) (hr_l1 _ (hS.dropN 1)) rfl 22 Und22 hi9 hz9 hs9 (by rw [hb9]; decide) (by decide) rfl (fun _ => rfl) hp1
  have hS : Sep w0 B w (own 9 (.slice A2 (([] ++ l1).length) c2) ((List.map strV ([] ++ l1))) :: fs) := hS
  refine at_do (d := 4) hF (by kernel_rfl) (by kernel_rfl) hrun (fun a hF => ?_)
  refine at_run 1 [] [] [2] [pl 2 (.slice A2 (([] ++ l1).length) c2)] hF hS (by kernel_rfl) (by kernel_rfl) ?_ (fun a w hF hS => ?_)
  · exact obs_nil
  refine at_end [2] [pl 2 (.slice A2 (([] ++ l1).length) c2)] hF rfl (by kernel_rfl) (fun hF => ?_)
  refine then_n ?_
  refine wpIn_ret ?_
  have hm : some ([] ++ l1) = some r := hm
  obtain rfl := Option.some.inj hm
  exact retV (rs := [.tmp 2]) (vs := [.slice A2 (([] ++ l1).length) c2]) hF rfl (rv_t (by kernel_rfl) <| rv_nil) rfl ⟨_, rfl, A2, c2, rfl, hS⟩

noncomputable def hall_entry_J3  (line1 : List UInt8) (sum1 : Int) (z1 : Int) : Option (St (Int × Int) Int) :=
  some (.next ((w64 (sum1 + (w64 ((w64 (z1 + 1)) * (w64 (getU line1 z1)))))), (w64 (z1 + 1))))

noncomputable def hall_entry_J2  (line1 : List UInt8) (sum1 : Int) (z1 : Int) : Option (St (Int × Int) Int) :=
  asrt (0 ≤ z1 ∧ z1 < (line1.length : Int)) <| (hall_entry_J3 line1 sum1 z1)

noncomputable def hall_entry_J1  (line1 : List UInt8) (sum2 : Int) : Option (List Int) :=
  asrt ((2 : Int) + line1.length ≤ bigB) <| asrt ((((([IntKind.wrap .u8 (line1.length : Int), IntKind.wrap .u8 (w64 (255 - (line1.length : Int)))] : List Int) ++ (i8 line1)).length : Nat) : Int) + 2 ≤ bigB) <| some ((([IntKind.wrap .u8 (line1.length : Int), IntKind.wrap .u8 (w64 (255 - (line1.length : Int)))] : List Int) ++ (i8 line1)) ++ ([IntKind.wrap .u8 (shrK .i64 (Int.tmod sum2 65521) 8), IntKind.wrap .u8 (Int.tmod sum2 65521)] : List Int))

noncomputable def hall_entry_K1  (line1 : List UInt8) : Int → Option (List Int) :=
  fun (x : Int) => match x with | sum2 => (hall_entry_J1 line1) sum2

noncomputable def hall_entry_L1  (line1 : List UInt8) : (Int × Int) → Option (St (Int × Int) Int) :=
  fun (x : (Int × Int)) => match x with | (sum1, z1) => if (decide (z1 < (line1.length : Int))) then ((hall_entry_J2 line1 sum1 z1)) else (some (.done sum1))

noncomputable def hall_entry_m  (line1 : List UInt8) : Option (List Int) :=
  (loop (hall_entry_L1 line1) (0, 0)).bind (hall_entry_K1 line1)

set_option maxRecDepth 100000 in
set_option maxHeartbeats 4000000 in
theorem hall_entry_w {line1 : List UInt8} {r : (List Int)} {w0 w : World} {B : Nat} {fs : List HP} (hm : hall_entry_m line1 = some r) (hS : Sep w0 B w (fs)) :
    Calls Try.prog 65 #[strV line1] w fun e w' => ∃ v, e = .returned v ∧ ∃ (A3 : Option Addr) (c3 : Nat), v = .slice A3 r.length c3 ∧ Sep w0 B w' (own 5 (.slice A3 r.length c3) ((List.map (Value.int .u8) r)) :: fs) := by
  obtain ⟨i5, hi5, hz5, hs5, hb5⟩ := info_parts Info5
  unfold hall_entry_m at hm
  replace hm := start_b hm
  refine enter (l := [strV line1]) (n := 41) Try.func65 rfl rfl (by simp) (fun a hF => ?_)
  refine reg [] [] [0] [pl 0 (strV line1)] hF hS Fol (by kernel_rfl) (by kernel_rfl) (by kernel_rfl) ?_ (fun a w hF hS => ?_)
  · exact obs_nil
  refine reg [⟨true, [], vS (Builtin.len_ #[9] 3 #[strV line1]), .int .i64 (line1.length : Int)⟩] [none, some (.int .i64 (line1.length : Int)), none] [0, 3] [pl 0 (strV line1), pl 3 (.int .i64 (line1.length : Int))] hF hS Fol (by kernel_rfl) (by kernel_rfl) (by kernel_rfl) ?_ (fun a w hF hS => ?_)
  · exact obs_cons (ob_slen (s := line1) (by kernel_rfl) 3) <| obs_nil
  refine reg [] [] [0, 3, 4] [pl 0 (strV line1), pl 3 (.int .i64 (line1.length : Int)), pl 4 (.int .i64 0)] hF hS Fol (by kernel_rfl) (by kernel_rfl) (by kernel_rfl) ?_ (fun a w hF hS => ?_)
  · exact obs_nil
  refine seq_cut (fun a w => ∃ (sum2 : Int), Fr 41 [pl 0 (strV line1), pl 3 (.int .i64 (line1.length : Int)), pl 4 (.int .i64 sum2)] a ∧ Sep w0 B w (fs) ∧ ((hall_entry_J1 line1) sum2).bind some = some r) ?_ ?_
  · rintro a w ⟨sum2, hF, hS, hm⟩
    unfold hall_entry_J1 at hm
    refine reg [] [] [0, 3, 4] [pl 0 (strV line1), pl 3 (.int .i64 (line1.length : Int)), pl 4 (.int .i64 (Int.tmod sum2 65521))] hF hS Fol (by kernel_rfl) (by kernel_rfl) (by kernel_rfl) ?_ (fun a w hF hS => ?_)
    · exact obs_nil
    refine seqR ?_
    obtain ⟨hp2, hm⟩ := asrt_b hm
    refine at_run 5 [] [] [0, 4, 26, 29] [pl 0 (strV line1), pl 4 (.int .i64 (Int.tmod sum2 65521)), pl 26 (.int .u8 (IntKind.wrap .u8 (line1.length : Int))), pl 29 (.int .u8 (IntKind.wrap .u8 (w64 (255 - (line1.length : Int)))))] hF hS (by kernel_rfl) (by kernel_rfl) ?_ (fun a w hF hS => ?_)
    · exact obs_nil
    refine at_do (d := 30) (s := vS (Instr.buildSlice 23 2 #[(0, .int .u8 (IntKind.wrap .u8 (line1.length : Int))), (1, .int .u8 (IntKind.wrap .u8 (w64 (255 - (line1.length : Int)))))])) (v := .slice (some ⟨w.heap.size, 0, none⟩) 2 2) (w' := w.alloc (.cells #[.int .u8 (IntKind.wrap .u8 (line1.length : Int)), .int .u8 (IntKind.wrap .u8 (w64 (255 - (line1.length : Int))))] 5)) hF (by kernel_rfl) (by kernel_rfl) (by kernel_rfl) (fun a hF => ?_)
    have hS : Sep w0 B (w.alloc (.cells #[.int .u8 (IntKind.wrap .u8 (line1.length : Int)), .int .u8 (IntKind.wrap .u8 (w64 (255 - (line1.length : Int))))] 5)) (own 5 (.slice (some (⟨w.heap.size, 0, none⟩ : Addr)) 2 2) ((List.map (Value.int .u8) ([IntKind.wrap .u8 (line1.length : Int), IntKind.wrap .u8 (w64 (255 - (line1.length : Int)))] : List Int))) :: (fs)) := hS.lit 5 #[.int .u8 (IntKind.wrap .u8 (line1.length : Int)), .int .u8 (IntKind.wrap .u8 (w64 (255 - (line1.length : Int))))] 2 rfl (by omega)
    generalize (some (⟨w.heap.size, 0, none⟩ : Addr)) = g1 at hF hS
    generalize w.alloc (.cells #[.int .u8 (IntKind.wrap .u8 (line1.length : Int)), .int .u8 (IntKind.wrap .u8 (w64 (255 - (line1.length : Int))))] 5) = w at hS ⊢
    refine at_run 1 [] [] [4, 30, 31] [pl 4 (.int .i64 (Int.tmod sum2 65521)), pl 30 (.slice g1 2 2), pl 31 (strV line1)] hF hS (by kernel_rfl) (by kernel_rfl) ?_ (fun a w hF hS => ?_)
    · exact obs_nil
    obtain ⟨A1, c1, w, hrun, hS⟩ := run_appStr (P := Try.prog) (t := 23) (u := 9) (m := ([IntKind.wrap .u8 (line1.length : Int), IntKind.wrap .u8 (w64 (255 - (line1.length : Int)))] : List Int)) (s := line1) (hS.at_ 0 rfl) 23 Und23 (by kernel_rfl) hi5 hz5 hs5 hb5 hp2
    have hS : Sep w0 B w (own 5 (.slice A1 ((([IntKind.wrap .u8 (line1.length : Int), IntKind.wrap .u8 (w64 (255 - (line1.length : Int)))] : List Int) ++ (i8 line1)).length) c1) ((List.map (Value.int .u8) (([IntKind.wrap .u8 (line1.length : Int), IntKind.wrap .u8 (w64 (255 - (line1.length : Int)))] : List Int) ++ (i8 line1)))) :: fs) := hS
    refine at_do (d := 32) hF (by kernel_rfl) (by kernel_rfl) hrun (fun a hF => ?_)
    refine at_run 1 [] [] [4, 6] [pl 4 (.int .i64 (Int.tmod sum2 65521)), pl 6 (.slice A1 ((([IntKind.wrap .u8 (line1.length : Int), IntKind.wrap .u8 (w64 (255 - (line1.length : Int)))] : List Int) ++ (i8 line1)).length) c1)] hF hS (by kernel_rfl) (by kernel_rfl) ?_ (fun a w hF hS => ?_)
    · exact obs_nil
    refine at_end [4, 6] [pl 4 (.int .i64 (Int.tmod sum2 65521)), pl 6 (.slice A1 ((([IntKind.wrap .u8 (line1.length : Int), IntKind.wrap .u8 (w64 (255 - (line1.length : Int)))] : List Int) ++ (i8 line1)).length) c1)] hF rfl (by kernel_rfl) (fun hF => ?_)
    refine then_n ?_
    refine seqR ?_
    obtain ⟨hp3, hm⟩ := asrt_b hm
    refine at_run 6 [⟨true, [], vS (Op.shift .shr .i64 (Int.tmod sum2 65521) .u64 8), .int .i64 (shrK .i64 (Int.tmod sum2 65521) 8)⟩] [none, none, some (.int .i64 (shrK .i64 (Int.tmod sum2 65521) 8)), none, none, none] [33, 36, 38] [pl 33 (.slice A1 ((([IntKind.wrap .u8 (line1.length : Int), IntKind.wrap .u8 (w64 (255 - (line1.length : Int)))] : List Int) ++ (i8 line1)).length) c1), pl 36 (.int .u8 (IntKind.wrap .u8 (shrK .i64 (Int.tmod sum2 65521) 8))), pl 38 (.int .u8 (IntKind.wrap .u8 (Int.tmod sum2 65521)))] hF hS (by kernel_rfl) (by kernel_rfl) ?_ (fun a w hF hS => ?_)
    · exact obs_cons (ob_shr (fun _ => by decide)) <| obs_nil
    refine at_do (d := 39) (s := vS (Instr.buildSlice 23 2 #[(0, .int .u8 (IntKind.wrap .u8 (shrK .i64 (Int.tmod sum2 65521) 8))), (1, .int .u8 (IntKind.wrap .u8 (Int.tmod sum2 65521)))])) (v := .slice (some ⟨w.heap.size, 0, none⟩) 2 2) (w' := w.alloc (.cells #[.int .u8 (IntKind.wrap .u8 (shrK .i64 (Int.tmod sum2 65521) 8)), .int .u8 (IntKind.wrap .u8 (Int.tmod sum2 65521))] 5)) hF (by kernel_rfl) (by kernel_rfl) (by kernel_rfl) (fun a hF => ?_)
    have hS : Sep w0 B (w.alloc (.cells #[.int .u8 (IntKind.wrap .u8 (shrK .i64 (Int.tmod sum2 65521) 8)), .int .u8 (IntKind.wrap .u8 (Int.tmod sum2 65521))] 5)) (own 5 (.slice (some (⟨w.heap.size, 0, none⟩ : Addr)) 2 2) ((List.map (Value.int .u8) ([IntKind.wrap .u8 (shrK .i64 (Int.tmod sum2 65521) 8), IntKind.wrap .u8 (Int.tmod sum2 65521)] : List Int))) :: (own 5 (.slice A1 ((([IntKind.wrap .u8 (line1.length : Int), IntKind.wrap .u8 (w64 (255 - (line1.length : Int)))] : List Int) ++ (i8 line1)).length) c1) ((List.map (Value.int .u8) (([IntKind.wrap .u8 (line1.length : Int), IntKind.wrap .u8 (w64 (255 - (line1.length : Int)))] : List Int) ++ (i8 line1)))) :: fs)) := hS.lit 5 #[.int .u8 (IntKind.wrap .u8 (shrK .i64 (Int.tmod sum2 65521) 8)), .int .u8 (IntKind.wrap .u8 (Int.tmod sum2 65521))] 2 rfl (by omega)
    generalize (some (⟨w.heap.size, 0, none⟩ : Addr)) = g2 at hF hS
    generalize w.alloc (.cells #[.int .u8 (IntKind.wrap .u8 (shrK .i64 (Int.tmod sum2 65521) 8)), .int .u8 (IntKind.wrap .u8 (Int.tmod sum2 65521))] 5) = w at hS ⊢
    obtain ⟨A2, c2, w, hrun, hS⟩ := run_appG (P := Try.prog) (t := 23) (m := (([IntKind.wrap .u8 (line1.length : Int), IntKind.wrap .u8 (w64 (255 - (line1.length : Int)))] : List Int) ++ (i8 line1))) (ys := ([IntKind.wrap .u8 (shrK .i64 (Int.tmod sum2 65521) 8), IntKind.wrap .u8 (Int.tmod sum2 65521)] : List Int)) (A2 := g2) (m2 := 2) (c2 := 2) (Value.int .u8) (0 : Int) 140737488355328 (hS.at_ 1 rfl) (hS.at_ 0 rfl).rd ((hS.at_ 0 rfl).len1) 23 Und23 hi5 hz5 hs5 (by rw [hb5]; decide) (by decide) rfl (fun _ => rfl) hp3
    have hS : Sep w0 B w (own 5 (.slice g2 2 2) ((List.map (Value.int .u8) ([IntKind.wrap .u8 (shrK .i64 (Int.tmod sum2 65521) 8), IntKind.wrap .u8 (Int.tmod sum2 65521)] : List Int))) :: own 5 (.slice A2 (((([IntKind.wrap .u8 (line1.length : Int), IntKind.wrap .u8 (w64 (255 - (line1.length : Int)))] : List Int) ++ (i8 line1)) ++ ([IntKind.wrap .u8 (shrK .i64 (Int.tmod sum2 65521) 8), IntKind.wrap .u8 (Int.tmod sum2 65521)] : List Int)).length) c2) ((List.map (Value.int .u8) ((([IntKind.wrap .u8 (line1.length : Int), IntKind.wrap .u8 (w64 (255 - (line1.length : Int)))] : List Int) ++ (i8 line1)) ++ ([IntKind.wrap .u8 (shrK .i64 (Int.tmod sum2 65521) 8), IntKind.wrap .u8 (Int.tmod sum2 65521)] : List Int)))) :: fs) := hS
    refine at_do (d := 40) hF (by kernel_rfl) (by kernel_rfl) hrun (fun a hF => ?_)
    refine at_run 1 [] [] [2] [pl 2 (.slice A2 (((([IntKind.wrap .u8 (line1.length : Int), IntKind.wrap .u8 (w64 (255 - (line1.length : Int)))] : List Int) ++ (i8 line1)) ++ ([IntKind.wrap .u8 (shrK .i64 (Int.tmod sum2 65521) 8), IntKind.wrap .u8 (Int.tmod sum2 65521)] : List Int)).length) c2)] hF hS (by kernel_rfl) (by kernel_rfl) ?_ (fun a w hF hS => ?_)
    · exact obs_nil
    refine at_end [2] [pl 2 (.slice A2 (((([IntKind.wrap .u8 (line1.length : Int), IntKind.wrap .u8 (w64 (255 - (line1.length : Int)))] : List Int) ++ (i8 line1)) ++ ([IntKind.wrap .u8 (shrK .i64 (Int.tmod sum2 65521) 8), IntKind.wrap .u8 (Int.tmod sum2 65521)] : List Int)).length) c2)] hF rfl (by kernel_rfl) (fun hF => ?_)
    refine then_n ?_
    refine wpIn_ret ?_
    have hS := hS.pickN 2 [1] (by decide)
    have hm : some ((([IntKind.wrap .u8 (line1.length : Int), IntKind.wrap .u8 (w64 (255 - (line1.length : Int)))] : List Int) ++ (i8 line1)) ++ ([IntKind.wrap .u8 (shrK .i64 (Int.tmod sum2 65521) 8), IntKind.wrap .u8 (Int.tmod sum2 65521)] : List Int)) = some r := hm
    obtain rfl := Option.some.inj hm
    exact retV (rs := [.tmp 2]) (vs := [.slice A2 (((([IntKind.wrap .u8 (line1.length : Int), IntKind.wrap .u8 (w64 (255 - (line1.length : Int)))] : List Int) ++ (i8 line1)) ++ ([IntKind.wrap .u8 (shrK .i64 (Int.tmod sum2 65521) 8), IntKind.wrap .u8 (Int.tmod sum2 65521)] : List Int)).length) c2]) hF rfl (rv_t (by kernel_rfl) <| rv_nil) rfl ⟨_, rfl, A2, c2, rfl, hS⟩
  · refine reg [] [] [0, 3, 4, 9, 10] [pl 0 (strV line1), pl 3 (.int .i64 (line1.length : Int)), pl 4 (.int .i64 0), pl 9 (.int .i64 (line1.length : Int)), pl 10 (.int .i64 0)] hF hS Fol (by kernel_rfl) (by kernel_rfl) (by kernel_rfl) ?_ (fun a w hF hS => ?_)
    · exact obs_nil
    refine wpIn_block ?_
    refine wp_loop_model (S := (Int × Int)) (R := Int) (hall_entry_L1 line1) (fun x => ((hall_entry_K1 line1) x).bind some) r (fun (x : (Int × Int)) a w => Fr 41 [pl 0 (strV line1), pl 3 (.int .i64 (line1.length : Int)), pl 4 (.int .i64 x.1), pl 9 (.int .i64 (line1.length : Int)), pl 10 (.int .i64 x.2)] a ∧ Sep w0 B w (fs)) (assoc_b hm) ⟨hF.weak [0, 3, 4, 9, 10] (by kernel_rfl), hS⟩ ?_
    clear hF hS hm
    rintro nn1 ⟨sum1, z1⟩ a w ⟨hF, hS⟩ hm
    generalize hφ1 : stK (hall_entry_L1 line1) nn1 (fun x => ((hall_entry_K1 line1) x).bind some) = φ1 at hm
    unfold hall_entry_L1 at hm
    dsimp only at hF hS hm
    refine reg [] [] [0, 3, 4, 9, 10, 11] [pl 0 (strV line1), pl 3 (.int .i64 (line1.length : Int)), pl 4 (.int .i64 sum1), pl 9 (.int .i64 (line1.length : Int)), pl 10 (.int .i64 z1), pl 11 (.bool (decide (z1 < (line1.length : Int))))] hF hS Fol (by kernel_rfl) (by kernel_rfl) (by kernel_rfl) ?_ (fun a w hF hS => ?_)
    · exact obs_nil
    refine seq_cut (fun a w => Fr 41 [pl 0 (strV line1), pl 3 (.int .i64 (line1.length : Int)), pl 4 (.int .i64 sum1), pl 9 (.int .i64 (line1.length : Int)), pl 10 (.int .i64 z1)] a ∧ Sep w0 B w (fs) ∧ ((hall_entry_J2 line1 sum1 z1)).bind φ1 = some r) ?_ ?_
    · rintro a w ⟨hF, hS, hm⟩
      unfold hall_entry_J2 at hm
      refine seq_cut (fun a w => Fr 41 [pl 0 (strV line1), pl 3 (.int .i64 (line1.length : Int)), pl 4 (.int .i64 (w64 (sum1 + (w64 ((w64 (z1 + 1)) * (w64 (getU line1 z1))))))), pl 9 (.int .i64 (line1.length : Int)), pl 10 (.int .i64 z1)] a ∧ Sep w0 B w (fs) ∧ ((hall_entry_J3 line1 sum1 z1)).bind φ1 = some r) ?_ ?_
      · rintro a w ⟨hF, hS, hm⟩
        unfold hall_entry_J3 at hm
        refine reg1 [] [] [0, 3, 4, 9, 10] [pl 0 (strV line1), pl 3 (.int .i64 (line1.length : Int)), pl 4 (.int .i64 (w64 (sum1 + (w64 ((w64 (z1 + 1)) * (w64 (getU line1 z1))))))), pl 9 (.int .i64 (line1.length : Int)), pl 10 (.int .i64 (w64 (z1 + 1)))] hF hS Fol (by kernel_rfl) (by kernel_rfl) (by kernel_rfl) ?_ (fun a w hF hS => ?_)
        · exact obs_nil
        refine then_n ?_
        rw [← hφ1] at hm
        exact ⟨((w64 (sum1 + (w64 ((w64 (z1 + 1)) * (w64 (getU line1 z1)))))), (w64 (z1 + 1))), ⟨hF.weak [0, 3, 4, 9, 10] (by kernel_rfl), hS⟩, hm⟩
      · refine wpIn_block ?_
        refine reg [] [] [0, 3, 4, 5, 9, 10] [pl 0 (strV line1), pl 3 (.int .i64 (line1.length : Int)), pl 4 (.int .i64 sum1), pl 5 (.int .i64 z1), pl 9 (.int .i64 (line1.length : Int)), pl 10 (.int .i64 z1)] hF hS Fol (by kernel_rfl) (by kernel_rfl) (by kernel_rfl) ?_ (fun a w hF hS => ?_)
        · exact obs_nil
        obtain ⟨hp1, hm⟩ := asrt_b hm
        refine reg1 [⟨true, [], vS (Instr.index 9 (strV line1) (.int .i64 z1)), .int .u8 (getU line1 z1)⟩] [none, none, none, none, none, some (.int .u8 (getU line1 z1)), none, none, none, none] [0, 3, 4, 9, 10] [pl 0 (strV line1), pl 3 (.int .i64 (line1.length : Int)), pl 4 (.int .i64 (w64 (sum1 + (w64 ((w64 (z1 + 1)) * (w64 (getU line1 z1))))))), pl 9 (.int .i64 (line1.length : Int)), pl 10 (.int .i64 z1)] hF hS Fol (by kernel_rfl) (by kernel_rfl) (by kernel_rfl) ?_ (fun a w hF hS => ?_)
        · exact obs_cons (ob_sidx (s := line1) (by kernel_rfl) (fun _ => hp1)) <| obs_nil
        refine block_n ?_
        refine then_n ?_
        exact ⟨hF.weak [0, 3, 4, 9, 10] (by kernel_rfl), hS, hm⟩
    · refine cond_ev (t := 11) (b := decide (z1 < (line1.length : Int))) hF (by kernel_rfl) (fun hb => ?_) (fun hb => ?_)
      · replace hm := if_t hm hb
        refine wpIn_skip ?_
        refine then_n ?_
        exact ⟨hF.weak [0, 3, 4, 9, 10] (by kernel_rfl), hS, hm⟩
      · replace hm := if_f hm hb
        refine wpIn_exit ?_
        refine then_e (then_e (block_e (then_n ?_)))
        rw [← hφ1] at hm
        replace hm := done_b hm
        unfold hall_entry_K1 at hm
        try dsimp only at hm
        have hm : ((hall_entry_J1 line1) sum1).bind some = some r := hm
        exact ⟨sum1, hF.weak [0, 3, 4] (by kernel_rfl), hS, hm⟩

noncomputable def hall_Book_J3  (z1 : Int) : Option (St Int (Fl Unit (List Int × Int))) :=
  some (.next (w64 (z1 + 1)))

noncomputable def hall_Book_J2  (lines1 : List (List UInt8)) (z1 : Int) : Option (St Int (Fl Unit (List Int × Int))) :=
  asrt (0 ≤ z1 ∧ z1 < (lines1.length : Int)) <| if (decide ((255 : Int) < ((getd ([] : List UInt8) lines1 z1).length : Int))) then (some (.done (.ret (([] : List Int), 1)))) else ((hall_Book_J3 z1))

noncomputable def hall_Book_J6  (z2 : Int) (b3 : List Int) : Option (St (List Int × Int) (Fl (List Int) (List Int × Int))) :=
  some (.next (b3, (w64 (z2 + 1))))

noncomputable def hall_Book_J5  (lines1 : List (List UInt8)) (b1 : List Int) (z2 : Int) : Option (St (List Int × Int) (Fl (List Int) (List Int × Int))) :=
  asrt (0 ≤ z2 ∧ z2 < (lines1.length : Int)) <| (hall_entry_m (getd ([] : List UInt8) lines1 z2)).bind fun r1 => asrt ((b1.length : Int) + (r1.length : Int) ≤ bigB) <| if (decide ((4000 : Int) < (((b1 ++ r1).length : Nat) : Int))) then (some (.done (.ret (([] : List Int), 2)))) else ((hall_Book_J6 z2) (b1 ++ r1))

noncomputable def hall_Book_L2  (lines1 : List (List UInt8)) : (List Int × Int) → Option (St (List Int × Int) (Fl (List Int) (List Int × Int))) :=
  fun (x : (List Int × Int)) => match x with | (b1, z2) => if (decide (z2 < (lines1.length : Int))) then ((hall_Book_J5 lines1 b1 z2)) else (some (.done (.go b1)))

noncomputable def hall_Book_J4  (b2 : List Int) : Option (List Int × Int) :=
  some (b2, 0)

noncomputable def hall_Book_K2  : (Fl (List Int) (List Int × Int)) → Option (List Int × Int) :=
  fun (x : (Fl (List Int) (List Int × Int))) => match x with | .go b2 => hall_Book_J4 b2 | .ret x => some x

noncomputable def hall_Book_J1  (lines1 : List (List UInt8)) : Option (List Int × Int) :=
  (loop (hall_Book_L2 lines1) (([72, 65, 76, 76] : List Int), 0)).bind hall_Book_K2

noncomputable def hall_Book_K1  (lines1 : List (List UInt8)) : (Fl Unit (List Int × Int)) → Option (List Int × Int) :=
  fun (x : (Fl Unit (List Int × Int))) => match x with | .go _ => (hall_Book_J1 lines1) | .ret x => some x

noncomputable def hall_Book_L1  (lines1 : List (List UInt8)) : Int → Option (St Int (Fl Unit (List Int × Int))) :=
  fun (x : Int) => match x with | z1 => if (decide (z1 < (lines1.length : Int))) then ((hall_Book_J2 lines1 z1)) else (some (.done (.go ())))

noncomputable def hall_Book_m  (lines1 : List (List UInt8)) : Option (List Int × Int) :=
  (loop (hall_Book_L1 lines1) 0).bind (hall_Book_K1 lines1)

set_option maxRecDepth 100000 in
set_option maxHeartbeats 4000000 in
theorem hall_Book_w {A1 : Option Addr} {c1 : Nat} {n1 : Nat} {lines1 : List (List UInt8)} {r : (List Int × Int)} {w0 w : World} {B : Nat} {fs : List HP} (hm : hall_Book_m lines1 = some r) (hS : Sep w0 B w (fs)) (hr_lines1 : RdF w0 B fs A1 ((List.map strV lines1))) (_hc_lines1 : lines1.length ≤ c1) (_hn_lines1 : n1 = lines1.length) :
    Calls Try.prog 12 #[.slice A1 n1 c1] w fun e w' => ∃ v, e = .returned v ∧ ∃ (A7 : Option Addr) (c7 : Nat), v = .tuple #[.slice A7 r.1.length c7, .int .i64 r.2] ∧ Sep w0 B w' (view (.slice A7 r.1.length c7) (List.map (Value.int .u8) r.1) :: fs) := by
  obtain ⟨i5, hi5, hz5, hs5, hb5⟩ := info_parts Info5
  obtain ⟨i9, hi9, hz9, hs9, hb9⟩ := info_parts Info9
  obtain rfl := _hn_lines1
  unfold hall_Book_m at hm
  replace hm := start_b hm
  refine enter (l := [.slice A1 lines1.length c1]) (n := 36) Try.func12 rfl rfl (by simp) (fun a hF => ?_)
  refine reg [] [] [0] [pl 0 (.slice A1 lines1.length c1)] hF hS Fol (by kernel_rfl) (by kernel_rfl) (by kernel_rfl) ?_ (fun a w hF hS => ?_)
  · exact obs_nil
  refine seq_cut (fun a w => Fr 36 [pl 0 (.slice A1 lines1.length c1)] a ∧ Sep w0 B w (fs) ∧ ((hall_Book_J1 lines1)).bind some = some r) ?_ ?_
  · rintro a w ⟨hF, hS, hm⟩
    unfold hall_Book_J1 at hm
    refine seqR ?_
    refine at_do (d := 19) (s := vS (Instr.buildSlice 23 4 #[(0, .int .u8 72), (1, .int .u8 65), (2, .int .u8 76), (3, .int .u8 76)])) (v := .slice (some ⟨w.heap.size, 0, none⟩) 4 4) (w' := w.alloc (.cells #[.int .u8 72, .int .u8 65, .int .u8 76, .int .u8 76] 5)) hF (by kernel_rfl) (by kernel_rfl) (by kernel_rfl) (fun a hF => ?_)
    have hS : Sep w0 B (w.alloc (.cells #[.int .u8 72, .int .u8 65, .int .u8 76, .int .u8 76] 5)) (own 5 (.slice (some (⟨w.heap.size, 0, none⟩ : Addr)) 4 4) ((List.map (Value.int .u8) ([72, 65, 76, 76] : List Int))) :: (fs)) := hS.lit 5 #[.int .u8 72, .int .u8 65, .int .u8 76, .int .u8 76] 4 rfl (by omega)
    generalize (some (⟨w.heap.size, 0, none⟩ : Addr)) = g1 at hF hS
    generalize w.alloc (.cells #[.int .u8 72, .int .u8 65, .int .u8 76, .int .u8 76] 5) = w at hS ⊢
    obtain ⟨w, hrun, hS⟩ := run_markS (P := Try.prog) (t := 23) (e := 5) (m := ([72, 65, 76, 76] : List Int)) (hS.at_ 0 rfl) (by kernel_rfl) (by kernel_rfl) (by decide) (by decide)
    have hS : Sep w0 B w (ownS 5 g1 4 4 ((List.map (Value.int .u8) ([72, 65, 76, 76] : List Int))) :: fs) := hS
    refine at_do (d := 20) hF (by kernel_rfl) (by kernel_rfl) hrun (fun a hF => ?_)
    refine at_run 1 [] [] [0, 6] [pl 0 (.slice A1 lines1.length c1), pl 6 (.slice g1 4 4)] hF hS (by kernel_rfl) (by kernel_rfl) ?_ (fun a w hF hS => ?_)
    · exact obs_nil
    refine at_end [0, 6] [pl 0 (.slice A1 lines1.length c1), pl 6 (.slice g1 4 4)] hF rfl (by kernel_rfl) (fun hF => ?_)
    refine then_n ?_
    refine seq_cut (fun a w => ∃ (b2 : List Int) (A3 : Option Addr) (c3 : Nat), Fr 36 [pl 6 (.slice A3 b2.length c3)] a ∧ Sep w0 B w (ownS 5 A3 b2.length c3 ((List.map (Value.int .u8) b2)) :: fs) ∧ (hall_Book_J4 b2).bind some = some r) ?_ ?_
    · rintro a w ⟨b2, A3, c3, hF, hS, hm⟩
      unfold hall_Book_J4 at hm
      refine reg [] [] [2, 3] [pl 2 (.slice A3 b2.length c3), pl 3 (.int .i64 0)] hF hS Fol (by kernel_rfl) (by kernel_rfl) (by kernel_rfl) ?_ (fun a w hF hS => ?_)
      · exact obs_nil
      refine wpIn_ret ?_
      have hS : Sep w0 B w (view (.slice A3 b2.length c3) (List.map (Value.int .u8) b2) :: fs) := (hS.at_ 0 rfl).asViewS
      have hm : some (b2, 0) = some r := hm
      obtain rfl := Option.some.inj hm
      exact retV (rs := [.tmp 2, .tmp 3]) (vs := [.slice A3 b2.length c3, .int .i64 0]) hF rfl (rv_t (by kernel_rfl) <| rv_t (by kernel_rfl) <| rv_nil) rfl ⟨_, rfl, A3, c3, rfl, hS⟩
    · refine reg [] [] [6, 21, 22, 23] [pl 6 (.slice g1 4 4), pl 21 (.slice A1 lines1.length c1), pl 22 (.int .i64 (lines1.length : Int)), pl 23 (.int .i64 0)] hF hS Fol (by kernel_rfl) (by kernel_rfl) (by kernel_rfl) ?_ (fun a w hF hS => ?_)
      · exact obs_nil
      refine wpIn_block ?_
      have hl2 := (hS.at_ 0 rfl).lenS
      have hS := (hS.at_ 0 rfl).reNS hl2
      have hS : Sep w0 B w (ownS 5 g1 (([72, 65, 76, 76] : List Int).length) 4 ((List.map (Value.int .u8) ([72, 65, 76, 76] : List Int))) :: fs) := hS
      have hF := hF.cast (t := 6) (v := .slice g1 4 4) (v' := .slice g1 (([72, 65, 76, 76] : List Int).length) 4) rfl rfl (congrArg (fun k => Value.slice g1 k 4) hl2)
      refine wp_loop_model (S := (List Int × Int)) (R := (Fl (List Int) (List Int × Int))) (hall_Book_L2 lines1) (fun x => (hall_Book_K2 x).bind some) r (fun (x : (List Int × Int)) a w => ∃ (A2 : Option Addr) (c2 : Nat), Fr 36 [pl 6 (.slice A2 x.1.length c2), pl 21 (.slice A1 lines1.length c1), pl 22 (.int .i64 (lines1.length : Int)), pl 23 (.int .i64 x.2)] a ∧ Sep w0 B w (ownS 5 A2 x.1.length c2 ((List.map (Value.int .u8) x.1)) :: fs)) (assoc_b hm) ⟨g1, 4, hF.weak [6, 21, 22, 23] (by kernel_rfl), hS⟩ ?_
      clear hF hS hm
      rintro nn2 ⟨b1, z2⟩ a w ⟨A2, c2, hF, hS⟩ hm
      generalize hφ2 : stK (hall_Book_L2 lines1) nn2 (fun x => (hall_Book_K2 x).bind some) = φ2 at hm
      unfold hall_Book_L2 at hm
      dsimp only at hF hS hm
      refine reg [] [] [6, 21, 22, 23, 24] [pl 6 (.slice A2 b1.length c2), pl 21 (.slice A1 lines1.length c1), pl 22 (.int .i64 (lines1.length : Int)), pl 23 (.int .i64 z2), pl 24 (.bool (decide (z2 < (lines1.length : Int))))] hF hS Fol (by kernel_rfl) (by kernel_rfl) (by kernel_rfl) ?_ (fun a w hF hS => ?_)
      · exact obs_nil
      refine seq_cut (fun a w => Fr 36 [pl 6 (.slice A2 b1.length c2), pl 21 (.slice A1 lines1.length c1), pl 22 (.int .i64 (lines1.length : Int)), pl 23 (.int .i64 z2)] a ∧ Sep w0 B w (ownS 5 A2 b1.length c2 ((List.map (Value.int .u8) b1)) :: fs) ∧ ((hall_Book_J5 lines1 b1 z2)).bind φ2 = some r) ?_ ?_
      · rintro a w ⟨hF, hS, hm⟩
        unfold hall_Book_J5 at hm
        refine seq_cut (fun a w => ∃ (b3 : List Int) (A6 : Option Addr) (c6 : Nat), Fr 36 [pl 6 (.slice A6 b3.length c6), pl 21 (.slice A1 lines1.length c1), pl 22 (.int .i64 (lines1.length : Int)), pl 23 (.int .i64 z2)] a ∧ Sep w0 B w (ownS 5 A6 b3.length c6 ((List.map (Value.int .u8) b3)) :: fs) ∧ ((hall_Book_J6 z2) b3).bind φ2 = some r) ?_ ?_
        · rintro a w ⟨b3, A6, c6, hF, hS, hm⟩
          unfold hall_Book_J6 at hm
          refine reg1 [] [] [6, 21, 22, 23] [pl 6 (.slice A6 b3.length c6), pl 21 (.slice A1 lines1.length c1), pl 22 (.int .i64 (lines1.length : Int)), pl 23 (.int .i64 (w64 (z2 + 1)))] hF hS Fol (by kernel_rfl) (by kernel_rfl) (by kernel_rfl) ?_ (fun a w hF hS => ?_)
          · exact obs_nil
          refine then_n ?_
          rw [← hφ2] at hm
          exact ⟨(b3, (w64 (z2 + 1))), ⟨A6, c6, hF.weak [6, 21, 22, 23] (by kernel_rfl), hS⟩, hm⟩
        · refine wpIn_block ?_
          obtain ⟨hp2, hm⟩ := asrt_b hm
          refine reg [⟨true, [], vS (Instr.indexAt 22 (.slice A1 lines1.length c1) (.int .i64 z2)), .pointer (some (sAddr A1 z2))⟩, ⟨false, [], vS (Instr.loadAt 9 (.pointer (some (sAddr A1 z2)))), strV (getd ([] : List UInt8) lines1 z2)⟩] [some (.pointer (some (sAddr A1 z2))), some (strV (getd ([] : List UInt8) lines1 z2)), none] [6, 8, 21, 22, 23] [pl 6 (.slice A2 b1.length c2), pl 8 (strV (getd ([] : List UInt8) lines1 z2)), pl 21 (.slice A1 lines1.length c1), pl 22 (.int .i64 (lines1.length : Int)), pl 23 (.int .i64 z2)] hF hS Fol (by kernel_rfl) (by kernel_rfl) (by kernel_rfl) ?_ (fun a w hF hS => ?_)
          · exact obs_cons (ob_ix1 (f := strV) (m := lines1) Und22 hi9 hs9 (hr_lines1 _ (hS.dropN 1)) rfl (fun _ => hp2)) <| obs_cons (ob_get1 (n := lines1.length) (m := lines1) strV ([] : List UInt8) Agg9 (fun _ hS => ⟨_, (hr_lines1 _ (hS.dropN 1))⟩) (fun _ hS => rfl) (fun _ => hp2)) <| obs_nil
          refine seqR ?_
          obtain ⟨r1, hr1, hm⟩ := call_b hm
          obtain ⟨hp3, hm⟩ := asrt_b hm
          refine at_run 2 [] [] [21, 22, 23, 27, 28] [pl 21 (.slice A1 lines1.length c1), pl 22 (.int .i64 (lines1.length : Int)), pl 23 (.int .i64 z2), pl 27 (.slice A2 b1.length c2), pl 28 (strV (getd ([] : List UInt8) lines1 z2))] hF hS (by kernel_rfl) (by kernel_rfl) ?_ (fun a w hF hS => ?_)
          · exact obs_nil
          refine at_call (f := 65) (args := #[strV (getd ([] : List UInt8) lines1 z2)]) (d := 29) hF (by kernel_rfl) (by kernel_rfl) Try.func65 (by kernel_rfl) rfl (hall_entry_w hr1 hS ) (fun v a w hR hF => ?_)
          clear hS
          obtain ⟨A4, c4, rfl, hS⟩ := hR
          have hS : Sep w0 B w (own 5 (.slice A4 r1.length c4) ((List.map (Value.int .u8) r1)) :: ownS 5 A2 b1.length c2 ((List.map (Value.int .u8) b1)) :: fs) := hS
          obtain ⟨A5, c5, w, hrun, hS⟩ := run_appS (P := Try.prog) (t := 23) (m := b1) (ys := r1) (A2 := A4) (m2 := r1.length) (c2 := c4) (Value.int .u8) (0 : Int) 140737488355328 (hS.at_ 1 rfl) (hS.at_ 0 rfl).rd rfl 23 Und23 hi5 hz5 hs5 (by rw [hb5]; decide) (by decide) rfl (fun _ => rfl) hp3
          have hS : Sep w0 B w (own 5 (.slice A4 r1.length c4) ((List.map (Value.int .u8) r1)) :: ownS 5 A5 ((b1 ++ r1).length) c5 ((List.map (Value.int .u8) (b1 ++ r1))) :: fs) := hS
          refine at_do (d := 30) hF (by kernel_rfl) (by kernel_rfl) hrun (fun a hF => ?_)
          refine at_run 1 [] [] [6, 21, 22, 23] [pl 6 (.slice A5 ((b1 ++ r1).length) c5), pl 21 (.slice A1 lines1.length c1), pl 22 (.int .i64 (lines1.length : Int)), pl 23 (.int .i64 z2)] hF hS (by kernel_rfl) (by kernel_rfl) ?_ (fun a w hF hS => ?_)
          · exact obs_nil
          refine at_end [6, 21, 22, 23] [pl 6 (.slice A5 ((b1 ++ r1).length) c5), pl 21 (.slice A1 lines1.length c1), pl 22 (.int .i64 (lines1.length : Int)), pl 23 (.int .i64 z2)] hF rfl (by kernel_rfl) (fun hF => ?_)
          refine then_n ?_
          refine reg [] [] [6, 21, 22, 23, 33] [pl 6 (.slice A5 ((b1 ++ r1).length) c5), pl 21 (.slice A1 lines1.length c1), pl 22 (.int .i64 (lines1.length : Int)), pl 23 (.int .i64 z2), pl 33 (.bool (decide ((4000 : Int) < (((b1 ++ r1).length : Nat) : Int))))] hF hS Fol (by kernel_rfl) (by kernel_rfl) (by kernel_rfl) ?_ (fun a w hF hS => ?_)
          · exact obs_nil
          refine cond_ev (t := 33) (b := decide ((4000 : Int) < (((b1 ++ r1).length : Nat) : Int))) hF (by kernel_rfl) (fun hb => ?_) (fun hb => ?_)
          · replace hm := if_t hm hb
            refine reg [] [] [2, 3] [pl 2 (.slice none 0 0), pl 3 (.int .i64 2)] hF hS Fol (by kernel_rfl) (by kernel_rfl) (by kernel_rfl) ?_ (fun a w hF hS => ?_)
            · exact obs_nil
            refine wpIn_ret ?_
            refine block_r (then_r (then_r (block_r (then_r ?_))))
            rw [← hφ2] at hm
            replace hm := done_b hm
            unfold hall_Book_K2 at hm
            try dsimp only at hm
            have hS : Sep w0 B w (own 5 (.slice none 0 0) ((List.map (Value.int .u8) ([] : List Int))) :: own 5 (.slice A4 r1.length c4) ((List.map (Value.int .u8) r1)) :: ownS 5 A5 ((b1 ++ r1).length) c5 ((List.map (Value.int .u8) (b1 ++ r1))) :: fs) := hS.nil 5
            have hl3 := (hS.at_ 0 rfl).len1
            have hS := (hS.at_ 0 rfl).reN hl3
            have hS : Sep w0 B w (own 5 (.slice none (([] : List Int).length) 0) ((List.map (Value.int .u8) ([] : List Int))) :: own 5 (.slice A4 r1.length c4) ((List.map (Value.int .u8) r1)) :: ownS 5 A5 ((b1 ++ r1).length) c5 ((List.map (Value.int .u8) (b1 ++ r1))) :: fs) := hS
            have hS : Sep w0 B w (view (.slice none (([] : List Int).length) 0) (List.map (Value.int .u8) ([] : List Int)) :: own 5 (.slice A4 r1.length c4) ((List.map (Value.int .u8) r1)) :: ownS 5 A5 ((b1 ++ r1).length) c5 ((List.map (Value.int .u8) (b1 ++ r1))) :: fs) := (hS.at_ 0 rfl).asView
            have hS := hS.pickN 3 [0] (by decide)
            have hm : some (([] : List Int), 2) = some r := hm
            obtain rfl := Option.some.inj hm
            exact retV (rs := [.tmp 2, .tmp 3]) (vs := [.slice none (([] : List Int).length) 0, .int .i64 2]) hF rfl (rv_t (by kernel_rfl) <| rv_t (by kernel_rfl) <| rv_nil) rfl ⟨_, rfl, none, 0, rfl, hS⟩
          · replace hm := if_f hm hb
            refine wpIn_skip ?_
            refine block_n ?_
            refine then_n ?_
            have hS := hS.pickN 2 [1] (by decide)
            exact ⟨(b1 ++ r1), A5, c5, hF.weak [6, 21, 22, 23] (by kernel_rfl), hS, hm⟩
      · refine cond_ev (t := 24) (b := decide (z2 < (lines1.length : Int))) hF (by kernel_rfl) (fun hb => ?_) (fun hb => ?_)
        · replace hm := if_t hm hb
          refine wpIn_skip ?_
          refine then_n ?_
          exact ⟨hF.weak [6, 21, 22, 23] (by kernel_rfl), hS, hm⟩
        · replace hm := if_f hm hb
          refine wpIn_exit ?_
          refine then_e (then_e (block_e (then_n ?_)))
          rw [← hφ2] at hm
          replace hm := done_b hm
          unfold hall_Book_K2 at hm
          try dsimp only at hm
          have hm : (hall_Book_J4 b1).bind some = some r := hm
          exact ⟨b1, A2, c2, hF.weak [6] (by kernel_rfl), hS, hm⟩
  · refine reg [] [] [0, 9, 10, 11] [pl 0 (.slice A1 lines1.length c1), pl 9 (.slice A1 lines1.length c1), pl 10 (.int .i64 (lines1.length : Int)), pl 11 (.int .i64 0)] hF hS Fol (by kernel_rfl) (by kernel_rfl) (by kernel_rfl) ?_ (fun a w hF hS => ?_)
    · exact obs_nil
    refine wpIn_block ?_
    refine wp_loop_model (S := Int) (R := (Fl Unit (List Int × Int))) (hall_Book_L1 lines1) (fun x => ((hall_Book_K1 lines1) x).bind some) r (fun (x : Int) a w => Fr 36 [pl 0 (.slice A1 lines1.length c1), pl 9 (.slice A1 lines1.length c1), pl 10 (.int .i64 (lines1.length : Int)), pl 11 (.int .i64 x)] a ∧ Sep w0 B w (fs)) (assoc_b hm) ⟨hF.weak [0, 9, 10, 11] (by kernel_rfl), hS⟩ ?_
    clear hF hS hm
    rintro nn1 z1 a w ⟨hF, hS⟩ hm
    generalize hφ1 : stK (hall_Book_L1 lines1) nn1 (fun x => ((hall_Book_K1 lines1) x).bind some) = φ1 at hm
    unfold hall_Book_L1 at hm
    dsimp only at hm
    refine reg [] [] [0, 9, 10, 11, 12] [pl 0 (.slice A1 lines1.length c1), pl 9 (.slice A1 lines1.length c1), pl 10 (.int .i64 (lines1.length : Int)), pl 11 (.int .i64 z1), pl 12 (.bool (decide (z1 < (lines1.length : Int))))] hF hS Fol (by kernel_rfl) (by kernel_rfl) (by kernel_rfl) ?_ (fun a w hF hS => ?_)
    · exact obs_nil
    refine seq_cut (fun a w => Fr 36 [pl 0 (.slice A1 lines1.length c1), pl 9 (.slice A1 lines1.length c1), pl 10 (.int .i64 (lines1.length : Int)), pl 11 (.int .i64 z1)] a ∧ Sep w0 B w (fs) ∧ ((hall_Book_J2 lines1 z1)).bind φ1 = some r) ?_ ?_
    · rintro a w ⟨hF, hS, hm⟩
      unfold hall_Book_J2 at hm
      refine seq_cut (fun a w => Fr 36 [pl 0 (.slice A1 lines1.length c1), pl 9 (.slice A1 lines1.length c1), pl 10 (.int .i64 (lines1.length : Int)), pl 11 (.int .i64 z1)] a ∧ Sep w0 B w (fs) ∧ ((hall_Book_J3 z1)).bind φ1 = some r) ?_ ?_
      · rintro a w ⟨hF, hS, hm⟩
        unfold hall_Book_J3 at hm
        refine reg1 [] [] [0, 9, 10, 11] [pl 0 (.slice A1 lines1.length c1), pl 9 (.slice A1 lines1.length c1), pl 10 (.int .i64 (lines1.length : Int)), pl 11 (.int .i64 (w64 (z1 + 1)))] hF hS Fol (by kernel_rfl) (by kernel_rfl) (by kernel_rfl) ?_ (fun a w hF hS => ?_)
        · exact obs_nil
        refine then_n ?_
        rw [← hφ1] at hm
        exact ⟨(w64 (z1 + 1)), ⟨hF.weak [0, 9, 10, 11] (by kernel_rfl), hS⟩, hm⟩
      · refine wpIn_block ?_
        obtain ⟨hp1, hm⟩ := asrt_b hm
        refine reg [⟨true, [], vS (Instr.indexAt 22 (.slice A1 lines1.length c1) (.int .i64 z1)), .pointer (some (sAddr A1 z1))⟩, ⟨false, [], vS (Instr.loadAt 9 (.pointer (some (sAddr A1 z1)))), strV (getd ([] : List UInt8) lines1 z1)⟩] [some (.pointer (some (sAddr A1 z1))), some (strV (getd ([] : List UInt8) lines1 z1)), none] [0, 5, 9, 10, 11] [pl 0 (.slice A1 lines1.length c1), pl 5 (strV (getd ([] : List UInt8) lines1 z1)), pl 9 (.slice A1 lines1.length c1), pl 10 (.int .i64 (lines1.length : Int)), pl 11 (.int .i64 z1)] hF hS Fol (by kernel_rfl) (by kernel_rfl) (by kernel_rfl) ?_ (fun a w hF hS => ?_)
        · exact obs_cons (ob_ix1 (f := strV) (m := lines1) Und22 hi9 hs9 (hr_lines1 _ (hS.dropN 0)) rfl (fun _ => hp1)) <| obs_cons (ob_get1 (n := lines1.length) (m := lines1) strV ([] : List UInt8) Agg9 (fun _ hS => ⟨_, (hr_lines1 _ (hS.dropN 0))⟩) (fun _ hS => rfl) (fun _ => hp1)) <| obs_nil
        refine reg [⟨true, [], vS (Builtin.len_ #[9] 3 #[strV (getd ([] : List UInt8) lines1 z1)]), .int .i64 ((getd ([] : List UInt8) lines1 z1).length : Int)⟩] [none, some (.int .i64 ((getd ([] : List UInt8) lines1 z1).length : Int)), none] [0, 9, 10, 11, 17] [pl 0 (.slice A1 lines1.length c1), pl 9 (.slice A1 lines1.length c1), pl 10 (.int .i64 (lines1.length : Int)), pl 11 (.int .i64 z1), pl 17 (.bool (decide ((255 : Int) < ((getd ([] : List UInt8) lines1 z1).length : Int))))] hF hS Fol (by kernel_rfl) (by kernel_rfl) (by kernel_rfl) ?_ (fun a w hF hS => ?_)
        · exact obs_cons (ob_slen (s := getd ([] : List UInt8) lines1 z1) (by kernel_rfl) 3) <| obs_nil
        refine cond_ev (t := 17) (b := decide ((255 : Int) < ((getd ([] : List UInt8) lines1 z1).length : Int))) hF (by kernel_rfl) (fun hb => ?_) (fun hb => ?_)
        · replace hm := if_t hm hb
          refine reg [] [] [2, 3] [pl 2 (.slice none 0 0), pl 3 (.int .i64 1)] hF hS Fol (by kernel_rfl) (by kernel_rfl) (by kernel_rfl) ?_ (fun a w hF hS => ?_)
          · exact obs_nil
          refine wpIn_ret ?_
          refine block_r (then_r (then_r (block_r (then_r ?_))))
          rw [← hφ1] at hm
          replace hm := done_b hm
          unfold hall_Book_K1 at hm
          try dsimp only at hm
          have hS : Sep w0 B w (own 5 (.slice none 0 0) ((List.map (Value.int .u8) ([] : List Int))) :: fs) := hS.nil 5
          have hl1 := (hS.at_ 0 rfl).len1
          have hS := (hS.at_ 0 rfl).reN hl1
          have hS : Sep w0 B w (own 5 (.slice none (([] : List Int).length) 0) ((List.map (Value.int .u8) ([] : List Int))) :: fs) := hS
          have hS : Sep w0 B w (view (.slice none (([] : List Int).length) 0) (List.map (Value.int .u8) ([] : List Int)) :: fs) := (hS.at_ 0 rfl).asView
          have hm : some (([] : List Int), 1) = some r := hm
          obtain rfl := Option.some.inj hm
          exact retV (rs := [.tmp 2, .tmp 3]) (vs := [.slice none (([] : List Int).length) 0, .int .i64 1]) hF rfl (rv_t (by kernel_rfl) <| rv_t (by kernel_rfl) <| rv_nil) rfl ⟨_, rfl, none, 0, rfl, hS⟩
        · replace hm := if_f hm hb
          refine wpIn_skip ?_
          refine block_n ?_
          refine then_n ?_
          exact ⟨hF.weak [0, 9, 10, 11] (by kernel_rfl), hS, hm⟩
    · refine cond_ev (t := 12) (b := decide (z1 < (lines1.length : Int))) hF (by kernel_rfl) (fun hb => ?_) (fun hb => ?_)
      · replace hm := if_t hm hb
        refine wpIn_skip ?_
        refine then_n ?_
        exact ⟨hF.weak [0, 9, 10, 11] (by kernel_rfl), hS, hm⟩
      · replace hm := if_f hm hb
        refine wpIn_exit ?_
        refine then_e (then_e (block_e (then_n ?_)))
        rw [← hφ1] at hm
        replace hm := done_b hm
        unfold hall_Book_K1 at hm
        try dsimp only at hm
        have hm : ((hall_Book_J1 lines1)).bind some = some r := hm
        exact ⟨hF.weak [0] (by kernel_rfl), hS, hm⟩

noncomputable def stringslite_HasPrefix_m  (s1 : List UInt8) (prefix1 : List UInt8) : Option Bool :=
  asrt ((decide ((prefix1.length : Int) ≤ (s1.length : Int))) = true → 0 ≤ (0 : Int) ∧ (0 : Int) ≤ (prefix1.length : Int) ∧ (prefix1.length : Int) ≤ (s1.length : Int)) <| some ((decide ((prefix1.length : Int) ≤ (s1.length : Int))) && ((cut s1 (0 : Int) (prefix1.length : Int)) == prefix1))

set_option maxRecDepth 100000 in
set_option maxHeartbeats 4000000 in
theorem stringslite_HasPrefix_w {s1 : List UInt8} {prefix1 : List UInt8} {r : Bool} {w0 w : World} {B : Nat} {fs : List HP} (hm : stringslite_HasPrefix_m s1 prefix1 = some r) (hS : Sep w0 B w (fs)) :
    Calls Try.prog 135 #[strV s1, strV prefix1] w fun e w' => e = .returned (.bool r) ∧ Sep w0 B w' (fs) := by
  unfold stringslite_HasPrefix_m at hm
  replace hm := start_b hm
  refine enter (l := [strV s1, strV prefix1]) (n := 18) Try.func135 rfl rfl (by simp) (fun a hF => ?_)
  refine reg [] [] [0, 1] [pl 0 (strV s1), pl 1 (strV prefix1)] hF hS Fol (by kernel_rfl) (by kernel_rfl) (by kernel_rfl) ?_ (fun a w hF hS => ?_)
  · exact obs_nil
  obtain ⟨hp1, hm⟩ := asrt_b hm
  refine reg [⟨true, [], vS (Builtin.len_ #[9] 3 #[strV s1]), .int .i64 (s1.length : Int)⟩, ⟨true, [], vS (Builtin.len_ #[9] 3 #[strV prefix1]), .int .i64 (prefix1.length : Int)⟩, ⟨true, [(decide ((prefix1.length : Int) ≤ (s1.length : Int)), true)], vS (Builtin.len_ #[9] 3 #[strV prefix1]), .int .i64 (prefix1.length : Int)⟩, ⟨true, [(decide ((prefix1.length : Int) ≤ (s1.length : Int)), true)], vS (Instr.sliceAt 9 (strV s1) none (some (.int .i64 (prefix1.length : Int))) none), strV (cut s1 (0 : Int) (prefix1.length : Int))⟩, ⟨true, [(decide ((prefix1.length : Int) ≤ (s1.length : Int)), true)], vS (do eqGuard .eql 9 (.tmp 14) (.tmp 15) (strV (cut s1 (0 : Int) (prefix1.length : Int))) (strV prefix1); binOp .eql 9 (strV (cut s1 (0 : Int) (prefix1.length : Int))) (strV prefix1)), .bool (((cut s1 (0 : Int) (prefix1.length : Int)) == prefix1))⟩] [none, some (.int .i64 (s1.length : Int)), none, some (.int .i64 (prefix1.length : Int)), none, none, none, none, some (.int .i64 (prefix1.length : Int)), some (strV (cut s1 (0 : Int) (prefix1.length : Int))), none, some (.bool (((cut s1 (0 : Int) (prefix1.length : Int)) == prefix1))), none, none] [4] [pl 4 (.bool ((decide ((prefix1.length : Int) ≤ (s1.length : Int))) && ((cut s1 (0 : Int) (prefix1.length : Int)) == prefix1)))] hF hS Fol (by kernel_rfl) (by kernel_rfl) (by kernel_rfl) ?_ (fun a w hF hS => ?_)
  · exact obs_cons (ob_slen (s := s1) (by kernel_rfl) 3) <| obs_cons (ob_slen (s := prefix1) (by kernel_rfl) 3) <| obs_cons (ob_slen (s := prefix1) (by kernel_rfl) 3) <| obs_cons (ob_scut (s := s1) (k := .i64) (k' := .i64) (by kernel_rfl) (.inr ⟨rfl, rfl⟩) (.inl rfl) (fun hy => hp1 (hy (decide ((prefix1.length : Int) ≤ (s1.length : Int)), true) (by simp)))) <| obs_cons (ob_seql _ _) <| obs_nil
  refine wpIn_ret ?_
  have hm : some ((decide ((prefix1.length : Int) ≤ (s1.length : Int))) && ((cut s1 (0 : Int) (prefix1.length : Int)) == prefix1)) = some r := hm
  obtain rfl := Option.some.inj hm
  exact retV (rs := [.tmp 4]) (vs := [.bool ((decide ((prefix1.length : Int) ≤ (s1.length : Int))) && ((cut s1 (0 : Int) (prefix1.length : Int)) == prefix1))]) hF rfl (rv_t (by kernel_rfl) <| rv_nil) rfl ⟨rfl, hS⟩

noncomputable def strings_HasPrefix_m  (s1 : List UInt8) (prefix1 : List UInt8) : Option Bool :=
  (stringslite_HasPrefix_m s1 prefix1).bind fun r1 => some r1

set_option maxRecDepth 100000 in
set_option maxHeartbeats 4000000 in
theorem strings_HasPrefix_w {s1 : List UInt8} {prefix1 : List UInt8} {r : Bool} {w0 w : World} {B : Nat} {fs : List HP} (hm : strings_HasPrefix_m s1 prefix1 = some r) (hS : Sep w0 B w (fs)) :
    Calls Try.prog 66 #[strV s1, strV prefix1] w fun e w' => e = .returned (.bool r) ∧ Sep w0 B w' (fs) := by
  unfold strings_HasPrefix_m at hm
  replace hm := start_b hm
  refine enter (l := [strV s1, strV prefix1]) (n := 8) Try.func66 rfl rfl (by simp) (fun a hF => ?_)
  refine reg [] [] [0, 1] [pl 0 (strV s1), pl 1 (strV prefix1)] hF hS Fol (by kernel_rfl) (by kernel_rfl) (by kernel_rfl) ?_ (fun a w hF hS => ?_)
  · exact obs_nil
  obtain ⟨r1, hr1, hm⟩ := call_b hm
  refine reg [⟨false, [], callFunc 135 #[strV s1, strV prefix1], .bool r1⟩] [none, none, some (.bool r1), none] [4] [pl 4 (.bool r1)] hF hS Fol (by kernel_rfl) (by kernel_rfl) (by kernel_rfl) ?_ (fun a w hF hS => ?_)
  · exact obs_cons (ob_call Try.func135 (by kernel_rfl) rfl (fun _ _ hS => stringslite_HasPrefix_w hr1 hS )) <| obs_nil
  refine wpIn_ret ?_
  have hm : some r1 = some r := hm
  obtain rfl := Option.some.inj hm
  exact retV (rs := [.tmp 4]) (vs := [.bool r1]) hF rfl (rv_t (by kernel_rfl) <| rv_nil) rfl ⟨rfl, hS⟩

noncomputable def hall_Open_J5  (b1 : List Int) (l1 : List (List UInt8)) (at1 : Int) : Option (St (List (List UInt8) × Int) (List (List UInt8) × Int)) :=
  asrt ((l1.length : Int) + 1 ≤ bigP) <| some (.next ((l1 ++ ([b8 (cut b1 (w64 (at1 + 2)) (w64 ((w64 (at1 + 2)) + (w64 (getd (0 : Int) b1 at1)))))] : List (List UInt8))), (w64 (at1 + (w64 (4 + (w64 (getd (0 : Int) b1 at1))))))))

noncomputable def hall_Open_J6  (b1 : List Int) (l1 : List (List UInt8)) (at1 : Int) (z1 : Bool) : Option (St (List (List UInt8) × Int) (List (List UInt8) × Int)) :=
  if z1 then (some (.done (l1, at1))) else ((hall_Open_J5 b1 l1 at1))

noncomputable def hall_Open_J4  (b1 : List Int) (l1 : List (List UInt8)) (at1 : Int) : Option (St (List (List UInt8) × Int) (List (List UInt8) × Int)) :=
  asrt (0 ≤ (w64 (at1 + 2)) ∧ (w64 (at1 + 2)) ≤ (w64 ((w64 (at1 + 2)) + (w64 (getd (0 : Int) b1 at1)))) ∧ (w64 ((w64 (at1 + 2)) + (w64 (getd (0 : Int) b1 at1)))) ≤ (b1.length : Int)) <| asrt (0 ≤ at1 ∧ at1 ≤ (w64 ((w64 (at1 + 4)) + (w64 (getd (0 : Int) b1 at1)))) ∧ (w64 ((w64 (at1 + 4)) + (w64 (getd (0 : Int) b1 at1)))) ≤ (b1.length : Int)) <| (hall_entry_m (b8 (cut b1 (w64 (at1 + 2)) (w64 ((w64 (at1 + 2)) + (w64 (getd (0 : Int) b1 at1))))))).bind fun r2 => (hall_Open_J6 b1 l1 at1) (!((b8 r2) == (b8 (cut b1 at1 (w64 ((w64 (at1 + 4)) + (w64 (getd (0 : Int) b1 at1))))))))

noncomputable def hall_Open_J3  (b1 : List Int) (l1 : List (List UInt8)) (at1 : Int) : Option (St (List (List UInt8) × Int) (List (List UInt8) × Int)) :=
  asrt (0 ≤ at1 ∧ at1 < (b1.length : Int)) <| asrt (0 ≤ (w64 (at1 + 1)) ∧ (w64 (at1 + 1)) < (b1.length : Int)) <| if (((w64 (getd (0 : Int) b1 (w64 (at1 + 1)))) != (w64 (255 - (w64 (getd (0 : Int) b1 at1))))) || (decide ((b1.length : Int) < (w64 ((w64 (at1 + 4)) + (w64 (getd (0 : Int) b1 at1))))))) then (some (.done (l1, at1))) else ((hall_Open_J4 b1 l1 at1))

noncomputable def hall_Open_J2  (l2 : List (List UInt8)) (at2 : Int) : Option (List (List UInt8) × Int × Int) :=
  some (l2, at2, 0)

noncomputable def hall_Open_K1  : (List (List UInt8) × Int) → Option (List (List UInt8) × Int × Int) :=
  fun (x : (List (List UInt8) × Int)) => match x with | (l2, at2) => hall_Open_J2 l2 at2

noncomputable def hall_Open_L1  (b1 : List Int) : (List (List UInt8) × Int) → Option (St (List (List UInt8) × Int) (List (List UInt8) × Int)) :=
  fun (x : (List (List UInt8) × Int)) => match x with | (l1, at1) => if (decide ((w64 (at1 + 4)) ≤ (b1.length : Int))) then ((hall_Open_J3 b1 l1 at1)) else (some (.done (l1, at1)))

noncomputable def hall_Open_J1  (b1 : List Int) : Option (List (List UInt8) × Int × Int) :=
  (loop (hall_Open_L1 b1) (([] : List (List UInt8)), 4)).bind hall_Open_K1

noncomputable def hall_Open_m  (b1 : List Int) : Option (List (List UInt8) × Int × Int) :=
  if (decide ((4000 : Int) < (b1.length : Int))) then (some (([] : List (List UInt8)), 0, 2)) else ((strings_HasPrefix_m (b8 b1) ([72, 65, 76, 76] : List UInt8)).bind fun r1 => if (!r1) then (some (([] : List (List UInt8)), 0, 1)) else ((hall_Open_J1 b1)))

set_option maxRecDepth 100000 in
set_option maxHeartbeats 4000000 in
theorem hall_Open_w {A1 : Option Addr} {c1 : Nat} {n1 : Nat} {b1 : List Int} {r : (List (List UInt8) × Int × Int)} {w0 w : World} {B : Nat} {fs : List HP} (hm : hall_Open_m b1 = some r) (hS : Sep w0 B w (fs)) (hr_b1 : RdF w0 B fs A1 ((List.map (Value.int .u8) b1))) (_hc_b1 : b1.length ≤ c1) (_hn_b1 : n1 = b1.length) :
    Calls Try.prog 14 #[.slice A1 n1 c1] w fun e w' => ∃ v, e = .returned v ∧ ∃ (A8 : Option Addr) (c8 : Nat), v = .tuple #[.slice A8 r.1.length c8, .int .i64 r.2.1, .int .i64 r.2.2] ∧ Sep w0 B w' (own 9 (.slice A8 r.1.length c8) ((List.map strV r.1)) :: fs) := by
  obtain ⟨i5, hi5, hz5, hs5, hb5⟩ := info_parts Info5
  obtain ⟨i9, hi9, hz9, hs9, hb9⟩ := info_parts Info9
  obtain rfl := _hn_b1
  unfold hall_Open_m at hm
  replace hm := start_b hm
  refine enter (l := [.slice A1 b1.length c1]) (n := 77) Try.func14 rfl rfl (by simp) (fun a hF => ?_)
  refine reg [] [] [0] [pl 0 (.slice A1 b1.length c1)] hF hS Fol (by kernel_rfl) (by kernel_rfl) (by kernel_rfl) ?_ (fun a w hF hS => ?_)
  · exact obs_nil
  refine seq_cut (fun a w => Fr 77 [pl 0 (.slice A1 b1.length c1)] a ∧ Sep w0 B w (fs) ∧ ((hall_Open_J1 b1)).bind some = some r) ?_ ?_
  · rintro a w ⟨hF, hS, hm⟩
    unfold hall_Open_J1 at hm
    refine reg [] [] [0, 5] [pl 0 (.slice A1 b1.length c1), pl 5 (.slice none 0 0)] hF hS Fol (by kernel_rfl) (by kernel_rfl) (by kernel_rfl) ?_ (fun a w hF hS => ?_)
    · exact obs_nil
    refine reg [] [] [0, 5, 6] [pl 0 (.slice A1 b1.length c1), pl 5 (.slice none 0 0), pl 6 (.int .i64 4)] hF hS Fol (by kernel_rfl) (by kernel_rfl) (by kernel_rfl) ?_ (fun a w hF hS => ?_)
    · exact obs_nil
    refine seq_cut (fun a w => ∃ (l2 : List (List UInt8)) (at2 : Int) (A3 : Option Addr) (c3 : Nat), Fr 77 [pl 5 (.slice A3 l2.length c3), pl 6 (.int .i64 at2)] a ∧ Sep w0 B w (own 9 (.slice A3 l2.length c3) ((List.map strV l2)) :: fs) ∧ (hall_Open_J2 l2 at2).bind some = some r) ?_ ?_
    · rintro a w ⟨l2, at2, A3, c3, hF, hS, hm⟩
      unfold hall_Open_J2 at hm
      refine reg [] [] [2, 3, 4] [pl 2 (.slice A3 l2.length c3), pl 3 (.int .i64 at2), pl 4 (.int .i64 0)] hF hS Fol (by kernel_rfl) (by kernel_rfl) (by kernel_rfl) ?_ (fun a w hF hS => ?_)
      · exact obs_nil
      refine wpIn_ret ?_
      have hm : some (l2, at2, 0) = some r := hm
      obtain rfl := Option.some.inj hm
      exact retV (rs := [.tmp 2, .tmp 3, .tmp 4]) (vs := [.slice A3 l2.length c3, .int .i64 at2, .int .i64 0]) hF rfl (rv_t (by kernel_rfl) <| rv_t (by kernel_rfl) <| rv_t (by kernel_rfl) <| rv_nil) rfl ⟨_, rfl, A3, c3, rfl, hS⟩
    · refine wpIn_block ?_
      have hS : Sep w0 B w (own 9 (.slice none 0 0) ((List.map strV ([] : List (List UInt8)))) :: fs) := hS.nil 9
      have hl3 := (hS.at_ 0 rfl).len1
      have hS := (hS.at_ 0 rfl).reN hl3
      have hS : Sep w0 B w (own 9 (.slice none (([] : List (List UInt8)).length) 0) ((List.map strV ([] : List (List UInt8)))) :: fs) := hS
      have hF := hF.cast (t := 5) (v := .slice none 0 0) (v' := .slice none (([] : List (List UInt8)).length) 0) rfl rfl (congrArg (fun k => Value.slice none k 0) hl3)
      refine wp_loop_model (S := (List (List UInt8) × Int)) (R := (List (List UInt8) × Int)) (hall_Open_L1 b1) (fun x => (hall_Open_K1 x).bind some) r (fun (x : (List (List UInt8) × Int)) a w => ∃ (A2 : Option Addr) (c2 : Nat), Fr 77 [pl 0 (.slice A1 b1.length c1), pl 5 (.slice A2 x.1.length c2), pl 6 (.int .i64 x.2)] a ∧ Sep w0 B w (own 9 (.slice A2 x.1.length c2) ((List.map strV x.1)) :: fs)) (assoc_b hm) ⟨none, 0, hF.weak [0, 5, 6] (by kernel_rfl), hS⟩ ?_
      clear hF hS hm
      rintro nn1 ⟨l1, at1⟩ a w ⟨A2, c2, hF, hS⟩ hm
      generalize hφ1 : stK (hall_Open_L1 b1) nn1 (fun x => (hall_Open_K1 x).bind some) = φ1 at hm
      unfold hall_Open_L1 at hm
      dsimp only at hF hS hm
      refine seq_cut (fun a w => Fr 77 [pl 0 (.slice A1 b1.length c1), pl 5 (.slice A2 l1.length c2), pl 6 (.int .i64 at1)] a ∧ Sep w0 B w (own 9 (.slice A2 l1.length c2) ((List.map strV l1)) :: fs) ∧ ((hall_Open_J3 b1 l1 at1)).bind φ1 = some r) ?_ ?_
      · rintro a w ⟨hF, hS, hm⟩
        unfold hall_Open_J3 at hm
        refine wpIn_block ?_
        obtain ⟨hp1, hm⟩ := asrt_b hm
        refine reg [⟨true, [], vS (Instr.indexAt 23 (.slice A1 b1.length c1) (.int .i64 at1)), .pointer (some (sAddr A1 at1))⟩, ⟨false, [], vS (Instr.loadAt 5 (.pointer (some (sAddr A1 at1)))), .int .u8 (getd (0 : Int) b1 at1)⟩] [none, none, some (.pointer (some (sAddr A1 at1))), some (.int .u8 (getd (0 : Int) b1 at1)), none, none] [0, 5, 6, 7] [pl 0 (.slice A1 b1.length c1), pl 5 (.slice A2 l1.length c2), pl 6 (.int .i64 at1), pl 7 (.int .i64 (w64 (getd (0 : Int) b1 at1)))] hF hS Fol (by kernel_rfl) (by kernel_rfl) (by kernel_rfl) ?_ (fun a w hF hS => ?_)
        · exact obs_cons (ob_ix1 (f := (Value.int .u8)) (m := b1) Und23 hi5 hs5 (hr_b1 _ (hS.dropN 1)) rfl (fun _ => hp1)) <| obs_cons (ob_get1 (n := b1.length) (m := b1) (Value.int .u8) (0 : Int) Agg5 (fun _ hS => ⟨_, (hr_b1 _ (hS.dropN 1))⟩) (fun _ hS => rfl) (fun _ => hp1)) <| obs_nil
        refine seq_cut (fun a w => Fr 77 [pl 0 (.slice A1 b1.length c1), pl 5 (.slice A2 l1.length c2), pl 6 (.int .i64 at1), pl 7 (.int .i64 (w64 (getd (0 : Int) b1 at1)))] a ∧ Sep w0 B w (own 9 (.slice A2 l1.length c2) ((List.map strV l1)) :: fs) ∧ ((hall_Open_J4 b1 l1 at1)).bind φ1 = some r) ?_ ?_
        · rintro a w ⟨hF, hS, hm⟩
          unfold hall_Open_J4 at hm
          refine seqR ?_
          obtain ⟨hp3, hm⟩ := asrt_b hm
          refine at_run 8 [⟨true, [], vS (Instr.sliceAt 23 (.slice A1 b1.length c1) (some (.int .i64 (w64 (at1 + 2)))) (some (.int .i64 (w64 ((w64 (at1 + 2)) + (w64 (getd (0 : Int) b1 at1)))))) none), .slice (cutAddr A1 c1 (w64 (at1 + 2))) ((cut b1 (w64 (at1 + 2)) (w64 ((w64 (at1 + 2)) + (w64 (getd (0 : Int) b1 at1))))).length) (c1 - Int.toNat (w64 (at1 + 2)))⟩] [none, none, none, none, none, none, none, some (.slice (cutAddr A1 c1 (w64 (at1 + 2))) ((cut b1 (w64 (at1 + 2)) (w64 ((w64 (at1 + 2)) + (w64 (getd (0 : Int) b1 at1))))).length) (c1 - Int.toNat (w64 (at1 + 2))))] [0, 5, 6, 7, 53] [pl 0 (.slice A1 b1.length c1), pl 5 (.slice A2 l1.length c2), pl 6 (.int .i64 at1), pl 7 (.int .i64 (w64 (getd (0 : Int) b1 at1))), pl 53 (.slice (cutAddr A1 c1 (w64 (at1 + 2))) ((cut b1 (w64 (at1 + 2)) (w64 ((w64 (at1 + 2)) + (w64 (getd (0 : Int) b1 at1))))).length) (c1 - Int.toNat (w64 (at1 + 2))))] hF hS (by kernel_rfl) (by kernel_rfl) ?_ (fun a w hF hS => ?_)
          · exact obs_cons (ob_cutn (l := b1) (k := .i64) (k' := .i64) Und23 hi5 hs5 rfl (.inl rfl) (.inl rfl) (fun _ => hp3) _hc_b1) <| obs_nil
          have hrun := run_strE (P := Try.prog) (src := 23) (dst := 9) (e := 5) (m := (cut b1 (w64 (at1 + 2)) (w64 ((w64 (at1 + 2)) + (w64 (getd (0 : Int) b1 at1)))))) (c := (c1 - Int.toNat (w64 (at1 + 2)))) (by kernel_rfl) (by kernel_rfl) (by kernel_rfl) (Rd.cutF (hr_b1 _ (hS.dropN 1)) hp3 _hc_b1) rfl
          refine at_do (d := 54) hF (by kernel_rfl) (by kernel_rfl) hrun (fun a hF => ?_)
          refine at_run 1 [] [] [0, 5, 6, 7, 8] [pl 0 (.slice A1 b1.length c1), pl 5 (.slice A2 l1.length c2), pl 6 (.int .i64 at1), pl 7 (.int .i64 (w64 (getd (0 : Int) b1 at1))), pl 8 (strV (b8 (cut b1 (w64 (at1 + 2)) (w64 ((w64 (at1 + 2)) + (w64 (getd (0 : Int) b1 at1)))))))] hF hS (by kernel_rfl) (by kernel_rfl) ?_ (fun a w hF hS => ?_)
          · exact obs_nil
          refine at_end [0, 5, 6, 7, 8] [pl 0 (.slice A1 b1.length c1), pl 5 (.slice A2 l1.length c2), pl 6 (.int .i64 at1), pl 7 (.int .i64 (w64 (getd (0 : Int) b1 at1))), pl 8 (strV (b8 (cut b1 (w64 (at1 + 2)) (w64 ((w64 (at1 + 2)) + (w64 (getd (0 : Int) b1 at1)))))))] hF rfl (by kernel_rfl) (fun hF => ?_)
          refine then_n ?_
          refine seq_cut (fun a w => Fr 77 [pl 0 (.slice A1 b1.length c1), pl 5 (.slice A2 l1.length c2), pl 6 (.int .i64 at1), pl 7 (.int .i64 (w64 (getd (0 : Int) b1 at1))), pl 8 (strV (b8 (cut b1 (w64 (at1 + 2)) (w64 ((w64 (at1 + 2)) + (w64 (getd (0 : Int) b1 at1)))))))] a ∧ Sep w0 B w (own 9 (.slice A2 l1.length c2) ((List.map strV l1)) :: fs) ∧ ((hall_Open_J5 b1 l1 at1)).bind φ1 = some r) ?_ ?_
          · rintro a w ⟨hF, hS, hm⟩
            unfold hall_Open_J5 at hm
            refine seqR ?_
            obtain ⟨hp5, hm⟩ := asrt_b hm
            refine at_run 2 [] [] [0, 6, 7, 67, 68] [pl 0 (.slice A1 b1.length c1), pl 6 (.int .i64 at1), pl 7 (.int .i64 (w64 (getd (0 : Int) b1 at1))), pl 67 (.slice A2 l1.length c2), pl 68 (strV (b8 (cut b1 (w64 (at1 + 2)) (w64 ((w64 (at1 + 2)) + (w64 (getd (0 : Int) b1 at1)))))))] hF hS (by kernel_rfl) (by kernel_rfl) ?_ (fun a w hF hS => ?_)
            · exact obs_nil
            refine at_do (d := 69) (s := vS (Instr.buildSlice 22 1 #[(0, strV (b8 (cut b1 (w64 (at1 + 2)) (w64 ((w64 (at1 + 2)) + (w64 (getd (0 : Int) b1 at1)))))))])) (v := .slice (some ⟨w.heap.size, 0, none⟩) 1 1) (w' := w.alloc (.cells #[strV (b8 (cut b1 (w64 (at1 + 2)) (w64 ((w64 (at1 + 2)) + (w64 (getd (0 : Int) b1 at1))))))] 9)) hF (by kernel_rfl) (by kernel_rfl) (by kernel_rfl) (fun a hF => ?_)
            have hS : Sep w0 B (w.alloc (.cells #[strV (b8 (cut b1 (w64 (at1 + 2)) (w64 ((w64 (at1 + 2)) + (w64 (getd (0 : Int) b1 at1))))))] 9)) (own 9 (.slice (some (⟨w.heap.size, 0, none⟩ : Addr)) 1 1) ((List.map strV ([b8 (cut b1 (w64 (at1 + 2)) (w64 ((w64 (at1 + 2)) + (w64 (getd (0 : Int) b1 at1)))))] : List (List UInt8)))) :: (own 9 (.slice A2 l1.length c2) ((List.map strV l1)) :: fs)) := hS.lit 9 #[strV (b8 (cut b1 (w64 (at1 + 2)) (w64 ((w64 (at1 + 2)) + (w64 (getd (0 : Int) b1 at1))))))] 1 rfl (by omega)
            generalize (some (⟨w.heap.size, 0, none⟩ : Addr)) = g1 at hF hS
            generalize w.alloc (.cells #[strV (b8 (cut b1 (w64 (at1 + 2)) (w64 ((w64 (at1 + 2)) + (w64 (getd (0 : Int) b1 at1))))))] 9) = w at hS ⊢
            obtain ⟨A7, c7, w, hrun, hS⟩ := run_appG (P := Try.prog) (t := 22) (m := l1) (ys := ([b8 (cut b1 (w64 (at1 + 2)) (w64 ((w64 (at1 + 2)) + (w64 (getd (0 : Int) b1 at1)))))] : List (List UInt8))) (A2 := g1) (m2 := 1) (c2 := 1) strV ([] : List UInt8) 8796093022208 (hS.at_ 1 rfl) (hS.at_ 0 rfl).rd ((hS.at_ 0 rfl).len1) 22 Und22 hi9 hz9 hs9 (by rw [hb9]; decide) (by decide) rfl (fun _ => rfl) hp5
            have hS : Sep w0 B w (own 9 (.slice g1 1 1) ((List.map strV ([b8 (cut b1 (w64 (at1 + 2)) (w64 ((w64 (at1 + 2)) + (w64 (getd (0 : Int) b1 at1)))))] : List (List UInt8)))) :: own 9 (.slice A7 ((l1 ++ ([b8 (cut b1 (w64 (at1 + 2)) (w64 ((w64 (at1 + 2)) + (w64 (getd (0 : Int) b1 at1)))))] : List (List UInt8))).length) c7) ((List.map strV (l1 ++ ([b8 (cut b1 (w64 (at1 + 2)) (w64 ((w64 (at1 + 2)) + (w64 (getd (0 : Int) b1 at1)))))] : List (List UInt8))))) :: fs) := hS
            refine at_do (d := 70) hF (by kernel_rfl) (by kernel_rfl) hrun (fun a hF => ?_)
            refine at_run 1 [] [] [0, 5, 6, 7] [pl 0 (.slice A1 b1.length c1), pl 5 (.slice A7 ((l1 ++ ([b8 (cut b1 (w64 (at1 + 2)) (w64 ((w64 (at1 + 2)) + (w64 (getd (0 : Int) b1 at1)))))] : List (List UInt8))).length) c7), pl 6 (.int .i64 at1), pl 7 (.int .i64 (w64 (getd (0 : Int) b1 at1)))] hF hS (by kernel_rfl) (by kernel_rfl) ?_ (fun a w hF hS => ?_)
            · exact obs_nil
            refine at_end [0, 5, 6, 7] [pl 0 (.slice A1 b1.length c1), pl 5 (.slice A7 ((l1 ++ ([b8 (cut b1 (w64 (at1 + 2)) (w64 ((w64 (at1 + 2)) + (w64 (getd (0 : Int) b1 at1)))))] : List (List UInt8))).length) c7), pl 6 (.int .i64 at1), pl 7 (.int .i64 (w64 (getd (0 : Int) b1 at1)))] hF rfl (by kernel_rfl) (fun hF => ?_)
            refine then_n ?_
            refine reg1 [] [] [0, 5, 6] [pl 0 (.slice A1 b1.length c1), pl 5 (.slice A7 ((l1 ++ ([b8 (cut b1 (w64 (at1 + 2)) (w64 ((w64 (at1 + 2)) + (w64 (getd (0 : Int) b1 at1)))))] : List (List UInt8))).length) c7), pl 6 (.int .i64 (w64 (at1 + (w64 (4 + (w64 (getd (0 : Int) b1 at1)))))))] hF hS Fol (by kernel_rfl) (by kernel_rfl) (by kernel_rfl) ?_ (fun a w hF hS => ?_)
            · exact obs_nil
            refine block_n ?_
            refine then_n ?_
            have hS := hS.pickN 2 [1] (by decide)
            rw [← hφ1] at hm
            exact ⟨((l1 ++ ([b8 (cut b1 (w64 (at1 + 2)) (w64 ((w64 (at1 + 2)) + (w64 (getd (0 : Int) b1 at1)))))] : List (List UInt8))), (w64 (at1 + (w64 (4 + (w64 (getd (0 : Int) b1 at1))))))), ⟨A7, c7, hF.weak [0, 5, 6] (by kernel_rfl), hS⟩, hm⟩
          · refine seq_cut (fun a w => ∃ (z1 : Bool), Fr 77 [pl 0 (.slice A1 b1.length c1), pl 5 (.slice A2 l1.length c2), pl 6 (.int .i64 at1), pl 7 (.int .i64 (w64 (getd (0 : Int) b1 at1))), pl 8 (strV (b8 (cut b1 (w64 (at1 + 2)) (w64 ((w64 (at1 + 2)) + (w64 (getd (0 : Int) b1 at1))))))), pl 66 (.bool z1)] a ∧ Sep w0 B w (own 9 (.slice A2 l1.length c2) ((List.map strV l1)) :: fs) ∧ ((hall_Open_J6 b1 l1 at1) z1).bind φ1 = some r) ?_ ?_
            · rintro a w ⟨z1, hF, hS, hm⟩
              unfold hall_Open_J6 at hm
              refine cond_ev (t := 66) (b := z1) hF (by kernel_rfl) (fun hb => ?_) (fun hb => ?_)
              · replace hm := if_t hm hb
                refine wpIn_exit ?_
                refine then_e (block_o rfl (then_e (block_e (then_n ?_))))
                rw [← hφ1] at hm
                replace hm := done_b hm
                unfold hall_Open_K1 at hm
                try dsimp only at hm
                have hm : (hall_Open_J2 l1 at1).bind some = some r := hm
                exact ⟨l1, at1, A2, c2, hF.weak [5, 6] (by kernel_rfl), hS, hm⟩
              · replace hm := if_f hm hb
                refine wpIn_skip ?_
                refine then_n ?_
                exact ⟨hF.weak [0, 5, 6, 7, 8] (by kernel_rfl), hS, hm⟩
            · obtain ⟨hp4, hm⟩ := asrt_b hm
              obtain ⟨r2, hr2, hm⟩ := call_b hm
              refine regMix5 [0, 3, 4, 5, 6, 7, 8, 9] [] 4 #[true, false, false, true, true, true, true, true, true, true, false, false] [⟨true, [], vS (Instr.sliceAt 23 (.slice A1 b1.length c1) (some (.int .i64 at1)) (some (.int .i64 (w64 ((w64 (at1 + 4)) + (w64 (getd (0 : Int) b1 at1)))))) none), .slice (cutAddr A1 c1 at1) ((cut b1 at1 (w64 ((w64 (at1 + 4)) + (w64 (getd (0 : Int) b1 at1))))).length) (c1 - Int.toNat at1)⟩] [none, none, none, none, none, none, none, some (.slice (cutAddr A1 c1 at1) ((cut b1 at1 (w64 ((w64 (at1 + 4)) + (w64 (getd (0 : Int) b1 at1))))).length) (c1 - Int.toNat at1))] [0, 5, 6, 7, 8, 55, 64] [pl 0 (.slice A1 b1.length c1), pl 5 (.slice A2 l1.length c2), pl 6 (.int .i64 at1), pl 7 (.int .i64 (w64 (getd (0 : Int) b1 at1))), pl 8 (strV (b8 (cut b1 (w64 (at1 + 2)) (w64 ((w64 (at1 + 2)) + (w64 (getd (0 : Int) b1 at1))))))), pl 55 (strV (b8 (cut b1 (w64 (at1 + 2)) (w64 ((w64 (at1 + 2)) + (w64 (getd (0 : Int) b1 at1))))))), pl 64 (.slice (cutAddr A1 c1 at1) ((cut b1 at1 (w64 ((w64 (at1 + 4)) + (w64 (getd (0 : Int) b1 at1))))).length) (c1 - Int.toNat at1))] hF hS Fol (by kernel_rfl) (by kernel_rfl) (by kernel_rfl) (by kernel_rfl) ?_ (fun a w hF hS => ?_)
              · exact obs_cons (ob_cutn (l := b1) (k := .i64) (k' := .i64) Und23 hi5 hs5 rfl (.inl rfl) (.inl rfl) (fun _ => hp4) _hc_b1) <| obs_nil
              refine any_step [1, 10] (by kernel_rfl) rfl ?_
              refine (all_cons ?_ (all_cons ?_ all_nil))
              · refine any_op (listed' := #[true, true, false, true, true, true, true, true, true, true, false, false]) (by kernel_rfl) (by kernel_rfl) ?_
                refine at_call (f := 65) (args := #[strV (b8 (cut b1 (w64 (at1 + 2)) (w64 ((w64 (at1 + 2)) + (w64 (getd (0 : Int) b1 at1))))))]) (d := 56) hF (by kernel_rfl) (by kernel_rfl) Try.func65 (by kernel_rfl) rfl (hall_entry_w hr2 hS ) (fun v a w hR hF => ?_)
                clear hS
                obtain ⟨A5, c5, rfl, hS⟩ := hR
                have hS : Sep w0 B w (own 5 (.slice A5 r2.length c5) ((List.map (Value.int .u8) r2)) :: own 9 (.slice A2 l1.length c2) ((List.map strV l1)) :: fs) := hS
                refine any_fin rfl (hS.pickN 2 [1] (by decide)) ?_
                refine any_step [2, 10] (by kernel_rfl) rfl ?_
                refine (all_cons ?_ (all_cons ?_ all_nil))
                · refine any_op (listed' := #[true, true, true, true, true, true, true, true, true, true, false, false]) (by kernel_rfl) (by kernel_rfl) ?_
                  have hrun := run_strE (P := Try.prog) (src := 23) (dst := 9) (e := 5) (m := r2) (c := c5) (by kernel_rfl) (by kernel_rfl) (by kernel_rfl) (hS.at_ 0 rfl).rd rfl
                  refine at_do (d := 57) hF (by kernel_rfl) (by kernel_rfl) hrun (fun a hF => ?_)
                  refine any_fin rfl (hS.pickN 2 [1] (by decide)) ?_
                  refine any_step [10] (by kernel_rfl) rfl ?_
                  refine (all_cons ?_ all_nil)
                  · refine any_op (listed' := #[true, true, true, true, true, true, true, true, true, true, true, false]) (by kernel_rfl) (by kernel_rfl) ?_
                    have hrun := run_strE (P := Try.prog) (src := 23) (dst := 9) (e := 5) (m := (cut b1 at1 (w64 ((w64 (at1 + 4)) + (w64 (getd (0 : Int) b1 at1)))))) (c := (c1 - Int.toNat at1)) (by kernel_rfl) (by kernel_rfl) (by kernel_rfl) (Rd.cutF (hr_b1 _ (hS.dropN 2)) hp4 _hc_b1) rfl
                    refine at_do (d := 65) hF (by kernel_rfl) (by kernel_rfl) hrun (fun a hF => ?_)
                    refine any_fin rfl (hS.pickN 2 [1] (by decide)) ?_
                    refine any_step [11] (by kernel_rfl) rfl ?_
                    refine (all_cons ?_ all_nil)
                    · refine any_op (listed' := #[true, true, true, true, true, true, true, true, true, true, true, true]) (by kernel_rfl) (by kernel_rfl) ?_
                      refine at_runW 1 [⟨true, [], vS (do eqGuard .neq 9 (.tmp 57) (.tmp 65) (strV (b8 r2)) (strV (b8 (cut b1 at1 (w64 ((w64 (at1 + 4)) + (w64 (getd (0 : Int) b1 at1))))))); binOp .neq 9 (strV (b8 r2)) (strV (b8 (cut b1 at1 (w64 ((w64 (at1 + 4)) + (w64 (getd (0 : Int) b1 at1)))))))), .bool (!((b8 r2) == (b8 (cut b1 at1 (w64 ((w64 (at1 + 4)) + (w64 (getd (0 : Int) b1 at1))))))))⟩] [some (.bool (!((b8 r2) == (b8 (cut b1 at1 (w64 ((w64 (at1 + 4)) + (w64 (getd (0 : Int) b1 at1)))))))))] [0, 5, 6, 7, 8, 66] [pl 0 (.slice A1 b1.length c1), pl 5 (.slice A2 l1.length c2), pl 6 (.int .i64 at1), pl 7 (.int .i64 (w64 (getd (0 : Int) b1 at1))), pl 8 (strV (b8 (cut b1 (w64 (at1 + 2)) (w64 ((w64 (at1 + 2)) + (w64 (getd (0 : Int) b1 at1))))))), pl 66 (.bool (!((b8 r2) == (b8 (cut b1 at1 (w64 ((w64 (at1 + 4)) + (w64 (getd (0 : Int) b1 at1)))))))))] hF hS (by kernel_rfl) (by kernel_rfl) ?_ (fun a hF => ?_)
                      · exact obs_cons (ob_sneq _ _) <| obs_nil
                      refine any_finI rfl (fun h => h) ?_
                      refine any_end (by kernel_rfl) ?_
                      refine np_n ?_
                      refine then_n ?_
                      have hS := hS.pickN 2 [1] (by decide)
                      exact ⟨(!((b8 r2) == (b8 (cut b1 at1 (w64 ((w64 (at1 + 4)) + (w64 (getd (0 : Int) b1 at1)))))))), hF.weak [0, 5, 6, 7, 8, 66] (by kernel_rfl), hS, hm⟩
                · refine any_op (listed' := #[true, true, false, true, true, true, true, true, true, true, true, false]) (by kernel_rfl) (by kernel_rfl) ?_
                  have hrun := run_strE (P := Try.prog) (src := 23) (dst := 9) (e := 5) (m := (cut b1 at1 (w64 ((w64 (at1 + 4)) + (w64 (getd (0 : Int) b1 at1)))))) (c := (c1 - Int.toNat at1)) (by kernel_rfl) (by kernel_rfl) (by kernel_rfl) (Rd.cutF (hr_b1 _ (hS.dropN 2)) hp4 _hc_b1) rfl
                  refine at_do (d := 65) hF (by kernel_rfl) (by kernel_rfl) hrun (fun a hF => ?_)
                  refine any_fin rfl (hS.pickN 2 [1] (by decide)) ?_
                  refine any_step [2] (by kernel_rfl) rfl ?_
                  refine (all_cons ?_ all_nil)
                  · refine any_op (listed' := #[true, true, true, true, true, true, true, true, true, true, true, false]) (by kernel_rfl) (by kernel_rfl) ?_
                    have hrun := run_strE (P := Try.prog) (src := 23) (dst := 9) (e := 5) (m := r2) (c := c5) (by kernel_rfl) (by kernel_rfl) (by kernel_rfl) (hS.at_ 0 rfl).rd rfl
                    refine at_do (d := 57) hF (by kernel_rfl) (by kernel_rfl) hrun (fun a hF => ?_)
                    refine any_fin rfl (hS.pickN 2 [1] (by decide)) ?_
                    refine any_step [11] (by kernel_rfl) rfl ?_
                    refine (all_cons ?_ all_nil)
                    · refine any_op (listed' := #[true, true, true, true, true, true, true, true, true, true, true, true]) (by kernel_rfl) (by kernel_rfl) ?_
                      refine at_runW 1 [⟨true, [], vS (do eqGuard .neq 9 (.tmp 57) (.tmp 65) (strV (b8 r2)) (strV (b8 (cut b1 at1 (w64 ((w64 (at1 + 4)) + (w64 (getd (0 : Int) b1 at1))))))); binOp .neq 9 (strV (b8 r2)) (strV (b8 (cut b1 at1 (w64 ((w64 (at1 + 4)) + (w64 (getd (0 : Int) b1 at1)))))))), .bool (!((b8 r2) == (b8 (cut b1 at1 (w64 ((w64 (at1 + 4)) + (w64 (getd (0 : Int) b1 at1))))))))⟩] [some (.bool (!((b8 r2) == (b8 (cut b1 at1 (w64 ((w64 (at1 + 4)) + (w64 (getd (0 : Int) b1 at1)))))))))] [0, 5, 6, 7, 8, 66] [pl 0 (.slice A1 b1.length c1), pl 5 (.slice A2 l1.length c2), pl 6 (.int .i64 at1), pl 7 (.int .i64 (w64 (getd (0 : Int) b1 at1))), pl 8 (strV (b8 (cut b1 (w64 (at1 + 2)) (w64 ((w64 (at1 + 2)) + (w64 (getd (0 : Int) b1 at1))))))), pl 66 (.bool (!((b8 r2) == (b8 (cut b1 at1 (w64 ((w64 (at1 + 4)) + (w64 (getd (0 : Int) b1 at1)))))))))] hF hS (by kernel_rfl) (by kernel_rfl) ?_ (fun a hF => ?_)
                      · exact obs_cons (ob_sneq _ _) <| obs_nil
                      refine any_finI rfl (fun h => h) ?_
                      refine any_end (by kernel_rfl) ?_
                      refine np_n ?_
                      refine then_n ?_
                      have hS := hS.pickN 2 [1] (by decide)
                      exact ⟨(!((b8 r2) == (b8 (cut b1 at1 (w64 ((w64 (at1 + 4)) + (w64 (getd (0 : Int) b1 at1)))))))), hF.weak [0, 5, 6, 7, 8, 66] (by kernel_rfl), hS, hm⟩
              · refine any_op (listed' := #[true, false, false, true, true, true, true, true, true, true, true, false]) (by kernel_rfl) (by kernel_rfl) ?_
                have hrun := run_strE (P := Try.prog) (src := 23) (dst := 9) (e := 5) (m := (cut b1 at1 (w64 ((w64 (at1 + 4)) + (w64 (getd (0 : Int) b1 at1)))))) (c := (c1 - Int.toNat at1)) (by kernel_rfl) (by kernel_rfl) (by kernel_rfl) (Rd.cutF (hr_b1 _ (hS.dropN 1)) hp4 _hc_b1) rfl
                refine at_do (d := 65) hF (by kernel_rfl) (by kernel_rfl) hrun (fun a hF => ?_)
                refine any_fin rfl hS ?_
                refine any_step [1] (by kernel_rfl) rfl ?_
                refine (all_cons ?_ all_nil)
                · refine any_op (listed' := #[true, true, false, true, true, true, true, true, true, true, true, false]) (by kernel_rfl) (by kernel_rfl) ?_
                  refine at_call (f := 65) (args := #[strV (b8 (cut b1 (w64 (at1 + 2)) (w64 ((w64 (at1 + 2)) + (w64 (getd (0 : Int) b1 at1))))))]) (d := 56) hF (by kernel_rfl) (by kernel_rfl) Try.func65 (by kernel_rfl) rfl (hall_entry_w hr2 hS ) (fun v a w hR hF => ?_)
                  clear hS
                  obtain ⟨A6, c6, rfl, hS⟩ := hR
                  have hS : Sep w0 B w (own 5 (.slice A6 r2.length c6) ((List.map (Value.int .u8) r2)) :: own 9 (.slice A2 l1.length c2) ((List.map strV l1)) :: fs) := hS
                  refine any_fin rfl (hS.pickN 2 [1] (by decide)) ?_
                  refine any_step [2] (by kernel_rfl) rfl ?_
                  refine (all_cons ?_ all_nil)
                  · refine any_op (listed' := #[true, true, true, true, true, true, true, true, true, true, true, false]) (by kernel_rfl) (by kernel_rfl) ?_
                    have hrun := run_strE (P := Try.prog) (src := 23) (dst := 9) (e := 5) (m := r2) (c := c6) (by kernel_rfl) (by kernel_rfl) (by kernel_rfl) (hS.at_ 0 rfl).rd rfl
                    refine at_do (d := 57) hF (by kernel_rfl) (by kernel_rfl) hrun (fun a hF => ?_)
                    refine any_fin rfl (hS.pickN 2 [1] (by decide)) ?_
                    refine any_step [11] (by kernel_rfl) rfl ?_
                    refine (all_cons ?_ all_nil)
                    · refine any_op (listed' := #[true, true, true, true, true, true, true, true, true, true, true, true]) (by kernel_rfl) (by kernel_rfl) ?_
                      refine at_runW 1 [⟨true, [], vS (do eqGuard .neq 9 (.tmp 57) (.tmp 65) (strV (b8 r2)) (strV (b8 (cut b1 at1 (w64 ((w64 (at1 + 4)) + (w64 (getd (0 : Int) b1 at1))))))); binOp .neq 9 (strV (b8 r2)) (strV (b8 (cut b1 at1 (w64 ((w64 (at1 + 4)) + (w64 (getd (0 : Int) b1 at1)))))))), .bool (!((b8 r2) == (b8 (cut b1 at1 (w64 ((w64 (at1 + 4)) + (w64 (getd (0 : Int) b1 at1))))))))⟩] [some (.bool (!((b8 r2) == (b8 (cut b1 at1 (w64 ((w64 (at1 + 4)) + (w64 (getd (0 : Int) b1 at1)))))))))] [0, 5, 6, 7, 8, 66] [pl 0 (.slice A1 b1.length c1), pl 5 (.slice A2 l1.length c2), pl 6 (.int .i64 at1), pl 7 (.int .i64 (w64 (getd (0 : Int) b1 at1))), pl 8 (strV (b8 (cut b1 (w64 (at1 + 2)) (w64 ((w64 (at1 + 2)) + (w64 (getd (0 : Int) b1 at1))))))), pl 66 (.bool (!((b8 r2) == (b8 (cut b1 at1 (w64 ((w64 (at1 + 4)) + (w64 (getd (0 : Int) b1 at1)))))))))] hF hS (by kernel_rfl) (by kernel_rfl) ?_ (fun a hF => ?_)
                      · exact obs_cons (ob_sneq _ _) <| obs_nil
                      refine any_finI rfl (fun h => h) ?_
                      refine any_end (by kernel_rfl) ?_
                      refine np_n ?_
                      refine then_n ?_
                      have hS := hS.pickN 2 [1] (by decide)
                      exact ⟨(!((b8 r2) == (b8 (cut b1 at1 (w64 ((w64 (at1 + 4)) + (w64 (getd (0 : Int) b1 at1)))))))), hF.weak [0, 5, 6, 7, 8, 66] (by kernel_rfl), hS, hm⟩
        · obtain ⟨hp2, hm⟩ := asrt_b hm
          refine reg [⟨true, [], vS (Instr.indexAt 23 (.slice A1 b1.length c1) (.int .i64 (w64 (at1 + 1)))), .pointer (some (sAddr A1 (w64 (at1 + 1))))⟩, ⟨false, [], vS (Instr.loadAt 5 (.pointer (some (sAddr A1 (w64 (at1 + 1)))))), .int .u8 (getd (0 : Int) b1 (w64 (at1 + 1)))⟩] [none, none, none, some (.pointer (some (sAddr A1 (w64 (at1 + 1))))), some (.int .u8 (getd (0 : Int) b1 (w64 (at1 + 1)))), none, none, none, none, none, none, none, none, none, none, none, none, none] [0, 5, 6, 7, 45] [pl 0 (.slice A1 b1.length c1), pl 5 (.slice A2 l1.length c2), pl 6 (.int .i64 at1), pl 7 (.int .i64 (w64 (getd (0 : Int) b1 at1))), pl 45 (.bool (((w64 (getd (0 : Int) b1 (w64 (at1 + 1)))) != (w64 (255 - (w64 (getd (0 : Int) b1 at1))))) || (decide ((b1.length : Int) < (w64 ((w64 (at1 + 4)) + (w64 (getd (0 : Int) b1 at1))))))))] hF hS Fol (by kernel_rfl) (by kernel_rfl) (by kernel_rfl) ?_ (fun a w hF hS => ?_)
          · exact obs_cons (ob_ix1 (f := (Value.int .u8)) (m := b1) Und23 hi5 hs5 (hr_b1 _ (hS.dropN 1)) rfl (fun _ => hp2)) <| obs_cons (ob_get1 (n := b1.length) (m := b1) (Value.int .u8) (0 : Int) Agg5 (fun _ hS => ⟨_, (hr_b1 _ (hS.dropN 1))⟩) (fun _ hS => rfl) (fun _ => hp2)) <| obs_nil
          refine cond_ev (t := 45) (b := ((w64 (getd (0 : Int) b1 (w64 (at1 + 1)))) != (w64 (255 - (w64 (getd (0 : Int) b1 at1))))) || (decide ((b1.length : Int) < (w64 ((w64 (at1 + 4)) + (w64 (getd (0 : Int) b1 at1))))))) hF (by kernel_rfl) (fun hb => ?_) (fun hb => ?_)
          · replace hm := if_t hm hb
            refine wpIn_exit ?_
            refine then_e (block_o rfl (then_e (block_e (then_n ?_))))
            rw [← hφ1] at hm
            replace hm := done_b hm
            unfold hall_Open_K1 at hm
            try dsimp only at hm
            have hm : (hall_Open_J2 l1 at1).bind some = some r := hm
            exact ⟨l1, at1, A2, c2, hF.weak [5, 6] (by kernel_rfl), hS, hm⟩
          · replace hm := if_f hm hb
            refine wpIn_skip ?_
            refine then_n ?_
            exact ⟨hF.weak [0, 5, 6, 7] (by kernel_rfl), hS, hm⟩
      · refine reg [] [] [0, 5, 6, 22] [pl 0 (.slice A1 b1.length c1), pl 5 (.slice A2 l1.length c2), pl 6 (.int .i64 at1), pl 22 (.bool (decide ((w64 (at1 + 4)) ≤ (b1.length : Int))))] hF hS Fol (by kernel_rfl) (by kernel_rfl) (by kernel_rfl) ?_ (fun a w hF hS => ?_)
        · exact obs_nil
        refine cond_ev (t := 22) (b := decide ((w64 (at1 + 4)) ≤ (b1.length : Int))) hF (by kernel_rfl) (fun hb => ?_) (fun hb => ?_)
        · replace hm := if_t hm hb
          refine wpIn_skip ?_
          refine then_n ?_
          exact ⟨hF.weak [0, 5, 6] (by kernel_rfl), hS, hm⟩
        · replace hm := if_f hm hb
          refine wpIn_exit ?_
          refine then_e (then_e (block_e (then_n ?_)))
          rw [← hφ1] at hm
          replace hm := done_b hm
          unfold hall_Open_K1 at hm
          try dsimp only at hm
          have hm : (hall_Open_J2 l1 at1).bind some = some r := hm
          exact ⟨l1, at1, A2, c2, hF.weak [5, 6] (by kernel_rfl), hS, hm⟩
  · refine wpIn_block ?_
    refine reg [] [] [0, 9] [pl 0 (.slice A1 b1.length c1), pl 9 (.bool (decide ((4000 : Int) < (b1.length : Int))))] hF hS Fol (by kernel_rfl) (by kernel_rfl) (by kernel_rfl) ?_ (fun a w hF hS => ?_)
    · exact obs_nil
    refine cond_ev (t := 9) (b := decide ((4000 : Int) < (b1.length : Int))) hF (by kernel_rfl) (fun hb => ?_) (fun hb => ?_)
    · replace hm := if_t hm hb
      refine reg [] [] [2, 3, 4] [pl 2 (.slice none 0 0), pl 3 (.int .i64 0), pl 4 (.int .i64 2)] hF hS Fol (by kernel_rfl) (by kernel_rfl) (by kernel_rfl) ?_ (fun a w hF hS => ?_)
      · exact obs_nil
      refine wpIn_ret ?_
      refine block_r (then_r ?_)
      have hS : Sep w0 B w (own 9 (.slice none 0 0) ((List.map strV ([] : List (List UInt8)))) :: fs) := hS.nil 9
      have hl1 := (hS.at_ 0 rfl).len1
      have hS := (hS.at_ 0 rfl).reN hl1
      have hS : Sep w0 B w (own 9 (.slice none (([] : List (List UInt8)).length) 0) ((List.map strV ([] : List (List UInt8)))) :: fs) := hS
      have hm : some (([] : List (List UInt8)), 0, 2) = some r := hm
      obtain rfl := Option.some.inj hm
      exact retV (rs := [.tmp 2, .tmp 3, .tmp 4]) (vs := [.slice none (([] : List (List UInt8)).length) 0, .int .i64 0, .int .i64 2]) hF rfl (rv_t (by kernel_rfl) <| rv_t (by kernel_rfl) <| rv_t (by kernel_rfl) <| rv_nil) rfl ⟨_, rfl, none, 0, rfl, hS⟩
    · replace hm := if_f hm hb
      refine seqR ?_
      obtain ⟨r1, hr1, hm⟩ := call_b hm
      refine at_run 1 [] [] [0, 14] [pl 0 (.slice A1 b1.length c1), pl 14 (.slice A1 b1.length c1)] hF hS (by kernel_rfl) (by kernel_rfl) ?_ (fun a w hF hS => ?_)
      · exact obs_nil
      have hrun := run_strE (P := Try.prog) (src := 23) (dst := 9) (e := 5) (m := b1) (c := c1) (by kernel_rfl) (by kernel_rfl) (by kernel_rfl) (hr_b1 _ (hS.dropN 0)) rfl
      refine at_do (d := 15) hF (by kernel_rfl) (by kernel_rfl) hrun (fun a hF => ?_)
      refine at_run 3 [⟨false, [], callFunc 66 #[strV (b8 b1), strV ([72, 65, 76, 76] : List UInt8)], .bool r1⟩] [some (.bool r1), none, none] [0, 13] [pl 0 (.slice A1 b1.length c1), pl 13 (.bool (!r1))] hF hS (by kernel_rfl) (by kernel_rfl) ?_ (fun a w hF hS => ?_)
      · exact obs_cons (ob_call Try.func66 (by kernel_rfl) rfl (fun _ _ hS => strings_HasPrefix_w hr1 hS )) <| obs_nil
      refine at_end [0, 13] [pl 0 (.slice A1 b1.length c1), pl 13 (.bool (!r1))] hF rfl (by kernel_rfl) (fun hF => ?_)
      refine then_n ?_
      refine cond_ev (t := 13) (b := !r1) hF (by kernel_rfl) (fun hb => ?_) (fun hb => ?_)
      · replace hm := if_t hm hb
        refine reg [] [] [2, 3, 4] [pl 2 (.slice none 0 0), pl 3 (.int .i64 0), pl 4 (.int .i64 1)] hF hS Fol (by kernel_rfl) (by kernel_rfl) (by kernel_rfl) ?_ (fun a w hF hS => ?_)
        · exact obs_nil
        refine wpIn_ret ?_
        refine block_r (then_r ?_)
        have hS : Sep w0 B w (own 9 (.slice none 0 0) ((List.map strV ([] : List (List UInt8)))) :: fs) := hS.nil 9
        have hl2 := (hS.at_ 0 rfl).len1
        have hS := (hS.at_ 0 rfl).reN hl2
        have hS : Sep w0 B w (own 9 (.slice none (([] : List (List UInt8)).length) 0) ((List.map strV ([] : List (List UInt8)))) :: fs) := hS
        have hm : some (([] : List (List UInt8)), 0, 1) = some r := hm
        obtain rfl := Option.some.inj hm
        exact retV (rs := [.tmp 2, .tmp 3, .tmp 4]) (vs := [.slice none (([] : List (List UInt8)).length) 0, .int .i64 0, .int .i64 1]) hF rfl (rv_t (by kernel_rfl) <| rv_t (by kernel_rfl) <| rv_t (by kernel_rfl) <| rv_nil) rfl ⟨_, rfl, none, 0, rfl, hS⟩
      · replace hm := if_f hm hb
        refine wpIn_skip ?_
        refine block_n ?_
        refine then_n ?_
        exact ⟨hF.weak [0] (by kernel_rfl), hS, hm⟩

noncomputable def hall_Add_J1  (b1 : List Int) (line1 : List UInt8) (r1 : (List (List UInt8) × Int × Int)) : Option (List Int × Int) :=
  asrt (0 ≤ (0 : Int) ∧ (0 : Int) ≤ r1.2.1 ∧ r1.2.1 ≤ (b1.length : Int)) <| asrt ((0 : Int) + (((cut b1 (0 : Int) r1.2.1).length : Nat) : Int) ≤ bigB) <| (hall_entry_m line1).bind fun r2 => asrt (((([] ++ (cut b1 (0 : Int) r1.2.1)).length : Nat) : Int) + (r2.length : Int) ≤ bigB) <| some ((([] ++ (cut b1 (0 : Int) r1.2.1)) ++ r2), 0)

noncomputable def hall_Add_m  (b1 : List Int) (line1 : List UInt8) : Option (List Int × Int) :=
  (hall_Open_m b1).bind fun r1 => if (r1.2.2 != 0) then (some (([] : List Int), r1.2.2)) else (if (decide ((255 : Int) < (line1.length : Int))) then (some (([] : List Int), 1)) else (if (decide ((4000 : Int) < (w64 ((w64 (r1.2.1 + 4)) + (line1.length : Int))))) then (some (([] : List Int), 2)) else ((hall_Add_J1 b1 line1 r1))))

set_option maxRecDepth 100000 in
set_option maxHeartbeats 4000000 in
theorem hall_Add_w {A1 : Option Addr} {c1 : Nat} {n1 : Nat} {b1 : List Int} {line1 : List UInt8} {r : (List Int × Int)} {w0 w : World} {B : Nat} {fs : List HP} (hm : hall_Add_m b1 line1 = some r) (hS : Sep w0 B w (fs)) (hr_b1 : RdF w0 B fs A1 ((List.map (Value.int .u8) b1))) (_hc_b1 : b1.length ≤ c1) (_hn_b1 : n1 = b1.length) :
    Calls Try.prog 15 #[.slice A1 n1 c1, strV line1] w fun e w' => ∃ v, e = .returned v ∧ ∃ (A6 : Option Addr) (c6 : Nat), v = .tuple #[.slice A6 r.1.length c6, .int .i64 r.2] ∧ Sep w0 B w' (own 5 (.slice A6 r.1.length c6) ((List.map (Value.int .u8) r.1)) :: fs) := by
  obtain ⟨i5, hi5, hz5, hs5, hb5⟩ := info_parts Info5
  obtain rfl := _hn_b1
  unfold hall_Add_m at hm
  replace hm := start_b hm
  refine enter (l := [.slice A1 b1.length c1, strV line1]) (n := 37) Try.func15 rfl rfl (by simp) (fun a hF => ?_)
  refine reg [] [] [0, 1] [pl 0 (.slice A1 b1.length c1), pl 1 (strV line1)] hF hS Fol (by kernel_rfl) (by kernel_rfl) (by kernel_rfl) ?_ (fun a w hF hS => ?_)
  · exact obs_nil
  refine seqR ?_
  obtain ⟨r1, hr1, hm⟩ := call_b hm
  refine at_run 1 [] [] [0, 1, 10] [pl 0 (.slice A1 b1.length c1), pl 1 (strV line1), pl 10 (.slice A1 b1.length c1)] hF hS (by kernel_rfl) (by kernel_rfl) ?_ (fun a w hF hS => ?_)
  · exact obs_nil
  refine at_call (f := 14) (args := #[.slice A1 b1.length c1]) (d := 11) hF (by kernel_rfl) (by kernel_rfl) Try.func14 (by kernel_rfl) rfl (hall_Open_w hr1 hS (fun _ hS => (hr_b1 _ (hS.dropN 0))) _hc_b1 rfl) (fun v a w hR hF => ?_)
  clear hS
  obtain ⟨A2, c2, rfl, hS⟩ := hR
  have hS : Sep w0 B w (own 9 (.slice A2 r1.1.length c2) ((List.map strV r1.1)) :: fs) := hS
  refine at_run 7 [] [] [0, 1, 7, 8] [pl 0 (.slice A1 b1.length c1), pl 1 (strV line1), pl 7 (.int .i64 r1.2.1), pl 8 (.int .i64 r1.2.2)] hF hS (by kernel_rfl) (by kernel_rfl) ?_ (fun a w hF hS => ?_)
  · exact obs_nil
  refine at_end [0, 1, 7, 8] [pl 0 (.slice A1 b1.length c1), pl 1 (strV line1), pl 7 (.int .i64 r1.2.1), pl 8 (.int .i64 r1.2.2)] hF rfl (by kernel_rfl) (fun hF => ?_)
  refine then_n ?_
  refine seq_cut (fun a w => Fr 37 [pl 0 (.slice A1 b1.length c1), pl 1 (strV line1), pl 7 (.int .i64 r1.2.1)] a ∧ Sep w0 B w (fs) ∧ ((hall_Add_J1 b1 line1 r1)).bind some = some r) ?_ ?_
  · rintro a w ⟨hF, hS, hm⟩
    unfold hall_Add_J1 at hm
    refine seqR ?_
    obtain ⟨hp1, hm⟩ := asrt_b hm
    obtain ⟨hp2, hm⟩ := asrt_b hm
    obtain ⟨r2, hr2, hm⟩ := call_b hm
    obtain ⟨hp3, hm⟩ := asrt_b hm
    refine at_run 3 [⟨true, [], vS (Instr.sliceAt 23 (.slice A1 b1.length c1) none (some (.int .i64 r1.2.1)) none), .slice (cutAddr A1 c1 (0 : Int)) ((cut b1 (0 : Int) r1.2.1).length) (c1 - Int.toNat (0 : Int))⟩] [none, none, some (.slice (cutAddr A1 c1 (0 : Int)) ((cut b1 (0 : Int) r1.2.1).length) (c1 - Int.toNat (0 : Int)))] [1, 32] [pl 1 (strV line1), pl 32 (.slice (cutAddr A1 c1 (0 : Int)) ((cut b1 (0 : Int) r1.2.1).length) (c1 - Int.toNat (0 : Int)))] hF hS (by kernel_rfl) (by kernel_rfl) ?_ (fun a w hF hS => ?_)
    · exact obs_cons (ob_cutn (l := b1) (k := .i64) (k' := .i64) Und23 hi5 hs5 rfl (.inr ⟨rfl, rfl⟩) (.inl rfl) (fun _ => hp1) _hc_b1) <| obs_nil
    have hS : Sep w0 B w (own 5 (.slice none 0 0) ((List.map (Value.int .u8) ([] : List Int))) :: fs) := hS.nil 5
    obtain ⟨A3, c3, w, hrun, hS⟩ := run_appG (P := Try.prog) (t := 23) (m := ([] : List Int)) (ys := (cut b1 (0 : Int) r1.2.1)) (A2 := (cutAddr A1 c1 (0 : Int))) (m2 := (cut b1 (0 : Int) r1.2.1).length) (c2 := (c1 - Int.toNat (0 : Int))) (Value.int .u8) (0 : Int) 140737488355328 (hS.at_ 0 rfl) (Rd.cutF (hr_b1 _ (hS.dropN 1)) hp1 _hc_b1) rfl 23 Und23 hi5 hz5 hs5 (by rw [hb5]; decide) (by decide) rfl (fun _ => rfl) hp2
    have hS : Sep w0 B w (own 5 (.slice A3 (([] ++ (cut b1 (0 : Int) r1.2.1)).length) c3) ((List.map (Value.int .u8) ([] ++ (cut b1 (0 : Int) r1.2.1)))) :: fs) := hS
    refine at_do (d := 33) hF (by kernel_rfl) (by kernel_rfl) hrun (fun a hF => ?_)
    refine at_run 1 [] [] [33, 34] [pl 33 (.slice A3 (([] ++ (cut b1 (0 : Int) r1.2.1)).length) c3), pl 34 (strV line1)] hF hS (by kernel_rfl) (by kernel_rfl) ?_ (fun a w hF hS => ?_)
    · exact obs_nil
    refine at_call (f := 65) (args := #[strV line1]) (d := 35) hF (by kernel_rfl) (by kernel_rfl) Try.func65 (by kernel_rfl) rfl (hall_entry_w hr2 hS ) (fun v a w hR hF => ?_)
    clear hS
    obtain ⟨A4, c4, rfl, hS⟩ := hR
    have hS : Sep w0 B w (own 5 (.slice A4 r2.length c4) ((List.map (Value.int .u8) r2)) :: own 5 (.slice A3 (([] ++ (cut b1 (0 : Int) r1.2.1)).length) c3) ((List.map (Value.int .u8) ([] ++ (cut b1 (0 : Int) r1.2.1)))) :: fs) := hS
    obtain ⟨A5, c5, w, hrun, hS⟩ := run_appG (P := Try.prog) (t := 23) (m := ([] ++ (cut b1 (0 : Int) r1.2.1))) (ys := r2) (A2 := A4) (m2 := r2.length) (c2 := c4) (Value.int .u8) (0 : Int) 140737488355328 (hS.at_ 1 rfl) (hS.at_ 0 rfl).rd rfl 23 Und23 hi5 hz5 hs5 (by rw [hb5]; decide) (by decide) rfl (fun _ => rfl) hp3
    have hS : Sep w0 B w (own 5 (.slice A4 r2.length c4) ((List.map (Value.int .u8) r2)) :: own 5 (.slice A5 ((([] ++ (cut b1 (0 : Int) r1.2.1)) ++ r2).length) c5) ((List.map (Value.int .u8) (([] ++ (cut b1 (0 : Int) r1.2.1)) ++ r2))) :: fs) := hS
    refine at_do (d := 36) hF (by kernel_rfl) (by kernel_rfl) hrun (fun a hF => ?_)
    refine at_run 2 [] [] [4, 5] [pl 4 (.slice A5 ((([] ++ (cut b1 (0 : Int) r1.2.1)) ++ r2).length) c5), pl 5 (.int .i64 0)] hF hS (by kernel_rfl) (by kernel_rfl) ?_ (fun a w hF hS => ?_)
    · exact obs_nil
    refine at_end [4, 5] [pl 4 (.slice A5 ((([] ++ (cut b1 (0 : Int) r1.2.1)) ++ r2).length) c5), pl 5 (.int .i64 0)] hF rfl (by kernel_rfl) (fun hF => ?_)
    refine then_n ?_
    refine wpIn_ret ?_
    have hS := hS.pickN 2 [1] (by decide)
    have hm : some ((([] ++ (cut b1 (0 : Int) r1.2.1)) ++ r2), 0) = some r := hm
    obtain rfl := Option.some.inj hm
    exact retV (rs := [.tmp 4, .tmp 5]) (vs := [.slice A5 ((([] ++ (cut b1 (0 : Int) r1.2.1)) ++ r2).length) c5, .int .i64 0]) hF rfl (rv_t (by kernel_rfl) <| rv_t (by kernel_rfl) <| rv_nil) rfl ⟨_, rfl, A5, c5, rfl, hS⟩
  · refine wpIn_block ?_
    refine reg [] [] [0, 1, 7, 8, 15] [pl 0 (.slice A1 b1.length c1), pl 1 (strV line1), pl 7 (.int .i64 r1.2.1), pl 8 (.int .i64 r1.2.2), pl 15 (.bool (r1.2.2 != 0))] hF hS Fol (by kernel_rfl) (by kernel_rfl) (by kernel_rfl) ?_ (fun a w hF hS => ?_)
    · exact obs_nil
    refine cond_ev (t := 15) (b := (r1.2.2 != 0)) hF (by kernel_rfl) (fun hb => ?_) (fun hb => ?_)
    · replace hm := if_t hm hb
      refine reg [] [] [4, 5] [pl 4 (.slice none 0 0), pl 5 (.int .i64 r1.2.2)] hF hS Fol (by kernel_rfl) (by kernel_rfl) (by kernel_rfl) ?_ (fun a w hF hS => ?_)
      · exact obs_nil
      refine wpIn_ret ?_
      refine block_r (then_r ?_)
      have hS : Sep w0 B w (own 5 (.slice none 0 0) ((List.map (Value.int .u8) ([] : List Int))) :: own 9 (.slice A2 r1.1.length c2) ((List.map strV r1.1)) :: fs) := hS.nil 5
      have hl1 := (hS.at_ 0 rfl).len1
      have hS := (hS.at_ 0 rfl).reN hl1
      have hS : Sep w0 B w (own 5 (.slice none (([] : List Int).length) 0) ((List.map (Value.int .u8) ([] : List Int))) :: own 9 (.slice A2 r1.1.length c2) ((List.map strV r1.1)) :: fs) := hS
      have hS := hS.pickN 2 [0] (by decide)
      have hm : some (([] : List Int), r1.2.2) = some r := hm
      obtain rfl := Option.some.inj hm
      exact retV (rs := [.tmp 4, .tmp 5]) (vs := [.slice none (([] : List Int).length) 0, .int .i64 r1.2.2]) hF rfl (rv_t (by kernel_rfl) <| rv_t (by kernel_rfl) <| rv_nil) rfl ⟨_, rfl, none, 0, rfl, hS⟩
    · replace hm := if_f hm hb
      refine reg [⟨true, [], vS (Builtin.len_ #[9] 3 #[strV line1]), .int .i64 (line1.length : Int)⟩] [none, some (.int .i64 (line1.length : Int)), none, none] [0, 1, 7, 19] [pl 0 (.slice A1 b1.length c1), pl 1 (strV line1), pl 7 (.int .i64 r1.2.1), pl 19 (.bool (decide ((255 : Int) < (line1.length : Int))))] hF hS Fol (by kernel_rfl) (by kernel_rfl) (by kernel_rfl) ?_ (fun a w hF hS => ?_)
      · exact obs_cons (ob_slen (s := line1) (by kernel_rfl) 3) <| obs_nil
      refine cond_ev (t := 19) (b := decide ((255 : Int) < (line1.length : Int))) hF (by kernel_rfl) (fun hb => ?_) (fun hb => ?_)
      · replace hm := if_t hm hb
        refine reg [] [] [4, 5] [pl 4 (.slice none 0 0), pl 5 (.int .i64 1)] hF hS Fol (by kernel_rfl) (by kernel_rfl) (by kernel_rfl) ?_ (fun a w hF hS => ?_)
        · exact obs_nil
        refine wpIn_ret ?_
        refine block_r (then_r ?_)
        have hS : Sep w0 B w (own 5 (.slice none 0 0) ((List.map (Value.int .u8) ([] : List Int))) :: own 9 (.slice A2 r1.1.length c2) ((List.map strV r1.1)) :: fs) := hS.nil 5
        have hl2 := (hS.at_ 0 rfl).len1
        have hS := (hS.at_ 0 rfl).reN hl2
        have hS : Sep w0 B w (own 5 (.slice none (([] : List Int).length) 0) ((List.map (Value.int .u8) ([] : List Int))) :: own 9 (.slice A2 r1.1.length c2) ((List.map strV r1.1)) :: fs) := hS
        have hS := hS.pickN 2 [0] (by decide)
        have hm : some (([] : List Int), 1) = some r := hm
        obtain rfl := Option.some.inj hm
        exact retV (rs := [.tmp 4, .tmp 5]) (vs := [.slice none (([] : List Int).length) 0, .int .i64 1]) hF rfl (rv_t (by kernel_rfl) <| rv_t (by kernel_rfl) <| rv_nil) rfl ⟨_, rfl, none, 0, rfl, hS⟩
      · replace hm := if_f hm hb
        refine reg [⟨true, [], vS (Builtin.len_ #[9] 3 #[strV line1]), .int .i64 (line1.length : Int)⟩] [none, none, none, some (.int .i64 (line1.length : Int)), none, none, none] [0, 1, 7, 23] [pl 0 (.slice A1 b1.length c1), pl 1 (strV line1), pl 7 (.int .i64 r1.2.1), pl 23 (.bool (decide ((4000 : Int) < (w64 ((w64 (r1.2.1 + 4)) + (line1.length : Int))))))] hF hS Fol (by kernel_rfl) (by kernel_rfl) (by kernel_rfl) ?_ (fun a w hF hS => ?_)
        · exact obs_cons (ob_slen (s := line1) (by kernel_rfl) 3) <| obs_nil
        refine cond_ev (t := 23) (b := decide ((4000 : Int) < (w64 ((w64 (r1.2.1 + 4)) + (line1.length : Int))))) hF (by kernel_rfl) (fun hb => ?_) (fun hb => ?_)
        · replace hm := if_t hm hb
          refine reg [] [] [4, 5] [pl 4 (.slice none 0 0), pl 5 (.int .i64 2)] hF hS Fol (by kernel_rfl) (by kernel_rfl) (by kernel_rfl) ?_ (fun a w hF hS => ?_)
          · exact obs_nil
          refine wpIn_ret ?_
          refine block_r (then_r ?_)
          have hS : Sep w0 B w (own 5 (.slice none 0 0) ((List.map (Value.int .u8) ([] : List Int))) :: own 9 (.slice A2 r1.1.length c2) ((List.map strV r1.1)) :: fs) := hS.nil 5
          have hl3 := (hS.at_ 0 rfl).len1
          have hS := (hS.at_ 0 rfl).reN hl3
          have hS : Sep w0 B w (own 5 (.slice none (([] : List Int).length) 0) ((List.map (Value.int .u8) ([] : List Int))) :: own 9 (.slice A2 r1.1.length c2) ((List.map strV r1.1)) :: fs) := hS
          have hS := hS.pickN 2 [0] (by decide)
          have hm : some (([] : List Int), 2) = some r := hm
          obtain rfl := Option.some.inj hm
          exact retV (rs := [.tmp 4, .tmp 5]) (vs := [.slice none (([] : List Int).length) 0, .int .i64 2]) hF rfl (rv_t (by kernel_rfl) <| rv_t (by kernel_rfl) <| rv_nil) rfl ⟨_, rfl, none, 0, rfl, hS⟩
        · replace hm := if_f hm hb
          refine wpIn_skip ?_
          refine block_n ?_
          refine then_n ?_
          have hS := hS.pickN 1 [] (by decide)
          exact ⟨hF.weak [0, 1, 7] (by kernel_rfl), hS, hm⟩

noncomputable def gameroomref_EntryOf_J3  (line1 : List UInt8) (sum1 : Int) (i1 : Int) (out3 : List Int) : Option (St (List Int × Int × Int) (List Int × Int)) :=
  some (.next (out3, (Int.tmod (w64 (sum1 + (w64 ((w64 (i1 + 1)) * (w64 (getU line1 i1)))))) 65521), (w64 (i1 + 1))))

noncomputable def gameroomref_EntryOf_J2  (line1 : List UInt8) (out1 : List Int) (sum1 : Int) (i1 : Int) : Option (St (List Int × Int × Int) (List Int × Int)) :=
  asrt (0 ≤ i1 ∧ i1 < (line1.length : Int)) <| asrt ((out1.length : Int) + 1 ≤ bigB) <| asrt (0 ≤ i1 ∧ i1 < (line1.length : Int)) <| (gameroomref_EntryOf_J3 line1 sum1 i1) (out1 ++ ([getU line1 i1] : List Int))

noncomputable def gameroomref_EntryOf_J1  (out2 : List Int) (sum2 : Int) : Option (List Int) :=
  asrt ((out2.length : Int) + 2 ≤ bigB) <| some (out2 ++ ([IntKind.wrap .u8 (w64 (Int.tdiv sum2 256)), IntKind.wrap .u8 (Int.tmod sum2 256)] : List Int))

noncomputable def gameroomref_EntryOf_K1  : (List Int × Int) → Option (List Int) :=
  fun (x : (List Int × Int)) => match x with | (out2, sum2) => gameroomref_EntryOf_J1 out2 sum2

noncomputable def gameroomref_EntryOf_L1  (line1 : List UInt8) : (List Int × Int × Int) → Option (St (List Int × Int × Int) (List Int × Int)) :=
  fun (x : (List Int × Int × Int)) => match x with | (out1, sum1, i1) => if (decide (i1 < (line1.length : Int))) then ((gameroomref_EntryOf_J2 line1 out1 sum1 i1)) else (some (.done (out1, sum1)))

noncomputable def gameroomref_EntryOf_m  (line1 : List UInt8) : Option (List Int) :=
  (loop (gameroomref_EntryOf_L1 line1) (([IntKind.wrap .u8 (line1.length : Int), IntKind.wrap .u8 (w64 (255 - (line1.length : Int)))] : List Int), 0, 0)).bind gameroomref_EntryOf_K1

set_option maxRecDepth 100000 in
set_option maxHeartbeats 4000000 in
theorem gameroomref_EntryOf_w {line1 : List UInt8} {r : (List Int)} {w0 w : World} {B : Nat} {fs : List HP} (hm : gameroomref_EntryOf_m line1 = some r) (hS : Sep w0 B w (fs)) :
    Calls Try.prog 19 #[strV line1] w fun e w' => ∃ v, e = .returned v ∧ ∃ (A6 : Option Addr) (c6 : Nat), v = .slice A6 r.length c6 ∧ Sep w0 B w' (own 5 (.slice A6 r.length c6) ((List.map (Value.int .u8) r)) :: fs) := by
  obtain ⟨i5, hi5, hz5, hs5, hb5⟩ := info_parts Info5
  unfold gameroomref_EntryOf_m at hm
  replace hm := start_b hm
  refine enter (l := [strV line1]) (n := 45) Try.func19 rfl rfl (by simp) (fun a hF => ?_)
  refine reg [] [] [0] [pl 0 (strV line1)] hF hS Fol (by kernel_rfl) (by kernel_rfl) (by kernel_rfl) ?_ (fun a w hF hS => ?_)
  · exact obs_nil
  refine seqR ?_
  refine at_run 7 [⟨true, [], vS (Builtin.len_ #[9] 3 #[strV line1]), .int .i64 (line1.length : Int)⟩, ⟨true, [], vS (Builtin.len_ #[9] 3 #[strV line1]), .int .i64 (line1.length : Int)⟩] [none, some (.int .i64 (line1.length : Int)), none, none, some (.int .i64 (line1.length : Int)), none, none] [0, 8, 12] [pl 0 (strV line1), pl 8 (.int .u8 (IntKind.wrap .u8 (line1.length : Int))), pl 12 (.int .u8 (IntKind.wrap .u8 (w64 (255 - (line1.length : Int)))))] hF hS (by kernel_rfl) (by kernel_rfl) ?_ (fun a w hF hS => ?_)
  · exact obs_cons (ob_slen (s := line1) (by kernel_rfl) 3) <| obs_cons (ob_slen (s := line1) (by kernel_rfl) 3) <| obs_nil
  refine at_do (d := 13) (s := vS (Instr.buildSlice 23 2 #[(0, .int .u8 (IntKind.wrap .u8 (line1.length : Int))), (1, .int .u8 (IntKind.wrap .u8 (w64 (255 - (line1.length : Int)))))])) (v := .slice (some ⟨w.heap.size, 0, none⟩) 2 2) (w' := w.alloc (.cells #[.int .u8 (IntKind.wrap .u8 (line1.length : Int)), .int .u8 (IntKind.wrap .u8 (w64 (255 - (line1.length : Int))))] 5)) hF (by kernel_rfl) (by kernel_rfl) (by kernel_rfl) (fun a hF => ?_)
  have hS : Sep w0 B (w.alloc (.cells #[.int .u8 (IntKind.wrap .u8 (line1.length : Int)), .int .u8 (IntKind.wrap .u8 (w64 (255 - (line1.length : Int))))] 5)) (own 5 (.slice (some (⟨w.heap.size, 0, none⟩ : Addr)) 2 2) ((List.map (Value.int .u8) ([IntKind.wrap .u8 (line1.length : Int), IntKind.wrap .u8 (w64 (255 - (line1.length : Int)))] : List Int))) :: (fs)) := hS.lit 5 #[.int .u8 (IntKind.wrap .u8 (line1.length : Int)), .int .u8 (IntKind.wrap .u8 (w64 (255 - (line1.length : Int))))] 2 rfl (by omega)
  generalize (some (⟨w.heap.size, 0, none⟩ : Addr)) = g1 at hF hS
  generalize w.alloc (.cells #[.int .u8 (IntKind.wrap .u8 (line1.length : Int)), .int .u8 (IntKind.wrap .u8 (w64 (255 - (line1.length : Int))))] 5) = w at hS ⊢
  refine at_run 1 [] [] [0, 3] [pl 0 (strV line1), pl 3 (.slice g1 2 2)] hF hS (by kernel_rfl) (by kernel_rfl) ?_ (fun a w hF hS => ?_)
  · exact obs_nil
  refine at_end [0, 3] [pl 0 (strV line1), pl 3 (.slice g1 2 2)] hF rfl (by kernel_rfl) (fun hF => ?_)
  refine then_n ?_
  refine reg [] [] [0, 3, 4] [pl 0 (strV line1), pl 3 (.slice g1 2 2), pl 4 (.int .i64 0)] hF hS Fol (by kernel_rfl) (by kernel_rfl) (by kernel_rfl) ?_ (fun a w hF hS => ?_)
  · exact obs_nil
  refine seq_cut (fun a w => ∃ (out2 : List Int) (sum2 : Int) (A2 : Option Addr) (c2 : Nat), Fr 45 [pl 3 (.slice A2 out2.length c2), pl 4 (.int .i64 sum2)] a ∧ Sep w0 B w (own 5 (.slice A2 out2.length c2) ((List.map (Value.int .u8) out2)) :: fs) ∧ (gameroomref_EntryOf_J1 out2 sum2).bind some = some r) ?_ ?_
  · rintro a w ⟨out2, sum2, A2, c2, hF, hS, hm⟩
    unfold gameroomref_EntryOf_J1 at hm
    refine seqR ?_
    obtain ⟨hp4, hm⟩ := asrt_b hm
    refine at_run 7 [] [] [36, 39, 42] [pl 36 (.slice A2 out2.length c2), pl 39 (.int .u8 (IntKind.wrap .u8 (w64 (Int.tdiv sum2 256)))), pl 42 (.int .u8 (IntKind.wrap .u8 (Int.tmod sum2 256)))] hF hS (by kernel_rfl) (by kernel_rfl) ?_ (fun a w hF hS => ?_)
    · exact obs_nil
    refine at_do (d := 43) (s := vS (Instr.buildSlice 23 2 #[(0, .int .u8 (IntKind.wrap .u8 (w64 (Int.tdiv sum2 256)))), (1, .int .u8 (IntKind.wrap .u8 (Int.tmod sum2 256)))])) (v := .slice (some ⟨w.heap.size, 0, none⟩) 2 2) (w' := w.alloc (.cells #[.int .u8 (IntKind.wrap .u8 (w64 (Int.tdiv sum2 256))), .int .u8 (IntKind.wrap .u8 (Int.tmod sum2 256))] 5)) hF (by kernel_rfl) (by kernel_rfl) (by kernel_rfl) (fun a hF => ?_)
    have hS : Sep w0 B (w.alloc (.cells #[.int .u8 (IntKind.wrap .u8 (w64 (Int.tdiv sum2 256))), .int .u8 (IntKind.wrap .u8 (Int.tmod sum2 256))] 5)) (own 5 (.slice (some (⟨w.heap.size, 0, none⟩ : Addr)) 2 2) ((List.map (Value.int .u8) ([IntKind.wrap .u8 (w64 (Int.tdiv sum2 256)), IntKind.wrap .u8 (Int.tmod sum2 256)] : List Int))) :: (own 5 (.slice A2 out2.length c2) ((List.map (Value.int .u8) out2)) :: fs)) := hS.lit 5 #[.int .u8 (IntKind.wrap .u8 (w64 (Int.tdiv sum2 256))), .int .u8 (IntKind.wrap .u8 (Int.tmod sum2 256))] 2 rfl (by omega)
    generalize (some (⟨w.heap.size, 0, none⟩ : Addr)) = g3 at hF hS
    generalize w.alloc (.cells #[.int .u8 (IntKind.wrap .u8 (w64 (Int.tdiv sum2 256))), .int .u8 (IntKind.wrap .u8 (Int.tmod sum2 256))] 5) = w at hS ⊢
    obtain ⟨A5, c5, w, hrun, hS⟩ := run_appG (P := Try.prog) (t := 23) (m := out2) (ys := ([IntKind.wrap .u8 (w64 (Int.tdiv sum2 256)), IntKind.wrap .u8 (Int.tmod sum2 256)] : List Int)) (A2 := g3) (m2 := 2) (c2 := 2) (Value.int .u8) (0 : Int) 140737488355328 (hS.at_ 1 rfl) (hS.at_ 0 rfl).rd ((hS.at_ 0 rfl).len1) 23 Und23 hi5 hz5 hs5 (by rw [hb5]; decide) (by decide) rfl (fun _ => rfl) hp4
    have hS : Sep w0 B w (own 5 (.slice g3 2 2) ((List.map (Value.int .u8) ([IntKind.wrap .u8 (w64 (Int.tdiv sum2 256)), IntKind.wrap .u8 (Int.tmod sum2 256)] : List Int))) :: own 5 (.slice A5 ((out2 ++ ([IntKind.wrap .u8 (w64 (Int.tdiv sum2 256)), IntKind.wrap .u8 (Int.tmod sum2 256)] : List Int)).length) c5) ((List.map (Value.int .u8) (out2 ++ ([IntKind.wrap .u8 (w64 (Int.tdiv sum2 256)), IntKind.wrap .u8 (Int.tmod sum2 256)] : List Int)))) :: fs) := hS
    refine at_do (d := 44) hF (by kernel_rfl) (by kernel_rfl) hrun (fun a hF => ?_)
    refine at_run 1 [] [] [2] [pl 2 (.slice A5 ((out2 ++ ([IntKind.wrap .u8 (w64 (Int.tdiv sum2 256)), IntKind.wrap .u8 (Int.tmod sum2 256)] : List Int)).length) c5)] hF hS (by kernel_rfl) (by kernel_rfl) ?_ (fun a w hF hS => ?_)
    · exact obs_nil
    refine at_end [2] [pl 2 (.slice A5 ((out2 ++ ([IntKind.wrap .u8 (w64 (Int.tdiv sum2 256)), IntKind.wrap .u8 (Int.tmod sum2 256)] : List Int)).length) c5)] hF rfl (by kernel_rfl) (fun hF => ?_)
    refine then_n ?_
    refine wpIn_ret ?_
    have hS := hS.pickN 2 [1] (by decide)
    have hm : some (out2 ++ ([IntKind.wrap .u8 (w64 (Int.tdiv sum2 256)), IntKind.wrap .u8 (Int.tmod sum2 256)] : List Int)) = some r := hm
    obtain rfl := Option.some.inj hm
    exact retV (rs := [.tmp 2]) (vs := [.slice A5 ((out2 ++ ([IntKind.wrap .u8 (w64 (Int.tdiv sum2 256)), IntKind.wrap .u8 (Int.tmod sum2 256)] : List Int)).length) c5]) hF rfl (rv_t (by kernel_rfl) <| rv_nil) rfl ⟨_, rfl, A5, c5, rfl, hS⟩
  · refine reg [] [] [0, 3, 4, 5] [pl 0 (strV line1), pl 3 (.slice g1 2 2), pl 4 (.int .i64 0), pl 5 (.int .i64 0)] hF hS Fol (by kernel_rfl) (by kernel_rfl) (by kernel_rfl) ?_ (fun a w hF hS => ?_)
    · exact obs_nil
    refine wpIn_block ?_
    have hl1 := (hS.at_ 0 rfl).len1
    have hS := (hS.at_ 0 rfl).reN hl1
    have hS : Sep w0 B w (own 5 (.slice g1 (([IntKind.wrap .u8 (line1.length : Int), IntKind.wrap .u8 (w64 (255 - (line1.length : Int)))] : List Int).length) 2) ((List.map (Value.int .u8) ([IntKind.wrap .u8 (line1.length : Int), IntKind.wrap .u8 (w64 (255 - (line1.length : Int)))] : List Int))) :: fs) := hS
    have hF := hF.cast (t := 3) (v := .slice g1 2 2) (v' := .slice g1 (([IntKind.wrap .u8 (line1.length : Int), IntKind.wrap .u8 (w64 (255 - (line1.length : Int)))] : List Int).length) 2) rfl rfl (congrArg (fun k => Value.slice g1 k 2) hl1)
    refine wp_loop_model (S := (List Int × Int × Int)) (R := (List Int × Int)) (gameroomref_EntryOf_L1 line1) (fun x => (gameroomref_EntryOf_K1 x).bind some) r (fun (x : (List Int × Int × Int)) a w => ∃ (A1 : Option Addr) (c1 : Nat), Fr 45 [pl 0 (strV line1), pl 3 (.slice A1 x.1.length c1), pl 4 (.int .i64 x.2.1), pl 5 (.int .i64 x.2.2)] a ∧ Sep w0 B w (own 5 (.slice A1 x.1.length c1) ((List.map (Value.int .u8) x.1)) :: fs)) (assoc_b hm) ⟨g1, 2, hF.weak [0, 3, 4, 5] (by kernel_rfl), hS⟩ ?_
    clear hF hS hm
    rintro nn1 ⟨out1, sum1, i1⟩ a w ⟨A1, c1, hF, hS⟩ hm
    generalize hφ1 : stK (gameroomref_EntryOf_L1 line1) nn1 (fun x => (gameroomref_EntryOf_K1 x).bind some) = φ1 at hm
    unfold gameroomref_EntryOf_L1 at hm
    dsimp only at hF hS hm
    refine seq_cut (fun a w => Fr 45 [pl 0 (strV line1), pl 3 (.slice A1 out1.length c1), pl 4 (.int .i64 sum1), pl 5 (.int .i64 i1)] a ∧ Sep w0 B w (own 5 (.slice A1 out1.length c1) ((List.map (Value.int .u8) out1)) :: fs) ∧ ((gameroomref_EntryOf_J2 line1 out1 sum1 i1)).bind φ1 = some r) ?_ ?_
    · rintro a w ⟨hF, hS, hm⟩
      unfold gameroomref_EntryOf_J2 at hm
      refine seq_cut (fun a w => ∃ (out3 : List Int) (A4 : Option Addr) (c4 : Nat), Fr 45 [pl 0 (strV line1), pl 3 (.slice A4 out3.length c4), pl 4 (.int .i64 (Int.tmod (w64 (sum1 + (w64 ((w64 (i1 + 1)) * (w64 (getU line1 i1)))))) 65521)), pl 5 (.int .i64 i1)] a ∧ Sep w0 B w (own 5 (.slice A4 out3.length c4) ((List.map (Value.int .u8) out3)) :: fs) ∧ ((gameroomref_EntryOf_J3 line1 sum1 i1) out3).bind φ1 = some r) ?_ ?_
      · rintro a w ⟨out3, A4, c4, hF, hS, hm⟩
        unfold gameroomref_EntryOf_J3 at hm
        refine reg1 [] [] [0, 3, 4, 5] [pl 0 (strV line1), pl 3 (.slice A4 out3.length c4), pl 4 (.int .i64 (Int.tmod (w64 (sum1 + (w64 ((w64 (i1 + 1)) * (w64 (getU line1 i1)))))) 65521)), pl 5 (.int .i64 (w64 (i1 + 1)))] hF hS Fol (by kernel_rfl) (by kernel_rfl) (by kernel_rfl) ?_ (fun a w hF hS => ?_)
        · exact obs_nil
        refine then_n ?_
        rw [← hφ1] at hm
        exact ⟨(out3, (Int.tmod (w64 (sum1 + (w64 ((w64 (i1 + 1)) * (w64 (getU line1 i1)))))) 65521), (w64 (i1 + 1))), ⟨A4, c4, hF.weak [0, 3, 4, 5] (by kernel_rfl), hS⟩, hm⟩
      · refine wpIn_block ?_
        refine seqR ?_
        obtain ⟨hp1, hm⟩ := asrt_b hm
        obtain ⟨hp2, hm⟩ := asrt_b hm
        refine at_run 4 [⟨true, [], vS (Instr.index 9 (strV line1) (.int .i64 i1)), .int .u8 (getU line1 i1)⟩] [none, none, none, some (.int .u8 (getU line1 i1))] [0, 4, 5, 20, 23] [pl 0 (strV line1), pl 4 (.int .i64 sum1), pl 5 (.int .i64 i1), pl 20 (.slice A1 out1.length c1), pl 23 (.int .u8 (getU line1 i1))] hF hS (by kernel_rfl) (by kernel_rfl) ?_ (fun a w hF hS => ?_)
        · exact obs_cons (ob_sidx (s := line1) (by kernel_rfl) (fun _ => hp1)) <| obs_nil
        refine at_do (d := 24) (s := vS (Instr.buildSlice 23 1 #[(0, .int .u8 (getU line1 i1))])) (v := .slice (some ⟨w.heap.size, 0, none⟩) 1 1) (w' := w.alloc (.cells #[.int .u8 (getU line1 i1)] 5)) hF (by kernel_rfl) (by kernel_rfl) (by kernel_rfl) (fun a hF => ?_)
        have hS : Sep w0 B (w.alloc (.cells #[.int .u8 (getU line1 i1)] 5)) (own 5 (.slice (some (⟨w.heap.size, 0, none⟩ : Addr)) 1 1) ((List.map (Value.int .u8) ([getU line1 i1] : List Int))) :: (own 5 (.slice A1 out1.length c1) ((List.map (Value.int .u8) out1)) :: fs)) := hS.lit 5 #[.int .u8 (getU line1 i1)] 1 rfl (by omega)
        generalize (some (⟨w.heap.size, 0, none⟩ : Addr)) = g2 at hF hS
        generalize w.alloc (.cells #[.int .u8 (getU line1 i1)] 5) = w at hS ⊢
        obtain ⟨A3, c3, w, hrun, hS⟩ := run_appG (P := Try.prog) (t := 23) (m := out1) (ys := ([getU line1 i1] : List Int)) (A2 := g2) (m2 := 1) (c2 := 1) (Value.int .u8) (0 : Int) 140737488355328 (hS.at_ 1 rfl) (hS.at_ 0 rfl).rd ((hS.at_ 0 rfl).len1) 23 Und23 hi5 hz5 hs5 (by rw [hb5]; decide) (by decide) rfl (fun _ => rfl) hp2
        have hS : Sep w0 B w (own 5 (.slice g2 1 1) ((List.map (Value.int .u8) ([getU line1 i1] : List Int))) :: own 5 (.slice A3 ((out1 ++ ([getU line1 i1] : List Int)).length) c3) ((List.map (Value.int .u8) (out1 ++ ([getU line1 i1] : List Int)))) :: fs) := hS
        refine at_do (d := 25) hF (by kernel_rfl) (by kernel_rfl) hrun (fun a hF => ?_)
        refine at_run 1 [] [] [0, 3, 4, 5] [pl 0 (strV line1), pl 3 (.slice A3 ((out1 ++ ([getU line1 i1] : List Int)).length) c3), pl 4 (.int .i64 sum1), pl 5 (.int .i64 i1)] hF hS (by kernel_rfl) (by kernel_rfl) ?_ (fun a w hF hS => ?_)
        · exact obs_nil
        refine at_end [0, 3, 4, 5] [pl 0 (strV line1), pl 3 (.slice A3 ((out1 ++ ([getU line1 i1] : List Int)).length) c3), pl 4 (.int .i64 sum1), pl 5 (.int .i64 i1)] hF rfl (by kernel_rfl) (fun hF => ?_)
        refine then_n ?_
        obtain ⟨hp3, hm⟩ := asrt_b hm
        refine reg1 [⟨true, [], vS (Instr.index 9 (strV line1) (.int .i64 i1)), .int .u8 (getU line1 i1)⟩] [none, none, none, none, none, some (.int .u8 (getU line1 i1)), none, none, none, none, none] [0, 3, 4, 5] [pl 0 (strV line1), pl 3 (.slice A3 ((out1 ++ ([getU line1 i1] : List Int)).length) c3), pl 4 (.int .i64 (Int.tmod (w64 (sum1 + (w64 ((w64 (i1 + 1)) * (w64 (getU line1 i1)))))) 65521)), pl 5 (.int .i64 i1)] hF hS Fol (by kernel_rfl) (by kernel_rfl) (by kernel_rfl) ?_ (fun a w hF hS => ?_)
        · exact obs_cons (ob_sidx (s := line1) (by kernel_rfl) (fun _ => hp3)) <| obs_nil
        refine block_n ?_
        refine then_n ?_
        have hS := hS.pickN 2 [1] (by decide)
        exact ⟨(out1 ++ ([getU line1 i1] : List Int)), A3, c3, hF.weak [0, 3, 4, 5] (by kernel_rfl), hS, hm⟩
    · refine reg [⟨true, [], vS (Builtin.len_ #[9] 3 #[strV line1]), .int .i64 (line1.length : Int)⟩] [none, none, some (.int .i64 (line1.length : Int)), none] [0, 3, 4, 5, 17] [pl 0 (strV line1), pl 3 (.slice A1 out1.length c1), pl 4 (.int .i64 sum1), pl 5 (.int .i64 i1), pl 17 (.bool (decide (i1 < (line1.length : Int))))] hF hS Fol (by kernel_rfl) (by kernel_rfl) (by kernel_rfl) ?_ (fun a w hF hS => ?_)
      · exact obs_cons (ob_slen (s := line1) (by kernel_rfl) 3) <| obs_nil
      refine cond_ev (t := 17) (b := decide (i1 < (line1.length : Int))) hF (by kernel_rfl) (fun hb => ?_) (fun hb => ?_)
      · replace hm := if_t hm hb
        refine wpIn_skip ?_
        refine then_n ?_
        exact ⟨hF.weak [0, 3, 4, 5] (by kernel_rfl), hS, hm⟩
      · replace hm := if_f hm hb
        refine wpIn_exit ?_
        refine then_e (then_e (block_e (then_n ?_)))
        rw [← hφ1] at hm
        replace hm := done_b hm
        unfold gameroomref_EntryOf_K1 at hm
        try dsimp only at hm
        have hm : (gameroomref_EntryOf_J1 out1 sum1).bind some = some r := hm
        exact ⟨out1, sum1, A1, c1, hF.weak [3, 4] (by kernel_rfl), hS, hm⟩

noncomputable def gameroomref_BookOf_J3  (i1 : Int) : Option (St Int (Fl Unit (List Int × Int))) :=
  some (.next (w64 (i1 + 1)))

noncomputable def gameroomref_BookOf_J2  (lines1 : List (List UInt8)) (i1 : Int) : Option (St Int (Fl Unit (List Int × Int))) :=
  asrt (0 ≤ i1 ∧ i1 < (lines1.length : Int)) <| if (decide ((255 : Int) < ((getd ([] : List UInt8) lines1 i1).length : Int))) then (some (.done (.ret (([] : List Int), 1)))) else ((gameroomref_BookOf_J3 i1))

noncomputable def gameroomref_BookOf_J6  (i2 : Int) (out3 : List Int) : Option (St (List Int × Int) (Fl (List Int) (List Int × Int))) :=
  some (.next (out3, (w64 (i2 + 1))))

noncomputable def gameroomref_BookOf_J5  (lines1 : List (List UInt8)) (out1 : List Int) (i2 : Int) : Option (St (List Int × Int) (Fl (List Int) (List Int × Int))) :=
  asrt (0 ≤ i2 ∧ i2 < (lines1.length : Int)) <| (gameroomref_EntryOf_m (getd ([] : List UInt8) lines1 i2)).bind fun r1 => asrt ((out1.length : Int) + (r1.length : Int) ≤ bigB) <| if (decide ((4000 : Int) < (((out1 ++ r1).length : Nat) : Int))) then (some (.done (.ret (([] : List Int), 2)))) else ((gameroomref_BookOf_J6 i2) (out1 ++ r1))

noncomputable def gameroomref_BookOf_L2  (lines1 : List (List UInt8)) : (List Int × Int) → Option (St (List Int × Int) (Fl (List Int) (List Int × Int))) :=
  fun (x : (List Int × Int)) => match x with | (out1, i2) => if (decide (i2 < (lines1.length : Int))) then ((gameroomref_BookOf_J5 lines1 out1 i2)) else (some (.done (.go out1)))

noncomputable def gameroomref_BookOf_J4  (out2 : List Int) : Option (List Int × Int) :=
  some (out2, 0)

noncomputable def gameroomref_BookOf_K2  : (Fl (List Int) (List Int × Int)) → Option (List Int × Int) :=
  fun (x : (Fl (List Int) (List Int × Int))) => match x with | .go out2 => gameroomref_BookOf_J4 out2 | .ret x => some x

noncomputable def gameroomref_BookOf_J1  (lines1 : List (List UInt8)) : Option (List Int × Int) :=
  (loop (gameroomref_BookOf_L2 lines1) (([72, 65, 76, 76] : List Int), 0)).bind gameroomref_BookOf_K2

noncomputable def gameroomref_BookOf_K1  (lines1 : List (List UInt8)) : (Fl Unit (List Int × Int)) → Option (List Int × Int) :=
  fun (x : (Fl Unit (List Int × Int))) => match x with | .go _ => (gameroomref_BookOf_J1 lines1) | .ret x => some x

noncomputable def gameroomref_BookOf_L1  (lines1 : List (List UInt8)) : Int → Option (St Int (Fl Unit (List Int × Int))) :=
  fun (x : Int) => match x with | i1 => if (decide (i1 < (lines1.length : Int))) then ((gameroomref_BookOf_J2 lines1 i1)) else (some (.done (.go ())))

noncomputable def gameroomref_BookOf_m  (lines1 : List (List UInt8)) : Option (List Int × Int) :=
  (loop (gameroomref_BookOf_L1 lines1) 0).bind (gameroomref_BookOf_K1 lines1)

set_option maxRecDepth 100000 in
set_option maxHeartbeats 4000000 in
theorem gameroomref_BookOf_w {A1 : Option Addr} {c1 : Nat} {n1 : Nat} {lines1 : List (List UInt8)} {r : (List Int × Int)} {w0 w : World} {B : Nat} {fs : List HP} (hm : gameroomref_BookOf_m lines1 = some r) (hS : Sep w0 B w (fs)) (hr_lines1 : RdF w0 B fs A1 ((List.map strV lines1))) (_hc_lines1 : lines1.length ≤ c1) (_hn_lines1 : n1 = lines1.length) :
    Calls Try.prog 16 #[.slice A1 n1 c1] w fun e w' => ∃ v, e = .returned v ∧ ∃ (A7 : Option Addr) (c7 : Nat), v = .tuple #[.slice A7 r.1.length c7, .int .i64 r.2] ∧ Sep w0 B w' (view (.slice A7 r.1.length c7) (List.map (Value.int .u8) r.1) :: fs) := by
  obtain ⟨i5, hi5, hz5, hs5, hb5⟩ := info_parts Info5
  obtain ⟨i9, hi9, hz9, hs9, hb9⟩ := info_parts Info9
  obtain rfl := _hn_lines1
  unfold gameroomref_BookOf_m at hm
  replace hm := start_b hm
  refine enter (l := [.slice A1 lines1.length c1]) (n := 38) Try.func16 rfl rfl (by simp) (fun a hF => ?_)
  refine reg [] [] [0] [pl 0 (.slice A1 lines1.length c1)] hF hS Fol (by kernel_rfl) (by kernel_rfl) (by kernel_rfl) ?_ (fun a w hF hS => ?_)
  · exact obs_nil
  refine seqR ?_
  refine at_do (d := 7) (s := vS (Instr.buildSlice 23 4 #[(0, .int .u8 72), (1, .int .u8 65), (2, .int .u8 76), (3, .int .u8 76)])) (v := .slice (some ⟨w.heap.size, 0, none⟩) 4 4) (w' := w.alloc (.cells #[.int .u8 72, .int .u8 65, .int .u8 76, .int .u8 76] 5)) hF (by kernel_rfl) (by kernel_rfl) (by kernel_rfl) (fun a hF => ?_)
  have hS : Sep w0 B (w.alloc (.cells #[.int .u8 72, .int .u8 65, .int .u8 76, .int .u8 76] 5)) (own 5 (.slice (some (⟨w.heap.size, 0, none⟩ : Addr)) 4 4) ((List.map (Value.int .u8) ([72, 65, 76, 76] : List Int))) :: (fs)) := hS.lit 5 #[.int .u8 72, .int .u8 65, .int .u8 76, .int .u8 76] 4 rfl (by omega)
  generalize (some (⟨w.heap.size, 0, none⟩ : Addr)) = g1 at hF hS
  generalize w.alloc (.cells #[.int .u8 72, .int .u8 65, .int .u8 76, .int .u8 76] 5) = w at hS ⊢
  obtain ⟨w, hrun, hS⟩ := run_markS (P := Try.prog) (t := 23) (e := 5) (m := ([72, 65, 76, 76] : List Int)) (hS.at_ 0 rfl) (by kernel_rfl) (by kernel_rfl) (by decide) (by decide)
  have hS : Sep w0 B w (ownS 5 g1 4 4 ((List.map (Value.int .u8) ([72, 65, 76, 76] : List Int))) :: fs) := hS
  refine at_do (d := 8) hF (by kernel_rfl) (by kernel_rfl) hrun (fun a hF => ?_)
  refine at_run 1 [] [] [0, 4] [pl 0 (.slice A1 lines1.length c1), pl 4 (.slice g1 4 4)] hF hS (by kernel_rfl) (by kernel_rfl) ?_ (fun a w hF hS => ?_)
  · exact obs_nil
  refine at_end [0, 4] [pl 0 (.slice A1 lines1.length c1), pl 4 (.slice g1 4 4)] hF rfl (by kernel_rfl) (fun hF => ?_)
  refine then_n ?_
  refine seq_cut (fun a w => Fr 38 [pl 0 (.slice A1 lines1.length c1), pl 4 (.slice g1 4 4)] a ∧ Sep w0 B w (ownS 5 g1 4 4 ((List.map (Value.int .u8) ([72, 65, 76, 76] : List Int))) :: fs) ∧ ((gameroomref_BookOf_J1 lines1)).bind some = some r) ?_ ?_
  · rintro a w ⟨hF, hS, hm⟩
    unfold gameroomref_BookOf_J1 at hm
    refine seq_cut (fun a w => ∃ (out2 : List Int) (A3 : Option Addr) (c3 : Nat), Fr 38 [pl 4 (.slice A3 out2.length c3)] a ∧ Sep w0 B w (ownS 5 A3 out2.length c3 ((List.map (Value.int .u8) out2)) :: fs) ∧ (gameroomref_BookOf_J4 out2).bind some = some r) ?_ ?_
    · rintro a w ⟨out2, A3, c3, hF, hS, hm⟩
      unfold gameroomref_BookOf_J4 at hm
      refine reg [] [] [2, 3] [pl 2 (.slice A3 out2.length c3), pl 3 (.int .i64 0)] hF hS Fol (by kernel_rfl) (by kernel_rfl) (by kernel_rfl) ?_ (fun a w hF hS => ?_)
      · exact obs_nil
      refine wpIn_ret ?_
      have hS : Sep w0 B w (view (.slice A3 out2.length c3) (List.map (Value.int .u8) out2) :: fs) := (hS.at_ 0 rfl).asViewS
      have hm : some (out2, 0) = some r := hm
      obtain rfl := Option.some.inj hm
      exact retV (rs := [.tmp 2, .tmp 3]) (vs := [.slice A3 out2.length c3, .int .i64 0]) hF rfl (rv_t (by kernel_rfl) <| rv_t (by kernel_rfl) <| rv_nil) rfl ⟨_, rfl, A3, c3, rfl, hS⟩
    · refine reg [] [] [0, 4, 6] [pl 0 (.slice A1 lines1.length c1), pl 4 (.slice g1 4 4), pl 6 (.int .i64 0)] hF hS Fol (by kernel_rfl) (by kernel_rfl) (by kernel_rfl) ?_ (fun a w hF hS => ?_)
      · exact obs_nil
      refine wpIn_block ?_
      have hl2 := (hS.at_ 0 rfl).lenS
      have hS := (hS.at_ 0 rfl).reNS hl2
      have hS : Sep w0 B w (ownS 5 g1 (([72, 65, 76, 76] : List Int).length) 4 ((List.map (Value.int .u8) ([72, 65, 76, 76] : List Int))) :: fs) := hS
      have hF := hF.cast (t := 4) (v := .slice g1 4 4) (v' := .slice g1 (([72, 65, 76, 76] : List Int).length) 4) rfl rfl (congrArg (fun k => Value.slice g1 k 4) hl2)
      refine wp_loop_model (S := (List Int × Int)) (R := (Fl (List Int) (List Int × Int))) (gameroomref_BookOf_L2 lines1) (fun x => (gameroomref_BookOf_K2 x).bind some) r (fun (x : (List Int × Int)) a w => ∃ (A2 : Option Addr) (c2 : Nat), Fr 38 [pl 0 (.slice A1 lines1.length c1), pl 4 (.slice A2 x.1.length c2), pl 6 (.int .i64 x.2)] a ∧ Sep w0 B w (ownS 5 A2 x.1.length c2 ((List.map (Value.int .u8) x.1)) :: fs)) (assoc_b hm) ⟨g1, 4, hF.weak [0, 4, 6] (by kernel_rfl), hS⟩ ?_
      clear hF hS hm
      rintro nn2 ⟨out1, i2⟩ a w ⟨A2, c2, hF, hS⟩ hm
      generalize hφ2 : stK (gameroomref_BookOf_L2 lines1) nn2 (fun x => (gameroomref_BookOf_K2 x).bind some) = φ2 at hm
      unfold gameroomref_BookOf_L2 at hm
      dsimp only at hF hS hm
      refine seq_cut (fun a w => Fr 38 [pl 0 (.slice A1 lines1.length c1), pl 4 (.slice A2 out1.length c2), pl 6 (.int .i64 i2)] a ∧ Sep w0 B w (ownS 5 A2 out1.length c2 ((List.map (Value.int .u8) out1)) :: fs) ∧ ((gameroomref_BookOf_J5 lines1 out1 i2)).bind φ2 = some r) ?_ ?_
      · rintro a w ⟨hF, hS, hm⟩
        unfold gameroomref_BookOf_J5 at hm
        refine seq_cut (fun a w => ∃ (out3 : List Int) (A6 : Option Addr) (c6 : Nat), Fr 38 [pl 0 (.slice A1 lines1.length c1), pl 4 (.slice A6 out3.length c6), pl 6 (.int .i64 i2)] a ∧ Sep w0 B w (ownS 5 A6 out3.length c6 ((List.map (Value.int .u8) out3)) :: fs) ∧ ((gameroomref_BookOf_J6 i2) out3).bind φ2 = some r) ?_ ?_
        · rintro a w ⟨out3, A6, c6, hF, hS, hm⟩
          unfold gameroomref_BookOf_J6 at hm
          refine reg1 [] [] [0, 4, 6] [pl 0 (.slice A1 lines1.length c1), pl 4 (.slice A6 out3.length c6), pl 6 (.int .i64 (w64 (i2 + 1)))] hF hS Fol (by kernel_rfl) (by kernel_rfl) (by kernel_rfl) ?_ (fun a w hF hS => ?_)
          · exact obs_nil
          refine then_n ?_
          rw [← hφ2] at hm
          exact ⟨(out3, (w64 (i2 + 1))), ⟨A6, c6, hF.weak [0, 4, 6] (by kernel_rfl), hS⟩, hm⟩
        · refine wpIn_block ?_
          refine seqR ?_
          obtain ⟨hp2, hm⟩ := asrt_b hm
          obtain ⟨r1, hr1, hm⟩ := call_b hm
          obtain ⟨hp3, hm⟩ := asrt_b hm
          refine at_run 5 [⟨true, [], vS (Instr.indexAt 22 (.slice A1 lines1.length c1) (.int .i64 i2)), .pointer (some (sAddr A1 i2))⟩, ⟨false, [], vS (Instr.loadAt 9 (.pointer (some (sAddr A1 i2)))), strV (getd ([] : List UInt8) lines1 i2)⟩] [none, none, none, some (.pointer (some (sAddr A1 i2))), some (strV (getd ([] : List UInt8) lines1 i2))] [0, 6, 27, 31] [pl 0 (.slice A1 lines1.length c1), pl 6 (.int .i64 i2), pl 27 (.slice A2 out1.length c2), pl 31 (strV (getd ([] : List UInt8) lines1 i2))] hF hS (by kernel_rfl) (by kernel_rfl) ?_ (fun a w hF hS => ?_)
          · exact obs_cons (ob_ix1 (f := strV) (m := lines1) Und22 hi9 hs9 (hr_lines1 _ (hS.dropN 1)) rfl (fun _ => hp2)) <| obs_cons (ob_get1 (n := lines1.length) (m := lines1) strV ([] : List UInt8) Agg9 (fun _ hS => ⟨_, (hr_lines1 _ (hS.dropN 1))⟩) (fun _ hS => rfl) (fun _ => hp2)) <| obs_nil
          refine at_call (f := 19) (args := #[strV (getd ([] : List UInt8) lines1 i2)]) (d := 32) hF (by kernel_rfl) (by kernel_rfl) Try.func19 (by kernel_rfl) rfl (gameroomref_EntryOf_w hr1 hS ) (fun v a w hR hF => ?_)
          clear hS
          obtain ⟨A4, c4, rfl, hS⟩ := hR
          have hS : Sep w0 B w (own 5 (.slice A4 r1.length c4) ((List.map (Value.int .u8) r1)) :: ownS 5 A2 out1.length c2 ((List.map (Value.int .u8) out1)) :: fs) := hS
          obtain ⟨A5, c5, w, hrun, hS⟩ := run_appS (P := Try.prog) (t := 23) (m := out1) (ys := r1) (A2 := A4) (m2 := r1.length) (c2 := c4) (Value.int .u8) (0 : Int) 140737488355328 (hS.at_ 1 rfl) (hS.at_ 0 rfl).rd rfl 23 Und23 hi5 hz5 hs5 (by rw [hb5]; decide) (by decide) rfl (fun _ => rfl) hp3
          have hS : Sep w0 B w (own 5 (.slice A4 r1.length c4) ((List.map (Value.int .u8) r1)) :: ownS 5 A5 ((out1 ++ r1).length) c5 ((List.map (Value.int .u8) (out1 ++ r1))) :: fs) := hS
          refine at_do (d := 33) hF (by kernel_rfl) (by kernel_rfl) hrun (fun a hF => ?_)
          refine at_run 1 [] [] [0, 4, 6] [pl 0 (.slice A1 lines1.length c1), pl 4 (.slice A5 ((out1 ++ r1).length) c5), pl 6 (.int .i64 i2)] hF hS (by kernel_rfl) (by kernel_rfl) ?_ (fun a w hF hS => ?_)
          · exact obs_nil
          refine at_end [0, 4, 6] [pl 0 (.slice A1 lines1.length c1), pl 4 (.slice A5 ((out1 ++ r1).length) c5), pl 6 (.int .i64 i2)] hF rfl (by kernel_rfl) (fun hF => ?_)
          refine then_n ?_
          refine reg [] [] [0, 4, 6, 36] [pl 0 (.slice A1 lines1.length c1), pl 4 (.slice A5 ((out1 ++ r1).length) c5), pl 6 (.int .i64 i2), pl 36 (.bool (decide ((4000 : Int) < (((out1 ++ r1).length : Nat) : Int))))] hF hS Fol (by kernel_rfl) (by kernel_rfl) (by kernel_rfl) ?_ (fun a w hF hS => ?_)
          · exact obs_nil
          refine cond_ev (t := 36) (b := decide ((4000 : Int) < (((out1 ++ r1).length : Nat) : Int))) hF (by kernel_rfl) (fun hb => ?_) (fun hb => ?_)
          · replace hm := if_t hm hb
            refine reg [] [] [2, 3] [pl 2 (.slice none 0 0), pl 3 (.int .i64 2)] hF hS Fol (by kernel_rfl) (by kernel_rfl) (by kernel_rfl) ?_ (fun a w hF hS => ?_)
            · exact obs_nil
            refine wpIn_ret ?_
            refine block_r (then_r (then_r (block_r (then_r ?_))))
            rw [← hφ2] at hm
            replace hm := done_b hm
            unfold gameroomref_BookOf_K2 at hm
            try dsimp only at hm
            have hS : Sep w0 B w (own 5 (.slice none 0 0) ((List.map (Value.int .u8) ([] : List Int))) :: own 5 (.slice A4 r1.length c4) ((List.map (Value.int .u8) r1)) :: ownS 5 A5 ((out1 ++ r1).length) c5 ((List.map (Value.int .u8) (out1 ++ r1))) :: fs) := hS.nil 5
            have hl3 := (hS.at_ 0 rfl).len1
            have hS := (hS.at_ 0 rfl).reN hl3
            have hS : Sep w0 B w (own 5 (.slice none (([] : List Int).length) 0) ((List.map (Value.int .u8) ([] : List Int))) :: own 5 (.slice A4 r1.length c4) ((List.map (Value.int .u8) r1)) :: ownS 5 A5 ((out1 ++ r1).length) c5 ((List.map (Value.int .u8) (out1 ++ r1))) :: fs) := hS
            have hS : Sep w0 B w (view (.slice none (([] : List Int).length) 0) (List.map (Value.int .u8) ([] : List Int)) :: own 5 (.slice A4 r1.length c4) ((List.map (Value.int .u8) r1)) :: ownS 5 A5 ((out1 ++ r1).length) c5 ((List.map (Value.int .u8) (out1 ++ r1))) :: fs) := (hS.at_ 0 rfl).asView
            have hS := hS.pickN 3 [0] (by decide)
            have hm : some (([] : List Int), 2) = some r := hm
            obtain rfl := Option.some.inj hm
            exact retV (rs := [.tmp 2, .tmp 3]) (vs := [.slice none (([] : List Int).length) 0, .int .i64 2]) hF rfl (rv_t (by kernel_rfl) <| rv_t (by kernel_rfl) <| rv_nil) rfl ⟨_, rfl, none, 0, rfl, hS⟩
          · replace hm := if_f hm hb
            refine wpIn_skip ?_
            refine block_n ?_
            refine then_n ?_
            have hS := hS.pickN 2 [1] (by decide)
            exact ⟨(out1 ++ r1), A5, c5, hF.weak [0, 4, 6] (by kernel_rfl), hS, hm⟩
      · refine reg [] [] [0, 4, 6, 24] [pl 0 (.slice A1 lines1.length c1), pl 4 (.slice A2 out1.length c2), pl 6 (.int .i64 i2), pl 24 (.bool (decide (i2 < (lines1.length : Int))))] hF hS Fol (by kernel_rfl) (by kernel_rfl) (by kernel_rfl) ?_ (fun a w hF hS => ?_)
        · exact obs_nil
        refine cond_ev (t := 24) (b := decide (i2 < (lines1.length : Int))) hF (by kernel_rfl) (fun hb => ?_) (fun hb => ?_)
        · replace hm := if_t hm hb
          refine wpIn_skip ?_
          refine then_n ?_
          exact ⟨hF.weak [0, 4, 6] (by kernel_rfl), hS, hm⟩
        · replace hm := if_f hm hb
          refine wpIn_exit ?_
          refine then_e (then_e (block_e (then_n ?_)))
          rw [← hφ2] at hm
          replace hm := done_b hm
          unfold gameroomref_BookOf_K2 at hm
          try dsimp only at hm
          have hm : (gameroomref_BookOf_J4 out1).bind some = some r := hm
          exact ⟨out1, A2, c2, hF.weak [4] (by kernel_rfl), hS, hm⟩
  · refine reg [] [] [0, 4, 5] [pl 0 (.slice A1 lines1.length c1), pl 4 (.slice g1 4 4), pl 5 (.int .i64 0)] hF hS Fol (by kernel_rfl) (by kernel_rfl) (by kernel_rfl) ?_ (fun a w hF hS => ?_)
    · exact obs_nil
    refine wpIn_block ?_
    refine wp_loop_model (S := Int) (R := (Fl Unit (List Int × Int))) (gameroomref_BookOf_L1 lines1) (fun x => ((gameroomref_BookOf_K1 lines1) x).bind some) r (fun (x : Int) a w => Fr 38 [pl 0 (.slice A1 lines1.length c1), pl 4 (.slice g1 4 4), pl 5 (.int .i64 x)] a ∧ Sep w0 B w (ownS 5 g1 4 4 ((List.map (Value.int .u8) ([72, 65, 76, 76] : List Int))) :: fs)) (assoc_b hm) ⟨hF.weak [0, 4, 5] (by kernel_rfl), hS⟩ ?_
    clear hF hS hm
    rintro nn1 i1 a w ⟨hF, hS⟩ hm
    generalize hφ1 : stK (gameroomref_BookOf_L1 lines1) nn1 (fun x => ((gameroomref_BookOf_K1 lines1) x).bind some) = φ1 at hm
    unfold gameroomref_BookOf_L1 at hm
    dsimp only at hm
    refine seq_cut (fun a w => Fr 38 [pl 0 (.slice A1 lines1.length c1), pl 4 (.slice g1 4 4), pl 5 (.int .i64 i1)] a ∧ Sep w0 B w (ownS 5 g1 4 4 ((List.map (Value.int .u8) ([72, 65, 76, 76] : List Int))) :: fs) ∧ ((gameroomref_BookOf_J2 lines1 i1)).bind φ1 = some r) ?_ ?_
    · rintro a w ⟨hF, hS, hm⟩
      unfold gameroomref_BookOf_J2 at hm
      refine seq_cut (fun a w => Fr 38 [pl 0 (.slice A1 lines1.length c1), pl 4 (.slice g1 4 4), pl 5 (.int .i64 i1)] a ∧ Sep w0 B w (ownS 5 g1 4 4 ((List.map (Value.int .u8) ([72, 65, 76, 76] : List Int))) :: fs) ∧ ((gameroomref_BookOf_J3 i1)).bind φ1 = some r) ?_ ?_
      · rintro a w ⟨hF, hS, hm⟩
        unfold gameroomref_BookOf_J3 at hm
        refine reg1 [] [] [0, 4, 5] [pl 0 (.slice A1 lines1.length c1), pl 4 (.slice g1 4 4), pl 5 (.int .i64 (w64 (i1 + 1)))] hF hS Fol (by kernel_rfl) (by kernel_rfl) (by kernel_rfl) ?_ (fun a w hF hS => ?_)
        · exact obs_nil
        refine then_n ?_
        rw [← hφ1] at hm
        exact ⟨(w64 (i1 + 1)), ⟨hF.weak [0, 4, 5] (by kernel_rfl), hS⟩, hm⟩
      · refine wpIn_block ?_
        obtain ⟨hp1, hm⟩ := asrt_b hm
        refine reg [⟨true, [], vS (Instr.indexAt 22 (.slice A1 lines1.length c1) (.int .i64 i1)), .pointer (some (sAddr A1 i1))⟩, ⟨false, [], vS (Instr.loadAt 9 (.pointer (some (sAddr A1 i1)))), strV (getd ([] : List UInt8) lines1 i1)⟩, ⟨true, [], vS (Builtin.len_ #[9] 3 #[strV (getd ([] : List UInt8) lines1 i1)]), .int .i64 ((getd ([] : List UInt8) lines1 i1).length : Int)⟩] [none, none, some (.pointer (some (sAddr A1 i1))), some (strV (getd ([] : List UInt8) lines1 i1)), some (.int .i64 ((getd ([] : List UInt8) lines1 i1).length : Int)), none] [0, 4, 5, 20] [pl 0 (.slice A1 lines1.length c1), pl 4 (.slice g1 4 4), pl 5 (.int .i64 i1), pl 20 (.bool (decide ((255 : Int) < ((getd ([] : List UInt8) lines1 i1).length : Int))))] hF hS Fol (by kernel_rfl) (by kernel_rfl) (by kernel_rfl) ?_ (fun a w hF hS => ?_)
        · exact obs_cons (ob_ix1 (f := strV) (m := lines1) Und22 hi9 hs9 (hr_lines1 _ (hS.dropN 1)) rfl (fun _ => hp1)) <| obs_cons (ob_get1 (n := lines1.length) (m := lines1) strV ([] : List UInt8) Agg9 (fun _ hS => ⟨_, (hr_lines1 _ (hS.dropN 1))⟩) (fun _ hS => rfl) (fun _ => hp1)) <| obs_cons (ob_slen (s := getd ([] : List UInt8) lines1 i1) (by kernel_rfl) 3) <| obs_nil
        refine cond_ev (t := 20) (b := decide ((255 : Int) < ((getd ([] : List UInt8) lines1 i1).length : Int))) hF (by kernel_rfl) (fun hb => ?_) (fun hb => ?_)
        · replace hm := if_t hm hb
          refine reg [] [] [2, 3] [pl 2 (.slice none 0 0), pl 3 (.int .i64 1)] hF hS Fol (by kernel_rfl) (by kernel_rfl) (by kernel_rfl) ?_ (fun a w hF hS => ?_)
          · exact obs_nil
          refine wpIn_ret ?_
          refine block_r (then_r (then_r (block_r (then_r ?_))))
          rw [← hφ1] at hm
          replace hm := done_b hm
          unfold gameroomref_BookOf_K1 at hm
          try dsimp only at hm
          have hS : Sep w0 B w (own 5 (.slice none 0 0) ((List.map (Value.int .u8) ([] : List Int))) :: ownS 5 g1 4 4 ((List.map (Value.int .u8) ([72, 65, 76, 76] : List Int))) :: fs) := hS.nil 5
          have hl1 := (hS.at_ 0 rfl).len1
          have hS := (hS.at_ 0 rfl).reN hl1
          have hS : Sep w0 B w (own 5 (.slice none (([] : List Int).length) 0) ((List.map (Value.int .u8) ([] : List Int))) :: ownS 5 g1 4 4 ((List.map (Value.int .u8) ([72, 65, 76, 76] : List Int))) :: fs) := hS
          have hS : Sep w0 B w (view (.slice none (([] : List Int).length) 0) (List.map (Value.int .u8) ([] : List Int)) :: ownS 5 g1 4 4 ((List.map (Value.int .u8) ([72, 65, 76, 76] : List Int))) :: fs) := (hS.at_ 0 rfl).asView
          have hS := hS.pickN 2 [0] (by decide)
          have hm : some (([] : List Int), 1) = some r := hm
          obtain rfl := Option.some.inj hm
          exact retV (rs := [.tmp 2, .tmp 3]) (vs := [.slice none (([] : List Int).length) 0, .int .i64 1]) hF rfl (rv_t (by kernel_rfl) <| rv_t (by kernel_rfl) <| rv_nil) rfl ⟨_, rfl, none, 0, rfl, hS⟩
        · replace hm := if_f hm hb
          refine wpIn_skip ?_
          refine block_n ?_
          refine then_n ?_
          exact ⟨hF.weak [0, 4, 5] (by kernel_rfl), hS, hm⟩
    · refine reg [] [] [0, 4, 5, 12] [pl 0 (.slice A1 lines1.length c1), pl 4 (.slice g1 4 4), pl 5 (.int .i64 i1), pl 12 (.bool (decide (i1 < (lines1.length : Int))))] hF hS Fol (by kernel_rfl) (by kernel_rfl) (by kernel_rfl) ?_ (fun a w hF hS => ?_)
      · exact obs_nil
      refine cond_ev (t := 12) (b := decide (i1 < (lines1.length : Int))) hF (by kernel_rfl) (fun hb => ?_) (fun hb => ?_)
      · replace hm := if_t hm hb
        refine wpIn_skip ?_
        refine then_n ?_
        exact ⟨hF.weak [0, 4, 5] (by kernel_rfl), hS, hm⟩
      · replace hm := if_f hm hb
        refine wpIn_exit ?_
        refine then_e (then_e (block_e (then_n ?_)))
        rw [← hφ1] at hm
        replace hm := done_b hm
        unfold gameroomref_BookOf_K1 at hm
        try dsimp only at hm
        have hm : ((gameroomref_BookOf_J1 lines1)).bind some = some r := hm
        exact ⟨hF.weak [0, 4] (by kernel_rfl), hS, hm⟩

noncomputable def gameroomref_OpenOf_J7  (b1 : List Int) (l1 : List (List UInt8)) (n2 : Int) : Option (St (List (List UInt8) × Int) (List (List UInt8) × Int)) :=
  asrt ((l1.length : Int) + 1 ≤ bigP) <| some (.next ((l1 ++ ([b8 (cut b1 (w64 (n2 + 2)) (w64 ((w64 (n2 + (w64 ((w64 (getd (0 : Int) b1 n2)) + 4)))) - 2)))] : List (List UInt8))), (w64 (n2 + (w64 ((w64 (getd (0 : Int) b1 n2)) + 4))))))

noncomputable def gameroomref_OpenOf_J8  (b1 : List Int) (l1 : List (List UInt8)) (n2 : Int) (z2 : Bool) : Option (St (List (List UInt8) × Int) (List (List UInt8) × Int)) :=
  if z2 then (some (.done (l1, n2))) else ((gameroomref_OpenOf_J7 b1 l1 n2))

noncomputable def gameroomref_OpenOf_J6  (b1 : List Int) (l1 : List (List UInt8)) (n2 : Int) : Option (St (List (List UInt8) × Int) (List (List UInt8) × Int)) :=
  asrt (0 ≤ (w64 (n2 + 2)) ∧ (w64 (n2 + 2)) ≤ (w64 ((w64 (n2 + (w64 ((w64 (getd (0 : Int) b1 n2)) + 4)))) - 2)) ∧ (w64 ((w64 (n2 + (w64 ((w64 (getd (0 : Int) b1 n2)) + 4)))) - 2)) ≤ (b1.length : Int)) <| asrt (0 ≤ n2 ∧ n2 ≤ (w64 (n2 + (w64 ((w64 (getd (0 : Int) b1 n2)) + 4)))) ∧ (w64 (n2 + (w64 ((w64 (getd (0 : Int) b1 n2)) + 4)))) ≤ (b1.length : Int)) <| (gameroomref_EntryOf_m (b8 (cut b1 (w64 (n2 + 2)) (w64 ((w64 (n2 + (w64 ((w64 (getd (0 : Int) b1 n2)) + 4)))) - 2))))).bind fun r1 => (gameroomref_OpenOf_J8 b1 l1 n2) (!((b8 (cut b1 n2 (w64 (n2 + (w64 ((w64 (getd (0 : Int) b1 n2)) + 4)))))) == (b8 r1)))

noncomputable def gameroomref_OpenOf_J5  (b1 : List Int) (l1 : List (List UInt8)) (n2 : Int) : Option (St (List (List UInt8) × Int) (List (List UInt8) × Int)) :=
  asrt (0 ≤ n2 ∧ n2 < (b1.length : Int)) <| if (decide ((b1.length : Int) < (w64 (n2 + (w64 ((w64 (getd (0 : Int) b1 n2)) + 4)))))) then (some (.done (l1, n2))) else ((gameroomref_OpenOf_J6 b1 l1 n2))

noncomputable def gameroomref_OpenOf_L1  (b1 : List Int) : (List (List UInt8) × Int) → Option (St (List (List UInt8) × Int) (List (List UInt8) × Int)) :=
  fun (x : (List (List UInt8) × Int)) => match x with | (l1, n2) => if (decide (n2 < (b1.length : Int))) then ((gameroomref_OpenOf_J5 b1 l1 n2)) else (some (.done (l1, n2)))

noncomputable def gameroomref_OpenOf_J4  (l2 : List (List UInt8)) (n3 : Int) : Option (List (List UInt8) × Int × Int) :=
  some (l2, n3, 0)

noncomputable def gameroomref_OpenOf_K1  : (List (List UInt8) × Int) → Option (List (List UInt8) × Int × Int) :=
  fun (x : (List (List UInt8) × Int)) => match x with | (l2, n3) => gameroomref_OpenOf_J4 l2 n3

noncomputable def gameroomref_OpenOf_J2  (b1 : List Int) : Option (List (List UInt8) × Int × Int) :=
  (loop (gameroomref_OpenOf_L1 b1) (([] : List (List UInt8)), 4)).bind gameroomref_OpenOf_K1

noncomputable def gameroomref_OpenOf_J3  (b1 : List Int) (z1 : Bool) : Option (List (List UInt8) × Int × Int) :=
  if z1 then (some (([] : List (List UInt8)), 0, 1)) else ((gameroomref_OpenOf_J2 b1))

noncomputable def gameroomref_OpenOf_J1  (b1 : List Int) : Option (List (List UInt8) × Int × Int) :=
  asrt ((decide ((b1.length : Int) < 4)) = false → 0 ≤ (0 : Int) ∧ (0 : Int) ≤ (4 : Int) ∧ (4 : Int) ≤ (b1.length : Int)) <| if (decide ((b1.length : Int) < 4)) then ((gameroomref_OpenOf_J3 b1) ((decide ((b1.length : Int) < 4)) || (!(([] : List UInt8) == ([72, 65, 76, 76] : List UInt8))))) else ((gameroomref_OpenOf_J3 b1) ((decide ((b1.length : Int) < 4)) || (!((b8 (cut b1 (0 : Int) (4 : Int))) == ([72, 65, 76, 76] : List UInt8)))))

noncomputable def gameroomref_OpenOf_m  (b1 : List Int) : Option (List (List UInt8) × Int × Int) :=
  if (decide ((4000 : Int) < (b1.length : Int))) then (some (([] : List (List UInt8)), 0, 2)) else ((gameroomref_OpenOf_J1 b1))

set_option maxRecDepth 100000 in
set_option maxHeartbeats 4000000 in
theorem gameroomref_OpenOf_w {A1 : Option Addr} {c1 : Nat} {n1 : Nat} {b1 : List Int} {r : (List (List UInt8) × Int × Int)} {w0 w : World} {B : Nat} {fs : List HP} (hm : gameroomref_OpenOf_m b1 = some r) (hS : Sep w0 B w (fs)) (hr_b1 : RdF w0 B fs A1 ((List.map (Value.int .u8) b1))) (_hc_b1 : b1.length ≤ c1) (_hn_b1 : n1 = b1.length) :
    Calls Try.prog 17 #[.slice A1 n1 c1] w fun e w' => ∃ v, e = .returned v ∧ ∃ (A8 : Option Addr) (c8 : Nat), v = .tuple #[.slice A8 r.1.length c8, .int .i64 r.2.1, .int .i64 r.2.2] ∧ Sep w0 B w' (own 9 (.slice A8 r.1.length c8) ((List.map strV r.1)) :: fs) := by
  obtain ⟨i5, hi5, hz5, hs5, hb5⟩ := info_parts Info5
  obtain ⟨i9, hi9, hz9, hs9, hb9⟩ := info_parts Info9
  obtain rfl := _hn_b1
  unfold gameroomref_OpenOf_m at hm
  replace hm := start_b hm
  refine enter (l := [.slice A1 b1.length c1]) (n := 66) Try.func17 rfl rfl (by simp) (fun a hF => ?_)
  refine reg [] [] [0] [pl 0 (.slice A1 b1.length c1)] hF hS Fol (by kernel_rfl) (by kernel_rfl) (by kernel_rfl) ?_ (fun a w hF hS => ?_)
  · exact obs_nil
  refine seq_cut (fun a w => Fr 66 [pl 0 (.slice A1 b1.length c1)] a ∧ Sep w0 B w (fs) ∧ ((gameroomref_OpenOf_J1 b1)).bind some = some r) ?_ ?_
  · rintro a w ⟨hF, hS, hm⟩
    unfold gameroomref_OpenOf_J1 at hm
    refine seq_cut (fun a w => Fr 66 [pl 0 (.slice A1 b1.length c1)] a ∧ Sep w0 B w (fs) ∧ ((gameroomref_OpenOf_J2 b1)).bind some = some r) ?_ ?_
    · rintro a w ⟨hF, hS, hm⟩
      unfold gameroomref_OpenOf_J2 at hm
      refine reg [] [] [0, 5] [pl 0 (.slice A1 b1.length c1), pl 5 (.slice none 0 0)] hF hS Fol (by kernel_rfl) (by kernel_rfl) (by kernel_rfl) ?_ (fun a w hF hS => ?_)
      · exact obs_nil
      refine reg [] [] [0, 5, 6] [pl 0 (.slice A1 b1.length c1), pl 5 (.slice none 0 0), pl 6 (.int .i64 4)] hF hS Fol (by kernel_rfl) (by kernel_rfl) (by kernel_rfl) ?_ (fun a w hF hS => ?_)
      · exact obs_nil
      refine seq_cut (fun a w => ∃ (l2 : List (List UInt8)) (n3 : Int) (A3 : Option Addr) (c3 : Nat), Fr 66 [pl 5 (.slice A3 l2.length c3), pl 6 (.int .i64 n3)] a ∧ Sep w0 B w (own 9 (.slice A3 l2.length c3) ((List.map strV l2)) :: fs) ∧ (gameroomref_OpenOf_J4 l2 n3).bind some = some r) ?_ ?_
      · rintro a w ⟨l2, n3, A3, c3, hF, hS, hm⟩
        unfold gameroomref_OpenOf_J4 at hm
        refine reg [] [] [2, 3, 4] [pl 2 (.slice A3 l2.length c3), pl 3 (.int .i64 n3), pl 4 (.int .i64 0)] hF hS Fol (by kernel_rfl) (by kernel_rfl) (by kernel_rfl) ?_ (fun a w hF hS => ?_)
        · exact obs_nil
        refine wpIn_ret ?_
        have hm : some (l2, n3, 0) = some r := hm
        obtain rfl := Option.some.inj hm
        exact retV (rs := [.tmp 2, .tmp 3, .tmp 4]) (vs := [.slice A3 l2.length c3, .int .i64 n3, .int .i64 0]) hF rfl (rv_t (by kernel_rfl) <| rv_t (by kernel_rfl) <| rv_t (by kernel_rfl) <| rv_nil) rfl ⟨_, rfl, A3, c3, rfl, hS⟩
      · refine wpIn_block ?_
        have hS : Sep w0 B w (own 9 (.slice none 0 0) ((List.map strV ([] : List (List UInt8)))) :: fs) := hS.nil 9
        have hl3 := (hS.at_ 0 rfl).len1
        have hS := (hS.at_ 0 rfl).reN hl3
        have hS : Sep w0 B w (own 9 (.slice none (([] : List (List UInt8)).length) 0) ((List.map strV ([] : List (List UInt8)))) :: fs) := hS
        have hF := hF.cast (t := 5) (v := .slice none 0 0) (v' := .slice none (([] : List (List UInt8)).length) 0) rfl rfl (congrArg (fun k => Value.slice none k 0) hl3)
        refine wp_loop_model (S := (List (List UInt8) × Int)) (R := (List (List UInt8) × Int)) (gameroomref_OpenOf_L1 b1) (fun x => (gameroomref_OpenOf_K1 x).bind some) r (fun (x : (List (List UInt8) × Int)) a w => ∃ (A2 : Option Addr) (c2 : Nat), Fr 66 [pl 0 (.slice A1 b1.length c1), pl 5 (.slice A2 x.1.length c2), pl 6 (.int .i64 x.2)] a ∧ Sep w0 B w (own 9 (.slice A2 x.1.length c2) ((List.map strV x.1)) :: fs)) (assoc_b hm) ⟨none, 0, hF.weak [0, 5, 6] (by kernel_rfl), hS⟩ ?_
        clear hF hS hm
        rintro nn1 ⟨l1, n2⟩ a w ⟨A2, c2, hF, hS⟩ hm
        generalize hφ1 : stK (gameroomref_OpenOf_L1 b1) nn1 (fun x => (gameroomref_OpenOf_K1 x).bind some) = φ1 at hm
        unfold gameroomref_OpenOf_L1 at hm
        dsimp only at hF hS hm
        refine seq_cut (fun a w => Fr 66 [pl 0 (.slice A1 b1.length c1), pl 5 (.slice A2 l1.length c2), pl 6 (.int .i64 n2)] a ∧ Sep w0 B w (own 9 (.slice A2 l1.length c2) ((List.map strV l1)) :: fs) ∧ ((gameroomref_OpenOf_J5 b1 l1 n2)).bind φ1 = some r) ?_ ?_
        · rintro a w ⟨hF, hS, hm⟩
          unfold gameroomref_OpenOf_J5 at hm
          refine wpIn_block ?_
          obtain ⟨hp2, hm⟩ := asrt_b hm
          refine reg [⟨true, [], vS (Instr.indexAt 23 (.slice A1 b1.length c1) (.int .i64 n2)), .pointer (some (sAddr A1 n2))⟩, ⟨false, [], vS (Instr.loadAt 5 (.pointer (some (sAddr A1 n2)))), .int .u8 (getd (0 : Int) b1 n2)⟩] [none, none, some (.pointer (some (sAddr A1 n2))), some (.int .u8 (getd (0 : Int) b1 n2)), none, none, none] [0, 5, 6, 7] [pl 0 (.slice A1 b1.length c1), pl 5 (.slice A2 l1.length c2), pl 6 (.int .i64 n2), pl 7 (.int .i64 (w64 ((w64 (getd (0 : Int) b1 n2)) + 4)))] hF hS Fol (by kernel_rfl) (by kernel_rfl) (by kernel_rfl) ?_ (fun a w hF hS => ?_)
          · exact obs_cons (ob_ix1 (f := (Value.int .u8)) (m := b1) Und23 hi5 hs5 (hr_b1 _ (hS.dropN 1)) rfl (fun _ => hp2)) <| obs_cons (ob_get1 (n := b1.length) (m := b1) (Value.int .u8) (0 : Int) Agg5 (fun _ hS => ⟨_, (hr_b1 _ (hS.dropN 1))⟩) (fun _ hS => rfl) (fun _ => hp2)) <| obs_nil
          refine seq_cut (fun a w => Fr 66 [pl 0 (.slice A1 b1.length c1), pl 5 (.slice A2 l1.length c2), pl 6 (.int .i64 n2), pl 7 (.int .i64 (w64 ((w64 (getd (0 : Int) b1 n2)) + 4)))] a ∧ Sep w0 B w (own 9 (.slice A2 l1.length c2) ((List.map strV l1)) :: fs) ∧ ((gameroomref_OpenOf_J6 b1 l1 n2)).bind φ1 = some r) ?_ ?_
          · rintro a w ⟨hF, hS, hm⟩
            unfold gameroomref_OpenOf_J6 at hm
            refine seqR ?_
            obtain ⟨hp3, hm⟩ := asrt_b hm
            refine at_run 8 [⟨true, [], vS (Instr.sliceAt 23 (.slice A1 b1.length c1) (some (.int .i64 (w64 (n2 + 2)))) (some (.int .i64 (w64 ((w64 (n2 + (w64 ((w64 (getd (0 : Int) b1 n2)) + 4)))) - 2)))) none), .slice (cutAddr A1 c1 (w64 (n2 + 2))) ((cut b1 (w64 (n2 + 2)) (w64 ((w64 (n2 + (w64 ((w64 (getd (0 : Int) b1 n2)) + 4)))) - 2))).length) (c1 - Int.toNat (w64 (n2 + 2)))⟩] [none, none, none, none, none, none, none, some (.slice (cutAddr A1 c1 (w64 (n2 + 2))) ((cut b1 (w64 (n2 + 2)) (w64 ((w64 (n2 + (w64 ((w64 (getd (0 : Int) b1 n2)) + 4)))) - 2))).length) (c1 - Int.toNat (w64 (n2 + 2))))] [0, 5, 6, 7, 44] [pl 0 (.slice A1 b1.length c1), pl 5 (.slice A2 l1.length c2), pl 6 (.int .i64 n2), pl 7 (.int .i64 (w64 ((w64 (getd (0 : Int) b1 n2)) + 4))), pl 44 (.slice (cutAddr A1 c1 (w64 (n2 + 2))) ((cut b1 (w64 (n2 + 2)) (w64 ((w64 (n2 + (w64 ((w64 (getd (0 : Int) b1 n2)) + 4)))) - 2))).length) (c1 - Int.toNat (w64 (n2 + 2))))] hF hS (by kernel_rfl) (by kernel_rfl) ?_ (fun a w hF hS => ?_)
            · exact obs_cons (ob_cutn (l := b1) (k := .i64) (k' := .i64) Und23 hi5 hs5 rfl (.inl rfl) (.inl rfl) (fun _ => hp3) _hc_b1) <| obs_nil
            have hrun := run_strE (P := Try.prog) (src := 23) (dst := 9) (e := 5) (m := (cut b1 (w64 (n2 + 2)) (w64 ((w64 (n2 + (w64 ((w64 (getd (0 : Int) b1 n2)) + 4)))) - 2)))) (c := (c1 - Int.toNat (w64 (n2 + 2)))) (by kernel_rfl) (by kernel_rfl) (by kernel_rfl) (Rd.cutF (hr_b1 _ (hS.dropN 1)) hp3 _hc_b1) rfl
            refine at_do (d := 45) hF (by kernel_rfl) (by kernel_rfl) hrun (fun a hF => ?_)
            refine at_run 1 [] [] [0, 5, 6, 7, 8] [pl 0 (.slice A1 b1.length c1), pl 5 (.slice A2 l1.length c2), pl 6 (.int .i64 n2), pl 7 (.int .i64 (w64 ((w64 (getd (0 : Int) b1 n2)) + 4))), pl 8 (strV (b8 (cut b1 (w64 (n2 + 2)) (w64 ((w64 (n2 + (w64 ((w64 (getd (0 : Int) b1 n2)) + 4)))) - 2)))))] hF hS (by kernel_rfl) (by kernel_rfl) ?_ (fun a w hF hS => ?_)
            · exact obs_nil
            refine at_end [0, 5, 6, 7, 8] [pl 0 (.slice A1 b1.length c1), pl 5 (.slice A2 l1.length c2), pl 6 (.int .i64 n2), pl 7 (.int .i64 (w64 ((w64 (getd (0 : Int) b1 n2)) + 4))), pl 8 (strV (b8 (cut b1 (w64 (n2 + 2)) (w64 ((w64 (n2 + (w64 ((w64 (getd (0 : Int) b1 n2)) + 4)))) - 2)))))] hF rfl (by kernel_rfl) (fun hF => ?_)
            refine then_n ?_
            refine seq_cut (fun a w => Fr 66 [pl 0 (.slice A1 b1.length c1), pl 5 (.slice A2 l1.length c2), pl 6 (.int .i64 n2), pl 7 (.int .i64 (w64 ((w64 (getd (0 : Int) b1 n2)) + 4))), pl 8 (strV (b8 (cut b1 (w64 (n2 + 2)) (w64 ((w64 (n2 + (w64 ((w64 (getd (0 : Int) b1 n2)) + 4)))) - 2)))))] a ∧ Sep w0 B w (own 9 (.slice A2 l1.length c2) ((List.map strV l1)) :: fs) ∧ ((gameroomref_OpenOf_J7 b1 l1 n2)).bind φ1 = some r) ?_ ?_
            · rintro a w ⟨hF, hS, hm⟩
              unfold gameroomref_OpenOf_J7 at hm
              refine seqR ?_
              obtain ⟨hp5, hm⟩ := asrt_b hm
              refine at_run 2 [] [] [0, 6, 7, 57, 58] [pl 0 (.slice A1 b1.length c1), pl 6 (.int .i64 n2), pl 7 (.int .i64 (w64 ((w64 (getd (0 : Int) b1 n2)) + 4))), pl 57 (.slice A2 l1.length c2), pl 58 (strV (b8 (cut b1 (w64 (n2 + 2)) (w64 ((w64 (n2 + (w64 ((w64 (getd (0 : Int) b1 n2)) + 4)))) - 2)))))] hF hS (by kernel_rfl) (by kernel_rfl) ?_ (fun a w hF hS => ?_)
              · exact obs_nil
              refine at_do (d := 59) (s := vS (Instr.buildSlice 22 1 #[(0, strV (b8 (cut b1 (w64 (n2 + 2)) (w64 ((w64 (n2 + (w64 ((w64 (getd (0 : Int) b1 n2)) + 4)))) - 2)))))])) (v := .slice (some ⟨w.heap.size, 0, none⟩) 1 1) (w' := w.alloc (.cells #[strV (b8 (cut b1 (w64 (n2 + 2)) (w64 ((w64 (n2 + (w64 ((w64 (getd (0 : Int) b1 n2)) + 4)))) - 2))))] 9)) hF (by kernel_rfl) (by kernel_rfl) (by kernel_rfl) (fun a hF => ?_)
              have hS : Sep w0 B (w.alloc (.cells #[strV (b8 (cut b1 (w64 (n2 + 2)) (w64 ((w64 (n2 + (w64 ((w64 (getd (0 : Int) b1 n2)) + 4)))) - 2))))] 9)) (own 9 (.slice (some (⟨w.heap.size, 0, none⟩ : Addr)) 1 1) ((List.map strV ([b8 (cut b1 (w64 (n2 + 2)) (w64 ((w64 (n2 + (w64 ((w64 (getd (0 : Int) b1 n2)) + 4)))) - 2)))] : List (List UInt8)))) :: (own 9 (.slice A2 l1.length c2) ((List.map strV l1)) :: fs)) := hS.lit 9 #[strV (b8 (cut b1 (w64 (n2 + 2)) (w64 ((w64 (n2 + (w64 ((w64 (getd (0 : Int) b1 n2)) + 4)))) - 2))))] 1 rfl (by omega)
              generalize (some (⟨w.heap.size, 0, none⟩ : Addr)) = g1 at hF hS
              generalize w.alloc (.cells #[strV (b8 (cut b1 (w64 (n2 + 2)) (w64 ((w64 (n2 + (w64 ((w64 (getd (0 : Int) b1 n2)) + 4)))) - 2))))] 9) = w at hS ⊢
              obtain ⟨A7, c7, w, hrun, hS⟩ := run_appG (P := Try.prog) (t := 22) (m := l1) (ys := ([b8 (cut b1 (w64 (n2 + 2)) (w64 ((w64 (n2 + (w64 ((w64 (getd (0 : Int) b1 n2)) + 4)))) - 2)))] : List (List UInt8))) (A2 := g1) (m2 := 1) (c2 := 1) strV ([] : List UInt8) 8796093022208 (hS.at_ 1 rfl) (hS.at_ 0 rfl).rd ((hS.at_ 0 rfl).len1) 22 Und22 hi9 hz9 hs9 (by rw [hb9]; decide) (by decide) rfl (fun _ => rfl) hp5
              have hS : Sep w0 B w (own 9 (.slice g1 1 1) ((List.map strV ([b8 (cut b1 (w64 (n2 + 2)) (w64 ((w64 (n2 + (w64 ((w64 (getd (0 : Int) b1 n2)) + 4)))) - 2)))] : List (List UInt8)))) :: own 9 (.slice A7 ((l1 ++ ([b8 (cut b1 (w64 (n2 + 2)) (w64 ((w64 (n2 + (w64 ((w64 (getd (0 : Int) b1 n2)) + 4)))) - 2)))] : List (List UInt8))).length) c7) ((List.map strV (l1 ++ ([b8 (cut b1 (w64 (n2 + 2)) (w64 ((w64 (n2 + (w64 ((w64 (getd (0 : Int) b1 n2)) + 4)))) - 2)))] : List (List UInt8))))) :: fs) := hS
              refine at_do (d := 60) hF (by kernel_rfl) (by kernel_rfl) hrun (fun a hF => ?_)
              refine at_run 1 [] [] [0, 5, 6, 7] [pl 0 (.slice A1 b1.length c1), pl 5 (.slice A7 ((l1 ++ ([b8 (cut b1 (w64 (n2 + 2)) (w64 ((w64 (n2 + (w64 ((w64 (getd (0 : Int) b1 n2)) + 4)))) - 2)))] : List (List UInt8))).length) c7), pl 6 (.int .i64 n2), pl 7 (.int .i64 (w64 ((w64 (getd (0 : Int) b1 n2)) + 4)))] hF hS (by kernel_rfl) (by kernel_rfl) ?_ (fun a w hF hS => ?_)
              · exact obs_nil
              refine at_end [0, 5, 6, 7] [pl 0 (.slice A1 b1.length c1), pl 5 (.slice A7 ((l1 ++ ([b8 (cut b1 (w64 (n2 + 2)) (w64 ((w64 (n2 + (w64 ((w64 (getd (0 : Int) b1 n2)) + 4)))) - 2)))] : List (List UInt8))).length) c7), pl 6 (.int .i64 n2), pl 7 (.int .i64 (w64 ((w64 (getd (0 : Int) b1 n2)) + 4)))] hF rfl (by kernel_rfl) (fun hF => ?_)
              refine then_n ?_
              refine reg1 [] [] [0, 5, 6] [pl 0 (.slice A1 b1.length c1), pl 5 (.slice A7 ((l1 ++ ([b8 (cut b1 (w64 (n2 + 2)) (w64 ((w64 (n2 + (w64 ((w64 (getd (0 : Int) b1 n2)) + 4)))) - 2)))] : List (List UInt8))).length) c7), pl 6 (.int .i64 (w64 (n2 + (w64 ((w64 (getd (0 : Int) b1 n2)) + 4)))))] hF hS Fol (by kernel_rfl) (by kernel_rfl) (by kernel_rfl) ?_ (fun a w hF hS => ?_)
              · exact obs_nil
              refine block_n ?_
              refine then_n ?_
              have hS := hS.pickN 2 [1] (by decide)
              rw [← hφ1] at hm
              exact ⟨((l1 ++ ([b8 (cut b1 (w64 (n2 + 2)) (w64 ((w64 (n2 + (w64 ((w64 (getd (0 : Int) b1 n2)) + 4)))) - 2)))] : List (List UInt8))), (w64 (n2 + (w64 ((w64 (getd (0 : Int) b1 n2)) + 4))))), ⟨A7, c7, hF.weak [0, 5, 6] (by kernel_rfl), hS⟩, hm⟩
            · refine seq_cut (fun a w => ∃ (z2 : Bool), Fr 66 [pl 0 (.slice A1 b1.length c1), pl 5 (.slice A2 l1.length c2), pl 6 (.int .i64 n2), pl 7 (.int .i64 (w64 ((w64 (getd (0 : Int) b1 n2)) + 4))), pl 8 (strV (b8 (cut b1 (w64 (n2 + 2)) (w64 ((w64 (n2 + (w64 ((w64 (getd (0 : Int) b1 n2)) + 4)))) - 2))))), pl 56 (.bool z2)] a ∧ Sep w0 B w (own 9 (.slice A2 l1.length c2) ((List.map strV l1)) :: fs) ∧ ((gameroomref_OpenOf_J8 b1 l1 n2) z2).bind φ1 = some r) ?_ ?_
              · rintro a w ⟨z2, hF, hS, hm⟩
                unfold gameroomref_OpenOf_J8 at hm
                refine cond_ev (t := 56) (b := z2) hF (by kernel_rfl) (fun hb => ?_) (fun hb => ?_)
                · replace hm := if_t hm hb
                  refine wpIn_exit ?_
                  refine then_e (block_o rfl (then_e (block_e (then_n ?_))))
                  rw [← hφ1] at hm
                  replace hm := done_b hm
                  unfold gameroomref_OpenOf_K1 at hm
                  try dsimp only at hm
                  have hm : (gameroomref_OpenOf_J4 l1 n2).bind some = some r := hm
                  exact ⟨l1, n2, A2, c2, hF.weak [5, 6] (by kernel_rfl), hS, hm⟩
                · replace hm := if_f hm hb
                  refine wpIn_skip ?_
                  refine then_n ?_
                  exact ⟨hF.weak [0, 5, 6, 7, 8] (by kernel_rfl), hS, hm⟩
              · obtain ⟨hp4, hm⟩ := asrt_b hm
                obtain ⟨r1, hr1, hm⟩ := call_b hm
                refine regMix5 [0, 1, 2, 3, 4, 5, 7] [] 4 #[true, true, true, true, true, true, false, true, false, false, false] [⟨true, [], vS (Instr.sliceAt 23 (.slice A1 b1.length c1) (some (.int .i64 n2)) (some (.int .i64 (w64 (n2 + (w64 ((w64 (getd (0 : Int) b1 n2)) + 4)))))) none), .slice (cutAddr A1 c1 n2) ((cut b1 n2 (w64 (n2 + (w64 ((w64 (getd (0 : Int) b1 n2)) + 4))))).length) (c1 - Int.toNat n2)⟩] [none, none, none, none, none, some (.slice (cutAddr A1 c1 n2) ((cut b1 n2 (w64 (n2 + (w64 ((w64 (getd (0 : Int) b1 n2)) + 4))))).length) (c1 - Int.toNat n2)), none] [0, 5, 6, 7, 8, 51, 53] [pl 0 (.slice A1 b1.length c1), pl 5 (.slice A2 l1.length c2), pl 6 (.int .i64 n2), pl 7 (.int .i64 (w64 ((w64 (getd (0 : Int) b1 n2)) + 4))), pl 8 (strV (b8 (cut b1 (w64 (n2 + 2)) (w64 ((w64 (n2 + (w64 ((w64 (getd (0 : Int) b1 n2)) + 4)))) - 2))))), pl 51 (.slice (cutAddr A1 c1 n2) ((cut b1 n2 (w64 (n2 + (w64 ((w64 (getd (0 : Int) b1 n2)) + 4))))).length) (c1 - Int.toNat n2)), pl 53 (strV (b8 (cut b1 (w64 (n2 + 2)) (w64 ((w64 (n2 + (w64 ((w64 (getd (0 : Int) b1 n2)) + 4)))) - 2)))))] hF hS Fol (by kernel_rfl) (by kernel_rfl) (by kernel_rfl) (by kernel_rfl) ?_ (fun a w hF hS => ?_)
                · exact obs_cons (ob_cutn (l := b1) (k := .i64) (k' := .i64) Und23 hi5 hs5 rfl (.inl rfl) (.inl rfl) (fun _ => hp4) _hc_b1) <| obs_nil
                refine any_step [6, 8] (by kernel_rfl) rfl ?_
                refine (all_cons ?_ (all_cons ?_ all_nil))
                · refine any_op (listed' := #[true, true, true, true, true, true, true, true, false, false, false]) (by kernel_rfl) (by kernel_rfl) ?_
                  have hrun := run_strE (P := Try.prog) (src := 23) (dst := 9) (e := 5) (m := (cut b1 n2 (w64 (n2 + (w64 ((w64 (getd (0 : Int) b1 n2)) + 4)))))) (c := (c1 - Int.toNat n2)) (by kernel_rfl) (by kernel_rfl) (by kernel_rfl) (Rd.cutF (hr_b1 _ (hS.dropN 1)) hp4 _hc_b1) rfl
                  refine at_do (d := 52) hF (by kernel_rfl) (by kernel_rfl) hrun (fun a hF => ?_)
                  refine any_fin rfl hS ?_
                  refine any_step [8] (by kernel_rfl) rfl ?_
                  refine (all_cons ?_ all_nil)
                  · refine any_op (listed' := #[true, true, true, true, true, true, true, true, true, false, false]) (by kernel_rfl) (by kernel_rfl) ?_
                    refine at_call (f := 19) (args := #[strV (b8 (cut b1 (w64 (n2 + 2)) (w64 ((w64 (n2 + (w64 ((w64 (getd (0 : Int) b1 n2)) + 4)))) - 2))))]) (d := 54) hF (by kernel_rfl) (by kernel_rfl) Try.func19 (by kernel_rfl) rfl (gameroomref_EntryOf_w hr1 hS ) (fun v a w hR hF => ?_)
                    clear hS
                    obtain ⟨A5, c5, rfl, hS⟩ := hR
                    have hS : Sep w0 B w (own 5 (.slice A5 r1.length c5) ((List.map (Value.int .u8) r1)) :: own 9 (.slice A2 l1.length c2) ((List.map strV l1)) :: fs) := hS
                    refine any_fin rfl (hS.pickN 2 [1] (by decide)) ?_
                    refine any_step [9] (by kernel_rfl) rfl ?_
                    refine (all_cons ?_ all_nil)
                    · refine any_op (listed' := #[true, true, true, true, true, true, true, true, true, true, false]) (by kernel_rfl) (by kernel_rfl) ?_
                      have hrun := run_strE (P := Try.prog) (src := 23) (dst := 9) (e := 5) (m := r1) (c := c5) (by kernel_rfl) (by kernel_rfl) (by kernel_rfl) (hS.at_ 0 rfl).rd rfl
                      refine at_do (d := 55) hF (by kernel_rfl) (by kernel_rfl) hrun (fun a hF => ?_)
                      refine any_fin rfl (hS.pickN 2 [1] (by decide)) ?_
                      refine any_step [10] (by kernel_rfl) rfl ?_
                      refine (all_cons ?_ all_nil)
                      · refine any_op (listed' := #[true, true, true, true, true, true, true, true, true, true, true]) (by kernel_rfl) (by kernel_rfl) ?_
                        refine at_runW 1 [⟨true, [], vS (do eqGuard .neq 9 (.tmp 52) (.tmp 55) (strV (b8 (cut b1 n2 (w64 (n2 + (w64 ((w64 (getd (0 : Int) b1 n2)) + 4))))))) (strV (b8 r1)); binOp .neq 9 (strV (b8 (cut b1 n2 (w64 (n2 + (w64 ((w64 (getd (0 : Int) b1 n2)) + 4))))))) (strV (b8 r1))), .bool (!((b8 (cut b1 n2 (w64 (n2 + (w64 ((w64 (getd (0 : Int) b1 n2)) + 4)))))) == (b8 r1)))⟩] [some (.bool (!((b8 (cut b1 n2 (w64 (n2 + (w64 ((w64 (getd (0 : Int) b1 n2)) + 4)))))) == (b8 r1))))] [0, 5, 6, 7, 8, 56] [pl 0 (.slice A1 b1.length c1), pl 5 (.slice A2 l1.length c2), pl 6 (.int .i64 n2), pl 7 (.int .i64 (w64 ((w64 (getd (0 : Int) b1 n2)) + 4))), pl 8 (strV (b8 (cut b1 (w64 (n2 + 2)) (w64 ((w64 (n2 + (w64 ((w64 (getd (0 : Int) b1 n2)) + 4)))) - 2))))), pl 56 (.bool (!((b8 (cut b1 n2 (w64 (n2 + (w64 ((w64 (getd (0 : Int) b1 n2)) + 4)))))) == (b8 r1))))] hF hS (by kernel_rfl) (by kernel_rfl) ?_ (fun a hF => ?_)
                        · exact obs_cons (ob_sneq _ _) <| obs_nil
                        refine any_finI rfl (fun h => h) ?_
                        refine any_end (by kernel_rfl) ?_
                        refine np_n ?_
                        refine then_n ?_
                        have hS := hS.pickN 2 [1] (by decide)
                        exact ⟨(!((b8 (cut b1 n2 (w64 (n2 + (w64 ((w64 (getd (0 : Int) b1 n2)) + 4)))))) == (b8 r1))), hF.weak [0, 5, 6, 7, 8, 56] (by kernel_rfl), hS, hm⟩
                · refine any_op (listed' := #[true, true, true, true, true, true, false, true, true, false, false]) (by kernel_rfl) (by kernel_rfl) ?_
                  refine at_call (f := 19) (args := #[strV (b8 (cut b1 (w64 (n2 + 2)) (w64 ((w64 (n2 + (w64 ((w64 (getd (0 : Int) b1 n2)) + 4)))) - 2))))]) (d := 54) hF (by kernel_rfl) (by kernel_rfl) Try.func19 (by kernel_rfl) rfl (gameroomref_EntryOf_w hr1 hS ) (fun v a w hR hF => ?_)
                  clear hS
                  obtain ⟨A6, c6, rfl, hS⟩ := hR
                  have hS : Sep w0 B w (own 5 (.slice A6 r1.length c6) ((List.map (Value.int .u8) r1)) :: own 9 (.slice A2 l1.length c2) ((List.map strV l1)) :: fs) := hS
                  refine any_fin rfl (hS.pickN 2 [1] (by decide)) ?_
                  refine any_step [6, 9] (by kernel_rfl) rfl ?_
                  refine (all_cons ?_ (all_cons ?_ all_nil))
                  · refine any_op (listed' := #[true, true, true, true, true, true, true, true, true, false, false]) (by kernel_rfl) (by kernel_rfl) ?_
                    have hrun := run_strE (P := Try.prog) (src := 23) (dst := 9) (e := 5) (m := (cut b1 n2 (w64 (n2 + (w64 ((w64 (getd (0 : Int) b1 n2)) + 4)))))) (c := (c1 - Int.toNat n2)) (by kernel_rfl) (by kernel_rfl) (by kernel_rfl) (Rd.cutF (hr_b1 _ (hS.dropN 2)) hp4 _hc_b1) rfl
                    refine at_do (d := 52) hF (by kernel_rfl) (by kernel_rfl) hrun (fun a hF => ?_)
                    refine any_fin rfl (hS.pickN 2 [1] (by decide)) ?_
                    refine any_step [9] (by kernel_rfl) rfl ?_
                    refine (all_cons ?_ all_nil)
                    · refine any_op (listed' := #[true, true, true, true, true, true, true, true, true, true, false]) (by kernel_rfl) (by kernel_rfl) ?_
                      have hrun := run_strE (P := Try.prog) (src := 23) (dst := 9) (e := 5) (m := r1) (c := c6) (by kernel_rfl) (by kernel_rfl) (by kernel_rfl) (hS.at_ 0 rfl).rd rfl
                      refine at_do (d := 55) hF (by kernel_rfl) (by kernel_rfl) hrun (fun a hF => ?_)
                      refine any_fin rfl (hS.pickN 2 [1] (by decide)) ?_
                      refine any_step [10] (by kernel_rfl) rfl ?_
                      refine (all_cons ?_ all_nil)
                      · refine any_op (listed' := #[true, true, true, true, true, true, true, true, true, true, true]) (by kernel_rfl) (by kernel_rfl) ?_
                        refine at_runW 1 [⟨true, [], vS (do eqGuard .neq 9 (.tmp 52) (.tmp 55) (strV (b8 (cut b1 n2 (w64 (n2 + (w64 ((w64 (getd (0 : Int) b1 n2)) + 4))))))) (strV (b8 r1)); binOp .neq 9 (strV (b8 (cut b1 n2 (w64 (n2 + (w64 ((w64 (getd (0 : Int) b1 n2)) + 4))))))) (strV (b8 r1))), .bool (!((b8 (cut b1 n2 (w64 (n2 + (w64 ((w64 (getd (0 : Int) b1 n2)) + 4)))))) == (b8 r1)))⟩] [some (.bool (!((b8 (cut b1 n2 (w64 (n2 + (w64 ((w64 (getd (0 : Int) b1 n2)) + 4)))))) == (b8 r1))))] [0, 5, 6, 7, 8, 56] [pl 0 (.slice A1 b1.length c1), pl 5 (.slice A2 l1.length c2), pl 6 (.int .i64 n2), pl 7 (.int .i64 (w64 ((w64 (getd (0 : Int) b1 n2)) + 4))), pl 8 (strV (b8 (cut b1 (w64 (n2 + 2)) (w64 ((w64 (n2 + (w64 ((w64 (getd (0 : Int) b1 n2)) + 4)))) - 2))))), pl 56 (.bool (!((b8 (cut b1 n2 (w64 (n2 + (w64 ((w64 (getd (0 : Int) b1 n2)) + 4)))))) == (b8 r1))))] hF hS (by kernel_rfl) (by kernel_rfl) ?_ (fun a hF => ?_)
                        · exact obs_cons (ob_sneq _ _) <| obs_nil
                        refine any_finI rfl (fun h => h) ?_
                        refine any_end (by kernel_rfl) ?_
                        refine np_n ?_
                        refine then_n ?_
                        have hS := hS.pickN 2 [1] (by decide)
                        exact ⟨(!((b8 (cut b1 n2 (w64 (n2 + (w64 ((w64 (getd (0 : Int) b1 n2)) + 4)))))) == (b8 r1))), hF.weak [0, 5, 6, 7, 8, 56] (by kernel_rfl), hS, hm⟩
                  · refine any_op (listed' := #[true, true, true, true, true, true, false, true, true, true, false]) (by kernel_rfl) (by kernel_rfl) ?_
                    have hrun := run_strE (P := Try.prog) (src := 23) (dst := 9) (e := 5) (m := r1) (c := c6) (by kernel_rfl) (by kernel_rfl) (by kernel_rfl) (hS.at_ 0 rfl).rd rfl
                    refine at_do (d := 55) hF (by kernel_rfl) (by kernel_rfl) hrun (fun a hF => ?_)
                    refine any_fin rfl (hS.pickN 2 [1] (by decide)) ?_
                    refine any_step [6] (by kernel_rfl) rfl ?_
                    refine (all_cons ?_ all_nil)
                    · refine any_op (listed' := #[true, true, true, true, true, true, true, true, true, true, false]) (by kernel_rfl) (by kernel_rfl) ?_
                      have hrun := run_strE (P := Try.prog) (src := 23) (dst := 9) (e := 5) (m := (cut b1 n2 (w64 (n2 + (w64 ((w64 (getd (0 : Int) b1 n2)) + 4)))))) (c := (c1 - Int.toNat n2)) (by kernel_rfl) (by kernel_rfl) (by kernel_rfl) (Rd.cutF (hr_b1 _ (hS.dropN 2)) hp4 _hc_b1) rfl
                      refine at_do (d := 52) hF (by kernel_rfl) (by kernel_rfl) hrun (fun a hF => ?_)
                      refine any_fin rfl (hS.pickN 2 [1] (by decide)) ?_
                      refine any_step [10] (by kernel_rfl) rfl ?_
                      refine (all_cons ?_ all_nil)
                      · refine any_op (listed' := #[true, true, true, true, true, true, true, true, true, true, true]) (by kernel_rfl) (by kernel_rfl) ?_
                        refine at_runW 1 [⟨true, [], vS (do eqGuard .neq 9 (.tmp 52) (.tmp 55) (strV (b8 (cut b1 n2 (w64 (n2 + (w64 ((w64 (getd (0 : Int) b1 n2)) + 4))))))) (strV (b8 r1)); binOp .neq 9 (strV (b8 (cut b1 n2 (w64 (n2 + (w64 ((w64 (getd (0 : Int) b1 n2)) + 4))))))) (strV (b8 r1))), .bool (!((b8 (cut b1 n2 (w64 (n2 + (w64 ((w64 (getd (0 : Int) b1 n2)) + 4)))))) == (b8 r1)))⟩] [some (.bool (!((b8 (cut b1 n2 (w64 (n2 + (w64 ((w64 (getd (0 : Int) b1 n2)) + 4)))))) == (b8 r1))))] [0, 5, 6, 7, 8, 56] [pl 0 (.slice A1 b1.length c1), pl 5 (.slice A2 l1.length c2), pl 6 (.int .i64 n2), pl 7 (.int .i64 (w64 ((w64 (getd (0 : Int) b1 n2)) + 4))), pl 8 (strV (b8 (cut b1 (w64 (n2 + 2)) (w64 ((w64 (n2 + (w64 ((w64 (getd (0 : Int) b1 n2)) + 4)))) - 2))))), pl 56 (.bool (!((b8 (cut b1 n2 (w64 (n2 + (w64 ((w64 (getd (0 : Int) b1 n2)) + 4)))))) == (b8 r1))))] hF hS (by kernel_rfl) (by kernel_rfl) ?_ (fun a hF => ?_)
                        · exact obs_cons (ob_sneq _ _) <| obs_nil
                        refine any_finI rfl (fun h => h) ?_
                        refine any_end (by kernel_rfl) ?_
                        refine np_n ?_
                        refine then_n ?_
                        have hS := hS.pickN 2 [1] (by decide)
                        exact ⟨(!((b8 (cut b1 n2 (w64 (n2 + (w64 ((w64 (getd (0 : Int) b1 n2)) + 4)))))) == (b8 r1))), hF.weak [0, 5, 6, 7, 8, 56] (by kernel_rfl), hS, hm⟩
          · refine reg [] [] [0, 5, 6, 7, 36] [pl 0 (.slice A1 b1.length c1), pl 5 (.slice A2 l1.length c2), pl 6 (.int .i64 n2), pl 7 (.int .i64 (w64 ((w64 (getd (0 : Int) b1 n2)) + 4))), pl 36 (.bool (decide ((b1.length : Int) < (w64 (n2 + (w64 ((w64 (getd (0 : Int) b1 n2)) + 4)))))))] hF hS Fol (by kernel_rfl) (by kernel_rfl) (by kernel_rfl) ?_ (fun a w hF hS => ?_)
            · exact obs_nil
            refine cond_ev (t := 36) (b := decide ((b1.length : Int) < (w64 (n2 + (w64 ((w64 (getd (0 : Int) b1 n2)) + 4)))))) hF (by kernel_rfl) (fun hb => ?_) (fun hb => ?_)
            · replace hm := if_t hm hb
              refine wpIn_exit ?_
              refine then_e (block_o rfl (then_e (block_e (then_n ?_))))
              rw [← hφ1] at hm
              replace hm := done_b hm
              unfold gameroomref_OpenOf_K1 at hm
              try dsimp only at hm
              have hm : (gameroomref_OpenOf_J4 l1 n2).bind some = some r := hm
              exact ⟨l1, n2, A2, c2, hF.weak [5, 6] (by kernel_rfl), hS, hm⟩
            · replace hm := if_f hm hb
              refine wpIn_skip ?_
              refine then_n ?_
              exact ⟨hF.weak [0, 5, 6, 7] (by kernel_rfl), hS, hm⟩
        · refine reg [] [] [0, 5, 6, 24] [pl 0 (.slice A1 b1.length c1), pl 5 (.slice A2 l1.length c2), pl 6 (.int .i64 n2), pl 24 (.bool (decide (n2 < (b1.length : Int))))] hF hS Fol (by kernel_rfl) (by kernel_rfl) (by kernel_rfl) ?_ (fun a w hF hS => ?_)
          · exact obs_nil
          refine cond_ev (t := 24) (b := decide (n2 < (b1.length : Int))) hF (by kernel_rfl) (fun hb => ?_) (fun hb => ?_)
          · replace hm := if_t hm hb
            refine wpIn_skip ?_
            refine then_n ?_
            exact ⟨hF.weak [0, 5, 6] (by kernel_rfl), hS, hm⟩
          · replace hm := if_f hm hb
            refine wpIn_exit ?_
            refine then_e (then_e (block_e (then_n ?_)))
            rw [← hφ1] at hm
            replace hm := done_b hm
            unfold gameroomref_OpenOf_K1 at hm
            try dsimp only at hm
            have hm : (gameroomref_OpenOf_J4 l1 n2).bind some = some r := hm
            exact ⟨l1, n2, A2, c2, hF.weak [5, 6] (by kernel_rfl), hS, hm⟩
    · refine seq_cut (fun a w => ∃ (z1 : Bool), Fr 66 [pl 0 (.slice A1 b1.length c1), pl 20 (.bool z1)] a ∧ Sep w0 B w (fs) ∧ ((gameroomref_OpenOf_J3 b1) z1).bind some = some r) ?_ ?_
      · rintro a w ⟨z1, hF, hS, hm⟩
        unfold gameroomref_OpenOf_J3 at hm
        refine cond_ev (t := 20) (b := z1) hF (by kernel_rfl) (fun hb => ?_) (fun hb => ?_)
        · replace hm := if_t hm hb
          refine reg [] [] [2, 3, 4] [pl 2 (.slice none 0 0), pl 3 (.int .i64 0), pl 4 (.int .i64 1)] hF hS Fol (by kernel_rfl) (by kernel_rfl) (by kernel_rfl) ?_ (fun a w hF hS => ?_)
          · exact obs_nil
          refine wpIn_ret ?_
          refine then_r ?_
          have hS : Sep w0 B w (own 9 (.slice none 0 0) ((List.map strV ([] : List (List UInt8)))) :: fs) := hS.nil 9
          have hl2 := (hS.at_ 0 rfl).len1
          have hS := (hS.at_ 0 rfl).reN hl2
          have hS : Sep w0 B w (own 9 (.slice none (([] : List (List UInt8)).length) 0) ((List.map strV ([] : List (List UInt8)))) :: fs) := hS
          have hm : some (([] : List (List UInt8)), 0, 1) = some r := hm
          obtain rfl := Option.some.inj hm
          exact retV (rs := [.tmp 2, .tmp 3, .tmp 4]) (vs := [.slice none (([] : List (List UInt8)).length) 0, .int .i64 0, .int .i64 1]) hF rfl (rv_t (by kernel_rfl) <| rv_t (by kernel_rfl) <| rv_t (by kernel_rfl) <| rv_nil) rfl ⟨_, rfl, none, 0, rfl, hS⟩
        · replace hm := if_f hm hb
          refine wpIn_skip ?_
          refine then_n ?_
          exact ⟨hF.weak [0] (by kernel_rfl), hS, hm⟩
      · refine oneR ?_
        obtain ⟨hp1, hm⟩ := asrt_b hm
        refine at_run 6 [⟨true, [(decide ((b1.length : Int) < 4), false)], vS (Instr.sliceAt 23 (.slice A1 b1.length c1) none (some (.int .i64 (4 : Int))) none), .slice (cutAddr A1 c1 (0 : Int)) ((cut b1 (0 : Int) (4 : Int)).length) (c1 - Int.toNat (0 : Int))⟩] [none, none, none, none, none, some (.slice (cutAddr A1 c1 (0 : Int)) ((cut b1 (0 : Int) (4 : Int)).length) (c1 - Int.toNat (0 : Int)))] [0, 15, 17] [pl 0 (.slice A1 b1.length c1), pl 15 (.bool (decide ((b1.length : Int) < 4))), ⟨17, [(15, false)], .slice (cutAddr A1 c1 (0 : Int)) ((cut b1 (0 : Int) (4 : Int)).length) (c1 - Int.toNat (0 : Int))⟩] hF hS (by kernel_rfl) (by kernel_rfl) ?_ (fun a w hF hS => ?_)
        · exact obs_cons (ob_cutn (l := b1) (k := .i64) (k' := .i64) Und23 hi5 hs5 rfl (.inr ⟨rfl, rfl⟩) (.inl rfl) (fun hy => hp1 (hy (decide ((b1.length : Int) < 4), false) (by simp))) _hc_b1) <| obs_nil
        rcases Bool.eq_false_or_eq_true (decide ((b1.length : Int) < 4)) with hg1 | hg1
        · replace hm := if_t hm hg1
          refine at_gskip (d := 18) (v := strV ([] : List UInt8)) (hs := [(decide ((b1.length : Int) < 4), false)]) (ctx := [(15, false)]) hF (by kernel_rfl) (by kernel_rfl) (fun h => absurd (h (decide ((b1.length : Int) < 4), false) (by simp)) (by simp [hg1])) (fun a hF => ?_)
          refine at_run 2 [⟨true, [(decide ((b1.length : Int) < 4), false)], vS (do eqGuard .neq 9 (.tmp 18) (.const (strV ([72, 65, 76, 76] : List UInt8))) (strV ([] : List UInt8)) (strV ([72, 65, 76, 76] : List UInt8)); binOp .neq 9 (strV ([] : List UInt8)) (strV ([72, 65, 76, 76] : List UInt8))), .bool (!(([] : List UInt8) == ([72, 65, 76, 76] : List UInt8)))⟩] [some (.bool (!(([] : List UInt8) == ([72, 65, 76, 76] : List UInt8)))), none] [0, 20] [pl 0 (.slice A1 b1.length c1), pl 20 (.bool ((decide ((b1.length : Int) < 4)) || (!(([] : List UInt8) == ([72, 65, 76, 76] : List UInt8)))))] hF hS (by kernel_rfl) (by kernel_rfl) ?_ (fun a w hF hS => ?_)
          · exact obs_cons (Ob.vac (fun h => absurd (h (decide ((b1.length : Int) < 4), false) (by simp)) (by simp [hg1]))) <| obs_nil
          refine at_end [0, 20] [pl 0 (.slice A1 b1.length c1), pl 20 (.bool ((decide ((b1.length : Int) < 4)) || (!(([] : List UInt8) == ([72, 65, 76, 76] : List UInt8)))))] hF rfl (by kernel_rfl) (fun hF => ?_)
          refine then_n ?_
          exact ⟨((decide ((b1.length : Int) < 4)) || (!(([] : List UInt8) == ([72, 65, 76, 76] : List UInt8)))), hF.weak [0, 20] (by kernel_rfl), hS, hm⟩
        · replace hm := if_f hm hg1
          have hrun := run_strE (P := Try.prog) (src := 23) (dst := 9) (e := 5) (m := (cut b1 (0 : Int) (4 : Int))) (c := (c1 - Int.toNat (0 : Int))) (by kernel_rfl) (by kernel_rfl) (by kernel_rfl) (Rd.cutF (hr_b1 _ (hS.dropN 0)) (hp1 hg1) _hc_b1) rfl
          refine at_gdo (hs := [(decide ((b1.length : Int) < 4), false)]) (fun y hy => by simp only [List.mem_cons, List.not_mem_nil, or_false] at hy; subst hy; first | exact hg1) (d := 18) hF (by kernel_rfl) (by kernel_rfl) hrun (fun a hF => ?_)
          refine at_run 2 [⟨true, [(decide ((b1.length : Int) < 4), false)], vS (do eqGuard .neq 9 (.tmp 18) (.const (strV ([72, 65, 76, 76] : List UInt8))) (strV (b8 (cut b1 (0 : Int) (4 : Int)))) (strV ([72, 65, 76, 76] : List UInt8)); binOp .neq 9 (strV (b8 (cut b1 (0 : Int) (4 : Int)))) (strV ([72, 65, 76, 76] : List UInt8))), .bool (!((b8 (cut b1 (0 : Int) (4 : Int))) == ([72, 65, 76, 76] : List UInt8)))⟩] [some (.bool (!((b8 (cut b1 (0 : Int) (4 : Int))) == ([72, 65, 76, 76] : List UInt8)))), none] [0, 20] [pl 0 (.slice A1 b1.length c1), pl 20 (.bool ((decide ((b1.length : Int) < 4)) || (!((b8 (cut b1 (0 : Int) (4 : Int))) == ([72, 65, 76, 76] : List UInt8)))))] hF hS (by kernel_rfl) (by kernel_rfl) ?_ (fun a w hF hS => ?_)
          · exact obs_cons (ob_sneq _ _) <| obs_nil
          refine at_end [0, 20] [pl 0 (.slice A1 b1.length c1), pl 20 (.bool ((decide ((b1.length : Int) < 4)) || (!((b8 (cut b1 (0 : Int) (4 : Int))) == ([72, 65, 76, 76] : List UInt8)))))] hF rfl (by kernel_rfl) (fun hF => ?_)
          refine then_n ?_
          exact ⟨((decide ((b1.length : Int) < 4)) || (!((b8 (cut b1 (0 : Int) (4 : Int))) == ([72, 65, 76, 76] : List UInt8)))), hF.weak [0, 20] (by kernel_rfl), hS, hm⟩
  · refine reg [] [] [0, 11] [pl 0 (.slice A1 b1.length c1), pl 11 (.bool (decide ((4000 : Int) < (b1.length : Int))))] hF hS Fol (by kernel_rfl) (by kernel_rfl) (by kernel_rfl) ?_ (fun a w hF hS => ?_)
    · exact obs_nil
    refine cond_ev (t := 11) (b := decide ((4000 : Int) < (b1.length : Int))) hF (by kernel_rfl) (fun hb => ?_) (fun hb => ?_)
    · replace hm := if_t hm hb
      refine reg [] [] [2, 3, 4] [pl 2 (.slice none 0 0), pl 3 (.int .i64 0), pl 4 (.int .i64 2)] hF hS Fol (by kernel_rfl) (by kernel_rfl) (by kernel_rfl) ?_ (fun a w hF hS => ?_)
      · exact obs_nil
      refine wpIn_ret ?_
      refine then_r ?_
      have hS : Sep w0 B w (own 9 (.slice none 0 0) ((List.map strV ([] : List (List UInt8)))) :: fs) := hS.nil 9
      have hl1 := (hS.at_ 0 rfl).len1
      have hS := (hS.at_ 0 rfl).reN hl1
      have hS : Sep w0 B w (own 9 (.slice none (([] : List (List UInt8)).length) 0) ((List.map strV ([] : List (List UInt8)))) :: fs) := hS
      have hm : some (([] : List (List UInt8)), 0, 2) = some r := hm
      obtain rfl := Option.some.inj hm
      exact retV (rs := [.tmp 2, .tmp 3, .tmp 4]) (vs := [.slice none (([] : List (List UInt8)).length) 0, .int .i64 0, .int .i64 2]) hF rfl (rv_t (by kernel_rfl) <| rv_t (by kernel_rfl) <| rv_t (by kernel_rfl) <| rv_nil) rfl ⟨_, rfl, none, 0, rfl, hS⟩
    · replace hm := if_f hm hb
      refine wpIn_skip ?_
      refine then_n ?_
      exact ⟨hF.weak [0] (by kernel_rfl), hS, hm⟩

noncomputable def gameroomref_SameTexts_J4  (i1 : Int) : Option (St Int (Fl Unit Bool)) :=
  some (.next (w64 (i1 + 1)))

noncomputable def gameroomref_SameTexts_J3  (a1 : List (List UInt8)) (b1 : List (List UInt8)) (i1 : Int) : Option (St Int (Fl Unit Bool)) :=
  asrt (0 ≤ i1 ∧ i1 < (a1.length : Int)) <| asrt (0 ≤ i1 ∧ i1 < (b1.length : Int)) <| if (!((getd ([] : List UInt8) a1 i1) == (getd ([] : List UInt8) b1 i1))) then (some (.done (.ret false))) else ((gameroomref_SameTexts_J4 i1))

noncomputable def gameroomref_SameTexts_J2  : Option Bool :=
  some true

noncomputable def gameroomref_SameTexts_K1  : (Fl Unit Bool) → Option Bool :=
  fun (x : (Fl Unit Bool)) => match x with | .go _ => gameroomref_SameTexts_J2 | .ret x => some x

noncomputable def gameroomref_SameTexts_L1  (a1 : List (List UInt8)) (b1 : List (List UInt8)) : Int → Option (St Int (Fl Unit Bool)) :=
  fun (x : Int) => match x with | i1 => if (decide (i1 < (a1.length : Int))) then ((gameroomref_SameTexts_J3 a1 b1 i1)) else (some (.done (.go ())))

noncomputable def gameroomref_SameTexts_J1  (a1 : List (List UInt8)) (b1 : List (List UInt8)) : Option Bool :=
  (loop (gameroomref_SameTexts_L1 a1 b1) 0).bind gameroomref_SameTexts_K1

noncomputable def gameroomref_SameTexts_m  (a1 : List (List UInt8)) (b1 : List (List UInt8)) : Option Bool :=
  if ((a1.length : Int) != (b1.length : Int)) then (some false) else ((gameroomref_SameTexts_J1 a1 b1))

set_option maxRecDepth 100000 in
set_option maxHeartbeats 4000000 in
theorem gameroomref_SameTexts_w {A1 : Option Addr} {c1 : Nat} {n1 : Nat} {a1 : List (List UInt8)} {A2 : Option Addr} {c2 : Nat} {n2 : Nat} {b1 : List (List UInt8)} {r : Bool} {w0 w : World} {B : Nat} {fs : List HP} (hm : gameroomref_SameTexts_m a1 b1 = some r) (hS : Sep w0 B w (fs)) (hr_a1 : RdF w0 B fs A1 ((List.map strV a1))) (_hc_a1 : a1.length ≤ c1) (_hn_a1 : n1 = a1.length) (hr_b1 : RdF w0 B fs A2 ((List.map strV b1))) (_hc_b1 : b1.length ≤ c2) (_hn_b1 : n2 = b1.length) :
    Calls Try.prog 18 #[.slice A1 n1 c1, .slice A2 n2 c2] w fun e w' => e = .returned (.bool r) ∧ Sep w0 B w' (fs) := by
  obtain ⟨i9, hi9, hz9, hs9, hb9⟩ := info_parts Info9
  obtain rfl := _hn_a1
  obtain rfl := _hn_b1
  unfold gameroomref_SameTexts_m at hm
  replace hm := start_b hm
  refine enter (l := [.slice A1 a1.length c1, .slice A2 b1.length c2]) (n := 26) Try.func18 rfl rfl (by simp) (fun a hF => ?_)
  refine reg [] [] [0, 1] [pl 0 (.slice A1 a1.length c1), pl 1 (.slice A2 b1.length c2)] hF hS Fol (by kernel_rfl) (by kernel_rfl) (by kernel_rfl) ?_ (fun a w hF hS => ?_)
  · exact obs_nil
  refine seq_cut (fun a w => Fr 26 [pl 0 (.slice A1 a1.length c1), pl 1 (.slice A2 b1.length c2)] a ∧ Sep w0 B w (fs) ∧ ((gameroomref_SameTexts_J1 a1 b1)).bind some = some r) ?_ ?_
  · rintro a w ⟨hF, hS, hm⟩
    unfold gameroomref_SameTexts_J1 at hm
    refine seq_cut (fun a w => Fr 26 [] a ∧ Sep w0 B w (fs) ∧ (gameroomref_SameTexts_J2).bind some = some r) ?_ ?_
    · rintro a w ⟨hF, hS, hm⟩
      unfold gameroomref_SameTexts_J2 at hm
      refine reg [] [] [4] [pl 4 (.bool true)] hF hS Fol (by kernel_rfl) (by kernel_rfl) (by kernel_rfl) ?_ (fun a w hF hS => ?_)
      · exact obs_nil
      refine wpIn_ret ?_
      have hm : some true = some r := hm
      obtain rfl := Option.some.inj hm
      exact retV (rs := [.tmp 4]) (vs := [.bool true]) hF rfl (rv_t (by kernel_rfl) <| rv_nil) rfl ⟨rfl, hS⟩
    · refine reg [] [] [0, 1, 5] [pl 0 (.slice A1 a1.length c1), pl 1 (.slice A2 b1.length c2), pl 5 (.int .i64 0)] hF hS Fol (by kernel_rfl) (by kernel_rfl) (by kernel_rfl) ?_ (fun a w hF hS => ?_)
      · exact obs_nil
      refine wpIn_block ?_
      refine wp_loop_model (S := Int) (R := (Fl Unit Bool)) (gameroomref_SameTexts_L1 a1 b1) (fun x => (gameroomref_SameTexts_K1 x).bind some) r (fun (x : Int) a w => Fr 26 [pl 0 (.slice A1 a1.length c1), pl 1 (.slice A2 b1.length c2), pl 5 (.int .i64 x)] a ∧ Sep w0 B w (fs)) (assoc_b hm) ⟨hF.weak [0, 1, 5] (by kernel_rfl), hS⟩ ?_
      clear hF hS hm
      rintro nn1 i1 a w ⟨hF, hS⟩ hm
      generalize hφ1 : stK (gameroomref_SameTexts_L1 a1 b1) nn1 (fun x => (gameroomref_SameTexts_K1 x).bind some) = φ1 at hm
      unfold gameroomref_SameTexts_L1 at hm
      dsimp only at hm
      refine seq_cut (fun a w => Fr 26 [pl 0 (.slice A1 a1.length c1), pl 1 (.slice A2 b1.length c2), pl 5 (.int .i64 i1)] a ∧ Sep w0 B w (fs) ∧ ((gameroomref_SameTexts_J3 a1 b1 i1)).bind φ1 = some r) ?_ ?_
      · rintro a w ⟨hF, hS, hm⟩
        unfold gameroomref_SameTexts_J3 at hm
        refine seq_cut (fun a w => Fr 26 [pl 0 (.slice A1 a1.length c1), pl 1 (.slice A2 b1.length c2), pl 5 (.int .i64 i1)] a ∧ Sep w0 B w (fs) ∧ ((gameroomref_SameTexts_J4 i1)).bind φ1 = some r) ?_ ?_
        · rintro a w ⟨hF, hS, hm⟩
          unfold gameroomref_SameTexts_J4 at hm
          refine reg1 [] [] [0, 1, 5] [pl 0 (.slice A1 a1.length c1), pl 1 (.slice A2 b1.length c2), pl 5 (.int .i64 (w64 (i1 + 1)))] hF hS Fol (by kernel_rfl) (by kernel_rfl) (by kernel_rfl) ?_ (fun a w hF hS => ?_)
          · exact obs_nil
          refine then_n ?_
          rw [← hφ1] at hm
          exact ⟨(w64 (i1 + 1)), ⟨hF.weak [0, 1, 5] (by kernel_rfl), hS⟩, hm⟩
        · refine wpIn_block ?_
          obtain ⟨hp1, hm⟩ := asrt_b hm
          obtain ⟨hp2, hm⟩ := asrt_b hm
          refine reg [⟨true, [], vS (Instr.indexAt 22 (.slice A1 a1.length c1) (.int .i64 i1)), .pointer (some (sAddr A1 i1))⟩, ⟨false, [], vS (Instr.loadAt 9 (.pointer (some (sAddr A1 i1)))), strV (getd ([] : List UInt8) a1 i1)⟩, ⟨true, [], vS (Instr.indexAt 22 (.slice A2 b1.length c2) (.int .i64 i1)), .pointer (some (sAddr A2 i1))⟩, ⟨false, [], vS (Instr.loadAt 9 (.pointer (some (sAddr A2 i1)))), strV (getd ([] : List UInt8) b1 i1)⟩, ⟨true, [], vS (do eqGuard .neq 9 (.tmp 20) (.tmp 24) (strV (getd ([] : List UInt8) a1 i1)) (strV (getd ([] : List UInt8) b1 i1)); binOp .neq 9 (strV (getd ([] : List UInt8) a1 i1)) (strV (getd ([] : List UInt8) b1 i1))), .bool (!((getd ([] : List UInt8) a1 i1) == (getd ([] : List UInt8) b1 i1)))⟩] [none, none, some (.pointer (some (sAddr A1 i1))), some (strV (getd ([] : List UInt8) a1 i1)), none, none, some (.pointer (some (sAddr A2 i1))), some (strV (getd ([] : List UInt8) b1 i1)), some (.bool (!((getd ([] : List UInt8) a1 i1) == (getd ([] : List UInt8) b1 i1))))] [0, 1, 5, 25] [pl 0 (.slice A1 a1.length c1), pl 1 (.slice A2 b1.length c2), pl 5 (.int .i64 i1), pl 25 (.bool (!((getd ([] : List UInt8) a1 i1) == (getd ([] : List UInt8) b1 i1))))] hF hS Fol (by kernel_rfl) (by kernel_rfl) (by kernel_rfl) ?_ (fun a w hF hS => ?_)
          · exact obs_cons (ob_ix1 (f := strV) (m := a1) Und22 hi9 hs9 (hr_a1 _ (hS.dropN 0)) rfl (fun _ => hp1)) <| obs_cons (ob_get1 (n := a1.length) (m := a1) strV ([] : List UInt8) Agg9 (fun _ hS => ⟨_, (hr_a1 _ (hS.dropN 0))⟩) (fun _ hS => rfl) (fun _ => hp1)) <| obs_cons (ob_ix1 (f := strV) (m := b1) Und22 hi9 hs9 (hr_b1 _ (hS.dropN 0)) rfl (fun _ => hp2)) <| obs_cons (ob_get1 (n := b1.length) (m := b1) strV ([] : List UInt8) Agg9 (fun _ hS => ⟨_, (hr_b1 _ (hS.dropN 0))⟩) (fun _ hS => rfl) (fun _ => hp2)) <| obs_cons (ob_sneq _ _) <| obs_nil
          refine cond_ev (t := 25) (b := !((getd ([] : List UInt8) a1 i1) == (getd ([] : List UInt8) b1 i1))) hF (by kernel_rfl) (fun hb => ?_) (fun hb => ?_)
          · replace hm := if_t hm hb
            refine reg [] [] [4] [pl 4 (.bool false)] hF hS Fol (by kernel_rfl) (by kernel_rfl) (by kernel_rfl) ?_ (fun a w hF hS => ?_)
            · exact obs_nil
            refine wpIn_ret ?_
            refine block_r (then_r (then_r (block_r (then_r ?_))))
            rw [← hφ1] at hm
            replace hm := done_b hm
            unfold gameroomref_SameTexts_K1 at hm
            try dsimp only at hm
            have hm : some false = some r := hm
            obtain rfl := Option.some.inj hm
            exact retV (rs := [.tmp 4]) (vs := [.bool false]) hF rfl (rv_t (by kernel_rfl) <| rv_nil) rfl ⟨rfl, hS⟩
          · replace hm := if_f hm hb
            refine wpIn_skip ?_
            refine block_n ?_
            refine then_n ?_
            exact ⟨hF.weak [0, 1, 5] (by kernel_rfl), hS, hm⟩
      · refine reg [] [] [0, 1, 5, 14] [pl 0 (.slice A1 a1.length c1), pl 1 (.slice A2 b1.length c2), pl 5 (.int .i64 i1), pl 14 (.bool (decide (i1 < (a1.length : Int))))] hF hS Fol (by kernel_rfl) (by kernel_rfl) (by kernel_rfl) ?_ (fun a w hF hS => ?_)
        · exact obs_nil
        refine cond_ev (t := 14) (b := decide (i1 < (a1.length : Int))) hF (by kernel_rfl) (fun hb => ?_) (fun hb => ?_)
        · replace hm := if_t hm hb
          refine wpIn_skip ?_
          refine then_n ?_
          exact ⟨hF.weak [0, 1, 5] (by kernel_rfl), hS, hm⟩
        · replace hm := if_f hm hb
          refine wpIn_exit ?_
          refine then_e (then_e (block_e (then_n ?_)))
          rw [← hφ1] at hm
          replace hm := done_b hm
          unfold gameroomref_SameTexts_K1 at hm
          try dsimp only at hm
          have hm : (gameroomref_SameTexts_J2).bind some = some r := hm
          exact ⟨hF.weak [] (by kernel_rfl), hS, hm⟩
  · refine reg [] [] [0, 1, 10] [pl 0 (.slice A1 a1.length c1), pl 1 (.slice A2 b1.length c2), pl 10 (.bool ((a1.length : Int) != (b1.length : Int)))] hF hS Fol (by kernel_rfl) (by kernel_rfl) (by kernel_rfl) ?_ (fun a w hF hS => ?_)
    · exact obs_nil
    refine cond_ev (t := 10) (b := ((a1.length : Int) != (b1.length : Int))) hF (by kernel_rfl) (fun hb => ?_) (fun hb => ?_)
    · replace hm := if_t hm hb
      refine reg [] [] [4] [pl 4 (.bool false)] hF hS Fol (by kernel_rfl) (by kernel_rfl) (by kernel_rfl) ?_ (fun a w hF hS => ?_)
      · exact obs_nil
      refine wpIn_ret ?_
      refine then_r ?_
      have hm : some false = some r := hm
      obtain rfl := Option.some.inj hm
      exact retV (rs := [.tmp 4]) (vs := [.bool false]) hF rfl (rv_t (by kernel_rfl) <| rv_nil) rfl ⟨rfl, hS⟩
    · replace hm := if_f hm hb
      refine wpIn_skip ?_
      refine then_n ?_
      exact ⟨hF.weak [0, 1] (by kernel_rfl), hS, hm⟩

noncomputable def gameroomlaw_HallBooks_J6  (z2 : Bool) : Option Bool :=
  some z2

noncomputable def gameroomlaw_HallBooks_J5  (b1 : List Int) (line1 : List UInt8) (r4 : (List Int × Int)) (r6 : (List (List UInt8) × Int × Int)) : Option Bool :=
  asrt (0 ≤ (0 : Int) ∧ (0 : Int) ≤ r6.2.1 ∧ r6.2.1 ≤ (b1.length : Int)) <| asrt ((0 : Int) + (((cut b1 (0 : Int) r6.2.1).length : Nat) : Int) ≤ bigB) <| (gameroomref_EntryOf_m line1).bind fun r9 => asrt (((([] ++ (cut b1 (0 : Int) r6.2.1)).length : Nat) : Int) + (r9.length : Int) ≤ bigB) <| if (r4.2 == 0) then (gameroomlaw_HallBooks_J6 ((r4.2 == 0) && ((b8 r4.1) == (b8 (([] ++ (cut b1 (0 : Int) r6.2.1)) ++ r9))))) else (gameroomlaw_HallBooks_J6 ((r4.2 == 0) && (([] : List UInt8) == ([] : List UInt8))))

noncomputable def gameroomlaw_HallBooks_J4  (b1 : List Int) (line1 : List UInt8) (r4 : (List Int × Int)) (r6 : (List (List UInt8) × Int × Int)) (no2 : Int) : Option Bool :=
  if (no2 != 0) then (some ((r4.2 == no2) && ((r4.1.length : Int) == 0))) else ((gameroomlaw_HallBooks_J5 b1 line1 r4 r6))

noncomputable def gameroomlaw_HallBooks_J3  (b1 : List Int) (line1 : List UInt8) (r4 : (List Int × Int)) (r6 : (List (List UInt8) × Int × Int)) (no1 : Int) : Option Bool :=
  if ((no1 == 0) && (decide ((4000 : Int) < (w64 ((w64 (r6.2.1 + 4)) + (line1.length : Int)))))) then ((gameroomlaw_HallBooks_J4 b1 line1 r4 r6) 2) else ((gameroomlaw_HallBooks_J4 b1 line1 r4 r6) no1)

noncomputable def gameroomlaw_HallBooks_J1  (b1 : List Int) (line1 : List UInt8) (r4 : (List Int × Int)) (r6 : (List (List UInt8) × Int × Int)) : Option Bool :=
  if ((r6.2.2 == 0) && (decide ((255 : Int) < (line1.length : Int)))) then ((gameroomlaw_HallBooks_J3 b1 line1 r4 r6) 1) else ((gameroomlaw_HallBooks_J3 b1 line1 r4 r6) r6.2.2)

noncomputable def gameroomlaw_HallBooks_J2  (b1 : List Int) (line1 : List UInt8) (r4 : (List Int × Int)) (r6 : (List (List UInt8) × Int × Int)) (z1 : Bool) : Option Bool :=
  if z1 then (some false) else ((gameroomlaw_HallBooks_J1 b1 line1 r4 r6))

noncomputable def gameroomlaw_HallBooks_m  (lines1 : List (List UInt8)) (b1 : List Int) (line1 : List UInt8) : Option Bool :=
  (gameroomlaw_texts_m lines1).bind fun r1 => (hall_Book_m r1).bind fun r2 => asrt ((0 : Int) + (b1.length : Int) ≤ bigB) <| (hall_Open_m ([] ++ b1)).bind fun r3 => asrt ((0 : Int) + (b1.length : Int) ≤ bigB) <| (hall_Add_m ([] ++ b1) line1).bind fun r4 => (gameroomref_BookOf_m lines1).bind fun r5 => (gameroomref_OpenOf_m b1).bind fun r6 => if (r2.2 != r5.2) then (((if (!((((r2.2 != r5.2) || (!(([] : List UInt8) == ([] : List UInt8)))) || (r3.2.2 != r6.2.2)) || (r3.2.1 != r6.2.1))) then gameroomref_SameTexts_m r3.1 r6.1 else some false)).bind fun r7 => (gameroomlaw_HallBooks_J2 b1 line1 r4 r6) (((((r2.2 != r5.2) || (!(([] : List UInt8) == ([] : List UInt8)))) || (r3.2.2 != r6.2.2)) || (r3.2.1 != r6.2.1)) || (!r7))) else (((if (!((((r2.2 != r5.2) || (!((b8 r2.1) == (b8 r5.1)))) || (r3.2.2 != r6.2.2)) || (r3.2.1 != r6.2.1))) then gameroomref_SameTexts_m r3.1 r6.1 else some false)).bind fun r8 => (gameroomlaw_HallBooks_J2 b1 line1 r4 r6) (((((r2.2 != r5.2) || (!((b8 r2.1) == (b8 r5.1)))) || (r3.2.2 != r6.2.2)) || (r3.2.1 != r6.2.1)) || (!r8)))

set_option maxRecDepth 100000 in
set_option maxHeartbeats 4000000 in
theorem gameroomlaw_HallBooks_w {A1 : Option Addr} {c1 : Nat} {n1 : Nat} {lines1 : List (List UInt8)} {A2 : Option Addr} {c2 : Nat} {n2 : Nat} {b1 : List Int} {line1 : List UInt8} {r : Bool} {w0 w : World} {B : Nat} {fs : List HP} (hm : gameroomlaw_HallBooks_m lines1 b1 line1 = some r) (hS : Sep w0 B w (fs)) (hr_lines1 : RdF w0 B fs A1 ((List.map strV lines1))) (_hc_lines1 : lines1.length ≤ c1) (_hn_lines1 : n1 = lines1.length) (hr_b1 : RdF w0 B fs A2 ((List.map (Value.int .u8) b1))) (_hc_b1 : b1.length ≤ c2) (_hn_b1 : n2 = b1.length) :
    Calls Try.prog 3 #[.slice A1 n1 c1, .slice A2 n2 c2, strV line1] w fun e w' => e = .returned (.bool r) ∧ Sep w0 B w' (fs) := by
  obtain ⟨i5, hi5, hz5, hs5, hb5⟩ := info_parts Info5
  obtain ⟨i9, hi9, hz9, hs9, hb9⟩ := info_parts Info9
  obtain rfl := _hn_lines1
  obtain rfl := _hn_b1
  unfold gameroomlaw_HallBooks_m at hm
  replace hm := start_b hm
  refine enter (l := [.slice A1 lines1.length c1, .slice A2 b1.length c2, strV line1]) (n := 122) Try.func3 rfl rfl (by simp) (fun a hF => ?_)
  refine reg [] [] [0, 1, 2] [pl 0 (.slice A1 lines1.length c1), pl 1 (.slice A2 b1.length c2), pl 2 (strV line1)] hF hS Fol (by kernel_rfl) (by kernel_rfl) (by kernel_rfl) ?_ (fun a w hF hS => ?_)
  · exact obs_nil
  refine seqR ?_
  obtain ⟨r1, hr1, hm⟩ := call_b hm
  obtain ⟨r2, hr2, hm⟩ := call_b hm
  refine at_run 1 [] [] [0, 1, 2, 22] [pl 0 (.slice A1 lines1.length c1), pl 1 (.slice A2 b1.length c2), pl 2 (strV line1), pl 22 (.slice A1 lines1.length c1)] hF hS (by kernel_rfl) (by kernel_rfl) ?_ (fun a w hF hS => ?_)
  · exact obs_nil
  refine at_call (f := 13) (args := #[.slice A1 lines1.length c1]) (d := 23) hF (by kernel_rfl) (by kernel_rfl) Try.func13 (by kernel_rfl) rfl (gameroomlaw_texts_w hr1 hS (fun _ hS => (hr_lines1 _ (hS.dropN 0))) _hc_lines1 rfl) (fun v a w hR hF => ?_)
  clear hS
  obtain ⟨A3, c3, rfl, hS⟩ := hR
  have hS : Sep w0 B w (own 9 (.slice A3 r1.length c3) ((List.map strV r1)) :: fs) := hS
  refine at_call (f := 12) (args := #[.slice A3 r1.length c3]) (d := 24) hF (by kernel_rfl) (by kernel_rfl) Try.func12 (by kernel_rfl) rfl (hall_Book_w hr2 hS (fun _ hS => (hS.at_ 0 rfl).rd) ((hS.at_ 0 rfl).cap1) rfl) (fun v a w hR hF => ?_)
  clear hS
  obtain ⟨A4, c4, rfl, hS⟩ := hR
  have hS : Sep w0 B w (view (.slice A4 r2.1.length c4) (List.map (Value.int .u8) r2.1) :: own 9 (.slice A3 r1.length c3) ((List.map strV r1)) :: fs) := hS
  refine at_run 5 [] [] [0, 1, 2, 7, 8] [pl 0 (.slice A1 lines1.length c1), pl 1 (.slice A2 b1.length c2), pl 2 (strV line1), pl 7 (.slice A4 r2.1.length c4), pl 8 (.int .i64 r2.2)] hF hS (by kernel_rfl) (by kernel_rfl) ?_ (fun a w hF hS => ?_)
  · exact obs_nil
  refine at_end [0, 1, 2, 7, 8] [pl 0 (.slice A1 lines1.length c1), pl 1 (.slice A2 b1.length c2), pl 2 (strV line1), pl 7 (.slice A4 r2.1.length c4), pl 8 (.int .i64 r2.2)] hF rfl (by kernel_rfl) (fun hF => ?_)
  refine then_n ?_
  refine seqR ?_
  obtain ⟨hp1, hm⟩ := asrt_b hm
  obtain ⟨r3, hr3, hm⟩ := call_b hm
  refine at_run 1 [] [] [0, 1, 2, 7, 8, 28] [pl 0 (.slice A1 lines1.length c1), pl 1 (.slice A2 b1.length c2), pl 2 (strV line1), pl 7 (.slice A4 r2.1.length c4), pl 8 (.int .i64 r2.2), pl 28 (.slice A2 b1.length c2)] hF hS (by kernel_rfl) (by kernel_rfl) ?_ (fun a w hF hS => ?_)
  · exact obs_nil
  have hS : Sep w0 B w (own 5 (.slice none 0 0) ((List.map (Value.int .u8) ([] : List Int))) :: view (.slice A4 r2.1.length c4) (List.map (Value.int .u8) r2.1) :: own 9 (.slice A3 r1.length c3) ((List.map strV r1)) :: fs) := hS.nil 5
  obtain ⟨A5, c5, w, hrun, hS⟩ := run_appG (P := Try.prog) (t := 23) (m := ([] : List Int)) (ys := b1) (A2 := A2) (m2 := b1.length) (c2 := c2) (Value.int .u8) (0 : Int) 140737488355328 (hS.at_ 0 rfl) (hr_b1 _ (hS.dropN 3)) rfl 23 Und23 hi5 hz5 hs5 (by rw [hb5]; decide) (by decide) rfl (fun _ => rfl) hp1
  have hS : Sep w0 B w (own 5 (.slice A5 (([] ++ b1).length) c5) ((List.map (Value.int .u8) ([] ++ b1))) :: view (.slice A4 r2.1.length c4) (List.map (Value.int .u8) r2.1) :: own 9 (.slice A3 r1.length c3) ((List.map strV r1)) :: fs) := hS
  refine at_do (d := 29) hF (by kernel_rfl) (by kernel_rfl) hrun (fun a hF => ?_)
  refine at_call (f := 14) (args := #[.slice A5 (([] ++ b1).length) c5]) (d := 30) hF (by kernel_rfl) (by kernel_rfl) Try.func14 (by kernel_rfl) rfl (hall_Open_w hr3 hS (fun _ hS => (hS.at_ 0 rfl).rd) ((hS.at_ 0 rfl).cap1) rfl) (fun v a w hR hF => ?_)
  clear hS
  obtain ⟨A6, c6, rfl, hS⟩ := hR
  have hS : Sep w0 B w (own 9 (.slice A6 r3.1.length c6) ((List.map strV r3.1)) :: own 5 (.slice A5 (([] ++ b1).length) c5) ((List.map (Value.int .u8) ([] ++ b1))) :: view (.slice A4 r2.1.length c4) (List.map (Value.int .u8) r2.1) :: own 9 (.slice A3 r1.length c3) ((List.map strV r1)) :: fs) := hS
  refine at_run 7 [] [] [0, 1, 2, 7, 8, 9, 10, 11] [pl 0 (.slice A1 lines1.length c1), pl 1 (.slice A2 b1.length c2), pl 2 (strV line1), pl 7 (.slice A4 r2.1.length c4), pl 8 (.int .i64 r2.2), pl 9 (.slice A6 r3.1.length c6), pl 10 (.int .i64 r3.2.1), pl 11 (.int .i64 r3.2.2)] hF hS (by kernel_rfl) (by kernel_rfl) ?_ (fun a w hF hS => ?_)
  · exact obs_nil
  refine at_end [0, 1, 2, 7, 8, 9, 10, 11] [pl 0 (.slice A1 lines1.length c1), pl 1 (.slice A2 b1.length c2), pl 2 (strV line1), pl 7 (.slice A4 r2.1.length c4), pl 8 (.int .i64 r2.2), pl 9 (.slice A6 r3.1.length c6), pl 10 (.int .i64 r3.2.1), pl 11 (.int .i64 r3.2.2)] hF rfl (by kernel_rfl) (fun hF => ?_)
  refine then_n ?_
  refine seqR ?_
  obtain ⟨hp2, hm⟩ := asrt_b hm
  obtain ⟨r4, hr4, hm⟩ := call_b hm
  refine at_run 1 [] [] [0, 1, 2, 7, 8, 9, 10, 11, 35] [pl 0 (.slice A1 lines1.length c1), pl 1 (.slice A2 b1.length c2), pl 2 (strV line1), pl 7 (.slice A4 r2.1.length c4), pl 8 (.int .i64 r2.2), pl 9 (.slice A6 r3.1.length c6), pl 10 (.int .i64 r3.2.1), pl 11 (.int .i64 r3.2.2), pl 35 (.slice A2 b1.length c2)] hF hS (by kernel_rfl) (by kernel_rfl) ?_ (fun a w hF hS => ?_)
  · exact obs_nil
  have hS : Sep w0 B w (own 5 (.slice none 0 0) ((List.map (Value.int .u8) ([] : List Int))) :: own 9 (.slice A6 r3.1.length c6) ((List.map strV r3.1)) :: own 5 (.slice A5 (([] ++ b1).length) c5) ((List.map (Value.int .u8) ([] ++ b1))) :: view (.slice A4 r2.1.length c4) (List.map (Value.int .u8) r2.1) :: own 9 (.slice A3 r1.length c3) ((List.map strV r1)) :: fs) := hS.nil 5
  obtain ⟨A7, c7, w, hrun, hS⟩ := run_appG (P := Try.prog) (t := 23) (m := ([] : List Int)) (ys := b1) (A2 := A2) (m2 := b1.length) (c2 := c2) (Value.int .u8) (0 : Int) 140737488355328 (hS.at_ 0 rfl) (hr_b1 _ (hS.dropN 5)) rfl 23 Und23 hi5 hz5 hs5 (by rw [hb5]; decide) (by decide) rfl (fun _ => rfl) hp2
  have hS : Sep w0 B w (own 5 (.slice A7 (([] ++ b1).length) c7) ((List.map (Value.int .u8) ([] ++ b1))) :: own 9 (.slice A6 r3.1.length c6) ((List.map strV r3.1)) :: own 5 (.slice A5 (([] ++ b1).length) c5) ((List.map (Value.int .u8) ([] ++ b1))) :: view (.slice A4 r2.1.length c4) (List.map (Value.int .u8) r2.1) :: own 9 (.slice A3 r1.length c3) ((List.map strV r1)) :: fs) := hS
  refine at_do (d := 36) hF (by kernel_rfl) (by kernel_rfl) hrun (fun a hF => ?_)
  refine at_run 1 [] [] [0, 1, 2, 7, 8, 9, 10, 11, 36, 37] [pl 0 (.slice A1 lines1.length c1), pl 1 (.slice A2 b1.length c2), pl 2 (strV line1), pl 7 (.slice A4 r2.1.length c4), pl 8 (.int .i64 r2.2), pl 9 (.slice A6 r3.1.length c6), pl 10 (.int .i64 r3.2.1), pl 11 (.int .i64 r3.2.2), pl 36 (.slice A7 (([] ++ b1).length) c7), pl 37 (strV line1)] hF hS (by kernel_rfl) (by kernel_rfl) ?_ (fun a w hF hS => ?_)
  · exact obs_nil
  refine at_call (f := 15) (args := #[.slice A7 (([] ++ b1).length) c7, strV line1]) (d := 38) hF (by kernel_rfl) (by kernel_rfl) Try.func15 (by kernel_rfl) rfl (hall_Add_w hr4 hS (fun _ hS => (hS.at_ 0 rfl).rd) ((hS.at_ 0 rfl).cap1) rfl) (fun v a w hR hF => ?_)
  clear hS
  obtain ⟨A8, c8, rfl, hS⟩ := hR
  have hS : Sep w0 B w (own 5 (.slice A8 r4.1.length c8) ((List.map (Value.int .u8) r4.1)) :: own 5 (.slice A7 (([] ++ b1).length) c7) ((List.map (Value.int .u8) ([] ++ b1))) :: own 9 (.slice A6 r3.1.length c6) ((List.map strV r3.1)) :: own 5 (.slice A5 (([] ++ b1).length) c5) ((List.map (Value.int .u8) ([] ++ b1))) :: view (.slice A4 r2.1.length c4) (List.map (Value.int .u8) r2.1) :: own 9 (.slice A3 r1.length c3) ((List.map strV r1)) :: fs) := hS
  refine at_run 5 [] [] [0, 1, 2, 7, 8, 9, 10, 11, 12, 13] [pl 0 (.slice A1 lines1.length c1), pl 1 (.slice A2 b1.length c2), pl 2 (strV line1), pl 7 (.slice A4 r2.1.length c4), pl 8 (.int .i64 r2.2), pl 9 (.slice A6 r3.1.length c6), pl 10 (.int .i64 r3.2.1), pl 11 (.int .i64 r3.2.2), pl 12 (.slice A8 r4.1.length c8), pl 13 (.int .i64 r4.2)] hF hS (by kernel_rfl) (by kernel_rfl) ?_ (fun a w hF hS => ?_)
  · exact obs_nil
  refine at_end [0, 1, 2, 7, 8, 9, 10, 11, 12, 13] [pl 0 (.slice A1 lines1.length c1), pl 1 (.slice A2 b1.length c2), pl 2 (strV line1), pl 7 (.slice A4 r2.1.length c4), pl 8 (.int .i64 r2.2), pl 9 (.slice A6 r3.1.length c6), pl 10 (.int .i64 r3.2.1), pl 11 (.int .i64 r3.2.2), pl 12 (.slice A8 r4.1.length c8), pl 13 (.int .i64 r4.2)] hF rfl (by kernel_rfl) (fun hF => ?_)
  refine then_n ?_
  refine seqR ?_
  obtain ⟨r5, hr5, hm⟩ := call_b hm
  refine at_run 1 [] [] [1, 2, 7, 8, 9, 10, 11, 12, 13, 42] [pl 1 (.slice A2 b1.length c2), pl 2 (strV line1), pl 7 (.slice A4 r2.1.length c4), pl 8 (.int .i64 r2.2), pl 9 (.slice A6 r3.1.length c6), pl 10 (.int .i64 r3.2.1), pl 11 (.int .i64 r3.2.2), pl 12 (.slice A8 r4.1.length c8), pl 13 (.int .i64 r4.2), pl 42 (.slice A1 lines1.length c1)] hF hS (by kernel_rfl) (by kernel_rfl) ?_ (fun a w hF hS => ?_)
  · exact obs_nil
  refine at_call (f := 16) (args := #[.slice A1 lines1.length c1]) (d := 43) hF (by kernel_rfl) (by kernel_rfl) Try.func16 (by kernel_rfl) rfl (gameroomref_BookOf_w hr5 hS (fun _ hS => (hr_lines1 _ (hS.dropN 6))) _hc_lines1 rfl) (fun v a w hR hF => ?_)
  clear hS
  obtain ⟨A9, c9, rfl, hS⟩ := hR
  have hS : Sep w0 B w (view (.slice A9 r5.1.length c9) (List.map (Value.int .u8) r5.1) :: own 5 (.slice A8 r4.1.length c8) ((List.map (Value.int .u8) r4.1)) :: own 5 (.slice A7 (([] ++ b1).length) c7) ((List.map (Value.int .u8) ([] ++ b1))) :: own 9 (.slice A6 r3.1.length c6) ((List.map strV r3.1)) :: own 5 (.slice A5 (([] ++ b1).length) c5) ((List.map (Value.int .u8) ([] ++ b1))) :: view (.slice A4 r2.1.length c4) (List.map (Value.int .u8) r2.1) :: own 9 (.slice A3 r1.length c3) ((List.map strV r1)) :: fs) := hS
  refine at_run 5 [] [] [1, 2, 7, 8, 9, 10, 11, 12, 13, 14, 15] [pl 1 (.slice A2 b1.length c2), pl 2 (strV line1), pl 7 (.slice A4 r2.1.length c4), pl 8 (.int .i64 r2.2), pl 9 (.slice A6 r3.1.length c6), pl 10 (.int .i64 r3.2.1), pl 11 (.int .i64 r3.2.2), pl 12 (.slice A8 r4.1.length c8), pl 13 (.int .i64 r4.2), pl 14 (.slice A9 r5.1.length c9), pl 15 (.int .i64 r5.2)] hF hS (by kernel_rfl) (by kernel_rfl) ?_ (fun a w hF hS => ?_)
  · exact obs_nil
  refine at_end [1, 2, 7, 8, 9, 10, 11, 12, 13, 14, 15] [pl 1 (.slice A2 b1.length c2), pl 2 (strV line1), pl 7 (.slice A4 r2.1.length c4), pl 8 (.int .i64 r2.2), pl 9 (.slice A6 r3.1.length c6), pl 10 (.int .i64 r3.2.1), pl 11 (.int .i64 r3.2.2), pl 12 (.slice A8 r4.1.length c8), pl 13 (.int .i64 r4.2), pl 14 (.slice A9 r5.1.length c9), pl 15 (.int .i64 r5.2)] hF rfl (by kernel_rfl) (fun hF => ?_)
  refine then_n ?_
  refine seqR ?_
  obtain ⟨r6, hr6, hm⟩ := call_b hm
  refine at_run 1 [] [] [1, 2, 7, 8, 9, 10, 11, 12, 13, 14, 15, 47] [pl 1 (.slice A2 b1.length c2), pl 2 (strV line1), pl 7 (.slice A4 r2.1.length c4), pl 8 (.int .i64 r2.2), pl 9 (.slice A6 r3.1.length c6), pl 10 (.int .i64 r3.2.1), pl 11 (.int .i64 r3.2.2), pl 12 (.slice A8 r4.1.length c8), pl 13 (.int .i64 r4.2), pl 14 (.slice A9 r5.1.length c9), pl 15 (.int .i64 r5.2), pl 47 (.slice A2 b1.length c2)] hF hS (by kernel_rfl) (by kernel_rfl) ?_ (fun a w hF hS => ?_)
  · exact obs_nil
  refine at_call (f := 17) (args := #[.slice A2 b1.length c2]) (d := 48) hF (by kernel_rfl) (by kernel_rfl) Try.func17 (by kernel_rfl) rfl (gameroomref_OpenOf_w hr6 hS (fun _ hS => (hr_b1 _ (hS.dropN 7))) _hc_b1 rfl) (fun v a w hR hF => ?_)
  clear hS
  obtain ⟨A10, c10, rfl, hS⟩ := hR
  have hS : Sep w0 B w (own 9 (.slice A10 r6.1.length c10) ((List.map strV r6.1)) :: view (.slice A9 r5.1.length c9) (List.map (Value.int .u8) r5.1) :: own 5 (.slice A8 r4.1.length c8) ((List.map (Value.int .u8) r4.1)) :: own 5 (.slice A7 (([] ++ b1).length) c7) ((List.map (Value.int .u8) ([] ++ b1))) :: own 9 (.slice A6 r3.1.length c6) ((List.map strV r3.1)) :: own 5 (.slice A5 (([] ++ b1).length) c5) ((List.map (Value.int .u8) ([] ++ b1))) :: view (.slice A4 r2.1.length c4) (List.map (Value.int .u8) r2.1) :: own 9 (.slice A3 r1.length c3) ((List.map strV r1)) :: fs) := hS
  refine at_run 7 [] [] [1, 2, 7, 8, 9, 10, 11, 12, 13, 14, 15, 16, 17, 18] [pl 1 (.slice A2 b1.length c2), pl 2 (strV line1), pl 7 (.slice A4 r2.1.length c4), pl 8 (.int .i64 r2.2), pl 9 (.slice A6 r3.1.length c6), pl 10 (.int .i64 r3.2.1), pl 11 (.int .i64 r3.2.2), pl 12 (.slice A8 r4.1.length c8), pl 13 (.int .i64 r4.2), pl 14 (.slice A9 r5.1.length c9), pl 15 (.int .i64 r5.2), pl 16 (.slice A10 r6.1.length c10), pl 17 (.int .i64 r6.2.1), pl 18 (.int .i64 r6.2.2)] hF hS (by kernel_rfl) (by kernel_rfl) ?_ (fun a w hF hS => ?_)
  · exact obs_nil
  refine at_end [1, 2, 7, 8, 9, 10, 11, 12, 13, 14, 15, 16, 17, 18] [pl 1 (.slice A2 b1.length c2), pl 2 (strV line1), pl 7 (.slice A4 r2.1.length c4), pl 8 (.int .i64 r2.2), pl 9 (.slice A6 r3.1.length c6), pl 10 (.int .i64 r3.2.1), pl 11 (.int .i64 r3.2.2), pl 12 (.slice A8 r4.1.length c8), pl 13 (.int .i64 r4.2), pl 14 (.slice A9 r5.1.length c9), pl 15 (.int .i64 r5.2), pl 16 (.slice A10 r6.1.length c10), pl 17 (.int .i64 r6.2.1), pl 18 (.int .i64 r6.2.2)] hF rfl (by kernel_rfl) (fun hF => ?_)
  refine then_n ?_
  refine seq_cut (fun a w => Fr 122 [pl 1 (.slice A2 b1.length c2), pl 2 (strV line1), pl 12 (.slice A8 r4.1.length c8), pl 13 (.int .i64 r4.2), pl 17 (.int .i64 r6.2.1), pl 18 (.int .i64 r6.2.2)] a ∧ Sep w0 B w (own 5 (.slice A8 r4.1.length c8) ((List.map (Value.int .u8) r4.1)) :: fs) ∧ ((gameroomlaw_HallBooks_J1 b1 line1 r4 r6)).bind some = some r) ?_ ?_
  · rintro a w ⟨hF, hS, hm⟩
    unfold gameroomlaw_HallBooks_J1 at hm
    refine reg [] [] [1, 2, 12, 13, 17, 19] [pl 1 (.slice A2 b1.length c2), pl 2 (strV line1), pl 12 (.slice A8 r4.1.length c8), pl 13 (.int .i64 r4.2), pl 17 (.int .i64 r6.2.1), pl 19 (.int .i64 r6.2.2)] hF hS Fol (by kernel_rfl) (by kernel_rfl) (by kernel_rfl) ?_ (fun a w hF hS => ?_)
    · exact obs_nil
    refine seq_cut (fun a w => ∃ (no1 : Int), Fr 122 [pl 1 (.slice A2 b1.length c2), pl 2 (strV line1), pl 12 (.slice A8 r4.1.length c8), pl 13 (.int .i64 r4.2), pl 17 (.int .i64 r6.2.1), pl 19 (.int .i64 no1)] a ∧ Sep w0 B w (own 5 (.slice A8 r4.1.length c8) ((List.map (Value.int .u8) r4.1)) :: fs) ∧ ((gameroomlaw_HallBooks_J3 b1 line1 r4 r6) no1).bind some = some r) ?_ ?_
    · rintro a w ⟨no1, hF, hS, hm⟩
      unfold gameroomlaw_HallBooks_J3 at hm
      refine seq_cut (fun a w => ∃ (no2 : Int), Fr 122 [pl 1 (.slice A2 b1.length c2), pl 2 (strV line1), pl 12 (.slice A8 r4.1.length c8), pl 13 (.int .i64 r4.2), pl 17 (.int .i64 r6.2.1), pl 19 (.int .i64 no2)] a ∧ Sep w0 B w (own 5 (.slice A8 r4.1.length c8) ((List.map (Value.int .u8) r4.1)) :: fs) ∧ ((gameroomlaw_HallBooks_J4 b1 line1 r4 r6) no2).bind some = some r) ?_ ?_
      · rintro a w ⟨no2, hF, hS, hm⟩
        unfold gameroomlaw_HallBooks_J4 at hm
        refine seq_cut (fun a w => Fr 122 [pl 1 (.slice A2 b1.length c2), pl 2 (strV line1), pl 12 (.slice A8 r4.1.length c8), pl 13 (.int .i64 r4.2), pl 17 (.int .i64 r6.2.1)] a ∧ Sep w0 B w (own 5 (.slice A8 r4.1.length c8) ((List.map (Value.int .u8) r4.1)) :: fs) ∧ ((gameroomlaw_HallBooks_J5 b1 line1 r4 r6)).bind some = some r) ?_ ?_
        · rintro a w ⟨hF, hS, hm⟩
          unfold gameroomlaw_HallBooks_J5 at hm
          refine seqR ?_
          obtain ⟨hp3, hm⟩ := asrt_b hm
          obtain ⟨hp4, hm⟩ := asrt_b hm
          obtain ⟨r9, hr9, hm⟩ := call_b hm
          obtain ⟨hp5, hm⟩ := asrt_b hm
          refine at_run 3 [⟨true, [], vS (Instr.sliceAt 23 (.slice A2 b1.length c2) none (some (.int .i64 r6.2.1)) none), .slice (cutAddr A2 c2 (0 : Int)) ((cut b1 (0 : Int) r6.2.1).length) (c2 - Int.toNat (0 : Int))⟩] [none, none, some (.slice (cutAddr A2 c2 (0 : Int)) ((cut b1 (0 : Int) r6.2.1).length) (c2 - Int.toNat (0 : Int)))] [2, 12, 13, 108] [pl 2 (strV line1), pl 12 (.slice A8 r4.1.length c8), pl 13 (.int .i64 r4.2), pl 108 (.slice (cutAddr A2 c2 (0 : Int)) ((cut b1 (0 : Int) r6.2.1).length) (c2 - Int.toNat (0 : Int)))] hF hS (by kernel_rfl) (by kernel_rfl) ?_ (fun a w hF hS => ?_)
          · exact obs_cons (ob_cutn (l := b1) (k := .i64) (k' := .i64) Und23 hi5 hs5 rfl (.inr ⟨rfl, rfl⟩) (.inl rfl) (fun _ => hp3) _hc_b1) <| obs_nil
          have hS : Sep w0 B w (own 5 (.slice none 0 0) ((List.map (Value.int .u8) ([] : List Int))) :: own 5 (.slice A8 r4.1.length c8) ((List.map (Value.int .u8) r4.1)) :: fs) := hS.nil 5
          obtain ⟨A11, c11, w, hrun, hS⟩ := run_appG (P := Try.prog) (t := 23) (m := ([] : List Int)) (ys := (cut b1 (0 : Int) r6.2.1)) (A2 := (cutAddr A2 c2 (0 : Int))) (m2 := (cut b1 (0 : Int) r6.2.1).length) (c2 := (c2 - Int.toNat (0 : Int))) (Value.int .u8) (0 : Int) 140737488355328 (hS.at_ 0 rfl) (Rd.cutF (hr_b1 _ (hS.dropN 2)) hp3 _hc_b1) rfl 23 Und23 hi5 hz5 hs5 (by rw [hb5]; decide) (by decide) rfl (fun _ => rfl) hp4
          have hS : Sep w0 B w (own 5 (.slice A11 (([] ++ (cut b1 (0 : Int) r6.2.1)).length) c11) ((List.map (Value.int .u8) ([] ++ (cut b1 (0 : Int) r6.2.1)))) :: own 5 (.slice A8 r4.1.length c8) ((List.map (Value.int .u8) r4.1)) :: fs) := hS
          refine at_do (d := 109) hF (by kernel_rfl) (by kernel_rfl) hrun (fun a hF => ?_)
          refine at_run 1 [] [] [12, 13, 109, 110] [pl 12 (.slice A8 r4.1.length c8), pl 13 (.int .i64 r4.2), pl 109 (.slice A11 (([] ++ (cut b1 (0 : Int) r6.2.1)).length) c11), pl 110 (strV line1)] hF hS (by kernel_rfl) (by kernel_rfl) ?_ (fun a w hF hS => ?_)
          · exact obs_nil
          refine at_call (f := 19) (args := #[strV line1]) (d := 111) hF (by kernel_rfl) (by kernel_rfl) Try.func19 (by kernel_rfl) rfl (gameroomref_EntryOf_w hr9 hS ) (fun v a w hR hF => ?_)
          clear hS
          obtain ⟨A12, c12, rfl, hS⟩ := hR
          have hS : Sep w0 B w (own 5 (.slice A12 r9.length c12) ((List.map (Value.int .u8) r9)) :: own 5 (.slice A11 (([] ++ (cut b1 (0 : Int) r6.2.1)).length) c11) ((List.map (Value.int .u8) ([] ++ (cut b1 (0 : Int) r6.2.1)))) :: own 5 (.slice A8 r4.1.length c8) ((List.map (Value.int .u8) r4.1)) :: fs) := hS
          obtain ⟨A13, c13, w, hrun, hS⟩ := run_appG (P := Try.prog) (t := 23) (m := ([] ++ (cut b1 (0 : Int) r6.2.1))) (ys := r9) (A2 := A12) (m2 := r9.length) (c2 := c12) (Value.int .u8) (0 : Int) 140737488355328 (hS.at_ 1 rfl) (hS.at_ 0 rfl).rd rfl 23 Und23 hi5 hz5 hs5 (by rw [hb5]; decide) (by decide) rfl (fun _ => rfl) hp5
          have hS : Sep w0 B w (own 5 (.slice A12 r9.length c12) ((List.map (Value.int .u8) r9)) :: own 5 (.slice A13 ((([] ++ (cut b1 (0 : Int) r6.2.1)) ++ r9).length) c13) ((List.map (Value.int .u8) (([] ++ (cut b1 (0 : Int) r6.2.1)) ++ r9))) :: own 5 (.slice A8 r4.1.length c8) ((List.map (Value.int .u8) r4.1)) :: fs) := hS
          refine at_do (d := 112) hF (by kernel_rfl) (by kernel_rfl) hrun (fun a hF => ?_)
          refine at_run 1 [] [] [12, 13, 20] [pl 12 (.slice A8 r4.1.length c8), pl 13 (.int .i64 r4.2), pl 20 (.slice A13 ((([] ++ (cut b1 (0 : Int) r6.2.1)) ++ r9).length) c13)] hF hS (by kernel_rfl) (by kernel_rfl) ?_ (fun a w hF hS => ?_)
          · exact obs_nil
          refine at_end [12, 13, 20] [pl 12 (.slice A8 r4.1.length c8), pl 13 (.int .i64 r4.2), pl 20 (.slice A13 ((([] ++ (cut b1 (0 : Int) r6.2.1)) ++ r9).length) c13)] hF rfl (by kernel_rfl) (fun hF => ?_)
          refine then_n ?_
          refine seq_cut (fun a w => ∃ (z2 : Bool), Fr 122 [pl 6 (.bool z2)] a ∧ Sep w0 B w (fs) ∧ (gameroomlaw_HallBooks_J6 z2).bind some = some r) ?_ ?_
          · rintro a w ⟨z2, hF, hS, hm⟩
            unfold gameroomlaw_HallBooks_J6 at hm
            refine wpIn_ret ?_
            have hm : some z2 = some r := hm
            obtain rfl := Option.some.inj hm
            exact retV (rs := [.tmp 6]) (vs := [.bool z2]) hF rfl (rv_t (by kernel_rfl) <| rv_nil) rfl ⟨rfl, hS⟩
          · refine oneR ?_
            refine at_run 4 [] [] [20, 115, 116] [pl 20 (.slice A13 ((([] ++ (cut b1 (0 : Int) r6.2.1)) ++ r9).length) c13), pl 115 (.bool (r4.2 == 0)), ⟨116, [(115, true)], .slice A8 r4.1.length c8⟩] hF hS (by kernel_rfl) (by kernel_rfl) ?_ (fun a w hF hS => ?_)
            · exact obs_nil
            rcases Bool.eq_false_or_eq_true (r4.2 == 0) with hg2 | hg2
            · replace hm := if_t hm hg2
              have hrun := run_strE (P := Try.prog) (src := 23) (dst := 9) (e := 5) (m := r4.1) (c := c8) (by kernel_rfl) (by kernel_rfl) (by kernel_rfl) (hS.at_ 2 rfl).rd rfl
              refine at_gdo (hs := [((r4.2 == 0), true)]) (fun y hy => by simp only [List.mem_cons, List.not_mem_nil, or_false] at hy; subst hy; first | exact hg2) (d := 117) hF (by kernel_rfl) (by kernel_rfl) hrun (fun a hF => ?_)
              refine at_run 1 [] [] [115, 117, 118] [pl 115 (.bool (r4.2 == 0)), pl 117 (strV (b8 r4.1)), ⟨118, [(115, true)], .slice A13 ((([] ++ (cut b1 (0 : Int) r6.2.1)) ++ r9).length) c13⟩] hF hS (by kernel_rfl) (by kernel_rfl) ?_ (fun a w hF hS => ?_)
              · exact obs_nil
              have hrun := run_strE (P := Try.prog) (src := 23) (dst := 9) (e := 5) (m := (([] ++ (cut b1 (0 : Int) r6.2.1)) ++ r9)) (c := c13) (by kernel_rfl) (by kernel_rfl) (by kernel_rfl) (hS.at_ 1 rfl).rd rfl
              refine at_gdo (hs := [((r4.2 == 0), true)]) (fun y hy => by simp only [List.mem_cons, List.not_mem_nil, or_false] at hy; subst hy; first | exact hg2) (d := 119) hF (by kernel_rfl) (by kernel_rfl) hrun (fun a hF => ?_)
              refine at_run 3 [⟨true, [((r4.2 == 0), true)], vS (do eqGuard .eql 9 (.tmp 117) (.tmp 119) (strV (b8 r4.1)) (strV (b8 (([] ++ (cut b1 (0 : Int) r6.2.1)) ++ r9))); binOp .eql 9 (strV (b8 r4.1)) (strV (b8 (([] ++ (cut b1 (0 : Int) r6.2.1)) ++ r9)))), .bool (((b8 r4.1) == (b8 (([] ++ (cut b1 (0 : Int) r6.2.1)) ++ r9))))⟩] [some (.bool (((b8 r4.1) == (b8 (([] ++ (cut b1 (0 : Int) r6.2.1)) ++ r9))))), none, none] [6] [pl 6 (.bool ((r4.2 == 0) && ((b8 r4.1) == (b8 (([] ++ (cut b1 (0 : Int) r6.2.1)) ++ r9)))))] hF hS (by kernel_rfl) (by kernel_rfl) ?_ (fun a w hF hS => ?_)
              · exact obs_cons (ob_seql _ _) <| obs_nil
              refine at_end [6] [pl 6 (.bool ((r4.2 == 0) && ((b8 r4.1) == (b8 (([] ++ (cut b1 (0 : Int) r6.2.1)) ++ r9)))))] hF rfl (by kernel_rfl) (fun hF => ?_)
              refine then_n ?_
              have hS := hS.pickN 3 [] (by decide)
              exact ⟨((r4.2 == 0) && ((b8 r4.1) == (b8 (([] ++ (cut b1 (0 : Int) r6.2.1)) ++ r9)))), hF.weak [6] (by kernel_rfl), hS, hm⟩
            · replace hm := if_f hm hg2
              refine at_gskip (d := 117) (v := strV ([] : List UInt8)) (hs := [((r4.2 == 0), true)]) (ctx := [(115, true)]) hF (by kernel_rfl) (by kernel_rfl) (fun h => absurd (h ((r4.2 == 0), true) (by simp)) (by simp [hg2])) (fun a hF => ?_)
              refine at_run 1 [] [] [115, 117, 118] [pl 115 (.bool (r4.2 == 0)), ⟨117, [(115, true)], strV ([] : List UInt8)⟩, ⟨118, [(115, true)], .slice A13 ((([] ++ (cut b1 (0 : Int) r6.2.1)) ++ r9).length) c13⟩] hF hS (by kernel_rfl) (by kernel_rfl) ?_ (fun a w hF hS => ?_)
              · exact obs_nil
              refine at_gskip (d := 119) (v := strV ([] : List UInt8)) (hs := [((r4.2 == 0), true)]) (ctx := [(115, true)]) hF (by kernel_rfl) (by kernel_rfl) (fun h => absurd (h ((r4.2 == 0), true) (by simp)) (by simp [hg2])) (fun a hF => ?_)
              refine at_run 3 [⟨true, [((r4.2 == 0), true)], vS (do eqGuard .eql 9 (.tmp 117) (.tmp 119) (strV ([] : List UInt8)) (strV ([] : List UInt8)); binOp .eql 9 (strV ([] : List UInt8)) (strV ([] : List UInt8))), .bool ((([] : List UInt8) == ([] : List UInt8)))⟩] [some (.bool ((([] : List UInt8) == ([] : List UInt8)))), none, none] [6] [pl 6 (.bool ((r4.2 == 0) && (([] : List UInt8) == ([] : List UInt8))))] hF hS (by kernel_rfl) (by kernel_rfl) ?_ (fun a w hF hS => ?_)
              · exact obs_cons (Ob.vac (fun h => absurd (h ((r4.2 == 0), true) (by simp)) (by simp [hg2]))) <| obs_nil
              refine at_end [6] [pl 6 (.bool ((r4.2 == 0) && (([] : List UInt8) == ([] : List UInt8))))] hF rfl (by kernel_rfl) (fun hF => ?_)
              refine then_n ?_
              have hS := hS.pickN 3 [] (by decide)
              exact ⟨((r4.2 == 0) && (([] : List UInt8) == ([] : List UInt8))), hF.weak [6] (by kernel_rfl), hS, hm⟩
        · refine reg [] [] [1, 2, 12, 13, 17, 19, 97] [pl 1 (.slice A2 b1.length c2), pl 2 (strV line1), pl 12 (.slice A8 r4.1.length c8), pl 13 (.int .i64 r4.2), pl 17 (.int .i64 r6.2.1), pl 19 (.int .i64 no2), pl 97 (.bool (no2 != 0))] hF hS Fol (by kernel_rfl) (by kernel_rfl) (by kernel_rfl) ?_ (fun a w hF hS => ?_)
          · exact obs_nil
          refine cond_ev (t := 97) (b := (no2 != 0)) hF (by kernel_rfl) (fun hb => ?_) (fun hb => ?_)
          · replace hm := if_t hm hb
            refine reg [] [] [6] [pl 6 (.bool ((r4.2 == no2) && ((r4.1.length : Int) == 0)))] hF hS Fol (by kernel_rfl) (by kernel_rfl) (by kernel_rfl) ?_ (fun a w hF hS => ?_)
            · exact obs_nil
            refine wpIn_ret ?_
            refine then_r ?_
            have hS := hS.pickN 1 [] (by decide)
            have hm : some ((r4.2 == no2) && ((r4.1.length : Int) == 0)) = some r := hm
            obtain rfl := Option.some.inj hm
            exact retV (rs := [.tmp 6]) (vs := [.bool ((r4.2 == no2) && ((r4.1.length : Int) == 0))]) hF rfl (rv_t (by kernel_rfl) <| rv_nil) rfl ⟨rfl, hS⟩
          · replace hm := if_f hm hb
            refine wpIn_skip ?_
            refine then_n ?_
            exact ⟨hF.weak [1, 2, 12, 13, 17] (by kernel_rfl), hS, hm⟩
      · refine reg [⟨true, [((no1 == 0), true)], vS (Builtin.len_ #[9] 3 #[strV line1]), .int .i64 (line1.length : Int)⟩] [none, none, none, none, none, none, some (.int .i64 (line1.length : Int)), none, none, none] [1, 2, 12, 13, 17, 19, 95] [pl 1 (.slice A2 b1.length c2), pl 2 (strV line1), pl 12 (.slice A8 r4.1.length c8), pl 13 (.int .i64 r4.2), pl 17 (.int .i64 r6.2.1), pl 19 (.int .i64 no1), pl 95 (.bool ((no1 == 0) && (decide ((4000 : Int) < (w64 ((w64 (r6.2.1 + 4)) + (line1.length : Int)))))))] hF hS Fol (by kernel_rfl) (by kernel_rfl) (by kernel_rfl) ?_ (fun a w hF hS => ?_)
        · exact obs_cons (ob_slen (s := line1) (by kernel_rfl) 3) <| obs_nil
        refine cond_ev (t := 95) (b := (no1 == 0) && (decide ((4000 : Int) < (w64 ((w64 (r6.2.1 + 4)) + (line1.length : Int)))))) hF (by kernel_rfl) (fun hb => ?_) (fun hb => ?_)
        · replace hm := if_t hm hb
          refine reg1 [] [] [1, 2, 12, 13, 17, 19] [pl 1 (.slice A2 b1.length c2), pl 2 (strV line1), pl 12 (.slice A8 r4.1.length c8), pl 13 (.int .i64 r4.2), pl 17 (.int .i64 r6.2.1), pl 19 (.int .i64 2)] hF hS Fol (by kernel_rfl) (by kernel_rfl) (by kernel_rfl) ?_ (fun a w hF hS => ?_)
          · exact obs_nil
          refine then_n ?_
          exact ⟨2, hF.weak [1, 2, 12, 13, 17, 19] (by kernel_rfl), hS, hm⟩
        · replace hm := if_f hm hb
          refine wpIn_skip ?_
          refine then_n ?_
          exact ⟨no1, hF.weak [1, 2, 12, 13, 17, 19] (by kernel_rfl), hS, hm⟩
    · refine reg [⟨true, [((r6.2.2 == 0), true)], vS (Builtin.len_ #[9] 3 #[strV line1]), .int .i64 (line1.length : Int)⟩] [none, none, none, none, some (.int .i64 (line1.length : Int)), none, none] [1, 2, 12, 13, 17, 19, 85] [pl 1 (.slice A2 b1.length c2), pl 2 (strV line1), pl 12 (.slice A8 r4.1.length c8), pl 13 (.int .i64 r4.2), pl 17 (.int .i64 r6.2.1), pl 19 (.int .i64 r6.2.2), pl 85 (.bool ((r6.2.2 == 0) && (decide ((255 : Int) < (line1.length : Int)))))] hF hS Fol (by kernel_rfl) (by kernel_rfl) (by kernel_rfl) ?_ (fun a w hF hS => ?_)
      · exact obs_cons (ob_slen (s := line1) (by kernel_rfl) 3) <| obs_nil
      refine cond_ev (t := 85) (b := (r6.2.2 == 0) && (decide ((255 : Int) < (line1.length : Int)))) hF (by kernel_rfl) (fun hb => ?_) (fun hb => ?_)
      · replace hm := if_t hm hb
        refine reg1 [] [] [1, 2, 12, 13, 17, 19] [pl 1 (.slice A2 b1.length c2), pl 2 (strV line1), pl 12 (.slice A8 r4.1.length c8), pl 13 (.int .i64 r4.2), pl 17 (.int .i64 r6.2.1), pl 19 (.int .i64 1)] hF hS Fol (by kernel_rfl) (by kernel_rfl) (by kernel_rfl) ?_ (fun a w hF hS => ?_)
        · exact obs_nil
        refine then_n ?_
        exact ⟨1, hF.weak [1, 2, 12, 13, 17, 19] (by kernel_rfl), hS, hm⟩
      · replace hm := if_f hm hb
        refine wpIn_skip ?_
        refine then_n ?_
        exact ⟨r6.2.2, hF.weak [1, 2, 12, 13, 17, 19] (by kernel_rfl), hS, hm⟩
  · refine seq_cut (fun a w => ∃ (z1 : Bool), Fr 122 [pl 1 (.slice A2 b1.length c2), pl 2 (strV line1), pl 12 (.slice A8 r4.1.length c8), pl 13 (.int .i64 r4.2), pl 17 (.int .i64 r6.2.1), pl 18 (.int .i64 r6.2.2), pl 77 (.bool z1)] a ∧ Sep w0 B w (own 5 (.slice A8 r4.1.length c8) ((List.map (Value.int .u8) r4.1)) :: fs) ∧ ((gameroomlaw_HallBooks_J2 b1 line1 r4 r6) z1).bind some = some r) ?_ ?_
    · rintro a w ⟨z1, hF, hS, hm⟩
      unfold gameroomlaw_HallBooks_J2 at hm
      refine cond_ev (t := 77) (b := z1) hF (by kernel_rfl) (fun hb => ?_) (fun hb => ?_)
      · replace hm := if_t hm hb
        refine reg [] [] [6] [pl 6 (.bool false)] hF hS Fol (by kernel_rfl) (by kernel_rfl) (by kernel_rfl) ?_ (fun a w hF hS => ?_)
        · exact obs_nil
        refine wpIn_ret ?_
        refine then_r ?_
        have hS := hS.pickN 1 [] (by decide)
        have hm : some false = some r := hm
        obtain rfl := Option.some.inj hm
        exact retV (rs := [.tmp 6]) (vs := [.bool false]) hF rfl (rv_t (by kernel_rfl) <| rv_nil) rfl ⟨rfl, hS⟩
      · replace hm := if_f hm hb
        refine wpIn_skip ?_
        refine then_n ?_
        exact ⟨hF.weak [1, 2, 12, 13, 17, 18] (by kernel_rfl), hS, hm⟩
    · refine oneR ?_
      refine at_run 5 [] [] [1, 2, 9, 10, 11, 12, 13, 14, 16, 17, 18, 55, 56] [pl 1 (.slice A2 b1.length c2), pl 2 (strV line1), pl 9 (.slice A6 r3.1.length c6), pl 10 (.int .i64 r3.2.1), pl 11 (.int .i64 r3.2.2), pl 12 (.slice A8 r4.1.length c8), pl 13 (.int .i64 r4.2), pl 14 (.slice A9 r5.1.length c9), pl 16 (.slice A10 r6.1.length c10), pl 17 (.int .i64 r6.2.1), pl 18 (.int .i64 r6.2.2), pl 55 (.bool (r2.2 != r5.2)), ⟨56, [(55, false)], .slice A4 r2.1.length c4⟩] hF hS (by kernel_rfl) (by kernel_rfl) ?_ (fun a w hF hS => ?_)
      · exact obs_nil
      rcases Bool.eq_false_or_eq_true (r2.2 != r5.2) with hg1 | hg1
      · replace hm := if_t hm hg1
        obtain ⟨r7, hr7, hm⟩ := call_b hm
        refine at_gskip (d := 57) (v := strV ([] : List UInt8)) (hs := [((r2.2 != r5.2), false)]) (ctx := [(55, false)]) hF (by kernel_rfl) (by kernel_rfl) (fun h => absurd (h ((r2.2 != r5.2), false) (by simp)) (by simp [hg1])) (fun a hF => ?_)
        refine at_run 1 [] [] [1, 2, 9, 10, 11, 12, 13, 16, 17, 18, 55, 57, 58] [pl 1 (.slice A2 b1.length c2), pl 2 (strV line1), pl 9 (.slice A6 r3.1.length c6), pl 10 (.int .i64 r3.2.1), pl 11 (.int .i64 r3.2.2), pl 12 (.slice A8 r4.1.length c8), pl 13 (.int .i64 r4.2), pl 16 (.slice A10 r6.1.length c10), pl 17 (.int .i64 r6.2.1), pl 18 (.int .i64 r6.2.2), pl 55 (.bool (r2.2 != r5.2)), ⟨57, [(55, false)], strV ([] : List UInt8)⟩, ⟨58, [(55, false)], .slice A9 r5.1.length c9⟩] hF hS (by kernel_rfl) (by kernel_rfl) ?_ (fun a w hF hS => ?_)
        · exact obs_nil
        refine at_gskip (d := 59) (v := strV ([] : List UInt8)) (hs := [((r2.2 != r5.2), false)]) (ctx := [(55, false)]) hF (by kernel_rfl) (by kernel_rfl) (fun h => absurd (h ((r2.2 != r5.2), false) (by simp)) (by simp [hg1])) (fun a hF => ?_)
        refine at_run 18 [⟨true, [((r2.2 != r5.2), false)], vS (do eqGuard .neq 9 (.tmp 57) (.tmp 59) (strV ([] : List UInt8)) (strV ([] : List UInt8)); binOp .neq 9 (strV ([] : List UInt8)) (strV ([] : List UInt8))), .bool (!(([] : List UInt8) == ([] : List UInt8)))⟩, ⟨false, [((((r2.2 != r5.2) || (!(([] : List UInt8) == ([] : List UInt8)))) || (r3.2.2 != r6.2.2)) || (r3.2.1 != r6.2.1), false)], callFunc 18 #[.slice A6 r3.1.length c6, .slice A10 r6.1.length c10], .bool r7⟩] [some (.bool (!(([] : List UInt8) == ([] : List UInt8)))), none, none, none, none, none, none, none, none, none, none, none, none, none, none, some (.bool r7), none, none] [1, 2, 12, 13, 17, 18, 77] [pl 1 (.slice A2 b1.length c2), pl 2 (strV line1), pl 12 (.slice A8 r4.1.length c8), pl 13 (.int .i64 r4.2), pl 17 (.int .i64 r6.2.1), pl 18 (.int .i64 r6.2.2), pl 77 (.bool (((((r2.2 != r5.2) || (!(([] : List UInt8) == ([] : List UInt8)))) || (r3.2.2 != r6.2.2)) || (r3.2.1 != r6.2.1)) || (!r7)))] hF hS (by kernel_rfl) (by kernel_rfl) ?_ (fun a w hF hS => ?_)
        · exact obs_cons (Ob.vac (fun h => absurd (h ((r2.2 != r5.2), false) (by simp)) (by simp [hg1]))) <| obs_cons (ob_call Try.func18 (by kernel_rfl) rfl (fun hy _ hS => gameroomref_SameTexts_w (ite_some hr7 (by rw [show ((((r2.2 != r5.2) || (!(([] : List UInt8) == ([] : List UInt8)))) || (r3.2.2 != r6.2.2)) || (r3.2.1 != r6.2.1)) = false from hy ((((r2.2 != r5.2) || (!(([] : List UInt8) == ([] : List UInt8)))) || (r3.2.2 != r6.2.2)) || (r3.2.1 != r6.2.1), false) (by simp)]; try rfl)) hS (fun _ hS => (hS.at_ 4 rfl).rd) ((hS.at_ 4 rfl).cap1) rfl (fun _ hS => (hS.at_ 0 rfl).rd) ((hS.at_ 0 rfl).cap1) rfl)) <| obs_nil
        refine at_end [1, 2, 12, 13, 17, 18, 77] [pl 1 (.slice A2 b1.length c2), pl 2 (strV line1), pl 12 (.slice A8 r4.1.length c8), pl 13 (.int .i64 r4.2), pl 17 (.int .i64 r6.2.1), pl 18 (.int .i64 r6.2.2), pl 77 (.bool (((((r2.2 != r5.2) || (!(([] : List UInt8) == ([] : List UInt8)))) || (r3.2.2 != r6.2.2)) || (r3.2.1 != r6.2.1)) || (!r7)))] hF rfl (by kernel_rfl) (fun hF => ?_)
        refine then_n ?_
        have hS := hS.pickN 8 [2] (by decide)
        exact ⟨(((((r2.2 != r5.2) || (!(([] : List UInt8) == ([] : List UInt8)))) || (r3.2.2 != r6.2.2)) || (r3.2.1 != r6.2.1)) || (!r7)), hF.weak [1, 2, 12, 13, 17, 18, 77] (by kernel_rfl), hS, hm⟩
      · replace hm := if_f hm hg1
        obtain ⟨r8, hr8, hm⟩ := call_b hm
        have hrun := run_strE (P := Try.prog) (src := 23) (dst := 9) (e := 5) (m := r2.1) (c := c4) (by kernel_rfl) (by kernel_rfl) (by kernel_rfl) (hS.at_ 6 rfl).rdView rfl
        refine at_gdo (hs := [((r2.2 != r5.2), false)]) (fun y hy => by simp only [List.mem_cons, List.not_mem_nil, or_false] at hy; subst hy; first | exact hg1) (d := 57) hF (by kernel_rfl) (by kernel_rfl) hrun (fun a hF => ?_)
        refine at_run 1 [] [] [1, 2, 9, 10, 11, 12, 13, 16, 17, 18, 55, 57, 58] [pl 1 (.slice A2 b1.length c2), pl 2 (strV line1), pl 9 (.slice A6 r3.1.length c6), pl 10 (.int .i64 r3.2.1), pl 11 (.int .i64 r3.2.2), pl 12 (.slice A8 r4.1.length c8), pl 13 (.int .i64 r4.2), pl 16 (.slice A10 r6.1.length c10), pl 17 (.int .i64 r6.2.1), pl 18 (.int .i64 r6.2.2), pl 55 (.bool (r2.2 != r5.2)), pl 57 (strV (b8 r2.1)), ⟨58, [(55, false)], .slice A9 r5.1.length c9⟩] hF hS (by kernel_rfl) (by kernel_rfl) ?_ (fun a w hF hS => ?_)
        · exact obs_nil
        have hrun := run_strE (P := Try.prog) (src := 23) (dst := 9) (e := 5) (m := r5.1) (c := c9) (by kernel_rfl) (by kernel_rfl) (by kernel_rfl) (hS.at_ 1 rfl).rdView rfl
        refine at_gdo (hs := [((r2.2 != r5.2), false)]) (fun y hy => by simp only [List.mem_cons, List.not_mem_nil, or_false] at hy; subst hy; first | exact hg1) (d := 59) hF (by kernel_rfl) (by kernel_rfl) hrun (fun a hF => ?_)
        refine at_run 18 [⟨true, [((r2.2 != r5.2), false)], vS (do eqGuard .neq 9 (.tmp 57) (.tmp 59) (strV (b8 r2.1)) (strV (b8 r5.1)); binOp .neq 9 (strV (b8 r2.1)) (strV (b8 r5.1))), .bool (!((b8 r2.1) == (b8 r5.1)))⟩, ⟨false, [((((r2.2 != r5.2) || (!((b8 r2.1) == (b8 r5.1)))) || (r3.2.2 != r6.2.2)) || (r3.2.1 != r6.2.1), false)], callFunc 18 #[.slice A6 r3.1.length c6, .slice A10 r6.1.length c10], .bool r8⟩] [some (.bool (!((b8 r2.1) == (b8 r5.1)))), none, none, none, none, none, none, none, none, none, none, none, none, none, none, some (.bool r8), none, none] [1, 2, 12, 13, 17, 18, 77] [pl 1 (.slice A2 b1.length c2), pl 2 (strV line1), pl 12 (.slice A8 r4.1.length c8), pl 13 (.int .i64 r4.2), pl 17 (.int .i64 r6.2.1), pl 18 (.int .i64 r6.2.2), pl 77 (.bool (((((r2.2 != r5.2) || (!((b8 r2.1) == (b8 r5.1)))) || (r3.2.2 != r6.2.2)) || (r3.2.1 != r6.2.1)) || (!r8)))] hF hS (by kernel_rfl) (by kernel_rfl) ?_ (fun a w hF hS => ?_)
        · exact obs_cons (ob_sneq _ _) <| obs_cons (ob_call Try.func18 (by kernel_rfl) rfl (fun hy _ hS => gameroomref_SameTexts_w (ite_some hr8 (by rw [show ((((r2.2 != r5.2) || (!((b8 r2.1) == (b8 r5.1)))) || (r3.2.2 != r6.2.2)) || (r3.2.1 != r6.2.1)) = false from hy ((((r2.2 != r5.2) || (!((b8 r2.1) == (b8 r5.1)))) || (r3.2.2 != r6.2.2)) || (r3.2.1 != r6.2.1), false) (by simp)]; try rfl)) hS (fun _ hS => (hS.at_ 4 rfl).rd) ((hS.at_ 4 rfl).cap1) rfl (fun _ hS => (hS.at_ 0 rfl).rd) ((hS.at_ 0 rfl).cap1) rfl)) <| obs_nil
        refine at_end [1, 2, 12, 13, 17, 18, 77] [pl 1 (.slice A2 b1.length c2), pl 2 (strV line1), pl 12 (.slice A8 r4.1.length c8), pl 13 (.int .i64 r4.2), pl 17 (.int .i64 r6.2.1), pl 18 (.int .i64 r6.2.2), pl 77 (.bool (((((r2.2 != r5.2) || (!((b8 r2.1) == (b8 r5.1)))) || (r3.2.2 != r6.2.2)) || (r3.2.1 != r6.2.1)) || (!r8)))] hF rfl (by kernel_rfl) (fun hF => ?_)
        refine then_n ?_
        have hS := hS.pickN 8 [2] (by decide)
        exact ⟨(((((r2.2 != r5.2) || (!((b8 r2.1) == (b8 r5.1)))) || (r3.2.2 != r6.2.2)) || (r3.2.1 != r6.2.1)) || (!r8)), hF.weak [1, 2, 12, 13, 17, 18, 77] (by kernel_rfl), hS, hm⟩

end Go.Proofs.Ytlpaklmfgldkoaa
