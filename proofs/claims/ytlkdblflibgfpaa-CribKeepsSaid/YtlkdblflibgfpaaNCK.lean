/-
  Models and walks, printed by our own program (wip/gen).
-/
import Derived.Test.YtlkdblflibgfpaaFB
import Derived.Test.YtlkdblflibgfpaaLibAN
import Derived.Test.YtlkdblflibgfpaaSI
import Derived.Test.YtlkdblflibgfpaaNCKa
namespace Go.Proofs.Ytlkdblflibgfpaa
open Go Go.GL Go.RowKit

noncomputable def gameroomref_rowWays_m (l1 : List Int) (low1 : Int) (n2 : Int) : Option Int :=
  (loop (gameroomref_rowWays_L1 l1 low1 n2) (1, low1)).bind gameroomref_rowWays_K1

set_option maxRecDepth 100000 in
set_option maxHeartbeats 4000000 in
theorem gameroomref_rowWays_w {A1 : Option Addr} {c1 : Nat} {n1 : Nat} {l1 : List Int} {low1 : Int} {n2 : Int} {r : Int} {w0 w : World} {B : Nat} {fs : List HP} (hm : gameroomref_rowWays_m l1 low1 n2 = some r) (hS : Sep w0 B w (fs)) (hr_l1 : RdF w0 B fs A1 (vI l1)) (_hc_l1 : l1.length ≤ c1) (_hn_l1 : n1 = l1.length) :
    Calls Try.prog 131 #[.slice A1 n1 c1, .int .i64 low1, .int .i64 n2] w fun e w' => e = .returned (.int .i64 r) ∧ Sep w0 B w' (fs) := by
  obtain ⟨i3, hi3, hz3, hs3, hb3⟩ := info_parts Info3
  obtain rfl := _hn_l1
  unfold gameroomref_rowWays_m at hm
  replace hm := start_b hm
  refine enter (l := [.slice A1 l1.length c1, .int .i64 low1, .int .i64 n2]) (n := 38) Try.func131 rfl rfl (by simp) (fun a hF => ?_)
  refine reg [] [] [0, 1, 2] [pl 0 (.slice A1 l1.length c1), pl 1 (.int .i64 low1), pl 2 (.int .i64 n2)] hF hS Fol (by kernel_rfl) (by kernel_rfl) (by kernel_rfl) ?_ (fun a w hF hS => ?_)
  · exact obs_nil
  refine reg [] [] [0, 1, 2, 7] [pl 0 (.slice A1 l1.length c1), pl 1 (.int .i64 low1), pl 2 (.int .i64 n2), pl 7 (.int .i64 1)] hF hS Fol (by kernel_rfl) (by kernel_rfl) (by kernel_rfl) ?_ (fun a w hF hS => ?_)
  · exact obs_nil
  refine seq_cut (fun a w => ∃ (ways2 : Int), Fr 38 [pl 7 (.int .i64 ways2)] a ∧ Sep w0 B w (fs) ∧ (gameroomref_rowWays_J1 ways2).bind some = some r) ?_ ?_
  · rintro a w ⟨ways2, hF, hS, hm⟩
    unfold gameroomref_rowWays_J1 at hm
    refine reg [] [] [6] [pl 6 (.int .i64 ways2)] hF hS Fol (by kernel_rfl) (by kernel_rfl) (by kernel_rfl) ?_ (fun a w hF hS => ?_)
    · exact obs_nil
    refine wp_ret ?_
    have hm : some ways2 = some r := hm
    obtain rfl := Option.some.inj hm
    exact retV (rs := [.tmp 6]) (vs := [.int .i64 ways2]) hF rfl (rv_t (by kernel_rfl) <| rv_nil) rfl ⟨rfl, hS⟩
  · refine reg [] [] [0, 1, 2, 7, 8] [pl 0 (.slice A1 l1.length c1), pl 1 (.int .i64 low1), pl 2 (.int .i64 n2), pl 7 (.int .i64 1), pl 8 (.int .i64 low1)] hF hS Fol (by kernel_rfl) (by kernel_rfl) (by kernel_rfl) ?_ (fun a w hF hS => ?_)
    · exact obs_nil
    refine wp_block ?_
    refine wp_loop_model (S := (Int × Int)) (R := Int) (gameroomref_rowWays_L1 l1 low1 n2) (fun x => (gameroomref_rowWays_K1 x).bind some) r (fun (x : (Int × Int)) a w => Fr 38 [pl 0 (.slice A1 l1.length c1), pl 1 (.int .i64 low1), pl 2 (.int .i64 n2), pl 7 (.int .i64 x.1), pl 8 (.int .i64 x.2)] a ∧ Sep w0 B w (fs)) (assoc_b hm) ⟨hF.weak [0, 1, 2, 7, 8] (by kernel_rfl), hS⟩ ?_
    clear hF hS hm
    rintro nn1 ⟨ways1, p1⟩ a w ⟨hF, hS⟩ hm
    generalize hφ1 : stK (gameroomref_rowWays_L1 l1 low1 n2) nn1 (fun x => (gameroomref_rowWays_K1 x).bind some) = φ1 at hm
    unfold gameroomref_rowWays_L1 at hm
    dsimp only at hF hS hm
    refine seq_cut (fun a w => Fr 38 [pl 0 (.slice A1 l1.length c1), pl 1 (.int .i64 low1), pl 2 (.int .i64 n2), pl 7 (.int .i64 ways1), pl 8 (.int .i64 p1)] a ∧ Sep w0 B w (fs) ∧ ((gameroomref_rowWays_J2 l1 ways1 p1)).bind φ1 = some r) ?_ ?_
    · rintro a w ⟨hF, hS, hm⟩
      unfold gameroomref_rowWays_J2 at hm
      refine seq_cut (fun a w => ∃ (ways3 : Int), Fr 38 [pl 0 (.slice A1 l1.length c1), pl 1 (.int .i64 low1), pl 2 (.int .i64 n2), pl 7 (.int .i64 ways3), pl 8 (.int .i64 p1)] a ∧ Sep w0 B w (fs) ∧ ((gameroomref_rowWays_J3 p1) ways3).bind φ1 = some r) ?_ ?_
      · rintro a w ⟨ways3, hF, hS, hm⟩
        unfold gameroomref_rowWays_J3 at hm
        refine reg1 [] [] [0, 1, 2, 7, 8] [pl 0 (.slice A1 l1.length c1), pl 1 (.int .i64 low1), pl 2 (.int .i64 n2), pl 7 (.int .i64 ways3), pl 8 (.int .i64 (w64 (p1 + 1)))] hF hS Fol (by kernel_rfl) (by kernel_rfl) (by kernel_rfl) ?_ (fun a w hF hS => ?_)
        · exact obs_nil
        refine then_n ?_
        rw [← hφ1] at hm
        exact ⟨(ways3, (w64 (p1 + 1))), ⟨hF.weak [0, 1, 2, 7, 8] (by kernel_rfl), hS⟩, hm⟩
      · refine wp_block ?_
        refine reg [] [] [0, 1, 2, 7, 8, 9] [pl 0 (.slice A1 l1.length c1), pl 1 (.int .i64 low1), pl 2 (.int .i64 n2), pl 7 (.int .i64 ways1), pl 8 (.int .i64 p1), pl 9 (.int .i64 0)] hF hS Fol (by kernel_rfl) (by kernel_rfl) (by kernel_rfl) ?_ (fun a w hF hS => ?_)
        · exact obs_nil
        refine seq_cut (fun a w => ∃ (many2 : Int), Fr 38 [pl 0 (.slice A1 l1.length c1), pl 1 (.int .i64 low1), pl 2 (.int .i64 n2), pl 7 (.int .i64 ways1), pl 8 (.int .i64 p1), pl 9 (.int .i64 many2)] a ∧ Sep w0 B w (fs) ∧ ((gameroomref_rowWays_J4 ways1 p1) many2).bind φ1 = some r) ?_ ?_
        · rintro a w ⟨many2, hF, hS, hm⟩
          unfold gameroomref_rowWays_J4 at hm
          refine reg1 [] [] [0, 1, 2, 7, 8] [pl 0 (.slice A1 l1.length c1), pl 1 (.int .i64 low1), pl 2 (.int .i64 n2), pl 7 (.int .i64 (w64 (ways1 * many2))), pl 8 (.int .i64 p1)] hF hS Fol (by kernel_rfl) (by kernel_rfl) (by kernel_rfl) ?_ (fun a w hF hS => ?_)
          · exact obs_nil
          refine block_n ?_
          refine then_n ?_
          exact ⟨(w64 (ways1 * many2)), hF.weak [0, 1, 2, 7, 8] (by kernel_rfl), hS, hm⟩
        · refine reg [] [] [0, 1, 2, 7, 8, 9, 10] [pl 0 (.slice A1 l1.length c1), pl 1 (.int .i64 low1), pl 2 (.int .i64 n2), pl 7 (.int .i64 ways1), pl 8 (.int .i64 p1), pl 9 (.int .i64 0), pl 10 (.int .i64 0)] hF hS Fol (by kernel_rfl) (by kernel_rfl) (by kernel_rfl) ?_ (fun a w hF hS => ?_)
          · exact obs_nil
          refine wp_block ?_
          refine wp_loop_model (S := (Int × Int)) (R := Int) (gameroomref_rowWays_L2 l1 p1) (fun x => ((gameroomref_rowWays_K2 ways1 p1) x).bind φ1) r (fun (x : (Int × Int)) a w => Fr 38 [pl 0 (.slice A1 l1.length c1), pl 1 (.int .i64 low1), pl 2 (.int .i64 n2), pl 7 (.int .i64 ways1), pl 8 (.int .i64 p1), pl 9 (.int .i64 x.1), pl 10 (.int .i64 x.2)] a ∧ Sep w0 B w (fs)) (assoc_b hm) ⟨hF.weak [0, 1, 2, 7, 8, 9, 10] (by kernel_rfl), hS⟩ ?_
          clear hF hS hm
          rintro nn2 ⟨many1, i1⟩ a w ⟨hF, hS⟩ hm
          generalize hφ2 : stK (gameroomref_rowWays_L2 l1 p1) nn2 (fun x => ((gameroomref_rowWays_K2 ways1 p1) x).bind φ1) = φ2 at hm
          unfold gameroomref_rowWays_L2 at hm
          dsimp only at hF hS hm
          refine seq_cut (fun a w => Fr 38 [pl 0 (.slice A1 l1.length c1), pl 1 (.int .i64 low1), pl 2 (.int .i64 n2), pl 7 (.int .i64 ways1), pl 8 (.int .i64 p1), pl 9 (.int .i64 many1), pl 10 (.int .i64 i1)] a ∧ Sep w0 B w (fs) ∧ ((gameroomref_rowWays_J5 l1 p1 many1 i1)).bind φ2 = some r) ?_ ?_
          · rintro a w ⟨hF, hS, hm⟩
            unfold gameroomref_rowWays_J5 at hm
            refine seq_cut (fun a w => ∃ (many3 : Int), Fr 38 [pl 0 (.slice A1 l1.length c1), pl 1 (.int .i64 low1), pl 2 (.int .i64 n2), pl 7 (.int .i64 ways1), pl 8 (.int .i64 p1), pl 9 (.int .i64 many3), pl 10 (.int .i64 i1)] a ∧ Sep w0 B w (fs) ∧ ((gameroomref_rowWays_J6 i1) many3).bind φ2 = some r) ?_ ?_
            · rintro a w ⟨many3, hF, hS, hm⟩
              unfold gameroomref_rowWays_J6 at hm
              refine reg1 [] [] [0, 1, 2, 7, 8, 9, 10] [pl 0 (.slice A1 l1.length c1), pl 1 (.int .i64 low1), pl 2 (.int .i64 n2), pl 7 (.int .i64 ways1), pl 8 (.int .i64 p1), pl 9 (.int .i64 many3), pl 10 (.int .i64 (w64 (i1 + 1)))] hF hS Fol (by kernel_rfl) (by kernel_rfl) (by kernel_rfl) ?_ (fun a w hF hS => ?_)
              · exact obs_nil
              refine then_n ?_
              rw [← hφ2] at hm
              exact ⟨(many3, (w64 (i1 + 1))), ⟨hF.weak [0, 1, 2, 7, 8, 9, 10] (by kernel_rfl), hS⟩, hm⟩
            · refine wp_block ?_
              obtain ⟨hp1, hm⟩ := asrt_b hm
              obtain ⟨r1, hr1, hm⟩ := call_b hm
              refine reg [⟨true, [], vS (Instr.indexAt 22 (.slice A1 l1.length c1) (.int .i64 i1)), .pointer (some (sAddr A1 i1))⟩, ⟨false, [], vS (Instr.loadAt 3 (.pointer (some (sAddr A1 i1)))), .int .i64 (geti l1 i1)⟩, ⟨false, [], callFunc 130 #[.int .i64 (geti l1 i1)], .int .i64 r1⟩] [none, none, some (.pointer (some (sAddr A1 i1))), some (.int .i64 (geti l1 i1)), some (.int .i64 r1), none, none] [0, 1, 2, 7, 8, 9, 10, 31] [pl 0 (.slice A1 l1.length c1), pl 1 (.int .i64 low1), pl 2 (.int .i64 n2), pl 7 (.int .i64 ways1), pl 8 (.int .i64 p1), pl 9 (.int .i64 many1), pl 10 (.int .i64 i1), pl 31 (.bool (r1 == p1))] hF hS Fol (by kernel_rfl) (by kernel_rfl) (by kernel_rfl) ?_ (fun a w hF hS => ?_)
              · exact obs_cons (ob_ix1 (f := (Value.int .i64)) (m := l1) Und22 hi3 hs3 (hr_l1 _ (hS.dropN 0)) rfl (fun _ => hp1)) <| obs_cons (ob_get1 (n := l1.length) (m := l1) (Value.int .i64) (0 : Int) Agg3 (fun _ hS => ⟨_, (hr_l1 _ (hS.dropN 0))⟩) (fun _ hS => rfl) (fun _ => hp1)) <| obs_cons (ob_call Try.func130 (by kernel_rfl) rfl (fun _ _ hS => gameroomref_pipOf_w hr1 hS )) <| obs_nil
              refine cond_ev (t := 31) (b := (r1 == p1)) hF (by kernel_rfl) (fun hb => ?_) (fun hb => ?_)
              · replace hm := if_t hm hb
                refine reg1 [] [] [0, 1, 2, 7, 8, 9, 10] [pl 0 (.slice A1 l1.length c1), pl 1 (.int .i64 low1), pl 2 (.int .i64 n2), pl 7 (.int .i64 ways1), pl 8 (.int .i64 p1), pl 9 (.int .i64 (w64 (many1 + 1))), pl 10 (.int .i64 i1)] hF hS Fol (by kernel_rfl) (by kernel_rfl) (by kernel_rfl) ?_ (fun a w hF hS => ?_)
                · exact obs_nil
                refine block_n ?_
                refine then_n ?_
                exact ⟨(w64 (many1 + 1)), hF.weak [0, 1, 2, 7, 8, 9, 10] (by kernel_rfl), hS, hm⟩
              · replace hm := if_f hm hb
                refine wp_skip ?_
                refine block_n ?_
                refine then_n ?_
                exact ⟨many1, hF.weak [0, 1, 2, 7, 8, 9, 10] (by kernel_rfl), hS, hm⟩
          · refine reg [] [] [0, 1, 2, 7, 8, 9, 10, 22] [pl 0 (.slice A1 l1.length c1), pl 1 (.int .i64 low1), pl 2 (.int .i64 n2), pl 7 (.int .i64 ways1), pl 8 (.int .i64 p1), pl 9 (.int .i64 many1), pl 10 (.int .i64 i1), pl 22 (.bool (decide (i1 < (l1.length : Int))))] hF hS Fol (by kernel_rfl) (by kernel_rfl) (by kernel_rfl) ?_ (fun a w hF hS => ?_)
            · exact obs_nil
            refine cond_ev (t := 22) (b := decide (i1 < (l1.length : Int))) hF (by kernel_rfl) (fun hb => ?_) (fun hb => ?_)
            · replace hm := if_t hm hb
              refine wp_skip ?_
              refine then_n ?_
              exact ⟨hF.weak [0, 1, 2, 7, 8, 9, 10] (by kernel_rfl), hS, hm⟩
            · replace hm := if_f hm hb
              refine wp_exit ?_
              refine then_e (then_e (block_e (then_n ?_)))
              rw [← hφ2] at hm
              replace hm := done_b hm
              unfold gameroomref_rowWays_K2 at hm
              try dsimp only at hm
              have hm : ((gameroomref_rowWays_J4 ways1 p1) many1).bind φ1 = some r := hm
              exact ⟨many1, hF.weak [0, 1, 2, 7, 8, 9] (by kernel_rfl), hS, hm⟩
    · refine reg [] [] [0, 1, 2, 7, 8, 16] [pl 0 (.slice A1 l1.length c1), pl 1 (.int .i64 low1), pl 2 (.int .i64 n2), pl 7 (.int .i64 ways1), pl 8 (.int .i64 p1), pl 16 (.bool (decide (p1 < (w64 (low1 + n2)))))] hF hS Fol (by kernel_rfl) (by kernel_rfl) (by kernel_rfl) ?_ (fun a w hF hS => ?_)
      · exact obs_nil
      refine cond_ev (t := 16) (b := decide (p1 < (w64 (low1 + n2)))) hF (by kernel_rfl) (fun hb => ?_) (fun hb => ?_)
      · replace hm := if_t hm hb
        refine wp_skip ?_
        refine then_n ?_
        exact ⟨hF.weak [0, 1, 2, 7, 8] (by kernel_rfl), hS, hm⟩
      · replace hm := if_f hm hb
        refine wp_exit ?_
        refine then_e (then_e (block_e (then_n ?_)))
        rw [← hφ1] at hm
        replace hm := done_b hm
        unfold gameroomref_rowWays_K1 at hm
        try dsimp only at hm
        have hm : (gameroomref_rowWays_J1 ways1).bind some = some r := hm
        exact ⟨ways1, hF.weak [7] (by kernel_rfl), hS, hm⟩

noncomputable def gameroomref_ShowOf_J6 (i1 : Int) (sum3 : Int) : Option (St (Int × Int) Int) :=
  some (.next (sum3, (w64 (i1 + 1))))

noncomputable def gameroomref_ShowOf_J5 (l1 : List Int) (a1 : Int) (sum1 : Int) (i1 : Int) : Option (St (Int × Int) Int) :=
  asrt ((0 : Int) ≤ i1) <| if ((bAnd (shrK .i64 a1 i1) 1) == 1) then (asrt (0 ≤ i1 ∧ i1 < (l1.length : Int)) <| (gameroomref_pointsOf_m (geti l1 i1)).bind fun r1 => (gameroomref_ShowOf_J6 i1) (w64 (sum1 + r1))) else ((gameroomref_ShowOf_J6 i1) sum1)

noncomputable def gameroomref_ShowOf_J3 (a1 : Int) (n4 : Int) : Option (St (Int × Int) Int) :=
  some (.next (n4, (w64 (a1 + 1))))

noncomputable def gameroomref_ShowOf_J4 (n2 : Int) (a1 : Int) (sum2 : Int) : Option (St (Int × Int) Int) :=
  if (sum2 == 15) then ((gameroomref_ShowOf_J3 a1) (w64 (n2 + 2))) else ((gameroomref_ShowOf_J3 a1) n2)

noncomputable def gameroomref_ShowOf_K2 (n2 : Int) (a1 : Int) : Int → Option (St (Int × Int) Int) :=
  fun (x : Int) => match x with | sum2 => (gameroomref_ShowOf_J4 n2 a1) sum2

noncomputable def gameroomref_ShowOf_L2 (l1 : List Int) (a1 : Int) : (Int × Int) → Option (St (Int × Int) Int) :=
  fun (x : (Int × Int)) => match x with | (sum1, i1) => if (decide (i1 < 5)) then ((gameroomref_ShowOf_J5 l1 a1 sum1 i1)) else (some (.done sum1))

noncomputable def gameroomref_ShowOf_J2 (l1 : List Int) (n2 : Int) (a1 : Int) : Option (St (Int × Int) Int) :=
  (loop (gameroomref_ShowOf_L2 l1 a1) (0, 0)).bind (gameroomref_ShowOf_K2 n2 a1)

noncomputable def gameroomref_ShowOf_J11 (k1 : Int) (n9 : Int) : Option (St (Int × Int) Int) :=
  some (.next (n9, (w64 (k1 + 1))))

noncomputable def gameroomref_ShowOf_J10 (l1 : List Int) (i2 : Int) (n7 : Int) (k1 : Int) : Option (St (Int × Int) Int) :=
  asrt (0 ≤ i2 ∧ i2 < (l1.length : Int)) <| (gameroomref_pipOf_m (geti l1 i2)).bind fun r2 => asrt (0 ≤ k1 ∧ k1 < (l1.length : Int)) <| (gameroomref_pipOf_m (geti l1 k1)).bind fun r3 => if (r2 == r3) then ((gameroomref_ShowOf_J11 k1) (w64 (n7 + 2))) else ((gameroomref_ShowOf_J11 k1) n7)

noncomputable def gameroomref_ShowOf_L4 (l1 : List Int) (i2 : Int) : (Int × Int) → Option (St (Int × Int) Int) :=
  fun (x : (Int × Int)) => match x with | (n7, k1) => if (decide (k1 < i2)) then ((gameroomref_ShowOf_J10 l1 i2 n7 k1)) else (some (.done n7))

noncomputable def gameroomref_ShowOf_J9 (i2 : Int) (n8 : Int) : Option (St (Int × Int) Int) :=
  some (.next (n8, (w64 (i2 + 1))))

noncomputable def gameroomref_ShowOf_K4 (i2 : Int) : Int → Option (St (Int × Int) Int) :=
  fun (x : Int) => match x with | n8 => (gameroomref_ShowOf_J9 i2) n8

noncomputable def gameroomref_ShowOf_J8 (l1 : List Int) (n5 : Int) (i2 : Int) : Option (St (Int × Int) Int) :=
  (loop (gameroomref_ShowOf_L4 l1 i2) (n5, 0)).bind (gameroomref_ShowOf_K4 i2)

noncomputable def gameroomref_ShowOf_L3 (l1 : List Int) : (Int × Int) → Option (St (Int × Int) Int) :=
  fun (x : (Int × Int)) => match x with | (n5, i2) => if (decide (i2 < 5)) then ((gameroomref_ShowOf_J8 l1 n5 i2)) else (some (.done n5))

noncomputable def gameroomref_ShowOf_J17 (low1 : Int) (ways3 : Int) : Option (St (Int × Int) Int) :=
  some (.next (ways3, (w64 (low1 + 1))))

noncomputable def gameroomref_ShowOf_J16 (l1 : List Int) (long1 : Int) (ways1 : Int) (low1 : Int) : Option (St (Int × Int) Int) :=
  (gameroomref_rowWays_m l1 low1 long1).bind fun r4 => (gameroomref_ShowOf_J17 low1) (w64 (ways1 + r4))

noncomputable def gameroomref_ShowOf_L6 (l1 : List Int) (long1 : Int) : (Int × Int) → Option (St (Int × Int) Int) :=
  fun (x : (Int × Int)) => match x with | (ways1, low1) => if (decide ((w64 (low1 + long1)) ≤ 14)) then ((gameroomref_ShowOf_J16 l1 long1 ways1 low1)) else (some (.done ways1))

noncomputable def gameroomref_ShowOf_J14 (long1 : Int) : Option (St Int Int) :=
  some (.next (w64 (long1 - 1)))

noncomputable def gameroomref_ShowOf_J15 (n6 : Int) (long1 : Int) (ways2 : Int) : Option (St Int Int) :=
  if (decide ((0 : Int) < ways2)) then (some (.done (w64 (n6 + (w64 (long1 * ways2)))))) else ((gameroomref_ShowOf_J14 long1))

noncomputable def gameroomref_ShowOf_K6 (n6 : Int) (long1 : Int) : Int → Option (St Int Int) :=
  fun (x : Int) => match x with | ways2 => (gameroomref_ShowOf_J15 n6 long1) ways2

noncomputable def gameroomref_ShowOf_J13 (l1 : List Int) (n6 : Int) (long1 : Int) : Option (St Int Int) :=
  (loop (gameroomref_ShowOf_L6 l1 long1) (0, 1)).bind (gameroomref_ShowOf_K6 n6 long1)

noncomputable def gameroomref_ShowOf_L5 (l1 : List Int) (n6 : Int) : Int → Option (St Int Int) :=
  fun (x : Int) => match x with | long1 => if (decide ((3 : Int) ≤ long1)) then ((gameroomref_ShowOf_J13 l1 n6 long1)) else (some (.done n6))

noncomputable def gameroomref_ShowOf_J21 (i3 : Int) (n14 : Int) : Option (St (Int × Int) Int) :=
  some (.next (n14, (w64 (i3 + 1))))

noncomputable def gameroomref_ShowOf_J20 (l1 : List Int) (n12 : Int) (i3 : Int) : Option (St (Int × Int) Int) :=
  asrt (0 ≤ i3 ∧ i3 < (l1.length : Int)) <| (gameroomref_pipOf_m (geti l1 i3)).bind fun r5 => asrt ((r5 == 11) = true → 0 ≤ i3 ∧ i3 < (l1.length : Int)) <| asrt ((r5 == 11) = true → 0 ≤ (4 : Int) ∧ (4 : Int) < (l1.length : Int)) <| if ((r5 == 11) && ((Int.tmod (geti l1 i3) 4) == (Int.tmod (geti l1 4) 4))) then ((gameroomref_ShowOf_J21 i3) (w64 (n12 + 1))) else ((gameroomref_ShowOf_J21 i3) n12)

noncomputable def gameroomref_ShowOf_L7 (l1 : List Int) : (Int × Int) → Option (St (Int × Int) Int) :=
  fun (x : (Int × Int)) => match x with | (n12, i3) => if (decide (i3 < 4)) then ((gameroomref_ShowOf_J20 l1 n12 i3)) else (some (.done n12))

noncomputable def gameroomref_ShowOf_J19 (n13 : Int) : Option Int :=
  some n13

noncomputable def gameroomref_ShowOf_K7 : Int → Option Int :=
  fun (x : Int) => match x with | n13 => gameroomref_ShowOf_J19 n13

noncomputable def gameroomref_ShowOf_J18 (l1 : List Int) (n11 : Int) : Option Int :=
  (loop (gameroomref_ShowOf_L7 l1) (n11, 0)).bind gameroomref_ShowOf_K7

noncomputable def gameroomref_ShowOf_J12 (l1 : List Int) (crib1 : Bool) (n10 : Int) : Option Int :=
  asrt (0 ≤ (0 : Int) ∧ (0 : Int) < (l1.length : Int)) <| asrt (0 ≤ (1 : Int) ∧ (1 : Int) < (l1.length : Int)) <| asrt (((Int.tmod (geti l1 0) 4) == (Int.tmod (geti l1 1) 4)) = true → 0 ≤ (0 : Int) ∧ (0 : Int) < (l1.length : Int)) <| asrt (((Int.tmod (geti l1 0) 4) == (Int.tmod (geti l1 1) 4)) = true → 0 ≤ (2 : Int) ∧ (2 : Int) < (l1.length : Int)) <| asrt ((((Int.tmod (geti l1 0) 4) == (Int.tmod (geti l1 1) 4)) && ((Int.tmod (geti l1 0) 4) == (Int.tmod (geti l1 2) 4))) = true → 0 ≤ (0 : Int) ∧ (0 : Int) < (l1.length : Int)) <| asrt ((((Int.tmod (geti l1 0) 4) == (Int.tmod (geti l1 1) 4)) && ((Int.tmod (geti l1 0) 4) == (Int.tmod (geti l1 2) 4))) = true → 0 ≤ (3 : Int) ∧ (3 : Int) < (l1.length : Int)) <| if ((((Int.tmod (geti l1 0) 4) == (Int.tmod (geti l1 1) 4)) && ((Int.tmod (geti l1 0) 4) == (Int.tmod (geti l1 2) 4))) && ((Int.tmod (geti l1 0) 4) == (Int.tmod (geti l1 3) 4))) then (asrt (0 ≤ (0 : Int) ∧ (0 : Int) < (l1.length : Int)) <| asrt (0 ≤ (4 : Int) ∧ (4 : Int) < (l1.length : Int)) <| if ((Int.tmod (geti l1 0) 4) == (Int.tmod (geti l1 4) 4)) then ((gameroomref_ShowOf_J18 l1) (w64 (n10 + 5))) else (if (!crib1) then ((gameroomref_ShowOf_J18 l1) (w64 (n10 + 4))) else ((gameroomref_ShowOf_J18 l1) n10))) else ((gameroomref_ShowOf_J18 l1) n10)

noncomputable def gameroomref_ShowOf_K5 (l1 : List Int) (crib1 : Bool) : Int → Option Int :=
  fun (x : Int) => match x with | n10 => (gameroomref_ShowOf_J12 l1 crib1) n10

noncomputable def gameroomref_ShowOf_J7 (l1 : List Int) (crib1 : Bool) (n6 : Int) : Option Int :=
  (loop (gameroomref_ShowOf_L5 l1 n6) 5).bind (gameroomref_ShowOf_K5 l1 crib1)

noncomputable def gameroomref_ShowOf_K3 (l1 : List Int) (crib1 : Bool) : Int → Option Int :=
  fun (x : Int) => match x with | n6 => (gameroomref_ShowOf_J7 l1 crib1) n6

noncomputable def gameroomref_ShowOf_J1 (l1 : List Int) (crib1 : Bool) (n3 : Int) : Option Int :=
  (loop (gameroomref_ShowOf_L3 l1) (n3, 0)).bind (gameroomref_ShowOf_K3 l1 crib1)

noncomputable def gameroomref_ShowOf_K1 (l1 : List Int) (crib1 : Bool) : Int → Option Int :=
  fun (x : Int) => match x with | n3 => (gameroomref_ShowOf_J1 l1 crib1) n3

noncomputable def gameroomref_ShowOf_L1 (l1 : List Int) : (Int × Int) → Option (St (Int × Int) Int) :=
  fun (x : (Int × Int)) => match x with | (n2, a1) => if (decide (a1 < 32)) then ((gameroomref_ShowOf_J2 l1 n2 a1)) else (some (.done n2))

noncomputable def gameroomref_ShowOf_m (l1 : List Int) (crib1 : Bool) : Option Int :=
  (loop (gameroomref_ShowOf_L1 l1) (0, 0)).bind (gameroomref_ShowOf_K1 l1 crib1)

set_option maxRecDepth 100000 in
set_option maxHeartbeats 4000000 in
theorem gameroomref_ShowOf_w {A1 : Option Addr} {c1 : Nat} {n1 : Nat} {l1 : List Int} {crib1 : Bool} {r : Int} {w0 w : World} {B : Nat} {fs : List HP} (hm : gameroomref_ShowOf_m l1 crib1 = some r) (hS : Sep w0 B w (fs)) (hr_l1 : RdF w0 B fs A1 (vI l1)) (_hc_l1 : l1.length ≤ c1) (_hn_l1 : n1 = l1.length) :
    Calls Try.prog 57 #[.slice A1 n1 c1, .bool crib1] w fun e w' => e = .returned (.int .i64 r) ∧ Sep w0 B w' (fs) := by
  obtain ⟨i3, hi3, hz3, hs3, hb3⟩ := info_parts Info3
  obtain rfl := _hn_l1
  unfold gameroomref_ShowOf_m at hm
  replace hm := start_b hm
  refine enter (l := [.slice A1 l1.length c1, .bool crib1]) (n := 155) Try.func57 rfl rfl (by simp) (fun a hF => ?_)
  refine reg [] [] [0, 1] [pl 0 (.slice A1 l1.length c1), pl 1 (.bool crib1)] hF hS Fol (by kernel_rfl) (by kernel_rfl) (by kernel_rfl) ?_ (fun a w hF hS => ?_)
  · exact obs_nil
  refine reg [] [] [0, 1, 5] [pl 0 (.slice A1 l1.length c1), pl 1 (.bool crib1), pl 5 (.int .i64 0)] hF hS Fol (by kernel_rfl) (by kernel_rfl) (by kernel_rfl) ?_ (fun a w hF hS => ?_)
  · exact obs_nil
  refine seq_cut (fun a w => ∃ (n3 : Int), Fr 155 [pl 0 (.slice A1 l1.length c1), pl 1 (.bool crib1), pl 5 (.int .i64 n3)] a ∧ Sep w0 B w (fs) ∧ ((gameroomref_ShowOf_J1 l1 crib1) n3).bind some = some r) ?_ ?_
  · rintro a w ⟨n3, hF, hS, hm⟩
    unfold gameroomref_ShowOf_J1 at hm
    refine seq_cut (fun a w => ∃ (n6 : Int), Fr 155 [pl 0 (.slice A1 l1.length c1), pl 1 (.bool crib1), pl 5 (.int .i64 n6)] a ∧ Sep w0 B w (fs) ∧ ((gameroomref_ShowOf_J7 l1 crib1) n6).bind some = some r) ?_ ?_
    · rintro a w ⟨n6, hF, hS, hm⟩
      unfold gameroomref_ShowOf_J7 at hm
      refine seq_cut (fun a w => ∃ (n10 : Int), Fr 155 [pl 0 (.slice A1 l1.length c1), pl 1 (.bool crib1), pl 5 (.int .i64 n10)] a ∧ Sep w0 B w (fs) ∧ ((gameroomref_ShowOf_J12 l1 crib1) n10).bind some = some r) ?_ ?_
      · rintro a w ⟨n10, hF, hS, hm⟩
        unfold gameroomref_ShowOf_J12 at hm
        refine seq_cut (fun a w => ∃ (n11 : Int), Fr 155 [pl 0 (.slice A1 l1.length c1), pl 5 (.int .i64 n11)] a ∧ Sep w0 B w (fs) ∧ ((gameroomref_ShowOf_J18 l1) n11).bind some = some r) ?_ ?_
        · rintro a w ⟨n11, hF, hS, hm⟩
          unfold gameroomref_ShowOf_J18 at hm
          refine seq_cut (fun a w => ∃ (n13 : Int), Fr 155 [pl 5 (.int .i64 n13)] a ∧ Sep w0 B w (fs) ∧ (gameroomref_ShowOf_J19 n13).bind some = some r) ?_ ?_
          · rintro a w ⟨n13, hF, hS, hm⟩
            unfold gameroomref_ShowOf_J19 at hm
            refine reg [] [] [4] [pl 4 (.int .i64 n13)] hF hS Fol (by kernel_rfl) (by kernel_rfl) (by kernel_rfl) ?_ (fun a w hF hS => ?_)
            · exact obs_nil
            refine wp_ret ?_
            have hm : some n13 = some r := hm
            obtain rfl := Option.some.inj hm
            exact retV (rs := [.tmp 4]) (vs := [.int .i64 n13]) hF rfl (rv_t (by kernel_rfl) <| rv_nil) rfl ⟨rfl, hS⟩
          · refine reg [] [] [0, 5, 14] [pl 0 (.slice A1 l1.length c1), pl 5 (.int .i64 n11), pl 14 (.int .i64 0)] hF hS Fol (by kernel_rfl) (by kernel_rfl) (by kernel_rfl) ?_ (fun a w hF hS => ?_)
            · exact obs_nil
            refine wp_block ?_
            refine wp_loop_model (S := (Int × Int)) (R := Int) (gameroomref_ShowOf_L7 l1) (fun x => (gameroomref_ShowOf_K7 x).bind some) r (fun (x : (Int × Int)) a w => Fr 155 [pl 0 (.slice A1 l1.length c1), pl 5 (.int .i64 x.1), pl 14 (.int .i64 x.2)] a ∧ Sep w0 B w (fs)) (assoc_b hm) ⟨hF.weak [0, 5, 14] (by kernel_rfl), hS⟩ ?_
            clear hF hS hm
            rintro nn7 ⟨n12, i3⟩ a w ⟨hF, hS⟩ hm
            generalize hφ7 : stK (gameroomref_ShowOf_L7 l1) nn7 (fun x => (gameroomref_ShowOf_K7 x).bind some) = φ7 at hm
            unfold gameroomref_ShowOf_L7 at hm
            dsimp only at hF hS hm
            refine seq_cut (fun a w => Fr 155 [pl 0 (.slice A1 l1.length c1), pl 5 (.int .i64 n12), pl 14 (.int .i64 i3)] a ∧ Sep w0 B w (fs) ∧ ((gameroomref_ShowOf_J20 l1 n12 i3)).bind φ7 = some r) ?_ ?_
            · rintro a w ⟨hF, hS, hm⟩
              unfold gameroomref_ShowOf_J20 at hm
              refine seq_cut (fun a w => ∃ (n14 : Int), Fr 155 [pl 0 (.slice A1 l1.length c1), pl 5 (.int .i64 n14), pl 14 (.int .i64 i3)] a ∧ Sep w0 B w (fs) ∧ ((gameroomref_ShowOf_J21 i3) n14).bind φ7 = some r) ?_ ?_
              · rintro a w ⟨n14, hF, hS, hm⟩
                unfold gameroomref_ShowOf_J21 at hm
                refine reg1 [] [] [0, 5, 14] [pl 0 (.slice A1 l1.length c1), pl 5 (.int .i64 n14), pl 14 (.int .i64 (w64 (i3 + 1)))] hF hS Fol (by kernel_rfl) (by kernel_rfl) (by kernel_rfl) ?_ (fun a w hF hS => ?_)
                · exact obs_nil
                refine then_n ?_
                rw [← hφ7] at hm
                exact ⟨(n14, (w64 (i3 + 1))), ⟨hF.weak [0, 5, 14] (by kernel_rfl), hS⟩, hm⟩
              · refine wp_block ?_
                obtain ⟨hp13, hm⟩ := asrt_b hm
                obtain ⟨r5, hr5, hm⟩ := call_b hm
                obtain ⟨hp14, hm⟩ := asrt_b hm
                obtain ⟨hp15, hm⟩ := asrt_b hm
                refine reg [⟨true, [], vS (Instr.indexAt 22 (.slice A1 l1.length c1) (.int .i64 i3)), .pointer (some (sAddr A1 i3))⟩, ⟨false, [], vS (Instr.loadAt 3 (.pointer (some (sAddr A1 i3)))), .int .i64 (geti l1 i3)⟩, ⟨false, [], callFunc 130 #[.int .i64 (geti l1 i3)], .int .i64 r5⟩, ⟨true, [((r5 == 11), true)], vS (Instr.indexAt 22 (.slice A1 l1.length c1) (.int .i64 i3)), .pointer (some (sAddr A1 i3))⟩, ⟨false, [((r5 == 11), true)], vS (Instr.loadAt 3 (.pointer (some (sAddr A1 i3)))), .int .i64 (geti l1 i3)⟩, ⟨true, [((r5 == 11), true)], vS (Instr.indexAt 22 (.slice A1 l1.length c1) (.int .i64 4)), .pointer (some (sAddr A1 4))⟩, ⟨false, [((r5 == 11), true)], vS (Instr.loadAt 3 (.pointer (some (sAddr A1 4)))), .int .i64 (geti l1 4)⟩] [none, none, some (.pointer (some (sAddr A1 i3))), some (.int .i64 (geti l1 i3)), some (.int .i64 r5), none, none, none, none, some (.pointer (some (sAddr A1 i3))), some (.int .i64 (geti l1 i3)), none, none, some (.pointer (some (sAddr A1 4))), some (.int .i64 (geti l1 4)), none, none, none] [0, 5, 14, 151] [pl 0 (.slice A1 l1.length c1), pl 5 (.int .i64 n12), pl 14 (.int .i64 i3), pl 151 (.bool ((r5 == 11) && ((Int.tmod (geti l1 i3) 4) == (Int.tmod (geti l1 4) 4))))] hF hS Fol (by kernel_rfl) (by kernel_rfl) (by kernel_rfl) ?_ (fun a w hF hS => ?_)
                · exact obs_cons (ob_ix1 (f := (Value.int .i64)) (m := l1) Und22 hi3 hs3 (hr_l1 _ (hS.dropN 0)) rfl (fun _ => hp13)) <| obs_cons (ob_get1 (n := l1.length) (m := l1) (Value.int .i64) (0 : Int) Agg3 (fun _ hS => ⟨_, (hr_l1 _ (hS.dropN 0))⟩) (fun _ hS => rfl) (fun _ => hp13)) <| obs_cons (ob_call Try.func130 (by kernel_rfl) rfl (fun _ _ hS => gameroomref_pipOf_w hr5 hS )) <| obs_cons (ob_ix1 (f := (Value.int .i64)) (m := l1) Und22 hi3 hs3 (hr_l1 _ (hS.dropN 0)) rfl (fun hy => hp14 (hy ((r5 == 11), true) (by simp)))) <| obs_cons (ob_get1 (n := l1.length) (m := l1) (Value.int .i64) (0 : Int) Agg3 (fun _ hS => ⟨_, (hr_l1 _ (hS.dropN 0))⟩) (fun _ hS => rfl) (fun hy => hp14 (hy ((r5 == 11), true) (by simp)))) <| obs_cons (ob_ix1 (f := (Value.int .i64)) (m := l1) Und22 hi3 hs3 (hr_l1 _ (hS.dropN 0)) rfl (fun hy => hp15 (hy ((r5 == 11), true) (by simp)))) <| obs_cons (ob_get1 (n := l1.length) (m := l1) (Value.int .i64) (0 : Int) Agg3 (fun _ hS => ⟨_, (hr_l1 _ (hS.dropN 0))⟩) (fun _ hS => rfl) (fun hy => hp15 (hy ((r5 == 11), true) (by simp)))) <| obs_nil
                refine cond_ev (t := 151) (b := (r5 == 11) && ((Int.tmod (geti l1 i3) 4) == (Int.tmod (geti l1 4) 4))) hF (by kernel_rfl) (fun hb => ?_) (fun hb => ?_)
                · replace hm := if_t hm hb
                  refine reg1 [] [] [0, 5, 14] [pl 0 (.slice A1 l1.length c1), pl 5 (.int .i64 (w64 (n12 + 1))), pl 14 (.int .i64 i3)] hF hS Fol (by kernel_rfl) (by kernel_rfl) (by kernel_rfl) ?_ (fun a w hF hS => ?_)
                  · exact obs_nil
                  refine block_n ?_
                  refine then_n ?_
                  exact ⟨(w64 (n12 + 1)), hF.weak [0, 5, 14] (by kernel_rfl), hS, hm⟩
                · replace hm := if_f hm hb
                  refine wp_skip ?_
                  refine block_n ?_
                  refine then_n ?_
                  exact ⟨n12, hF.weak [0, 5, 14] (by kernel_rfl), hS, hm⟩
            · refine reg [] [] [0, 5, 14, 131] [pl 0 (.slice A1 l1.length c1), pl 5 (.int .i64 n12), pl 14 (.int .i64 i3), pl 131 (.bool (decide (i3 < 4)))] hF hS Fol (by kernel_rfl) (by kernel_rfl) (by kernel_rfl) ?_ (fun a w hF hS => ?_)
              · exact obs_nil
              refine cond_ev (t := 131) (b := decide (i3 < 4)) hF (by kernel_rfl) (fun hb => ?_) (fun hb => ?_)
              · replace hm := if_t hm hb
                refine wp_skip ?_
                refine then_n ?_
                exact ⟨hF.weak [0, 5, 14] (by kernel_rfl), hS, hm⟩
              · replace hm := if_f hm hb
                refine wp_exit ?_
                refine then_e (then_e (block_e (then_n ?_)))
                rw [← hφ7] at hm
                replace hm := done_b hm
                unfold gameroomref_ShowOf_K7 at hm
                try dsimp only at hm
                have hm : (gameroomref_ShowOf_J19 n12).bind some = some r := hm
                exact ⟨n12, hF.weak [5] (by kernel_rfl), hS, hm⟩
        · obtain ⟨hp5, hm⟩ := asrt_b hm
          obtain ⟨hp6, hm⟩ := asrt_b hm
          obtain ⟨hp7, hm⟩ := asrt_b hm
          obtain ⟨hp8, hm⟩ := asrt_b hm
          obtain ⟨hp9, hm⟩ := asrt_b hm
          obtain ⟨hp10, hm⟩ := asrt_b hm
          refine reg [⟨true, [], vS (Instr.indexAt 22 (.slice A1 l1.length c1) (.int .i64 0)), .pointer (some (sAddr A1 0))⟩, ⟨false, [], vS (Instr.loadAt 3 (.pointer (some (sAddr A1 0)))), .int .i64 (geti l1 0)⟩, ⟨true, [], vS (Instr.indexAt 22 (.slice A1 l1.length c1) (.int .i64 1)), .pointer (some (sAddr A1 1))⟩, ⟨false, [], vS (Instr.loadAt 3 (.pointer (some (sAddr A1 1)))), .int .i64 (geti l1 1)⟩, ⟨true, [(((Int.tmod (geti l1 0) 4) == (Int.tmod (geti l1 1) 4)), true)], vS (Instr.indexAt 22 (.slice A1 l1.length c1) (.int .i64 0)), .pointer (some (sAddr A1 0))⟩, ⟨false, [(((Int.tmod (geti l1 0) 4) == (Int.tmod (geti l1 1) 4)), true)], vS (Instr.loadAt 3 (.pointer (some (sAddr A1 0)))), .int .i64 (geti l1 0)⟩, ⟨true, [(((Int.tmod (geti l1 0) 4) == (Int.tmod (geti l1 1) 4)), true)], vS (Instr.indexAt 22 (.slice A1 l1.length c1) (.int .i64 2)), .pointer (some (sAddr A1 2))⟩, ⟨false, [(((Int.tmod (geti l1 0) 4) == (Int.tmod (geti l1 1) 4)), true)], vS (Instr.loadAt 3 (.pointer (some (sAddr A1 2)))), .int .i64 (geti l1 2)⟩, ⟨true, [(((Int.tmod (geti l1 0) 4) == (Int.tmod (geti l1 1) 4)) && ((Int.tmod (geti l1 0) 4) == (Int.tmod (geti l1 2) 4)), true)], vS (Instr.indexAt 22 (.slice A1 l1.length c1) (.int .i64 0)), .pointer (some (sAddr A1 0))⟩, ⟨false, [(((Int.tmod (geti l1 0) 4) == (Int.tmod (geti l1 1) 4)) && ((Int.tmod (geti l1 0) 4) == (Int.tmod (geti l1 2) 4)), true)], vS (Instr.loadAt 3 (.pointer (some (sAddr A1 0)))), .int .i64 (geti l1 0)⟩, ⟨true, [(((Int.tmod (geti l1 0) 4) == (Int.tmod (geti l1 1) 4)) && ((Int.tmod (geti l1 0) 4) == (Int.tmod (geti l1 2) 4)), true)], vS (Instr.indexAt 22 (.slice A1 l1.length c1) (.int .i64 3)), .pointer (some (sAddr A1 3))⟩, ⟨false, [(((Int.tmod (geti l1 0) 4) == (Int.tmod (geti l1 1) 4)) && ((Int.tmod (geti l1 0) 4) == (Int.tmod (geti l1 2) 4)), true)], vS (Instr.loadAt 3 (.pointer (some (sAddr A1 3)))), .int .i64 (geti l1 3)⟩] [none, some (.pointer (some (sAddr A1 0))), some (.int .i64 (geti l1 0)), none, none, some (.pointer (some (sAddr A1 1))), some (.int .i64 (geti l1 1)), none, none, none, none, some (.pointer (some (sAddr A1 0))), some (.int .i64 (geti l1 0)), none, none, some (.pointer (some (sAddr A1 2))), some (.int .i64 (geti l1 2)), none, none, none, none, none, some (.pointer (some (sAddr A1 0))), some (.int .i64 (geti l1 0)), none, none, some (.pointer (some (sAddr A1 3))), some (.int .i64 (geti l1 3)), none, none, none] [0, 1, 5, 114] [pl 0 (.slice A1 l1.length c1), pl 1 (.bool crib1), pl 5 (.int .i64 n10), pl 114 (.bool ((((Int.tmod (geti l1 0) 4) == (Int.tmod (geti l1 1) 4)) && ((Int.tmod (geti l1 0) 4) == (Int.tmod (geti l1 2) 4))) && ((Int.tmod (geti l1 0) 4) == (Int.tmod (geti l1 3) 4))))] hF hS Fol (by kernel_rfl) (by kernel_rfl) (by kernel_rfl) ?_ (fun a w hF hS => ?_)
          · exact obs_cons (ob_ix1 (f := (Value.int .i64)) (m := l1) Und22 hi3 hs3 (hr_l1 _ (hS.dropN 0)) rfl (fun _ => hp5)) <| obs_cons (ob_get1 (n := l1.length) (m := l1) (Value.int .i64) (0 : Int) Agg3 (fun _ hS => ⟨_, (hr_l1 _ (hS.dropN 0))⟩) (fun _ hS => rfl) (fun _ => hp5)) <| obs_cons (ob_ix1 (f := (Value.int .i64)) (m := l1) Und22 hi3 hs3 (hr_l1 _ (hS.dropN 0)) rfl (fun _ => hp6)) <| obs_cons (ob_get1 (n := l1.length) (m := l1) (Value.int .i64) (0 : Int) Agg3 (fun _ hS => ⟨_, (hr_l1 _ (hS.dropN 0))⟩) (fun _ hS => rfl) (fun _ => hp6)) <| obs_cons (ob_ix1 (f := (Value.int .i64)) (m := l1) Und22 hi3 hs3 (hr_l1 _ (hS.dropN 0)) rfl (fun hy => hp7 (hy (((Int.tmod (geti l1 0) 4) == (Int.tmod (geti l1 1) 4)), true) (by simp)))) <| obs_cons (ob_get1 (n := l1.length) (m := l1) (Value.int .i64) (0 : Int) Agg3 (fun _ hS => ⟨_, (hr_l1 _ (hS.dropN 0))⟩) (fun _ hS => rfl) (fun hy => hp7 (hy (((Int.tmod (geti l1 0) 4) == (Int.tmod (geti l1 1) 4)), true) (by simp)))) <| obs_cons (ob_ix1 (f := (Value.int .i64)) (m := l1) Und22 hi3 hs3 (hr_l1 _ (hS.dropN 0)) rfl (fun hy => hp8 (hy (((Int.tmod (geti l1 0) 4) == (Int.tmod (geti l1 1) 4)), true) (by simp)))) <| obs_cons (ob_get1 (n := l1.length) (m := l1) (Value.int .i64) (0 : Int) Agg3 (fun _ hS => ⟨_, (hr_l1 _ (hS.dropN 0))⟩) (fun _ hS => rfl) (fun hy => hp8 (hy (((Int.tmod (geti l1 0) 4) == (Int.tmod (geti l1 1) 4)), true) (by simp)))) <| obs_cons (ob_ix1 (f := (Value.int .i64)) (m := l1) Und22 hi3 hs3 (hr_l1 _ (hS.dropN 0)) rfl (fun hy => hp9 (hy (((Int.tmod (geti l1 0) 4) == (Int.tmod (geti l1 1) 4)) && ((Int.tmod (geti l1 0) 4) == (Int.tmod (geti l1 2) 4)), true) (by simp)))) <| obs_cons (ob_get1 (n := l1.length) (m := l1) (Value.int .i64) (0 : Int) Agg3 (fun _ hS => ⟨_, (hr_l1 _ (hS.dropN 0))⟩) (fun _ hS => rfl) (fun hy => hp9 (hy (((Int.tmod (geti l1 0) 4) == (Int.tmod (geti l1 1) 4)) && ((Int.tmod (geti l1 0) 4) == (Int.tmod (geti l1 2) 4)), true) (by simp)))) <| obs_cons (ob_ix1 (f := (Value.int .i64)) (m := l1) Und22 hi3 hs3 (hr_l1 _ (hS.dropN 0)) rfl (fun hy => hp10 (hy (((Int.tmod (geti l1 0) 4) == (Int.tmod (geti l1 1) 4)) && ((Int.tmod (geti l1 0) 4) == (Int.tmod (geti l1 2) 4)), true) (by simp)))) <| obs_cons (ob_get1 (n := l1.length) (m := l1) (Value.int .i64) (0 : Int) Agg3 (fun _ hS => ⟨_, (hr_l1 _ (hS.dropN 0))⟩) (fun _ hS => rfl) (fun hy => hp10 (hy (((Int.tmod (geti l1 0) 4) == (Int.tmod (geti l1 1) 4)) && ((Int.tmod (geti l1 0) 4) == (Int.tmod (geti l1 2) 4)), true) (by simp)))) <| obs_nil
          refine cond_ev (t := 114) (b := (((Int.tmod (geti l1 0) 4) == (Int.tmod (geti l1 1) 4)) && ((Int.tmod (geti l1 0) 4) == (Int.tmod (geti l1 2) 4))) && ((Int.tmod (geti l1 0) 4) == (Int.tmod (geti l1 3) 4))) hF (by kernel_rfl) (fun hb => ?_) (fun hb => ?_)
          · replace hm := if_t hm hb
            obtain ⟨hp11, hm⟩ := asrt_b hm
            obtain ⟨hp12, hm⟩ := asrt_b hm
            refine reg [⟨true, [], vS (Instr.indexAt 22 (.slice A1 l1.length c1) (.int .i64 0)), .pointer (some (sAddr A1 0))⟩, ⟨false, [], vS (Instr.loadAt 3 (.pointer (some (sAddr A1 0)))), .int .i64 (geti l1 0)⟩, ⟨true, [], vS (Instr.indexAt 22 (.slice A1 l1.length c1) (.int .i64 4)), .pointer (some (sAddr A1 4))⟩, ⟨false, [], vS (Instr.loadAt 3 (.pointer (some (sAddr A1 4)))), .int .i64 (geti l1 4)⟩] [none, some (.pointer (some (sAddr A1 0))), some (.int .i64 (geti l1 0)), none, none, some (.pointer (some (sAddr A1 4))), some (.int .i64 (geti l1 4)), none, none] [0, 1, 5, 123] [pl 0 (.slice A1 l1.length c1), pl 1 (.bool crib1), pl 5 (.int .i64 n10), pl 123 (.bool ((Int.tmod (geti l1 0) 4) == (Int.tmod (geti l1 4) 4)))] hF hS Fol (by kernel_rfl) (by kernel_rfl) (by kernel_rfl) ?_ (fun a w hF hS => ?_)
            · exact obs_cons (ob_ix1 (f := (Value.int .i64)) (m := l1) Und22 hi3 hs3 (hr_l1 _ (hS.dropN 0)) rfl (fun _ => hp11)) <| obs_cons (ob_get1 (n := l1.length) (m := l1) (Value.int .i64) (0 : Int) Agg3 (fun _ hS => ⟨_, (hr_l1 _ (hS.dropN 0))⟩) (fun _ hS => rfl) (fun _ => hp11)) <| obs_cons (ob_ix1 (f := (Value.int .i64)) (m := l1) Und22 hi3 hs3 (hr_l1 _ (hS.dropN 0)) rfl (fun _ => hp12)) <| obs_cons (ob_get1 (n := l1.length) (m := l1) (Value.int .i64) (0 : Int) Agg3 (fun _ hS => ⟨_, (hr_l1 _ (hS.dropN 0))⟩) (fun _ hS => rfl) (fun _ => hp12)) <| obs_nil
            refine cond_ev (t := 123) (b := ((Int.tmod (geti l1 0) 4) == (Int.tmod (geti l1 4) 4))) hF (by kernel_rfl) (fun hb => ?_) (fun hb => ?_)
            · replace hm := if_t hm hb
              refine reg1 [] [] [0, 5] [pl 0 (.slice A1 l1.length c1), pl 5 (.int .i64 (w64 (n10 + 5)))] hF hS Fol (by kernel_rfl) (by kernel_rfl) (by kernel_rfl) ?_ (fun a w hF hS => ?_)
              · exact obs_nil
              refine then_n ?_
              exact ⟨(w64 (n10 + 5)), hF.weak [0, 5] (by kernel_rfl), hS, hm⟩
            · replace hm := if_f hm hb
              refine reg [] [] [0, 5, 127] [pl 0 (.slice A1 l1.length c1), pl 5 (.int .i64 n10), pl 127 (.bool (!crib1))] hF hS Fol (by kernel_rfl) (by kernel_rfl) (by kernel_rfl) ?_ (fun a w hF hS => ?_)
              · exact obs_nil
              refine cond_ev (t := 127) (b := !crib1) hF (by kernel_rfl) (fun hb => ?_) (fun hb => ?_)
              · replace hm := if_t hm hb
                refine reg1 [] [] [0, 5] [pl 0 (.slice A1 l1.length c1), pl 5 (.int .i64 (w64 (n10 + 4)))] hF hS Fol (by kernel_rfl) (by kernel_rfl) (by kernel_rfl) ?_ (fun a w hF hS => ?_)
                · exact obs_nil
                refine then_n ?_
                exact ⟨(w64 (n10 + 4)), hF.weak [0, 5] (by kernel_rfl), hS, hm⟩
              · replace hm := if_f hm hb
                refine wp_skip ?_
                refine then_n ?_
                exact ⟨n10, hF.weak [0, 5] (by kernel_rfl), hS, hm⟩
          · replace hm := if_f hm hb
            refine wp_skip ?_
            refine then_n ?_
            exact ⟨n10, hF.weak [0, 5] (by kernel_rfl), hS, hm⟩
      · refine reg [] [] [0, 1, 5, 11] [pl 0 (.slice A1 l1.length c1), pl 1 (.bool crib1), pl 5 (.int .i64 n6), pl 11 (.int .i64 5)] hF hS Fol (by kernel_rfl) (by kernel_rfl) (by kernel_rfl) ?_ (fun a w hF hS => ?_)
        · exact obs_nil
        refine wp_block ?_
        refine wp_loop_model (S := Int) (R := Int) (gameroomref_ShowOf_L5 l1 n6) (fun x => ((gameroomref_ShowOf_K5 l1 crib1) x).bind some) r (fun (x : Int) a w => Fr 155 [pl 0 (.slice A1 l1.length c1), pl 1 (.bool crib1), pl 5 (.int .i64 n6), pl 11 (.int .i64 x)] a ∧ Sep w0 B w (fs)) (assoc_b hm) ⟨hF.weak [0, 1, 5, 11] (by kernel_rfl), hS⟩ ?_
        clear hF hS hm
        rintro nn5 long1 a w ⟨hF, hS⟩ hm
        generalize hφ5 : stK (gameroomref_ShowOf_L5 l1 n6) nn5 (fun x => ((gameroomref_ShowOf_K5 l1 crib1) x).bind some) = φ5 at hm
        unfold gameroomref_ShowOf_L5 at hm
        dsimp only at hm
        refine seq_cut (fun a w => Fr 155 [pl 0 (.slice A1 l1.length c1), pl 1 (.bool crib1), pl 5 (.int .i64 n6), pl 11 (.int .i64 long1)] a ∧ Sep w0 B w (fs) ∧ ((gameroomref_ShowOf_J13 l1 n6 long1)).bind φ5 = some r) ?_ ?_
        · rintro a w ⟨hF, hS, hm⟩
          unfold gameroomref_ShowOf_J13 at hm
          refine seq_cut (fun a w => Fr 155 [pl 0 (.slice A1 l1.length c1), pl 1 (.bool crib1), pl 5 (.int .i64 n6), pl 11 (.int .i64 long1)] a ∧ Sep w0 B w (fs) ∧ ((gameroomref_ShowOf_J14 long1)).bind φ5 = some r) ?_ ?_
          · rintro a w ⟨hF, hS, hm⟩
            unfold gameroomref_ShowOf_J14 at hm
            refine reg1 [] [] [0, 1, 5, 11] [pl 0 (.slice A1 l1.length c1), pl 1 (.bool crib1), pl 5 (.int .i64 n6), pl 11 (.int .i64 (w64 (long1 - 1)))] hF hS Fol (by kernel_rfl) (by kernel_rfl) (by kernel_rfl) ?_ (fun a w hF hS => ?_)
            · exact obs_nil
            refine then_n ?_
            rw [← hφ5] at hm
            exact ⟨(w64 (long1 - 1)), ⟨hF.weak [0, 1, 5, 11] (by kernel_rfl), hS⟩, hm⟩
          · refine wp_block ?_
            refine reg [] [] [0, 1, 5, 11, 12] [pl 0 (.slice A1 l1.length c1), pl 1 (.bool crib1), pl 5 (.int .i64 n6), pl 11 (.int .i64 long1), pl 12 (.int .i64 0)] hF hS Fol (by kernel_rfl) (by kernel_rfl) (by kernel_rfl) ?_ (fun a w hF hS => ?_)
            · exact obs_nil
            refine seq_cut (fun a w => ∃ (ways2 : Int), Fr 155 [pl 0 (.slice A1 l1.length c1), pl 1 (.bool crib1), pl 5 (.int .i64 n6), pl 11 (.int .i64 long1), pl 12 (.int .i64 ways2)] a ∧ Sep w0 B w (fs) ∧ ((gameroomref_ShowOf_J15 n6 long1) ways2).bind φ5 = some r) ?_ ?_
            · rintro a w ⟨ways2, hF, hS, hm⟩
              unfold gameroomref_ShowOf_J15 at hm
              refine reg [] [] [0, 1, 5, 11, 12, 78] [pl 0 (.slice A1 l1.length c1), pl 1 (.bool crib1), pl 5 (.int .i64 n6), pl 11 (.int .i64 long1), pl 12 (.int .i64 ways2), pl 78 (.bool (decide ((0 : Int) < ways2)))] hF hS Fol (by kernel_rfl) (by kernel_rfl) (by kernel_rfl) ?_ (fun a w hF hS => ?_)
              · exact obs_nil
              refine cond_ev (t := 78) (b := decide ((0 : Int) < ways2)) hF (by kernel_rfl) (fun hb => ?_) (fun hb => ?_)
              · replace hm := if_t hm hb
                refine reg [] [] [0, 1, 5] [pl 0 (.slice A1 l1.length c1), pl 1 (.bool crib1), pl 5 (.int .i64 (w64 (n6 + (w64 (long1 * ways2)))))] hF hS Fol (by kernel_rfl) (by kernel_rfl) (by kernel_rfl) ?_ (fun a w hF hS => ?_)
                · exact obs_nil
                refine wp_exit ?_
                refine block_o rfl (then_e (then_e (block_e (then_n ?_))))
                rw [← hφ5] at hm
                replace hm := done_b hm
                unfold gameroomref_ShowOf_K5 at hm
                try dsimp only at hm
                have hm : ((gameroomref_ShowOf_J12 l1 crib1) (w64 (n6 + (w64 (long1 * ways2))))).bind some = some r := hm
                exact ⟨(w64 (n6 + (w64 (long1 * ways2)))), hF.weak [0, 1, 5] (by kernel_rfl), hS, hm⟩
              · replace hm := if_f hm hb
                refine wp_skip ?_
                refine block_n ?_
                refine then_n ?_
                exact ⟨hF.weak [0, 1, 5, 11] (by kernel_rfl), hS, hm⟩
            · refine reg [] [] [0, 1, 5, 11, 12, 13] [pl 0 (.slice A1 l1.length c1), pl 1 (.bool crib1), pl 5 (.int .i64 n6), pl 11 (.int .i64 long1), pl 12 (.int .i64 0), pl 13 (.int .i64 1)] hF hS Fol (by kernel_rfl) (by kernel_rfl) (by kernel_rfl) ?_ (fun a w hF hS => ?_)
              · exact obs_nil
              refine wp_block ?_
              refine wp_loop_model (S := (Int × Int)) (R := Int) (gameroomref_ShowOf_L6 l1 long1) (fun x => ((gameroomref_ShowOf_K6 n6 long1) x).bind φ5) r (fun (x : (Int × Int)) a w => Fr 155 [pl 0 (.slice A1 l1.length c1), pl 1 (.bool crib1), pl 5 (.int .i64 n6), pl 11 (.int .i64 long1), pl 12 (.int .i64 x.1), pl 13 (.int .i64 x.2)] a ∧ Sep w0 B w (fs)) (assoc_b hm) ⟨hF.weak [0, 1, 5, 11, 12, 13] (by kernel_rfl), hS⟩ ?_
              clear hF hS hm
              rintro nn6 ⟨ways1, low1⟩ a w ⟨hF, hS⟩ hm
              generalize hφ6 : stK (gameroomref_ShowOf_L6 l1 long1) nn6 (fun x => ((gameroomref_ShowOf_K6 n6 long1) x).bind φ5) = φ6 at hm
              unfold gameroomref_ShowOf_L6 at hm
              dsimp only at hF hS hm
              refine seq_cut (fun a w => Fr 155 [pl 0 (.slice A1 l1.length c1), pl 1 (.bool crib1), pl 5 (.int .i64 n6), pl 11 (.int .i64 long1), pl 12 (.int .i64 ways1), pl 13 (.int .i64 low1)] a ∧ Sep w0 B w (fs) ∧ ((gameroomref_ShowOf_J16 l1 long1 ways1 low1)).bind φ6 = some r) ?_ ?_
              · rintro a w ⟨hF, hS, hm⟩
                unfold gameroomref_ShowOf_J16 at hm
                refine seq_cut (fun a w => ∃ (ways3 : Int), Fr 155 [pl 0 (.slice A1 l1.length c1), pl 1 (.bool crib1), pl 5 (.int .i64 n6), pl 11 (.int .i64 long1), pl 12 (.int .i64 ways3), pl 13 (.int .i64 low1)] a ∧ Sep w0 B w (fs) ∧ ((gameroomref_ShowOf_J17 low1) ways3).bind φ6 = some r) ?_ ?_
                · rintro a w ⟨ways3, hF, hS, hm⟩
                  unfold gameroomref_ShowOf_J17 at hm
                  refine reg1 [] [] [0, 1, 5, 11, 12, 13] [pl 0 (.slice A1 l1.length c1), pl 1 (.bool crib1), pl 5 (.int .i64 n6), pl 11 (.int .i64 long1), pl 12 (.int .i64 ways3), pl 13 (.int .i64 (w64 (low1 + 1)))] hF hS Fol (by kernel_rfl) (by kernel_rfl) (by kernel_rfl) ?_ (fun a w hF hS => ?_)
                  · exact obs_nil
                  refine then_n ?_
                  rw [← hφ6] at hm
                  exact ⟨(ways3, (w64 (low1 + 1))), ⟨hF.weak [0, 1, 5, 11, 12, 13] (by kernel_rfl), hS⟩, hm⟩
                · refine wp_block ?_
                  obtain ⟨r4, hr4, hm⟩ := call_b hm
                  refine reg1 [⟨false, [], callFunc 131 #[.slice A1 l1.length c1, .int .i64 low1, .int .i64 long1], .int .i64 r4⟩] [none, none, none, none, some (.int .i64 r4), none, none] [0, 1, 5, 11, 12, 13] [pl 0 (.slice A1 l1.length c1), pl 1 (.bool crib1), pl 5 (.int .i64 n6), pl 11 (.int .i64 long1), pl 12 (.int .i64 (w64 (ways1 + r4))), pl 13 (.int .i64 low1)] hF hS Fol (by kernel_rfl) (by kernel_rfl) (by kernel_rfl) ?_ (fun a w hF hS => ?_)
                  · exact obs_cons (ob_call Try.func131 (by kernel_rfl) rfl (fun _ _ hS => gameroomref_rowWays_w hr4 hS (fun _ hS => (hr_l1 _ (hS.dropN 0))) _hc_l1 rfl)) <| obs_nil
                  refine block_n ?_
                  refine then_n ?_
                  exact ⟨(w64 (ways1 + r4)), hF.weak [0, 1, 5, 11, 12, 13] (by kernel_rfl), hS, hm⟩
              · refine reg [] [] [0, 1, 5, 11, 12, 13, 68] [pl 0 (.slice A1 l1.length c1), pl 1 (.bool crib1), pl 5 (.int .i64 n6), pl 11 (.int .i64 long1), pl 12 (.int .i64 ways1), pl 13 (.int .i64 low1), pl 68 (.bool (decide ((w64 (low1 + long1)) ≤ 14)))] hF hS Fol (by kernel_rfl) (by kernel_rfl) (by kernel_rfl) ?_ (fun a w hF hS => ?_)
                · exact obs_nil
                refine cond_ev (t := 68) (b := decide ((w64 (low1 + long1)) ≤ 14)) hF (by kernel_rfl) (fun hb => ?_) (fun hb => ?_)
                · replace hm := if_t hm hb
                  refine wp_skip ?_
                  refine then_n ?_
                  exact ⟨hF.weak [0, 1, 5, 11, 12, 13] (by kernel_rfl), hS, hm⟩
                · replace hm := if_f hm hb
                  refine wp_exit ?_
                  refine then_e (then_e (block_e (then_n ?_)))
                  rw [← hφ6] at hm
                  replace hm := done_b hm
                  unfold gameroomref_ShowOf_K6 at hm
                  try dsimp only at hm
                  have hm : ((gameroomref_ShowOf_J15 n6 long1) ways1).bind φ5 = some r := hm
                  exact ⟨ways1, hF.weak [0, 1, 5, 11, 12] (by kernel_rfl), hS, hm⟩
        · refine reg [] [] [0, 1, 5, 11, 62] [pl 0 (.slice A1 l1.length c1), pl 1 (.bool crib1), pl 5 (.int .i64 n6), pl 11 (.int .i64 long1), pl 62 (.bool (decide ((3 : Int) ≤ long1)))] hF hS Fol (by kernel_rfl) (by kernel_rfl) (by kernel_rfl) ?_ (fun a w hF hS => ?_)
          · exact obs_nil
          refine cond_ev (t := 62) (b := decide ((3 : Int) ≤ long1)) hF (by kernel_rfl) (fun hb => ?_) (fun hb => ?_)
          · replace hm := if_t hm hb
            refine wp_skip ?_
            refine then_n ?_
            exact ⟨hF.weak [0, 1, 5, 11] (by kernel_rfl), hS, hm⟩
          · replace hm := if_f hm hb
            refine wp_exit ?_
            refine then_e (then_e (block_e (then_n ?_)))
            rw [← hφ5] at hm
            replace hm := done_b hm
            unfold gameroomref_ShowOf_K5 at hm
            try dsimp only at hm
            have hm : ((gameroomref_ShowOf_J12 l1 crib1) n6).bind some = some r := hm
            exact ⟨n6, hF.weak [0, 1, 5] (by kernel_rfl), hS, hm⟩
    · refine reg [] [] [0, 1, 5, 9] [pl 0 (.slice A1 l1.length c1), pl 1 (.bool crib1), pl 5 (.int .i64 n3), pl 9 (.int .i64 0)] hF hS Fol (by kernel_rfl) (by kernel_rfl) (by kernel_rfl) ?_ (fun a w hF hS => ?_)
      · exact obs_nil
      refine wp_block ?_
      refine wp_loop_model (S := (Int × Int)) (R := Int) (gameroomref_ShowOf_L3 l1) (fun x => ((gameroomref_ShowOf_K3 l1 crib1) x).bind some) r (fun (x : (Int × Int)) a w => Fr 155 [pl 0 (.slice A1 l1.length c1), pl 1 (.bool crib1), pl 5 (.int .i64 x.1), pl 9 (.int .i64 x.2)] a ∧ Sep w0 B w (fs)) (assoc_b hm) ⟨hF.weak [0, 1, 5, 9] (by kernel_rfl), hS⟩ ?_
      clear hF hS hm
      rintro nn3 ⟨n5, i2⟩ a w ⟨hF, hS⟩ hm
      generalize hφ3 : stK (gameroomref_ShowOf_L3 l1) nn3 (fun x => ((gameroomref_ShowOf_K3 l1 crib1) x).bind some) = φ3 at hm
      unfold gameroomref_ShowOf_L3 at hm
      dsimp only at hF hS hm
      refine seq_cut (fun a w => Fr 155 [pl 0 (.slice A1 l1.length c1), pl 1 (.bool crib1), pl 5 (.int .i64 n5), pl 9 (.int .i64 i2)] a ∧ Sep w0 B w (fs) ∧ ((gameroomref_ShowOf_J8 l1 n5 i2)).bind φ3 = some r) ?_ ?_
      · rintro a w ⟨hF, hS, hm⟩
        unfold gameroomref_ShowOf_J8 at hm
        refine seq_cut (fun a w => ∃ (n8 : Int), Fr 155 [pl 0 (.slice A1 l1.length c1), pl 1 (.bool crib1), pl 5 (.int .i64 n8), pl 9 (.int .i64 i2)] a ∧ Sep w0 B w (fs) ∧ ((gameroomref_ShowOf_J9 i2) n8).bind φ3 = some r) ?_ ?_
        · rintro a w ⟨n8, hF, hS, hm⟩
          unfold gameroomref_ShowOf_J9 at hm
          refine reg1 [] [] [0, 1, 5, 9] [pl 0 (.slice A1 l1.length c1), pl 1 (.bool crib1), pl 5 (.int .i64 n8), pl 9 (.int .i64 (w64 (i2 + 1)))] hF hS Fol (by kernel_rfl) (by kernel_rfl) (by kernel_rfl) ?_ (fun a w hF hS => ?_)
          · exact obs_nil
          refine then_n ?_
          rw [← hφ3] at hm
          exact ⟨(n8, (w64 (i2 + 1))), ⟨hF.weak [0, 1, 5, 9] (by kernel_rfl), hS⟩, hm⟩
        · refine wp_block ?_
          refine reg [] [] [0, 1, 5, 9, 10] [pl 0 (.slice A1 l1.length c1), pl 1 (.bool crib1), pl 5 (.int .i64 n5), pl 9 (.int .i64 i2), pl 10 (.int .i64 0)] hF hS Fol (by kernel_rfl) (by kernel_rfl) (by kernel_rfl) ?_ (fun a w hF hS => ?_)
          · exact obs_nil
          refine wp_block ?_
          refine wp_loop_model (S := (Int × Int)) (R := Int) (gameroomref_ShowOf_L4 l1 i2) (fun x => ((gameroomref_ShowOf_K4 i2) x).bind φ3) r (fun (x : (Int × Int)) a w => Fr 155 [pl 0 (.slice A1 l1.length c1), pl 1 (.bool crib1), pl 5 (.int .i64 x.1), pl 9 (.int .i64 i2), pl 10 (.int .i64 x.2)] a ∧ Sep w0 B w (fs)) (assoc_b hm) ⟨hF.weak [0, 1, 5, 9, 10] (by kernel_rfl), hS⟩ ?_
          clear hF hS hm
          rintro nn4 ⟨n7, k1⟩ a w ⟨hF, hS⟩ hm
          generalize hφ4 : stK (gameroomref_ShowOf_L4 l1 i2) nn4 (fun x => ((gameroomref_ShowOf_K4 i2) x).bind φ3) = φ4 at hm
          unfold gameroomref_ShowOf_L4 at hm
          dsimp only at hF hS hm
          refine seq_cut (fun a w => Fr 155 [pl 0 (.slice A1 l1.length c1), pl 1 (.bool crib1), pl 5 (.int .i64 n7), pl 9 (.int .i64 i2), pl 10 (.int .i64 k1)] a ∧ Sep w0 B w (fs) ∧ ((gameroomref_ShowOf_J10 l1 i2 n7 k1)).bind φ4 = some r) ?_ ?_
          · rintro a w ⟨hF, hS, hm⟩
            unfold gameroomref_ShowOf_J10 at hm
            refine seq_cut (fun a w => ∃ (n9 : Int), Fr 155 [pl 0 (.slice A1 l1.length c1), pl 1 (.bool crib1), pl 5 (.int .i64 n9), pl 9 (.int .i64 i2), pl 10 (.int .i64 k1)] a ∧ Sep w0 B w (fs) ∧ ((gameroomref_ShowOf_J11 k1) n9).bind φ4 = some r) ?_ ?_
            · rintro a w ⟨n9, hF, hS, hm⟩
              unfold gameroomref_ShowOf_J11 at hm
              refine reg1 [] [] [0, 1, 5, 9, 10] [pl 0 (.slice A1 l1.length c1), pl 1 (.bool crib1), pl 5 (.int .i64 n9), pl 9 (.int .i64 i2), pl 10 (.int .i64 (w64 (k1 + 1)))] hF hS Fol (by kernel_rfl) (by kernel_rfl) (by kernel_rfl) ?_ (fun a w hF hS => ?_)
              · exact obs_nil
              refine then_n ?_
              rw [← hφ4] at hm
              exact ⟨(n9, (w64 (k1 + 1))), ⟨hF.weak [0, 1, 5, 9, 10] (by kernel_rfl), hS⟩, hm⟩
            · refine wp_block ?_
              obtain ⟨hp3, hm⟩ := asrt_b hm
              obtain ⟨r2, hr2, hm⟩ := call_b hm
              obtain ⟨hp4, hm⟩ := asrt_b hm
              obtain ⟨r3, hr3, hm⟩ := call_b hm
              refine reg [⟨true, [], vS (Instr.indexAt 22 (.slice A1 l1.length c1) (.int .i64 i2)), .pointer (some (sAddr A1 i2))⟩, ⟨false, [], vS (Instr.loadAt 3 (.pointer (some (sAddr A1 i2)))), .int .i64 (geti l1 i2)⟩, ⟨false, [], callFunc 130 #[.int .i64 (geti l1 i2)], .int .i64 r2⟩, ⟨true, [], vS (Instr.indexAt 22 (.slice A1 l1.length c1) (.int .i64 k1)), .pointer (some (sAddr A1 k1))⟩, ⟨false, [], vS (Instr.loadAt 3 (.pointer (some (sAddr A1 k1)))), .int .i64 (geti l1 k1)⟩, ⟨false, [], callFunc 130 #[.int .i64 (geti l1 k1)], .int .i64 r3⟩] [none, none, some (.pointer (some (sAddr A1 i2))), some (.int .i64 (geti l1 i2)), some (.int .i64 r2), none, none, some (.pointer (some (sAddr A1 k1))), some (.int .i64 (geti l1 k1)), some (.int .i64 r3), none] [0, 1, 5, 9, 10, 58] [pl 0 (.slice A1 l1.length c1), pl 1 (.bool crib1), pl 5 (.int .i64 n7), pl 9 (.int .i64 i2), pl 10 (.int .i64 k1), pl 58 (.bool (r2 == r3))] hF hS Fol (by kernel_rfl) (by kernel_rfl) (by kernel_rfl) ?_ (fun a w hF hS => ?_)
              · exact obs_cons (ob_ix1 (f := (Value.int .i64)) (m := l1) Und22 hi3 hs3 (hr_l1 _ (hS.dropN 0)) rfl (fun _ => hp3)) <| obs_cons (ob_get1 (n := l1.length) (m := l1) (Value.int .i64) (0 : Int) Agg3 (fun _ hS => ⟨_, (hr_l1 _ (hS.dropN 0))⟩) (fun _ hS => rfl) (fun _ => hp3)) <| obs_cons (ob_call Try.func130 (by kernel_rfl) rfl (fun _ _ hS => gameroomref_pipOf_w hr2 hS )) <| obs_cons (ob_ix1 (f := (Value.int .i64)) (m := l1) Und22 hi3 hs3 (hr_l1 _ (hS.dropN 0)) rfl (fun _ => hp4)) <| obs_cons (ob_get1 (n := l1.length) (m := l1) (Value.int .i64) (0 : Int) Agg3 (fun _ hS => ⟨_, (hr_l1 _ (hS.dropN 0))⟩) (fun _ hS => rfl) (fun _ => hp4)) <| obs_cons (ob_call Try.func130 (by kernel_rfl) rfl (fun _ _ hS => gameroomref_pipOf_w hr3 hS )) <| obs_nil
              refine cond_ev (t := 58) (b := (r2 == r3)) hF (by kernel_rfl) (fun hb => ?_) (fun hb => ?_)
              · replace hm := if_t hm hb
                refine reg1 [] [] [0, 1, 5, 9, 10] [pl 0 (.slice A1 l1.length c1), pl 1 (.bool crib1), pl 5 (.int .i64 (w64 (n7 + 2))), pl 9 (.int .i64 i2), pl 10 (.int .i64 k1)] hF hS Fol (by kernel_rfl) (by kernel_rfl) (by kernel_rfl) ?_ (fun a w hF hS => ?_)
                · exact obs_nil
                refine block_n ?_
                refine then_n ?_
                exact ⟨(w64 (n7 + 2)), hF.weak [0, 1, 5, 9, 10] (by kernel_rfl), hS, hm⟩
              · replace hm := if_f hm hb
                refine wp_skip ?_
                refine block_n ?_
                refine then_n ?_
                exact ⟨n7, hF.weak [0, 1, 5, 9, 10] (by kernel_rfl), hS, hm⟩
          · refine reg [] [] [0, 1, 5, 9, 10, 45] [pl 0 (.slice A1 l1.length c1), pl 1 (.bool crib1), pl 5 (.int .i64 n7), pl 9 (.int .i64 i2), pl 10 (.int .i64 k1), pl 45 (.bool (decide (k1 < i2)))] hF hS Fol (by kernel_rfl) (by kernel_rfl) (by kernel_rfl) ?_ (fun a w hF hS => ?_)
            · exact obs_nil
            refine cond_ev (t := 45) (b := decide (k1 < i2)) hF (by kernel_rfl) (fun hb => ?_) (fun hb => ?_)
            · replace hm := if_t hm hb
              refine wp_skip ?_
              refine then_n ?_
              exact ⟨hF.weak [0, 1, 5, 9, 10] (by kernel_rfl), hS, hm⟩
            · replace hm := if_f hm hb
              refine wp_exit ?_
              refine then_e (then_e (block_e (block_n (then_n ?_))))
              rw [← hφ4] at hm
              replace hm := done_b hm
              unfold gameroomref_ShowOf_K4 at hm
              try dsimp only at hm
              have hm : ((gameroomref_ShowOf_J9 i2) n7).bind φ3 = some r := hm
              exact ⟨n7, hF.weak [0, 1, 5, 9] (by kernel_rfl), hS, hm⟩
      · refine reg [] [] [0, 1, 5, 9, 40] [pl 0 (.slice A1 l1.length c1), pl 1 (.bool crib1), pl 5 (.int .i64 n5), pl 9 (.int .i64 i2), pl 40 (.bool (decide (i2 < 5)))] hF hS Fol (by kernel_rfl) (by kernel_rfl) (by kernel_rfl) ?_ (fun a w hF hS => ?_)
        · exact obs_nil
        refine cond_ev (t := 40) (b := decide (i2 < 5)) hF (by kernel_rfl) (fun hb => ?_) (fun hb => ?_)
        · replace hm := if_t hm hb
          refine wp_skip ?_
          refine then_n ?_
          exact ⟨hF.weak [0, 1, 5, 9] (by kernel_rfl), hS, hm⟩
        · replace hm := if_f hm hb
          refine wp_exit ?_
          refine then_e (then_e (block_e (then_n ?_)))
          rw [← hφ3] at hm
          replace hm := done_b hm
          unfold gameroomref_ShowOf_K3 at hm
          try dsimp only at hm
          have hm : ((gameroomref_ShowOf_J7 l1 crib1) n5).bind some = some r := hm
          exact ⟨n5, hF.weak [0, 1, 5] (by kernel_rfl), hS, hm⟩
  · refine reg [] [] [0, 1, 5, 6] [pl 0 (.slice A1 l1.length c1), pl 1 (.bool crib1), pl 5 (.int .i64 0), pl 6 (.int .i64 0)] hF hS Fol (by kernel_rfl) (by kernel_rfl) (by kernel_rfl) ?_ (fun a w hF hS => ?_)
    · exact obs_nil
    refine wp_block ?_
    refine wp_loop_model (S := (Int × Int)) (R := Int) (gameroomref_ShowOf_L1 l1) (fun x => ((gameroomref_ShowOf_K1 l1 crib1) x).bind some) r (fun (x : (Int × Int)) a w => Fr 155 [pl 0 (.slice A1 l1.length c1), pl 1 (.bool crib1), pl 5 (.int .i64 x.1), pl 6 (.int .i64 x.2)] a ∧ Sep w0 B w (fs)) (assoc_b hm) ⟨hF.weak [0, 1, 5, 6] (by kernel_rfl), hS⟩ ?_
    clear hF hS hm
    rintro nn1 ⟨n2, a1⟩ a w ⟨hF, hS⟩ hm
    generalize hφ1 : stK (gameroomref_ShowOf_L1 l1) nn1 (fun x => ((gameroomref_ShowOf_K1 l1 crib1) x).bind some) = φ1 at hm
    unfold gameroomref_ShowOf_L1 at hm
    dsimp only at hF hS hm
    refine seq_cut (fun a w => Fr 155 [pl 0 (.slice A1 l1.length c1), pl 1 (.bool crib1), pl 5 (.int .i64 n2), pl 6 (.int .i64 a1)] a ∧ Sep w0 B w (fs) ∧ ((gameroomref_ShowOf_J2 l1 n2 a1)).bind φ1 = some r) ?_ ?_
    · rintro a w ⟨hF, hS, hm⟩
      unfold gameroomref_ShowOf_J2 at hm
      refine seq_cut (fun a w => ∃ (n4 : Int), Fr 155 [pl 0 (.slice A1 l1.length c1), pl 1 (.bool crib1), pl 5 (.int .i64 n4), pl 6 (.int .i64 a1)] a ∧ Sep w0 B w (fs) ∧ ((gameroomref_ShowOf_J3 a1) n4).bind φ1 = some r) ?_ ?_
      · rintro a w ⟨n4, hF, hS, hm⟩
        unfold gameroomref_ShowOf_J3 at hm
        refine reg1 [] [] [0, 1, 5, 6] [pl 0 (.slice A1 l1.length c1), pl 1 (.bool crib1), pl 5 (.int .i64 n4), pl 6 (.int .i64 (w64 (a1 + 1)))] hF hS Fol (by kernel_rfl) (by kernel_rfl) (by kernel_rfl) ?_ (fun a w hF hS => ?_)
        · exact obs_nil
        refine then_n ?_
        rw [← hφ1] at hm
        exact ⟨(n4, (w64 (a1 + 1))), ⟨hF.weak [0, 1, 5, 6] (by kernel_rfl), hS⟩, hm⟩
      · refine wp_block ?_
        refine reg [] [] [0, 1, 5, 6, 7] [pl 0 (.slice A1 l1.length c1), pl 1 (.bool crib1), pl 5 (.int .i64 n2), pl 6 (.int .i64 a1), pl 7 (.int .i64 0)] hF hS Fol (by kernel_rfl) (by kernel_rfl) (by kernel_rfl) ?_ (fun a w hF hS => ?_)
        · exact obs_nil
        refine seq_cut (fun a w => ∃ (sum2 : Int), Fr 155 [pl 0 (.slice A1 l1.length c1), pl 1 (.bool crib1), pl 5 (.int .i64 n2), pl 6 (.int .i64 a1), pl 7 (.int .i64 sum2)] a ∧ Sep w0 B w (fs) ∧ ((gameroomref_ShowOf_J4 n2 a1) sum2).bind φ1 = some r) ?_ ?_
        · rintro a w ⟨sum2, hF, hS, hm⟩
          unfold gameroomref_ShowOf_J4 at hm
          refine reg [] [] [0, 1, 5, 6, 36] [pl 0 (.slice A1 l1.length c1), pl 1 (.bool crib1), pl 5 (.int .i64 n2), pl 6 (.int .i64 a1), pl 36 (.bool (sum2 == 15))] hF hS Fol (by kernel_rfl) (by kernel_rfl) (by kernel_rfl) ?_ (fun a w hF hS => ?_)
          · exact obs_nil
          refine cond_ev (t := 36) (b := (sum2 == 15)) hF (by kernel_rfl) (fun hb => ?_) (fun hb => ?_)
          · replace hm := if_t hm hb
            refine reg1 [] [] [0, 1, 5, 6] [pl 0 (.slice A1 l1.length c1), pl 1 (.bool crib1), pl 5 (.int .i64 (w64 (n2 + 2))), pl 6 (.int .i64 a1)] hF hS Fol (by kernel_rfl) (by kernel_rfl) (by kernel_rfl) ?_ (fun a w hF hS => ?_)
            · exact obs_nil
            refine block_n ?_
            refine then_n ?_
            exact ⟨(w64 (n2 + 2)), hF.weak [0, 1, 5, 6] (by kernel_rfl), hS, hm⟩
          · replace hm := if_f hm hb
            refine wp_skip ?_
            refine block_n ?_
            refine then_n ?_
            exact ⟨n2, hF.weak [0, 1, 5, 6] (by kernel_rfl), hS, hm⟩
        · refine reg [] [] [0, 1, 5, 6, 7, 8] [pl 0 (.slice A1 l1.length c1), pl 1 (.bool crib1), pl 5 (.int .i64 n2), pl 6 (.int .i64 a1), pl 7 (.int .i64 0), pl 8 (.int .i64 0)] hF hS Fol (by kernel_rfl) (by kernel_rfl) (by kernel_rfl) ?_ (fun a w hF hS => ?_)
          · exact obs_nil
          refine wp_block ?_
          refine wp_loop_model (S := (Int × Int)) (R := Int) (gameroomref_ShowOf_L2 l1 a1) (fun x => ((gameroomref_ShowOf_K2 n2 a1) x).bind φ1) r (fun (x : (Int × Int)) a w => Fr 155 [pl 0 (.slice A1 l1.length c1), pl 1 (.bool crib1), pl 5 (.int .i64 n2), pl 6 (.int .i64 a1), pl 7 (.int .i64 x.1), pl 8 (.int .i64 x.2)] a ∧ Sep w0 B w (fs)) (assoc_b hm) ⟨hF.weak [0, 1, 5, 6, 7, 8] (by kernel_rfl), hS⟩ ?_
          clear hF hS hm
          rintro nn2 ⟨sum1, i1⟩ a w ⟨hF, hS⟩ hm
          generalize hφ2 : stK (gameroomref_ShowOf_L2 l1 a1) nn2 (fun x => ((gameroomref_ShowOf_K2 n2 a1) x).bind φ1) = φ2 at hm
          unfold gameroomref_ShowOf_L2 at hm
          dsimp only at hF hS hm
          refine seq_cut (fun a w => Fr 155 [pl 0 (.slice A1 l1.length c1), pl 1 (.bool crib1), pl 5 (.int .i64 n2), pl 6 (.int .i64 a1), pl 7 (.int .i64 sum1), pl 8 (.int .i64 i1)] a ∧ Sep w0 B w (fs) ∧ ((gameroomref_ShowOf_J5 l1 a1 sum1 i1)).bind φ2 = some r) ?_ ?_
          · rintro a w ⟨hF, hS, hm⟩
            unfold gameroomref_ShowOf_J5 at hm
            refine seq_cut (fun a w => ∃ (sum3 : Int), Fr 155 [pl 0 (.slice A1 l1.length c1), pl 1 (.bool crib1), pl 5 (.int .i64 n2), pl 6 (.int .i64 a1), pl 7 (.int .i64 sum3), pl 8 (.int .i64 i1)] a ∧ Sep w0 B w (fs) ∧ ((gameroomref_ShowOf_J6 i1) sum3).bind φ2 = some r) ?_ ?_
            · rintro a w ⟨sum3, hF, hS, hm⟩
              unfold gameroomref_ShowOf_J6 at hm
              refine reg1 [] [] [0, 1, 5, 6, 7, 8] [pl 0 (.slice A1 l1.length c1), pl 1 (.bool crib1), pl 5 (.int .i64 n2), pl 6 (.int .i64 a1), pl 7 (.int .i64 sum3), pl 8 (.int .i64 (w64 (i1 + 1)))] hF hS Fol (by kernel_rfl) (by kernel_rfl) (by kernel_rfl) ?_ (fun a w hF hS => ?_)
              · exact obs_nil
              refine then_n ?_
              rw [← hφ2] at hm
              exact ⟨(sum3, (w64 (i1 + 1))), ⟨hF.weak [0, 1, 5, 6, 7, 8] (by kernel_rfl), hS⟩, hm⟩
            · refine wp_block ?_
              obtain ⟨hp1, hm⟩ := asrt_b hm
              refine reg [⟨true, [], vS (Op.shift .shr .i64 a1 .i64 i1), .int .i64 (shrK .i64 a1 i1)⟩] [none, none, some (.int .i64 (shrK .i64 a1 i1)), none, none] [0, 1, 5, 6, 7, 8, 27] [pl 0 (.slice A1 l1.length c1), pl 1 (.bool crib1), pl 5 (.int .i64 n2), pl 6 (.int .i64 a1), pl 7 (.int .i64 sum1), pl 8 (.int .i64 i1), pl 27 (.bool ((bAnd (shrK .i64 a1 i1) 1) == 1))] hF hS Fol (by kernel_rfl) (by kernel_rfl) (by kernel_rfl) ?_ (fun a w hF hS => ?_)
              · exact obs_cons (ob_shr (fun _ => hp1)) <| obs_nil
              refine cond_ev (t := 27) (b := ((bAnd (shrK .i64 a1 i1) 1) == 1)) hF (by kernel_rfl) (fun hb => ?_) (fun hb => ?_)
              · replace hm := if_t hm hb
                obtain ⟨hp2, hm⟩ := asrt_b hm
                obtain ⟨r1, hr1, hm⟩ := call_b hm
                refine reg1 [⟨true, [], vS (Instr.indexAt 22 (.slice A1 l1.length c1) (.int .i64 i1)), .pointer (some (sAddr A1 i1))⟩, ⟨false, [], vS (Instr.loadAt 3 (.pointer (some (sAddr A1 i1)))), .int .i64 (geti l1 i1)⟩, ⟨false, [], callFunc 129 #[.int .i64 (geti l1 i1)], .int .i64 r1⟩] [none, none, none, some (.pointer (some (sAddr A1 i1))), some (.int .i64 (geti l1 i1)), some (.int .i64 r1), none, none] [0, 1, 5, 6, 7, 8] [pl 0 (.slice A1 l1.length c1), pl 1 (.bool crib1), pl 5 (.int .i64 n2), pl 6 (.int .i64 a1), pl 7 (.int .i64 (w64 (sum1 + r1))), pl 8 (.int .i64 i1)] hF hS Fol (by kernel_rfl) (by kernel_rfl) (by kernel_rfl) ?_ (fun a w hF hS => ?_)
                · exact obs_cons (ob_ix1 (f := (Value.int .i64)) (m := l1) Und22 hi3 hs3 (hr_l1 _ (hS.dropN 0)) rfl (fun _ => hp2)) <| obs_cons (ob_get1 (n := l1.length) (m := l1) (Value.int .i64) (0 : Int) Agg3 (fun _ hS => ⟨_, (hr_l1 _ (hS.dropN 0))⟩) (fun _ hS => rfl) (fun _ => hp2)) <| obs_cons (ob_call Try.func129 (by kernel_rfl) rfl (fun _ _ hS => gameroomref_pointsOf_w hr1 hS )) <| obs_nil
                refine block_n ?_
                refine then_n ?_
                exact ⟨(w64 (sum1 + r1)), hF.weak [0, 1, 5, 6, 7, 8] (by kernel_rfl), hS, hm⟩
              · replace hm := if_f hm hb
                refine wp_skip ?_
                refine block_n ?_
                refine then_n ?_
                exact ⟨sum1, hF.weak [0, 1, 5, 6, 7, 8] (by kernel_rfl), hS, hm⟩
          · refine reg [] [] [0, 1, 5, 6, 7, 8, 20] [pl 0 (.slice A1 l1.length c1), pl 1 (.bool crib1), pl 5 (.int .i64 n2), pl 6 (.int .i64 a1), pl 7 (.int .i64 sum1), pl 8 (.int .i64 i1), pl 20 (.bool (decide (i1 < 5)))] hF hS Fol (by kernel_rfl) (by kernel_rfl) (by kernel_rfl) ?_ (fun a w hF hS => ?_)
            · exact obs_nil
            refine cond_ev (t := 20) (b := decide (i1 < 5)) hF (by kernel_rfl) (fun hb => ?_) (fun hb => ?_)
            · replace hm := if_t hm hb
              refine wp_skip ?_
              refine then_n ?_
              exact ⟨hF.weak [0, 1, 5, 6, 7, 8] (by kernel_rfl), hS, hm⟩
            · replace hm := if_f hm hb
              refine wp_exit ?_
              refine then_e (then_e (block_e (then_n ?_)))
              rw [← hφ2] at hm
              replace hm := done_b hm
              unfold gameroomref_ShowOf_K2 at hm
              try dsimp only at hm
              have hm : ((gameroomref_ShowOf_J4 n2 a1) sum1).bind φ1 = some r := hm
              exact ⟨sum1, hF.weak [0, 1, 5, 6, 7] (by kernel_rfl), hS, hm⟩
    · refine reg [] [] [0, 1, 5, 6, 16] [pl 0 (.slice A1 l1.length c1), pl 1 (.bool crib1), pl 5 (.int .i64 n2), pl 6 (.int .i64 a1), pl 16 (.bool (decide (a1 < 32)))] hF hS Fol (by kernel_rfl) (by kernel_rfl) (by kernel_rfl) ?_ (fun a w hF hS => ?_)
      · exact obs_nil
      refine cond_ev (t := 16) (b := decide (a1 < 32)) hF (by kernel_rfl) (fun hb => ?_) (fun hb => ?_)
      · replace hm := if_t hm hb
        refine wp_skip ?_
        refine then_n ?_
        exact ⟨hF.weak [0, 1, 5, 6] (by kernel_rfl), hS, hm⟩
      · replace hm := if_f hm hb
        refine wp_exit ?_
        refine then_e (then_e (block_e (then_n ?_)))
        rw [← hφ1] at hm
        replace hm := done_b hm
        unfold gameroomref_ShowOf_K1 at hm
        try dsimp only at hm
        have hm : ((gameroomref_ShowOf_J1 l1 crib1) n2).bind some = some r := hm
        exact ⟨n2, hF.weak [0, 1, 5] (by kernel_rfl), hS, hm⟩

noncomputable def gameroomref_lessInts_J3 (i1 : Int) : Option (St Int (Fl Unit Bool)) :=
  some (.next (w64 (i1 + 1)))

noncomputable def gameroomref_lessInts_J2 (a1 : List Int) (b1 : List Int) (i1 : Int) : Option (St Int (Fl Unit Bool)) :=
  asrt (0 ≤ i1 ∧ i1 < (a1.length : Int)) <| asrt (0 ≤ i1 ∧ i1 < (b1.length : Int)) <| if ((geti a1 i1) != (geti b1 i1)) then (asrt (0 ≤ i1 ∧ i1 < (a1.length : Int)) <| asrt (0 ≤ i1 ∧ i1 < (b1.length : Int)) <| some (.done (.ret (decide ((geti a1 i1) < (geti b1 i1)))))) else ((gameroomref_lessInts_J3 i1))

noncomputable def gameroomref_lessInts_J1 (a1 : List Int) (b1 : List Int) : Option Bool :=
  some (decide ((a1.length : Int) < (b1.length : Int)))

noncomputable def gameroomref_lessInts_K1 (a1 : List Int) (b1 : List Int) : (Fl Unit Bool) → Option Bool :=
  fun (x : (Fl Unit Bool)) => match x with | .go _ => (gameroomref_lessInts_J1 a1 b1) | .ret x => some x

noncomputable def gameroomref_lessInts_L1 (a1 : List Int) (b1 : List Int) : Int → Option (St Int (Fl Unit Bool)) :=
  fun (x : Int) => match x with | i1 => if ((decide (i1 < (a1.length : Int))) && (decide (i1 < (b1.length : Int)))) then ((gameroomref_lessInts_J2 a1 b1 i1)) else (some (.done (.go ())))

noncomputable def gameroomref_lessInts_m (a1 : List Int) (b1 : List Int) : Option Bool :=
  (loop (gameroomref_lessInts_L1 a1 b1) 0).bind (gameroomref_lessInts_K1 a1 b1)

set_option maxRecDepth 100000 in
set_option maxHeartbeats 4000000 in
theorem gameroomref_lessInts_w {A1 : Option Addr} {c1 : Nat} {n1 : Nat} {a1 : List Int} {A2 : Option Addr} {c2 : Nat} {n2 : Nat} {b1 : List Int} {r : Bool} {w0 w : World} {B : Nat} {fs : List HP} (hm : gameroomref_lessInts_m a1 b1 = some r) (hS : Sep w0 B w (fs)) (hr_a1 : RdF w0 B fs A1 (vI a1)) (_hc_a1 : a1.length ≤ c1) (_hn_a1 : n1 = a1.length) (hr_b1 : RdF w0 B fs A2 (vI b1)) (_hc_b1 : b1.length ≤ c2) (_hn_b1 : n2 = b1.length) :
    Calls Try.prog 163 #[.slice A1 n1 c1, .slice A2 n2 c2] w fun e w' => e = .returned (.bool r) ∧ Sep w0 B w' (fs) := by
  obtain ⟨i3, hi3, hz3, hs3, hb3⟩ := info_parts Info3
  obtain rfl := _hn_a1
  obtain rfl := _hn_b1
  unfold gameroomref_lessInts_m at hm
  replace hm := start_b hm
  refine enter (l := [.slice A1 a1.length c1, .slice A2 b1.length c2]) (n := 41) Try.func163 rfl rfl (by simp) (fun a hF => ?_)
  refine reg [] [] [0, 1] [pl 0 (.slice A1 a1.length c1), pl 1 (.slice A2 b1.length c2)] hF hS Fol (by kernel_rfl) (by kernel_rfl) (by kernel_rfl) ?_ (fun a w hF hS => ?_)
  · exact obs_nil
  refine seq_cut (fun a w => Fr 41 [pl 0 (.slice A1 a1.length c1), pl 1 (.slice A2 b1.length c2)] a ∧ Sep w0 B w (fs) ∧ ((gameroomref_lessInts_J1 a1 b1)).bind some = some r) ?_ ?_
  · rintro a w ⟨hF, hS, hm⟩
    unfold gameroomref_lessInts_J1 at hm
    refine reg [] [] [4] [pl 4 (.bool (decide ((a1.length : Int) < (b1.length : Int))))] hF hS Fol (by kernel_rfl) (by kernel_rfl) (by kernel_rfl) ?_ (fun a w hF hS => ?_)
    · exact obs_nil
    refine wp_ret ?_
    have hm : some (decide ((a1.length : Int) < (b1.length : Int))) = some r := hm
    obtain rfl := Option.some.inj hm
    exact retV (rs := [.tmp 4]) (vs := [.bool (decide ((a1.length : Int) < (b1.length : Int)))]) hF rfl (rv_t (by kernel_rfl) <| rv_nil) rfl ⟨rfl, hS⟩
  · refine reg [] [] [0, 1, 5] [pl 0 (.slice A1 a1.length c1), pl 1 (.slice A2 b1.length c2), pl 5 (.int .i64 0)] hF hS Fol (by kernel_rfl) (by kernel_rfl) (by kernel_rfl) ?_ (fun a w hF hS => ?_)
    · exact obs_nil
    refine wp_block ?_
    refine wp_loop_model (S := Int) (R := (Fl Unit Bool)) (gameroomref_lessInts_L1 a1 b1) (fun x => ((gameroomref_lessInts_K1 a1 b1) x).bind some) r (fun (x : Int) a w => Fr 41 [pl 0 (.slice A1 a1.length c1), pl 1 (.slice A2 b1.length c2), pl 5 (.int .i64 x)] a ∧ Sep w0 B w (fs)) (assoc_b hm) ⟨hF.weak [0, 1, 5] (by kernel_rfl), hS⟩ ?_
    clear hF hS hm
    rintro nn1 i1 a w ⟨hF, hS⟩ hm
    generalize hφ1 : stK (gameroomref_lessInts_L1 a1 b1) nn1 (fun x => ((gameroomref_lessInts_K1 a1 b1) x).bind some) = φ1 at hm
    unfold gameroomref_lessInts_L1 at hm
    dsimp only at hm
    refine seq_cut (fun a w => Fr 41 [pl 0 (.slice A1 a1.length c1), pl 1 (.slice A2 b1.length c2), pl 5 (.int .i64 i1)] a ∧ Sep w0 B w (fs) ∧ ((gameroomref_lessInts_J2 a1 b1 i1)).bind φ1 = some r) ?_ ?_
    · rintro a w ⟨hF, hS, hm⟩
      unfold gameroomref_lessInts_J2 at hm
      refine seq_cut (fun a w => Fr 41 [pl 0 (.slice A1 a1.length c1), pl 1 (.slice A2 b1.length c2), pl 5 (.int .i64 i1)] a ∧ Sep w0 B w (fs) ∧ ((gameroomref_lessInts_J3 i1)).bind φ1 = some r) ?_ ?_
      · rintro a w ⟨hF, hS, hm⟩
        unfold gameroomref_lessInts_J3 at hm
        refine reg1 [] [] [0, 1, 5] [pl 0 (.slice A1 a1.length c1), pl 1 (.slice A2 b1.length c2), pl 5 (.int .i64 (w64 (i1 + 1)))] hF hS Fol (by kernel_rfl) (by kernel_rfl) (by kernel_rfl) ?_ (fun a w hF hS => ?_)
        · exact obs_nil
        refine then_n ?_
        rw [← hφ1] at hm
        exact ⟨(w64 (i1 + 1)), ⟨hF.weak [0, 1, 5] (by kernel_rfl), hS⟩, hm⟩
      · refine wp_block ?_
        obtain ⟨hp1, hm⟩ := asrt_b hm
        obtain ⟨hp2, hm⟩ := asrt_b hm
        refine reg [⟨true, [], vS (Instr.indexAt 22 (.slice A1 a1.length c1) (.int .i64 i1)), .pointer (some (sAddr A1 i1))⟩, ⟨false, [], vS (Instr.loadAt 3 (.pointer (some (sAddr A1 i1)))), .int .i64 (geti a1 i1)⟩, ⟨true, [], vS (Instr.indexAt 22 (.slice A2 b1.length c2) (.int .i64 i1)), .pointer (some (sAddr A2 i1))⟩, ⟨false, [], vS (Instr.loadAt 3 (.pointer (some (sAddr A2 i1)))), .int .i64 (geti b1 i1)⟩] [none, none, some (.pointer (some (sAddr A1 i1))), some (.int .i64 (geti a1 i1)), none, none, some (.pointer (some (sAddr A2 i1))), some (.int .i64 (geti b1 i1)), none] [0, 1, 5, 26] [pl 0 (.slice A1 a1.length c1), pl 1 (.slice A2 b1.length c2), pl 5 (.int .i64 i1), pl 26 (.bool ((geti a1 i1) != (geti b1 i1)))] hF hS Fol (by kernel_rfl) (by kernel_rfl) (by kernel_rfl) ?_ (fun a w hF hS => ?_)
        · exact obs_cons (ob_ix1 (f := (Value.int .i64)) (m := a1) Und22 hi3 hs3 (hr_a1 _ (hS.dropN 0)) rfl (fun _ => hp1)) <| obs_cons (ob_get1 (n := a1.length) (m := a1) (Value.int .i64) (0 : Int) Agg3 (fun _ hS => ⟨_, (hr_a1 _ (hS.dropN 0))⟩) (fun _ hS => rfl) (fun _ => hp1)) <| obs_cons (ob_ix1 (f := (Value.int .i64)) (m := b1) Und22 hi3 hs3 (hr_b1 _ (hS.dropN 0)) rfl (fun _ => hp2)) <| obs_cons (ob_get1 (n := b1.length) (m := b1) (Value.int .i64) (0 : Int) Agg3 (fun _ hS => ⟨_, (hr_b1 _ (hS.dropN 0))⟩) (fun _ hS => rfl) (fun _ => hp2)) <| obs_nil
        refine cond_ev (t := 26) (b := ((geti a1 i1) != (geti b1 i1))) hF (by kernel_rfl) (fun hb => ?_) (fun hb => ?_)
        · replace hm := if_t hm hb
          obtain ⟨hp3, hm⟩ := asrt_b hm
          obtain ⟨hp4, hm⟩ := asrt_b hm
          refine reg [⟨true, [], vS (Instr.indexAt 22 (.slice A1 a1.length c1) (.int .i64 i1)), .pointer (some (sAddr A1 i1))⟩, ⟨false, [], vS (Instr.loadAt 3 (.pointer (some (sAddr A1 i1)))), .int .i64 (geti a1 i1)⟩, ⟨true, [], vS (Instr.indexAt 22 (.slice A2 b1.length c2) (.int .i64 i1)), .pointer (some (sAddr A2 i1))⟩, ⟨false, [], vS (Instr.loadAt 3 (.pointer (some (sAddr A2 i1)))), .int .i64 (geti b1 i1)⟩] [none, none, some (.pointer (some (sAddr A1 i1))), some (.int .i64 (geti a1 i1)), none, none, some (.pointer (some (sAddr A2 i1))), some (.int .i64 (geti b1 i1)), none, none] [4] [pl 4 (.bool (decide ((geti a1 i1) < (geti b1 i1))))] hF hS Fol (by kernel_rfl) (by kernel_rfl) (by kernel_rfl) ?_ (fun a w hF hS => ?_)
          · exact obs_cons (ob_ix1 (f := (Value.int .i64)) (m := a1) Und22 hi3 hs3 (hr_a1 _ (hS.dropN 0)) rfl (fun _ => hp3)) <| obs_cons (ob_get1 (n := a1.length) (m := a1) (Value.int .i64) (0 : Int) Agg3 (fun _ hS => ⟨_, (hr_a1 _ (hS.dropN 0))⟩) (fun _ hS => rfl) (fun _ => hp3)) <| obs_cons (ob_ix1 (f := (Value.int .i64)) (m := b1) Und22 hi3 hs3 (hr_b1 _ (hS.dropN 0)) rfl (fun _ => hp4)) <| obs_cons (ob_get1 (n := b1.length) (m := b1) (Value.int .i64) (0 : Int) Agg3 (fun _ hS => ⟨_, (hr_b1 _ (hS.dropN 0))⟩) (fun _ hS => rfl) (fun _ => hp4)) <| obs_nil
          refine wp_ret ?_
          refine block_r (then_r (then_r (block_r (then_r ?_))))
          rw [← hφ1] at hm
          replace hm := done_b hm
          unfold gameroomref_lessInts_K1 at hm
          try dsimp only at hm
          have hm : some (decide ((geti a1 i1) < (geti b1 i1))) = some r := hm
          obtain rfl := Option.some.inj hm
          exact retV (rs := [.tmp 4]) (vs := [.bool (decide ((geti a1 i1) < (geti b1 i1)))]) hF rfl (rv_t (by kernel_rfl) <| rv_nil) rfl ⟨rfl, hS⟩
        · replace hm := if_f hm hb
          refine wp_skip ?_
          refine block_n ?_
          refine then_n ?_
          exact ⟨hF.weak [0, 1, 5] (by kernel_rfl), hS, hm⟩
    · refine reg [] [] [0, 1, 5, 15] [pl 0 (.slice A1 a1.length c1), pl 1 (.slice A2 b1.length c2), pl 5 (.int .i64 i1), pl 15 (.bool ((decide (i1 < (a1.length : Int))) && (decide (i1 < (b1.length : Int)))))] hF hS Fol (by kernel_rfl) (by kernel_rfl) (by kernel_rfl) ?_ (fun a w hF hS => ?_)
      · exact obs_nil
      refine cond_ev (t := 15) (b := (decide (i1 < (a1.length : Int))) && (decide (i1 < (b1.length : Int)))) hF (by kernel_rfl) (fun hb => ?_) (fun hb => ?_)
      · replace hm := if_t hm hb
        refine wp_skip ?_
        refine then_n ?_
        exact ⟨hF.weak [0, 1, 5] (by kernel_rfl), hS, hm⟩
      · replace hm := if_f hm hb
        refine wp_exit ?_
        refine then_e (then_e (block_e (then_n ?_)))
        rw [← hφ1] at hm
        replace hm := done_b hm
        unfold gameroomref_lessInts_K1 at hm
        try dsimp only at hm
        have hm : ((gameroomref_lessInts_J1 a1 b1)).bind some = some r := hm
        exact ⟨hF.weak [0, 1] (by kernel_rfl), hS, hm⟩

noncomputable def gameroomref_KeepOf_J8 (i1 : Int) (keep3 : List Int) : Option (St (List Int × Int) (List Int)) :=
  some (.next (keep3, (w64 (i1 + 1))))

noncomputable def gameroomref_KeepOf_J7 (x1 : Int) (y1 : Int) (keep1 : List Int) (i1 : Int) : Option (St (List Int × Int) (List Int)) :=
  if ((i1 != x1) && (i1 != y1)) then (asrt ((keep1.length : Int) + 1 ≤ bigN) <| (gameroomref_KeepOf_J8 i1) (keep1 ++ ([i1] : List Int))) else ((gameroomref_KeepOf_J8 i1) keep1)

noncomputable def gameroomref_KeepOf_J11 (s1 : Int) (sum3 : Int) : Option (St (Int × Int) Int) :=
  some (.next (sum3, (w64 (s1 + 1))))

noncomputable def gameroomref_KeepOf_J10 (l1 : List Int) (keep2 : List Int) (sum1 : Int) (s1 : Int) : Option (St (Int × Int) Int) :=
  (gameroomref_at_m l1 s1).bind fun r1 => if (decide (r1 < 0)) then (asrt (0 ≤ (0 : Int) ∧ (0 : Int) < (keep2.length : Int)) <| asrt (0 ≤ (geti keep2 0) ∧ (geti keep2 0) < (l1.length : Int)) <| asrt (0 ≤ (1 : Int) ∧ (1 : Int) < (keep2.length : Int)) <| asrt (0 ≤ (geti keep2 1) ∧ (geti keep2 1) < (l1.length : Int)) <| asrt (0 ≤ (2 : Int) ∧ (2 : Int) < (keep2.length : Int)) <| asrt (0 ≤ (geti keep2 2) ∧ (geti keep2 2) < (l1.length : Int)) <| asrt (0 ≤ (3 : Int) ∧ (3 : Int) < (keep2.length : Int)) <| asrt (0 ≤ (geti keep2 3) ∧ (geti keep2 3) < (l1.length : Int)) <| (gameroomref_ShowOf_m ([geti l1 (geti keep2 0), geti l1 (geti keep2 1), geti l1 (geti keep2 2), geti l1 (geti keep2 3), s1] : List Int) false).bind fun r2 => (gameroomref_KeepOf_J11 s1) (w64 (sum1 + r2))) else ((gameroomref_KeepOf_J11 s1) sum1)

noncomputable def gameroomref_KeepOf_L4 (l1 : List Int) (keep2 : List Int) : (Int × Int) → Option (St (Int × Int) Int) :=
  fun (x : (Int × Int)) => match x with | (sum1, s1) => if (decide (s1 < 52)) then ((gameroomref_KeepOf_J10 l1 keep2 sum1 s1)) else (some (.done sum1))

noncomputable def gameroomref_KeepOf_J5 (y1 : Int) (best5 : List Int) (most5 : Int) : Option (St (List Int × Int × Int) (List Int × Int)) :=
  some (.next (best5, most5, (w64 (y1 + 1))))

noncomputable def gameroomref_KeepOf_J9 (best3 : List Int) (most3 : Int) (y1 : Int) (keep2 : List Int) (sum2 : Int) : Option (St (List Int × Int × Int) (List Int × Int)) :=
  ((if (sum2 == most3) && (!(decide (most3 < sum2))) then gameroomref_lessInts_m keep2 best3 else some false)).bind fun r3 => if ((decide (most3 < sum2)) || ((sum2 == most3) && r3)) then ((gameroomref_KeepOf_J5 y1) keep2 sum2) else ((gameroomref_KeepOf_J5 y1) best3 most3)

noncomputable def gameroomref_KeepOf_K4 (best3 : List Int) (most3 : Int) (y1 : Int) (keep2 : List Int) : Int → Option (St (List Int × Int × Int) (List Int × Int)) :=
  fun (x : Int) => match x with | sum2 => (gameroomref_KeepOf_J9 best3 most3 y1 keep2) sum2

noncomputable def gameroomref_KeepOf_J6 (l1 : List Int) (best3 : List Int) (most3 : Int) (y1 : Int) (keep2 : List Int) : Option (St (List Int × Int × Int) (List Int × Int)) :=
  (loop (gameroomref_KeepOf_L4 l1 keep2) (0, 0)).bind (gameroomref_KeepOf_K4 best3 most3 y1 keep2)

noncomputable def gameroomref_KeepOf_K3 (l1 : List Int) (best3 : List Int) (most3 : Int) (y1 : Int) : (List Int) → Option (St (List Int × Int × Int) (List Int × Int)) :=
  fun (x : (List Int)) => match x with | keep2 => (gameroomref_KeepOf_J6 l1 best3 most3 y1) keep2

noncomputable def gameroomref_KeepOf_L3 (x1 : Int) (y1 : Int) : (List Int × Int) → Option (St (List Int × Int) (List Int)) :=
  fun (x : (List Int × Int)) => match x with | (keep1, i1) => if (decide (i1 < 6)) then ((gameroomref_KeepOf_J7 x1 y1 keep1 i1)) else (some (.done keep1))

noncomputable def gameroomref_KeepOf_J4 (l1 : List Int) (x1 : Int) (best3 : List Int) (most3 : Int) (y1 : Int) : Option (St (List Int × Int × Int) (List Int × Int)) :=
  (loop (gameroomref_KeepOf_L3 x1 y1) (([] : List Int), 0)).bind (gameroomref_KeepOf_K3 l1 best3 most3 y1)

noncomputable def gameroomref_KeepOf_J3 (x1 : Int) (best4 : List Int) (most4 : Int) : Option (St (List Int × Int × Int) (List Int × Int)) :=
  some (.next (best4, most4, (w64 (x1 + 1))))

noncomputable def gameroomref_KeepOf_K2 (x1 : Int) : (List Int × Int) → Option (St (List Int × Int × Int) (List Int × Int)) :=
  fun (x : (List Int × Int)) => match x with | (best4, most4) => (gameroomref_KeepOf_J3 x1) best4 most4

noncomputable def gameroomref_KeepOf_L2 (l1 : List Int) (x1 : Int) : (List Int × Int × Int) → Option (St (List Int × Int × Int) (List Int × Int)) :=
  fun (x : (List Int × Int × Int)) => match x with | (best3, most3, y1) => if (decide (y1 < x1)) then ((gameroomref_KeepOf_J4 l1 x1 best3 most3 y1)) else (some (.done (best3, most3)))

noncomputable def gameroomref_KeepOf_J2 (l1 : List Int) (best1 : List Int) (most1 : Int) (x1 : Int) : Option (St (List Int × Int × Int) (List Int × Int)) :=
  (loop (gameroomref_KeepOf_L2 l1 x1) (best1, most1, 0)).bind (gameroomref_KeepOf_K2 x1)

noncomputable def gameroomref_KeepOf_J1 (l1 : List Int) (best2 : List Int) (most2 : Int) : Option (List Int × Int) :=
  asrt (0 ≤ (0 : Int) ∧ (0 : Int) < (best2.length : Int)) <| asrt (0 ≤ (geti best2 0) ∧ (geti best2 0) < (l1.length : Int)) <| asrt (0 ≤ (1 : Int) ∧ (1 : Int) < (best2.length : Int)) <| asrt (0 ≤ (geti best2 1) ∧ (geti best2 1) < (l1.length : Int)) <| asrt (0 ≤ (2 : Int) ∧ (2 : Int) < (best2.length : Int)) <| asrt (0 ≤ (geti best2 2) ∧ (geti best2 2) < (l1.length : Int)) <| asrt (0 ≤ (3 : Int) ∧ (3 : Int) < (best2.length : Int)) <| asrt (0 ≤ (geti best2 3) ∧ (geti best2 3) < (l1.length : Int)) <| some (([geti l1 (geti best2 0), geti l1 (geti best2 1), geti l1 (geti best2 2), geti l1 (geti best2 3)] : List Int), most2)

noncomputable def gameroomref_KeepOf_K1 (l1 : List Int) : (List Int × Int) → Option (List Int × Int) :=
  fun (x : (List Int × Int)) => match x with | (best2, most2) => (gameroomref_KeepOf_J1 l1) best2 most2

noncomputable def gameroomref_KeepOf_L1 (l1 : List Int) : (List Int × Int × Int) → Option (St (List Int × Int × Int) (List Int × Int)) :=
  fun (x : (List Int × Int × Int)) => match x with | (best1, most1, x1) => if (decide (x1 < 6)) then ((gameroomref_KeepOf_J2 l1 best1 most1 x1)) else (some (.done (best1, most1)))

noncomputable def gameroomref_KeepOf_m (l1 : List Int) : Option (List Int × Int) :=
  (loop (gameroomref_KeepOf_L1 l1) (([] : List Int), (-1), 0)).bind (gameroomref_KeepOf_K1 l1)

set_option maxRecDepth 100000 in
set_option maxHeartbeats 4000000 in
theorem gameroomref_KeepOf_w {A1 : Option Addr} {c1 : Nat} {n1 : Nat} {l1 : List Int} {r : (List Int × Int)} {w0 w : World} {B : Nat} {fs : List HP} (hm : gameroomref_KeepOf_m l1 = some r) (hS : Sep w0 B w (fs)) (hr_l1 : RdF w0 B fs A1 (vI l1)) (_hc_l1 : l1.length ≤ c1) (_hn_l1 : n1 = l1.length) :
    Calls Try.prog 82 #[.slice A1 n1 c1] w fun e w' => ∃ v, e = .returned v ∧ ∃ (A11 : Option Addr) (c11 : Nat), v = .tuple #[.slice A11 r.1.length c11, .int .i64 r.2] ∧ Sep w0 B w' (own 3 (.slice A11 r.1.length c11) (vI r.1) :: fs) := by
  obtain ⟨i3, hi3, hz3, hs3, hb3⟩ := info_parts Info3
  obtain rfl := _hn_l1
  unfold gameroomref_KeepOf_m at hm
  replace hm := start_b hm
  refine enter (l := [.slice A1 l1.length c1]) (n := 115) Try.func82 rfl rfl (by simp) (fun a hF => ?_)
  refine reg [] [] [0] [pl 0 (.slice A1 l1.length c1)] hF hS Fol (by kernel_rfl) (by kernel_rfl) (by kernel_rfl) ?_ (fun a w hF hS => ?_)
  · exact obs_nil
  refine reg [] [] [0, 4] [pl 0 (.slice A1 l1.length c1), pl 4 (.slice none 0 0)] hF hS Fol (by kernel_rfl) (by kernel_rfl) (by kernel_rfl) ?_ (fun a w hF hS => ?_)
  · exact obs_nil
  refine reg [] [] [0, 4, 5] [pl 0 (.slice A1 l1.length c1), pl 4 (.slice none 0 0), pl 5 (.int .i64 (-1))] hF hS Fol (by kernel_rfl) (by kernel_rfl) (by kernel_rfl) ?_ (fun a w hF hS => ?_)
  · exact obs_nil
  refine seq_cut (fun a w => ∃ (best2 : List Int) (most2 : Int) (A3 : Option Addr) (c3 : Nat), Fr 115 [pl 0 (.slice A1 l1.length c1), pl 4 (.slice A3 best2.length c3), pl 5 (.int .i64 most2)] a ∧ Sep w0 B w (own 3 (.slice A3 best2.length c3) (vI best2) :: fs) ∧ ((gameroomref_KeepOf_J1 l1) best2 most2).bind some = some r) ?_ ?_
  · rintro a w ⟨best2, most2, A3, c3, hF, hS, hm⟩
    unfold gameroomref_KeepOf_J1 at hm
    refine wp_seq ?_
    obtain ⟨hp10, hm⟩ := asrt_b hm
    obtain ⟨hp11, hm⟩ := asrt_b hm
    obtain ⟨hp12, hm⟩ := asrt_b hm
    obtain ⟨hp13, hm⟩ := asrt_b hm
    obtain ⟨hp14, hm⟩ := asrt_b hm
    obtain ⟨hp15, hm⟩ := asrt_b hm
    obtain ⟨hp16, hm⟩ := asrt_b hm
    obtain ⟨hp17, hm⟩ := asrt_b hm
    refine regMix4 [0, 1, 2, 3, 4, 5, 6, 7, 8, 9, 10, 11, 12, 13, 14, 15, 16, 17, 18, 19, 20, 21, 22, 23, 25] [24, 26, 27] [⟨true, [], vS (Instr.indexAt 22 (.slice A3 best2.length c3) (.int .i64 0)), .pointer (some (sAddr A3 0))⟩, ⟨false, [], vS (Instr.loadAt 3 (.pointer (some (sAddr A3 0)))), .int .i64 (geti best2 0)⟩, ⟨true, [], vS (Instr.indexAt 22 (.slice A1 l1.length c1) (.int .i64 (geti best2 0))), .pointer (some (sAddr A1 (geti best2 0)))⟩, ⟨false, [], vS (Instr.loadAt 3 (.pointer (some (sAddr A1 (geti best2 0))))), .int .i64 (geti l1 (geti best2 0))⟩, ⟨true, [], vS (Instr.indexAt 22 (.slice A3 best2.length c3) (.int .i64 1)), .pointer (some (sAddr A3 1))⟩, ⟨false, [], vS (Instr.loadAt 3 (.pointer (some (sAddr A3 1)))), .int .i64 (geti best2 1)⟩, ⟨true, [], vS (Instr.indexAt 22 (.slice A1 l1.length c1) (.int .i64 (geti best2 1))), .pointer (some (sAddr A1 (geti best2 1)))⟩, ⟨false, [], vS (Instr.loadAt 3 (.pointer (some (sAddr A1 (geti best2 1))))), .int .i64 (geti l1 (geti best2 1))⟩, ⟨true, [], vS (Instr.indexAt 22 (.slice A3 best2.length c3) (.int .i64 2)), .pointer (some (sAddr A3 2))⟩, ⟨false, [], vS (Instr.loadAt 3 (.pointer (some (sAddr A3 2)))), .int .i64 (geti best2 2)⟩, ⟨true, [], vS (Instr.indexAt 22 (.slice A1 l1.length c1) (.int .i64 (geti best2 2))), .pointer (some (sAddr A1 (geti best2 2)))⟩, ⟨false, [], vS (Instr.loadAt 3 (.pointer (some (sAddr A1 (geti best2 2))))), .int .i64 (geti l1 (geti best2 2))⟩, ⟨true, [], vS (Instr.indexAt 22 (.slice A3 best2.length c3) (.int .i64 3)), .pointer (some (sAddr A3 3))⟩, ⟨false, [], vS (Instr.loadAt 3 (.pointer (some (sAddr A3 3)))), .int .i64 (geti best2 3)⟩, ⟨true, [], vS (Instr.indexAt 22 (.slice A1 l1.length c1) (.int .i64 (geti best2 3))), .pointer (some (sAddr A1 (geti best2 3)))⟩, ⟨false, [], vS (Instr.loadAt 3 (.pointer (some (sAddr A1 (geti best2 3))))), .int .i64 (geti l1 (geti best2 3))⟩] [none, none, some (.pointer (some (sAddr A3 0))), some (.int .i64 (geti best2 0)), some (.pointer (some (sAddr A1 (geti best2 0)))), some (.int .i64 (geti l1 (geti best2 0))), none, none, some (.pointer (some (sAddr A3 1))), some (.int .i64 (geti best2 1)), some (.pointer (some (sAddr A1 (geti best2 1)))), some (.int .i64 (geti l1 (geti best2 1))), none, none, some (.pointer (some (sAddr A3 2))), some (.int .i64 (geti best2 2)), some (.pointer (some (sAddr A1 (geti best2 2)))), some (.int .i64 (geti l1 (geti best2 2))), none, none, some (.pointer (some (sAddr A3 3))), some (.int .i64 (geti best2 3)), some (.pointer (some (sAddr A1 (geti best2 3)))), some (.int .i64 (geti l1 (geti best2 3))), none] [94, 100, 106, 112, 114] [pl 94 (.int .i64 (geti l1 (geti best2 0))), pl 100 (.int .i64 (geti l1 (geti best2 1))), pl 106 (.int .i64 (geti l1 (geti best2 2))), pl 112 (.int .i64 (geti l1 (geti best2 3))), pl 114 (.int .i64 most2)] hF hS Fol (by kernel_rfl) (by kernel_rfl) (by kernel_rfl) (by kernel_rfl) (by kernel_rfl) ?_ (fun a w hF hS => ?_)
    · exact obs_cons (ob_ix1 (f := (Value.int .i64)) (m := best2) Und22 hi3 hs3 (hS.at_ 0 rfl).rd rfl (fun _ => hp10)) <| obs_cons (ob_get1 (n := best2.length) (m := best2) (Value.int .i64) (0 : Int) Agg3 (fun _ hS => ⟨_, (hS.at_ 0 rfl).rd⟩) (fun _ hS => rfl) (fun _ => hp10)) <| obs_cons (ob_ix1 (f := (Value.int .i64)) (m := l1) Und22 hi3 hs3 (hr_l1 _ (hS.dropN 1)) rfl (fun _ => hp11)) <| obs_cons (ob_get1 (n := l1.length) (m := l1) (Value.int .i64) (0 : Int) Agg3 (fun _ hS => ⟨_, (hr_l1 _ (hS.dropN 1))⟩) (fun _ hS => rfl) (fun _ => hp11)) <| obs_cons (ob_ix1 (f := (Value.int .i64)) (m := best2) Und22 hi3 hs3 (hS.at_ 0 rfl).rd rfl (fun _ => hp12)) <| obs_cons (ob_get1 (n := best2.length) (m := best2) (Value.int .i64) (0 : Int) Agg3 (fun _ hS => ⟨_, (hS.at_ 0 rfl).rd⟩) (fun _ hS => rfl) (fun _ => hp12)) <| obs_cons (ob_ix1 (f := (Value.int .i64)) (m := l1) Und22 hi3 hs3 (hr_l1 _ (hS.dropN 1)) rfl (fun _ => hp13)) <| obs_cons (ob_get1 (n := l1.length) (m := l1) (Value.int .i64) (0 : Int) Agg3 (fun _ hS => ⟨_, (hr_l1 _ (hS.dropN 1))⟩) (fun _ hS => rfl) (fun _ => hp13)) <| obs_cons (ob_ix1 (f := (Value.int .i64)) (m := best2) Und22 hi3 hs3 (hS.at_ 0 rfl).rd rfl (fun _ => hp14)) <| obs_cons (ob_get1 (n := best2.length) (m := best2) (Value.int .i64) (0 : Int) Agg3 (fun _ hS => ⟨_, (hS.at_ 0 rfl).rd⟩) (fun _ hS => rfl) (fun _ => hp14)) <| obs_cons (ob_ix1 (f := (Value.int .i64)) (m := l1) Und22 hi3 hs3 (hr_l1 _ (hS.dropN 1)) rfl (fun _ => hp15)) <| obs_cons (ob_get1 (n := l1.length) (m := l1) (Value.int .i64) (0 : Int) Agg3 (fun _ hS => ⟨_, (hr_l1 _ (hS.dropN 1))⟩) (fun _ hS => rfl) (fun _ => hp15)) <| obs_cons (ob_ix1 (f := (Value.int .i64)) (m := best2) Und22 hi3 hs3 (hS.at_ 0 rfl).rd rfl (fun _ => hp16)) <| obs_cons (ob_get1 (n := best2.length) (m := best2) (Value.int .i64) (0 : Int) Agg3 (fun _ hS => ⟨_, (hS.at_ 0 rfl).rd⟩) (fun _ hS => rfl) (fun _ => hp16)) <| obs_cons (ob_ix1 (f := (Value.int .i64)) (m := l1) Und22 hi3 hs3 (hr_l1 _ (hS.dropN 1)) rfl (fun _ => hp17)) <| obs_cons (ob_get1 (n := l1.length) (m := l1) (Value.int .i64) (0 : Int) Agg3 (fun _ hS => ⟨_, (hr_l1 _ (hS.dropN 1))⟩) (fun _ hS => rfl) (fun _ => hp17)) <| obs_nil
    refine at_do (d := 113) (s := vS (Instr.buildSlice 22 4 #[(0, .int .i64 (geti l1 (geti best2 0))), (1, .int .i64 (geti l1 (geti best2 1))), (2, .int .i64 (geti l1 (geti best2 2))), (3, .int .i64 (geti l1 (geti best2 3)))])) (v := .slice (some ⟨w.heap.size, 0, none⟩) 4 4) (w' := w.alloc (.cells #[.int .i64 (geti l1 (geti best2 0)), .int .i64 (geti l1 (geti best2 1)), .int .i64 (geti l1 (geti best2 2)), .int .i64 (geti l1 (geti best2 3))] 3)) hF (by kernel_rfl) (by kernel_rfl) (by kernel_rfl) (fun a hF => ?_)
    have hS : Sep w0 B (w.alloc (.cells #[.int .i64 (geti l1 (geti best2 0)), .int .i64 (geti l1 (geti best2 1)), .int .i64 (geti l1 (geti best2 2)), .int .i64 (geti l1 (geti best2 3))] 3)) (own 3 (.slice (some (⟨w.heap.size, 0, none⟩ : Addr)) 4 4) (vI ([geti l1 (geti best2 0), geti l1 (geti best2 1), geti l1 (geti best2 2), geti l1 (geti best2 3)] : List Int)) :: (own 3 (.slice A3 best2.length c3) (vI best2) :: fs)) := hS.lit 3 #[.int .i64 (geti l1 (geti best2 0)), .int .i64 (geti l1 (geti best2 1)), .int .i64 (geti l1 (geti best2 2)), .int .i64 (geti l1 (geti best2 3))] 4 rfl (by omega)
    generalize (some (⟨w.heap.size, 0, none⟩ : Addr)) = g3 at hF hS
    generalize w.alloc (.cells #[.int .i64 (geti l1 (geti best2 0)), .int .i64 (geti l1 (geti best2 1)), .int .i64 (geti l1 (geti best2 2)), .int .i64 (geti l1 (geti best2 3))] 3) = w at hS ⊢
    refine at_run 2 [] [] [2, 3] [pl 2 (.slice g3 4 4), pl 3 (.int .i64 most2)] hF hS (by kernel_rfl) (by kernel_rfl) ?_ (fun a w hF hS => ?_)
    · exact obs_nil
    refine at_end [2, 3] [pl 2 (.slice g3 4 4), pl 3 (.int .i64 most2)] hF rfl (by kernel_rfl) (fun hF => ?_)
    refine np_n ?_
    refine then_n ?_
    refine wp_ret ?_
    have hl3 := (hS.at_ 0 rfl).len1
    have hS := (hS.at_ 0 rfl).reN hl3
    have hS : Sep w0 B w (own 3 (.slice g3 (([geti l1 (geti best2 0), geti l1 (geti best2 1), geti l1 (geti best2 2), geti l1 (geti best2 3)] : List Int).length) 4) (vI ([geti l1 (geti best2 0), geti l1 (geti best2 1), geti l1 (geti best2 2), geti l1 (geti best2 3)] : List Int)) :: own 3 (.slice A3 best2.length c3) (vI best2) :: fs) := hS
    have hF := hF.cast (t := 2) (v := .slice g3 4 4) (v' := .slice g3 (([geti l1 (geti best2 0), geti l1 (geti best2 1), geti l1 (geti best2 2), geti l1 (geti best2 3)] : List Int).length) 4) rfl rfl (congrArg (fun k => Value.slice g3 k 4) hl3)
    have hS := hS.pickN 2 [0] (by decide)
    have hm : some (([geti l1 (geti best2 0), geti l1 (geti best2 1), geti l1 (geti best2 2), geti l1 (geti best2 3)] : List Int), most2) = some r := hm
    obtain rfl := Option.some.inj hm
    exact retV (rs := [.tmp 2, .tmp 3]) (vs := [.slice g3 (([geti l1 (geti best2 0), geti l1 (geti best2 1), geti l1 (geti best2 2), geti l1 (geti best2 3)] : List Int).length) 4, .int .i64 most2]) hF rfl (rv_t (by kernel_rfl) <| rv_t (by kernel_rfl) <| rv_nil) rfl ⟨_, rfl, g3, 4, rfl, hS⟩
  · refine reg [] [] [0, 4, 5, 6] [pl 0 (.slice A1 l1.length c1), pl 4 (.slice none 0 0), pl 5 (.int .i64 (-1)), pl 6 (.int .i64 0)] hF hS Fol (by kernel_rfl) (by kernel_rfl) (by kernel_rfl) ?_ (fun a w hF hS => ?_)
    · exact obs_nil
    refine wp_block ?_
    have hS : Sep w0 B w (own 3 (.slice none 0 0) (vI ([] : List Int)) :: fs) := hS.nil 3
    have hl1 := (hS.at_ 0 rfl).len1
    have hS := (hS.at_ 0 rfl).reN hl1
    have hS : Sep w0 B w (own 3 (.slice none (([] : List Int).length) 0) (vI ([] : List Int)) :: fs) := hS
    have hF := hF.cast (t := 4) (v := .slice none 0 0) (v' := .slice none (([] : List Int).length) 0) rfl rfl (congrArg (fun k => Value.slice none k 0) hl1)
    refine wp_loop_model (S := (List Int × Int × Int)) (R := (List Int × Int)) (gameroomref_KeepOf_L1 l1) (fun x => ((gameroomref_KeepOf_K1 l1) x).bind some) r (fun (x : (List Int × Int × Int)) a w => ∃ (A2 : Option Addr) (c2 : Nat), Fr 115 [pl 0 (.slice A1 l1.length c1), pl 4 (.slice A2 x.1.length c2), pl 5 (.int .i64 x.2.1), pl 6 (.int .i64 x.2.2)] a ∧ Sep w0 B w (own 3 (.slice A2 x.1.length c2) (vI x.1) :: fs)) (assoc_b hm) ⟨none, 0, hF.weak [0, 4, 5, 6] (by kernel_rfl), hS⟩ ?_
    clear hF hS hm
    rintro nn1 ⟨best1, most1, x1⟩ a w ⟨A2, c2, hF, hS⟩ hm
    generalize hφ1 : stK (gameroomref_KeepOf_L1 l1) nn1 (fun x => ((gameroomref_KeepOf_K1 l1) x).bind some) = φ1 at hm
    unfold gameroomref_KeepOf_L1 at hm
    dsimp only at hF hS hm
    refine seq_cut (fun a w => Fr 115 [pl 0 (.slice A1 l1.length c1), pl 4 (.slice A2 best1.length c2), pl 5 (.int .i64 most1), pl 6 (.int .i64 x1)] a ∧ Sep w0 B w (own 3 (.slice A2 best1.length c2) (vI best1) :: fs) ∧ ((gameroomref_KeepOf_J2 l1 best1 most1 x1)).bind φ1 = some r) ?_ ?_
    · rintro a w ⟨hF, hS, hm⟩
      unfold gameroomref_KeepOf_J2 at hm
      refine seq_cut (fun a w => ∃ (best4 : List Int) (most4 : Int) (A5 : Option Addr) (c5 : Nat), Fr 115 [pl 0 (.slice A1 l1.length c1), pl 4 (.slice A5 best4.length c5), pl 5 (.int .i64 most4), pl 6 (.int .i64 x1)] a ∧ Sep w0 B w (own 3 (.slice A5 best4.length c5) (vI best4) :: fs) ∧ ((gameroomref_KeepOf_J3 x1) best4 most4).bind φ1 = some r) ?_ ?_
      · rintro a w ⟨best4, most4, A5, c5, hF, hS, hm⟩
        unfold gameroomref_KeepOf_J3 at hm
        refine reg1 [] [] [0, 4, 5, 6] [pl 0 (.slice A1 l1.length c1), pl 4 (.slice A5 best4.length c5), pl 5 (.int .i64 most4), pl 6 (.int .i64 (w64 (x1 + 1)))] hF hS Fol (by kernel_rfl) (by kernel_rfl) (by kernel_rfl) ?_ (fun a w hF hS => ?_)
        · exact obs_nil
        refine then_n ?_
        rw [← hφ1] at hm
        exact ⟨(best4, most4, (w64 (x1 + 1))), ⟨A5, c5, hF.weak [0, 4, 5, 6] (by kernel_rfl), hS⟩, hm⟩
      · refine wp_block ?_
        refine reg [] [] [0, 4, 5, 6, 7] [pl 0 (.slice A1 l1.length c1), pl 4 (.slice A2 best1.length c2), pl 5 (.int .i64 most1), pl 6 (.int .i64 x1), pl 7 (.int .i64 0)] hF hS Fol (by kernel_rfl) (by kernel_rfl) (by kernel_rfl) ?_ (fun a w hF hS => ?_)
        · exact obs_nil
        refine wp_block ?_
        refine wp_loop_model (S := (List Int × Int × Int)) (R := (List Int × Int)) (gameroomref_KeepOf_L2 l1 x1) (fun x => ((gameroomref_KeepOf_K2 x1) x).bind φ1) r (fun (x : (List Int × Int × Int)) a w => ∃ (A4 : Option Addr) (c4 : Nat), Fr 115 [pl 0 (.slice A1 l1.length c1), pl 4 (.slice A4 x.1.length c4), pl 5 (.int .i64 x.2.1), pl 6 (.int .i64 x1), pl 7 (.int .i64 x.2.2)] a ∧ Sep w0 B w (own 3 (.slice A4 x.1.length c4) (vI x.1) :: fs)) (assoc_b hm) ⟨A2, c2, hF.weak [0, 4, 5, 6, 7] (by kernel_rfl), hS⟩ ?_
        clear hF hS hm
        rintro nn2 ⟨best3, most3, y1⟩ a w ⟨A4, c4, hF, hS⟩ hm
        generalize hφ2 : stK (gameroomref_KeepOf_L2 l1 x1) nn2 (fun x => ((gameroomref_KeepOf_K2 x1) x).bind φ1) = φ2 at hm
        unfold gameroomref_KeepOf_L2 at hm
        dsimp only at hF hS hm
        refine seq_cut (fun a w => Fr 115 [pl 0 (.slice A1 l1.length c1), pl 4 (.slice A4 best3.length c4), pl 5 (.int .i64 most3), pl 6 (.int .i64 x1), pl 7 (.int .i64 y1)] a ∧ Sep w0 B w (own 3 (.slice A4 best3.length c4) (vI best3) :: fs) ∧ ((gameroomref_KeepOf_J4 l1 x1 best3 most3 y1)).bind φ2 = some r) ?_ ?_
        · rintro a w ⟨hF, hS, hm⟩
          unfold gameroomref_KeepOf_J4 at hm
          refine seq_cut (fun a w => ∃ (best5 : List Int) (most5 : Int) (A10 : Option Addr) (c10 : Nat), Fr 115 [pl 0 (.slice A1 l1.length c1), pl 4 (.slice A10 best5.length c10), pl 5 (.int .i64 most5), pl 6 (.int .i64 x1), pl 7 (.int .i64 y1)] a ∧ Sep w0 B w (own 3 (.slice A10 best5.length c10) (vI best5) :: fs) ∧ ((gameroomref_KeepOf_J5 y1) best5 most5).bind φ2 = some r) ?_ ?_
          · rintro a w ⟨best5, most5, A10, c10, hF, hS, hm⟩
            unfold gameroomref_KeepOf_J5 at hm
            refine reg1 [] [] [0, 4, 5, 6, 7] [pl 0 (.slice A1 l1.length c1), pl 4 (.slice A10 best5.length c10), pl 5 (.int .i64 most5), pl 6 (.int .i64 x1), pl 7 (.int .i64 (w64 (y1 + 1)))] hF hS Fol (by kernel_rfl) (by kernel_rfl) (by kernel_rfl) ?_ (fun a w hF hS => ?_)
            · exact obs_nil
            refine then_n ?_
            rw [← hφ2] at hm
            exact ⟨(best5, most5, (w64 (y1 + 1))), ⟨A10, c10, hF.weak [0, 4, 5, 6, 7] (by kernel_rfl), hS⟩, hm⟩
          · refine wp_block ?_
            refine reg [] [] [0, 4, 5, 6, 7, 8] [pl 0 (.slice A1 l1.length c1), pl 4 (.slice A4 best3.length c4), pl 5 (.int .i64 most3), pl 6 (.int .i64 x1), pl 7 (.int .i64 y1), pl 8 (.slice none 0 0)] hF hS Fol (by kernel_rfl) (by kernel_rfl) (by kernel_rfl) ?_ (fun a w hF hS => ?_)
            · exact obs_nil
            refine seq_cut (fun a w => ∃ (keep2 : List Int) (A7 : Option Addr) (c7 : Nat), Fr 115 [pl 0 (.slice A1 l1.length c1), pl 4 (.slice A4 best3.length c4), pl 5 (.int .i64 most3), pl 6 (.int .i64 x1), pl 7 (.int .i64 y1), pl 8 (.slice A7 keep2.length c7)] a ∧ Sep w0 B w (own 3 (.slice A4 best3.length c4) (vI best3) :: own 3 (.slice A7 keep2.length c7) (vI keep2) :: fs) ∧ ((gameroomref_KeepOf_J6 l1 best3 most3 y1) keep2).bind φ2 = some r) ?_ ?_
            · rintro a w ⟨keep2, A7, c7, hF, hS, hm⟩
              unfold gameroomref_KeepOf_J6 at hm
              refine reg [] [] [0, 4, 5, 6, 7, 8, 10] [pl 0 (.slice A1 l1.length c1), pl 4 (.slice A4 best3.length c4), pl 5 (.int .i64 most3), pl 6 (.int .i64 x1), pl 7 (.int .i64 y1), pl 8 (.slice A7 keep2.length c7), pl 10 (.int .i64 0)] hF hS Fol (by kernel_rfl) (by kernel_rfl) (by kernel_rfl) ?_ (fun a w hF hS => ?_)
              · exact obs_nil
              refine seq_cut (fun a w => ∃ (sum2 : Int), Fr 115 [pl 0 (.slice A1 l1.length c1), pl 4 (.slice A4 best3.length c4), pl 5 (.int .i64 most3), pl 6 (.int .i64 x1), pl 7 (.int .i64 y1), pl 8 (.slice A7 keep2.length c7), pl 10 (.int .i64 sum2)] a ∧ Sep w0 B w (own 3 (.slice A4 best3.length c4) (vI best3) :: own 3 (.slice A7 keep2.length c7) (vI keep2) :: fs) ∧ ((gameroomref_KeepOf_J9 best3 most3 y1 keep2) sum2).bind φ2 = some r) ?_ ?_
              · rintro a w ⟨sum2, hF, hS, hm⟩
                unfold gameroomref_KeepOf_J9 at hm
                obtain ⟨r3, hr3, hm⟩ := call_b hm
                refine reg [⟨false, [((sum2 == most3), true), (decide (most3 < sum2), false)], callFunc 163 #[.slice A7 keep2.length c7, .slice A4 best3.length c4], .bool r3⟩] [none, none, none, none, none, none, none, none, none, none, some (.bool r3), none, none] [0, 4, 5, 6, 7, 8, 10, 86] [pl 0 (.slice A1 l1.length c1), pl 4 (.slice A4 best3.length c4), pl 5 (.int .i64 most3), pl 6 (.int .i64 x1), pl 7 (.int .i64 y1), pl 8 (.slice A7 keep2.length c7), pl 10 (.int .i64 sum2), pl 86 (.bool ((decide (most3 < sum2)) || ((sum2 == most3) && r3)))] hF hS Fol (by kernel_rfl) (by kernel_rfl) (by kernel_rfl) ?_ (fun a w hF hS => ?_)
                · exact obs_cons (ob_call Try.func163 (by kernel_rfl) rfl (fun hy _ hS => gameroomref_lessInts_w (ite_some hr3 (by rw [show (sum2 == most3) = true from hy ((sum2 == most3), true) (by simp), show (decide (most3 < sum2)) = false from hy (decide (most3 < sum2), false) (by simp)]; try rfl)) hS (fun _ hS => (hS.at_ 1 rfl).rd) ((hS.at_ 1 rfl).cap1) rfl (fun _ hS => (hS.at_ 0 rfl).rd) ((hS.at_ 0 rfl).cap1) rfl)) <| obs_nil
                refine cond_ev (t := 86) (b := (decide (most3 < sum2)) || ((sum2 == most3) && r3)) hF (by kernel_rfl) (fun hb => ?_) (fun hb => ?_)
                · replace hm := if_t hm hb
                  refine reg [] [] [0, 5, 6, 7, 8] [pl 0 (.slice A1 l1.length c1), pl 5 (.int .i64 sum2), pl 6 (.int .i64 x1), pl 7 (.int .i64 y1), pl 8 (.slice A7 keep2.length c7)] hF hS Fol (by kernel_rfl) (by kernel_rfl) (by kernel_rfl) ?_ (fun a w hF hS => ?_)
                  · exact obs_nil
                  refine reg1 [] [] [0, 4, 5, 6, 7] [pl 0 (.slice A1 l1.length c1), pl 4 (.slice A7 keep2.length c7), pl 5 (.int .i64 sum2), pl 6 (.int .i64 x1), pl 7 (.int .i64 y1)] hF hS Fol (by kernel_rfl) (by kernel_rfl) (by kernel_rfl) ?_ (fun a w hF hS => ?_)
                  · exact obs_nil
                  refine block_n ?_
                  refine then_n ?_
                  have hS := hS.pickN 2 [1] (by decide)
                  exact ⟨keep2, sum2, A7, c7, hF.weak [0, 4, 5, 6, 7] (by kernel_rfl), hS, hm⟩
                · replace hm := if_f hm hb
                  refine wp_skip ?_
                  refine block_n ?_
                  refine then_n ?_
                  have hS := hS.pickN 2 [0] (by decide)
                  exact ⟨best3, most3, A4, c4, hF.weak [0, 4, 5, 6, 7] (by kernel_rfl), hS, hm⟩
              · refine reg [] [] [0, 4, 5, 6, 7, 8, 10, 11] [pl 0 (.slice A1 l1.length c1), pl 4 (.slice A4 best3.length c4), pl 5 (.int .i64 most3), pl 6 (.int .i64 x1), pl 7 (.int .i64 y1), pl 8 (.slice A7 keep2.length c7), pl 10 (.int .i64 0), pl 11 (.int .i64 0)] hF hS Fol (by kernel_rfl) (by kernel_rfl) (by kernel_rfl) ?_ (fun a w hF hS => ?_)
                · exact obs_nil
                refine wp_block ?_
                refine wp_loop_model (S := (Int × Int)) (R := Int) (gameroomref_KeepOf_L4 l1 keep2) (fun x => ((gameroomref_KeepOf_K4 best3 most3 y1 keep2) x).bind φ2) r (fun (x : (Int × Int)) a w => Fr 115 [pl 0 (.slice A1 l1.length c1), pl 4 (.slice A4 best3.length c4), pl 5 (.int .i64 most3), pl 6 (.int .i64 x1), pl 7 (.int .i64 y1), pl 8 (.slice A7 keep2.length c7), pl 10 (.int .i64 x.1), pl 11 (.int .i64 x.2)] a ∧ Sep w0 B w (own 3 (.slice A4 best3.length c4) (vI best3) :: own 3 (.slice A7 keep2.length c7) (vI keep2) :: fs)) (assoc_b hm) ⟨hF.weak [0, 4, 5, 6, 7, 8, 10, 11] (by kernel_rfl), hS⟩ ?_
                clear hF hS hm
                rintro nn4 ⟨sum1, s1⟩ a w ⟨hF, hS⟩ hm
                generalize hφ4 : stK (gameroomref_KeepOf_L4 l1 keep2) nn4 (fun x => ((gameroomref_KeepOf_K4 best3 most3 y1 keep2) x).bind φ2) = φ4 at hm
                unfold gameroomref_KeepOf_L4 at hm
                dsimp only at hF hS hm
                refine seq_cut (fun a w => Fr 115 [pl 0 (.slice A1 l1.length c1), pl 4 (.slice A4 best3.length c4), pl 5 (.int .i64 most3), pl 6 (.int .i64 x1), pl 7 (.int .i64 y1), pl 8 (.slice A7 keep2.length c7), pl 10 (.int .i64 sum1), pl 11 (.int .i64 s1)] a ∧ Sep w0 B w (own 3 (.slice A4 best3.length c4) (vI best3) :: own 3 (.slice A7 keep2.length c7) (vI keep2) :: fs) ∧ ((gameroomref_KeepOf_J10 l1 keep2 sum1 s1)).bind φ4 = some r) ?_ ?_
                · rintro a w ⟨hF, hS, hm⟩
                  unfold gameroomref_KeepOf_J10 at hm
                  refine seq_cut (fun a w => ∃ (sum3 : Int), Fr 115 [pl 0 (.slice A1 l1.length c1), pl 4 (.slice A4 best3.length c4), pl 5 (.int .i64 most3), pl 6 (.int .i64 x1), pl 7 (.int .i64 y1), pl 8 (.slice A7 keep2.length c7), pl 10 (.int .i64 sum3), pl 11 (.int .i64 s1)] a ∧ Sep w0 B w (own 3 (.slice A4 best3.length c4) (vI best3) :: own 3 (.slice A7 keep2.length c7) (vI keep2) :: fs) ∧ ((gameroomref_KeepOf_J11 s1) sum3).bind φ4 = some r) ?_ ?_
                  · rintro a w ⟨sum3, hF, hS, hm⟩
                    unfold gameroomref_KeepOf_J11 at hm
                    refine reg1 [] [] [0, 4, 5, 6, 7, 8, 10, 11] [pl 0 (.slice A1 l1.length c1), pl 4 (.slice A4 best3.length c4), pl 5 (.int .i64 most3), pl 6 (.int .i64 x1), pl 7 (.int .i64 y1), pl 8 (.slice A7 keep2.length c7), pl 10 (.int .i64 sum3), pl 11 (.int .i64 (w64 (s1 + 1)))] hF hS Fol (by kernel_rfl) (by kernel_rfl) (by kernel_rfl) ?_ (fun a w hF hS => ?_)
                    · exact obs_nil
                    refine then_n ?_
                    rw [← hφ4] at hm
                    exact ⟨(sum3, (w64 (s1 + 1))), ⟨hF.weak [0, 4, 5, 6, 7, 8, 10, 11] (by kernel_rfl), hS⟩, hm⟩
                  · refine wp_block ?_
                    obtain ⟨r1, hr1, hm⟩ := call_b hm
                    refine reg [⟨false, [], callFunc 87 #[.slice A1 l1.length c1, .int .i64 s1], .int .i64 r1⟩] [none, none, some (.int .i64 r1), none] [0, 4, 5, 6, 7, 8, 10, 11, 44] [pl 0 (.slice A1 l1.length c1), pl 4 (.slice A4 best3.length c4), pl 5 (.int .i64 most3), pl 6 (.int .i64 x1), pl 7 (.int .i64 y1), pl 8 (.slice A7 keep2.length c7), pl 10 (.int .i64 sum1), pl 11 (.int .i64 s1), pl 44 (.bool (decide (r1 < 0)))] hF hS Fol (by kernel_rfl) (by kernel_rfl) (by kernel_rfl) ?_ (fun a w hF hS => ?_)
                    · exact obs_cons (ob_call Try.func87 (by kernel_rfl) rfl (fun _ _ hS => gameroomref_at_w hr1 hS (fun _ hS => (hr_l1 _ (hS.dropN 2))) _hc_l1 rfl)) <| obs_nil
                    refine cond_ev (t := 44) (b := decide (r1 < 0)) hF (by kernel_rfl) (fun hb => ?_) (fun hb => ?_)
                    · replace hm := if_t hm hb
                      obtain ⟨hp2, hm⟩ := asrt_b hm
                      obtain ⟨hp3, hm⟩ := asrt_b hm
                      obtain ⟨hp4, hm⟩ := asrt_b hm
                      obtain ⟨hp5, hm⟩ := asrt_b hm
                      obtain ⟨hp6, hm⟩ := asrt_b hm
                      obtain ⟨hp7, hm⟩ := asrt_b hm
                      obtain ⟨hp8, hm⟩ := asrt_b hm
                      obtain ⟨hp9, hm⟩ := asrt_b hm
                      obtain ⟨r2, hr2, hm⟩ := call_b hm
                      refine regMix4 [0, 1, 2, 3, 4, 5, 6, 7, 8, 9, 10, 11, 12, 13, 14, 15, 16, 17, 18, 19, 20, 21, 22, 23, 24, 25] [26, 27, 28, 29] [⟨true, [], vS (Instr.indexAt 22 (.slice A7 keep2.length c7) (.int .i64 0)), .pointer (some (sAddr A7 0))⟩, ⟨false, [], vS (Instr.loadAt 3 (.pointer (some (sAddr A7 0)))), .int .i64 (geti keep2 0)⟩, ⟨true, [], vS (Instr.indexAt 22 (.slice A1 l1.length c1) (.int .i64 (geti keep2 0))), .pointer (some (sAddr A1 (geti keep2 0)))⟩, ⟨false, [], vS (Instr.loadAt 3 (.pointer (some (sAddr A1 (geti keep2 0))))), .int .i64 (geti l1 (geti keep2 0))⟩, ⟨true, [], vS (Instr.indexAt 22 (.slice A7 keep2.length c7) (.int .i64 1)), .pointer (some (sAddr A7 1))⟩, ⟨false, [], vS (Instr.loadAt 3 (.pointer (some (sAddr A7 1)))), .int .i64 (geti keep2 1)⟩, ⟨true, [], vS (Instr.indexAt 22 (.slice A1 l1.length c1) (.int .i64 (geti keep2 1))), .pointer (some (sAddr A1 (geti keep2 1)))⟩, ⟨false, [], vS (Instr.loadAt 3 (.pointer (some (sAddr A1 (geti keep2 1))))), .int .i64 (geti l1 (geti keep2 1))⟩, ⟨true, [], vS (Instr.indexAt 22 (.slice A7 keep2.length c7) (.int .i64 2)), .pointer (some (sAddr A7 2))⟩, ⟨false, [], vS (Instr.loadAt 3 (.pointer (some (sAddr A7 2)))), .int .i64 (geti keep2 2)⟩, ⟨true, [], vS (Instr.indexAt 22 (.slice A1 l1.length c1) (.int .i64 (geti keep2 2))), .pointer (some (sAddr A1 (geti keep2 2)))⟩, ⟨false, [], vS (Instr.loadAt 3 (.pointer (some (sAddr A1 (geti keep2 2))))), .int .i64 (geti l1 (geti keep2 2))⟩, ⟨true, [], vS (Instr.indexAt 22 (.slice A7 keep2.length c7) (.int .i64 3)), .pointer (some (sAddr A7 3))⟩, ⟨false, [], vS (Instr.loadAt 3 (.pointer (some (sAddr A7 3)))), .int .i64 (geti keep2 3)⟩, ⟨true, [], vS (Instr.indexAt 22 (.slice A1 l1.length c1) (.int .i64 (geti keep2 3))), .pointer (some (sAddr A1 (geti keep2 3)))⟩, ⟨false, [], vS (Instr.loadAt 3 (.pointer (some (sAddr A1 (geti keep2 3))))), .int .i64 (geti l1 (geti keep2 3))⟩] [none, none, none, some (.pointer (some (sAddr A7 0))), some (.int .i64 (geti keep2 0)), some (.pointer (some (sAddr A1 (geti keep2 0)))), some (.int .i64 (geti l1 (geti keep2 0))), none, none, some (.pointer (some (sAddr A7 1))), some (.int .i64 (geti keep2 1)), some (.pointer (some (sAddr A1 (geti keep2 1)))), some (.int .i64 (geti l1 (geti keep2 1))), none, none, some (.pointer (some (sAddr A7 2))), some (.int .i64 (geti keep2 2)), some (.pointer (some (sAddr A1 (geti keep2 2)))), some (.int .i64 (geti l1 (geti keep2 2))), none, none, some (.pointer (some (sAddr A7 3))), some (.int .i64 (geti keep2 3)), some (.pointer (some (sAddr A1 (geti keep2 3)))), some (.int .i64 (geti l1 (geti keep2 3))), none] [0, 4, 5, 6, 7, 8, 11, 45, 51, 57, 63, 69, 70] [pl 0 (.slice A1 l1.length c1), pl 4 (.slice A4 best3.length c4), pl 5 (.int .i64 most3), pl 6 (.int .i64 x1), pl 7 (.int .i64 y1), pl 8 (.slice A7 keep2.length c7), pl 11 (.int .i64 s1), pl 45 (.int .i64 sum1), pl 51 (.int .i64 (geti l1 (geti keep2 0))), pl 57 (.int .i64 (geti l1 (geti keep2 1))), pl 63 (.int .i64 (geti l1 (geti keep2 2))), pl 69 (.int .i64 (geti l1 (geti keep2 3))), pl 70 (.int .i64 s1)] hF hS Fol (by kernel_rfl) (by kernel_rfl) (by kernel_rfl) (by kernel_rfl) (by kernel_rfl) ?_ (fun a w hF hS => ?_)
                      · exact obs_cons (ob_ix1 (f := (Value.int .i64)) (m := keep2) Und22 hi3 hs3 (hS.at_ 1 rfl).rd rfl (fun _ => hp2)) <| obs_cons (ob_get1 (n := keep2.length) (m := keep2) (Value.int .i64) (0 : Int) Agg3 (fun _ hS => ⟨_, (hS.at_ 1 rfl).rd⟩) (fun _ hS => rfl) (fun _ => hp2)) <| obs_cons (ob_ix1 (f := (Value.int .i64)) (m := l1) Und22 hi3 hs3 (hr_l1 _ (hS.dropN 2)) rfl (fun _ => hp3)) <| obs_cons (ob_get1 (n := l1.length) (m := l1) (Value.int .i64) (0 : Int) Agg3 (fun _ hS => ⟨_, (hr_l1 _ (hS.dropN 2))⟩) (fun _ hS => rfl) (fun _ => hp3)) <| obs_cons (ob_ix1 (f := (Value.int .i64)) (m := keep2) Und22 hi3 hs3 (hS.at_ 1 rfl).rd rfl (fun _ => hp4)) <| obs_cons (ob_get1 (n := keep2.length) (m := keep2) (Value.int .i64) (0 : Int) Agg3 (fun _ hS => ⟨_, (hS.at_ 1 rfl).rd⟩) (fun _ hS => rfl) (fun _ => hp4)) <| obs_cons (ob_ix1 (f := (Value.int .i64)) (m := l1) Und22 hi3 hs3 (hr_l1 _ (hS.dropN 2)) rfl (fun _ => hp5)) <| obs_cons (ob_get1 (n := l1.length) (m := l1) (Value.int .i64) (0 : Int) Agg3 (fun _ hS => ⟨_, (hr_l1 _ (hS.dropN 2))⟩) (fun _ hS => rfl) (fun _ => hp5)) <| obs_cons (ob_ix1 (f := (Value.int .i64)) (m := keep2) Und22 hi3 hs3 (hS.at_ 1 rfl).rd rfl (fun _ => hp6)) <| obs_cons (ob_get1 (n := keep2.length) (m := keep2) (Value.int .i64) (0 : Int) Agg3 (fun _ hS => ⟨_, (hS.at_ 1 rfl).rd⟩) (fun _ hS => rfl) (fun _ => hp6)) <| obs_cons (ob_ix1 (f := (Value.int .i64)) (m := l1) Und22 hi3 hs3 (hr_l1 _ (hS.dropN 2)) rfl (fun _ => hp7)) <| obs_cons (ob_get1 (n := l1.length) (m := l1) (Value.int .i64) (0 : Int) Agg3 (fun _ hS => ⟨_, (hr_l1 _ (hS.dropN 2))⟩) (fun _ hS => rfl) (fun _ => hp7)) <| obs_cons (ob_ix1 (f := (Value.int .i64)) (m := keep2) Und22 hi3 hs3 (hS.at_ 1 rfl).rd rfl (fun _ => hp8)) <| obs_cons (ob_get1 (n := keep2.length) (m := keep2) (Value.int .i64) (0 : Int) Agg3 (fun _ hS => ⟨_, (hS.at_ 1 rfl).rd⟩) (fun _ hS => rfl) (fun _ => hp8)) <| obs_cons (ob_ix1 (f := (Value.int .i64)) (m := l1) Und22 hi3 hs3 (hr_l1 _ (hS.dropN 2)) rfl (fun _ => hp9)) <| obs_cons (ob_get1 (n := l1.length) (m := l1) (Value.int .i64) (0 : Int) Agg3 (fun _ hS => ⟨_, (hr_l1 _ (hS.dropN 2))⟩) (fun _ hS => rfl) (fun _ => hp9)) <| obs_nil
                      refine at_do (d := 71) (s := vS (Instr.buildSlice 22 5 #[(0, .int .i64 (geti l1 (geti keep2 0))), (1, .int .i64 (geti l1 (geti keep2 1))), (2, .int .i64 (geti l1 (geti keep2 2))), (3, .int .i64 (geti l1 (geti keep2 3))), (4, .int .i64 s1)])) (v := .slice (some ⟨w.heap.size, 0, none⟩) 5 5) (w' := w.alloc (.cells #[.int .i64 (geti l1 (geti keep2 0)), .int .i64 (geti l1 (geti keep2 1)), .int .i64 (geti l1 (geti keep2 2)), .int .i64 (geti l1 (geti keep2 3)), .int .i64 s1] 3)) hF (by kernel_rfl) (by kernel_rfl) (by kernel_rfl) (fun a hF => ?_)
                      have hS : Sep w0 B (w.alloc (.cells #[.int .i64 (geti l1 (geti keep2 0)), .int .i64 (geti l1 (geti keep2 1)), .int .i64 (geti l1 (geti keep2 2)), .int .i64 (geti l1 (geti keep2 3)), .int .i64 s1] 3)) (own 3 (.slice (some (⟨w.heap.size, 0, none⟩ : Addr)) 5 5) (vI ([geti l1 (geti keep2 0), geti l1 (geti keep2 1), geti l1 (geti keep2 2), geti l1 (geti keep2 3), s1] : List Int)) :: (own 3 (.slice A4 best3.length c4) (vI best3) :: own 3 (.slice A7 keep2.length c7) (vI keep2) :: fs)) := hS.lit 3 #[.int .i64 (geti l1 (geti keep2 0)), .int .i64 (geti l1 (geti keep2 1)), .int .i64 (geti l1 (geti keep2 2)), .int .i64 (geti l1 (geti keep2 3)), .int .i64 s1] 5 rfl (by omega)
                      generalize (some (⟨w.heap.size, 0, none⟩ : Addr)) = g2 at hF hS
                      generalize w.alloc (.cells #[.int .i64 (geti l1 (geti keep2 0)), .int .i64 (geti l1 (geti keep2 1)), .int .i64 (geti l1 (geti keep2 2)), .int .i64 (geti l1 (geti keep2 3)), .int .i64 s1] 3) = w at hS ⊢
                      refine at_run 3 [⟨false, [], callFunc 57 #[.slice g2 5 5, .bool false], .int .i64 r2⟩] [some (.int .i64 r2), none, none] [0, 4, 5, 6, 7, 8, 10, 11] [pl 0 (.slice A1 l1.length c1), pl 4 (.slice A4 best3.length c4), pl 5 (.int .i64 most3), pl 6 (.int .i64 x1), pl 7 (.int .i64 y1), pl 8 (.slice A7 keep2.length c7), pl 10 (.int .i64 (w64 (sum1 + r2))), pl 11 (.int .i64 s1)] hF hS (by kernel_rfl) (by kernel_rfl) ?_ (fun a w hF hS => ?_)
                      · exact obs_cons (ob_call Try.func57 (by kernel_rfl) rfl (fun _ _ hS => gameroomref_ShowOf_w hr2 hS (fun _ hS => (hS.at_ 0 rfl).rd) ((hS.at_ 0 rfl).cap1) ((hS.at_ 0 rfl).len1))) <| obs_nil
                      refine at_end [0, 4, 5, 6, 7, 8, 10, 11] [pl 0 (.slice A1 l1.length c1), pl 4 (.slice A4 best3.length c4), pl 5 (.int .i64 most3), pl 6 (.int .i64 x1), pl 7 (.int .i64 y1), pl 8 (.slice A7 keep2.length c7), pl 10 (.int .i64 (w64 (sum1 + r2))), pl 11 (.int .i64 s1)] hF rfl (by kernel_rfl) (fun hF => ?_)
                      refine np_n ?_
                      refine block_n ?_
                      refine then_n ?_
                      have hS := hS.pickN 3 [1, 2] (by decide)
                      exact ⟨(w64 (sum1 + r2)), hF.weak [0, 4, 5, 6, 7, 8, 10, 11] (by kernel_rfl), hS, hm⟩
                    · replace hm := if_f hm hb
                      refine wp_skip ?_
                      refine block_n ?_
                      refine then_n ?_
                      exact ⟨sum1, hF.weak [0, 4, 5, 6, 7, 8, 10, 11] (by kernel_rfl), hS, hm⟩
                · refine reg [] [] [0, 4, 5, 6, 7, 8, 10, 11, 38] [pl 0 (.slice A1 l1.length c1), pl 4 (.slice A4 best3.length c4), pl 5 (.int .i64 most3), pl 6 (.int .i64 x1), pl 7 (.int .i64 y1), pl 8 (.slice A7 keep2.length c7), pl 10 (.int .i64 sum1), pl 11 (.int .i64 s1), pl 38 (.bool (decide (s1 < 52)))] hF hS Fol (by kernel_rfl) (by kernel_rfl) (by kernel_rfl) ?_ (fun a w hF hS => ?_)
                  · exact obs_nil
                  refine cond_ev (t := 38) (b := decide (s1 < 52)) hF (by kernel_rfl) (fun hb => ?_) (fun hb => ?_)
                  · replace hm := if_t hm hb
                    refine wp_skip ?_
                    refine then_n ?_
                    exact ⟨hF.weak [0, 4, 5, 6, 7, 8, 10, 11] (by kernel_rfl), hS, hm⟩
                  · replace hm := if_f hm hb
                    refine wp_exit ?_
                    refine then_e (then_e (block_e (then_n ?_)))
                    rw [← hφ4] at hm
                    replace hm := done_b hm
                    unfold gameroomref_KeepOf_K4 at hm
                    try dsimp only at hm
                    have hm : ((gameroomref_KeepOf_J9 best3 most3 y1 keep2) sum1).bind φ2 = some r := hm
                    exact ⟨sum1, hF.weak [0, 4, 5, 6, 7, 8, 10] (by kernel_rfl), hS, hm⟩
            · refine reg [] [] [0, 4, 5, 6, 7, 8, 9] [pl 0 (.slice A1 l1.length c1), pl 4 (.slice A4 best3.length c4), pl 5 (.int .i64 most3), pl 6 (.int .i64 x1), pl 7 (.int .i64 y1), pl 8 (.slice none 0 0), pl 9 (.int .i64 0)] hF hS Fol (by kernel_rfl) (by kernel_rfl) (by kernel_rfl) ?_ (fun a w hF hS => ?_)
              · exact obs_nil
              refine wp_block ?_
              have hS : Sep w0 B w (own 3 (.slice none 0 0) (vI ([] : List Int)) :: own 3 (.slice A4 best3.length c4) (vI best3) :: fs) := hS.nil 3
              have hl2 := (hS.at_ 0 rfl).len1
              have hS := (hS.at_ 0 rfl).reN hl2
              have hS : Sep w0 B w (own 3 (.slice none (([] : List Int).length) 0) (vI ([] : List Int)) :: own 3 (.slice A4 best3.length c4) (vI best3) :: fs) := hS
              have hF := hF.cast (t := 8) (v := .slice none 0 0) (v' := .slice none (([] : List Int).length) 0) rfl rfl (congrArg (fun k => Value.slice none k 0) hl2)
              have hS := hS.pickN 2 [1, 0] (by decide)
              refine wp_loop_model (S := (List Int × Int)) (R := (List Int)) (gameroomref_KeepOf_L3 x1 y1) (fun x => ((gameroomref_KeepOf_K3 l1 best3 most3 y1) x).bind φ2) r (fun (x : (List Int × Int)) a w => ∃ (A6 : Option Addr) (c6 : Nat), Fr 115 [pl 0 (.slice A1 l1.length c1), pl 4 (.slice A4 best3.length c4), pl 5 (.int .i64 most3), pl 6 (.int .i64 x1), pl 7 (.int .i64 y1), pl 8 (.slice A6 x.1.length c6), pl 9 (.int .i64 x.2)] a ∧ Sep w0 B w (own 3 (.slice A4 best3.length c4) (vI best3) :: own 3 (.slice A6 x.1.length c6) (vI x.1) :: fs)) (assoc_b hm) ⟨none, 0, hF.weak [0, 4, 5, 6, 7, 8, 9] (by kernel_rfl), hS⟩ ?_
              clear hF hS hm
              rintro nn3 ⟨keep1, i1⟩ a w ⟨A6, c6, hF, hS⟩ hm
              generalize hφ3 : stK (gameroomref_KeepOf_L3 x1 y1) nn3 (fun x => ((gameroomref_KeepOf_K3 l1 best3 most3 y1) x).bind φ2) = φ3 at hm
              unfold gameroomref_KeepOf_L3 at hm
              dsimp only at hF hS hm
              refine seq_cut (fun a w => Fr 115 [pl 0 (.slice A1 l1.length c1), pl 4 (.slice A4 best3.length c4), pl 5 (.int .i64 most3), pl 6 (.int .i64 x1), pl 7 (.int .i64 y1), pl 8 (.slice A6 keep1.length c6), pl 9 (.int .i64 i1)] a ∧ Sep w0 B w (own 3 (.slice A4 best3.length c4) (vI best3) :: own 3 (.slice A6 keep1.length c6) (vI keep1) :: fs) ∧ ((gameroomref_KeepOf_J7 x1 y1 keep1 i1)).bind φ3 = some r) ?_ ?_
              · rintro a w ⟨hF, hS, hm⟩
                unfold gameroomref_KeepOf_J7 at hm
                refine seq_cut (fun a w => ∃ (keep3 : List Int) (A9 : Option Addr) (c9 : Nat), Fr 115 [pl 0 (.slice A1 l1.length c1), pl 4 (.slice A4 best3.length c4), pl 5 (.int .i64 most3), pl 6 (.int .i64 x1), pl 7 (.int .i64 y1), pl 8 (.slice A9 keep3.length c9), pl 9 (.int .i64 i1)] a ∧ Sep w0 B w (own 3 (.slice A4 best3.length c4) (vI best3) :: own 3 (.slice A9 keep3.length c9) (vI keep3) :: fs) ∧ ((gameroomref_KeepOf_J8 i1) keep3).bind φ3 = some r) ?_ ?_
                · rintro a w ⟨keep3, A9, c9, hF, hS, hm⟩
                  unfold gameroomref_KeepOf_J8 at hm
                  refine reg1 [] [] [0, 4, 5, 6, 7, 8, 9] [pl 0 (.slice A1 l1.length c1), pl 4 (.slice A4 best3.length c4), pl 5 (.int .i64 most3), pl 6 (.int .i64 x1), pl 7 (.int .i64 y1), pl 8 (.slice A9 keep3.length c9), pl 9 (.int .i64 (w64 (i1 + 1)))] hF hS Fol (by kernel_rfl) (by kernel_rfl) (by kernel_rfl) ?_ (fun a w hF hS => ?_)
                  · exact obs_nil
                  refine then_n ?_
                  rw [← hφ3] at hm
                  exact ⟨(keep3, (w64 (i1 + 1))), ⟨A9, c9, hF.weak [0, 4, 5, 6, 7, 8, 9] (by kernel_rfl), hS⟩, hm⟩
                · refine wp_block ?_
                  refine reg [] [] [0, 4, 5, 6, 7, 8, 9, 32] [pl 0 (.slice A1 l1.length c1), pl 4 (.slice A4 best3.length c4), pl 5 (.int .i64 most3), pl 6 (.int .i64 x1), pl 7 (.int .i64 y1), pl 8 (.slice A6 keep1.length c6), pl 9 (.int .i64 i1), pl 32 (.bool ((i1 != x1) && (i1 != y1)))] hF hS Fol (by kernel_rfl) (by kernel_rfl) (by kernel_rfl) ?_ (fun a w hF hS => ?_)
                  · exact obs_nil
                  refine cond_ev (t := 32) (b := (i1 != x1) && (i1 != y1)) hF (by kernel_rfl) (fun hb => ?_) (fun hb => ?_)
                  · replace hm := if_t hm hb
                    refine oneR ?_
                    obtain ⟨hp1, hm⟩ := asrt_b hm
                    refine at_run 2 [] [] [0, 4, 5, 6, 7, 9, 33, 34] [pl 0 (.slice A1 l1.length c1), pl 4 (.slice A4 best3.length c4), pl 5 (.int .i64 most3), pl 6 (.int .i64 x1), pl 7 (.int .i64 y1), pl 9 (.int .i64 i1), pl 33 (.slice A6 keep1.length c6), pl 34 (.int .i64 i1)] hF hS (by kernel_rfl) (by kernel_rfl) ?_ (fun a w hF hS => ?_)
                    · exact obs_nil
                    refine at_do (d := 35) (s := vS (Instr.buildSlice 22 1 #[(0, .int .i64 i1)])) (v := .slice (some ⟨w.heap.size, 0, none⟩) 1 1) (w' := w.alloc (.cells #[.int .i64 i1] 3)) hF (by kernel_rfl) (by kernel_rfl) (by kernel_rfl) (fun a hF => ?_)
                    have hS : Sep w0 B (w.alloc (.cells #[.int .i64 i1] 3)) (own 3 (.slice (some (⟨w.heap.size, 0, none⟩ : Addr)) 1 1) (vI ([i1] : List Int)) :: (own 3 (.slice A4 best3.length c4) (vI best3) :: own 3 (.slice A6 keep1.length c6) (vI keep1) :: fs)) := hS.lit 3 #[.int .i64 i1] 1 rfl (by omega)
                    generalize (some (⟨w.heap.size, 0, none⟩ : Addr)) = g1 at hF hS
                    generalize w.alloc (.cells #[.int .i64 i1] 3) = w at hS ⊢
                    obtain ⟨A8, c8, w, hrun, hS⟩ := run_app1 (P := Try.prog) (t := 22) (m := keep1) (ys := ([i1] : List Int)) (A2 := g1) (m2 := 1) (c2 := 1) (Value.int .i64) (0 : Int) (hS.at_ 2 rfl) (hS.at_ 0 rfl).rd ((hS.at_ 0 rfl).len1) 22 Und22 hi3 hz3 hs3 (by omega) rfl (fun _ => rfl) hp1
                    have hS : Sep w0 B w (own 3 (.slice g1 1 1) (vI ([i1] : List Int)) :: own 3 (.slice A4 best3.length c4) (vI best3) :: own 3 (.slice A8 ((keep1 ++ ([i1] : List Int)).length) c8) (vI (keep1 ++ ([i1] : List Int))) :: fs) := hS
                    refine at_do (d := 36) hF (by kernel_rfl) (by kernel_rfl) hrun (fun a hF => ?_)
                    refine at_run 1 [] [] [0, 4, 5, 6, 7, 8, 9] [pl 0 (.slice A1 l1.length c1), pl 4 (.slice A4 best3.length c4), pl 5 (.int .i64 most3), pl 6 (.int .i64 x1), pl 7 (.int .i64 y1), pl 8 (.slice A8 ((keep1 ++ ([i1] : List Int)).length) c8), pl 9 (.int .i64 i1)] hF hS (by kernel_rfl) (by kernel_rfl) ?_ (fun a w hF hS => ?_)
                    · exact obs_nil
                    refine at_end [0, 4, 5, 6, 7, 8, 9] [pl 0 (.slice A1 l1.length c1), pl 4 (.slice A4 best3.length c4), pl 5 (.int .i64 most3), pl 6 (.int .i64 x1), pl 7 (.int .i64 y1), pl 8 (.slice A8 ((keep1 ++ ([i1] : List Int)).length) c8), pl 9 (.int .i64 i1)] hF rfl (by kernel_rfl) (fun hF => ?_)
                    refine block_n ?_
                    refine then_n ?_
                    have hS := hS.pickN 3 [1, 2] (by decide)
                    exact ⟨(keep1 ++ ([i1] : List Int)), A8, c8, hF.weak [0, 4, 5, 6, 7, 8, 9] (by kernel_rfl), hS, hm⟩
                  · replace hm := if_f hm hb
                    refine wp_skip ?_
                    refine block_n ?_
                    refine then_n ?_
                    exact ⟨keep1, A6, c6, hF.weak [0, 4, 5, 6, 7, 8, 9] (by kernel_rfl), hS, hm⟩
              · refine reg [] [] [0, 4, 5, 6, 7, 8, 9, 22] [pl 0 (.slice A1 l1.length c1), pl 4 (.slice A4 best3.length c4), pl 5 (.int .i64 most3), pl 6 (.int .i64 x1), pl 7 (.int .i64 y1), pl 8 (.slice A6 keep1.length c6), pl 9 (.int .i64 i1), pl 22 (.bool (decide (i1 < 6)))] hF hS Fol (by kernel_rfl) (by kernel_rfl) (by kernel_rfl) ?_ (fun a w hF hS => ?_)
                · exact obs_nil
                refine cond_ev (t := 22) (b := decide (i1 < 6)) hF (by kernel_rfl) (fun hb => ?_) (fun hb => ?_)
                · replace hm := if_t hm hb
                  refine wp_skip ?_
                  refine then_n ?_
                  exact ⟨hF.weak [0, 4, 5, 6, 7, 8, 9] (by kernel_rfl), hS, hm⟩
                · replace hm := if_f hm hb
                  refine wp_exit ?_
                  refine then_e (then_e (block_e (then_n ?_)))
                  rw [← hφ3] at hm
                  replace hm := done_b hm
                  unfold gameroomref_KeepOf_K3 at hm
                  try dsimp only at hm
                  have hm : ((gameroomref_KeepOf_J6 l1 best3 most3 y1) keep1).bind φ2 = some r := hm
                  exact ⟨keep1, A6, c6, hF.weak [0, 4, 5, 6, 7, 8] (by kernel_rfl), hS, hm⟩
        · refine reg [] [] [0, 4, 5, 6, 7, 18] [pl 0 (.slice A1 l1.length c1), pl 4 (.slice A4 best3.length c4), pl 5 (.int .i64 most3), pl 6 (.int .i64 x1), pl 7 (.int .i64 y1), pl 18 (.bool (decide (y1 < x1)))] hF hS Fol (by kernel_rfl) (by kernel_rfl) (by kernel_rfl) ?_ (fun a w hF hS => ?_)
          · exact obs_nil
          refine cond_ev (t := 18) (b := decide (y1 < x1)) hF (by kernel_rfl) (fun hb => ?_) (fun hb => ?_)
          · replace hm := if_t hm hb
            refine wp_skip ?_
            refine then_n ?_
            exact ⟨hF.weak [0, 4, 5, 6, 7] (by kernel_rfl), hS, hm⟩
          · replace hm := if_f hm hb
            refine wp_exit ?_
            refine then_e (then_e (block_e (block_n (then_n ?_))))
            rw [← hφ2] at hm
            replace hm := done_b hm
            unfold gameroomref_KeepOf_K2 at hm
            try dsimp only at hm
            have hm : ((gameroomref_KeepOf_J3 x1) best3 most3).bind φ1 = some r := hm
            exact ⟨best3, most3, A4, c4, hF.weak [0, 4, 5, 6] (by kernel_rfl), hS, hm⟩
    · refine reg [] [] [0, 4, 5, 6, 13] [pl 0 (.slice A1 l1.length c1), pl 4 (.slice A2 best1.length c2), pl 5 (.int .i64 most1), pl 6 (.int .i64 x1), pl 13 (.bool (decide (x1 < 6)))] hF hS Fol (by kernel_rfl) (by kernel_rfl) (by kernel_rfl) ?_ (fun a w hF hS => ?_)
      · exact obs_nil
      refine cond_ev (t := 13) (b := decide (x1 < 6)) hF (by kernel_rfl) (fun hb => ?_) (fun hb => ?_)
      · replace hm := if_t hm hb
        refine wp_skip ?_
        refine then_n ?_
        exact ⟨hF.weak [0, 4, 5, 6] (by kernel_rfl), hS, hm⟩
      · replace hm := if_f hm hb
        refine wp_exit ?_
        refine then_e (then_e (block_e (then_n ?_)))
        rw [← hφ1] at hm
        replace hm := done_b hm
        unfold gameroomref_KeepOf_K1 at hm
        try dsimp only at hm
        have hm : ((gameroomref_KeepOf_J1 l1) best1 most1).bind some = some r := hm
        exact ⟨best1, most1, A2, c2, hF.weak [0, 4, 5] (by kernel_rfl), hS, hm⟩

noncomputable def gameroomlaw_sameInts_J4 (i1 : Int) : Option (St Int (Fl Unit Bool)) :=
  some (.next (w64 (i1 + 1)))

noncomputable def gameroomlaw_sameInts_J3 (a1 : List Int) (b1 : List Int) (i1 : Int) : Option (St Int (Fl Unit Bool)) :=
  asrt (0 ≤ i1 ∧ i1 < (a1.length : Int)) <| asrt (0 ≤ i1 ∧ i1 < (b1.length : Int)) <| if ((geti a1 i1) != (geti b1 i1)) then (some (.done (.ret false))) else ((gameroomlaw_sameInts_J4 i1))

noncomputable def gameroomlaw_sameInts_J2 : Option Bool :=
  some true

noncomputable def gameroomlaw_sameInts_K1 : (Fl Unit Bool) → Option Bool :=
  fun (x : (Fl Unit Bool)) => match x with | .go _ => gameroomlaw_sameInts_J2 | .ret x => some x

noncomputable def gameroomlaw_sameInts_L1 (a1 : List Int) (b1 : List Int) : Int → Option (St Int (Fl Unit Bool)) :=
  fun (x : Int) => match x with | i1 => if (decide (i1 < (a1.length : Int))) then ((gameroomlaw_sameInts_J3 a1 b1 i1)) else (some (.done (.go ())))

noncomputable def gameroomlaw_sameInts_J1 (a1 : List Int) (b1 : List Int) : Option Bool :=
  (loop (gameroomlaw_sameInts_L1 a1 b1) 0).bind gameroomlaw_sameInts_K1

noncomputable def gameroomlaw_sameInts_m (a1 : List Int) (b1 : List Int) : Option Bool :=
  if ((a1.length : Int) != (b1.length : Int)) then (some false) else ((gameroomlaw_sameInts_J1 a1 b1))

set_option maxRecDepth 100000 in
set_option maxHeartbeats 4000000 in
theorem gameroomlaw_sameInts_w {A1 : Option Addr} {c1 : Nat} {n1 : Nat} {a1 : List Int} {A2 : Option Addr} {c2 : Nat} {n2 : Nat} {b1 : List Int} {r : Bool} {w0 w : World} {B : Nat} {fs : List HP} (hm : gameroomlaw_sameInts_m a1 b1 = some r) (hS : Sep w0 B w (fs)) (hr_a1 : RdF w0 B fs A1 (vI a1)) (_hc_a1 : a1.length ≤ c1) (_hn_a1 : n1 = a1.length) (hr_b1 : RdF w0 B fs A2 (vI b1)) (_hc_b1 : b1.length ≤ c2) (_hn_b1 : n2 = b1.length) :
    Calls Try.prog 22 #[.slice A1 n1 c1, .slice A2 n2 c2] w fun e w' => e = .returned (.bool r) ∧ Sep w0 B w' (fs) := by
  obtain ⟨i3, hi3, hz3, hs3, hb3⟩ := info_parts Info3
  obtain rfl := _hn_a1
  obtain rfl := _hn_b1
  unfold gameroomlaw_sameInts_m at hm
  replace hm := start_b hm
  refine enter (l := [.slice A1 a1.length c1, .slice A2 b1.length c2]) (n := 26) Try.func22 rfl rfl (by simp) (fun a hF => ?_)
  refine reg [] [] [0, 1] [pl 0 (.slice A1 a1.length c1), pl 1 (.slice A2 b1.length c2)] hF hS Fol (by kernel_rfl) (by kernel_rfl) (by kernel_rfl) ?_ (fun a w hF hS => ?_)
  · exact obs_nil
  refine seq_cut (fun a w => Fr 26 [pl 0 (.slice A1 a1.length c1), pl 1 (.slice A2 b1.length c2)] a ∧ Sep w0 B w (fs) ∧ ((gameroomlaw_sameInts_J1 a1 b1)).bind some = some r) ?_ ?_
  · rintro a w ⟨hF, hS, hm⟩
    unfold gameroomlaw_sameInts_J1 at hm
    refine seq_cut (fun a w => Fr 26 [] a ∧ Sep w0 B w (fs) ∧ (gameroomlaw_sameInts_J2).bind some = some r) ?_ ?_
    · rintro a w ⟨hF, hS, hm⟩
      unfold gameroomlaw_sameInts_J2 at hm
      refine reg [] [] [4] [pl 4 (.bool true)] hF hS Fol (by kernel_rfl) (by kernel_rfl) (by kernel_rfl) ?_ (fun a w hF hS => ?_)
      · exact obs_nil
      refine wp_ret ?_
      have hm : some true = some r := hm
      obtain rfl := Option.some.inj hm
      exact retV (rs := [.tmp 4]) (vs := [.bool true]) hF rfl (rv_t (by kernel_rfl) <| rv_nil) rfl ⟨rfl, hS⟩
    · refine reg [] [] [0, 1, 5] [pl 0 (.slice A1 a1.length c1), pl 1 (.slice A2 b1.length c2), pl 5 (.int .i64 0)] hF hS Fol (by kernel_rfl) (by kernel_rfl) (by kernel_rfl) ?_ (fun a w hF hS => ?_)
      · exact obs_nil
      refine wp_block ?_
      refine wp_loop_model (S := Int) (R := (Fl Unit Bool)) (gameroomlaw_sameInts_L1 a1 b1) (fun x => (gameroomlaw_sameInts_K1 x).bind some) r (fun (x : Int) a w => Fr 26 [pl 0 (.slice A1 a1.length c1), pl 1 (.slice A2 b1.length c2), pl 5 (.int .i64 x)] a ∧ Sep w0 B w (fs)) (assoc_b hm) ⟨hF.weak [0, 1, 5] (by kernel_rfl), hS⟩ ?_
      clear hF hS hm
      rintro nn1 i1 a w ⟨hF, hS⟩ hm
      generalize hφ1 : stK (gameroomlaw_sameInts_L1 a1 b1) nn1 (fun x => (gameroomlaw_sameInts_K1 x).bind some) = φ1 at hm
      unfold gameroomlaw_sameInts_L1 at hm
      dsimp only at hm
      refine seq_cut (fun a w => Fr 26 [pl 0 (.slice A1 a1.length c1), pl 1 (.slice A2 b1.length c2), pl 5 (.int .i64 i1)] a ∧ Sep w0 B w (fs) ∧ ((gameroomlaw_sameInts_J3 a1 b1 i1)).bind φ1 = some r) ?_ ?_
      · rintro a w ⟨hF, hS, hm⟩
        unfold gameroomlaw_sameInts_J3 at hm
        refine seq_cut (fun a w => Fr 26 [pl 0 (.slice A1 a1.length c1), pl 1 (.slice A2 b1.length c2), pl 5 (.int .i64 i1)] a ∧ Sep w0 B w (fs) ∧ ((gameroomlaw_sameInts_J4 i1)).bind φ1 = some r) ?_ ?_
        · rintro a w ⟨hF, hS, hm⟩
          unfold gameroomlaw_sameInts_J4 at hm
          refine reg1 [] [] [0, 1, 5] [pl 0 (.slice A1 a1.length c1), pl 1 (.slice A2 b1.length c2), pl 5 (.int .i64 (w64 (i1 + 1)))] hF hS Fol (by kernel_rfl) (by kernel_rfl) (by kernel_rfl) ?_ (fun a w hF hS => ?_)
          · exact obs_nil
          refine then_n ?_
          rw [← hφ1] at hm
          exact ⟨(w64 (i1 + 1)), ⟨hF.weak [0, 1, 5] (by kernel_rfl), hS⟩, hm⟩
        · refine wp_block ?_
          obtain ⟨hp1, hm⟩ := asrt_b hm
          obtain ⟨hp2, hm⟩ := asrt_b hm
          refine reg [⟨true, [], vS (Instr.indexAt 22 (.slice A1 a1.length c1) (.int .i64 i1)), .pointer (some (sAddr A1 i1))⟩, ⟨false, [], vS (Instr.loadAt 3 (.pointer (some (sAddr A1 i1)))), .int .i64 (geti a1 i1)⟩, ⟨true, [], vS (Instr.indexAt 22 (.slice A2 b1.length c2) (.int .i64 i1)), .pointer (some (sAddr A2 i1))⟩, ⟨false, [], vS (Instr.loadAt 3 (.pointer (some (sAddr A2 i1)))), .int .i64 (geti b1 i1)⟩] [none, none, some (.pointer (some (sAddr A1 i1))), some (.int .i64 (geti a1 i1)), none, none, some (.pointer (some (sAddr A2 i1))), some (.int .i64 (geti b1 i1)), none] [0, 1, 5, 25] [pl 0 (.slice A1 a1.length c1), pl 1 (.slice A2 b1.length c2), pl 5 (.int .i64 i1), pl 25 (.bool ((geti a1 i1) != (geti b1 i1)))] hF hS Fol (by kernel_rfl) (by kernel_rfl) (by kernel_rfl) ?_ (fun a w hF hS => ?_)
          · exact obs_cons (ob_ix1 (f := (Value.int .i64)) (m := a1) Und22 hi3 hs3 (hr_a1 _ (hS.dropN 0)) rfl (fun _ => hp1)) <| obs_cons (ob_get1 (n := a1.length) (m := a1) (Value.int .i64) (0 : Int) Agg3 (fun _ hS => ⟨_, (hr_a1 _ (hS.dropN 0))⟩) (fun _ hS => rfl) (fun _ => hp1)) <| obs_cons (ob_ix1 (f := (Value.int .i64)) (m := b1) Und22 hi3 hs3 (hr_b1 _ (hS.dropN 0)) rfl (fun _ => hp2)) <| obs_cons (ob_get1 (n := b1.length) (m := b1) (Value.int .i64) (0 : Int) Agg3 (fun _ hS => ⟨_, (hr_b1 _ (hS.dropN 0))⟩) (fun _ hS => rfl) (fun _ => hp2)) <| obs_nil
          refine cond_ev (t := 25) (b := ((geti a1 i1) != (geti b1 i1))) hF (by kernel_rfl) (fun hb => ?_) (fun hb => ?_)
          · replace hm := if_t hm hb
            refine reg [] [] [4] [pl 4 (.bool false)] hF hS Fol (by kernel_rfl) (by kernel_rfl) (by kernel_rfl) ?_ (fun a w hF hS => ?_)
            · exact obs_nil
            refine wp_ret ?_
            refine block_r (then_r (then_r (block_r (then_r ?_))))
            rw [← hφ1] at hm
            replace hm := done_b hm
            unfold gameroomlaw_sameInts_K1 at hm
            try dsimp only at hm
            have hm : some false = some r := hm
            obtain rfl := Option.some.inj hm
            exact retV (rs := [.tmp 4]) (vs := [.bool false]) hF rfl (rv_t (by kernel_rfl) <| rv_nil) rfl ⟨rfl, hS⟩
          · replace hm := if_f hm hb
            refine wp_skip ?_
            refine block_n ?_
            refine then_n ?_
            exact ⟨hF.weak [0, 1, 5] (by kernel_rfl), hS, hm⟩
      · refine reg [] [] [0, 1, 5, 14] [pl 0 (.slice A1 a1.length c1), pl 1 (.slice A2 b1.length c2), pl 5 (.int .i64 i1), pl 14 (.bool (decide (i1 < (a1.length : Int))))] hF hS Fol (by kernel_rfl) (by kernel_rfl) (by kernel_rfl) ?_ (fun a w hF hS => ?_)
        · exact obs_nil
        refine cond_ev (t := 14) (b := decide (i1 < (a1.length : Int))) hF (by kernel_rfl) (fun hb => ?_) (fun hb => ?_)
        · replace hm := if_t hm hb
          refine wp_skip ?_
          refine then_n ?_
          exact ⟨hF.weak [0, 1, 5] (by kernel_rfl), hS, hm⟩
        · replace hm := if_f hm hb
          refine wp_exit ?_
          refine then_e (then_e (block_e (then_n ?_)))
          rw [← hφ1] at hm
          replace hm := done_b hm
          unfold gameroomlaw_sameInts_K1 at hm
          try dsimp only at hm
          have hm : (gameroomlaw_sameInts_J2).bind some = some r := hm
          exact ⟨hF.weak [] (by kernel_rfl), hS, hm⟩
  · refine reg [] [] [0, 1, 10] [pl 0 (.slice A1 a1.length c1), pl 1 (.slice A2 b1.length c2), pl 10 (.bool ((a1.length : Int) != (b1.length : Int)))] hF hS Fol (by kernel_rfl) (by kernel_rfl) (by kernel_rfl) ?_ (fun a w hF hS => ?_)
    · exact obs_nil
    refine cond_ev (t := 10) (b := ((a1.length : Int) != (b1.length : Int))) hF (by kernel_rfl) (fun hb => ?_) (fun hb => ?_)
    · replace hm := if_t hm hb
      refine reg [] [] [4] [pl 4 (.bool false)] hF hS Fol (by kernel_rfl) (by kernel_rfl) (by kernel_rfl) ?_ (fun a w hF hS => ?_)
      · exact obs_nil
      refine wp_ret ?_
      refine then_r ?_
      have hm : some false = some r := hm
      obtain rfl := Option.some.inj hm
      exact retV (rs := [.tmp 4]) (vs := [.bool false]) hF rfl (rv_t (by kernel_rfl) <| rv_nil) rfl ⟨rfl, hS⟩
    · replace hm := if_f hm hb
      refine wp_skip ?_
      refine then_n ?_
      exact ⟨hF.weak [0, 1] (by kernel_rfl), hS, hm⟩

noncomputable def gameroomlaw_CribKeeps_J2 (hand1 : List Int) (r2 : (List Int × Int × Int)) : Option Bool :=
  (gameroomref_KeepOf_m hand1).bind fun r4 => ((if ((r2.2.2 == 0) && (r2.2.1 == r4.2)) then gameroomlaw_sameInts_m r2.1 r4.1 else some false)).bind fun r5 => some (((r2.2.2 == 0) && (r2.2.1 == r4.2)) && r5)

noncomputable def gameroomlaw_CribKeeps_J1 (hand1 : List Int) (r2 : (List Int × Int × Int)) (no1 : Int) : Option Bool :=
  if (no1 != 0) then (some (((r2.2.2 == no1) && (r2.2.1 == 0)) && ((r2.1.length : Int) == 0))) else ((gameroomlaw_CribKeeps_J2 hand1 r2))

noncomputable def gameroomlaw_CribKeeps_m (hand1 : List Int) : Option Bool :=
  (gameroomlaw_ints_m hand1).bind fun r1 => (crib_Keep_m r1).bind fun r2 => if ((hand1.length : Int) == 6) then ((gameroomref_CardsMay_m hand1).bind fun r3 => (gameroomlaw_CribKeeps_J1 hand1 r2) r3) else ((gameroomlaw_CribKeeps_J1 hand1 r2) 11)

set_option maxRecDepth 100000 in
set_option maxHeartbeats 4000000 in
theorem gameroomlaw_CribKeeps_w {A1 : Option Addr} {c1 : Nat} {n1 : Nat} {hand1 : List Int} {r : Bool} {w0 w : World} {B : Nat} {fs : List HP} (hm : gameroomlaw_CribKeeps_m hand1 = some r) (hS : Sep w0 B w (fs)) (hr_hand1 : RdF w0 B fs A1 (vI hand1)) (_hc_hand1 : hand1.length ≤ c1) (_hn_hand1 : n1 = hand1.length) :
    Calls Try.prog 14 #[.slice A1 n1 c1] w fun e w' => e = .returned (.bool r) ∧ Sep w0 B w' (fs) := by
  obtain ⟨i3, hi3, hz3, hs3, hb3⟩ := info_parts Info3
  obtain rfl := _hn_hand1
  unfold gameroomlaw_CribKeeps_m at hm
  replace hm := start_b hm
  refine enter (l := [.slice A1 hand1.length c1]) (n := 52) Try.func14 rfl rfl (by simp) (fun a hF => ?_)
  refine reg [] [] [0] [pl 0 (.slice A1 hand1.length c1)] hF hS Fol (by kernel_rfl) (by kernel_rfl) (by kernel_rfl) ?_ (fun a w hF hS => ?_)
  · exact obs_nil
  refine seqR ?_
  obtain ⟨r1, hr1, hm⟩ := call_b hm
  obtain ⟨r2, hr2, hm⟩ := call_b hm
  refine at_run 1 [] [] [0, 10] [pl 0 (.slice A1 hand1.length c1), pl 10 (.slice A1 hand1.length c1)] hF hS (by kernel_rfl) (by kernel_rfl) ?_ (fun a w hF hS => ?_)
  · exact obs_nil
  refine at_call (f := 16) (args := #[.slice A1 hand1.length c1]) (d := 11) hF (by kernel_rfl) (by kernel_rfl) Try.func16 (by kernel_rfl) rfl (gameroomlaw_ints_w hr1 hS (fun _ hS => (hr_hand1 _ (hS.dropN 0))) _hc_hand1 rfl) (fun v a w hR hF => ?_)
  clear hS
  obtain ⟨A2, c2, rfl, hS⟩ := hR
  have hS : Sep w0 B w (own 3 (.slice A2 r1.length c2) (vI r1) :: fs) := hS
  refine at_call (f := 81) (args := #[.slice A2 r1.length c2]) (d := 12) hF (by kernel_rfl) (by kernel_rfl) Try.func81 (by kernel_rfl) rfl (crib_Keep_w hr2 hS (fun _ hS => (hS.at_ 0 rfl).rd) ((hS.at_ 0 rfl).cap1) rfl) (fun v a w hR hF => ?_)
  clear hS
  obtain ⟨A3, c3, rfl, hS⟩ := hR
  have hS : Sep w0 B w (own 3 (.slice A3 r2.1.length c3) (vI r2.1) :: own 3 (.slice A2 r1.length c2) (vI r1) :: fs) := hS
  refine at_run 7 [] [] [0, 3, 4, 5] [pl 0 (.slice A1 hand1.length c1), pl 3 (.slice A3 r2.1.length c3), pl 4 (.int .i64 r2.2.1), pl 5 (.int .i64 r2.2.2)] hF hS (by kernel_rfl) (by kernel_rfl) ?_ (fun a w hF hS => ?_)
  · exact obs_nil
  refine at_end [0, 3, 4, 5] [pl 0 (.slice A1 hand1.length c1), pl 3 (.slice A3 r2.1.length c3), pl 4 (.int .i64 r2.2.1), pl 5 (.int .i64 r2.2.2)] hF rfl (by kernel_rfl) (fun hF => ?_)
  refine then_n ?_
  refine reg [] [] [0, 3, 4, 5, 6] [pl 0 (.slice A1 hand1.length c1), pl 3 (.slice A3 r2.1.length c3), pl 4 (.int .i64 r2.2.1), pl 5 (.int .i64 r2.2.2), pl 6 (.int .i64 11)] hF hS Fol (by kernel_rfl) (by kernel_rfl) (by kernel_rfl) ?_ (fun a w hF hS => ?_)
  · exact obs_nil
  refine seq_cut (fun a w => ∃ (no1 : Int), Fr 52 [pl 0 (.slice A1 hand1.length c1), pl 3 (.slice A3 r2.1.length c3), pl 4 (.int .i64 r2.2.1), pl 5 (.int .i64 r2.2.2), pl 6 (.int .i64 no1)] a ∧ Sep w0 B w (own 3 (.slice A3 r2.1.length c3) (vI r2.1) :: fs) ∧ ((gameroomlaw_CribKeeps_J1 hand1 r2) no1).bind some = some r) ?_ ?_
  · rintro a w ⟨no1, hF, hS, hm⟩
    unfold gameroomlaw_CribKeeps_J1 at hm
    refine seq_cut (fun a w => Fr 52 [pl 0 (.slice A1 hand1.length c1), pl 3 (.slice A3 r2.1.length c3), pl 4 (.int .i64 r2.2.1), pl 5 (.int .i64 r2.2.2)] a ∧ Sep w0 B w (own 3 (.slice A3 r2.1.length c3) (vI r2.1) :: fs) ∧ ((gameroomlaw_CribKeeps_J2 hand1 r2)).bind some = some r) ?_ ?_
    · rintro a w ⟨hF, hS, hm⟩
      unfold gameroomlaw_CribKeeps_J2 at hm
      refine seqR ?_
      obtain ⟨r4, hr4, hm⟩ := call_b hm
      refine at_run 1 [] [] [3, 4, 5, 36] [pl 3 (.slice A3 r2.1.length c3), pl 4 (.int .i64 r2.2.1), pl 5 (.int .i64 r2.2.2), pl 36 (.slice A1 hand1.length c1)] hF hS (by kernel_rfl) (by kernel_rfl) ?_ (fun a w hF hS => ?_)
      · exact obs_nil
      refine at_call (f := 82) (args := #[.slice A1 hand1.length c1]) (d := 37) hF (by kernel_rfl) (by kernel_rfl) Try.func82 (by kernel_rfl) rfl (gameroomref_KeepOf_w hr4 hS (fun _ hS => (hr_hand1 _ (hS.dropN 1))) _hc_hand1 rfl) (fun v a w hR hF => ?_)
      clear hS
      obtain ⟨A4, c4, rfl, hS⟩ := hR
      have hS : Sep w0 B w (own 3 (.slice A4 r4.1.length c4) (vI r4.1) :: own 3 (.slice A3 r2.1.length c3) (vI r2.1) :: fs) := hS
      refine at_run 5 [] [] [3, 4, 5, 7, 8] [pl 3 (.slice A3 r2.1.length c3), pl 4 (.int .i64 r2.2.1), pl 5 (.int .i64 r2.2.2), pl 7 (.slice A4 r4.1.length c4), pl 8 (.int .i64 r4.2)] hF hS (by kernel_rfl) (by kernel_rfl) ?_ (fun a w hF hS => ?_)
      · exact obs_nil
      refine at_end [3, 4, 5, 7, 8] [pl 3 (.slice A3 r2.1.length c3), pl 4 (.int .i64 r2.2.1), pl 5 (.int .i64 r2.2.2), pl 7 (.slice A4 r4.1.length c4), pl 8 (.int .i64 r4.2)] hF rfl (by kernel_rfl) (fun hF => ?_)
      refine then_n ?_
      obtain ⟨r5, hr5, hm⟩ := call_b hm
      refine reg [⟨false, [((r2.2.2 == 0) && (r2.2.1 == r4.2), true)], callFunc 22 #[.slice A3 r2.1.length c3, .slice A4 r4.1.length c4], .bool r5⟩] [none, none, none, none, none, none, none, none, none, none, some (.bool r5), none, none] [2] [pl 2 (.bool (((r2.2.2 == 0) && (r2.2.1 == r4.2)) && r5))] hF hS Fol (by kernel_rfl) (by kernel_rfl) (by kernel_rfl) ?_ (fun a w hF hS => ?_)
      · exact obs_cons (ob_call Try.func22 (by kernel_rfl) rfl (fun hy _ hS => gameroomlaw_sameInts_w (ite_some hr5 (by rw [show ((r2.2.2 == 0) && (r2.2.1 == r4.2)) = true from hy ((r2.2.2 == 0) && (r2.2.1 == r4.2), true) (by simp)]; try rfl)) hS (fun _ hS => (hS.at_ 1 rfl).rd) ((hS.at_ 1 rfl).cap1) rfl (fun _ hS => (hS.at_ 0 rfl).rd) ((hS.at_ 0 rfl).cap1) rfl)) <| obs_nil
      refine wp_ret ?_
      have hS := hS.pickN 2 [] (by decide)
      have hm : some (((r2.2.2 == 0) && (r2.2.1 == r4.2)) && r5) = some r := hm
      obtain rfl := Option.some.inj hm
      exact retV (rs := [.tmp 2]) (vs := [.bool (((r2.2.2 == 0) && (r2.2.1 == r4.2)) && r5)]) hF rfl (rv_t (by kernel_rfl) <| rv_nil) rfl ⟨rfl, hS⟩
    · refine reg [] [] [0, 3, 4, 5, 6, 22] [pl 0 (.slice A1 hand1.length c1), pl 3 (.slice A3 r2.1.length c3), pl 4 (.int .i64 r2.2.1), pl 5 (.int .i64 r2.2.2), pl 6 (.int .i64 no1), pl 22 (.bool (no1 != 0))] hF hS Fol (by kernel_rfl) (by kernel_rfl) (by kernel_rfl) ?_ (fun a w hF hS => ?_)
      · exact obs_nil
      refine cond_ev (t := 22) (b := (no1 != 0)) hF (by kernel_rfl) (fun hb => ?_) (fun hb => ?_)
      · replace hm := if_t hm hb
        refine reg [] [] [2] [pl 2 (.bool (((r2.2.2 == no1) && (r2.2.1 == 0)) && ((r2.1.length : Int) == 0)))] hF hS Fol (by kernel_rfl) (by kernel_rfl) (by kernel_rfl) ?_ (fun a w hF hS => ?_)
        · exact obs_nil
        refine wp_ret ?_
        refine then_r ?_
        have hS := hS.pickN 1 [] (by decide)
        have hm : some (((r2.2.2 == no1) && (r2.2.1 == 0)) && ((r2.1.length : Int) == 0)) = some r := hm
        obtain rfl := Option.some.inj hm
        exact retV (rs := [.tmp 2]) (vs := [.bool (((r2.2.2 == no1) && (r2.2.1 == 0)) && ((r2.1.length : Int) == 0))]) hF rfl (rv_t (by kernel_rfl) <| rv_nil) rfl ⟨rfl, hS⟩
      · replace hm := if_f hm hb
        refine wp_skip ?_
        refine then_n ?_
        exact ⟨hF.weak [0, 3, 4, 5] (by kernel_rfl), hS, hm⟩
  · refine reg [] [] [0, 3, 4, 5, 6, 18] [pl 0 (.slice A1 hand1.length c1), pl 3 (.slice A3 r2.1.length c3), pl 4 (.int .i64 r2.2.1), pl 5 (.int .i64 r2.2.2), pl 6 (.int .i64 11), pl 18 (.bool ((hand1.length : Int) == 6))] hF hS Fol (by kernel_rfl) (by kernel_rfl) (by kernel_rfl) ?_ (fun a w hF hS => ?_)
    · exact obs_nil
    refine cond_ev (t := 18) (b := ((hand1.length : Int) == 6)) hF (by kernel_rfl) (fun hb => ?_) (fun hb => ?_)
    · replace hm := if_t hm hb
      obtain ⟨r3, hr3, hm⟩ := call_b hm
      refine reg1 [⟨false, [], callFunc 26 #[.slice A1 hand1.length c1], .int .i64 r3⟩] [none, some (.int .i64 r3), none] [0, 3, 4, 5, 6] [pl 0 (.slice A1 hand1.length c1), pl 3 (.slice A3 r2.1.length c3), pl 4 (.int .i64 r2.2.1), pl 5 (.int .i64 r2.2.2), pl 6 (.int .i64 r3)] hF hS Fol (by kernel_rfl) (by kernel_rfl) (by kernel_rfl) ?_ (fun a w hF hS => ?_)
      · exact obs_cons (ob_call Try.func26 (by kernel_rfl) rfl (fun _ _ hS => gameroomref_CardsMay_w hr3 hS (fun _ hS => (hr_hand1 _ (hS.dropN 2))) _hc_hand1 rfl)) <| obs_nil
      refine then_n ?_
      have hS := hS.pickN 2 [0] (by decide)
      exact ⟨r3, hF.weak [0, 3, 4, 5, 6] (by kernel_rfl), hS, hm⟩
    · replace hm := if_f hm hb
      refine wp_skip ?_
      refine then_n ?_
      have hS := hS.pickN 2 [0] (by decide)
      exact ⟨11, hF.weak [0, 3, 4, 5, 6] (by kernel_rfl), hS, hm⟩

noncomputable def crib_Show_J2 (start1 : Int) (crib1 : Bool) (r1 : (List Int)) : Option (Int × Int) :=
  (crib_show_m (r1 ++ ([start1] : List Int)) crib1).bind fun r3 => some (r3, 0)

noncomputable def crib_Show_J1 (hand1 : List Int) (start1 : Int) (crib1 : Bool) : Option (Int × Int) :=
  (slices_Clone_m hand1).bind fun r1 => asrt ((r1.length : Int) + 1 ≤ bigN) <| (crib_check_m (r1 ++ ([start1] : List Int))).bind fun r2 => if (r2 != 0) then (some (0, r2)) else ((crib_Show_J2 start1 crib1 r1))

noncomputable def crib_Show_m (hand1 : List Int) (start1 : Int) (crib1 : Bool) : Option (Int × Int) :=
  if ((hand1.length : Int) != 4) then (some (0, 11)) else ((crib_Show_J1 hand1 start1 crib1))

set_option maxRecDepth 100000 in
set_option maxHeartbeats 4000000 in
theorem crib_Show_w {A1 : Option Addr} {c1 : Nat} {n1 : Nat} {hand1 : List Int} {start1 : Int} {crib1 : Bool} {r : (Int × Int)} {w0 w : World} {B : Nat} {fs : List HP} (hm : crib_Show_m hand1 start1 crib1 = some r) (hS : Sep w0 B w (fs)) (hr_hand1 : RdF w0 B fs A1 (vI hand1)) (_hc_hand1 : hand1.length ≤ c1) (_hn_hand1 : n1 = hand1.length) :
    Calls Try.prog 56 #[.slice A1 n1 c1, .int .i64 start1, .bool crib1] w fun e w' => e = .returned (.tuple #[.int .i64 r.1, .int .i64 r.2]) ∧ Sep w0 B w' (fs) := by
  obtain ⟨i3, hi3, hz3, hs3, hb3⟩ := info_parts Info3
  obtain rfl := _hn_hand1
  unfold crib_Show_m at hm
  replace hm := start_b hm
  refine enter (l := [.slice A1 hand1.length c1, .int .i64 start1, .bool crib1]) (n := 26) Try.func56 rfl rfl (by simp) (fun a hF => ?_)
  refine reg [] [] [0, 1, 2] [pl 0 (.slice A1 hand1.length c1), pl 1 (.int .i64 start1), pl 2 (.bool crib1)] hF hS Fol (by kernel_rfl) (by kernel_rfl) (by kernel_rfl) ?_ (fun a w hF hS => ?_)
  · exact obs_nil
  refine seq_cut (fun a w => Fr 26 [pl 0 (.slice A1 hand1.length c1), pl 1 (.int .i64 start1), pl 2 (.bool crib1)] a ∧ Sep w0 B w (fs) ∧ ((crib_Show_J1 hand1 start1 crib1)).bind some = some r) ?_ ?_
  · rintro a w ⟨hF, hS, hm⟩
    unfold crib_Show_J1 at hm
    refine seqR ?_
    obtain ⟨r1, hr1, hm⟩ := call_b hm
    obtain ⟨hp1, hm⟩ := asrt_b hm
    refine at_run 1 [] [] [1, 2, 13] [pl 1 (.int .i64 start1), pl 2 (.bool crib1), pl 13 (.slice A1 hand1.length c1)] hF hS (by kernel_rfl) (by kernel_rfl) ?_ (fun a w hF hS => ?_)
    · exact obs_nil
    refine at_call (f := 101) (args := #[.slice A1 hand1.length c1]) (d := 14) hF (by kernel_rfl) (by kernel_rfl) Try.func101 (by kernel_rfl) rfl (slices_Clone_w hr1 hS (fun _ hS => (hr_hand1 _ (hS.dropN 0))) _hc_hand1 rfl) (fun v a w hR hF => ?_)
    clear hS
    obtain ⟨A2, c2, rfl, hS⟩ := hR
    have hS : Sep w0 B w (own 3 (.slice A2 r1.length c2) (vI r1) :: fs) := hS
    refine at_run 1 [] [] [2, 14, 15] [pl 2 (.bool crib1), pl 14 (.slice A2 r1.length c2), pl 15 (.int .i64 start1)] hF hS (by kernel_rfl) (by kernel_rfl) ?_ (fun a w hF hS => ?_)
    · exact obs_nil
    refine at_do (d := 16) (s := vS (Instr.buildSlice 22 1 #[(0, .int .i64 start1)])) (v := .slice (some ⟨w.heap.size, 0, none⟩) 1 1) (w' := w.alloc (.cells #[.int .i64 start1] 3)) hF (by kernel_rfl) (by kernel_rfl) (by kernel_rfl) (fun a hF => ?_)
    have hS : Sep w0 B (w.alloc (.cells #[.int .i64 start1] 3)) (own 3 (.slice (some (⟨w.heap.size, 0, none⟩ : Addr)) 1 1) (vI ([start1] : List Int)) :: (own 3 (.slice A2 r1.length c2) (vI r1) :: fs)) := hS.lit 3 #[.int .i64 start1] 1 rfl (by omega)
    generalize (some (⟨w.heap.size, 0, none⟩ : Addr)) = g1 at hF hS
    generalize w.alloc (.cells #[.int .i64 start1] 3) = w at hS ⊢
    obtain ⟨A3, c3, w, hrun, hS⟩ := run_app1 (P := Try.prog) (t := 22) (m := r1) (ys := ([start1] : List Int)) (A2 := g1) (m2 := 1) (c2 := 1) (Value.int .i64) (0 : Int) (hS.at_ 1 rfl) (hS.at_ 0 rfl).rd ((hS.at_ 0 rfl).len1) 22 Und22 hi3 hz3 hs3 (by omega) rfl (fun _ => rfl) hp1
    have hS : Sep w0 B w (own 3 (.slice g1 1 1) (vI ([start1] : List Int)) :: own 3 (.slice A3 ((r1 ++ ([start1] : List Int)).length) c3) (vI (r1 ++ ([start1] : List Int))) :: fs) := hS
    refine at_do (d := 17) hF (by kernel_rfl) (by kernel_rfl) hrun (fun a hF => ?_)
    refine at_run 1 [] [] [2, 8] [pl 2 (.bool crib1), pl 8 (.slice A3 ((r1 ++ ([start1] : List Int)).length) c3)] hF hS (by kernel_rfl) (by kernel_rfl) ?_ (fun a w hF hS => ?_)
    · exact obs_nil
    refine at_end [2, 8] [pl 2 (.bool crib1), pl 8 (.slice A3 ((r1 ++ ([start1] : List Int)).length) c3)] hF rfl (by kernel_rfl) (fun hF => ?_)
    refine then_n ?_
    refine seq_cut (fun a w => Fr 26 [pl 2 (.bool crib1), pl 8 (.slice A3 ((r1 ++ ([start1] : List Int)).length) c3)] a ∧ Sep w0 B w (own 3 (.slice A3 ((r1 ++ ([start1] : List Int)).length) c3) (vI (r1 ++ ([start1] : List Int))) :: fs) ∧ ((crib_Show_J2 start1 crib1 r1)).bind some = some r) ?_ ?_
    · rintro a w ⟨hF, hS, hm⟩
      unfold crib_Show_J2 at hm
      obtain ⟨r3, hr3, hm⟩ := call_b hm
      refine reg [⟨false, [], callFunc 128 #[.slice A3 ((r1 ++ ([start1] : List Int)).length) c3, .bool crib1], .int .i64 r3⟩] [none, none, some (.int .i64 r3), none, none] [6, 7] [pl 6 (.int .i64 r3), pl 7 (.int .i64 0)] hF hS Fol (by kernel_rfl) (by kernel_rfl) (by kernel_rfl) ?_ (fun a w hF hS => ?_)
      · exact obs_cons (ob_call Try.func128 (by kernel_rfl) rfl (fun _ _ hS => crib_show_w hr3 hS (fun _ hS => (hS.at_ 0 rfl).rd) ((hS.at_ 0 rfl).cap1) rfl)) <| obs_nil
      refine wp_ret ?_
      have hS := hS.pickN 1 [] (by decide)
      have hm : some (r3, 0) = some r := hm
      obtain rfl := Option.some.inj hm
      exact retV (rs := [.tmp 6, .tmp 7]) (vs := [.int .i64 r3, .int .i64 0]) hF rfl (rv_t (by kernel_rfl) <| rv_t (by kernel_rfl) <| rv_nil) rfl ⟨rfl, hS⟩
    · obtain ⟨r2, hr2, hm⟩ := call_b hm
      refine reg [⟨false, [], callFunc 127 #[.slice A3 ((r1 ++ ([start1] : List Int)).length) c3], .int .i64 r2⟩] [none, some (.int .i64 r2), none] [2, 8, 9] [pl 2 (.bool crib1), pl 8 (.slice A3 ((r1 ++ ([start1] : List Int)).length) c3), pl 9 (.int .i64 r2)] hF hS Fol (by kernel_rfl) (by kernel_rfl) (by kernel_rfl) ?_ (fun a w hF hS => ?_)
      · exact obs_cons (ob_call Try.func127 (by kernel_rfl) rfl (fun _ _ hS => crib_check_w hr2 hS (fun _ hS => (hS.at_ 1 rfl).rd) ((hS.at_ 1 rfl).cap1) rfl)) <| obs_nil
      refine reg [] [] [2, 8, 9, 21] [pl 2 (.bool crib1), pl 8 (.slice A3 ((r1 ++ ([start1] : List Int)).length) c3), pl 9 (.int .i64 r2), pl 21 (.bool (r2 != 0))] hF hS Fol (by kernel_rfl) (by kernel_rfl) (by kernel_rfl) ?_ (fun a w hF hS => ?_)
      · exact obs_nil
      refine cond_ev (t := 21) (b := (r2 != 0)) hF (by kernel_rfl) (fun hb => ?_) (fun hb => ?_)
      · replace hm := if_t hm hb
        refine reg [] [] [6, 7] [pl 6 (.int .i64 0), pl 7 (.int .i64 r2)] hF hS Fol (by kernel_rfl) (by kernel_rfl) (by kernel_rfl) ?_ (fun a w hF hS => ?_)
        · exact obs_nil
        refine wp_ret ?_
        refine then_r ?_
        have hS := hS.pickN 2 [] (by decide)
        have hm : some (0, r2) = some r := hm
        obtain rfl := Option.some.inj hm
        exact retV (rs := [.tmp 6, .tmp 7]) (vs := [.int .i64 0, .int .i64 r2]) hF rfl (rv_t (by kernel_rfl) <| rv_t (by kernel_rfl) <| rv_nil) rfl ⟨rfl, hS⟩
      · replace hm := if_f hm hb
        refine wp_skip ?_
        refine then_n ?_
        have hS := hS.pickN 2 [1] (by decide)
        exact ⟨hF.weak [2, 8] (by kernel_rfl), hS, hm⟩
  · refine reg [] [] [0, 1, 2, 12] [pl 0 (.slice A1 hand1.length c1), pl 1 (.int .i64 start1), pl 2 (.bool crib1), pl 12 (.bool ((hand1.length : Int) != 4))] hF hS Fol (by kernel_rfl) (by kernel_rfl) (by kernel_rfl) ?_ (fun a w hF hS => ?_)
    · exact obs_nil
    refine cond_ev (t := 12) (b := ((hand1.length : Int) != 4)) hF (by kernel_rfl) (fun hb => ?_) (fun hb => ?_)
    · replace hm := if_t hm hb
      refine reg [] [] [6, 7] [pl 6 (.int .i64 0), pl 7 (.int .i64 11)] hF hS Fol (by kernel_rfl) (by kernel_rfl) (by kernel_rfl) ?_ (fun a w hF hS => ?_)
      · exact obs_nil
      refine wp_ret ?_
      refine then_r ?_
      have hm : some (0, 11) = some r := hm
      obtain rfl := Option.some.inj hm
      exact retV (rs := [.tmp 6, .tmp 7]) (vs := [.int .i64 0, .int .i64 11]) hF rfl (rv_t (by kernel_rfl) <| rv_t (by kernel_rfl) <| rv_nil) rfl ⟨rfl, hS⟩
    · replace hm := if_f hm hb
      refine wp_skip ?_
      refine then_n ?_
      exact ⟨hF.weak [0, 1, 2] (by kernel_rfl), hS, hm⟩

noncomputable def gameroomlaw_CribShows_J2 (start1 : Int) (crib21 : Bool) (r2 : (Int × Int)) (r3 : (List Int)) : Option Bool :=
  ((if (r2.2 == 0) then gameroomref_ShowOf_m (r3 ++ ([start1] : List Int)) crib21 else some 0)).bind fun r5 => some ((r2.2 == 0) && (r2.1 == r5))

noncomputable def gameroomlaw_CribShows_J1 (start1 : Int) (crib21 : Bool) (r2 : (Int × Int)) (r3 : (List Int)) (no1 : Int) : Option Bool :=
  if (no1 != 0) then (some ((r2.2 == no1) && (r2.1 == 0))) else ((gameroomlaw_CribShows_J2 start1 crib21 r2 r3))

noncomputable def gameroomlaw_CribShows_m (hand1 : List Int) (start1 : Int) (crib21 : Bool) : Option Bool :=
  (gameroomlaw_ints_m hand1).bind fun r1 => (crib_Show_m r1 start1 crib21).bind fun r2 => (gameroomlaw_ints_m hand1).bind fun r3 => asrt ((r3.length : Int) + 1 ≤ bigN) <| if ((hand1.length : Int) == 4) then ((gameroomref_CardsMay_m (r3 ++ ([start1] : List Int))).bind fun r4 => (gameroomlaw_CribShows_J1 start1 crib21 r2 r3) r4) else ((gameroomlaw_CribShows_J1 start1 crib21 r2 r3) 11)

set_option maxRecDepth 100000 in
set_option maxHeartbeats 4000000 in
theorem gameroomlaw_CribShows_w {A1 : Option Addr} {c1 : Nat} {n1 : Nat} {hand1 : List Int} {start1 : Int} {crib21 : Bool} {r : Bool} {w0 w : World} {B : Nat} {fs : List HP} (hm : gameroomlaw_CribShows_m hand1 start1 crib21 = some r) (hS : Sep w0 B w (fs)) (hr_hand1 : RdF w0 B fs A1 (vI hand1)) (_hc_hand1 : hand1.length ≤ c1) (_hn_hand1 : n1 = hand1.length) :
    Calls Try.prog 9 #[.slice A1 n1 c1, .int .i64 start1, .bool crib21] w fun e w' => e = .returned (.bool r) ∧ Sep w0 B w' (fs) := by
  obtain ⟨i3, hi3, hz3, hs3, hb3⟩ := info_parts Info3
  obtain rfl := _hn_hand1
  unfold gameroomlaw_CribShows_m at hm
  replace hm := start_b hm
  refine enter (l := [.slice A1 hand1.length c1, .int .i64 start1, .bool crib21]) (n := 47) Try.func9 rfl rfl (by simp) (fun a hF => ?_)
  refine reg [] [] [0, 1, 2] [pl 0 (.slice A1 hand1.length c1), pl 1 (.int .i64 start1), pl 2 (.bool crib21)] hF hS Fol (by kernel_rfl) (by kernel_rfl) (by kernel_rfl) ?_ (fun a w hF hS => ?_)
  · exact obs_nil
  refine seqR ?_
  obtain ⟨r1, hr1, hm⟩ := call_b hm
  obtain ⟨r2, hr2, hm⟩ := call_b hm
  refine at_run 1 [] [] [0, 1, 2, 12] [pl 0 (.slice A1 hand1.length c1), pl 1 (.int .i64 start1), pl 2 (.bool crib21), pl 12 (.slice A1 hand1.length c1)] hF hS (by kernel_rfl) (by kernel_rfl) ?_ (fun a w hF hS => ?_)
  · exact obs_nil
  refine at_call (f := 16) (args := #[.slice A1 hand1.length c1]) (d := 13) hF (by kernel_rfl) (by kernel_rfl) Try.func16 (by kernel_rfl) rfl (gameroomlaw_ints_w hr1 hS (fun _ hS => (hr_hand1 _ (hS.dropN 0))) _hc_hand1 rfl) (fun v a w hR hF => ?_)
  clear hS
  obtain ⟨A2, c2, rfl, hS⟩ := hR
  have hS : Sep w0 B w (own 3 (.slice A2 r1.length c2) (vI r1) :: fs) := hS
  refine at_run 8 [⟨false, [], callFunc 56 #[.slice A2 r1.length c2, .int .i64 start1, .bool crib21], .tuple #[.int .i64 r2.1, .int .i64 r2.2]⟩] [none, none, some (.tuple #[.int .i64 r2.1, .int .i64 r2.2]), none, none, none, none, none] [0, 1, 2, 7, 8] [pl 0 (.slice A1 hand1.length c1), pl 1 (.int .i64 start1), pl 2 (.bool crib21), pl 7 (.int .i64 r2.1), pl 8 (.int .i64 r2.2)] hF hS (by kernel_rfl) (by kernel_rfl) ?_ (fun a w hF hS => ?_)
  · exact obs_cons (ob_call Try.func56 (by kernel_rfl) rfl (fun _ _ hS => crib_Show_w hr2 hS (fun _ hS => (hS.at_ 0 rfl).rd) ((hS.at_ 0 rfl).cap1) rfl)) <| obs_nil
  refine at_end [0, 1, 2, 7, 8] [pl 0 (.slice A1 hand1.length c1), pl 1 (.int .i64 start1), pl 2 (.bool crib21), pl 7 (.int .i64 r2.1), pl 8 (.int .i64 r2.2)] hF rfl (by kernel_rfl) (fun hF => ?_)
  refine then_n ?_
  refine seqR ?_
  obtain ⟨r3, hr3, hm⟩ := call_b hm
  obtain ⟨hp1, hm⟩ := asrt_b hm
  refine at_run 1 [] [] [0, 1, 2, 7, 8, 19] [pl 0 (.slice A1 hand1.length c1), pl 1 (.int .i64 start1), pl 2 (.bool crib21), pl 7 (.int .i64 r2.1), pl 8 (.int .i64 r2.2), pl 19 (.slice A1 hand1.length c1)] hF hS (by kernel_rfl) (by kernel_rfl) ?_ (fun a w hF hS => ?_)
  · exact obs_nil
  refine at_call (f := 16) (args := #[.slice A1 hand1.length c1]) (d := 20) hF (by kernel_rfl) (by kernel_rfl) Try.func16 (by kernel_rfl) rfl (gameroomlaw_ints_w hr3 hS (fun _ hS => (hr_hand1 _ (hS.dropN 1))) _hc_hand1 rfl) (fun v a w hR hF => ?_)
  clear hS
  obtain ⟨A3, c3, rfl, hS⟩ := hR
  have hS : Sep w0 B w (own 3 (.slice A3 r3.length c3) (vI r3) :: own 3 (.slice A2 r1.length c2) (vI r1) :: fs) := hS
  refine at_run 1 [] [] [0, 2, 7, 8, 20, 21] [pl 0 (.slice A1 hand1.length c1), pl 2 (.bool crib21), pl 7 (.int .i64 r2.1), pl 8 (.int .i64 r2.2), pl 20 (.slice A3 r3.length c3), pl 21 (.int .i64 start1)] hF hS (by kernel_rfl) (by kernel_rfl) ?_ (fun a w hF hS => ?_)
  · exact obs_nil
  refine at_do (d := 22) (s := vS (Instr.buildSlice 22 1 #[(0, .int .i64 start1)])) (v := .slice (some ⟨w.heap.size, 0, none⟩) 1 1) (w' := w.alloc (.cells #[.int .i64 start1] 3)) hF (by kernel_rfl) (by kernel_rfl) (by kernel_rfl) (fun a hF => ?_)
  have hS : Sep w0 B (w.alloc (.cells #[.int .i64 start1] 3)) (own 3 (.slice (some (⟨w.heap.size, 0, none⟩ : Addr)) 1 1) (vI ([start1] : List Int)) :: (own 3 (.slice A3 r3.length c3) (vI r3) :: own 3 (.slice A2 r1.length c2) (vI r1) :: fs)) := hS.lit 3 #[.int .i64 start1] 1 rfl (by omega)
  generalize (some (⟨w.heap.size, 0, none⟩ : Addr)) = g1 at hF hS
  generalize w.alloc (.cells #[.int .i64 start1] 3) = w at hS ⊢
  obtain ⟨A4, c4, w, hrun, hS⟩ := run_app1 (P := Try.prog) (t := 22) (m := r3) (ys := ([start1] : List Int)) (A2 := g1) (m2 := 1) (c2 := 1) (Value.int .i64) (0 : Int) (hS.at_ 1 rfl) (hS.at_ 0 rfl).rd ((hS.at_ 0 rfl).len1) 22 Und22 hi3 hz3 hs3 (by omega) rfl (fun _ => rfl) hp1
  have hS : Sep w0 B w (own 3 (.slice g1 1 1) (vI ([start1] : List Int)) :: own 3 (.slice A4 ((r3 ++ ([start1] : List Int)).length) c4) (vI (r3 ++ ([start1] : List Int))) :: own 3 (.slice A2 r1.length c2) (vI r1) :: fs) := hS
  refine at_do (d := 23) hF (by kernel_rfl) (by kernel_rfl) hrun (fun a hF => ?_)
  refine at_run 1 [] [] [0, 2, 7, 8, 9] [pl 0 (.slice A1 hand1.length c1), pl 2 (.bool crib21), pl 7 (.int .i64 r2.1), pl 8 (.int .i64 r2.2), pl 9 (.slice A4 ((r3 ++ ([start1] : List Int)).length) c4)] hF hS (by kernel_rfl) (by kernel_rfl) ?_ (fun a w hF hS => ?_)
  · exact obs_nil
  refine at_end [0, 2, 7, 8, 9] [pl 0 (.slice A1 hand1.length c1), pl 2 (.bool crib21), pl 7 (.int .i64 r2.1), pl 8 (.int .i64 r2.2), pl 9 (.slice A4 ((r3 ++ ([start1] : List Int)).length) c4)] hF rfl (by kernel_rfl) (fun hF => ?_)
  refine then_n ?_
  refine reg [] [] [0, 2, 7, 8, 9, 10] [pl 0 (.slice A1 hand1.length c1), pl 2 (.bool crib21), pl 7 (.int .i64 r2.1), pl 8 (.int .i64 r2.2), pl 9 (.slice A4 ((r3 ++ ([start1] : List Int)).length) c4), pl 10 (.int .i64 11)] hF hS Fol (by kernel_rfl) (by kernel_rfl) (by kernel_rfl) ?_ (fun a w hF hS => ?_)
  · exact obs_nil
  refine seq_cut (fun a w => ∃ (no1 : Int), Fr 47 [pl 2 (.bool crib21), pl 7 (.int .i64 r2.1), pl 8 (.int .i64 r2.2), pl 9 (.slice A4 ((r3 ++ ([start1] : List Int)).length) c4), pl 10 (.int .i64 no1)] a ∧ Sep w0 B w (own 3 (.slice A4 ((r3 ++ ([start1] : List Int)).length) c4) (vI (r3 ++ ([start1] : List Int))) :: fs) ∧ ((gameroomlaw_CribShows_J1 start1 crib21 r2 r3) no1).bind some = some r) ?_ ?_
  · rintro a w ⟨no1, hF, hS, hm⟩
    unfold gameroomlaw_CribShows_J1 at hm
    refine seq_cut (fun a w => Fr 47 [pl 2 (.bool crib21), pl 7 (.int .i64 r2.1), pl 8 (.int .i64 r2.2), pl 9 (.slice A4 ((r3 ++ ([start1] : List Int)).length) c4)] a ∧ Sep w0 B w (own 3 (.slice A4 ((r3 ++ ([start1] : List Int)).length) c4) (vI (r3 ++ ([start1] : List Int))) :: fs) ∧ ((gameroomlaw_CribShows_J2 start1 crib21 r2 r3)).bind some = some r) ?_ ?_
    · rintro a w ⟨hF, hS, hm⟩
      unfold gameroomlaw_CribShows_J2 at hm
      obtain ⟨r5, hr5, hm⟩ := call_b hm
      refine reg [⟨false, [((r2.2 == 0), true)], callFunc 57 #[.slice A4 ((r3 ++ ([start1] : List Int)).length) c4, .bool crib21], .int .i64 r5⟩] [none, none, none, none, none, none, some (.int .i64 r5), none, none, none] [6] [pl 6 (.bool ((r2.2 == 0) && (r2.1 == r5)))] hF hS Fol (by kernel_rfl) (by kernel_rfl) (by kernel_rfl) ?_ (fun a w hF hS => ?_)
      · exact obs_cons (ob_call Try.func57 (by kernel_rfl) rfl (fun hy _ hS => gameroomref_ShowOf_w (ite_some hr5 (by rw [show (r2.2 == 0) = true from hy ((r2.2 == 0), true) (by simp)]; try rfl)) hS (fun _ hS => (hS.at_ 0 rfl).rd) ((hS.at_ 0 rfl).cap1) rfl)) <| obs_nil
      refine wp_ret ?_
      have hS := hS.pickN 1 [] (by decide)
      have hm : some ((r2.2 == 0) && (r2.1 == r5)) = some r := hm
      obtain rfl := Option.some.inj hm
      exact retV (rs := [.tmp 6]) (vs := [.bool ((r2.2 == 0) && (r2.1 == r5))]) hF rfl (rv_t (by kernel_rfl) <| rv_nil) rfl ⟨rfl, hS⟩
    · refine reg [] [] [2, 7, 8, 9, 10, 30] [pl 2 (.bool crib21), pl 7 (.int .i64 r2.1), pl 8 (.int .i64 r2.2), pl 9 (.slice A4 ((r3 ++ ([start1] : List Int)).length) c4), pl 10 (.int .i64 no1), pl 30 (.bool (no1 != 0))] hF hS Fol (by kernel_rfl) (by kernel_rfl) (by kernel_rfl) ?_ (fun a w hF hS => ?_)
      · exact obs_nil
      refine cond_ev (t := 30) (b := (no1 != 0)) hF (by kernel_rfl) (fun hb => ?_) (fun hb => ?_)
      · replace hm := if_t hm hb
        refine reg [] [] [6] [pl 6 (.bool ((r2.2 == no1) && (r2.1 == 0)))] hF hS Fol (by kernel_rfl) (by kernel_rfl) (by kernel_rfl) ?_ (fun a w hF hS => ?_)
        · exact obs_nil
        refine wp_ret ?_
        refine then_r ?_
        have hS := hS.pickN 1 [] (by decide)
        have hm : some ((r2.2 == no1) && (r2.1 == 0)) = some r := hm
        obtain rfl := Option.some.inj hm
        exact retV (rs := [.tmp 6]) (vs := [.bool ((r2.2 == no1) && (r2.1 == 0))]) hF rfl (rv_t (by kernel_rfl) <| rv_nil) rfl ⟨rfl, hS⟩
      · replace hm := if_f hm hb
        refine wp_skip ?_
        refine then_n ?_
        exact ⟨hF.weak [2, 7, 8, 9] (by kernel_rfl), hS, hm⟩
  · refine reg [] [] [2, 7, 8, 9, 10, 26] [pl 2 (.bool crib21), pl 7 (.int .i64 r2.1), pl 8 (.int .i64 r2.2), pl 9 (.slice A4 ((r3 ++ ([start1] : List Int)).length) c4), pl 10 (.int .i64 11), pl 26 (.bool ((hand1.length : Int) == 4))] hF hS Fol (by kernel_rfl) (by kernel_rfl) (by kernel_rfl) ?_ (fun a w hF hS => ?_)
    · exact obs_nil
    refine cond_ev (t := 26) (b := ((hand1.length : Int) == 4)) hF (by kernel_rfl) (fun hb => ?_) (fun hb => ?_)
    · replace hm := if_t hm hb
      obtain ⟨r4, hr4, hm⟩ := call_b hm
      refine reg1 [⟨false, [], callFunc 26 #[.slice A4 ((r3 ++ ([start1] : List Int)).length) c4], .int .i64 r4⟩] [none, some (.int .i64 r4), none] [2, 7, 8, 9, 10] [pl 2 (.bool crib21), pl 7 (.int .i64 r2.1), pl 8 (.int .i64 r2.2), pl 9 (.slice A4 ((r3 ++ ([start1] : List Int)).length) c4), pl 10 (.int .i64 r4)] hF hS Fol (by kernel_rfl) (by kernel_rfl) (by kernel_rfl) ?_ (fun a w hF hS => ?_)
      · exact obs_cons (ob_call Try.func26 (by kernel_rfl) rfl (fun _ _ hS => gameroomref_CardsMay_w hr4 hS (fun _ hS => (hS.at_ 1 rfl).rd) ((hS.at_ 1 rfl).cap1) rfl)) <| obs_nil
      refine then_n ?_
      have hS := hS.pickN 3 [1] (by decide)
      exact ⟨r4, hF.weak [2, 7, 8, 9, 10] (by kernel_rfl), hS, hm⟩
    · replace hm := if_f hm hb
      refine wp_skip ?_
      refine then_n ?_
      have hS := hS.pickN 3 [1] (by decide)
      exact ⟨11, hF.weak [2, 7, 8, 9, 10] (by kernel_rfl), hS, hm⟩

end Go.Proofs.Ytlkdblflibgfpaa
