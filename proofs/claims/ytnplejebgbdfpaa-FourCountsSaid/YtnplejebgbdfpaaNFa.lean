/-
  Models and walks, printed by our own program (wip/gen).
-/
import Derived.Test.YtnplejebgbdfpaaFB
namespace Go.Proofs.Ytnplejebgbdfpaa
open Go Go.GL Go.RowKit




noncomputable def four_far_m (k1 : Int) : Option Bool :=
  some ((decide (k1 < 1)) || (decide ((10 : Int) < k1)))

set_option maxRecDepth 100000 in
set_option maxHeartbeats 4000000 in
theorem four_far_w {k1 : Int} {r : Bool} {w0 w : World} {B : Nat} {fs : List HP} (hm : four_far_m k1 = some r) (hS : Sep w0 B w (fs)) :
    Calls Try.prog 66 #[.int .i64 k1] w fun e w' => e = .returned (.bool r) ∧ Sep w0 B w' (fs) := by
  unfold four_far_m at hm
  replace hm := start_b hm
  refine enter (l := [.int .i64 k1]) (n := 9) Try.func66 rfl rfl (by simp) (fun a hF => ?_)
  refine reg [] [] [0] [pl 0 (.int .i64 k1)] hF hS Fol (by kernel_rfl) (by kernel_rfl) (by kernel_rfl) ?_ (fun a w hF hS => ?_)
  · exact obs_nil
  refine reg [] [] [2] [pl 2 (.bool ((decide (k1 < 1)) || (decide ((10 : Int) < k1))))] hF hS Fol (by kernel_rfl) (by kernel_rfl) (by kernel_rfl) ?_ (fun a w hF hS => ?_)
  · exact obs_nil
  refine wp_ret ?_
  have hm : some ((decide (k1 < 1)) || (decide ((10 : Int) < k1))) = some r := hm
  obtain rfl := Option.some.inj hm
  exact retV (rs := [.tmp 2]) (vs := [.bool ((decide (k1 < 1)) || (decide ((10 : Int) < k1)))]) hF rfl (rv_t (by kernel_rfl) <| rv_nil) rfl ⟨rfl, hS⟩

noncomputable def four_well_fall_J3 (y1 : Int) : Option (St Int (Fl Unit Int)) :=
  some (.next (w64 (y1 - 1)))

noncomputable def four_well_fall_J2 (w_Grid_W1 : Int) (w_Grid_Cells1 : List Int) (column1 : Int) (y1 : Int) : Option (St Int (Fl Unit Int)) :=
  asrt (0 ≤ (w64 ((w64 (y1 * w_Grid_W1)) + column1)) ∧ (w64 ((w64 (y1 * w_Grid_W1)) + column1)) < (w_Grid_Cells1.length : Int)) <| if ((geti w_Grid_Cells1 (w64 ((w64 (y1 * w_Grid_W1)) + column1))) == 0) then (some (.done (.ret (w64 ((w64 (y1 * w_Grid_W1)) + column1))))) else ((four_well_fall_J3 y1))

noncomputable def four_well_fall_J1 : Option Int :=
  some (-1)

noncomputable def four_well_fall_K1 : (Fl Unit Int) → Option Int :=
  fun (x : (Fl Unit Int)) => match x with | .go _ => four_well_fall_J1 | .ret x => some x

noncomputable def four_well_fall_L1 (w_Grid_W1 : Int) (w_Grid_Cells1 : List Int) (column1 : Int) : Int → Option (St Int (Fl Unit Int)) :=
  fun (x : Int) => match x with | y1 => if (decide ((0 : Int) ≤ y1)) then ((four_well_fall_J2 w_Grid_W1 w_Grid_Cells1 column1 y1)) else (some (.done (.go ())))

noncomputable def four_well_fall_m (w_Grid_W1 : Int) (w_Grid_H1 : Int) (w_Grid_Cells1 : List Int) (w_k1 : Int) (w_moved1 : Int) (column1 : Int) : Option Int :=
  (loop (four_well_fall_L1 w_Grid_W1 w_Grid_Cells1 column1) (w64 (w_Grid_H1 - 1))).bind four_well_fall_K1

set_option maxRecDepth 100000 in
set_option maxHeartbeats 4000000 in
theorem four_well_fall_w {g1 : Nat} {w_Grid_W1 : Int} {w_Grid_H1 : Int} {A1 : Option Addr} {c1 : Nat} {n1 : Nat} {w_Grid_Cells1 : List Int} {w_k1 : Int} {w_moved1 : Int} {column1 : Int} {r : Int} {w0 w : World} {B : Nat} {fs : List HP} (hm : four_well_fall_m w_Grid_W1 w_Grid_H1 w_Grid_Cells1 w_k1 w_moved1 column1 = some r) (hS : Sep w0 B w (blk g1 94 #[.int .i64 w_Grid_W1, .int .i64 w_Grid_H1, .slice A1 n1 c1, .int .i64 w_k1, .int .i64 w_moved1] :: own 3 (.slice A1 n1 c1) (vI w_Grid_Cells1) :: fs)) :
    Calls Try.prog 68 #[.pointer (some ⟨g1, 0, none⟩), .int .i64 column1] w fun e w' => e = .returned (.int .i64 r) ∧ Sep w0 B w' (blk g1 94 #[.int .i64 w_Grid_W1, .int .i64 w_Grid_H1, .slice A1 n1 c1, .int .i64 w_k1, .int .i64 w_moved1] :: own 3 (.slice A1 n1 c1) (vI w_Grid_Cells1) :: fs) := by
  obtain ⟨i3, hi3, hz3, hs3, hb3⟩ := info_parts Info3
  obtain rfl := (hS.at_ 1 rfl).len1
  unfold four_well_fall_m at hm
  replace hm := start_b hm
  refine enter (l := [.pointer (some ⟨g1, 0, none⟩), .int .i64 column1]) (n := 36) Try.func68 rfl rfl (by simp) (fun a hF => ?_)
  refine reg [] [] [0, 1] [pl 0 (.pointer (some ⟨g1, 0, none⟩)), pl 1 (.int .i64 column1)] hF hS Fol (by kernel_rfl) (by kernel_rfl) (by kernel_rfl) ?_ (fun a w hF hS => ?_)
  · exact obs_nil
  refine seq_cut (fun a w => Fr 36 [] a ∧ Sep w0 B w (blk g1 94 #[.int .i64 w_Grid_W1, .int .i64 w_Grid_H1, .slice A1 w_Grid_Cells1.length c1, .int .i64 w_k1, .int .i64 w_moved1] :: own 3 (.slice A1 w_Grid_Cells1.length c1) (vI w_Grid_Cells1) :: fs) ∧ (four_well_fall_J1).bind some = some r) ?_ ?_
  · rintro a w ⟨hF, hS, hm⟩
    unfold four_well_fall_J1 at hm
    refine reg [] [] [4] [pl 4 (.int .i64 (-1))] hF hS Fol (by kernel_rfl) (by kernel_rfl) (by kernel_rfl) ?_ (fun a w hF hS => ?_)
    · exact obs_nil
    refine wp_ret ?_
    have hm : some (-1) = some r := hm
    obtain rfl := Option.some.inj hm
    exact retV (rs := [.tmp 4]) (vs := [.int .i64 (-1)]) hF rfl (rv_t (by kernel_rfl) <| rv_nil) rfl ⟨rfl, hS⟩
  · refine reg [⟨false, [], vS (Instr.loadAt 3 (.pointer (some ⟨g1, 1, none⟩))), .int .i64 w_Grid_H1⟩] [none, none, none, none, some (.int .i64 w_Grid_H1), none, none] [0, 1, 5] [pl 0 (.pointer (some ⟨g1, 0, none⟩)), pl 1 (.int .i64 column1), pl 5 (.int .i64 (w64 (w_Grid_H1 - 1)))] hF hS Fol (by kernel_rfl) (by kernel_rfl) (by kernel_rfl) ?_ (fun a w hF hS => ?_)
    · exact obs_cons (ob_load Agg3 (fun _ _ hS => (hS.at_ 0 rfl).cell rfl)) <| obs_nil
    refine wp_block ?_
    refine wp_loop_model (S := Int) (R := (Fl Unit Int)) (four_well_fall_L1 w_Grid_W1 w_Grid_Cells1 column1) (fun x => (four_well_fall_K1 x).bind some) r (fun (x : Int) a w => Fr 36 [pl 0 (.pointer (some ⟨g1, 0, none⟩)), pl 1 (.int .i64 column1), pl 5 (.int .i64 x)] a ∧ Sep w0 B w (blk g1 94 #[.int .i64 w_Grid_W1, .int .i64 w_Grid_H1, .slice A1 w_Grid_Cells1.length c1, .int .i64 w_k1, .int .i64 w_moved1] :: own 3 (.slice A1 w_Grid_Cells1.length c1) (vI w_Grid_Cells1) :: fs)) (assoc_b hm) ⟨hF.weak [0, 1, 5] (by kernel_rfl), hS⟩ ?_
    clear hF hS hm
    rintro nn1 y1 a w ⟨hF, hS⟩ hm
    generalize hφ1 : stK (four_well_fall_L1 w_Grid_W1 w_Grid_Cells1 column1) nn1 (fun x => (four_well_fall_K1 x).bind some) = φ1 at hm
    unfold four_well_fall_L1 at hm
    dsimp only at hm
    refine seq_cut (fun a w => Fr 36 [pl 0 (.pointer (some ⟨g1, 0, none⟩)), pl 1 (.int .i64 column1), pl 5 (.int .i64 y1)] a ∧ Sep w0 B w (blk g1 94 #[.int .i64 w_Grid_W1, .int .i64 w_Grid_H1, .slice A1 w_Grid_Cells1.length c1, .int .i64 w_k1, .int .i64 w_moved1] :: own 3 (.slice A1 w_Grid_Cells1.length c1) (vI w_Grid_Cells1) :: fs) ∧ ((four_well_fall_J2 w_Grid_W1 w_Grid_Cells1 column1 y1)).bind φ1 = some r) ?_ ?_
    · rintro a w ⟨hF, hS, hm⟩
      unfold four_well_fall_J2 at hm
      refine seq_cut (fun a w => Fr 36 [pl 0 (.pointer (some ⟨g1, 0, none⟩)), pl 1 (.int .i64 column1), pl 5 (.int .i64 y1)] a ∧ Sep w0 B w (blk g1 94 #[.int .i64 w_Grid_W1, .int .i64 w_Grid_H1, .slice A1 w_Grid_Cells1.length c1, .int .i64 w_k1, .int .i64 w_moved1] :: own 3 (.slice A1 w_Grid_Cells1.length c1) (vI w_Grid_Cells1) :: fs) ∧ ((four_well_fall_J3 y1)).bind φ1 = some r) ?_ ?_
      · rintro a w ⟨hF, hS, hm⟩
        unfold four_well_fall_J3 at hm
        refine reg1 [] [] [0, 1, 5] [pl 0 (.pointer (some ⟨g1, 0, none⟩)), pl 1 (.int .i64 column1), pl 5 (.int .i64 (w64 (y1 - 1)))] hF hS Fol (by kernel_rfl) (by kernel_rfl) (by kernel_rfl) ?_ (fun a w hF hS => ?_)
        · exact obs_nil
        refine then_n ?_
        rw [← hφ1] at hm
        exact ⟨(w64 (y1 - 1)), ⟨hF.weak [0, 1, 5] (by kernel_rfl), hS⟩, hm⟩
      · refine wp_block ?_
        refine reg [⟨false, [], vS (Instr.loadAt 3 (.pointer (some ⟨g1, 0, none⟩))), .int .i64 w_Grid_W1⟩] [none, none, none, none, none, some (.int .i64 w_Grid_W1), none, none, none, none] [0, 1, 5, 6] [pl 0 (.pointer (some ⟨g1, 0, none⟩)), pl 1 (.int .i64 column1), pl 5 (.int .i64 y1), pl 6 (.int .i64 (w64 ((w64 (y1 * w_Grid_W1)) + column1)))] hF hS Fol (by kernel_rfl) (by kernel_rfl) (by kernel_rfl) ?_ (fun a w hF hS => ?_)
        · exact obs_cons (ob_load Agg3 (fun _ _ hS => (hS.at_ 0 rfl).cell rfl)) <| obs_nil
        obtain ⟨hp1, hm⟩ := asrt_b hm
        refine reg [⟨false, [], vS (Instr.loadAt 22 (.pointer (some ⟨g1, 2, none⟩))), .slice A1 w_Grid_Cells1.length c1⟩, ⟨true, [], vS (Instr.indexAt 22 (.slice A1 w_Grid_Cells1.length c1) (.int .i64 (w64 ((w64 (y1 * w_Grid_W1)) + column1)))), .pointer (some (sAddr A1 (w64 ((w64 (y1 * w_Grid_W1)) + column1))))⟩, ⟨false, [], vS (Instr.loadAt 3 (.pointer (some (sAddr A1 (w64 ((w64 (y1 * w_Grid_W1)) + column1)))))), .int .i64 (geti w_Grid_Cells1 (w64 ((w64 (y1 * w_Grid_W1)) + column1)))⟩] [none, none, none, none, some (.slice A1 w_Grid_Cells1.length c1), none, some (.pointer (some (sAddr A1 (w64 ((w64 (y1 * w_Grid_W1)) + column1))))), some (.int .i64 (geti w_Grid_Cells1 (w64 ((w64 (y1 * w_Grid_W1)) + column1)))), none] [0, 1, 5, 6, 34] [pl 0 (.pointer (some ⟨g1, 0, none⟩)), pl 1 (.int .i64 column1), pl 5 (.int .i64 y1), pl 6 (.int .i64 (w64 ((w64 (y1 * w_Grid_W1)) + column1))), pl 34 (.bool ((geti w_Grid_Cells1 (w64 ((w64 (y1 * w_Grid_W1)) + column1))) == 0))] hF hS Fol (by kernel_rfl) (by kernel_rfl) (by kernel_rfl) ?_ (fun a w hF hS => ?_)
        · exact obs_cons (ob_load Agg22 (fun _ _ hS => (hS.at_ 0 rfl).cell rfl)) <| obs_cons (ob_ix1 (f := (Value.int .i64)) (m := w_Grid_Cells1) Und22 hi3 hs3 (hS.at_ 1 rfl).rd rfl (fun _ => hp1)) <| obs_cons (ob_get1 (n := w_Grid_Cells1.length) (m := w_Grid_Cells1) (Value.int .i64) (0 : Int) Agg3 (fun _ hS => ⟨_, (hS.at_ 1 rfl).rd⟩) (fun _ hS => rfl) (fun _ => hp1)) <| obs_nil
        refine cond_ev (t := 34) (b := ((geti w_Grid_Cells1 (w64 ((w64 (y1 * w_Grid_W1)) + column1))) == 0)) hF (by kernel_rfl) (fun hb => ?_) (fun hb => ?_)
        · replace hm := if_t hm hb
          refine reg [] [] [4] [pl 4 (.int .i64 (w64 ((w64 (y1 * w_Grid_W1)) + column1)))] hF hS Fol (by kernel_rfl) (by kernel_rfl) (by kernel_rfl) ?_ (fun a w hF hS => ?_)
          · exact obs_nil
          refine wp_ret ?_
          refine block_r (then_r (then_r (block_r (then_r ?_))))
          rw [← hφ1] at hm
          replace hm := done_b hm
          unfold four_well_fall_K1 at hm
          try dsimp only at hm
          have hm : some (w64 ((w64 (y1 * w_Grid_W1)) + column1)) = some r := hm
          obtain rfl := Option.some.inj hm
          exact retV (rs := [.tmp 4]) (vs := [.int .i64 (w64 ((w64 (y1 * w_Grid_W1)) + column1))]) hF rfl (rv_t (by kernel_rfl) <| rv_nil) rfl ⟨rfl, hS⟩
        · replace hm := if_f hm hb
          refine wp_skip ?_
          refine block_n ?_
          refine then_n ?_
          exact ⟨hF.weak [0, 1, 5] (by kernel_rfl), hS, hm⟩
    · refine reg [] [] [0, 1, 5, 14] [pl 0 (.pointer (some ⟨g1, 0, none⟩)), pl 1 (.int .i64 column1), pl 5 (.int .i64 y1), pl 14 (.bool (decide ((0 : Int) ≤ y1)))] hF hS Fol (by kernel_rfl) (by kernel_rfl) (by kernel_rfl) ?_ (fun a w hF hS => ?_)
      · exact obs_nil
      refine cond_ev (t := 14) (b := decide ((0 : Int) ≤ y1)) hF (by kernel_rfl) (fun hb => ?_) (fun hb => ?_)
      · replace hm := if_t hm hb
        refine wp_skip ?_
        refine then_n ?_
        exact ⟨hF.weak [0, 1, 5] (by kernel_rfl), hS, hm⟩
      · replace hm := if_f hm hb
        refine wp_exit ?_
        refine then_e (then_e (block_e (then_n ?_)))
        rw [← hφ1] at hm
        replace hm := done_b hm
        unfold four_well_fall_K1 at hm
        try dsimp only at hm
        have hm : (four_well_fall_J1).bind some = some r := hm
        exact ⟨hF.weak [] (by kernel_rfl), hS, hm⟩

noncomputable def four_well_won_J8 (z1 : Int) (z2 : Int) (n4 : Int) (a1 : Int) (b1 : Int) : Option (St (Int × Int × Int) Int) :=
  some (.next ((w64 (n4 + 1)), (w64 (a1 + (w64 ((geti ([1, (-1)] : List Int) z2) * (geti ([1, 0, 0, 1, 1, 1, 1, (-1)] : List Int) (z1 * 2)))))), (w64 (b1 + (w64 ((geti ([1, (-1)] : List Int) z2) * (geti ([1, 0, 0, 1, 1, 1, 1, (-1)] : List Int) (z1 * 2 + 1))))))))

noncomputable def four_well_won_J7 (z1 : Int) (z2 : Int) (n4 : Int) (a1 : Int) (b1 : Int) : Option (St (Int × Int × Int) Int) :=
  (four_well_won_J8 z1 z2 n4 a1 b1)

noncomputable def four_well_won_J6 (z2 : Int) (n5 : Int) : Option (St (Int × Int) Int) :=
  some (.next (n5, (w64 (z2 + 1))))

noncomputable def four_well_won_K3 (z2 : Int) : Int → Option (St (Int × Int) Int) :=
  fun (x : Int) => match x with | n5 => (four_well_won_J6 z2) n5

noncomputable def four_well_won_L3 (w_Grid_W1 : Int) (w_Grid_H1 : Int) (w_Grid_Cells1 : List Int) (at1 : Int) (z1 : Int) (z2 : Int) : (Int × Int × Int) → Option (St (Int × Int × Int) Int) :=
  fun (x : (Int × Int × Int)) => match x with | (n4, a1, b1) => asrt (((((decide ((0 : Int) ≤ a1)) && (decide (a1 < w_Grid_W1))) && (decide ((0 : Int) ≤ b1))) && (decide (b1 < w_Grid_H1))) = true → 0 ≤ (w64 ((w64 (b1 * w_Grid_W1)) + a1)) ∧ (w64 ((w64 (b1 * w_Grid_W1)) + a1)) < (w_Grid_Cells1.length : Int)) <| if (((((decide ((0 : Int) ≤ a1)) && (decide (a1 < w_Grid_W1))) && (decide ((0 : Int) ≤ b1))) && (decide (b1 < w_Grid_H1))) && ((geti w_Grid_Cells1 (w64 ((w64 (b1 * w_Grid_W1)) + a1))) == (geti w_Grid_Cells1 at1))) then ((four_well_won_J7 z1 z2 n4 a1 b1)) else (some (.done n4))

noncomputable def four_well_won_J5 (w_Grid_W1 : Int) (w_Grid_H1 : Int) (w_Grid_Cells1 : List Int) (at1 : Int) (z1 : Int) (n2 : Int) (z2 : Int) : Option (St (Int × Int) Int) :=
  asrt (0 ≤ z2 ∧ z2 < 2) <| (loop (four_well_won_L3 w_Grid_W1 w_Grid_H1 w_Grid_Cells1 at1 z1 z2) (n2, (w64 ((Int.tmod at1 w_Grid_W1) + (w64 ((geti ([1, (-1)] : List Int) z2) * (geti ([1, 0, 0, 1, 1, 1, 1, (-1)] : List Int) (z1 * 2)))))), (w64 ((w64 (Int.tdiv at1 w_Grid_W1)) + (w64 ((geti ([1, (-1)] : List Int) z2) * (geti ([1, 0, 0, 1, 1, 1, 1, (-1)] : List Int) (z1 * 2 + 1)))))))).bind (four_well_won_K3 z2)

noncomputable def four_well_won_J3 (z1 : Int) : Option (St Int (Fl Unit Bool)) :=
  some (.next (w64 (z1 + 1)))

noncomputable def four_well_won_J4 (w_k1 : Int) (z1 : Int) (n3 : Int) : Option (St Int (Fl Unit Bool)) :=
  if (decide (w_k1 ≤ n3)) then (some (.done (.ret true))) else ((four_well_won_J3 z1))

noncomputable def four_well_won_K2 (w_k1 : Int) (z1 : Int) : Int → Option (St Int (Fl Unit Bool)) :=
  fun (x : Int) => match x with | n3 => (four_well_won_J4 w_k1 z1) n3

noncomputable def four_well_won_L2 (w_Grid_W1 : Int) (w_Grid_H1 : Int) (w_Grid_Cells1 : List Int) (at1 : Int) (z1 : Int) : (Int × Int) → Option (St (Int × Int) Int) :=
  fun (x : (Int × Int)) => match x with | (n2, z2) => if (decide (z2 < 2)) then ((four_well_won_J5 w_Grid_W1 w_Grid_H1 w_Grid_Cells1 at1 z1 n2 z2)) else (some (.done n2))

noncomputable def four_well_won_J2 (w_Grid_W1 : Int) (w_Grid_H1 : Int) (w_Grid_Cells1 : List Int) (w_k1 : Int) (at1 : Int) (z1 : Int) : Option (St Int (Fl Unit Bool)) :=
  asrt (0 ≤ z1 ∧ z1 < 4) <| (loop (four_well_won_L2 w_Grid_W1 w_Grid_H1 w_Grid_Cells1 at1 z1) (1, 0)).bind (four_well_won_K2 w_k1 z1)

noncomputable def four_well_won_J1 : Option Bool :=
  some false

noncomputable def four_well_won_K1 : (Fl Unit Bool) → Option Bool :=
  fun (x : (Fl Unit Bool)) => match x with | .go _ => four_well_won_J1 | .ret x => some x

noncomputable def four_well_won_L1 (w_Grid_W1 : Int) (w_Grid_H1 : Int) (w_Grid_Cells1 : List Int) (w_k1 : Int) (at1 : Int) : Int → Option (St Int (Fl Unit Bool)) :=
  fun (x : Int) => match x with | z1 => if (decide (z1 < 4)) then ((four_well_won_J2 w_Grid_W1 w_Grid_H1 w_Grid_Cells1 w_k1 at1 z1)) else (some (.done (.go ())))

noncomputable def four_well_won_m (w_Grid_W1 : Int) (w_Grid_H1 : Int) (w_Grid_Cells1 : List Int) (w_k1 : Int) (w_moved1 : Int) (at1 : Int) : Option Bool :=
  asrt (0 ≤ at1 ∧ at1 < (w_Grid_Cells1.length : Int)) <| asrt (w_Grid_W1 ≠ (0 : Int)) <| asrt (w_Grid_W1 ≠ (0 : Int)) <| (loop (four_well_won_L1 w_Grid_W1 w_Grid_H1 w_Grid_Cells1 w_k1 at1) 0).bind four_well_won_K1

set_option maxRecDepth 100000 in
set_option maxHeartbeats 4000000 in
theorem four_well_won_w {g1 : Nat} {w_Grid_W1 : Int} {w_Grid_H1 : Int} {A1 : Option Addr} {c1 : Nat} {n1 : Nat} {w_Grid_Cells1 : List Int} {w_k1 : Int} {w_moved1 : Int} {at1 : Int} {r : Bool} {w0 w : World} {B : Nat} {fs : List HP} (hm : four_well_won_m w_Grid_W1 w_Grid_H1 w_Grid_Cells1 w_k1 w_moved1 at1 = some r) (hS : Sep w0 B w (blk g1 94 #[.int .i64 w_Grid_W1, .int .i64 w_Grid_H1, .slice A1 n1 c1, .int .i64 w_k1, .int .i64 w_moved1] :: own 3 (.slice A1 n1 c1) (vI w_Grid_Cells1) :: fs)) :
    Calls Try.prog 69 #[.pointer (some ⟨g1, 0, none⟩), .int .i64 at1] w fun e w' => e = .returned (.bool r) ∧ Sep w0 B w' (blk g1 94 #[.int .i64 w_Grid_W1, .int .i64 w_Grid_H1, .slice A1 n1 c1, .int .i64 w_k1, .int .i64 w_moved1] :: own 3 (.slice A1 n1 c1) (vI w_Grid_Cells1) :: fs) := by
  obtain ⟨i3, hi3, hz3, hs3, hb3⟩ := info_parts Info3
  obtain rfl := (hS.at_ 1 rfl).len1
  unfold four_well_won_m at hm
  replace hm := start_b hm
  refine enter (l := [.pointer (some ⟨g1, 0, none⟩), .int .i64 at1]) (n := 127) Try.func69 rfl rfl (by simp) (fun a hF => ?_)
  refine reg [] [] [0, 1] [pl 0 (.pointer (some ⟨g1, 0, none⟩)), pl 1 (.int .i64 at1)] hF hS Fol (by kernel_rfl) (by kernel_rfl) (by kernel_rfl) ?_ (fun a w hF hS => ?_)
  · exact obs_nil
  obtain ⟨hp1, hm⟩ := asrt_b hm
  refine reg [⟨false, [], vS (Instr.loadAt 22 (.pointer (some ⟨g1, 2, none⟩))), .slice A1 w_Grid_Cells1.length c1⟩, ⟨true, [], vS (Instr.indexAt 22 (.slice A1 w_Grid_Cells1.length c1) (.int .i64 at1)), .pointer (some (sAddr A1 at1))⟩, ⟨false, [], vS (Instr.loadAt 3 (.pointer (some (sAddr A1 at1)))), .int .i64 (geti w_Grid_Cells1 at1)⟩] [none, none, none, none, some (.slice A1 w_Grid_Cells1.length c1), none, some (.pointer (some (sAddr A1 at1))), some (.int .i64 (geti w_Grid_Cells1 at1)), none] [0, 1, 5] [pl 0 (.pointer (some ⟨g1, 0, none⟩)), pl 1 (.int .i64 at1), pl 5 (.int .i64 (geti w_Grid_Cells1 at1))] hF hS Fol (by kernel_rfl) (by kernel_rfl) (by kernel_rfl) ?_ (fun a w hF hS => ?_)
  · exact obs_cons (ob_load Agg22 (fun _ _ hS => (hS.at_ 0 rfl).cell rfl)) <| obs_cons (ob_ix1 (f := (Value.int .i64)) (m := w_Grid_Cells1) Und22 hi3 hs3 (hS.at_ 1 rfl).rd rfl (fun _ => hp1)) <| obs_cons (ob_get1 (n := w_Grid_Cells1.length) (m := w_Grid_Cells1) (Value.int .i64) (0 : Int) Agg3 (fun _ hS => ⟨_, (hS.at_ 1 rfl).rd⟩) (fun _ hS => rfl) (fun _ => hp1)) <| obs_nil
  obtain ⟨hp2, hm⟩ := asrt_b hm
  obtain ⟨hp3, hm⟩ := asrt_b hm
  refine reg [⟨false, [], vS (Instr.loadAt 3 (.pointer (some ⟨g1, 0, none⟩))), .int .i64 w_Grid_W1⟩, ⟨true, [], vS (Op.intDiv .rem .i64 at1 w_Grid_W1), .int .i64 (Int.tmod at1 w_Grid_W1)⟩, ⟨false, [], vS (Instr.loadAt 3 (.pointer (some ⟨g1, 0, none⟩))), .int .i64 w_Grid_W1⟩, ⟨true, [], vS (Op.intDiv .quo .i64 at1 w_Grid_W1), .int .i64 (w64 (Int.tdiv at1 w_Grid_W1))⟩] [none, none, none, none, none, some (.int .i64 w_Grid_W1), some (.int .i64 (Int.tmod at1 w_Grid_W1)), none, none, none, none, none, some (.int .i64 w_Grid_W1), some (.int .i64 (w64 (Int.tdiv at1 w_Grid_W1))), none, none] [0, 5, 6, 7] [pl 0 (.pointer (some ⟨g1, 0, none⟩)), pl 5 (.int .i64 (geti w_Grid_Cells1 at1)), pl 6 (.int .i64 (Int.tmod at1 w_Grid_W1)), pl 7 (.int .i64 (w64 (Int.tdiv at1 w_Grid_W1)))] hF hS Fol (by kernel_rfl) (by kernel_rfl) (by kernel_rfl) ?_ (fun a w hF hS => ?_)
  · exact obs_cons (ob_load Agg3 (fun _ _ hS => (hS.at_ 0 rfl).cell rfl)) <| obs_cons (ob_rem rfl (fun _ => hp2)) <| obs_cons (ob_load Agg3 (fun _ _ hS => (hS.at_ 0 rfl).cell rfl)) <| obs_cons (ob_quo rfl (fun _ => hp3)) <| obs_nil
  refine seq_cut (fun a w => Fr 127 [] a ∧ Sep w0 B w (blk g1 94 #[.int .i64 w_Grid_W1, .int .i64 w_Grid_H1, .slice A1 w_Grid_Cells1.length c1, .int .i64 w_k1, .int .i64 w_moved1] :: own 3 (.slice A1 w_Grid_Cells1.length c1) (vI w_Grid_Cells1) :: fs) ∧ (four_well_won_J1).bind some = some r) ?_ ?_
  · rintro a w ⟨hF, hS, hm⟩
    unfold four_well_won_J1 at hm
    refine reg [] [] [4] [pl 4 (.bool false)] hF hS Fol (by kernel_rfl) (by kernel_rfl) (by kernel_rfl) ?_ (fun a w hF hS => ?_)
    · exact obs_nil
    refine wp_ret ?_
    have hm : some false = some r := hm
    obtain rfl := Option.some.inj hm
    exact retV (rs := [.tmp 4]) (vs := [.bool false]) hF rfl (rv_t (by kernel_rfl) <| rv_nil) rfl ⟨rfl, hS⟩
  · refine reg [] [] [0, 5, 6, 7, 41, 42] [pl 0 (.pointer (some ⟨g1, 0, none⟩)), pl 5 (.int .i64 (geti w_Grid_Cells1 at1)), pl 6 (.int .i64 (Int.tmod at1 w_Grid_W1)), pl 7 (.int .i64 (w64 (Int.tdiv at1 w_Grid_W1))), pl 41 (.agg (List.toArray (([] : List Value) ++ (arr1 (Value.int .i64) (0 : Int) 8 ([1, 0, 0, 1, 1, 1, 1, (-1)] : List Int) ++ ([] : List Value))))), pl 42 (.int .i64 0)] hF hS Fol (by kernel_rfl) (by kernel_rfl) (by kernel_rfl) ?_ (fun a w hF hS => ?_)
    · exact obs_nil
    refine wp_block ?_
    refine wp_loop_model (S := Int) (R := (Fl Unit Bool)) (four_well_won_L1 w_Grid_W1 w_Grid_H1 w_Grid_Cells1 w_k1 at1) (fun x => (four_well_won_K1 x).bind some) r (fun (x : Int) a w => Fr 127 [pl 0 (.pointer (some ⟨g1, 0, none⟩)), pl 5 (.int .i64 (geti w_Grid_Cells1 at1)), pl 6 (.int .i64 (Int.tmod at1 w_Grid_W1)), pl 7 (.int .i64 (w64 (Int.tdiv at1 w_Grid_W1))), pl 41 (.agg (List.toArray (([] : List Value) ++ (arr1 (Value.int .i64) (0 : Int) 8 ([1, 0, 0, 1, 1, 1, 1, (-1)] : List Int) ++ ([] : List Value))))), pl 42 (.int .i64 x)] a ∧ Sep w0 B w (blk g1 94 #[.int .i64 w_Grid_W1, .int .i64 w_Grid_H1, .slice A1 w_Grid_Cells1.length c1, .int .i64 w_k1, .int .i64 w_moved1] :: own 3 (.slice A1 w_Grid_Cells1.length c1) (vI w_Grid_Cells1) :: fs)) (assoc_b hm) ⟨hF.weak [0, 5, 6, 7, 41, 42] (by kernel_rfl), hS⟩ ?_
    clear hF hS hm
    rintro nn1 z1 a w ⟨hF, hS⟩ hm
    generalize hφ1 : stK (four_well_won_L1 w_Grid_W1 w_Grid_H1 w_Grid_Cells1 w_k1 at1) nn1 (fun x => (four_well_won_K1 x).bind some) = φ1 at hm
    unfold four_well_won_L1 at hm
    dsimp only at hm
    refine reg [] [] [0, 5, 6, 7, 41, 42, 43] [pl 0 (.pointer (some ⟨g1, 0, none⟩)), pl 5 (.int .i64 (geti w_Grid_Cells1 at1)), pl 6 (.int .i64 (Int.tmod at1 w_Grid_W1)), pl 7 (.int .i64 (w64 (Int.tdiv at1 w_Grid_W1))), pl 41 (.agg (List.toArray (([] : List Value) ++ (arr1 (Value.int .i64) (0 : Int) 8 ([1, 0, 0, 1, 1, 1, 1, (-1)] : List Int) ++ ([] : List Value))))), pl 42 (.int .i64 z1), pl 43 (.bool (decide (z1 < 4)))] hF hS Fol (by kernel_rfl) (by kernel_rfl) (by kernel_rfl) ?_ (fun a w hF hS => ?_)
    · exact obs_nil
    refine seq_cut (fun a w => Fr 127 [pl 0 (.pointer (some ⟨g1, 0, none⟩)), pl 5 (.int .i64 (geti w_Grid_Cells1 at1)), pl 6 (.int .i64 (Int.tmod at1 w_Grid_W1)), pl 7 (.int .i64 (w64 (Int.tdiv at1 w_Grid_W1))), pl 41 (.agg (List.toArray (([] : List Value) ++ (arr1 (Value.int .i64) (0 : Int) 8 ([1, 0, 0, 1, 1, 1, 1, (-1)] : List Int) ++ ([] : List Value))))), pl 42 (.int .i64 z1)] a ∧ Sep w0 B w (blk g1 94 #[.int .i64 w_Grid_W1, .int .i64 w_Grid_H1, .slice A1 w_Grid_Cells1.length c1, .int .i64 w_k1, .int .i64 w_moved1] :: own 3 (.slice A1 w_Grid_Cells1.length c1) (vI w_Grid_Cells1) :: fs) ∧ ((four_well_won_J2 w_Grid_W1 w_Grid_H1 w_Grid_Cells1 w_k1 at1 z1)).bind φ1 = some r) ?_ ?_
    · rintro a w ⟨hF, hS, hm⟩
      unfold four_well_won_J2 at hm
      refine seq_cut (fun a w => Fr 127 [pl 0 (.pointer (some ⟨g1, 0, none⟩)), pl 5 (.int .i64 (geti w_Grid_Cells1 at1)), pl 6 (.int .i64 (Int.tmod at1 w_Grid_W1)), pl 7 (.int .i64 (w64 (Int.tdiv at1 w_Grid_W1))), pl 41 (.agg (List.toArray (([] : List Value) ++ (arr1 (Value.int .i64) (0 : Int) 8 ([1, 0, 0, 1, 1, 1, 1, (-1)] : List Int) ++ ([] : List Value))))), pl 42 (.int .i64 z1)] a ∧ Sep w0 B w (blk g1 94 #[.int .i64 w_Grid_W1, .int .i64 w_Grid_H1, .slice A1 w_Grid_Cells1.length c1, .int .i64 w_k1, .int .i64 w_moved1] :: own 3 (.slice A1 w_Grid_Cells1.length c1) (vI w_Grid_Cells1) :: fs) ∧ ((four_well_won_J3 z1)).bind φ1 = some r) ?_ ?_
      · rintro a w ⟨hF, hS, hm⟩
        unfold four_well_won_J3 at hm
        refine reg1 [] [] [0, 5, 6, 7, 41, 42] [pl 0 (.pointer (some ⟨g1, 0, none⟩)), pl 5 (.int .i64 (geti w_Grid_Cells1 at1)), pl 6 (.int .i64 (Int.tmod at1 w_Grid_W1)), pl 7 (.int .i64 (w64 (Int.tdiv at1 w_Grid_W1))), pl 41 (.agg (List.toArray (([] : List Value) ++ (arr1 (Value.int .i64) (0 : Int) 8 ([1, 0, 0, 1, 1, 1, 1, (-1)] : List Int) ++ ([] : List Value))))), pl 42 (.int .i64 (w64 (z1 + 1)))] hF hS Fol (by kernel_rfl) (by kernel_rfl) (by kernel_rfl) ?_ (fun a w hF hS => ?_)
        · exact obs_nil
        refine then_n ?_
        rw [← hφ1] at hm
        exact ⟨(w64 (z1 + 1)), ⟨hF.weak [0, 5, 6, 7, 41, 42] (by kernel_rfl), hS⟩, hm⟩
      · refine wp_block ?_
        refine seqR ?_
        obtain ⟨hp4, hm⟩ := asrt_b hm
        refine at_run 1 [⟨true, [], vS (Instr.index 119 (.agg (List.toArray (([] : List Value) ++ (arr1 (Value.int .i64) (0 : Int) 8 ([1, 0, 0, 1, 1, 1, 1, (-1)] : List Int) ++ ([] : List Value))))) (.int .i64 z1)), .agg #[.int .i64 (geti ([1, 0, 0, 1, 1, 1, 1, (-1)] : List Int) (z1 * 2)), .int .i64 (geti ([1, 0, 0, 1, 1, 1, 1, (-1)] : List Int) (z1 * 2 + 1))]⟩] [some (.agg #[.int .i64 (geti ([1, 0, 0, 1, 1, 1, 1, (-1)] : List Int) (z1 * 2)), .int .i64 (geti ([1, 0, 0, 1, 1, 1, 1, (-1)] : List Int) (z1 * 2 + 1))])] [0, 5, 6, 7, 41, 42, 44] [pl 0 (.pointer (some ⟨g1, 0, none⟩)), pl 5 (.int .i64 (geti w_Grid_Cells1 at1)), pl 6 (.int .i64 (Int.tmod at1 w_Grid_W1)), pl 7 (.int .i64 (w64 (Int.tdiv at1 w_Grid_W1))), pl 41 (.agg (List.toArray (([] : List Value) ++ (arr1 (Value.int .i64) (0 : Int) 8 ([1, 0, 0, 1, 1, 1, 1, (-1)] : List Int) ++ ([] : List Value))))), pl 42 (.int .i64 z1), pl 44 (.agg #[.int .i64 (geti ([1, 0, 0, 1, 1, 1, 1, (-1)] : List Int) (z1 * 2)), .int .i64 (geti ([1, 0, 0, 1, 1, 1, 1, (-1)] : List Int) (z1 * 2 + 1))])] hF hS (by kernel_rfl) (by kernel_rfl) ?_ (fun a w hF hS => ?_)
        · exact obs_cons (ob_idxP2 (f := (Value.int .i64)) (z := (0 : Int)) (m := ([1, 0, 0, 1, 1, 1, 1, (-1)] : List Int)) UndA119 (by kernel_rfl) (by kernel_rfl) rfl (fun _ => hp4)) <| obs_nil
        refine at_do (d := 9) (s := vS (Instr.alloc 102 true (.tuple #[]))) (v := .pointer (some ⟨w.heap.size, 0, none⟩)) (w' := w.alloc (.cells #[.int .i64 0, .int .i64 0] 102)) hF (by kernel_rfl) (by kernel_rfl) (by kernel_rfl) (fun a hF => ?_)
        have hS : Sep w0 B (w.alloc (.cells #[.int .i64 0, .int .i64 0] 102)) (blk w.heap.size 102 #[.int .i64 0, .int .i64 0] :: (blk g1 94 #[.int .i64 w_Grid_W1, .int .i64 w_Grid_H1, .slice A1 w_Grid_Cells1.length c1, .int .i64 w_k1, .int .i64 w_moved1] :: own 3 (.slice A1 w_Grid_Cells1.length c1) (vI w_Grid_Cells1) :: fs)) := hS.box 102 #[.int .i64 0, .int .i64 0]
        generalize w.heap.size = g2 at hF hS
        generalize w.alloc (.cells #[.int .i64 0, .int .i64 0] 102) = w at hS ⊢
        obtain ⟨w, hrun, hS⟩ := run_putA (P := Try.prog) (t := 102) (us := #[.int .i64 (geti ([1, 0, 0, 1, 1, 1, 1, (-1)] : List Int) (z1 * 2)), .int .i64 (geti ([1, 0, 0, 1, 1, 1, 1, (-1)] : List Int) (z1 * 2 + 1))]) (o := 0) (hS.at_ 0 rfl) (by kernel_rfl) (all_one (by kernel_rfl)) (Nat.le_of_ble_eq_true (by kernel_rfl))
        refine at_skip hF (by kernel_rfl) hrun ?_
        have hS : Sep w0 B w (blk g2 102 #[.int .i64 (geti ([1, 0, 0, 1, 1, 1, 1, (-1)] : List Int) (z1 * 2)), .int .i64 (geti ([1, 0, 0, 1, 1, 1, 1, (-1)] : List Int) (z1 * 2 + 1))] :: blk g1 94 #[.int .i64 w_Grid_W1, .int .i64 w_Grid_H1, .slice A1 w_Grid_Cells1.length c1, .int .i64 w_k1, .int .i64 w_moved1] :: own 3 (.slice A1 w_Grid_Cells1.length c1) (vI w_Grid_Cells1) :: fs) := hS
        refine at_end [0, 5, 6, 7, 9, 41, 42] [pl 0 (.pointer (some ⟨g1, 0, none⟩)), pl 5 (.int .i64 (geti w_Grid_Cells1 at1)), pl 6 (.int .i64 (Int.tmod at1 w_Grid_W1)), pl 7 (.int .i64 (w64 (Int.tdiv at1 w_Grid_W1))), pl 9 (.pointer (some ⟨g2, 0, none⟩)), pl 41 (.agg (List.toArray (([] : List Value) ++ (arr1 (Value.int .i64) (0 : Int) 8 ([1, 0, 0, 1, 1, 1, 1, (-1)] : List Int) ++ ([] : List Value))))), pl 42 (.int .i64 z1)] hF rfl (by kernel_rfl) (fun hF => ?_)
        refine then_n ?_
        refine reg [] [] [0, 5, 6, 7, 9, 10, 41, 42] [pl 0 (.pointer (some ⟨g1, 0, none⟩)), pl 5 (.int .i64 (geti w_Grid_Cells1 at1)), pl 6 (.int .i64 (Int.tmod at1 w_Grid_W1)), pl 7 (.int .i64 (w64 (Int.tdiv at1 w_Grid_W1))), pl 9 (.pointer (some ⟨g2, 0, none⟩)), pl 10 (.int .i64 1), pl 41 (.agg (List.toArray (([] : List Value) ++ (arr1 (Value.int .i64) (0 : Int) 8 ([1, 0, 0, 1, 1, 1, 1, (-1)] : List Int) ++ ([] : List Value))))), pl 42 (.int .i64 z1)] hF hS Fol (by kernel_rfl) (by kernel_rfl) (by kernel_rfl) ?_ (fun a w hF hS => ?_)
        · exact obs_nil
        refine seq_cut (fun a w => ∃ (n3 : Int), Fr 127 [pl 0 (.pointer (some ⟨g1, 0, none⟩)), pl 5 (.int .i64 (geti w_Grid_Cells1 at1)), pl 6 (.int .i64 (Int.tmod at1 w_Grid_W1)), pl 7 (.int .i64 (w64 (Int.tdiv at1 w_Grid_W1))), pl 10 (.int .i64 n3), pl 41 (.agg (List.toArray (([] : List Value) ++ (arr1 (Value.int .i64) (0 : Int) 8 ([1, 0, 0, 1, 1, 1, 1, (-1)] : List Int) ++ ([] : List Value))))), pl 42 (.int .i64 z1)] a ∧ Sep w0 B w (blk g1 94 #[.int .i64 w_Grid_W1, .int .i64 w_Grid_H1, .slice A1 w_Grid_Cells1.length c1, .int .i64 w_k1, .int .i64 w_moved1] :: own 3 (.slice A1 w_Grid_Cells1.length c1) (vI w_Grid_Cells1) :: fs) ∧ ((four_well_won_J4 w_k1 z1) n3).bind φ1 = some r) ?_ ?_
        · rintro a w ⟨n3, hF, hS, hm⟩
          unfold four_well_won_J4 at hm
          refine reg [⟨false, [], vS (Instr.loadAt 3 (.pointer (some ⟨g1, 3, none⟩))), .int .i64 w_k1⟩] [none, none, none, none, some (.int .i64 w_k1), none] [0, 5, 6, 7, 41, 42, 125] [pl 0 (.pointer (some ⟨g1, 0, none⟩)), pl 5 (.int .i64 (geti w_Grid_Cells1 at1)), pl 6 (.int .i64 (Int.tmod at1 w_Grid_W1)), pl 7 (.int .i64 (w64 (Int.tdiv at1 w_Grid_W1))), pl 41 (.agg (List.toArray (([] : List Value) ++ (arr1 (Value.int .i64) (0 : Int) 8 ([1, 0, 0, 1, 1, 1, 1, (-1)] : List Int) ++ ([] : List Value))))), pl 42 (.int .i64 z1), pl 125 (.bool (decide (w_k1 ≤ n3)))] hF hS Fol (by kernel_rfl) (by kernel_rfl) (by kernel_rfl) ?_ (fun a w hF hS => ?_)
          · exact obs_cons (ob_load Agg3 (fun _ _ hS => (hS.at_ 0 rfl).cell rfl)) <| obs_nil
          refine cond_ev (t := 125) (b := decide (w_k1 ≤ n3)) hF (by kernel_rfl) (fun hb => ?_) (fun hb => ?_)
          · replace hm := if_t hm hb
            refine reg [] [] [4] [pl 4 (.bool true)] hF hS Fol (by kernel_rfl) (by kernel_rfl) (by kernel_rfl) ?_ (fun a w hF hS => ?_)
            · exact obs_nil
            refine wp_ret ?_
            refine block_r (then_r (then_r (block_r (then_r ?_))))
            rw [← hφ1] at hm
            replace hm := done_b hm
            unfold four_well_won_K1 at hm
            try dsimp only at hm
            have hm : some true = some r := hm
            obtain rfl := Option.some.inj hm
            exact retV (rs := [.tmp 4]) (vs := [.bool true]) hF rfl (rv_t (by kernel_rfl) <| rv_nil) rfl ⟨rfl, hS⟩
          · replace hm := if_f hm hb
            refine wp_skip ?_
            refine block_n ?_
            refine then_n ?_
            exact ⟨hF.weak [0, 5, 6, 7, 41, 42] (by kernel_rfl), hS, hm⟩
        · refine reg [] [] [0, 5, 6, 7, 9, 10, 41, 42, 45, 46] [pl 0 (.pointer (some ⟨g1, 0, none⟩)), pl 5 (.int .i64 (geti w_Grid_Cells1 at1)), pl 6 (.int .i64 (Int.tmod at1 w_Grid_W1)), pl 7 (.int .i64 (w64 (Int.tdiv at1 w_Grid_W1))), pl 9 (.pointer (some ⟨g2, 0, none⟩)), pl 10 (.int .i64 1), pl 41 (.agg (List.toArray (([] : List Value) ++ (arr1 (Value.int .i64) (0 : Int) 8 ([1, 0, 0, 1, 1, 1, 1, (-1)] : List Int) ++ ([] : List Value))))), pl 42 (.int .i64 z1), pl 45 (.agg #[.int .i64 1, .int .i64 (-1)]), pl 46 (.int .i64 0)] hF hS Fol (by kernel_rfl) (by kernel_rfl) (by kernel_rfl) ?_ (fun a w hF hS => ?_)
          · exact obs_nil
          refine wp_block ?_
          have hS := hS.pickN 3 [1, 2, 0] (by decide)
          refine wp_loop_model (S := (Int × Int)) (R := Int) (four_well_won_L2 w_Grid_W1 w_Grid_H1 w_Grid_Cells1 at1 z1) (fun x => ((four_well_won_K2 w_k1 z1) x).bind φ1) r (fun (x : (Int × Int)) a w => Fr 127 [pl 0 (.pointer (some ⟨g1, 0, none⟩)), pl 5 (.int .i64 (geti w_Grid_Cells1 at1)), pl 6 (.int .i64 (Int.tmod at1 w_Grid_W1)), pl 7 (.int .i64 (w64 (Int.tdiv at1 w_Grid_W1))), pl 9 (.pointer (some ⟨g2, 0, none⟩)), pl 10 (.int .i64 x.1), pl 41 (.agg (List.toArray (([] : List Value) ++ (arr1 (Value.int .i64) (0 : Int) 8 ([1, 0, 0, 1, 1, 1, 1, (-1)] : List Int) ++ ([] : List Value))))), pl 42 (.int .i64 z1), pl 45 (.agg #[.int .i64 1, .int .i64 (-1)]), pl 46 (.int .i64 x.2)] a ∧ Sep w0 B w (blk g1 94 #[.int .i64 w_Grid_W1, .int .i64 w_Grid_H1, .slice A1 w_Grid_Cells1.length c1, .int .i64 w_k1, .int .i64 w_moved1] :: own 3 (.slice A1 w_Grid_Cells1.length c1) (vI w_Grid_Cells1) :: blk g2 102 #[.int .i64 (geti ([1, 0, 0, 1, 1, 1, 1, (-1)] : List Int) (z1 * 2)), .int .i64 (geti ([1, 0, 0, 1, 1, 1, 1, (-1)] : List Int) (z1 * 2 + 1))] :: fs)) (assoc_b hm) ⟨hF.weak [0, 5, 6, 7, 9, 10, 41, 42, 45, 46] (by kernel_rfl), hS⟩ ?_
          clear hF hS hm
          rintro nn2 ⟨n2, z2⟩ a w ⟨hF, hS⟩ hm
          generalize hφ2 : stK (four_well_won_L2 w_Grid_W1 w_Grid_H1 w_Grid_Cells1 at1 z1) nn2 (fun x => ((four_well_won_K2 w_k1 z1) x).bind φ1) = φ2 at hm
          unfold four_well_won_L2 at hm
          dsimp only at hF hS hm
          refine reg [] [] [0, 5, 6, 7, 9, 10, 41, 42, 45, 46, 47] [pl 0 (.pointer (some ⟨g1, 0, none⟩)), pl 5 (.int .i64 (geti w_Grid_Cells1 at1)), pl 6 (.int .i64 (Int.tmod at1 w_Grid_W1)), pl 7 (.int .i64 (w64 (Int.tdiv at1 w_Grid_W1))), pl 9 (.pointer (some ⟨g2, 0, none⟩)), pl 10 (.int .i64 n2), pl 41 (.agg (List.toArray (([] : List Value) ++ (arr1 (Value.int .i64) (0 : Int) 8 ([1, 0, 0, 1, 1, 1, 1, (-1)] : List Int) ++ ([] : List Value))))), pl 42 (.int .i64 z1), pl 45 (.agg #[.int .i64 1, .int .i64 (-1)]), pl 46 (.int .i64 z2), pl 47 (.bool (decide (z2 < 2)))] hF hS Fol (by kernel_rfl) (by kernel_rfl) (by kernel_rfl) ?_ (fun a w hF hS => ?_)
          · exact obs_nil
          refine seq_cut (fun a w => Fr 127 [pl 0 (.pointer (some ⟨g1, 0, none⟩)), pl 5 (.int .i64 (geti w_Grid_Cells1 at1)), pl 6 (.int .i64 (Int.tmod at1 w_Grid_W1)), pl 7 (.int .i64 (w64 (Int.tdiv at1 w_Grid_W1))), pl 9 (.pointer (some ⟨g2, 0, none⟩)), pl 10 (.int .i64 n2), pl 41 (.agg (List.toArray (([] : List Value) ++ (arr1 (Value.int .i64) (0 : Int) 8 ([1, 0, 0, 1, 1, 1, 1, (-1)] : List Int) ++ ([] : List Value))))), pl 42 (.int .i64 z1), pl 45 (.agg #[.int .i64 1, .int .i64 (-1)]), pl 46 (.int .i64 z2)] a ∧ Sep w0 B w (blk g1 94 #[.int .i64 w_Grid_W1, .int .i64 w_Grid_H1, .slice A1 w_Grid_Cells1.length c1, .int .i64 w_k1, .int .i64 w_moved1] :: own 3 (.slice A1 w_Grid_Cells1.length c1) (vI w_Grid_Cells1) :: blk g2 102 #[.int .i64 (geti ([1, 0, 0, 1, 1, 1, 1, (-1)] : List Int) (z1 * 2)), .int .i64 (geti ([1, 0, 0, 1, 1, 1, 1, (-1)] : List Int) (z1 * 2 + 1))] :: fs) ∧ ((four_well_won_J5 w_Grid_W1 w_Grid_H1 w_Grid_Cells1 at1 z1 n2 z2)).bind φ2 = some r) ?_ ?_
          · rintro a w ⟨hF, hS, hm⟩
            unfold four_well_won_J5 at hm
            refine seq_cut (fun a w => ∃ (n5 : Int), Fr 127 [pl 0 (.pointer (some ⟨g1, 0, none⟩)), pl 5 (.int .i64 (geti w_Grid_Cells1 at1)), pl 6 (.int .i64 (Int.tmod at1 w_Grid_W1)), pl 7 (.int .i64 (w64 (Int.tdiv at1 w_Grid_W1))), pl 9 (.pointer (some ⟨g2, 0, none⟩)), pl 10 (.int .i64 n5), pl 41 (.agg (List.toArray (([] : List Value) ++ (arr1 (Value.int .i64) (0 : Int) 8 ([1, 0, 0, 1, 1, 1, 1, (-1)] : List Int) ++ ([] : List Value))))), pl 42 (.int .i64 z1), pl 45 (.agg #[.int .i64 1, .int .i64 (-1)]), pl 46 (.int .i64 z2)] a ∧ Sep w0 B w (blk g1 94 #[.int .i64 w_Grid_W1, .int .i64 w_Grid_H1, .slice A1 w_Grid_Cells1.length c1, .int .i64 w_k1, .int .i64 w_moved1] :: own 3 (.slice A1 w_Grid_Cells1.length c1) (vI w_Grid_Cells1) :: blk g2 102 #[.int .i64 (geti ([1, 0, 0, 1, 1, 1, 1, (-1)] : List Int) (z1 * 2)), .int .i64 (geti ([1, 0, 0, 1, 1, 1, 1, (-1)] : List Int) (z1 * 2 + 1))] :: fs) ∧ ((four_well_won_J6 z2) n5).bind φ2 = some r) ?_ ?_
            · rintro a w ⟨n5, hF, hS, hm⟩
              unfold four_well_won_J6 at hm
              refine reg1 [] [] [0, 5, 6, 7, 9, 10, 41, 42, 45, 46] [pl 0 (.pointer (some ⟨g1, 0, none⟩)), pl 5 (.int .i64 (geti w_Grid_Cells1 at1)), pl 6 (.int .i64 (Int.tmod at1 w_Grid_W1)), pl 7 (.int .i64 (w64 (Int.tdiv at1 w_Grid_W1))), pl 9 (.pointer (some ⟨g2, 0, none⟩)), pl 10 (.int .i64 n5), pl 41 (.agg (List.toArray (([] : List Value) ++ (arr1 (Value.int .i64) (0 : Int) 8 ([1, 0, 0, 1, 1, 1, 1, (-1)] : List Int) ++ ([] : List Value))))), pl 42 (.int .i64 z1), pl 45 (.agg #[.int .i64 1, .int .i64 (-1)]), pl 46 (.int .i64 (w64 (z2 + 1)))] hF hS Fol (by kernel_rfl) (by kernel_rfl) (by kernel_rfl) ?_ (fun a w hF hS => ?_)
              · exact obs_nil
              refine then_n ?_
              rw [← hφ2] at hm
              exact ⟨(n5, (w64 (z2 + 1))), ⟨hF.weak [0, 5, 6, 7, 9, 10, 41, 42, 45, 46] (by kernel_rfl), hS⟩, hm⟩
            · refine wp_block ?_
              obtain ⟨hp5, hm⟩ := asrt_b hm
              refine reg [⟨true, [], vS (Instr.index 102 (.agg (List.toArray (([] : List Value) ++ (arr1 (Value.int .i64) (0 : Int) 2 ([1, (-1)] : List Int) ++ ([] : List Value))))) (.int .i64 z2)), .int .i64 (geti ([1, (-1)] : List Int) z2)⟩] [some (.int .i64 (geti ([1, (-1)] : List Int) z2)), none] [0, 5, 6, 7, 9, 10, 12, 41, 42, 45, 46] [pl 0 (.pointer (some ⟨g1, 0, none⟩)), pl 5 (.int .i64 (geti w_Grid_Cells1 at1)), pl 6 (.int .i64 (Int.tmod at1 w_Grid_W1)), pl 7 (.int .i64 (w64 (Int.tdiv at1 w_Grid_W1))), pl 9 (.pointer (some ⟨g2, 0, none⟩)), pl 10 (.int .i64 n2), pl 12 (.int .i64 (geti ([1, (-1)] : List Int) z2)), pl 41 (.agg (List.toArray (([] : List Value) ++ (arr1 (Value.int .i64) (0 : Int) 8 ([1, 0, 0, 1, 1, 1, 1, (-1)] : List Int) ++ ([] : List Value))))), pl 42 (.int .i64 z1), pl 45 (.agg #[.int .i64 1, .int .i64 (-1)]), pl 46 (.int .i64 z2)] hF hS Fol (by kernel_rfl) (by kernel_rfl) (by kernel_rfl) ?_ (fun a w hF hS => ?_)
              · exact obs_cons (ob_idx1 (f := (Value.int .i64)) (z := (0 : Int)) (m := ([1, (-1)] : List Int)) UndA102 (by kernel_rfl) (by kernel_rfl) (fun _ => hp5)) <| obs_nil
              refine reg [⟨false, [], vS (Instr.loadAt 3 (.pointer (some ⟨g2, 0, none⟩))), .int .i64 (geti ([1, 0, 0, 1, 1, 1, 1, (-1)] : List Int) (z1 * 2))⟩, ⟨false, [], vS (Instr.loadAt 3 (.pointer (some ⟨g2, 1, none⟩))), .int .i64 (geti ([1, 0, 0, 1, 1, 1, 1, (-1)] : List Int) (z1 * 2 + 1))⟩] [none, none, none, some (.int .i64 (geti ([1, 0, 0, 1, 1, 1, 1, (-1)] : List Int) (z1 * 2))), none, none, none, none, none, some (.int .i64 (geti ([1, 0, 0, 1, 1, 1, 1, (-1)] : List Int) (z1 * 2 + 1))), none, none, none, none] [0, 5, 6, 7, 9, 10, 12, 13, 14, 41, 42, 45, 46] [pl 0 (.pointer (some ⟨g1, 0, none⟩)), pl 5 (.int .i64 (geti w_Grid_Cells1 at1)), pl 6 (.int .i64 (Int.tmod at1 w_Grid_W1)), pl 7 (.int .i64 (w64 (Int.tdiv at1 w_Grid_W1))), pl 9 (.pointer (some ⟨g2, 0, none⟩)), pl 10 (.int .i64 n2), pl 12 (.int .i64 (geti ([1, (-1)] : List Int) z2)), pl 13 (.int .i64 (w64 ((Int.tmod at1 w_Grid_W1) + (w64 ((geti ([1, (-1)] : List Int) z2) * (geti ([1, 0, 0, 1, 1, 1, 1, (-1)] : List Int) (z1 * 2))))))), pl 14 (.int .i64 (w64 ((w64 (Int.tdiv at1 w_Grid_W1)) + (w64 ((geti ([1, (-1)] : List Int) z2) * (geti ([1, 0, 0, 1, 1, 1, 1, (-1)] : List Int) (z1 * 2 + 1))))))), pl 41 (.agg (List.toArray (([] : List Value) ++ (arr1 (Value.int .i64) (0 : Int) 8 ([1, 0, 0, 1, 1, 1, 1, (-1)] : List Int) ++ ([] : List Value))))), pl 42 (.int .i64 z1), pl 45 (.agg #[.int .i64 1, .int .i64 (-1)]), pl 46 (.int .i64 z2)] hF hS Fol (by kernel_rfl) (by kernel_rfl) (by kernel_rfl) ?_ (fun a w hF hS => ?_)
              · exact obs_cons (ob_load Agg3 (fun _ _ hS => (hS.at_ 2 rfl).cell rfl)) <| obs_cons (ob_load Agg3 (fun _ _ hS => (hS.at_ 2 rfl).cell rfl)) <| obs_nil
              refine wp_block ?_
              refine wp_loop_model (S := (Int × Int × Int)) (R := Int) (four_well_won_L3 w_Grid_W1 w_Grid_H1 w_Grid_Cells1 at1 z1 z2) (fun x => ((four_well_won_K3 z2) x).bind φ2) r (fun (x : (Int × Int × Int)) a w => Fr 127 [pl 0 (.pointer (some ⟨g1, 0, none⟩)), pl 5 (.int .i64 (geti w_Grid_Cells1 at1)), pl 6 (.int .i64 (Int.tmod at1 w_Grid_W1)), pl 7 (.int .i64 (w64 (Int.tdiv at1 w_Grid_W1))), pl 9 (.pointer (some ⟨g2, 0, none⟩)), pl 10 (.int .i64 x.1), pl 12 (.int .i64 (geti ([1, (-1)] : List Int) z2)), pl 13 (.int .i64 x.2.1), pl 14 (.int .i64 x.2.2), pl 41 (.agg (List.toArray (([] : List Value) ++ (arr1 (Value.int .i64) (0 : Int) 8 ([1, 0, 0, 1, 1, 1, 1, (-1)] : List Int) ++ ([] : List Value))))), pl 42 (.int .i64 z1), pl 45 (.agg #[.int .i64 1, .int .i64 (-1)]), pl 46 (.int .i64 z2)] a ∧ Sep w0 B w (blk g1 94 #[.int .i64 w_Grid_W1, .int .i64 w_Grid_H1, .slice A1 w_Grid_Cells1.length c1, .int .i64 w_k1, .int .i64 w_moved1] :: own 3 (.slice A1 w_Grid_Cells1.length c1) (vI w_Grid_Cells1) :: blk g2 102 #[.int .i64 (geti ([1, 0, 0, 1, 1, 1, 1, (-1)] : List Int) (z1 * 2)), .int .i64 (geti ([1, 0, 0, 1, 1, 1, 1, (-1)] : List Int) (z1 * 2 + 1))] :: fs)) (assoc_b hm) ⟨hF.weak [0, 5, 6, 7, 9, 10, 12, 13, 14, 41, 42, 45, 46] (by kernel_rfl), hS⟩ ?_
              clear hF hS hm
              rintro nn3 ⟨n4, a1, b1⟩ a w ⟨hF, hS⟩ hm
              generalize hφ3 : stK (four_well_won_L3 w_Grid_W1 w_Grid_H1 w_Grid_Cells1 at1 z1 z2) nn3 (fun x => ((four_well_won_K3 z2) x).bind φ2) = φ3 at hm
              unfold four_well_won_L3 at hm
              dsimp only at hF hS hm
              refine seq_cut (fun a w => Fr 127 [pl 0 (.pointer (some ⟨g1, 0, none⟩)), pl 5 (.int .i64 (geti w_Grid_Cells1 at1)), pl 6 (.int .i64 (Int.tmod at1 w_Grid_W1)), pl 7 (.int .i64 (w64 (Int.tdiv at1 w_Grid_W1))), pl 9 (.pointer (some ⟨g2, 0, none⟩)), pl 10 (.int .i64 n4), pl 12 (.int .i64 (geti ([1, (-1)] : List Int) z2)), pl 13 (.int .i64 a1), pl 14 (.int .i64 b1), pl 41 (.agg (List.toArray (([] : List Value) ++ (arr1 (Value.int .i64) (0 : Int) 8 ([1, 0, 0, 1, 1, 1, 1, (-1)] : List Int) ++ ([] : List Value))))), pl 42 (.int .i64 z1), pl 45 (.agg #[.int .i64 1, .int .i64 (-1)]), pl 46 (.int .i64 z2)] a ∧ Sep w0 B w (blk g1 94 #[.int .i64 w_Grid_W1, .int .i64 w_Grid_H1, .slice A1 w_Grid_Cells1.length c1, .int .i64 w_k1, .int .i64 w_moved1] :: own 3 (.slice A1 w_Grid_Cells1.length c1) (vI w_Grid_Cells1) :: blk g2 102 #[.int .i64 (geti ([1, 0, 0, 1, 1, 1, 1, (-1)] : List Int) (z1 * 2)), .int .i64 (geti ([1, 0, 0, 1, 1, 1, 1, (-1)] : List Int) (z1 * 2 + 1))] :: fs) ∧ ((four_well_won_J7 z1 z2 n4 a1 b1)).bind φ3 = some r) ?_ ?_
              · rintro a w ⟨hF, hS, hm⟩
                unfold four_well_won_J7 at hm
                refine seq_cut (fun a w => Fr 127 [pl 0 (.pointer (some ⟨g1, 0, none⟩)), pl 5 (.int .i64 (geti w_Grid_Cells1 at1)), pl 6 (.int .i64 (Int.tmod at1 w_Grid_W1)), pl 7 (.int .i64 (w64 (Int.tdiv at1 w_Grid_W1))), pl 9 (.pointer (some ⟨g2, 0, none⟩)), pl 10 (.int .i64 (w64 (n4 + 1))), pl 12 (.int .i64 (geti ([1, (-1)] : List Int) z2)), pl 13 (.int .i64 a1), pl 14 (.int .i64 b1), pl 41 (.agg (List.toArray (([] : List Value) ++ (arr1 (Value.int .i64) (0 : Int) 8 ([1, 0, 0, 1, 1, 1, 1, (-1)] : List Int) ++ ([] : List Value))))), pl 42 (.int .i64 z1), pl 45 (.agg #[.int .i64 1, .int .i64 (-1)]), pl 46 (.int .i64 z2)] a ∧ Sep w0 B w (blk g1 94 #[.int .i64 w_Grid_W1, .int .i64 w_Grid_H1, .slice A1 w_Grid_Cells1.length c1, .int .i64 w_k1, .int .i64 w_moved1] :: own 3 (.slice A1 w_Grid_Cells1.length c1) (vI w_Grid_Cells1) :: blk g2 102 #[.int .i64 (geti ([1, 0, 0, 1, 1, 1, 1, (-1)] : List Int) (z1 * 2)), .int .i64 (geti ([1, 0, 0, 1, 1, 1, 1, (-1)] : List Int) (z1 * 2 + 1))] :: fs) ∧ ((four_well_won_J8 z1 z2 n4 a1 b1)).bind φ3 = some r) ?_ ?_
                · rintro a w ⟨hF, hS, hm⟩
                  unfold four_well_won_J8 at hm
                  refine reg1 [⟨false, [], vS (Instr.loadAt 3 (.pointer (some ⟨g2, 0, none⟩))), .int .i64 (geti ([1, 0, 0, 1, 1, 1, 1, (-1)] : List Int) (z1 * 2))⟩, ⟨false, [], vS (Instr.loadAt 3 (.pointer (some ⟨g2, 1, none⟩))), .int .i64 (geti ([1, 0, 0, 1, 1, 1, 1, (-1)] : List Int) (z1 * 2 + 1))⟩] [none, none, none, some (.int .i64 (geti ([1, 0, 0, 1, 1, 1, 1, (-1)] : List Int) (z1 * 2))), none, none, none, none, none, some (.int .i64 (geti ([1, 0, 0, 1, 1, 1, 1, (-1)] : List Int) (z1 * 2 + 1))), none, none, none, none] [0, 5, 6, 7, 9, 10, 12, 13, 14, 41, 42, 45, 46] [pl 0 (.pointer (some ⟨g1, 0, none⟩)), pl 5 (.int .i64 (geti w_Grid_Cells1 at1)), pl 6 (.int .i64 (Int.tmod at1 w_Grid_W1)), pl 7 (.int .i64 (w64 (Int.tdiv at1 w_Grid_W1))), pl 9 (.pointer (some ⟨g2, 0, none⟩)), pl 10 (.int .i64 (w64 (n4 + 1))), pl 12 (.int .i64 (geti ([1, (-1)] : List Int) z2)), pl 13 (.int .i64 (w64 (a1 + (w64 ((geti ([1, (-1)] : List Int) z2) * (geti ([1, 0, 0, 1, 1, 1, 1, (-1)] : List Int) (z1 * 2))))))), pl 14 (.int .i64 (w64 (b1 + (w64 ((geti ([1, (-1)] : List Int) z2) * (geti ([1, 0, 0, 1, 1, 1, 1, (-1)] : List Int) (z1 * 2 + 1))))))), pl 41 (.agg (List.toArray (([] : List Value) ++ (arr1 (Value.int .i64) (0 : Int) 8 ([1, 0, 0, 1, 1, 1, 1, (-1)] : List Int) ++ ([] : List Value))))), pl 42 (.int .i64 z1), pl 45 (.agg #[.int .i64 1, .int .i64 (-1)]), pl 46 (.int .i64 z2)] hF hS Fol (by kernel_rfl) (by kernel_rfl) (by kernel_rfl) ?_ (fun a w hF hS => ?_)
                  · exact obs_cons (ob_load Agg3 (fun _ _ hS => (hS.at_ 2 rfl).cell rfl)) <| obs_cons (ob_load Agg3 (fun _ _ hS => (hS.at_ 2 rfl).cell rfl)) <| obs_nil
                  refine then_n ?_
                  rw [← hφ3] at hm
                  exact ⟨((w64 (n4 + 1)), (w64 (a1 + (w64 ((geti ([1, (-1)] : List Int) z2) * (geti ([1, 0, 0, 1, 1, 1, 1, (-1)] : List Int) (z1 * 2)))))), (w64 (b1 + (w64 ((geti ([1, (-1)] : List Int) z2) * (geti ([1, 0, 0, 1, 1, 1, 1, (-1)] : List Int) (z1 * 2 + 1))))))), ⟨hF.weak [0, 5, 6, 7, 9, 10, 12, 13, 14, 41, 42, 45, 46] (by kernel_rfl), hS⟩, hm⟩
                · refine wp_block ?_
                  refine reg1 [] [] [0, 5, 6, 7, 9, 10, 12, 13, 14, 41, 42, 45, 46] [pl 0 (.pointer (some ⟨g1, 0, none⟩)), pl 5 (.int .i64 (geti w_Grid_Cells1 at1)), pl 6 (.int .i64 (Int.tmod at1 w_Grid_W1)), pl 7 (.int .i64 (w64 (Int.tdiv at1 w_Grid_W1))), pl 9 (.pointer (some ⟨g2, 0, none⟩)), pl 10 (.int .i64 (w64 (n4 + 1))), pl 12 (.int .i64 (geti ([1, (-1)] : List Int) z2)), pl 13 (.int .i64 a1), pl 14 (.int .i64 b1), pl 41 (.agg (List.toArray (([] : List Value) ++ (arr1 (Value.int .i64) (0 : Int) 8 ([1, 0, 0, 1, 1, 1, 1, (-1)] : List Int) ++ ([] : List Value))))), pl 42 (.int .i64 z1), pl 45 (.agg #[.int .i64 1, .int .i64 (-1)]), pl 46 (.int .i64 z2)] hF hS Fol (by kernel_rfl) (by kernel_rfl) (by kernel_rfl) ?_ (fun a w hF hS => ?_)
                  · exact obs_nil
                  refine block_n ?_
                  refine then_n ?_
                  exact ⟨hF.weak [0, 5, 6, 7, 9, 10, 12, 13, 14, 41, 42, 45, 46] (by kernel_rfl), hS, hm⟩
              · obtain ⟨hp6, hm⟩ := asrt_b hm
                refine reg [⟨false, [(decide ((0 : Int) ≤ a1), true)], vS (Instr.loadAt 3 (.pointer (some ⟨g1, 0, none⟩))), .int .i64 w_Grid_W1⟩, ⟨false, [(((decide ((0 : Int) ≤ a1)) && (decide (a1 < w_Grid_W1))) && (decide ((0 : Int) ≤ b1)), true)], vS (Instr.loadAt 3 (.pointer (some ⟨g1, 1, none⟩))), .int .i64 w_Grid_H1⟩, ⟨false, [((((decide ((0 : Int) ≤ a1)) && (decide (a1 < w_Grid_W1))) && (decide ((0 : Int) ≤ b1))) && (decide (b1 < w_Grid_H1)), true)], vS (Instr.loadAt 22 (.pointer (some ⟨g1, 2, none⟩))), .slice A1 w_Grid_Cells1.length c1⟩, ⟨false, [((((decide ((0 : Int) ≤ a1)) && (decide (a1 < w_Grid_W1))) && (decide ((0 : Int) ≤ b1))) && (decide (b1 < w_Grid_H1)), true)], vS (Instr.loadAt 3 (.pointer (some ⟨g1, 0, none⟩))), .int .i64 w_Grid_W1⟩, ⟨true, [((((decide ((0 : Int) ≤ a1)) && (decide (a1 < w_Grid_W1))) && (decide ((0 : Int) ≤ b1))) && (decide (b1 < w_Grid_H1)), true)], vS (Instr.indexAt 22 (.slice A1 w_Grid_Cells1.length c1) (.int .i64 (w64 ((w64 (b1 * w_Grid_W1)) + a1)))), .pointer (some (sAddr A1 (w64 ((w64 (b1 * w_Grid_W1)) + a1))))⟩, ⟨false, [((((decide ((0 : Int) ≤ a1)) && (decide (a1 < w_Grid_W1))) && (decide ((0 : Int) ≤ b1))) && (decide (b1 < w_Grid_H1)), true)], vS (Instr.loadAt 3 (.pointer (some (sAddr A1 (w64 ((w64 (b1 * w_Grid_W1)) + a1)))))), .int .i64 (geti w_Grid_Cells1 (w64 ((w64 (b1 * w_Grid_W1)) + a1)))⟩] [none, none, none, none, none, none, none, none, some (.int .i64 w_Grid_W1), none, none, none, none, none, none, none, none, none, none, none, none, some (.int .i64 w_Grid_H1), none, none, none, none, none, none, none, some (.slice A1 w_Grid_Cells1.length c1), none, none, none, none, none, some (.int .i64 w_Grid_W1), none, none, none, some (.pointer (some (sAddr A1 (w64 ((w64 (b1 * w_Grid_W1)) + a1))))), some (.int .i64 (geti w_Grid_Cells1 (w64 ((w64 (b1 * w_Grid_W1)) + a1)))), none, none, none] [0, 5, 6, 7, 9, 10, 12, 13, 14, 41, 42, 45, 46, 104] [pl 0 (.pointer (some ⟨g1, 0, none⟩)), pl 5 (.int .i64 (geti w_Grid_Cells1 at1)), pl 6 (.int .i64 (Int.tmod at1 w_Grid_W1)), pl 7 (.int .i64 (w64 (Int.tdiv at1 w_Grid_W1))), pl 9 (.pointer (some ⟨g2, 0, none⟩)), pl 10 (.int .i64 n4), pl 12 (.int .i64 (geti ([1, (-1)] : List Int) z2)), pl 13 (.int .i64 a1), pl 14 (.int .i64 b1), pl 41 (.agg (List.toArray (([] : List Value) ++ (arr1 (Value.int .i64) (0 : Int) 8 ([1, 0, 0, 1, 1, 1, 1, (-1)] : List Int) ++ ([] : List Value))))), pl 42 (.int .i64 z1), pl 45 (.agg #[.int .i64 1, .int .i64 (-1)]), pl 46 (.int .i64 z2), pl 104 (.bool (((((decide ((0 : Int) ≤ a1)) && (decide (a1 < w_Grid_W1))) && (decide ((0 : Int) ≤ b1))) && (decide (b1 < w_Grid_H1))) && ((geti w_Grid_Cells1 (w64 ((w64 (b1 * w_Grid_W1)) + a1))) == (geti w_Grid_Cells1 at1))))] hF hS Fol (by kernel_rfl) (by kernel_rfl) (by kernel_rfl) ?_ (fun a w hF hS => ?_)
                · exact obs_cons (ob_load Agg3 (fun _ _ hS => (hS.at_ 0 rfl).cell rfl)) <| obs_cons (ob_load Agg3 (fun _ _ hS => (hS.at_ 0 rfl).cell rfl)) <| obs_cons (ob_load Agg22 (fun _ _ hS => (hS.at_ 0 rfl).cell rfl)) <| obs_cons (ob_load Agg3 (fun _ _ hS => (hS.at_ 0 rfl).cell rfl)) <| obs_cons (ob_ix1 (f := (Value.int .i64)) (m := w_Grid_Cells1) Und22 hi3 hs3 (hS.at_ 1 rfl).rd rfl (fun hy => hp6 (hy ((((decide ((0 : Int) ≤ a1)) && (decide (a1 < w_Grid_W1))) && (decide ((0 : Int) ≤ b1))) && (decide (b1 < w_Grid_H1)), true) (by simp)))) <| obs_cons (ob_get1 (n := w_Grid_Cells1.length) (m := w_Grid_Cells1) (Value.int .i64) (0 : Int) Agg3 (fun _ hS => ⟨_, (hS.at_ 1 rfl).rd⟩) (fun _ hS => rfl) (fun hy => hp6 (hy ((((decide ((0 : Int) ≤ a1)) && (decide (a1 < w_Grid_W1))) && (decide ((0 : Int) ≤ b1))) && (decide (b1 < w_Grid_H1)), true) (by simp)))) <| obs_nil
                refine cond_ev (t := 104) (b := ((((decide ((0 : Int) ≤ a1)) && (decide (a1 < w_Grid_W1))) && (decide ((0 : Int) ≤ b1))) && (decide (b1 < w_Grid_H1))) && ((geti w_Grid_Cells1 (w64 ((w64 (b1 * w_Grid_W1)) + a1))) == (geti w_Grid_Cells1 at1))) hF (by kernel_rfl) (fun hb => ?_) (fun hb => ?_)
                · replace hm := if_t hm hb
                  refine wp_skip ?_
                  refine then_n ?_
                  exact ⟨hF.weak [0, 5, 6, 7, 9, 10, 12, 13, 14, 41, 42, 45, 46] (by kernel_rfl), hS, hm⟩
                · replace hm := if_f hm hb
                  refine wp_exit ?_
                  refine then_e (then_e (block_e (block_n (then_n ?_))))
                  rw [← hφ3] at hm
                  replace hm := done_b hm
                  unfold four_well_won_K3 at hm
                  try dsimp only at hm
                  have hm : ((four_well_won_J6 z2) n4).bind φ2 = some r := hm
                  exact ⟨n4, hF.weak [0, 5, 6, 7, 9, 10, 41, 42, 45, 46] (by kernel_rfl), hS, hm⟩
          · refine cond_ev (t := 47) (b := decide (z2 < 2)) hF (by kernel_rfl) (fun hb => ?_) (fun hb => ?_)
            · replace hm := if_t hm hb
              refine wp_skip ?_
              refine then_n ?_
              exact ⟨hF.weak [0, 5, 6, 7, 9, 10, 41, 42, 45, 46] (by kernel_rfl), hS, hm⟩
            · replace hm := if_f hm hb
              refine wp_exit ?_
              refine then_e (then_e (block_e (then_n ?_)))
              have hS := hS.pickN 3 [0, 1] (by decide)
              rw [← hφ2] at hm
              replace hm := done_b hm
              unfold four_well_won_K2 at hm
              try dsimp only at hm
              have hm : ((four_well_won_J4 w_k1 z1) n2).bind φ1 = some r := hm
              exact ⟨n2, hF.weak [0, 5, 6, 7, 10, 41, 42] (by kernel_rfl), hS, hm⟩
    · refine cond_ev (t := 43) (b := decide (z1 < 4)) hF (by kernel_rfl) (fun hb => ?_) (fun hb => ?_)
      · replace hm := if_t hm hb
        refine wp_skip ?_
        refine then_n ?_
        exact ⟨hF.weak [0, 5, 6, 7, 41, 42] (by kernel_rfl), hS, hm⟩
      · replace hm := if_f hm hb
        refine wp_exit ?_
        refine then_e (then_e (block_e (then_n ?_)))
        rw [← hφ1] at hm
        replace hm := done_b hm
        unfold four_well_won_K1 at hm
        try dsimp only at hm
        have hm : (four_well_won_J1).bind some = some r := hm
        exact ⟨hF.weak [] (by kernel_rfl), hS, hm⟩

noncomputable def four_Count_1_J4 (z2 : Int) (z3 : List Int) (n4 : Int) : Option (St (List Int × Int × Int) (Int × List Int)) :=
  some (.next (z3, n4, (w64 (z2 + 1))))

noncomputable def four_Count_1_J6 (p3_Grid_Cells1 : List Int) (z2 : Int) (r1 : Int) (z4 : List Int) (n5 : Int) : Option (St (List Int × Int × Int) (Int × List Int)) :=
  asrt (0 ≤ r1 ∧ r1 < (p3_Grid_Cells1.length : Int)) <| (four_Count_1_J4 z2) (z4.set (Int.toNat r1) 0) n5

noncomputable def four_Count_1_J5 (rec_four_Count_1 : Int → Int → Int → Int → Int → List Int → Int → Int → Option (Int × List Int)) (who1 : Int) (left1 : Int) (p21 : Int) (p3_Grid_W1 : Int) (p3_Grid_H1 : Int) (p3_Grid_Cells1 : List Int) (p3_k1 : Int) (p3_moved1 : Int) (z1 : List Int) (n2 : Int) (z2 : Int) (r1 : Int) : Option (St (List Int × Int × Int) (Int × List Int)) :=
  asrt (0 ≤ r1 ∧ r1 < (p3_Grid_Cells1.length : Int)) <| (four_well_won_m p3_Grid_W1 p3_Grid_H1 (z1.set (Int.toNat r1) who1) p3_k1 p3_moved1 r1).bind fun r2 => if (!r2) then ((rec_four_Count_1 (w64 (3 - who1)) (w64 (left1 - 1)) p21 p3_Grid_W1 p3_Grid_H1 (z1.set (Int.toNat r1) who1) p3_k1 p3_moved1).bind fun r3 => (four_Count_1_J6 p3_Grid_Cells1 z2 r1) r3.2 (w64 (n2 + r3.1))) else (if (left1 == 1) then ((four_Count_1_J6 p3_Grid_Cells1 z2 r1) (z1.set (Int.toNat r1) who1) (w64 (n2 + 1))) else ((four_Count_1_J6 p3_Grid_Cells1 z2 r1) (z1.set (Int.toNat r1) who1) n2))

noncomputable def four_Count_1_J3 (rec_four_Count_1 : Int → Int → Int → Int → Int → List Int → Int → Int → Option (Int × List Int)) (who1 : Int) (left1 : Int) (p21 : Int) (p3_Grid_W1 : Int) (p3_Grid_H1 : Int) (p3_Grid_Cells1 : List Int) (p3_k1 : Int) (p3_moved1 : Int) (z1 : List Int) (n2 : Int) (z2 : Int) : Option (St (List Int × Int × Int) (Int × List Int)) :=
  (four_well_fall_m p3_Grid_W1 p3_Grid_H1 z1 p3_k1 p3_moved1 z2).bind fun r1 => if (decide (r1 < 0)) then ((four_Count_1_J4 z2) z1 n2) else ((four_Count_1_J5 rec_four_Count_1 who1 left1 p21 p3_Grid_W1 p3_Grid_H1 p3_Grid_Cells1 p3_k1 p3_moved1 z1 n2 z2 r1))

noncomputable def four_Count_1_J2 (n3 : Int) (p32 : List Int) : Option (Int × List Int) :=
  some (n3, p32)

noncomputable def four_Count_1_K1 : (Int × List Int) → Option (Int × List Int) :=
  fun (x : (Int × List Int)) => match x with | (n3, p32) => four_Count_1_J2 n3 p32

noncomputable def four_Count_1_L1 (rec_four_Count_1 : Int → Int → Int → Int → Int → List Int → Int → Int → Option (Int × List Int)) (who1 : Int) (left1 : Int) (p21 : Int) (p3_Grid_W1 : Int) (p3_Grid_H1 : Int) (p3_Grid_Cells1 : List Int) (p3_k1 : Int) (p3_moved1 : Int) : (List Int × Int × Int) → Option (St (List Int × Int × Int) (Int × List Int)) :=
  fun (x : (List Int × Int × Int)) => match x with | (z1, n2, z2) => if (decide (z2 < p21)) then ((four_Count_1_J3 rec_four_Count_1 who1 left1 p21 p3_Grid_W1 p3_Grid_H1 p3_Grid_Cells1 p3_k1 p3_moved1 z1 n2 z2)) else (some (.done (n2, z1)))

noncomputable def four_Count_1_J1 (rec_four_Count_1 : Int → Int → Int → Int → Int → List Int → Int → Int → Option (Int × List Int)) (who1 : Int) (left1 : Int) (p21 : Int) (p3_Grid_W1 : Int) (p3_Grid_H1 : Int) (p3_Grid_Cells1 : List Int) (p3_k1 : Int) (p3_moved1 : Int) : Option (Int × List Int) :=
  (loop (four_Count_1_L1 rec_four_Count_1 who1 left1 p21 p3_Grid_W1 p3_Grid_H1 p3_Grid_Cells1 p3_k1 p3_moved1) (p3_Grid_Cells1, 0, 0)).bind four_Count_1_K1

noncomputable def four_Count_1_B (rec_four_Count_1 : Int → Int → Int → Int → Int → List Int → Int → Int → Option (Int × List Int)) (who1 : Int) (left1 : Int) (p21 : Int) (p3_Grid_W1 : Int) (p3_Grid_H1 : Int) (p3_Grid_Cells1 : List Int) (p3_k1 : Int) (p3_moved1 : Int) : Option (Int × List Int) :=
  if (left1 == 0) then (some (1, p3_Grid_Cells1)) else ((four_Count_1_J1 rec_four_Count_1 who1 left1 p21 p3_Grid_W1 p3_Grid_H1 p3_Grid_Cells1 p3_k1 p3_moved1))

noncomputable def four_Count_1_mF : Nat → Int → Int → Int → Int → Int → List Int → Int → Int → Option (Int × List Int)
  | 0 => fun _ _ _ _ _ _ _ _ => none
  | n + 1 => fun who1 left1 p21 p3_Grid_W1 p3_Grid_H1 p3_Grid_Cells1 p3_k1 p3_moved1 => four_Count_1_B (four_Count_1_mF n) who1 left1 p21 p3_Grid_W1 p3_Grid_H1 p3_Grid_Cells1 p3_k1 p3_moved1

noncomputable def four_Count_1_m (who1 : Int) (left1 : Int) (p21 : Int) (p3_Grid_W1 : Int) (p3_Grid_H1 : Int) (p3_Grid_Cells1 : List Int) (p3_k1 : Int) (p3_moved1 : Int) : Option (Int × List Int) :=
  recM fun n => four_Count_1_mF n who1 left1 p21 p3_Grid_W1 p3_Grid_H1 p3_Grid_Cells1 p3_k1 p3_moved1

set_option maxRecDepth 100000 in
set_option maxHeartbeats 4000000 in
theorem four_Count_1_wB {rec_four_Count_1 : Int → Int → Int → Int → Int → List Int → Int → Int → Option (Int × List Int)} (ih_four_Count_1 : ∀ {who1 : Int} {left1 : Int} {g1 : Nat} {p21 : Int} {g2 : Nat} {g3 : Nat} {p3_Grid_W1 : Int} {p3_Grid_H1 : Int} {A1 : Option Addr} {c1 : Nat} {n1 : Nat} {p3_Grid_Cells1 : List Int} {p3_k1 : Int} {p3_moved1 : Int} {g4 : Nat} {r : (Int × List Int)} {w0 w : World} {B : Nat} {fs : List HP} (_ : rec_four_Count_1 who1 left1 p21 p3_Grid_W1 p3_Grid_H1 p3_Grid_Cells1 p3_k1 p3_moved1 = some r) (_ : Sep w0 B w (blk g1 3 #[.int .i64 p21] :: blk g2 92 #[.pointer (some ⟨g3, 0, none⟩)] :: blk g3 94 #[.int .i64 p3_Grid_W1, .int .i64 p3_Grid_H1, .slice A1 n1 c1, .int .i64 p3_k1, .int .i64 p3_moved1] :: own 3 (.slice A1 n1 c1) (vI p3_Grid_Cells1) :: blk g4 86 #[.func (.func 67) #[] #[.pointer (some ⟨g1, 0, none⟩), .pointer (some ⟨g2, 0, none⟩), .pointer (some ⟨g4, 0, none⟩)]] :: fs)), Calls Try.prog 67 #[.int .i64 who1, .int .i64 left1, .pointer (some ⟨g1, 0, none⟩), .pointer (some ⟨g2, 0, none⟩), .pointer (some ⟨g4, 0, none⟩)] w fun e w' => ∃ v, e = .returned v ∧ v = .int .i64 r.1 ∧ Sep w0 B w' (blk g1 3 #[.int .i64 p21] :: blk g2 92 #[.pointer (some ⟨g3, 0, none⟩)] :: blk g3 94 #[.int .i64 p3_Grid_W1, .int .i64 p3_Grid_H1, .slice A1 n1 c1, .int .i64 p3_k1, .int .i64 p3_moved1] :: own 3 (.slice A1 n1 c1) (vI r.2) :: blk g4 86 #[.func (.func 67) #[] #[.pointer (some ⟨g1, 0, none⟩), .pointer (some ⟨g2, 0, none⟩), .pointer (some ⟨g4, 0, none⟩)]] :: fs)) {who1 : Int} {left1 : Int} {g1 : Nat} {p21 : Int} {g2 : Nat} {g3 : Nat} {p3_Grid_W1 : Int} {p3_Grid_H1 : Int} {A1 : Option Addr} {c1 : Nat} {n1 : Nat} {p3_Grid_Cells1 : List Int} {p3_k1 : Int} {p3_moved1 : Int} {g4 : Nat} {r : (Int × List Int)} {w0 w : World} {B : Nat} {fs : List HP} (hm : four_Count_1_B rec_four_Count_1 who1 left1 p21 p3_Grid_W1 p3_Grid_H1 p3_Grid_Cells1 p3_k1 p3_moved1 = some r) (hS : Sep w0 B w (blk g1 3 #[.int .i64 p21] :: blk g2 92 #[.pointer (some ⟨g3, 0, none⟩)] :: blk g3 94 #[.int .i64 p3_Grid_W1, .int .i64 p3_Grid_H1, .slice A1 n1 c1, .int .i64 p3_k1, .int .i64 p3_moved1] :: own 3 (.slice A1 n1 c1) (vI p3_Grid_Cells1) :: blk g4 86 #[.func (.func 67) #[] #[.pointer (some ⟨g1, 0, none⟩), .pointer (some ⟨g2, 0, none⟩), .pointer (some ⟨g4, 0, none⟩)]] :: fs)) :
    Calls Try.prog 67 #[.int .i64 who1, .int .i64 left1, .pointer (some ⟨g1, 0, none⟩), .pointer (some ⟨g2, 0, none⟩), .pointer (some ⟨g4, 0, none⟩)] w fun e w' => ∃ v, e = .returned v ∧ v = .int .i64 r.1 ∧ Sep w0 B w' (blk g1 3 #[.int .i64 p21] :: blk g2 92 #[.pointer (some ⟨g3, 0, none⟩)] :: blk g3 94 #[.int .i64 p3_Grid_W1, .int .i64 p3_Grid_H1, .slice A1 n1 c1, .int .i64 p3_k1, .int .i64 p3_moved1] :: own 3 (.slice A1 n1 c1) (vI r.2) :: blk g4 86 #[.func (.func 67) #[] #[.pointer (some ⟨g1, 0, none⟩), .pointer (some ⟨g2, 0, none⟩), .pointer (some ⟨g4, 0, none⟩)]] :: fs) := by
  obtain ⟨i3, hi3, hz3, hs3, hb3⟩ := info_parts Info3
  obtain rfl := (hS.at_ 3 rfl).len1
  unfold four_Count_1_B at hm
  replace hm := start_b hm
  refine enter (l := [.int .i64 who1, .int .i64 left1, .pointer (some ⟨g1, 0, none⟩), .pointer (some ⟨g2, 0, none⟩), .pointer (some ⟨g4, 0, none⟩)]) (n := 55) Try.func67 rfl rfl (by simp) (fun a hF => ?_)
  refine reg [] [] [0, 1, 2, 3, 4] [pl 0 (.int .i64 who1), pl 1 (.int .i64 left1), pl 2 (.pointer (some ⟨g1, 0, none⟩)), pl 3 (.pointer (some ⟨g2, 0, none⟩)), pl 4 (.pointer (some ⟨g4, 0, none⟩))] hF hS Fol (by kernel_rfl) (by kernel_rfl) (by kernel_rfl) ?_ (fun a w hF hS => ?_)
  · exact obs_nil
  refine seq_cut (fun a w => Fr 55 [pl 0 (.int .i64 who1), pl 1 (.int .i64 left1), pl 2 (.pointer (some ⟨g1, 0, none⟩)), pl 3 (.pointer (some ⟨g2, 0, none⟩)), pl 4 (.pointer (some ⟨g4, 0, none⟩))] a ∧ Sep w0 B w (blk g1 3 #[.int .i64 p21] :: blk g2 92 #[.pointer (some ⟨g3, 0, none⟩)] :: blk g3 94 #[.int .i64 p3_Grid_W1, .int .i64 p3_Grid_H1, .slice A1 p3_Grid_Cells1.length c1, .int .i64 p3_k1, .int .i64 p3_moved1] :: own 3 (.slice A1 p3_Grid_Cells1.length c1) (vI p3_Grid_Cells1) :: blk g4 86 #[.func (.func 67) #[] #[.pointer (some ⟨g1, 0, none⟩), .pointer (some ⟨g2, 0, none⟩), .pointer (some ⟨g4, 0, none⟩)]] :: fs) ∧ ((four_Count_1_J1 rec_four_Count_1 who1 left1 p21 p3_Grid_W1 p3_Grid_H1 p3_Grid_Cells1 p3_k1 p3_moved1)).bind some = some r) ?_ ?_
  · rintro a w ⟨hF, hS, hm⟩
    unfold four_Count_1_J1 at hm
    refine reg [] [] [0, 1, 2, 3, 4, 8] [pl 0 (.int .i64 who1), pl 1 (.int .i64 left1), pl 2 (.pointer (some ⟨g1, 0, none⟩)), pl 3 (.pointer (some ⟨g2, 0, none⟩)), pl 4 (.pointer (some ⟨g4, 0, none⟩)), pl 8 (.int .i64 0)] hF hS Fol (by kernel_rfl) (by kernel_rfl) (by kernel_rfl) ?_ (fun a w hF hS => ?_)
    · exact obs_nil
    refine seq_cut (fun a w => ∃ (n3 : Int) (p32 : List Int), Fr 55 [pl 8 (.int .i64 n3)] a ∧ Sep w0 B w (blk g1 3 #[.int .i64 p21] :: blk g2 92 #[.pointer (some ⟨g3, 0, none⟩)] :: blk g3 94 #[.int .i64 p3_Grid_W1, .int .i64 p3_Grid_H1, .slice A1 p3_Grid_Cells1.length c1, .int .i64 p3_k1, .int .i64 p3_moved1] :: own 3 (.slice A1 p3_Grid_Cells1.length c1) (vI p32) :: blk g4 86 #[.func (.func 67) #[] #[.pointer (some ⟨g1, 0, none⟩), .pointer (some ⟨g2, 0, none⟩), .pointer (some ⟨g4, 0, none⟩)]] :: fs) ∧ (four_Count_1_J2 n3 p32).bind some = some r) ?_ ?_
    · rintro a w ⟨n3, p32, hF, hS, hm⟩
      unfold four_Count_1_J2 at hm
      refine reg [] [] [7] [pl 7 (.int .i64 n3)] hF hS Fol (by kernel_rfl) (by kernel_rfl) (by kernel_rfl) ?_ (fun a w hF hS => ?_)
      · exact obs_nil
      refine wp_ret ?_
      have hm : some (n3, p32) = some r := hm
      obtain rfl := Option.some.inj hm
      exact retV (rs := [.tmp 7]) (vs := [.int .i64 n3]) hF rfl (rv_t (by kernel_rfl) <| rv_nil) rfl ⟨_, rfl, rfl, hS⟩
    · refine reg [⟨false, [], vS (Instr.loadAt 3 (.pointer (some ⟨g1, 0, none⟩))), .int .i64 p21⟩] [some (.int .i64 p21), none] [0, 1, 3, 4, 8, 13, 14] [pl 0 (.int .i64 who1), pl 1 (.int .i64 left1), pl 3 (.pointer (some ⟨g2, 0, none⟩)), pl 4 (.pointer (some ⟨g4, 0, none⟩)), pl 8 (.int .i64 0), pl 13 (.int .i64 p21), pl 14 (.int .i64 0)] hF hS Fol (by kernel_rfl) (by kernel_rfl) (by kernel_rfl) ?_ (fun a w hF hS => ?_)
      · exact obs_cons (ob_load Agg3 (fun _ _ hS => (hS.at_ 0 rfl).cell rfl)) <| obs_nil
      refine wp_block ?_
      have hS := hS.pickN 5 [1, 2, 3, 4, 0] (by decide)
      refine wp_loop_model (S := (List Int × Int × Int)) (R := (Int × List Int)) (four_Count_1_L1 rec_four_Count_1 who1 left1 p21 p3_Grid_W1 p3_Grid_H1 p3_Grid_Cells1 p3_k1 p3_moved1) (fun x => (four_Count_1_K1 x).bind some) r (fun (x : (List Int × Int × Int)) a w => Fr 55 [pl 0 (.int .i64 who1), pl 1 (.int .i64 left1), pl 3 (.pointer (some ⟨g2, 0, none⟩)), pl 4 (.pointer (some ⟨g4, 0, none⟩)), pl 8 (.int .i64 x.2.1), pl 13 (.int .i64 p21), pl 14 (.int .i64 x.2.2)] a ∧ Sep w0 B w (blk g2 92 #[.pointer (some ⟨g3, 0, none⟩)] :: blk g3 94 #[.int .i64 p3_Grid_W1, .int .i64 p3_Grid_H1, .slice A1 p3_Grid_Cells1.length c1, .int .i64 p3_k1, .int .i64 p3_moved1] :: own 3 (.slice A1 p3_Grid_Cells1.length c1) (vI x.1) :: blk g4 86 #[.func (.func 67) #[] #[.pointer (some ⟨g1, 0, none⟩), .pointer (some ⟨g2, 0, none⟩), .pointer (some ⟨g4, 0, none⟩)]] :: blk g1 3 #[.int .i64 p21] :: fs)) (assoc_b hm) ⟨hF.weak [0, 1, 3, 4, 8, 13, 14] (by kernel_rfl), hS⟩ ?_
      clear hF hS hm
      rintro nn1 ⟨z1, n2, z2⟩ a w ⟨hF, hS⟩ hm
      generalize hφ1 : stK (four_Count_1_L1 rec_four_Count_1 who1 left1 p21 p3_Grid_W1 p3_Grid_H1 p3_Grid_Cells1 p3_k1 p3_moved1) nn1 (fun x => (four_Count_1_K1 x).bind some) = φ1 at hm
      unfold four_Count_1_L1 at hm
      dsimp only at hF hS hm
      refine reg [] [] [0, 1, 3, 4, 8, 13, 14, 15] [pl 0 (.int .i64 who1), pl 1 (.int .i64 left1), pl 3 (.pointer (some ⟨g2, 0, none⟩)), pl 4 (.pointer (some ⟨g4, 0, none⟩)), pl 8 (.int .i64 n2), pl 13 (.int .i64 p21), pl 14 (.int .i64 z2), pl 15 (.bool (decide (z2 < p21)))] hF hS Fol (by kernel_rfl) (by kernel_rfl) (by kernel_rfl) ?_ (fun a w hF hS => ?_)
      · exact obs_nil
      refine seq_cut (fun a w => Fr 55 [pl 0 (.int .i64 who1), pl 1 (.int .i64 left1), pl 3 (.pointer (some ⟨g2, 0, none⟩)), pl 4 (.pointer (some ⟨g4, 0, none⟩)), pl 8 (.int .i64 n2), pl 13 (.int .i64 p21), pl 14 (.int .i64 z2)] a ∧ Sep w0 B w (blk g2 92 #[.pointer (some ⟨g3, 0, none⟩)] :: blk g3 94 #[.int .i64 p3_Grid_W1, .int .i64 p3_Grid_H1, .slice A1 p3_Grid_Cells1.length c1, .int .i64 p3_k1, .int .i64 p3_moved1] :: own 3 (.slice A1 p3_Grid_Cells1.length c1) (vI z1) :: blk g4 86 #[.func (.func 67) #[] #[.pointer (some ⟨g1, 0, none⟩), .pointer (some ⟨g2, 0, none⟩), .pointer (some ⟨g4, 0, none⟩)]] :: blk g1 3 #[.int .i64 p21] :: fs) ∧ ((four_Count_1_J3 rec_four_Count_1 who1 left1 p21 p3_Grid_W1 p3_Grid_H1 p3_Grid_Cells1 p3_k1 p3_moved1 z1 n2 z2)).bind φ1 = some r) ?_ ?_
      · rintro a w ⟨hF, hS, hm⟩
        unfold four_Count_1_J3 at hm
        refine seq_cut (fun a w => ∃ (z3 : List Int) (n4 : Int), Fr 55 [pl 0 (.int .i64 who1), pl 1 (.int .i64 left1), pl 3 (.pointer (some ⟨g2, 0, none⟩)), pl 4 (.pointer (some ⟨g4, 0, none⟩)), pl 8 (.int .i64 n4), pl 13 (.int .i64 p21), pl 14 (.int .i64 z2)] a ∧ Sep w0 B w (blk g2 92 #[.pointer (some ⟨g3, 0, none⟩)] :: blk g3 94 #[.int .i64 p3_Grid_W1, .int .i64 p3_Grid_H1, .slice A1 p3_Grid_Cells1.length c1, .int .i64 p3_k1, .int .i64 p3_moved1] :: own 3 (.slice A1 p3_Grid_Cells1.length c1) (vI z3) :: blk g4 86 #[.func (.func 67) #[] #[.pointer (some ⟨g1, 0, none⟩), .pointer (some ⟨g2, 0, none⟩), .pointer (some ⟨g4, 0, none⟩)]] :: blk g1 3 #[.int .i64 p21] :: fs) ∧ ((four_Count_1_J4 z2) z3 n4).bind φ1 = some r) ?_ ?_
        · rintro a w ⟨z3, n4, hF, hS, hm⟩
          unfold four_Count_1_J4 at hm
          refine reg1 [] [] [0, 1, 3, 4, 8, 13, 14] [pl 0 (.int .i64 who1), pl 1 (.int .i64 left1), pl 3 (.pointer (some ⟨g2, 0, none⟩)), pl 4 (.pointer (some ⟨g4, 0, none⟩)), pl 8 (.int .i64 n4), pl 13 (.int .i64 p21), pl 14 (.int .i64 (w64 (z2 + 1)))] hF hS Fol (by kernel_rfl) (by kernel_rfl) (by kernel_rfl) ?_ (fun a w hF hS => ?_)
          · exact obs_nil
          refine then_n ?_
          rw [← hφ1] at hm
          exact ⟨(z3, n4, (w64 (z2 + 1))), ⟨hF.weak [0, 1, 3, 4, 8, 13, 14] (by kernel_rfl), hS⟩, hm⟩
        · refine wp_block ?_
          refine reg [] [] [0, 1, 3, 4, 8, 9, 13, 14] [pl 0 (.int .i64 who1), pl 1 (.int .i64 left1), pl 3 (.pointer (some ⟨g2, 0, none⟩)), pl 4 (.pointer (some ⟨g4, 0, none⟩)), pl 8 (.int .i64 n2), pl 9 (.int .i64 z2), pl 13 (.int .i64 p21), pl 14 (.int .i64 z2)] hF hS Fol (by kernel_rfl) (by kernel_rfl) (by kernel_rfl) ?_ (fun a w hF hS => ?_)
          · exact obs_nil
          obtain ⟨r1, hr1, hm⟩ := call_b hm
          refine reg [⟨false, [], vS (Instr.loadAt 92 (.pointer (some ⟨g2, 0, none⟩))), .pointer (some ⟨g3, 0, none⟩)⟩, ⟨false, [], callFunc 68 #[.pointer (some ⟨g3, 0, none⟩), .int .i64 z2], .int .i64 r1⟩] [some (.pointer (some ⟨g3, 0, none⟩)), none, some (.int .i64 r1), none] [0, 1, 3, 4, 8, 10, 13, 14] [pl 0 (.int .i64 who1), pl 1 (.int .i64 left1), pl 3 (.pointer (some ⟨g2, 0, none⟩)), pl 4 (.pointer (some ⟨g4, 0, none⟩)), pl 8 (.int .i64 n2), pl 10 (.int .i64 r1), pl 13 (.int .i64 p21), pl 14 (.int .i64 z2)] hF hS Fol (by kernel_rfl) (by kernel_rfl) (by kernel_rfl) ?_ (fun a w hF hS => ?_)
          · exact obs_cons (ob_load Agg92 (fun _ _ hS => (hS.at_ 0 rfl).cell rfl)) <| obs_cons (ob_call Try.func68 (by kernel_rfl) rfl (fun _ _ hS => quiet_pick hS 5 [1, 2, 0, 3, 4] (by decide) [2, 0, 1, 3, 4] (by decide) (qs := (blk g3 94 #[.int .i64 p3_Grid_W1, .int .i64 p3_Grid_H1, .slice A1 p3_Grid_Cells1.length c1, .int .i64 p3_k1, .int .i64 p3_moved1] :: own 3 (.slice A1 p3_Grid_Cells1.length c1) (vI z1) :: blk g2 92 #[.pointer (some ⟨g3, 0, none⟩)] :: blk g4 86 #[.func (.func 67) #[] #[.pointer (some ⟨g1, 0, none⟩), .pointer (some ⟨g2, 0, none⟩), .pointer (some ⟨g4, 0, none⟩)]] :: blk g1 3 #[.int .i64 p21] :: fs)) rfl (fun hS => four_well_fall_w hr1 hS ) 5 rfl)) <| obs_nil
          refine seq_cut (fun a w => Fr 55 [pl 0 (.int .i64 who1), pl 1 (.int .i64 left1), pl 3 (.pointer (some ⟨g2, 0, none⟩)), pl 4 (.pointer (some ⟨g4, 0, none⟩)), pl 8 (.int .i64 n2), pl 10 (.int .i64 r1), pl 13 (.int .i64 p21), pl 14 (.int .i64 z2)] a ∧ Sep w0 B w (blk g2 92 #[.pointer (some ⟨g3, 0, none⟩)] :: blk g3 94 #[.int .i64 p3_Grid_W1, .int .i64 p3_Grid_H1, .slice A1 p3_Grid_Cells1.length c1, .int .i64 p3_k1, .int .i64 p3_moved1] :: own 3 (.slice A1 p3_Grid_Cells1.length c1) (vI z1) :: blk g4 86 #[.func (.func 67) #[] #[.pointer (some ⟨g1, 0, none⟩), .pointer (some ⟨g2, 0, none⟩), .pointer (some ⟨g4, 0, none⟩)]] :: blk g1 3 #[.int .i64 p21] :: fs) ∧ ((four_Count_1_J5 rec_four_Count_1 who1 left1 p21 p3_Grid_W1 p3_Grid_H1 p3_Grid_Cells1 p3_k1 p3_moved1 z1 n2 z2 r1)).bind φ1 = some r) ?_ ?_
          · rintro a w ⟨hF, hS, hm⟩
            unfold four_Count_1_J5 at hm
            refine seqR ?_
            obtain ⟨hp1, hm⟩ := asrt_b hm
            refine at_run 8 [⟨false, [], vS (Instr.loadAt 92 (.pointer (some ⟨g2, 0, none⟩))), .pointer (some ⟨g3, 0, none⟩)⟩, ⟨false, [], vS (Instr.loadAt 22 (.pointer (some ⟨g3, 2, none⟩))), .slice A1 p3_Grid_Cells1.length c1⟩, ⟨true, [], vS (Instr.indexAt 22 (.slice A1 p3_Grid_Cells1.length c1) (.int .i64 r1)), .pointer (some (sAddr A1 r1))⟩] [some (.pointer (some ⟨g3, 0, none⟩)), none, none, none, some (.slice A1 p3_Grid_Cells1.length c1), none, none, some (.pointer (some (sAddr A1 r1)))] [0, 1, 3, 4, 8, 10, 13, 14, 28, 29] [pl 0 (.int .i64 who1), pl 1 (.int .i64 left1), pl 3 (.pointer (some ⟨g2, 0, none⟩)), pl 4 (.pointer (some ⟨g4, 0, none⟩)), pl 8 (.int .i64 n2), pl 10 (.int .i64 r1), pl 13 (.int .i64 p21), pl 14 (.int .i64 z2), pl 28 (.int .i64 who1), pl 29 (.pointer (some (sAddr A1 r1)))] hF hS (by kernel_rfl) (by kernel_rfl) ?_ (fun a w hF hS => ?_)
            · exact obs_cons (ob_load Agg92 (fun _ _ hS => (hS.at_ 0 rfl).cell rfl)) <| obs_cons (ob_load Agg22 (fun _ _ hS => (hS.at_ 1 rfl).cell rfl)) <| obs_cons (ob_ix1 (f := (Value.int .i64)) (m := z1) Und22 hi3 hs3 (hS.at_ 2 rfl).rd ((hS.at_ 2 rfl).len1) (fun _ => hp1)) <| obs_nil
            obtain ⟨w, hrun, hS⟩ := run_set1 (P := Try.prog) (t := 3) (x := who1) (Value.int .i64) (hS.at_ 2 rfl) hi3 hs3 rfl rfl hp1
            refine at_skip hF (by kernel_rfl) hrun ?_
            have hS : Sep w0 B w (blk g2 92 #[.pointer (some ⟨g3, 0, none⟩)] :: blk g3 94 #[.int .i64 p3_Grid_W1, .int .i64 p3_Grid_H1, .slice A1 p3_Grid_Cells1.length c1, .int .i64 p3_k1, .int .i64 p3_moved1] :: own 3 (.slice A1 p3_Grid_Cells1.length c1) (vI (z1.set (Int.toNat r1) who1)) :: blk g4 86 #[.func (.func 67) #[] #[.pointer (some ⟨g1, 0, none⟩), .pointer (some ⟨g2, 0, none⟩), .pointer (some ⟨g4, 0, none⟩)]] :: blk g1 3 #[.int .i64 p21] :: fs) := hS
            refine at_end [0, 1, 3, 4, 8, 10, 13, 14] [pl 0 (.int .i64 who1), pl 1 (.int .i64 left1), pl 3 (.pointer (some ⟨g2, 0, none⟩)), pl 4 (.pointer (some ⟨g4, 0, none⟩)), pl 8 (.int .i64 n2), pl 10 (.int .i64 r1), pl 13 (.int .i64 p21), pl 14 (.int .i64 z2)] hF rfl (by kernel_rfl) (fun hF => ?_)
            refine then_n ?_
            refine seq_cut (fun a w => ∃ (z4 : List Int) (n5 : Int), Fr 55 [pl 0 (.int .i64 who1), pl 1 (.int .i64 left1), pl 3 (.pointer (some ⟨g2, 0, none⟩)), pl 4 (.pointer (some ⟨g4, 0, none⟩)), pl 8 (.int .i64 n5), pl 10 (.int .i64 r1), pl 13 (.int .i64 p21), pl 14 (.int .i64 z2)] a ∧ Sep w0 B w (blk g2 92 #[.pointer (some ⟨g3, 0, none⟩)] :: blk g3 94 #[.int .i64 p3_Grid_W1, .int .i64 p3_Grid_H1, .slice A1 p3_Grid_Cells1.length c1, .int .i64 p3_k1, .int .i64 p3_moved1] :: own 3 (.slice A1 p3_Grid_Cells1.length c1) (vI z4) :: blk g4 86 #[.func (.func 67) #[] #[.pointer (some ⟨g1, 0, none⟩), .pointer (some ⟨g2, 0, none⟩), .pointer (some ⟨g4, 0, none⟩)]] :: blk g1 3 #[.int .i64 p21] :: fs) ∧ ((four_Count_1_J6 p3_Grid_Cells1 z2 r1) z4 n5).bind φ1 = some r) ?_ ?_
            · rintro a w ⟨z4, n5, hF, hS, hm⟩
              unfold four_Count_1_J6 at hm
              refine oneR ?_
              obtain ⟨hp2, hm⟩ := asrt_b hm
              refine at_run 7 [⟨false, [], vS (Instr.loadAt 92 (.pointer (some ⟨g2, 0, none⟩))), .pointer (some ⟨g3, 0, none⟩)⟩, ⟨false, [], vS (Instr.loadAt 22 (.pointer (some ⟨g3, 2, none⟩))), .slice A1 p3_Grid_Cells1.length c1⟩, ⟨true, [], vS (Instr.indexAt 22 (.slice A1 p3_Grid_Cells1.length c1) (.int .i64 r1)), .pointer (some (sAddr A1 r1))⟩] [some (.pointer (some ⟨g3, 0, none⟩)), none, none, none, some (.slice A1 p3_Grid_Cells1.length c1), none, some (.pointer (some (sAddr A1 r1)))] [0, 1, 3, 4, 8, 13, 14, 52] [pl 0 (.int .i64 who1), pl 1 (.int .i64 left1), pl 3 (.pointer (some ⟨g2, 0, none⟩)), pl 4 (.pointer (some ⟨g4, 0, none⟩)), pl 8 (.int .i64 n5), pl 13 (.int .i64 p21), pl 14 (.int .i64 z2), pl 52 (.pointer (some (sAddr A1 r1)))] hF hS (by kernel_rfl) (by kernel_rfl) ?_ (fun a w hF hS => ?_)
              · exact obs_cons (ob_load Agg92 (fun _ _ hS => (hS.at_ 0 rfl).cell rfl)) <| obs_cons (ob_load Agg22 (fun _ _ hS => (hS.at_ 1 rfl).cell rfl)) <| obs_cons (ob_ix1 (f := (Value.int .i64)) (m := z4) Und22 hi3 hs3 (hS.at_ 2 rfl).rd ((hS.at_ 2 rfl).len1) (fun _ => hp2)) <| obs_nil
              obtain ⟨w, hrun, hS⟩ := run_set1 (P := Try.prog) (t := 3) (x := 0) (Value.int .i64) (hS.at_ 2 rfl) hi3 hs3 rfl rfl hp2
              refine at_skip hF (by kernel_rfl) hrun ?_
              have hS : Sep w0 B w (blk g2 92 #[.pointer (some ⟨g3, 0, none⟩)] :: blk g3 94 #[.int .i64 p3_Grid_W1, .int .i64 p3_Grid_H1, .slice A1 p3_Grid_Cells1.length c1, .int .i64 p3_k1, .int .i64 p3_moved1] :: own 3 (.slice A1 p3_Grid_Cells1.length c1) (vI (z4.set (Int.toNat r1) 0)) :: blk g4 86 #[.func (.func 67) #[] #[.pointer (some ⟨g1, 0, none⟩), .pointer (some ⟨g2, 0, none⟩), .pointer (some ⟨g4, 0, none⟩)]] :: blk g1 3 #[.int .i64 p21] :: fs) := hS
              refine at_end [0, 1, 3, 4, 8, 13, 14] [pl 0 (.int .i64 who1), pl 1 (.int .i64 left1), pl 3 (.pointer (some ⟨g2, 0, none⟩)), pl 4 (.pointer (some ⟨g4, 0, none⟩)), pl 8 (.int .i64 n5), pl 13 (.int .i64 p21), pl 14 (.int .i64 z2)] hF rfl (by kernel_rfl) (fun hF => ?_)
              refine block_n ?_
              refine then_n ?_
              exact ⟨(z4.set (Int.toNat r1) 0), n5, hF.weak [0, 1, 3, 4, 8, 13, 14] (by kernel_rfl), hS, hm⟩
            · obtain ⟨r2, hr2, hm⟩ := call_b hm
              refine reg [⟨false, [], vS (Instr.loadAt 92 (.pointer (some ⟨g2, 0, none⟩))), .pointer (some ⟨g3, 0, none⟩)⟩, ⟨false, [], callFunc 69 #[.pointer (some ⟨g3, 0, none⟩), .int .i64 r1], .bool r2⟩] [some (.pointer (some ⟨g3, 0, none⟩)), none, some (.bool r2), none] [0, 1, 3, 4, 8, 10, 13, 14, 33] [pl 0 (.int .i64 who1), pl 1 (.int .i64 left1), pl 3 (.pointer (some ⟨g2, 0, none⟩)), pl 4 (.pointer (some ⟨g4, 0, none⟩)), pl 8 (.int .i64 n2), pl 10 (.int .i64 r1), pl 13 (.int .i64 p21), pl 14 (.int .i64 z2), pl 33 (.bool (!r2))] hF hS Fol (by kernel_rfl) (by kernel_rfl) (by kernel_rfl) ?_ (fun a w hF hS => ?_)
              · exact obs_cons (ob_load Agg92 (fun _ _ hS => (hS.at_ 0 rfl).cell rfl)) <| obs_cons (ob_call Try.func69 (by kernel_rfl) rfl (fun _ _ hS => quiet_pick hS 5 [1, 2, 0, 3, 4] (by decide) [2, 0, 1, 3, 4] (by decide) (qs := (blk g3 94 #[.int .i64 p3_Grid_W1, .int .i64 p3_Grid_H1, .slice A1 p3_Grid_Cells1.length c1, .int .i64 p3_k1, .int .i64 p3_moved1] :: own 3 (.slice A1 p3_Grid_Cells1.length c1) (vI (z1.set (Int.toNat r1) who1)) :: blk g2 92 #[.pointer (some ⟨g3, 0, none⟩)] :: blk g4 86 #[.func (.func 67) #[] #[.pointer (some ⟨g1, 0, none⟩), .pointer (some ⟨g2, 0, none⟩), .pointer (some ⟨g4, 0, none⟩)]] :: blk g1 3 #[.int .i64 p21] :: fs)) rfl (fun hS => four_well_won_w hr2 hS ) 5 rfl)) <| obs_nil
              refine cond_ev (t := 33) (b := !r2) hF (by kernel_rfl) (fun hb => ?_) (fun hb => ?_)
              · replace hm := if_t hm hb
                refine oneR ?_
                obtain ⟨r3, hr3, hm⟩ := call_b hm
                refine at_run 6 [⟨false, [], vS (Instr.loadAt 86 (.pointer (some ⟨g4, 0, none⟩))), .func (.func 67) #[] #[.pointer (some ⟨g1, 0, none⟩), .pointer (some ⟨g2, 0, none⟩), .pointer (some ⟨g4, 0, none⟩)]⟩] [none, some (.func (.func 67) #[] #[.pointer (some ⟨g1, 0, none⟩), .pointer (some ⟨g2, 0, none⟩), .pointer (some ⟨g4, 0, none⟩)]), none, none, none, none] [0, 1, 3, 4, 10, 13, 14, 34, 35, 37, 39] [pl 0 (.int .i64 who1), pl 1 (.int .i64 left1), pl 3 (.pointer (some ⟨g2, 0, none⟩)), pl 4 (.pointer (some ⟨g4, 0, none⟩)), pl 10 (.int .i64 r1), pl 13 (.int .i64 p21), pl 14 (.int .i64 z2), pl 34 (.int .i64 n2), pl 35 (.func (.func 67) #[] #[.pointer (some ⟨g1, 0, none⟩), .pointer (some ⟨g2, 0, none⟩), .pointer (some ⟨g4, 0, none⟩)]), pl 37 (.int .i64 (w64 (3 - who1))), pl 39 (.int .i64 (w64 (left1 - 1)))] hF hS (by kernel_rfl) (by kernel_rfl) ?_ (fun a w hF hS => ?_)
                · exact obs_cons (ob_load Agg86 (fun _ _ hS => (hS.at_ 3 rfl).cell rfl)) <| obs_nil
                have hS : Sep w0 B w (blk g1 3 #[.int .i64 p21] :: blk g2 92 #[.pointer (some ⟨g3, 0, none⟩)] :: blk g3 94 #[.int .i64 p3_Grid_W1, .int .i64 p3_Grid_H1, .slice A1 p3_Grid_Cells1.length c1, .int .i64 p3_k1, .int .i64 p3_moved1] :: own 3 (.slice A1 p3_Grid_Cells1.length c1) (vI (z1.set (Int.toNat r1) who1)) :: blk g4 86 #[.func (.func 67) #[] #[.pointer (some ⟨g1, 0, none⟩), .pointer (some ⟨g2, 0, none⟩), .pointer (some ⟨g4, 0, none⟩)]] :: fs) := hS.pickN 5 [4, 0, 1, 2, 3] (by decide)
                refine at_call (f := 67) (args := #[.int .i64 (w64 (3 - who1)), .int .i64 (w64 (left1 - 1)), .pointer (some ⟨g1, 0, none⟩), .pointer (some ⟨g2, 0, none⟩), .pointer (some ⟨g4, 0, none⟩)]) (d := 40) hF (by kernel_rfl) (by kernel_rfl) Try.func67 (by kernel_rfl) rfl (ih_four_Count_1 hr3 hS ) (fun v a w hR hF => ?_)
                clear hS
                obtain ⟨rfl, hS⟩ := hR
                have hS : Sep w0 B w (blk g1 3 #[.int .i64 p21] :: blk g2 92 #[.pointer (some ⟨g3, 0, none⟩)] :: blk g3 94 #[.int .i64 p3_Grid_W1, .int .i64 p3_Grid_H1, .slice A1 p3_Grid_Cells1.length c1, .int .i64 p3_k1, .int .i64 p3_moved1] :: own 3 (.slice A1 p3_Grid_Cells1.length c1) (vI r3.2) :: blk g4 86 #[.func (.func 67) #[] #[.pointer (some ⟨g1, 0, none⟩), .pointer (some ⟨g2, 0, none⟩), .pointer (some ⟨g4, 0, none⟩)]] :: fs) := hS
                refine at_run 2 [] [] [0, 1, 3, 4, 8, 10, 13, 14] [pl 0 (.int .i64 who1), pl 1 (.int .i64 left1), pl 3 (.pointer (some ⟨g2, 0, none⟩)), pl 4 (.pointer (some ⟨g4, 0, none⟩)), pl 8 (.int .i64 (w64 (n2 + r3.1))), pl 10 (.int .i64 r1), pl 13 (.int .i64 p21), pl 14 (.int .i64 z2)] hF hS (by kernel_rfl) (by kernel_rfl) ?_ (fun a w hF hS => ?_)
                · exact obs_nil
                refine at_end [0, 1, 3, 4, 8, 10, 13, 14] [pl 0 (.int .i64 who1), pl 1 (.int .i64 left1), pl 3 (.pointer (some ⟨g2, 0, none⟩)), pl 4 (.pointer (some ⟨g4, 0, none⟩)), pl 8 (.int .i64 (w64 (n2 + r3.1))), pl 10 (.int .i64 r1), pl 13 (.int .i64 p21), pl 14 (.int .i64 z2)] hF rfl (by kernel_rfl) (fun hF => ?_)
                refine then_n ?_
                have hS := hS.pickN 5 [1, 2, 3, 4, 0] (by decide)
                exact ⟨r3.2, (w64 (n2 + r3.1)), hF.weak [0, 1, 3, 4, 8, 10, 13, 14] (by kernel_rfl), hS, hm⟩
              · replace hm := if_f hm hb
                refine reg [] [] [0, 1, 3, 4, 8, 10, 13, 14, 43] [pl 0 (.int .i64 who1), pl 1 (.int .i64 left1), pl 3 (.pointer (some ⟨g2, 0, none⟩)), pl 4 (.pointer (some ⟨g4, 0, none⟩)), pl 8 (.int .i64 n2), pl 10 (.int .i64 r1), pl 13 (.int .i64 p21), pl 14 (.int .i64 z2), pl 43 (.bool (left1 == 1))] hF hS Fol (by kernel_rfl) (by kernel_rfl) (by kernel_rfl) ?_ (fun a w hF hS => ?_)
                · exact obs_nil
                refine cond_ev (t := 43) (b := (left1 == 1)) hF (by kernel_rfl) (fun hb => ?_) (fun hb => ?_)
                · replace hm := if_t hm hb
                  refine reg1 [] [] [0, 1, 3, 4, 8, 10, 13, 14] [pl 0 (.int .i64 who1), pl 1 (.int .i64 left1), pl 3 (.pointer (some ⟨g2, 0, none⟩)), pl 4 (.pointer (some ⟨g4, 0, none⟩)), pl 8 (.int .i64 (w64 (n2 + 1))), pl 10 (.int .i64 r1), pl 13 (.int .i64 p21), pl 14 (.int .i64 z2)] hF hS Fol (by kernel_rfl) (by kernel_rfl) (by kernel_rfl) ?_ (fun a w hF hS => ?_)
                  · exact obs_nil
                  refine then_n ?_
                  exact ⟨(z1.set (Int.toNat r1) who1), (w64 (n2 + 1)), hF.weak [0, 1, 3, 4, 8, 10, 13, 14] (by kernel_rfl), hS, hm⟩
                · replace hm := if_f hm hb
                  refine wp_skip ?_
                  refine then_n ?_
                  exact ⟨(z1.set (Int.toNat r1) who1), n2, hF.weak [0, 1, 3, 4, 8, 10, 13, 14] (by kernel_rfl), hS, hm⟩
          · refine reg [] [] [0, 1, 3, 4, 8, 10, 13, 14, 21] [pl 0 (.int .i64 who1), pl 1 (.int .i64 left1), pl 3 (.pointer (some ⟨g2, 0, none⟩)), pl 4 (.pointer (some ⟨g4, 0, none⟩)), pl 8 (.int .i64 n2), pl 10 (.int .i64 r1), pl 13 (.int .i64 p21), pl 14 (.int .i64 z2), pl 21 (.bool (decide (r1 < 0)))] hF hS Fol (by kernel_rfl) (by kernel_rfl) (by kernel_rfl) ?_ (fun a w hF hS => ?_)
            · exact obs_nil
            refine cond_ev (t := 21) (b := decide (r1 < 0)) hF (by kernel_rfl) (fun hb => ?_) (fun hb => ?_)
            · replace hm := if_t hm hb
              refine wp_exit ?_
              refine then_e (block_e (then_n ?_))
              exact ⟨z1, n2, hF.weak [0, 1, 3, 4, 8, 13, 14] (by kernel_rfl), hS, hm⟩
            · replace hm := if_f hm hb
              refine wp_skip ?_
              refine then_n ?_
              exact ⟨hF.weak [0, 1, 3, 4, 8, 10, 13, 14] (by kernel_rfl), hS, hm⟩
      · refine cond_ev (t := 15) (b := decide (z2 < p21)) hF (by kernel_rfl) (fun hb => ?_) (fun hb => ?_)
        · replace hm := if_t hm hb
          refine wp_skip ?_
          refine then_n ?_
          exact ⟨hF.weak [0, 1, 3, 4, 8, 13, 14] (by kernel_rfl), hS, hm⟩
        · replace hm := if_f hm hb
          refine wp_exit ?_
          refine then_e (then_e (block_e (then_n ?_)))
          have hS := hS.pickN 5 [4, 0, 1, 2, 3] (by decide)
          rw [← hφ1] at hm
          replace hm := done_b hm
          unfold four_Count_1_K1 at hm
          try dsimp only at hm
          have hm : (four_Count_1_J2 n2 z1).bind some = some r := hm
          exact ⟨n2, z1, hF.weak [8] (by kernel_rfl), hS, hm⟩
  · refine reg [] [] [0, 1, 2, 3, 4, 12] [pl 0 (.int .i64 who1), pl 1 (.int .i64 left1), pl 2 (.pointer (some ⟨g1, 0, none⟩)), pl 3 (.pointer (some ⟨g2, 0, none⟩)), pl 4 (.pointer (some ⟨g4, 0, none⟩)), pl 12 (.bool (left1 == 0))] hF hS Fol (by kernel_rfl) (by kernel_rfl) (by kernel_rfl) ?_ (fun a w hF hS => ?_)
    · exact obs_nil
    refine cond_ev (t := 12) (b := (left1 == 0)) hF (by kernel_rfl) (fun hb => ?_) (fun hb => ?_)
    · replace hm := if_t hm hb
      refine reg [] [] [7] [pl 7 (.int .i64 1)] hF hS Fol (by kernel_rfl) (by kernel_rfl) (by kernel_rfl) ?_ (fun a w hF hS => ?_)
      · exact obs_nil
      refine wp_ret ?_
      refine then_r ?_
      have hm : some (1, p3_Grid_Cells1) = some r := hm
      obtain rfl := Option.some.inj hm
      exact retV (rs := [.tmp 7]) (vs := [.int .i64 1]) hF rfl (rv_t (by kernel_rfl) <| rv_nil) rfl ⟨_, rfl, rfl, hS⟩
    · replace hm := if_f hm hb
      refine wp_skip ?_
      refine then_n ?_
      exact ⟨hF.weak [0, 1, 2, 3, 4] (by kernel_rfl), hS, hm⟩

theorem four_Count_1_w {who1 : Int} {left1 : Int} {g1 : Nat} {p21 : Int} {g2 : Nat} {g3 : Nat} {p3_Grid_W1 : Int} {p3_Grid_H1 : Int} {A1 : Option Addr} {c1 : Nat} {n1 : Nat} {p3_Grid_Cells1 : List Int} {p3_k1 : Int} {p3_moved1 : Int} {g4 : Nat} {r : (Int × List Int)} {w0 w : World} {B : Nat} {fs : List HP} (hm : four_Count_1_m who1 left1 p21 p3_Grid_W1 p3_Grid_H1 p3_Grid_Cells1 p3_k1 p3_moved1 = some r) (hS : Sep w0 B w (blk g1 3 #[.int .i64 p21] :: blk g2 92 #[.pointer (some ⟨g3, 0, none⟩)] :: blk g3 94 #[.int .i64 p3_Grid_W1, .int .i64 p3_Grid_H1, .slice A1 n1 c1, .int .i64 p3_k1, .int .i64 p3_moved1] :: own 3 (.slice A1 n1 c1) (vI p3_Grid_Cells1) :: blk g4 86 #[.func (.func 67) #[] #[.pointer (some ⟨g1, 0, none⟩), .pointer (some ⟨g2, 0, none⟩), .pointer (some ⟨g4, 0, none⟩)]] :: fs)) :
    Calls Try.prog 67 #[.int .i64 who1, .int .i64 left1, .pointer (some ⟨g1, 0, none⟩), .pointer (some ⟨g2, 0, none⟩), .pointer (some ⟨g4, 0, none⟩)] w fun e w' => ∃ v, e = .returned v ∧ v = .int .i64 r.1 ∧ Sep w0 B w' (blk g1 3 #[.int .i64 p21] :: blk g2 92 #[.pointer (some ⟨g3, 0, none⟩)] :: blk g3 94 #[.int .i64 p3_Grid_W1, .int .i64 p3_Grid_H1, .slice A1 n1 c1, .int .i64 p3_k1, .int .i64 p3_moved1] :: own 3 (.slice A1 n1 c1) (vI r.2) :: blk g4 86 #[.func (.func 67) #[] #[.pointer (some ⟨g1, 0, none⟩), .pointer (some ⟨g2, 0, none⟩), .pointer (some ⟨g4, 0, none⟩)]] :: fs) := by
  have key : ∀ (n : Nat) {who1 : Int} {left1 : Int} {g1 : Nat} {p21 : Int} {g2 : Nat} {g3 : Nat} {p3_Grid_W1 : Int} {p3_Grid_H1 : Int} {A1 : Option Addr} {c1 : Nat} {n1 : Nat} {p3_Grid_Cells1 : List Int} {p3_k1 : Int} {p3_moved1 : Int} {g4 : Nat} {r : (Int × List Int)} {w0 w : World} {B : Nat} {fs : List HP} (_ : four_Count_1_mF n who1 left1 p21 p3_Grid_W1 p3_Grid_H1 p3_Grid_Cells1 p3_k1 p3_moved1 = some r) (_ : Sep w0 B w (blk g1 3 #[.int .i64 p21] :: blk g2 92 #[.pointer (some ⟨g3, 0, none⟩)] :: blk g3 94 #[.int .i64 p3_Grid_W1, .int .i64 p3_Grid_H1, .slice A1 n1 c1, .int .i64 p3_k1, .int .i64 p3_moved1] :: own 3 (.slice A1 n1 c1) (vI p3_Grid_Cells1) :: blk g4 86 #[.func (.func 67) #[] #[.pointer (some ⟨g1, 0, none⟩), .pointer (some ⟨g2, 0, none⟩), .pointer (some ⟨g4, 0, none⟩)]] :: fs)), Calls Try.prog 67 #[.int .i64 who1, .int .i64 left1, .pointer (some ⟨g1, 0, none⟩), .pointer (some ⟨g2, 0, none⟩), .pointer (some ⟨g4, 0, none⟩)] w fun e w' => ∃ v, e = .returned v ∧ v = .int .i64 r.1 ∧ Sep w0 B w' (blk g1 3 #[.int .i64 p21] :: blk g2 92 #[.pointer (some ⟨g3, 0, none⟩)] :: blk g3 94 #[.int .i64 p3_Grid_W1, .int .i64 p3_Grid_H1, .slice A1 n1 c1, .int .i64 p3_k1, .int .i64 p3_moved1] :: own 3 (.slice A1 n1 c1) (vI r.2) :: blk g4 86 #[.func (.func 67) #[] #[.pointer (some ⟨g1, 0, none⟩), .pointer (some ⟨g2, 0, none⟩), .pointer (some ⟨g4, 0, none⟩)]] :: fs) := by
    intro n
    induction n with
    | zero => intros; rename_i hm0 _; cases hm0
    | succ n ih => intros; rename_i hm0 hS0; exact four_Count_1_wB (rec_four_Count_1 := four_Count_1_mF n) (fun hm hS => ih hm hS) hm0 hS0
  obtain ⟨n, hn⟩ := recM_some hm
  exact key n hn hS

theorem four_Count_1_J5_le_four_Count_1 {rec_four_Count_11 rec_four_Count_12 : Int → Int → Int → Int → Int → List Int → Int → Int → Option (Int × List Int)} (h_rec_four_Count_1 : ∀ a0 a1 a2 a3 a4 a5 a6 a7, Le (rec_four_Count_11 a0 a1 a2 a3 a4 a5 a6 a7) (rec_four_Count_12 a0 a1 a2 a3 a4 a5 a6 a7)) (who1 : Int) (left1 : Int) (p21 : Int) (p3_Grid_W1 : Int) (p3_Grid_H1 : Int) (p3_Grid_Cells1 : List Int) (p3_k1 : Int) (p3_moved1 : Int) (z1 : List Int) (n2 : Int) (z2 : Int) (r1 : Int) : Le (four_Count_1_J5 rec_four_Count_11 who1 left1 p21 p3_Grid_W1 p3_Grid_H1 p3_Grid_Cells1 p3_k1 p3_moved1 z1 n2 z2 r1) (four_Count_1_J5 rec_four_Count_12 who1 left1 p21 p3_Grid_W1 p3_Grid_H1 p3_Grid_Cells1 p3_k1 p3_moved1 z1 n2 z2 r1) := by
  unfold four_Count_1_J5
  repeat' (first | with_reducible exact Le.refl _ | with_reducible exact h_rec_four_Count_1 _ _ _ _ _ _ _ _ | refine Le.asrt ?_ | refine Le.ite ?_ ?_ | refine Le.bind ?_ (fun _ => ?_) | refine Le.loop2 (fun _ => ?_) | refine Le.elim2 (fun _ => ?_) (fun _ => ?_))

theorem four_Count_1_J3_le_four_Count_1 {rec_four_Count_11 rec_four_Count_12 : Int → Int → Int → Int → Int → List Int → Int → Int → Option (Int × List Int)} (h_rec_four_Count_1 : ∀ a0 a1 a2 a3 a4 a5 a6 a7, Le (rec_four_Count_11 a0 a1 a2 a3 a4 a5 a6 a7) (rec_four_Count_12 a0 a1 a2 a3 a4 a5 a6 a7)) (who1 : Int) (left1 : Int) (p21 : Int) (p3_Grid_W1 : Int) (p3_Grid_H1 : Int) (p3_Grid_Cells1 : List Int) (p3_k1 : Int) (p3_moved1 : Int) (z1 : List Int) (n2 : Int) (z2 : Int) : Le (four_Count_1_J3 rec_four_Count_11 who1 left1 p21 p3_Grid_W1 p3_Grid_H1 p3_Grid_Cells1 p3_k1 p3_moved1 z1 n2 z2) (four_Count_1_J3 rec_four_Count_12 who1 left1 p21 p3_Grid_W1 p3_Grid_H1 p3_Grid_Cells1 p3_k1 p3_moved1 z1 n2 z2) := by
  unfold four_Count_1_J3
  repeat' (first | with_reducible exact Le.refl _ | with_reducible exact h_rec_four_Count_1 _ _ _ _ _ _ _ _ | with_reducible exact four_Count_1_J5_le_four_Count_1 h_rec_four_Count_1 _ _ _ _ _ _ _ _ _ _ _ _ | refine Le.asrt ?_ | refine Le.ite ?_ ?_ | refine Le.bind ?_ (fun _ => ?_) | refine Le.loop2 (fun _ => ?_) | refine Le.elim2 (fun _ => ?_) (fun _ => ?_))

theorem four_Count_1_L1_le_four_Count_1 {rec_four_Count_11 rec_four_Count_12 : Int → Int → Int → Int → Int → List Int → Int → Int → Option (Int × List Int)} (h_rec_four_Count_1 : ∀ a0 a1 a2 a3 a4 a5 a6 a7, Le (rec_four_Count_11 a0 a1 a2 a3 a4 a5 a6 a7) (rec_four_Count_12 a0 a1 a2 a3 a4 a5 a6 a7)) (who1 : Int) (left1 : Int) (p21 : Int) (p3_Grid_W1 : Int) (p3_Grid_H1 : Int) (p3_Grid_Cells1 : List Int) (p3_k1 : Int) (p3_moved1 : Int) (x : (List Int × Int × Int)) : Le (four_Count_1_L1 rec_four_Count_11 who1 left1 p21 p3_Grid_W1 p3_Grid_H1 p3_Grid_Cells1 p3_k1 p3_moved1 x) (four_Count_1_L1 rec_four_Count_12 who1 left1 p21 p3_Grid_W1 p3_Grid_H1 p3_Grid_Cells1 p3_k1 p3_moved1 x) := by
  rcases x with ⟨z1, n2, z2⟩
  all_goals
    unfold four_Count_1_L1
    try dsimp only
    repeat' (first | with_reducible exact Le.refl _ | with_reducible exact h_rec_four_Count_1 _ _ _ _ _ _ _ _ | with_reducible exact four_Count_1_J3_le_four_Count_1 h_rec_four_Count_1 _ _ _ _ _ _ _ _ _ _ _ | refine Le.asrt ?_ | refine Le.ite ?_ ?_ | refine Le.bind ?_ (fun _ => ?_) | refine Le.loop2 (fun _ => ?_) | refine Le.elim2 (fun _ => ?_) (fun _ => ?_))

theorem four_Count_1_J1_le_four_Count_1 {rec_four_Count_11 rec_four_Count_12 : Int → Int → Int → Int → Int → List Int → Int → Int → Option (Int × List Int)} (h_rec_four_Count_1 : ∀ a0 a1 a2 a3 a4 a5 a6 a7, Le (rec_four_Count_11 a0 a1 a2 a3 a4 a5 a6 a7) (rec_four_Count_12 a0 a1 a2 a3 a4 a5 a6 a7)) (who1 : Int) (left1 : Int) (p21 : Int) (p3_Grid_W1 : Int) (p3_Grid_H1 : Int) (p3_Grid_Cells1 : List Int) (p3_k1 : Int) (p3_moved1 : Int) : Le (four_Count_1_J1 rec_four_Count_11 who1 left1 p21 p3_Grid_W1 p3_Grid_H1 p3_Grid_Cells1 p3_k1 p3_moved1) (four_Count_1_J1 rec_four_Count_12 who1 left1 p21 p3_Grid_W1 p3_Grid_H1 p3_Grid_Cells1 p3_k1 p3_moved1) := by
  unfold four_Count_1_J1
  repeat' (first | with_reducible exact Le.refl _ | with_reducible exact h_rec_four_Count_1 _ _ _ _ _ _ _ _ | with_reducible exact four_Count_1_L1_le_four_Count_1 h_rec_four_Count_1 _ _ _ _ _ _ _ _ _ | refine Le.asrt ?_ | refine Le.ite ?_ ?_ | refine Le.bind ?_ (fun _ => ?_) | refine Le.loop2 (fun _ => ?_) | refine Le.elim2 (fun _ => ?_) (fun _ => ?_))

theorem four_Count_1_B_le {rec_four_Count_11 rec_four_Count_12 : Int → Int → Int → Int → Int → List Int → Int → Int → Option (Int × List Int)} (h_rec_four_Count_1 : ∀ a0 a1 a2 a3 a4 a5 a6 a7, Le (rec_four_Count_11 a0 a1 a2 a3 a4 a5 a6 a7) (rec_four_Count_12 a0 a1 a2 a3 a4 a5 a6 a7)) (who1 : Int) (left1 : Int) (p21 : Int) (p3_Grid_W1 : Int) (p3_Grid_H1 : Int) (p3_Grid_Cells1 : List Int) (p3_k1 : Int) (p3_moved1 : Int) : Le (four_Count_1_B rec_four_Count_11 who1 left1 p21 p3_Grid_W1 p3_Grid_H1 p3_Grid_Cells1 p3_k1 p3_moved1) (four_Count_1_B rec_four_Count_12 who1 left1 p21 p3_Grid_W1 p3_Grid_H1 p3_Grid_Cells1 p3_k1 p3_moved1) := by
  unfold four_Count_1_B
  repeat' (first | with_reducible exact Le.refl _ | with_reducible exact h_rec_four_Count_1 _ _ _ _ _ _ _ _ | with_reducible exact four_Count_1_J1_le_four_Count_1 h_rec_four_Count_1 _ _ _ _ _ _ _ _ | refine Le.asrt ?_ | refine Le.ite ?_ ?_ | refine Le.bind ?_ (fun _ => ?_) | refine Le.loop2 (fun _ => ?_) | refine Le.elim2 (fun _ => ?_) (fun _ => ?_))

theorem four_Count_1_mF_le : ∀ (n : Nat) (who1 : Int) (left1 : Int) (p21 : Int) (p3_Grid_W1 : Int) (p3_Grid_H1 : Int) (p3_Grid_Cells1 : List Int) (p3_k1 : Int) (p3_moved1 : Int), Le (four_Count_1_mF n who1 left1 p21 p3_Grid_W1 p3_Grid_H1 p3_Grid_Cells1 p3_k1 p3_moved1) (four_Count_1_mF (n + 1) who1 left1 p21 p3_Grid_W1 p3_Grid_H1 p3_Grid_Cells1 p3_k1 p3_moved1)
  | 0, _, _, _, _, _, _, _, _ => fun _ h => by cases h
  | n + 1, _, _, _, _, _, _, _, _ => four_Count_1_B_le (fun a0 a1 a2 a3 a4 a5 a6 a7 => four_Count_1_mF_le n a0 a1 a2 a3 a4 a5 a6 a7) _ _ _ _ _ _ _ _

theorem four_Count_1_m_of (N : Nat) (who1 : Int) (left1 : Int) (p21 : Int) (p3_Grid_W1 : Int) (p3_Grid_H1 : Int) (p3_Grid_Cells1 : List Int) (p3_k1 : Int) (p3_moved1 : Int) {r : (Int × List Int)} (h : four_Count_1_mF N who1 left1 p21 p3_Grid_W1 p3_Grid_H1 p3_Grid_Cells1 p3_k1 p3_moved1 = some r) : four_Count_1_m who1 left1 p21 p3_Grid_W1 p3_Grid_H1 p3_Grid_Cells1 p3_k1 p3_moved1 = some r :=
  recM_mono (fun n => four_Count_1_mF_le n _ _ _ _ _ _ _ _) h

noncomputable def four_Count_J2 (wide1 : Int) (h1 : Int) (k1 : Int) (plies1 : Int) (w1 : List Int) : Option (Int × Int) :=
  (four_Count_1_m 1 plies1 wide1 wide1 h1 w1 k1 0).bind fun r4 => some (r4.1, 0)

noncomputable def four_Count_J1 (wide1 : Int) (h1 : Int) (k1 : Int) (plies1 : Int) : Option (Int × Int) :=
  asrt ((0 : Int) ≤ (w64 (wide1 * h1)) ∧ (w64 (wide1 * h1)) ≤ bigN) <| (four_Count_J2 wide1 h1 k1 plies1) (List.replicate (Int.toNat (w64 (wide1 * h1))) (0 : Int))

noncomputable def four_Count_m (wide1 : Int) (h1 : Int) (k1 : Int) (plies1 : Int) : Option (Int × Int) :=
  (four_far_m wide1).bind fun r1 => ((if (!r1) then four_far_m h1 else some false)).bind fun r2 => ((if (!(r1 || r2)) then four_far_m k1 else some false)).bind fun r3 => if ((((r1 || r2) || r3) || (decide (plies1 < 0))) || (decide ((6 : Int) < plies1))) then (some (0, 3)) else ((four_Count_J1 wide1 h1 k1 plies1))

set_option maxRecDepth 100000 in
set_option maxHeartbeats 4000000 in
theorem four_Count_w {wide1 : Int} {h1 : Int} {k1 : Int} {plies1 : Int} {r : (Int × Int)} {w0 w : World} {B : Nat} {fs : List HP} (hm : four_Count_m wide1 h1 k1 plies1 = some r) (hS : Sep w0 B w (fs)) :
    Calls Try.prog 30 #[.int .i64 wide1, .int .i64 h1, .int .i64 k1, .int .i64 plies1] w fun e w' => e = .returned (.tuple #[.int .i64 r.1, .int .i64 r.2]) ∧ Sep w0 B w' (fs) := by
  obtain ⟨i3, hi3, hz3, hs3, hb3⟩ := info_parts Info3
  obtain ⟨i86, hi86, hz86, hs86, hb86⟩ := info_parts Info86
  obtain ⟨i92, hi92, hz92, hs92, hb92⟩ := info_parts Info92
  unfold four_Count_m at hm
  replace hm := start_b hm
  refine enter (l := [.int .i64 wide1, .int .i64 h1, .int .i64 k1, .int .i64 plies1]) (n := 44) Try.func30 rfl rfl (by simp) (fun a hF => ?_)
  refine seqR ?_
  refine at_do (d := 4) (s := vS (Instr.box 3 (.int .i64 wide1))) (v := .pointer (some ⟨w.heap.size, 0, none⟩)) (w' := w.alloc (.cells #[.int .i64 wide1] 3)) hF (by kernel_rfl) (by kernel_rfl) (by kernel_rfl) (fun a hF => ?_)
  have hS : Sep w0 B (w.alloc (.cells #[.int .i64 wide1] 3)) (blk w.heap.size 3 #[.int .i64 wide1] :: (fs)) := hS.box 3 #[.int .i64 wide1]
  generalize w.heap.size = g1 at hF hS
  generalize w.alloc (.cells #[.int .i64 wide1] 3) = w at hS ⊢
  refine at_run 2 [] [] [1, 2, 3, 4] [pl 1 (.int .i64 h1), pl 2 (.int .i64 k1), pl 3 (.int .i64 plies1), pl 4 (.pointer (some ⟨g1, 0, none⟩))] hF hS (by kernel_rfl) (by kernel_rfl) ?_ (fun a w hF hS => ?_)
  · exact obs_nil
  refine at_end [1, 2, 3, 4] [pl 1 (.int .i64 h1), pl 2 (.int .i64 k1), pl 3 (.int .i64 plies1), pl 4 (.pointer (some ⟨g1, 0, none⟩))] hF rfl (by kernel_rfl) (fun hF => ?_)
  refine then_n ?_
  refine seq_cut (fun a w => Fr 44 [pl 1 (.int .i64 h1), pl 2 (.int .i64 k1), pl 3 (.int .i64 plies1), pl 4 (.pointer (some ⟨g1, 0, none⟩))] a ∧ Sep w0 B w (blk g1 3 #[.int .i64 wide1] :: fs) ∧ ((four_Count_J1 wide1 h1 k1 plies1)).bind some = some r) ?_ ?_
  · rintro a w ⟨hF, hS, hm⟩
    unfold four_Count_J1 at hm
    refine seq_cut (fun a w => ∃ (w1 : List Int) (g4 : Nat) (g5 : Nat) (A2 : Option Addr) (c2 : Nat), Fr 44 [pl 3 (.int .i64 plies1), pl 4 (.pointer (some ⟨g1, 0, none⟩)), pl 10 (.pointer (some ⟨g4, 0, none⟩))] a ∧ Sep w0 B w (blk g1 3 #[.int .i64 wide1] :: blk g4 92 #[.pointer (some ⟨g5, 0, none⟩)] :: blk g5 94 #[.int .i64 wide1, .int .i64 h1, .slice A2 w1.length c2, .int .i64 k1, .int .i64 0] :: own 3 (.slice A2 w1.length c2) (vI w1) :: fs) ∧ ((four_Count_J2 wide1 h1 k1 plies1) w1).bind some = some r) ?_ ?_
    · rintro a w ⟨w1, g4, g5, A2, c2, hF, hS, hm⟩
      unfold four_Count_J2 at hm
      refine seqR ?_
      refine at_do (d := 11) (s := vS (Instr.alloc 86 true (.tuple #[]))) (v := .pointer (some ⟨w.heap.size, 0, none⟩)) (w' := w.alloc (.cells #[.nilFunc] 86)) hF (by kernel_rfl) (by kernel_rfl) (by kernel_rfl) (fun a hF => ?_)
      have hS : Sep w0 B (w.alloc (.cells #[.nilFunc] 86)) (blk w.heap.size 86 #[.nilFunc] :: (blk g1 3 #[.int .i64 wide1] :: blk g4 92 #[.pointer (some ⟨g5, 0, none⟩)] :: blk g5 94 #[.int .i64 wide1, .int .i64 h1, .slice A2 w1.length c2, .int .i64 k1, .int .i64 0] :: own 3 (.slice A2 w1.length c2) (vI w1) :: fs)) := hS.box 86 #[.nilFunc]
      generalize w.heap.size = g6 at hF hS
      generalize w.alloc (.cells #[.nilFunc] 86) = w at hS ⊢
      refine at_end [3, 4, 10, 11] [pl 3 (.int .i64 plies1), pl 4 (.pointer (some ⟨g1, 0, none⟩)), pl 10 (.pointer (some ⟨g4, 0, none⟩)), pl 11 (.pointer (some ⟨g6, 0, none⟩))] hF rfl (by kernel_rfl) (fun hF => ?_)
      refine then_n ?_
      refine seqR ?_
      refine at_run 1 [] [] [3, 11, 40] [pl 3 (.int .i64 plies1), pl 11 (.pointer (some ⟨g6, 0, none⟩)), pl 40 (.func (.func 67) #[] #[.pointer (some ⟨g1, 0, none⟩), .pointer (some ⟨g4, 0, none⟩), .pointer (some ⟨g6, 0, none⟩)])] hF hS (by kernel_rfl) (by kernel_rfl) ?_ (fun a w hF hS => ?_)
      · exact obs_nil
      obtain ⟨w, hrun, hS⟩ := run_put (P := Try.prog) (t := 86) (u := .func (.func 67) #[] #[.pointer (some ⟨g1, 0, none⟩), .pointer (some ⟨g4, 0, none⟩), .pointer (some ⟨g6, 0, none⟩)]) (i := 0) (hS.at_ 0 rfl) hi86 hs86 rfl (Nat.lt_of_lt_of_eq (Nat.lt_of_succ_le (Nat.le_of_ble_eq_true (by kernel_rfl))) rfl)
      refine at_skip hF (by kernel_rfl) hrun ?_
      have hS : Sep w0 B w (blk g6 86 #[.func (.func 67) #[] #[.pointer (some ⟨g1, 0, none⟩), .pointer (some ⟨g4, 0, none⟩), .pointer (some ⟨g6, 0, none⟩)]] :: blk g1 3 #[.int .i64 wide1] :: blk g4 92 #[.pointer (some ⟨g5, 0, none⟩)] :: blk g5 94 #[.int .i64 wide1, .int .i64 h1, .slice A2 w1.length c2, .int .i64 k1, .int .i64 0] :: own 3 (.slice A2 w1.length c2) (vI w1) :: fs) := hS
      refine at_end [3, 11] [pl 3 (.int .i64 plies1), pl 11 (.pointer (some ⟨g6, 0, none⟩))] hF rfl (by kernel_rfl) (fun hF => ?_)
      refine then_n ?_
      refine seqR ?_
      obtain ⟨r4, hr4, hm⟩ := call_b hm
      refine at_run 2 [⟨false, [], vS (Instr.loadAt 86 (.pointer (some ⟨g6, 0, none⟩))), .func (.func 67) #[] #[.pointer (some ⟨g1, 0, none⟩), .pointer (some ⟨g4, 0, none⟩), .pointer (some ⟨g6, 0, none⟩)]⟩] [some (.func (.func 67) #[] #[.pointer (some ⟨g1, 0, none⟩), .pointer (some ⟨g4, 0, none⟩), .pointer (some ⟨g6, 0, none⟩)]), none] [41, 42] [pl 41 (.func (.func 67) #[] #[.pointer (some ⟨g1, 0, none⟩), .pointer (some ⟨g4, 0, none⟩), .pointer (some ⟨g6, 0, none⟩)]), pl 42 (.int .i64 plies1)] hF hS (by kernel_rfl) (by kernel_rfl) ?_ (fun a w hF hS => ?_)
      · exact obs_cons (ob_load Agg86 (fun _ _ hS => (hS.at_ 0 rfl).cell rfl)) <| obs_nil
      have hS : Sep w0 B w (blk g1 3 #[.int .i64 wide1] :: blk g4 92 #[.pointer (some ⟨g5, 0, none⟩)] :: blk g5 94 #[.int .i64 wide1, .int .i64 h1, .slice A2 w1.length c2, .int .i64 k1, .int .i64 0] :: own 3 (.slice A2 w1.length c2) (vI w1) :: blk g6 86 #[.func (.func 67) #[] #[.pointer (some ⟨g1, 0, none⟩), .pointer (some ⟨g4, 0, none⟩), .pointer (some ⟨g6, 0, none⟩)]] :: fs) := hS.pickN 5 [1, 2, 3, 4, 0] (by decide)
      refine at_call (f := 67) (args := #[.int .i64 1, .int .i64 plies1, .pointer (some ⟨g1, 0, none⟩), .pointer (some ⟨g4, 0, none⟩), .pointer (some ⟨g6, 0, none⟩)]) (d := 43) hF (by kernel_rfl) (by kernel_rfl) Try.func67 (by kernel_rfl) rfl (four_Count_1_w hr4 hS ) (fun v a w hR hF => ?_)
      clear hS
      obtain ⟨rfl, hS⟩ := hR
      have hS : Sep w0 B w (blk g1 3 #[.int .i64 wide1] :: blk g4 92 #[.pointer (some ⟨g5, 0, none⟩)] :: blk g5 94 #[.int .i64 wide1, .int .i64 h1, .slice A2 w1.length c2, .int .i64 k1, .int .i64 0] :: own 3 (.slice A2 w1.length c2) (vI r4.2) :: blk g6 86 #[.func (.func 67) #[] #[.pointer (some ⟨g1, 0, none⟩), .pointer (some ⟨g4, 0, none⟩), .pointer (some ⟨g6, 0, none⟩)]] :: fs) := hS
      refine at_run 2 [] [] [8, 9] [pl 8 (.int .i64 r4.1), pl 9 (.int .i64 0)] hF hS (by kernel_rfl) (by kernel_rfl) ?_ (fun a w hF hS => ?_)
      · exact obs_nil
      refine at_end [8, 9] [pl 8 (.int .i64 r4.1), pl 9 (.int .i64 0)] hF rfl (by kernel_rfl) (fun hF => ?_)
      refine then_n ?_
      refine wp_ret ?_
      have hS := hS.pickN 5 [] (by decide)
      have hm : some (r4.1, 0) = some r := hm
      obtain rfl := Option.some.inj hm
      exact retV (rs := [.tmp 8, .tmp 9]) (vs := [.int .i64 r4.1, .int .i64 0]) hF rfl (rv_t (by kernel_rfl) <| rv_t (by kernel_rfl) <| rv_nil) rfl ⟨rfl, hS⟩
    · obtain ⟨hp1, hm⟩ := asrt_b hm
      refine regMix5 [0, 1, 2, 3, 4, 7] [] 6 #[true, true, true, true, true, false, false, true, false, false, false, false] [⟨false, [], vS (Instr.loadAt 3 (.pointer (some ⟨g1, 0, none⟩))), .int .i64 wide1⟩, ⟨false, [], vS (Instr.loadAt 3 (.pointer (some ⟨g1, 0, none⟩))), .int .i64 wide1⟩] [some (.int .i64 wide1), none, some (.int .i64 wide1), none, none, none] [3, 4, 30, 31, 34, 37] [pl 3 (.int .i64 plies1), pl 4 (.pointer (some ⟨g1, 0, none⟩)), pl 30 (.int .i64 wide1), pl 31 (.int .i64 h1), pl 34 (.int .i64 (w64 (wide1 * h1))), pl 37 (.int .i64 k1)] hF hS Fol (by kernel_rfl) (by kernel_rfl) (by kernel_rfl) (by kernel_rfl) ?_ (fun a w hF hS => ?_)
      · exact obs_cons (ob_load Agg3 (fun _ _ hS => (hS.at_ 0 rfl).cell rfl)) <| obs_cons (ob_load Agg3 (fun _ _ hS => (hS.at_ 0 rfl).cell rfl)) <| obs_nil
      refine any_step [5, 10] (by kernel_rfl) rfl ?_
      refine (all_cons ?_ (all_cons ?_ all_nil))
      · refine any_op (listed' := #[true, true, true, true, true, true, false, true, false, false, false, false]) (by kernel_rfl) (by kernel_rfl) ?_
        obtain ⟨A1, c1, w, hrun, hS⟩ := run_mk1 (P := Try.prog) (t := 22) (Value.int .i64) (0 : Int) hS .i64 .i64 Und22 hi3 hz3 hs3 (by omega) rfl hp1
        have hS : Sep w0 B w (own 3 (.slice A1 (Int.toNat (w64 (wide1 * h1))) c1) (vI (List.replicate (Int.toNat (w64 (wide1 * h1))) (0 : Int))) :: blk g1 3 #[.int .i64 wide1] :: fs) := hS
        refine at_do (d := 35) hF (by kernel_rfl) (by kernel_rfl) hrun (fun a hF => ?_)
        refine any_fin rfl (hS.pickN 2 [1] (by decide)) ?_
        refine any_step [6, 10] (by kernel_rfl) rfl ?_
        refine (all_cons ?_ (all_cons ?_ all_nil))
        · refine any_op (listed' := #[true, true, true, true, true, true, true, true, false, false, false, false]) (by kernel_rfl) (by kernel_rfl) ?_
          refine at_runW 1 [] [] [3, 4, 36, 37] [pl 3 (.int .i64 plies1), pl 4 (.pointer (some ⟨g1, 0, none⟩)), pl 36 (.agg #[.int .i64 wide1, .int .i64 h1, .slice A1 (Int.toNat (w64 (wide1 * h1))) c1]), pl 37 (.int .i64 k1)] hF hS (by kernel_rfl) (by kernel_rfl) ?_ (fun a hF => ?_)
          · exact obs_nil
          refine any_finI rfl (fun h => h) ?_
          refine any_step [8, 10] (by kernel_rfl) rfl ?_
          refine (all_cons ?_ (all_cons ?_ all_nil))
          · refine any_op (listed' := #[true, true, true, true, true, true, true, true, true, false, false, false]) (by kernel_rfl) (by kernel_rfl) ?_
            refine at_runW 1 [] [] [3, 4, 38] [pl 3 (.int .i64 plies1), pl 4 (.pointer (some ⟨g1, 0, none⟩)), pl 38 (.agg #[.int .i64 wide1, .int .i64 h1, .slice A1 (Int.toNat (w64 (wide1 * h1))) c1, .int .i64 k1, .int .i64 0])] hF hS (by kernel_rfl) (by kernel_rfl) ?_ (fun a hF => ?_)
            · exact obs_nil
            refine any_finI rfl (fun h => h) ?_
            refine any_step [9, 10] (by kernel_rfl) rfl ?_
            refine (all_cons ?_ (all_cons ?_ all_nil))
            · refine any_op (listed' := #[true, true, true, true, true, true, true, true, true, true, false, false]) (by kernel_rfl) (by kernel_rfl) ?_
              refine at_do (d := 39) (s := vS (Instr.box 94 (.agg #[.int .i64 wide1, .int .i64 h1, .slice A1 (Int.toNat (w64 (wide1 * h1))) c1, .int .i64 k1, .int .i64 0]))) (v := .pointer (some ⟨w.heap.size, 0, none⟩)) (w' := w.alloc (.cells #[.int .i64 wide1, .int .i64 h1, .slice A1 (Int.toNat (w64 (wide1 * h1))) c1, .int .i64 k1, .int .i64 0] 94)) hF (by kernel_rfl) (by kernel_rfl) (by kernel_rfl) (fun a hF => ?_)
              have hS : Sep w0 B (w.alloc (.cells #[.int .i64 wide1, .int .i64 h1, .slice A1 (Int.toNat (w64 (wide1 * h1))) c1, .int .i64 k1, .int .i64 0] 94)) (blk w.heap.size 94 #[.int .i64 wide1, .int .i64 h1, .slice A1 (Int.toNat (w64 (wide1 * h1))) c1, .int .i64 k1, .int .i64 0] :: (own 3 (.slice A1 (Int.toNat (w64 (wide1 * h1))) c1) (vI (List.replicate (Int.toNat (w64 (wide1 * h1))) (0 : Int))) :: blk g1 3 #[.int .i64 wide1] :: fs)) := hS.box 94 #[.int .i64 wide1, .int .i64 h1, .slice A1 (Int.toNat (w64 (wide1 * h1))) c1, .int .i64 k1, .int .i64 0]
              generalize w.heap.size = g2 at hF hS
              generalize w.alloc (.cells #[.int .i64 wide1, .int .i64 h1, .slice A1 (Int.toNat (w64 (wide1 * h1))) c1, .int .i64 k1, .int .i64 0] 94) = w at hS ⊢
              refine any_fin rfl (hS.pickN 3 [2] (by decide)) ?_
              refine any_step [10] (by kernel_rfl) rfl ?_
              refine (all_cons ?_ all_nil)
              · refine any_op (listed' := #[true, true, true, true, true, true, true, true, true, true, true, false]) (by kernel_rfl) (by kernel_rfl) ?_
                refine at_do (d := 10) (s := vS (Instr.alloc 92 true (.tuple #[]))) (v := .pointer (some ⟨w.heap.size, 0, none⟩)) (w' := w.alloc (.cells #[.pointer none] 92)) hF (by kernel_rfl) (by kernel_rfl) (by kernel_rfl) (fun a hF => ?_)
                have hS : Sep w0 B (w.alloc (.cells #[.pointer none] 92)) (blk w.heap.size 92 #[.pointer none] :: (blk g2 94 #[.int .i64 wide1, .int .i64 h1, .slice A1 (Int.toNat (w64 (wide1 * h1))) c1, .int .i64 k1, .int .i64 0] :: own 3 (.slice A1 (Int.toNat (w64 (wide1 * h1))) c1) (vI (List.replicate (Int.toNat (w64 (wide1 * h1))) (0 : Int))) :: blk g1 3 #[.int .i64 wide1] :: fs)) := hS.box 92 #[.pointer none]
                generalize w.heap.size = g3 at hF hS
                generalize w.alloc (.cells #[.pointer none] 92) = w at hS ⊢
                refine any_fin rfl (hS.pickN 4 [3] (by decide)) ?_
                refine any_step [11] (by kernel_rfl) rfl ?_
                refine (all_cons ?_ all_nil)
                · refine any_op (listed' := #[true, true, true, true, true, true, true, true, true, true, true, true]) (by kernel_rfl) (by kernel_rfl) ?_
                  obtain ⟨w, hrun, hS⟩ := run_put (P := Try.prog) (t := 92) (u := .pointer (some ⟨g2, 0, none⟩)) (i := 0) (hS.at_ 0 rfl) hi92 hs92 rfl (Nat.lt_of_lt_of_eq (Nat.lt_of_succ_le (Nat.le_of_ble_eq_true (by kernel_rfl))) rfl)
                  refine at_skip hF (by kernel_rfl) hrun ?_
                  have hS : Sep w0 B w (blk g3 92 #[.pointer (some ⟨g2, 0, none⟩)] :: blk g2 94 #[.int .i64 wide1, .int .i64 h1, .slice A1 (Int.toNat (w64 (wide1 * h1))) c1, .int .i64 k1, .int .i64 0] :: own 3 (.slice A1 (Int.toNat (w64 (wide1 * h1))) c1) (vI (List.replicate (Int.toNat (w64 (wide1 * h1))) (0 : Int))) :: blk g1 3 #[.int .i64 wide1] :: fs) := hS
                  refine any_fin rfl (hS.pickN 4 [3] (by decide)) ?_
                  refine any_end (by kernel_rfl) ?_
                  refine np_n ?_
                  refine then_n ?_
                  have hl1 := (hS.at_ 2 rfl).len1
                  have hS := (hS.at_ 2 rfl).reN hl1
                  have hS := (hS.at_ 1 rfl).reBlk (congrArg (fun k9 => (#[.int .i64 wide1, .int .i64 h1, .slice A1 k9 c1, .int .i64 k1, .int .i64 0] : Array Value)) hl1)
                  have hS : Sep w0 B w (blk g3 92 #[.pointer (some ⟨g2, 0, none⟩)] :: blk g2 94 #[.int .i64 wide1, .int .i64 h1, .slice A1 ((List.replicate (Int.toNat (w64 (wide1 * h1))) (0 : Int)).length) c1, .int .i64 k1, .int .i64 0] :: own 3 (.slice A1 ((List.replicate (Int.toNat (w64 (wide1 * h1))) (0 : Int)).length) c1) (vI (List.replicate (Int.toNat (w64 (wide1 * h1))) (0 : Int))) :: blk g1 3 #[.int .i64 wide1] :: fs) := hS
                  have hS := hS.pickN 4 [3, 0, 1, 2] (by decide)
                  exact ⟨(List.replicate (Int.toNat (w64 (wide1 * h1))) (0 : Int)), g3, g2, A1, c1, hF.weak [3, 4, 10] (by kernel_rfl), hS, hm⟩
            · refine any_op (listed' := #[true, true, true, true, true, true, true, true, true, false, true, false]) (by kernel_rfl) (by kernel_rfl) ?_
              refine at_do (d := 10) (s := vS (Instr.alloc 92 true (.tuple #[]))) (v := .pointer (some ⟨w.heap.size, 0, none⟩)) (w' := w.alloc (.cells #[.pointer none] 92)) hF (by kernel_rfl) (by kernel_rfl) (by kernel_rfl) (fun a hF => ?_)
              have hS : Sep w0 B (w.alloc (.cells #[.pointer none] 92)) (blk w.heap.size 92 #[.pointer none] :: (own 3 (.slice A1 (Int.toNat (w64 (wide1 * h1))) c1) (vI (List.replicate (Int.toNat (w64 (wide1 * h1))) (0 : Int))) :: blk g1 3 #[.int .i64 wide1] :: fs)) := hS.box 92 #[.pointer none]
              generalize w.heap.size = g3 at hF hS
              generalize w.alloc (.cells #[.pointer none] 92) = w at hS ⊢
              refine any_fin rfl (hS.pickN 3 [2] (by decide)) ?_
              refine any_step [9] (by kernel_rfl) rfl ?_
              refine (all_cons ?_ all_nil)
              · refine any_op (listed' := #[true, true, true, true, true, true, true, true, true, true, true, false]) (by kernel_rfl) (by kernel_rfl) ?_
                refine at_do (d := 39) (s := vS (Instr.box 94 (.agg #[.int .i64 wide1, .int .i64 h1, .slice A1 (Int.toNat (w64 (wide1 * h1))) c1, .int .i64 k1, .int .i64 0]))) (v := .pointer (some ⟨w.heap.size, 0, none⟩)) (w' := w.alloc (.cells #[.int .i64 wide1, .int .i64 h1, .slice A1 (Int.toNat (w64 (wide1 * h1))) c1, .int .i64 k1, .int .i64 0] 94)) hF (by kernel_rfl) (by kernel_rfl) (by kernel_rfl) (fun a hF => ?_)
                have hS : Sep w0 B (w.alloc (.cells #[.int .i64 wide1, .int .i64 h1, .slice A1 (Int.toNat (w64 (wide1 * h1))) c1, .int .i64 k1, .int .i64 0] 94)) (blk w.heap.size 94 #[.int .i64 wide1, .int .i64 h1, .slice A1 (Int.toNat (w64 (wide1 * h1))) c1, .int .i64 k1, .int .i64 0] :: (blk g3 92 #[.pointer none] :: own 3 (.slice A1 (Int.toNat (w64 (wide1 * h1))) c1) (vI (List.replicate (Int.toNat (w64 (wide1 * h1))) (0 : Int))) :: blk g1 3 #[.int .i64 wide1] :: fs)) := hS.box 94 #[.int .i64 wide1, .int .i64 h1, .slice A1 (Int.toNat (w64 (wide1 * h1))) c1, .int .i64 k1, .int .i64 0]
                generalize w.heap.size = g2 at hF hS
                generalize w.alloc (.cells #[.int .i64 wide1, .int .i64 h1, .slice A1 (Int.toNat (w64 (wide1 * h1))) c1, .int .i64 k1, .int .i64 0] 94) = w at hS ⊢
                refine any_fin rfl (hS.pickN 4 [3] (by decide)) ?_
                refine any_step [11] (by kernel_rfl) rfl ?_
                refine (all_cons ?_ all_nil)
                · refine any_op (listed' := #[true, true, true, true, true, true, true, true, true, true, true, true]) (by kernel_rfl) (by kernel_rfl) ?_
                  obtain ⟨w, hrun, hS⟩ := run_put (P := Try.prog) (t := 92) (u := .pointer (some ⟨g2, 0, none⟩)) (i := 0) (hS.at_ 1 rfl) hi92 hs92 rfl (Nat.lt_of_lt_of_eq (Nat.lt_of_succ_le (Nat.le_of_ble_eq_true (by kernel_rfl))) rfl)
                  refine at_skip hF (by kernel_rfl) hrun ?_
                  have hS : Sep w0 B w (blk g2 94 #[.int .i64 wide1, .int .i64 h1, .slice A1 (Int.toNat (w64 (wide1 * h1))) c1, .int .i64 k1, .int .i64 0] :: blk g3 92 #[.pointer (some ⟨g2, 0, none⟩)] :: own 3 (.slice A1 (Int.toNat (w64 (wide1 * h1))) c1) (vI (List.replicate (Int.toNat (w64 (wide1 * h1))) (0 : Int))) :: blk g1 3 #[.int .i64 wide1] :: fs) := hS
                  refine any_fin rfl (hS.pickN 4 [3] (by decide)) ?_
                  refine any_end (by kernel_rfl) ?_
                  refine np_n ?_
                  refine then_n ?_
                  have hl2 := (hS.at_ 2 rfl).len1
                  have hS := (hS.at_ 2 rfl).reN hl2
                  have hS := (hS.at_ 0 rfl).reBlk (congrArg (fun k9 => (#[.int .i64 wide1, .int .i64 h1, .slice A1 k9 c1, .int .i64 k1, .int .i64 0] : Array Value)) hl2)
                  have hS : Sep w0 B w (blk g2 94 #[.int .i64 wide1, .int .i64 h1, .slice A1 ((List.replicate (Int.toNat (w64 (wide1 * h1))) (0 : Int)).length) c1, .int .i64 k1, .int .i64 0] :: blk g3 92 #[.pointer (some ⟨g2, 0, none⟩)] :: own 3 (.slice A1 ((List.replicate (Int.toNat (w64 (wide1 * h1))) (0 : Int)).length) c1) (vI (List.replicate (Int.toNat (w64 (wide1 * h1))) (0 : Int))) :: blk g1 3 #[.int .i64 wide1] :: fs) := hS
                  have hS := hS.pickN 4 [3, 1, 0, 2] (by decide)
                  exact ⟨(List.replicate (Int.toNat (w64 (wide1 * h1))) (0 : Int)), g3, g2, A1, c1, hF.weak [3, 4, 10] (by kernel_rfl), hS, hm⟩
          · refine any_op (listed' := #[true, true, true, true, true, true, true, true, false, false, true, false]) (by kernel_rfl) (by kernel_rfl) ?_
            refine at_do (d := 10) (s := vS (Instr.alloc 92 true (.tuple #[]))) (v := .pointer (some ⟨w.heap.size, 0, none⟩)) (w' := w.alloc (.cells #[.pointer none] 92)) hF (by kernel_rfl) (by kernel_rfl) (by kernel_rfl) (fun a hF => ?_)
            have hS : Sep w0 B (w.alloc (.cells #[.pointer none] 92)) (blk w.heap.size 92 #[.pointer none] :: (own 3 (.slice A1 (Int.toNat (w64 (wide1 * h1))) c1) (vI (List.replicate (Int.toNat (w64 (wide1 * h1))) (0 : Int))) :: blk g1 3 #[.int .i64 wide1] :: fs)) := hS.box 92 #[.pointer none]
            generalize w.heap.size = g3 at hF hS
            generalize w.alloc (.cells #[.pointer none] 92) = w at hS ⊢
            refine any_fin rfl (hS.pickN 3 [2] (by decide)) ?_
            refine any_step [8] (by kernel_rfl) rfl ?_
            refine (all_cons ?_ all_nil)
            · refine any_op (listed' := #[true, true, true, true, true, true, true, true, true, false, true, false]) (by kernel_rfl) (by kernel_rfl) ?_
              refine at_runW 1 [] [] [3, 4, 10, 38] [pl 3 (.int .i64 plies1), pl 4 (.pointer (some ⟨g1, 0, none⟩)), pl 10 (.pointer (some ⟨g3, 0, none⟩)), pl 38 (.agg #[.int .i64 wide1, .int .i64 h1, .slice A1 (Int.toNat (w64 (wide1 * h1))) c1, .int .i64 k1, .int .i64 0])] hF hS (by kernel_rfl) (by kernel_rfl) ?_ (fun a hF => ?_)
              · exact obs_nil
              refine any_finI rfl (fun h => h) ?_
              refine any_step [9] (by kernel_rfl) rfl ?_
              refine (all_cons ?_ all_nil)
              · refine any_op (listed' := #[true, true, true, true, true, true, true, true, true, true, true, false]) (by kernel_rfl) (by kernel_rfl) ?_
                refine at_do (d := 39) (s := vS (Instr.box 94 (.agg #[.int .i64 wide1, .int .i64 h1, .slice A1 (Int.toNat (w64 (wide1 * h1))) c1, .int .i64 k1, .int .i64 0]))) (v := .pointer (some ⟨w.heap.size, 0, none⟩)) (w' := w.alloc (.cells #[.int .i64 wide1, .int .i64 h1, .slice A1 (Int.toNat (w64 (wide1 * h1))) c1, .int .i64 k1, .int .i64 0] 94)) hF (by kernel_rfl) (by kernel_rfl) (by kernel_rfl) (fun a hF => ?_)
                have hS : Sep w0 B (w.alloc (.cells #[.int .i64 wide1, .int .i64 h1, .slice A1 (Int.toNat (w64 (wide1 * h1))) c1, .int .i64 k1, .int .i64 0] 94)) (blk w.heap.size 94 #[.int .i64 wide1, .int .i64 h1, .slice A1 (Int.toNat (w64 (wide1 * h1))) c1, .int .i64 k1, .int .i64 0] :: (blk g3 92 #[.pointer none] :: own 3 (.slice A1 (Int.toNat (w64 (wide1 * h1))) c1) (vI (List.replicate (Int.toNat (w64 (wide1 * h1))) (0 : Int))) :: blk g1 3 #[.int .i64 wide1] :: fs)) := hS.box 94 #[.int .i64 wide1, .int .i64 h1, .slice A1 (Int.toNat (w64 (wide1 * h1))) c1, .int .i64 k1, .int .i64 0]
                generalize w.heap.size = g2 at hF hS
                generalize w.alloc (.cells #[.int .i64 wide1, .int .i64 h1, .slice A1 (Int.toNat (w64 (wide1 * h1))) c1, .int .i64 k1, .int .i64 0] 94) = w at hS ⊢
                refine any_fin rfl (hS.pickN 4 [3] (by decide)) ?_
                refine any_step [11] (by kernel_rfl) rfl ?_
                refine (all_cons ?_ all_nil)
                · refine any_op (listed' := #[true, true, true, true, true, true, true, true, true, true, true, true]) (by kernel_rfl) (by kernel_rfl) ?_
                  obtain ⟨w, hrun, hS⟩ := run_put (P := Try.prog) (t := 92) (u := .pointer (some ⟨g2, 0, none⟩)) (i := 0) (hS.at_ 1 rfl) hi92 hs92 rfl (Nat.lt_of_lt_of_eq (Nat.lt_of_succ_le (Nat.le_of_ble_eq_true (by kernel_rfl))) rfl)
                  refine at_skip hF (by kernel_rfl) hrun ?_
                  have hS : Sep w0 B w (blk g2 94 #[.int .i64 wide1, .int .i64 h1, .slice A1 (Int.toNat (w64 (wide1 * h1))) c1, .int .i64 k1, .int .i64 0] :: blk g3 92 #[.pointer (some ⟨g2, 0, none⟩)] :: own 3 (.slice A1 (Int.toNat (w64 (wide1 * h1))) c1) (vI (List.replicate (Int.toNat (w64 (wide1 * h1))) (0 : Int))) :: blk g1 3 #[.int .i64 wide1] :: fs) := hS
                  refine any_fin rfl (hS.pickN 4 [3] (by decide)) ?_
                  refine any_end (by kernel_rfl) ?_
                  refine np_n ?_
                  refine then_n ?_
                  have hl3 := (hS.at_ 2 rfl).len1
                  have hS := (hS.at_ 2 rfl).reN hl3
                  have hS := (hS.at_ 0 rfl).reBlk (congrArg (fun k9 => (#[.int .i64 wide1, .int .i64 h1, .slice A1 k9 c1, .int .i64 k1, .int .i64 0] : Array Value)) hl3)
                  have hS : Sep w0 B w (blk g2 94 #[.int .i64 wide1, .int .i64 h1, .slice A1 ((List.replicate (Int.toNat (w64 (wide1 * h1))) (0 : Int)).length) c1, .int .i64 k1, .int .i64 0] :: blk g3 92 #[.pointer (some ⟨g2, 0, none⟩)] :: own 3 (.slice A1 ((List.replicate (Int.toNat (w64 (wide1 * h1))) (0 : Int)).length) c1) (vI (List.replicate (Int.toNat (w64 (wide1 * h1))) (0 : Int))) :: blk g1 3 #[.int .i64 wide1] :: fs) := hS
                  have hS := hS.pickN 4 [3, 1, 0, 2] (by decide)
                  exact ⟨(List.replicate (Int.toNat (w64 (wide1 * h1))) (0 : Int)), g3, g2, A1, c1, hF.weak [3, 4, 10] (by kernel_rfl), hS, hm⟩
        · refine any_op (listed' := #[true, true, true, true, true, true, false, true, false, false, true, false]) (by kernel_rfl) (by kernel_rfl) ?_
          refine at_do (d := 10) (s := vS (Instr.alloc 92 true (.tuple #[]))) (v := .pointer (some ⟨w.heap.size, 0, none⟩)) (w' := w.alloc (.cells #[.pointer none] 92)) hF (by kernel_rfl) (by kernel_rfl) (by kernel_rfl) (fun a hF => ?_)
          have hS : Sep w0 B (w.alloc (.cells #[.pointer none] 92)) (blk w.heap.size 92 #[.pointer none] :: (own 3 (.slice A1 (Int.toNat (w64 (wide1 * h1))) c1) (vI (List.replicate (Int.toNat (w64 (wide1 * h1))) (0 : Int))) :: blk g1 3 #[.int .i64 wide1] :: fs)) := hS.box 92 #[.pointer none]
          generalize w.heap.size = g3 at hF hS
          generalize w.alloc (.cells #[.pointer none] 92) = w at hS ⊢
          refine any_fin rfl (hS.pickN 3 [2] (by decide)) ?_
          refine any_step [6] (by kernel_rfl) rfl ?_
          refine (all_cons ?_ all_nil)
          · refine any_op (listed' := #[true, true, true, true, true, true, true, true, false, false, true, false]) (by kernel_rfl) (by kernel_rfl) ?_
            refine at_runW 1 [] [] [3, 4, 10, 36, 37] [pl 3 (.int .i64 plies1), pl 4 (.pointer (some ⟨g1, 0, none⟩)), pl 10 (.pointer (some ⟨g3, 0, none⟩)), pl 36 (.agg #[.int .i64 wide1, .int .i64 h1, .slice A1 (Int.toNat (w64 (wide1 * h1))) c1]), pl 37 (.int .i64 k1)] hF hS (by kernel_rfl) (by kernel_rfl) ?_ (fun a hF => ?_)
            · exact obs_nil
            refine any_finI rfl (fun h => h) ?_
            refine any_step [8] (by kernel_rfl) rfl ?_
            refine (all_cons ?_ all_nil)
            · refine any_op (listed' := #[true, true, true, true, true, true, true, true, true, false, true, false]) (by kernel_rfl) (by kernel_rfl) ?_
              refine at_runW 1 [] [] [3, 4, 10, 38] [pl 3 (.int .i64 plies1), pl 4 (.pointer (some ⟨g1, 0, none⟩)), pl 10 (.pointer (some ⟨g3, 0, none⟩)), pl 38 (.agg #[.int .i64 wide1, .int .i64 h1, .slice A1 (Int.toNat (w64 (wide1 * h1))) c1, .int .i64 k1, .int .i64 0])] hF hS (by kernel_rfl) (by kernel_rfl) ?_ (fun a hF => ?_)
              · exact obs_nil
              refine any_finI rfl (fun h => h) ?_
              refine any_step [9] (by kernel_rfl) rfl ?_
              refine (all_cons ?_ all_nil)
              · refine any_op (listed' := #[true, true, true, true, true, true, true, true, true, true, true, false]) (by kernel_rfl) (by kernel_rfl) ?_
                refine at_do (d := 39) (s := vS (Instr.box 94 (.agg #[.int .i64 wide1, .int .i64 h1, .slice A1 (Int.toNat (w64 (wide1 * h1))) c1, .int .i64 k1, .int .i64 0]))) (v := .pointer (some ⟨w.heap.size, 0, none⟩)) (w' := w.alloc (.cells #[.int .i64 wide1, .int .i64 h1, .slice A1 (Int.toNat (w64 (wide1 * h1))) c1, .int .i64 k1, .int .i64 0] 94)) hF (by kernel_rfl) (by kernel_rfl) (by kernel_rfl) (fun a hF => ?_)
                have hS : Sep w0 B (w.alloc (.cells #[.int .i64 wide1, .int .i64 h1, .slice A1 (Int.toNat (w64 (wide1 * h1))) c1, .int .i64 k1, .int .i64 0] 94)) (blk w.heap.size 94 #[.int .i64 wide1, .int .i64 h1, .slice A1 (Int.toNat (w64 (wide1 * h1))) c1, .int .i64 k1, .int .i64 0] :: (blk g3 92 #[.pointer none] :: own 3 (.slice A1 (Int.toNat (w64 (wide1 * h1))) c1) (vI (List.replicate (Int.toNat (w64 (wide1 * h1))) (0 : Int))) :: blk g1 3 #[.int .i64 wide1] :: fs)) := hS.box 94 #[.int .i64 wide1, .int .i64 h1, .slice A1 (Int.toNat (w64 (wide1 * h1))) c1, .int .i64 k1, .int .i64 0]
                generalize w.heap.size = g2 at hF hS
                generalize w.alloc (.cells #[.int .i64 wide1, .int .i64 h1, .slice A1 (Int.toNat (w64 (wide1 * h1))) c1, .int .i64 k1, .int .i64 0] 94) = w at hS ⊢
                refine any_fin rfl (hS.pickN 4 [3] (by decide)) ?_
                refine any_step [11] (by kernel_rfl) rfl ?_
                refine (all_cons ?_ all_nil)
                · refine any_op (listed' := #[true, true, true, true, true, true, true, true, true, true, true, true]) (by kernel_rfl) (by kernel_rfl) ?_
                  obtain ⟨w, hrun, hS⟩ := run_put (P := Try.prog) (t := 92) (u := .pointer (some ⟨g2, 0, none⟩)) (i := 0) (hS.at_ 1 rfl) hi92 hs92 rfl (Nat.lt_of_lt_of_eq (Nat.lt_of_succ_le (Nat.le_of_ble_eq_true (by kernel_rfl))) rfl)
                  refine at_skip hF (by kernel_rfl) hrun ?_
                  have hS : Sep w0 B w (blk g2 94 #[.int .i64 wide1, .int .i64 h1, .slice A1 (Int.toNat (w64 (wide1 * h1))) c1, .int .i64 k1, .int .i64 0] :: blk g3 92 #[.pointer (some ⟨g2, 0, none⟩)] :: own 3 (.slice A1 (Int.toNat (w64 (wide1 * h1))) c1) (vI (List.replicate (Int.toNat (w64 (wide1 * h1))) (0 : Int))) :: blk g1 3 #[.int .i64 wide1] :: fs) := hS
                  refine any_fin rfl (hS.pickN 4 [3] (by decide)) ?_
                  refine any_end (by kernel_rfl) ?_
                  refine np_n ?_
                  refine then_n ?_
                  have hl4 := (hS.at_ 2 rfl).len1
                  have hS := (hS.at_ 2 rfl).reN hl4
                  have hS := (hS.at_ 0 rfl).reBlk (congrArg (fun k9 => (#[.int .i64 wide1, .int .i64 h1, .slice A1 k9 c1, .int .i64 k1, .int .i64 0] : Array Value)) hl4)
                  have hS : Sep w0 B w (blk g2 94 #[.int .i64 wide1, .int .i64 h1, .slice A1 ((List.replicate (Int.toNat (w64 (wide1 * h1))) (0 : Int)).length) c1, .int .i64 k1, .int .i64 0] :: blk g3 92 #[.pointer (some ⟨g2, 0, none⟩)] :: own 3 (.slice A1 ((List.replicate (Int.toNat (w64 (wide1 * h1))) (0 : Int)).length) c1) (vI (List.replicate (Int.toNat (w64 (wide1 * h1))) (0 : Int))) :: blk g1 3 #[.int .i64 wide1] :: fs) := hS
                  have hS := hS.pickN 4 [3, 1, 0, 2] (by decide)
                  exact ⟨(List.replicate (Int.toNat (w64 (wide1 * h1))) (0 : Int)), g3, g2, A1, c1, hF.weak [3, 4, 10] (by kernel_rfl), hS, hm⟩
      · refine any_op (listed' := #[true, true, true, true, true, false, false, true, false, false, true, false]) (by kernel_rfl) (by kernel_rfl) ?_
        refine at_do (d := 10) (s := vS (Instr.alloc 92 true (.tuple #[]))) (v := .pointer (some ⟨w.heap.size, 0, none⟩)) (w' := w.alloc (.cells #[.pointer none] 92)) hF (by kernel_rfl) (by kernel_rfl) (by kernel_rfl) (fun a hF => ?_)
        have hS : Sep w0 B (w.alloc (.cells #[.pointer none] 92)) (blk w.heap.size 92 #[.pointer none] :: (blk g1 3 #[.int .i64 wide1] :: fs)) := hS.box 92 #[.pointer none]
        generalize w.heap.size = g3 at hF hS
        generalize w.alloc (.cells #[.pointer none] 92) = w at hS ⊢
        refine any_fin rfl (hS.pickN 2 [1] (by decide)) ?_
        refine any_step [5] (by kernel_rfl) rfl ?_
        refine (all_cons ?_ all_nil)
        · refine any_op (listed' := #[true, true, true, true, true, true, false, true, false, false, true, false]) (by kernel_rfl) (by kernel_rfl) ?_
          obtain ⟨A1, c1, w, hrun, hS⟩ := run_mk1 (P := Try.prog) (t := 22) (Value.int .i64) (0 : Int) hS .i64 .i64 Und22 hi3 hz3 hs3 (by omega) rfl hp1
          have hS : Sep w0 B w (own 3 (.slice A1 (Int.toNat (w64 (wide1 * h1))) c1) (vI (List.replicate (Int.toNat (w64 (wide1 * h1))) (0 : Int))) :: blk g3 92 #[.pointer none] :: blk g1 3 #[.int .i64 wide1] :: fs) := hS
          refine at_do (d := 35) hF (by kernel_rfl) (by kernel_rfl) hrun (fun a hF => ?_)
          refine any_fin rfl (hS.pickN 3 [2] (by decide)) ?_
          refine any_step [6] (by kernel_rfl) rfl ?_
          refine (all_cons ?_ all_nil)
          · refine any_op (listed' := #[true, true, true, true, true, true, true, true, false, false, true, false]) (by kernel_rfl) (by kernel_rfl) ?_
            refine at_runW 1 [] [] [3, 4, 10, 36, 37] [pl 3 (.int .i64 plies1), pl 4 (.pointer (some ⟨g1, 0, none⟩)), pl 10 (.pointer (some ⟨g3, 0, none⟩)), pl 36 (.agg #[.int .i64 wide1, .int .i64 h1, .slice A1 (Int.toNat (w64 (wide1 * h1))) c1]), pl 37 (.int .i64 k1)] hF hS (by kernel_rfl) (by kernel_rfl) ?_ (fun a hF => ?_)
            · exact obs_nil
            refine any_finI rfl (fun h => h) ?_
            refine any_step [8] (by kernel_rfl) rfl ?_
            refine (all_cons ?_ all_nil)
            · refine any_op (listed' := #[true, true, true, true, true, true, true, true, true, false, true, false]) (by kernel_rfl) (by kernel_rfl) ?_
              refine at_runW 1 [] [] [3, 4, 10, 38] [pl 3 (.int .i64 plies1), pl 4 (.pointer (some ⟨g1, 0, none⟩)), pl 10 (.pointer (some ⟨g3, 0, none⟩)), pl 38 (.agg #[.int .i64 wide1, .int .i64 h1, .slice A1 (Int.toNat (w64 (wide1 * h1))) c1, .int .i64 k1, .int .i64 0])] hF hS (by kernel_rfl) (by kernel_rfl) ?_ (fun a hF => ?_)
              · exact obs_nil
              refine any_finI rfl (fun h => h) ?_
              refine any_step [9] (by kernel_rfl) rfl ?_
              refine (all_cons ?_ all_nil)
              · refine any_op (listed' := #[true, true, true, true, true, true, true, true, true, true, true, false]) (by kernel_rfl) (by kernel_rfl) ?_
                refine at_do (d := 39) (s := vS (Instr.box 94 (.agg #[.int .i64 wide1, .int .i64 h1, .slice A1 (Int.toNat (w64 (wide1 * h1))) c1, .int .i64 k1, .int .i64 0]))) (v := .pointer (some ⟨w.heap.size, 0, none⟩)) (w' := w.alloc (.cells #[.int .i64 wide1, .int .i64 h1, .slice A1 (Int.toNat (w64 (wide1 * h1))) c1, .int .i64 k1, .int .i64 0] 94)) hF (by kernel_rfl) (by kernel_rfl) (by kernel_rfl) (fun a hF => ?_)
                have hS : Sep w0 B (w.alloc (.cells #[.int .i64 wide1, .int .i64 h1, .slice A1 (Int.toNat (w64 (wide1 * h1))) c1, .int .i64 k1, .int .i64 0] 94)) (blk w.heap.size 94 #[.int .i64 wide1, .int .i64 h1, .slice A1 (Int.toNat (w64 (wide1 * h1))) c1, .int .i64 k1, .int .i64 0] :: (own 3 (.slice A1 (Int.toNat (w64 (wide1 * h1))) c1) (vI (List.replicate (Int.toNat (w64 (wide1 * h1))) (0 : Int))) :: blk g3 92 #[.pointer none] :: blk g1 3 #[.int .i64 wide1] :: fs)) := hS.box 94 #[.int .i64 wide1, .int .i64 h1, .slice A1 (Int.toNat (w64 (wide1 * h1))) c1, .int .i64 k1, .int .i64 0]
                generalize w.heap.size = g2 at hF hS
                generalize w.alloc (.cells #[.int .i64 wide1, .int .i64 h1, .slice A1 (Int.toNat (w64 (wide1 * h1))) c1, .int .i64 k1, .int .i64 0] 94) = w at hS ⊢
                refine any_fin rfl (hS.pickN 4 [3] (by decide)) ?_
                refine any_step [11] (by kernel_rfl) rfl ?_
                refine (all_cons ?_ all_nil)
                · refine any_op (listed' := #[true, true, true, true, true, true, true, true, true, true, true, true]) (by kernel_rfl) (by kernel_rfl) ?_
                  obtain ⟨w, hrun, hS⟩ := run_put (P := Try.prog) (t := 92) (u := .pointer (some ⟨g2, 0, none⟩)) (i := 0) (hS.at_ 2 rfl) hi92 hs92 rfl (Nat.lt_of_lt_of_eq (Nat.lt_of_succ_le (Nat.le_of_ble_eq_true (by kernel_rfl))) rfl)
                  refine at_skip hF (by kernel_rfl) hrun ?_
                  have hS : Sep w0 B w (blk g2 94 #[.int .i64 wide1, .int .i64 h1, .slice A1 (Int.toNat (w64 (wide1 * h1))) c1, .int .i64 k1, .int .i64 0] :: own 3 (.slice A1 (Int.toNat (w64 (wide1 * h1))) c1) (vI (List.replicate (Int.toNat (w64 (wide1 * h1))) (0 : Int))) :: blk g3 92 #[.pointer (some ⟨g2, 0, none⟩)] :: blk g1 3 #[.int .i64 wide1] :: fs) := hS
                  refine any_fin rfl (hS.pickN 4 [3] (by decide)) ?_
                  refine any_end (by kernel_rfl) ?_
                  refine np_n ?_
                  refine then_n ?_
                  have hl5 := (hS.at_ 1 rfl).len1
                  have hS := (hS.at_ 1 rfl).reN hl5
                  have hS := (hS.at_ 0 rfl).reBlk (congrArg (fun k9 => (#[.int .i64 wide1, .int .i64 h1, .slice A1 k9 c1, .int .i64 k1, .int .i64 0] : Array Value)) hl5)
                  have hS : Sep w0 B w (blk g2 94 #[.int .i64 wide1, .int .i64 h1, .slice A1 ((List.replicate (Int.toNat (w64 (wide1 * h1))) (0 : Int)).length) c1, .int .i64 k1, .int .i64 0] :: own 3 (.slice A1 ((List.replicate (Int.toNat (w64 (wide1 * h1))) (0 : Int)).length) c1) (vI (List.replicate (Int.toNat (w64 (wide1 * h1))) (0 : Int))) :: blk g3 92 #[.pointer (some ⟨g2, 0, none⟩)] :: blk g1 3 #[.int .i64 wide1] :: fs) := hS
                  have hS := hS.pickN 4 [3, 2, 0, 1] (by decide)
                  exact ⟨(List.replicate (Int.toNat (w64 (wide1 * h1))) (0 : Int)), g3, g2, A1, c1, hF.weak [3, 4, 10] (by kernel_rfl), hS, hm⟩
  · obtain ⟨r1, hr1, hm⟩ := call_b hm
    obtain ⟨r2, hr2, hm⟩ := call_b hm
    obtain ⟨r3, hr3, hm⟩ := call_b hm
    refine reg [⟨false, [], vS (Instr.loadAt 3 (.pointer (some ⟨g1, 0, none⟩))), .int .i64 wide1⟩, ⟨false, [], callFunc 66 #[.int .i64 wide1], .bool r1⟩, ⟨false, [(r1, false)], callFunc 66 #[.int .i64 h1], .bool r2⟩, ⟨false, [(r1 || r2, false)], callFunc 66 #[.int .i64 k1], .bool r3⟩] [some (.int .i64 wide1), some (.bool r1), none, none, some (.bool r2), none, none, none, some (.bool r3), none, none, none, none, none, none, none, none, none] [1, 2, 3, 4, 29] [pl 1 (.int .i64 h1), pl 2 (.int .i64 k1), pl 3 (.int .i64 plies1), pl 4 (.pointer (some ⟨g1, 0, none⟩)), pl 29 (.bool ((((r1 || r2) || r3) || (decide (plies1 < 0))) || (decide ((6 : Int) < plies1))))] hF hS Fol (by kernel_rfl) (by kernel_rfl) (by kernel_rfl) ?_ (fun a w hF hS => ?_)
    · exact obs_cons (ob_load Agg3 (fun _ _ hS => (hS.at_ 0 rfl).cell rfl)) <| obs_cons (ob_call Try.func66 (by kernel_rfl) rfl (fun _ _ hS => four_far_w hr1 hS )) <| obs_cons (ob_call Try.func66 (by kernel_rfl) rfl (fun hy _ hS => four_far_w (ite_some hr2 (by rw [show r1 = false from hy (r1, false) (by simp)]; try rfl)) hS )) <| obs_cons (ob_call Try.func66 (by kernel_rfl) rfl (fun hy _ hS => four_far_w (ite_some hr3 (by rw [show (r1 || r2) = false from hy (r1 || r2, false) (by simp)]; try rfl)) hS )) <| obs_nil
    refine cond_ev (t := 29) (b := (((r1 || r2) || r3) || (decide (plies1 < 0))) || (decide ((6 : Int) < plies1))) hF (by kernel_rfl) (fun hb => ?_) (fun hb => ?_)
    · replace hm := if_t hm hb
      refine reg [] [] [8, 9] [pl 8 (.int .i64 0), pl 9 (.int .i64 3)] hF hS Fol (by kernel_rfl) (by kernel_rfl) (by kernel_rfl) ?_ (fun a w hF hS => ?_)
      · exact obs_nil
      refine wp_ret ?_
      refine then_r ?_
      have hS := hS.pickN 1 [] (by decide)
      have hm : some (0, 3) = some r := hm
      obtain rfl := Option.some.inj hm
      exact retV (rs := [.tmp 8, .tmp 9]) (vs := [.int .i64 0, .int .i64 3]) hF rfl (rv_t (by kernel_rfl) <| rv_t (by kernel_rfl) <| rv_nil) rfl ⟨rfl, hS⟩
    · replace hm := if_f hm hb
      refine wp_skip ?_
      refine then_n ?_
      exact ⟨hF.weak [1, 2, 3, 4] (by kernel_rfl), hS, hm⟩

noncomputable def gameroomref_within_m (n1 : Int) (low1 : Int) (high1 : Int) : Option Bool :=
  some ((decide (low1 ≤ n1)) && (decide (n1 ≤ high1)))

set_option maxRecDepth 100000 in
set_option maxHeartbeats 4000000 in
theorem gameroomref_within_w {n1 : Int} {low1 : Int} {high1 : Int} {r : Bool} {w0 w : World} {B : Nat} {fs : List HP} (hm : gameroomref_within_m n1 low1 high1 = some r) (hS : Sep w0 B w (fs)) :
    Calls Try.prog 60 #[.int .i64 n1, .int .i64 low1, .int .i64 high1] w fun e w' => e = .returned (.bool r) ∧ Sep w0 B w' (fs) := by
  unfold gameroomref_within_m at hm
  replace hm := start_b hm
  refine enter (l := [.int .i64 n1, .int .i64 low1, .int .i64 high1]) (n := 15) Try.func60 rfl rfl (by simp) (fun a hF => ?_)
  refine reg [] [] [0, 1, 2] [pl 0 (.int .i64 n1), pl 1 (.int .i64 low1), pl 2 (.int .i64 high1)] hF hS Fol (by kernel_rfl) (by kernel_rfl) (by kernel_rfl) ?_ (fun a w hF hS => ?_)
  · exact obs_nil
  refine reg [] [] [6] [pl 6 (.bool ((decide (low1 ≤ n1)) && (decide (n1 ≤ high1))))] hF hS Fol (by kernel_rfl) (by kernel_rfl) (by kernel_rfl) ?_ (fun a w hF hS => ?_)
  · exact obs_nil
  refine wp_ret ?_
  have hm : some ((decide (low1 ≤ n1)) && (decide (n1 ≤ high1))) = some r := hm
  obtain rfl := Option.some.inj hm
  exact retV (rs := [.tmp 6]) (vs := [.bool ((decide (low1 ≤ n1)) && (decide (n1 ≤ high1)))]) hF rfl (rv_t (by kernel_rfl) <| rv_nil) rfl ⟨rfl, hS⟩

noncomputable def gameroomref_rowFrom_J3 (i1 : Int) : Option (St Int (Fl Unit Int)) :=
  some (.next (w64 (i1 + 1)))

noncomputable def gameroomref_rowFrom_J2 (g1 : Int) (g2 : Int) (g3 : List Int) (x1 : Int) (y1 : Int) (dx1 : Int) (dy1 : Int) (i1 : Int) : Option (St Int (Fl Unit Int)) :=
  (gameroomref_within_m (w64 (x1 + (w64 (dx1 * i1)))) 0 (w64 (g1 - 1))).bind fun r1 => ((if (!(!r1)) then gameroomref_within_m (w64 (y1 + (w64 (dy1 * i1)))) 0 (w64 (g2 - 1)) else some false)).bind fun r2 => asrt (((!r1) || (!r2)) = false → 0 ≤ (w64 ((w64 ((w64 (y1 + (w64 (dy1 * i1)))) * g1)) + (w64 (x1 + (w64 (dx1 * i1)))))) ∧ (w64 ((w64 ((w64 (y1 + (w64 (dy1 * i1)))) * g1)) + (w64 (x1 + (w64 (dx1 * i1)))))) < (g3.length : Int)) <| if (((!r1) || (!r2)) || ((geti g3 (w64 ((w64 ((w64 (y1 + (w64 (dy1 * i1)))) * g1)) + (w64 (x1 + (w64 (dx1 * i1))))))) != (geti g3 (w64 ((w64 (y1 * g1)) + x1))))) then (some (.done (.ret 0))) else ((gameroomref_rowFrom_J3 i1))

noncomputable def gameroomref_rowFrom_J1 (g1 : Int) (g3 : List Int) (x1 : Int) (y1 : Int) : Option Int :=
  some (geti g3 (w64 ((w64 (y1 * g1)) + x1)))

noncomputable def gameroomref_rowFrom_K1 (g1 : Int) (g3 : List Int) (x1 : Int) (y1 : Int) : (Fl Unit Int) → Option Int :=
  fun (x : (Fl Unit Int)) => match x with | .go _ => (gameroomref_rowFrom_J1 g1 g3 x1 y1) | .ret x => some x

noncomputable def gameroomref_rowFrom_L1 (g1 : Int) (g2 : Int) (g3 : List Int) (x1 : Int) (y1 : Int) (dx1 : Int) (dy1 : Int) (k1 : Int) : Int → Option (St Int (Fl Unit Int)) :=
  fun (x : Int) => match x with | i1 => if (decide (i1 < k1)) then ((gameroomref_rowFrom_J2 g1 g2 g3 x1 y1 dx1 dy1 i1)) else (some (.done (.go ())))

noncomputable def gameroomref_rowFrom_m (g1 : Int) (g2 : Int) (g3 : List Int) (x1 : Int) (y1 : Int) (dx1 : Int) (dy1 : Int) (k1 : Int) : Option Int :=
  asrt (0 ≤ (w64 ((w64 (y1 * g1)) + x1)) ∧ (w64 ((w64 (y1 * g1)) + x1)) < (g3.length : Int)) <| (loop (gameroomref_rowFrom_L1 g1 g2 g3 x1 y1 dx1 dy1 k1) 0).bind (gameroomref_rowFrom_K1 g1 g3 x1 y1)

set_option maxRecDepth 100000 in
set_option maxHeartbeats 4000000 in
theorem gameroomref_rowFrom_w {g1 : Int} {g2 : Int} {A1 : Option Addr} {c1 : Nat} {n1 : Nat} {g3 : List Int} {x1 : Int} {y1 : Int} {dx1 : Int} {dy1 : Int} {k1 : Int} {r : Int} {w0 w : World} {B : Nat} {fs : List HP} (hm : gameroomref_rowFrom_m g1 g2 g3 x1 y1 dx1 dy1 k1 = some r) (hS : Sep w0 B w (fs)) (hr_g3 : RdF w0 B fs A1 (vI g3)) (_hc_g3 : g3.length ≤ c1) (_hn_g3 : n1 = g3.length) :
    Calls Try.prog 92 #[.agg #[.int .i64 g1, .int .i64 g2, .slice A1 n1 c1], .int .i64 x1, .int .i64 y1, .int .i64 dx1, .int .i64 dy1, .int .i64 k1] w fun e w' => e = .returned (.int .i64 r) ∧ Sep w0 B w' (fs) := by
  obtain ⟨i3, hi3, hz3, hs3, hb3⟩ := info_parts Info3
  obtain rfl := _hn_g3
  unfold gameroomref_rowFrom_m at hm
  replace hm := start_b hm
  refine enter (l := [.agg #[.int .i64 g1, .int .i64 g2, .slice A1 g3.length c1], .int .i64 x1, .int .i64 y1, .int .i64 dx1, .int .i64 dy1, .int .i64 k1]) (n := 71) Try.func92 rfl rfl (by simp) (fun a hF => ?_)
  refine seqR ?_
  refine at_do (d := 6) (s := vS (Instr.box 55 (.agg #[.int .i64 g1, .int .i64 g2, .slice A1 g3.length c1]))) (v := .pointer (some ⟨w.heap.size, 0, none⟩)) (w' := w.alloc (.cells #[.int .i64 g1, .int .i64 g2, .slice A1 g3.length c1] 55)) hF (by kernel_rfl) (by kernel_rfl) (by kernel_rfl) (fun a hF => ?_)
  have hS : Sep w0 B (w.alloc (.cells #[.int .i64 g1, .int .i64 g2, .slice A1 g3.length c1] 55)) (blk w.heap.size 55 #[.int .i64 g1, .int .i64 g2, .slice A1 g3.length c1] :: (fs)) := hS.box 55 #[.int .i64 g1, .int .i64 g2, .slice A1 g3.length c1]
  generalize w.heap.size = g4 at hF hS
  generalize w.alloc (.cells #[.int .i64 g1, .int .i64 g2, .slice A1 g3.length c1] 55) = w at hS ⊢
  refine at_run 1 [] [] [1, 2, 3, 4, 5, 6] [pl 1 (.int .i64 x1), pl 2 (.int .i64 y1), pl 3 (.int .i64 dx1), pl 4 (.int .i64 dy1), pl 5 (.int .i64 k1), pl 6 (.pointer (some ⟨g4, 0, none⟩))] hF hS (by kernel_rfl) (by kernel_rfl) ?_ (fun a w hF hS => ?_)
  · exact obs_nil
  refine at_end [1, 2, 3, 4, 5, 6] [pl 1 (.int .i64 x1), pl 2 (.int .i64 y1), pl 3 (.int .i64 dx1), pl 4 (.int .i64 dy1), pl 5 (.int .i64 k1), pl 6 (.pointer (some ⟨g4, 0, none⟩))] hF rfl (by kernel_rfl) (fun hF => ?_)
  refine then_n ?_
  obtain ⟨hp1, hm⟩ := asrt_b hm
  refine reg [⟨false, [], vS (Instr.loadAt 22 (.pointer (some ⟨g4, 2, none⟩))), .slice A1 g3.length c1⟩, ⟨false, [], vS (Instr.loadAt 3 (.pointer (some ⟨g4, 0, none⟩))), .int .i64 g1⟩, ⟨true, [], vS (Instr.indexAt 22 (.slice A1 g3.length c1) (.int .i64 (w64 ((w64 (y1 * g1)) + x1)))), .pointer (some (sAddr A1 (w64 ((w64 (y1 * g1)) + x1))))⟩, ⟨false, [], vS (Instr.loadAt 3 (.pointer (some (sAddr A1 (w64 ((w64 (y1 * g1)) + x1)))))), .int .i64 (geti g3 (w64 ((w64 (y1 * g1)) + x1)))⟩] [none, some (.slice A1 g3.length c1), none, none, some (.int .i64 g1), none, none, none, some (.pointer (some (sAddr A1 (w64 ((w64 (y1 * g1)) + x1))))), some (.int .i64 (geti g3 (w64 ((w64 (y1 * g1)) + x1)))), none] [1, 2, 3, 4, 5, 6, 13] [pl 1 (.int .i64 x1), pl 2 (.int .i64 y1), pl 3 (.int .i64 dx1), pl 4 (.int .i64 dy1), pl 5 (.int .i64 k1), pl 6 (.pointer (some ⟨g4, 0, none⟩)), pl 13 (.int .i64 (geti g3 (w64 ((w64 (y1 * g1)) + x1))))] hF hS Fol (by kernel_rfl) (by kernel_rfl) (by kernel_rfl) ?_ (fun a w hF hS => ?_)
  · exact obs_cons (ob_load Agg22 (fun _ _ hS => (hS.at_ 0 rfl).cell rfl)) <| obs_cons (ob_load Agg3 (fun _ _ hS => (hS.at_ 0 rfl).cell rfl)) <| obs_cons (ob_ix1 (f := (Value.int .i64)) (m := g3) Und22 hi3 hs3 (hr_g3 _ (hS.dropN 1)) rfl (fun _ => hp1)) <| obs_cons (ob_get1 (n := g3.length) (m := g3) (Value.int .i64) (0 : Int) Agg3 (fun _ hS => ⟨_, (hr_g3 _ (hS.dropN 1))⟩) (fun _ hS => rfl) (fun _ => hp1)) <| obs_nil
  refine seq_cut (fun a w => Fr 71 [pl 13 (.int .i64 (geti g3 (w64 ((w64 (y1 * g1)) + x1))))] a ∧ Sep w0 B w (fs) ∧ ((gameroomref_rowFrom_J1 g1 g3 x1 y1)).bind some = some r) ?_ ?_
  · rintro a w ⟨hF, hS, hm⟩
    unfold gameroomref_rowFrom_J1 at hm
    refine reg [] [] [12] [pl 12 (.int .i64 (geti g3 (w64 ((w64 (y1 * g1)) + x1))))] hF hS Fol (by kernel_rfl) (by kernel_rfl) (by kernel_rfl) ?_ (fun a w hF hS => ?_)
    · exact obs_nil
    refine wp_ret ?_
    have hm : some (geti g3 (w64 ((w64 (y1 * g1)) + x1))) = some r := hm
    obtain rfl := Option.some.inj hm
    exact retV (rs := [.tmp 12]) (vs := [.int .i64 (geti g3 (w64 ((w64 (y1 * g1)) + x1)))]) hF rfl (rv_t (by kernel_rfl) <| rv_nil) rfl ⟨rfl, hS⟩
  · refine reg [] [] [1, 2, 3, 4, 5, 6, 13, 14] [pl 1 (.int .i64 x1), pl 2 (.int .i64 y1), pl 3 (.int .i64 dx1), pl 4 (.int .i64 dy1), pl 5 (.int .i64 k1), pl 6 (.pointer (some ⟨g4, 0, none⟩)), pl 13 (.int .i64 (geti g3 (w64 ((w64 (y1 * g1)) + x1)))), pl 14 (.int .i64 0)] hF hS Fol (by kernel_rfl) (by kernel_rfl) (by kernel_rfl) ?_ (fun a w hF hS => ?_)
    · exact obs_nil
    refine wp_block ?_
    refine wp_loop_model (S := Int) (R := (Fl Unit Int)) (gameroomref_rowFrom_L1 g1 g2 g3 x1 y1 dx1 dy1 k1) (fun x => ((gameroomref_rowFrom_K1 g1 g3 x1 y1) x).bind some) r (fun (x : Int) a w => Fr 71 [pl 1 (.int .i64 x1), pl 2 (.int .i64 y1), pl 3 (.int .i64 dx1), pl 4 (.int .i64 dy1), pl 5 (.int .i64 k1), pl 6 (.pointer (some ⟨g4, 0, none⟩)), pl 13 (.int .i64 (geti g3 (w64 ((w64 (y1 * g1)) + x1)))), pl 14 (.int .i64 x)] a ∧ Sep w0 B w (blk g4 55 #[.int .i64 g1, .int .i64 g2, .slice A1 g3.length c1] :: fs)) (assoc_b hm) ⟨hF.weak [1, 2, 3, 4, 5, 6, 13, 14] (by kernel_rfl), hS⟩ ?_
    clear hF hS hm
    rintro nn1 i1 a w ⟨hF, hS⟩ hm
    generalize hφ1 : stK (gameroomref_rowFrom_L1 g1 g2 g3 x1 y1 dx1 dy1 k1) nn1 (fun x => ((gameroomref_rowFrom_K1 g1 g3 x1 y1) x).bind some) = φ1 at hm
    unfold gameroomref_rowFrom_L1 at hm
    dsimp only at hm
    refine seq_cut (fun a w => Fr 71 [pl 1 (.int .i64 x1), pl 2 (.int .i64 y1), pl 3 (.int .i64 dx1), pl 4 (.int .i64 dy1), pl 5 (.int .i64 k1), pl 6 (.pointer (some ⟨g4, 0, none⟩)), pl 13 (.int .i64 (geti g3 (w64 ((w64 (y1 * g1)) + x1)))), pl 14 (.int .i64 i1)] a ∧ Sep w0 B w (blk g4 55 #[.int .i64 g1, .int .i64 g2, .slice A1 g3.length c1] :: fs) ∧ ((gameroomref_rowFrom_J2 g1 g2 g3 x1 y1 dx1 dy1 i1)).bind φ1 = some r) ?_ ?_
    · rintro a w ⟨hF, hS, hm⟩
      unfold gameroomref_rowFrom_J2 at hm
      refine seq_cut (fun a w => Fr 71 [pl 1 (.int .i64 x1), pl 2 (.int .i64 y1), pl 3 (.int .i64 dx1), pl 4 (.int .i64 dy1), pl 5 (.int .i64 k1), pl 6 (.pointer (some ⟨g4, 0, none⟩)), pl 13 (.int .i64 (geti g3 (w64 ((w64 (y1 * g1)) + x1)))), pl 14 (.int .i64 i1)] a ∧ Sep w0 B w (blk g4 55 #[.int .i64 g1, .int .i64 g2, .slice A1 g3.length c1] :: fs) ∧ ((gameroomref_rowFrom_J3 i1)).bind φ1 = some r) ?_ ?_
      · rintro a w ⟨hF, hS, hm⟩
        unfold gameroomref_rowFrom_J3 at hm
        refine reg1 [] [] [1, 2, 3, 4, 5, 6, 13, 14] [pl 1 (.int .i64 x1), pl 2 (.int .i64 y1), pl 3 (.int .i64 dx1), pl 4 (.int .i64 dy1), pl 5 (.int .i64 k1), pl 6 (.pointer (some ⟨g4, 0, none⟩)), pl 13 (.int .i64 (geti g3 (w64 ((w64 (y1 * g1)) + x1)))), pl 14 (.int .i64 (w64 (i1 + 1)))] hF hS Fol (by kernel_rfl) (by kernel_rfl) (by kernel_rfl) ?_ (fun a w hF hS => ?_)
        · exact obs_nil
        refine then_n ?_
        rw [← hφ1] at hm
        exact ⟨(w64 (i1 + 1)), ⟨hF.weak [1, 2, 3, 4, 5, 6, 13, 14] (by kernel_rfl), hS⟩, hm⟩
      · refine wp_block ?_
        refine reg [] [] [1, 2, 3, 4, 5, 6, 13, 14, 15, 16] [pl 1 (.int .i64 x1), pl 2 (.int .i64 y1), pl 3 (.int .i64 dx1), pl 4 (.int .i64 dy1), pl 5 (.int .i64 k1), pl 6 (.pointer (some ⟨g4, 0, none⟩)), pl 13 (.int .i64 (geti g3 (w64 ((w64 (y1 * g1)) + x1)))), pl 14 (.int .i64 i1), pl 15 (.int .i64 (w64 (x1 + (w64 (dx1 * i1))))), pl 16 (.int .i64 (w64 (y1 + (w64 (dy1 * i1)))))] hF hS Fol (by kernel_rfl) (by kernel_rfl) (by kernel_rfl) ?_ (fun a w hF hS => ?_)
        · exact obs_nil
        obtain ⟨r1, hr1, hm⟩ := call_b hm
        obtain ⟨r2, hr2, hm⟩ := call_b hm
        obtain ⟨hp2, hm⟩ := asrt_b hm
        refine reg [⟨false, [], vS (Instr.loadAt 3 (.pointer (some ⟨g4, 0, none⟩))), .int .i64 g1⟩, ⟨false, [], callFunc 60 #[.int .i64 (w64 (x1 + (w64 (dx1 * i1)))), .int .i64 0, .int .i64 (w64 (g1 - 1))], .bool r1⟩, ⟨false, [(!r1, false)], vS (Instr.loadAt 3 (.pointer (some ⟨g4, 1, none⟩))), .int .i64 g2⟩, ⟨false, [(!r1, false)], callFunc 60 #[.int .i64 (w64 (y1 + (w64 (dy1 * i1)))), .int .i64 0, .int .i64 (w64 (g2 - 1))], .bool r2⟩, ⟨false, [((!r1) || (!r2), false)], vS (Instr.loadAt 22 (.pointer (some ⟨g4, 2, none⟩))), .slice A1 g3.length c1⟩, ⟨false, [((!r1) || (!r2), false)], vS (Instr.loadAt 3 (.pointer (some ⟨g4, 0, none⟩))), .int .i64 g1⟩, ⟨true, [((!r1) || (!r2), false)], vS (Instr.indexAt 22 (.slice A1 g3.length c1) (.int .i64 (w64 ((w64 ((w64 (y1 + (w64 (dy1 * i1)))) * g1)) + (w64 (x1 + (w64 (dx1 * i1)))))))), .pointer (some (sAddr A1 (w64 ((w64 ((w64 (y1 + (w64 (dy1 * i1)))) * g1)) + (w64 (x1 + (w64 (dx1 * i1))))))))⟩, ⟨false, [((!r1) || (!r2), false)], vS (Instr.loadAt 3 (.pointer (some (sAddr A1 (w64 ((w64 ((w64 (y1 + (w64 (dy1 * i1)))) * g1)) + (w64 (x1 + (w64 (dx1 * i1)))))))))), .int .i64 (geti g3 (w64 ((w64 ((w64 (y1 + (w64 (dy1 * i1)))) * g1)) + (w64 (x1 + (w64 (dx1 * i1)))))))⟩] [none, none, some (.int .i64 g1), none, some (.bool r1), none, none, none, none, some (.int .i64 g2), none, some (.bool r2), none, none, none, none, some (.slice A1 g3.length c1), none, none, some (.int .i64 g1), none, none, none, some (.pointer (some (sAddr A1 (w64 ((w64 ((w64 (y1 + (w64 (dy1 * i1)))) * g1)) + (w64 (x1 + (w64 (dx1 * i1))))))))), some (.int .i64 (geti g3 (w64 ((w64 ((w64 (y1 + (w64 (dy1 * i1)))) * g1)) + (w64 (x1 + (w64 (dx1 * i1)))))))), none, none, none] [1, 2, 3, 4, 5, 6, 13, 14, 69] [pl 1 (.int .i64 x1), pl 2 (.int .i64 y1), pl 3 (.int .i64 dx1), pl 4 (.int .i64 dy1), pl 5 (.int .i64 k1), pl 6 (.pointer (some ⟨g4, 0, none⟩)), pl 13 (.int .i64 (geti g3 (w64 ((w64 (y1 * g1)) + x1)))), pl 14 (.int .i64 i1), pl 69 (.bool (((!r1) || (!r2)) || ((geti g3 (w64 ((w64 ((w64 (y1 + (w64 (dy1 * i1)))) * g1)) + (w64 (x1 + (w64 (dx1 * i1))))))) != (geti g3 (w64 ((w64 (y1 * g1)) + x1))))))] hF hS Fol (by kernel_rfl) (by kernel_rfl) (by kernel_rfl) ?_ (fun a w hF hS => ?_)
        · exact obs_cons (ob_load Agg3 (fun _ _ hS => (hS.at_ 0 rfl).cell rfl)) <| obs_cons (ob_call Try.func60 (by kernel_rfl) rfl (fun _ _ hS => gameroomref_within_w hr1 hS )) <| obs_cons (ob_load Agg3 (fun _ _ hS => (hS.at_ 0 rfl).cell rfl)) <| obs_cons (ob_call Try.func60 (by kernel_rfl) rfl (fun hy _ hS => gameroomref_within_w (ite_some hr2 (by rw [show (!r1) = false from hy (!r1, false) (by simp)]; try rfl)) hS )) <| obs_cons (ob_load Agg22 (fun _ _ hS => (hS.at_ 0 rfl).cell rfl)) <| obs_cons (ob_load Agg3 (fun _ _ hS => (hS.at_ 0 rfl).cell rfl)) <| obs_cons (ob_ix1 (f := (Value.int .i64)) (m := g3) Und22 hi3 hs3 (hr_g3 _ (hS.dropN 1)) rfl (fun hy => hp2 (hy ((!r1) || (!r2), false) (by simp)))) <| obs_cons (ob_get1 (n := g3.length) (m := g3) (Value.int .i64) (0 : Int) Agg3 (fun _ hS => ⟨_, (hr_g3 _ (hS.dropN 1))⟩) (fun _ hS => rfl) (fun hy => hp2 (hy ((!r1) || (!r2), false) (by simp)))) <| obs_nil
        refine cond_ev (t := 69) (b := ((!r1) || (!r2)) || ((geti g3 (w64 ((w64 ((w64 (y1 + (w64 (dy1 * i1)))) * g1)) + (w64 (x1 + (w64 (dx1 * i1))))))) != (geti g3 (w64 ((w64 (y1 * g1)) + x1))))) hF (by kernel_rfl) (fun hb => ?_) (fun hb => ?_)
        · replace hm := if_t hm hb
          refine reg [] [] [12] [pl 12 (.int .i64 0)] hF hS Fol (by kernel_rfl) (by kernel_rfl) (by kernel_rfl) ?_ (fun a w hF hS => ?_)
          · exact obs_nil
          refine wp_ret ?_
          refine block_r (then_r (then_r (block_r (then_r ?_))))
          rw [← hφ1] at hm
          replace hm := done_b hm
          unfold gameroomref_rowFrom_K1 at hm
          try dsimp only at hm
          have hS := hS.pickN 1 [] (by decide)
          have hm : some 0 = some r := hm
          obtain rfl := Option.some.inj hm
          exact retV (rs := [.tmp 12]) (vs := [.int .i64 0]) hF rfl (rv_t (by kernel_rfl) <| rv_nil) rfl ⟨rfl, hS⟩
        · replace hm := if_f hm hb
          refine wp_skip ?_
          refine block_n ?_
          refine then_n ?_
          exact ⟨hF.weak [1, 2, 3, 4, 5, 6, 13, 14] (by kernel_rfl), hS, hm⟩
    · refine reg [] [] [1, 2, 3, 4, 5, 6, 13, 14, 29] [pl 1 (.int .i64 x1), pl 2 (.int .i64 y1), pl 3 (.int .i64 dx1), pl 4 (.int .i64 dy1), pl 5 (.int .i64 k1), pl 6 (.pointer (some ⟨g4, 0, none⟩)), pl 13 (.int .i64 (geti g3 (w64 ((w64 (y1 * g1)) + x1)))), pl 14 (.int .i64 i1), pl 29 (.bool (decide (i1 < k1)))] hF hS Fol (by kernel_rfl) (by kernel_rfl) (by kernel_rfl) ?_ (fun a w hF hS => ?_)
      · exact obs_nil
      refine cond_ev (t := 29) (b := decide (i1 < k1)) hF (by kernel_rfl) (fun hb => ?_) (fun hb => ?_)
      · replace hm := if_t hm hb
        refine wp_skip ?_
        refine then_n ?_
        exact ⟨hF.weak [1, 2, 3, 4, 5, 6, 13, 14] (by kernel_rfl), hS, hm⟩
      · replace hm := if_f hm hb
        refine wp_exit ?_
        refine then_e (then_e (block_e (then_n ?_)))
        have hS := hS.pickN 1 [] (by decide)
        rw [← hφ1] at hm
        replace hm := done_b hm
        unfold gameroomref_rowFrom_K1 at hm
        try dsimp only at hm
        have hm : ((gameroomref_rowFrom_J1 g1 g3 x1 y1)).bind some = some r := hm
        exact ⟨hF.weak [13] (by kernel_rfl), hS, hm⟩

noncomputable def gameroomref_WonOf_J10 (g1 : Int) (y1 : Int) (x1 : Int) (d1 : Int) (in7 : List Bool) (i1 : Int) : Option (St (List Bool × Int) (List Bool × Bool × Bool)) :=
  some (.next ((in7.set (Int.toNat (w64 ((w64 ((w64 ((w64 (y1 + (w64 ((geti ([0, 1, 1, (-1)] : List Int) d1) * i1)))) * g1)) + x1)) + (w64 ((geti ([1, 0, 1, 1] : List Int) d1) * i1))))) true), (w64 (i1 + 1))))

noncomputable def gameroomref_WonOf_J9 (g1 : Int) (g3 : List Int) (y1 : Int) (x1 : Int) (d1 : Int) (in7 : List Bool) (i1 : Int) : Option (St (List Bool × Int) (List Bool × Bool × Bool)) :=
  asrt (0 ≤ (w64 ((w64 ((w64 ((w64 (y1 + (w64 ((geti ([0, 1, 1, (-1)] : List Int) d1) * i1)))) * g1)) + x1)) + (w64 ((geti ([1, 0, 1, 1] : List Int) d1) * i1)))) ∧ (w64 ((w64 ((w64 ((w64 (y1 + (w64 ((geti ([0, 1, 1, (-1)] : List Int) d1) * i1)))) * g1)) + x1)) + (w64 ((geti ([1, 0, 1, 1] : List Int) d1) * i1)))) < (((Int.toNat (g3.length : Int)) : Nat) : Int)) <| (gameroomref_WonOf_J10 g1 y1 x1 d1 in7 i1)

noncomputable def gameroomref_WonOf_J7 (d1 : Int) (in8 : List Bool) (one7 : Bool) (two7 : Bool) : Option (St (List Bool × Bool × Bool × Int) (List Bool × Bool × Bool)) :=
  some (.next (in8, one7, two7, (w64 (d1 + 1))))

noncomputable def gameroomref_WonOf_K4 (d1 : Int) : (List Bool × Bool × Bool) → Option (St (List Bool × Bool × Bool × Int) (List Bool × Bool × Bool)) :=
  fun (x : (List Bool × Bool × Bool)) => match x with | (in8, one7, two7) => (gameroomref_WonOf_J7 d1) in8 one7 two7

noncomputable def gameroomref_WonOf_L4 (g1 : Int) (g3 : List Int) (k1 : Int) (y1 : Int) (x1 : Int) (one5 : Bool) (two5 : Bool) (d1 : Int) (r1 : Int) : (List Bool × Int) → Option (St (List Bool × Int) (List Bool × Bool × Bool)) :=
  fun (x : (List Bool × Int)) => match x with | (in7, i1) => if ((decide (i1 < k1)) && (decide ((0 : Int) < r1))) then ((gameroomref_WonOf_J9 g1 g3 y1 x1 d1 in7 i1)) else (some (.done (in7, (one5 || (r1 == 1)), (two5 || (r1 == 2)))))

noncomputable def gameroomref_WonOf_J8 (g1 : Int) (g2 : Int) (g3 : List Int) (k1 : Int) (y1 : Int) (x1 : Int) (in5 : List Bool) (one5 : Bool) (two5 : Bool) (d1 : Int) : Option (St (List Bool × Bool × Bool × Int) (List Bool × Bool × Bool)) :=
  (gameroomref_rowFrom_m g1 g2 g3 x1 y1 (geti ([1, 0, 1, 1] : List Int) d1) (geti ([0, 1, 1, (-1)] : List Int) d1) k1).bind fun r1 => (loop (gameroomref_WonOf_L4 g1 g3 k1 y1 x1 one5 two5 d1 r1) (in5, 0)).bind (gameroomref_WonOf_K4 d1)

noncomputable def gameroomref_WonOf_J6 (g1 : Int) (g2 : Int) (g3 : List Int) (k1 : Int) (y1 : Int) (x1 : Int) (in5 : List Bool) (one5 : Bool) (two5 : Bool) (d1 : Int) : Option (St (List Bool × Bool × Bool × Int) (List Bool × Bool × Bool)) :=
  asrt (0 ≤ d1 ∧ d1 < 4) <| asrt (0 ≤ d1 ∧ d1 < 4) <| (gameroomref_WonOf_J8 g1 g2 g3 k1 y1 x1 in5 one5 two5 d1)

noncomputable def gameroomref_WonOf_J5 (x1 : Int) (in6 : List Bool) (one6 : Bool) (two6 : Bool) : Option (St (List Bool × Bool × Bool × Int) (List Bool × Bool × Bool)) :=
  some (.next (in6, one6, two6, (w64 (x1 + 1))))

noncomputable def gameroomref_WonOf_K3 (x1 : Int) : (List Bool × Bool × Bool) → Option (St (List Bool × Bool × Bool × Int) (List Bool × Bool × Bool)) :=
  fun (x : (List Bool × Bool × Bool)) => match x with | (in6, one6, two6) => (gameroomref_WonOf_J5 x1) in6 one6 two6

noncomputable def gameroomref_WonOf_L3 (g1 : Int) (g2 : Int) (g3 : List Int) (k1 : Int) (y1 : Int) (x1 : Int) : (List Bool × Bool × Bool × Int) → Option (St (List Bool × Bool × Bool × Int) (List Bool × Bool × Bool)) :=
  fun (x : (List Bool × Bool × Bool × Int)) => match x with | (in5, one5, two5, d1) => if (decide (d1 < 4)) then ((gameroomref_WonOf_J6 g1 g2 g3 k1 y1 x1 in5 one5 two5 d1)) else (some (.done (in5, one5, two5)))

noncomputable def gameroomref_WonOf_J4 (g1 : Int) (g2 : Int) (g3 : List Int) (k1 : Int) (y1 : Int) (in3 : List Bool) (one3 : Bool) (two3 : Bool) (x1 : Int) : Option (St (List Bool × Bool × Bool × Int) (List Bool × Bool × Bool)) :=
  (loop (gameroomref_WonOf_L3 g1 g2 g3 k1 y1 x1) (in3, one3, two3, 0)).bind (gameroomref_WonOf_K3 x1)

noncomputable def gameroomref_WonOf_J3 (y1 : Int) (in4 : List Bool) (one4 : Bool) (two4 : Bool) : Option (St (List Bool × Bool × Bool × Int) (List Bool × Bool × Bool)) :=
  some (.next (in4, one4, two4, (w64 (y1 + 1))))

noncomputable def gameroomref_WonOf_K2 (y1 : Int) : (List Bool × Bool × Bool) → Option (St (List Bool × Bool × Bool × Int) (List Bool × Bool × Bool)) :=
  fun (x : (List Bool × Bool × Bool)) => match x with | (in4, one4, two4) => (gameroomref_WonOf_J3 y1) in4 one4 two4

noncomputable def gameroomref_WonOf_L2 (g1 : Int) (g2 : Int) (g3 : List Int) (k1 : Int) (y1 : Int) : (List Bool × Bool × Bool × Int) → Option (St (List Bool × Bool × Bool × Int) (List Bool × Bool × Bool)) :=
  fun (x : (List Bool × Bool × Bool × Int)) => match x with | (in3, one3, two3, x1) => if (decide (x1 < g1)) then ((gameroomref_WonOf_J4 g1 g2 g3 k1 y1 in3 one3 two3 x1)) else (some (.done (in3, one3, two3)))

noncomputable def gameroomref_WonOf_J2 (g1 : Int) (g2 : Int) (g3 : List Int) (k1 : Int) (in1 : List Bool) (one1 : Bool) (two1 : Bool) (y1 : Int) : Option (St (List Bool × Bool × Bool × Int) (List Bool × Bool × Bool)) :=
  (loop (gameroomref_WonOf_L2 g1 g2 g3 k1 y1) (in1, one1, two1, 0)).bind (gameroomref_WonOf_K2 y1)

noncomputable def gameroomref_WonOf_J15 (i2 : Int) (l3 : List Int) : Option (St (List Int × Int) (List Int)) :=
  some (.next (l3, (w64 (i2 + 1))))

noncomputable def gameroomref_WonOf_J14 (g3 : List Int) (in2 : List Bool) (l1 : List Int) (i2 : Int) : Option (St (List Int × Int) (List Int)) :=
  asrt (0 ≤ i2 ∧ i2 < (((Int.toNat (g3.length : Int)) : Nat) : Int)) <| if (getb in2 i2) then (asrt ((l1.length : Int) + 1 ≤ bigN) <| (gameroomref_WonOf_J15 i2) (l1 ++ ([i2] : List Int))) else ((gameroomref_WonOf_J15 i2) l1)

noncomputable def gameroomref_WonOf_L5 (g3 : List Int) (in2 : List Bool) : (List Int × Int) → Option (St (List Int × Int) (List Int)) :=
  fun (x : (List Int × Int)) => match x with | (l1, i2) => if (decide (i2 < (((Int.toNat (g3.length : Int)) : Nat) : Int))) then ((gameroomref_WonOf_J14 g3 in2 l1 i2)) else (some (.done l1))

noncomputable def gameroomref_WonOf_J13 (n3 : Int) (l2 : List Int) : Option (Int × List Int) :=
  some (n3, l2)

noncomputable def gameroomref_WonOf_K5 (n3 : Int) : (List Int) → Option (Int × List Int) :=
  fun (x : (List Int)) => match x with | l2 => (gameroomref_WonOf_J13 n3) l2

noncomputable def gameroomref_WonOf_J12 (g3 : List Int) (in2 : List Bool) (n3 : Int) : Option (Int × List Int) :=
  (loop (gameroomref_WonOf_L5 g3 in2) (([] : List Int), 0)).bind (gameroomref_WonOf_K5 n3)

noncomputable def gameroomref_WonOf_J11 (g3 : List Int) (in2 : List Bool) (two2 : Bool) (n2 : Int) : Option (Int × List Int) :=
  if two2 then ((gameroomref_WonOf_J12 g3 in2) (w64 (n2 + 2))) else ((gameroomref_WonOf_J12 g3 in2) n2)

noncomputable def gameroomref_WonOf_J1 (g3 : List Int) (in2 : List Bool) (one2 : Bool) (two2 : Bool) : Option (Int × List Int) :=
  if one2 then ((gameroomref_WonOf_J11 g3 in2 two2) 1) else ((gameroomref_WonOf_J11 g3 in2 two2) 0)

noncomputable def gameroomref_WonOf_K1 (g3 : List Int) : (List Bool × Bool × Bool) → Option (Int × List Int) :=
  fun (x : (List Bool × Bool × Bool)) => match x with | (in2, one2, two2) => (gameroomref_WonOf_J1 g3) in2 one2 two2

noncomputable def gameroomref_WonOf_L1 (g1 : Int) (g2 : Int) (g3 : List Int) (k1 : Int) : (List Bool × Bool × Bool × Int) → Option (St (List Bool × Bool × Bool × Int) (List Bool × Bool × Bool)) :=
  fun (x : (List Bool × Bool × Bool × Int)) => match x with | (in1, one1, two1, y1) => if (decide (y1 < g2)) then ((gameroomref_WonOf_J2 g1 g2 g3 k1 in1 one1 two1 y1)) else (some (.done (in1, one1, two1)))
end Go.Proofs.Ytnplejebgbdfpaa
