/-
  Models and walks, printed by our own program (wip/gen).
-/
import Derived.Test.YtnplejebgbdfpaaFB
namespace Go.Proofs.Ytnplejebgbdfpaa
open Go Go.GL Go.RowKit


noncomputable def dice_ways_J3 (sides1 : Int) (n1 : Int) (z1 : Int) : Option (St (Int × Int) (Fl Int Int)) :=
  some (.next ((w64 (n1 * sides1)), (w64 (z1 + 1))))

noncomputable def dice_ways_J2 (sides1 : Int) (n1 : Int) (z1 : Int) : Option (St (Int × Int) (Fl Int Int)) :=
  if (decide ((100000 : Int) < (w64 (n1 * sides1)))) then (some (.done (.ret 0))) else ((dice_ways_J3 sides1 n1 z1))

noncomputable def dice_ways_J1 (n2 : Int) : Option Int :=
  some n2

noncomputable def dice_ways_K1 : (Fl Int Int) → Option Int :=
  fun (x : (Fl Int Int)) => match x with | .go n2 => dice_ways_J1 n2 | .ret x => some x

noncomputable def dice_ways_L1 (sides1 : Int) (times1 : Int) : (Int × Int) → Option (St (Int × Int) (Fl Int Int)) :=
  fun (x : (Int × Int)) => match x with | (n1, z1) => if (decide (z1 < times1)) then ((dice_ways_J2 sides1 n1 z1)) else (some (.done (.go n1)))

noncomputable def dice_ways_m (sides1 : Int) (times1 : Int) : Option Int :=
  (loop (dice_ways_L1 sides1 times1) (1, 0)).bind dice_ways_K1

set_option maxRecDepth 100000 in
set_option maxHeartbeats 4000000 in
theorem dice_ways_w {sides1 : Int} {times1 : Int} {r : Int} {w0 w : World} {B : Nat} {fs : List HP} (hm : dice_ways_m sides1 times1 = some r) (hS : Sep w0 B w (fs)) :
    Calls Try.prog 57 #[.int .i64 sides1, .int .i64 times1] w fun e w' => e = .returned (.int .i64 r) ∧ Sep w0 B w' (fs) := by
  unfold dice_ways_m at hm
  replace hm := start_b hm
  refine enter (l := [.int .i64 sides1, .int .i64 times1]) (n := 16) Try.func57 rfl rfl (by simp) (fun a hF => ?_)
  refine reg [] [] [0, 1] [pl 0 (.int .i64 sides1), pl 1 (.int .i64 times1)] hF hS Fol (by kernel_rfl) (by kernel_rfl) (by kernel_rfl) ?_ (fun a w hF hS => ?_)
  · exact obs_nil
  refine reg [] [] [0, 1, 5] [pl 0 (.int .i64 sides1), pl 1 (.int .i64 times1), pl 5 (.int .i64 1)] hF hS Fol (by kernel_rfl) (by kernel_rfl) (by kernel_rfl) ?_ (fun a w hF hS => ?_)
  · exact obs_nil
  refine seq_cut (fun a w => ∃ (n2 : Int), Fr 16 [pl 5 (.int .i64 n2)] a ∧ Sep w0 B w (fs) ∧ (dice_ways_J1 n2).bind some = some r) ?_ ?_
  · rintro a w ⟨n2, hF, hS, hm⟩
    unfold dice_ways_J1 at hm
    refine reg [] [] [4] [pl 4 (.int .i64 n2)] hF hS Fol (by kernel_rfl) (by kernel_rfl) (by kernel_rfl) ?_ (fun a w hF hS => ?_)
    · exact obs_nil
    refine wp_ret ?_
    have hm : some n2 = some r := hm
    obtain rfl := Option.some.inj hm
    exact retV (rs := [.tmp 4]) (vs := [.int .i64 n2]) hF rfl (rv_t (by kernel_rfl) <| rv_nil) rfl ⟨rfl, hS⟩
  · refine reg [] [] [0, 5, 6, 7] [pl 0 (.int .i64 sides1), pl 5 (.int .i64 1), pl 6 (.int .i64 times1), pl 7 (.int .i64 0)] hF hS Fol (by kernel_rfl) (by kernel_rfl) (by kernel_rfl) ?_ (fun a w hF hS => ?_)
    · exact obs_nil
    refine wp_block ?_
    refine wp_loop_model (S := (Int × Int)) (R := (Fl Int Int)) (dice_ways_L1 sides1 times1) (fun x => (dice_ways_K1 x).bind some) r (fun (x : (Int × Int)) a w => Fr 16 [pl 0 (.int .i64 sides1), pl 5 (.int .i64 x.1), pl 6 (.int .i64 times1), pl 7 (.int .i64 x.2)] a ∧ Sep w0 B w (fs)) (assoc_b hm) ⟨hF.weak [0, 5, 6, 7] (by kernel_rfl), hS⟩ ?_
    clear hF hS hm
    rintro nn1 ⟨n1, z1⟩ a w ⟨hF, hS⟩ hm
    generalize hφ1 : stK (dice_ways_L1 sides1 times1) nn1 (fun x => (dice_ways_K1 x).bind some) = φ1 at hm
    unfold dice_ways_L1 at hm
    dsimp only at hF hS hm
    refine reg [] [] [0, 5, 6, 7, 8] [pl 0 (.int .i64 sides1), pl 5 (.int .i64 n1), pl 6 (.int .i64 times1), pl 7 (.int .i64 z1), pl 8 (.bool (decide (z1 < times1)))] hF hS Fol (by kernel_rfl) (by kernel_rfl) (by kernel_rfl) ?_ (fun a w hF hS => ?_)
    · exact obs_nil
    refine seq_cut (fun a w => Fr 16 [pl 0 (.int .i64 sides1), pl 5 (.int .i64 n1), pl 6 (.int .i64 times1), pl 7 (.int .i64 z1)] a ∧ Sep w0 B w (fs) ∧ ((dice_ways_J2 sides1 n1 z1)).bind φ1 = some r) ?_ ?_
    · rintro a w ⟨hF, hS, hm⟩
      unfold dice_ways_J2 at hm
      refine seq_cut (fun a w => Fr 16 [pl 0 (.int .i64 sides1), pl 5 (.int .i64 (w64 (n1 * sides1))), pl 6 (.int .i64 times1), pl 7 (.int .i64 z1)] a ∧ Sep w0 B w (fs) ∧ ((dice_ways_J3 sides1 n1 z1)).bind φ1 = some r) ?_ ?_
      · rintro a w ⟨hF, hS, hm⟩
        unfold dice_ways_J3 at hm
        refine reg1 [] [] [0, 5, 6, 7] [pl 0 (.int .i64 sides1), pl 5 (.int .i64 (w64 (n1 * sides1))), pl 6 (.int .i64 times1), pl 7 (.int .i64 (w64 (z1 + 1)))] hF hS Fol (by kernel_rfl) (by kernel_rfl) (by kernel_rfl) ?_ (fun a w hF hS => ?_)
        · exact obs_nil
        refine then_n ?_
        rw [← hφ1] at hm
        exact ⟨((w64 (n1 * sides1)), (w64 (z1 + 1))), ⟨hF.weak [0, 5, 6, 7] (by kernel_rfl), hS⟩, hm⟩
      · refine wp_block ?_
        refine reg [] [] [0, 5, 6, 7] [pl 0 (.int .i64 sides1), pl 5 (.int .i64 (w64 (n1 * sides1))), pl 6 (.int .i64 times1), pl 7 (.int .i64 z1)] hF hS Fol (by kernel_rfl) (by kernel_rfl) (by kernel_rfl) ?_ (fun a w hF hS => ?_)
        · exact obs_nil
        refine reg [] [] [0, 5, 6, 7, 13] [pl 0 (.int .i64 sides1), pl 5 (.int .i64 (w64 (n1 * sides1))), pl 6 (.int .i64 times1), pl 7 (.int .i64 z1), pl 13 (.bool (decide ((100000 : Int) < (w64 (n1 * sides1)))))] hF hS Fol (by kernel_rfl) (by kernel_rfl) (by kernel_rfl) ?_ (fun a w hF hS => ?_)
        · exact obs_nil
        refine cond_ev (t := 13) (b := decide ((100000 : Int) < (w64 (n1 * sides1)))) hF (by kernel_rfl) (fun hb => ?_) (fun hb => ?_)
        · replace hm := if_t hm hb
          refine reg [] [] [4] [pl 4 (.int .i64 0)] hF hS Fol (by kernel_rfl) (by kernel_rfl) (by kernel_rfl) ?_ (fun a w hF hS => ?_)
          · exact obs_nil
          refine wp_ret ?_
          refine block_r (then_r (then_r (block_r (then_r ?_))))
          rw [← hφ1] at hm
          replace hm := done_b hm
          unfold dice_ways_K1 at hm
          try dsimp only at hm
          have hm : some 0 = some r := hm
          obtain rfl := Option.some.inj hm
          exact retV (rs := [.tmp 4]) (vs := [.int .i64 0]) hF rfl (rv_t (by kernel_rfl) <| rv_nil) rfl ⟨rfl, hS⟩
        · replace hm := if_f hm hb
          refine wp_skip ?_
          refine block_n ?_
          refine then_n ?_
          exact ⟨hF.weak [0, 5, 6, 7] (by kernel_rfl), hS, hm⟩
    · refine cond_ev (t := 8) (b := decide (z1 < times1)) hF (by kernel_rfl) (fun hb => ?_) (fun hb => ?_)
      · replace hm := if_t hm hb
        refine wp_skip ?_
        refine then_n ?_
        exact ⟨hF.weak [0, 5, 6, 7] (by kernel_rfl), hS, hm⟩
      · replace hm := if_f hm hb
        refine wp_exit ?_
        refine then_e (then_e (block_e (then_n ?_)))
        rw [← hφ1] at hm
        replace hm := done_b hm
        unfold dice_ways_K1 at hm
        try dsimp only at hm
        have hm : (dice_ways_J1 n1).bind some = some r := hm
        exact ⟨n1, hF.weak [5] (by kernel_rfl), hS, hm⟩

noncomputable def dice_Keep_1_J3 (p53 : List Int) : Option (List Int) :=
  some p53

noncomputable def dice_Keep_1_J5 (left1 : Int) (c2 : Int) (x1 : Int) (z2 : List Int) : Option (St (List Int × Int × Int) (List Int)) :=
  some (.next (z2, (w64 (Int.tdiv (w64 (c2 * (w64 (left1 - x1)))) (w64 (x1 + 1)))), (w64 (x1 + 1))))

noncomputable def dice_Keep_1_J4 (rec_dice_Keep_1 : Int → Int → Int → Int → Int → List Int → Int → Option (List Int)) (show1 : Int) (left1 : Int) (kept1 : Int) (sum1 : Int) (many1 : Int) (p61 : Int) (z1 : List Int) (c2 : Int) (x1 : Int) : Option (St (List Int × Int × Int) (List Int)) :=
  (rec_dice_Keep_1 (w64 (show1 - 1)) (w64 (left1 - x1)) (w64 (kept1 + (minI x1 (w64 (p61 - kept1))))) (w64 (sum1 + (w64 ((minI x1 (w64 (p61 - kept1))) * show1)))) (w64 (many1 * c2)) z1 p61).bind fun r1 => asrt ((w64 (x1 + 1)) ≠ (0 : Int)) <| (dice_Keep_1_J5 left1 c2 x1) r1

noncomputable def dice_Keep_1_J1 (p54 : List Int) : Option (List Int) :=
  some p54

noncomputable def dice_Keep_1_K1 : (List Int) → Option (List Int) :=
  fun (x : (List Int)) => match x with | p54 => dice_Keep_1_J1 p54

noncomputable def dice_Keep_1_L1 (rec_dice_Keep_1 : Int → Int → Int → Int → Int → List Int → Int → Option (List Int)) (show1 : Int) (left1 : Int) (kept1 : Int) (sum1 : Int) (many1 : Int) (p61 : Int) : (List Int × Int × Int) → Option (St (List Int × Int × Int) (List Int)) :=
  fun (x : (List Int × Int × Int)) => match x with | (z1, c2, x1) => if (decide (x1 ≤ left1)) then ((dice_Keep_1_J4 rec_dice_Keep_1 show1 left1 kept1 sum1 many1 p61 z1 c2 x1)) else (some (.done z1))

noncomputable def dice_Keep_1_J2 (rec_dice_Keep_1 : Int → Int → Int → Int → Int → List Int → Int → Option (List Int)) (show1 : Int) (left1 : Int) (kept1 : Int) (sum1 : Int) (many1 : Int) (p51 : List Int) (p61 : Int) : Option (List Int) :=
  (loop (dice_Keep_1_L1 rec_dice_Keep_1 show1 left1 kept1 sum1 many1 p61) (p51, 1, 0)).bind dice_Keep_1_K1

noncomputable def dice_Keep_1_B (rec_dice_Keep_1 : Int → Int → Int → Int → Int → List Int → Int → Option (List Int)) (show1 : Int) (left1 : Int) (kept1 : Int) (sum1 : Int) (many1 : Int) (p51 : List Int) (p61 : Int) : Option (List Int) :=
  if (show1 == 0) then (if (left1 == 0) then (asrt (0 ≤ (w64 (sum1 - p61)) ∧ (w64 (sum1 - p61)) < (p51.length : Int)) <| asrt (0 ≤ (w64 (sum1 - p61)) ∧ (w64 (sum1 - p61)) < (p51.length : Int)) <| dice_Keep_1_J3 (p51.set (Int.toNat (w64 (sum1 - p61))) (w64 ((geti p51 (w64 (sum1 - p61))) + many1)))) else (dice_Keep_1_J3 p51)) else ((dice_Keep_1_J2 rec_dice_Keep_1 show1 left1 kept1 sum1 many1 p51 p61))

noncomputable def dice_Keep_1_mF : Nat → Int → Int → Int → Int → Int → List Int → Int → Option (List Int)
  | 0 => fun _ _ _ _ _ _ _ => none
  | n + 1 => fun show1 left1 kept1 sum1 many1 p51 p61 => dice_Keep_1_B (dice_Keep_1_mF n) show1 left1 kept1 sum1 many1 p51 p61

noncomputable def dice_Keep_1_m (show1 : Int) (left1 : Int) (kept1 : Int) (sum1 : Int) (many1 : Int) (p51 : List Int) (p61 : Int) : Option (List Int) :=
  recM fun n => dice_Keep_1_mF n show1 left1 kept1 sum1 many1 p51 p61

set_option maxRecDepth 100000 in
set_option maxHeartbeats 4000000 in
theorem dice_Keep_1_wB {rec_dice_Keep_1 : Int → Int → Int → Int → Int → List Int → Int → Option (List Int)} (ih_dice_Keep_1 : ∀ {show1 : Int} {left1 : Int} {kept1 : Int} {sum1 : Int} {many1 : Int} {g1 : Nat} {A1 : Option Addr} {c1 : Nat} {n1 : Nat} {p51 : List Int} {g2 : Nat} {p61 : Int} {g3 : Nat} {r : (List Int)} {w0 w : World} {B : Nat} {fs : List HP} (_ : rec_dice_Keep_1 show1 left1 kept1 sum1 many1 p51 p61 = some r) (_ : Sep w0 B w (blk g1 22 #[.slice A1 n1 c1] :: own 3 (.slice A1 n1 c1) (vI p51) :: blk g2 3 #[.int .i64 p61] :: blk g3 88 #[.func (.func 59) #[] #[.pointer (some ⟨g1, 0, none⟩), .pointer (some ⟨g2, 0, none⟩), .pointer (some ⟨g3, 0, none⟩)]] :: fs)), Calls Try.prog 59 #[.int .i64 show1, .int .i64 left1, .int .i64 kept1, .int .i64 sum1, .int .i64 many1, .pointer (some ⟨g1, 0, none⟩), .pointer (some ⟨g2, 0, none⟩), .pointer (some ⟨g3, 0, none⟩)] w fun e w' => ∃ v, e = .returned v ∧ v = .tuple #[] ∧ Sep w0 B w' (blk g1 22 #[.slice A1 n1 c1] :: own 3 (.slice A1 n1 c1) (vI r) :: blk g2 3 #[.int .i64 p61] :: blk g3 88 #[.func (.func 59) #[] #[.pointer (some ⟨g1, 0, none⟩), .pointer (some ⟨g2, 0, none⟩), .pointer (some ⟨g3, 0, none⟩)]] :: fs)) {show1 : Int} {left1 : Int} {kept1 : Int} {sum1 : Int} {many1 : Int} {g1 : Nat} {A1 : Option Addr} {c1 : Nat} {n1 : Nat} {p51 : List Int} {g2 : Nat} {p61 : Int} {g3 : Nat} {r : (List Int)} {w0 w : World} {B : Nat} {fs : List HP} (hm : dice_Keep_1_B rec_dice_Keep_1 show1 left1 kept1 sum1 many1 p51 p61 = some r) (hS : Sep w0 B w (blk g1 22 #[.slice A1 n1 c1] :: own 3 (.slice A1 n1 c1) (vI p51) :: blk g2 3 #[.int .i64 p61] :: blk g3 88 #[.func (.func 59) #[] #[.pointer (some ⟨g1, 0, none⟩), .pointer (some ⟨g2, 0, none⟩), .pointer (some ⟨g3, 0, none⟩)]] :: fs)) :
    Calls Try.prog 59 #[.int .i64 show1, .int .i64 left1, .int .i64 kept1, .int .i64 sum1, .int .i64 many1, .pointer (some ⟨g1, 0, none⟩), .pointer (some ⟨g2, 0, none⟩), .pointer (some ⟨g3, 0, none⟩)] w fun e w' => ∃ v, e = .returned v ∧ v = .tuple #[] ∧ Sep w0 B w' (blk g1 22 #[.slice A1 n1 c1] :: own 3 (.slice A1 n1 c1) (vI r) :: blk g2 3 #[.int .i64 p61] :: blk g3 88 #[.func (.func 59) #[] #[.pointer (some ⟨g1, 0, none⟩), .pointer (some ⟨g2, 0, none⟩), .pointer (some ⟨g3, 0, none⟩)]] :: fs) := by
  obtain ⟨i3, hi3, hz3, hs3, hb3⟩ := info_parts Info3
  obtain rfl := (hS.at_ 1 rfl).len1
  unfold dice_Keep_1_B at hm
  replace hm := start_b hm
  refine enter (l := [.int .i64 show1, .int .i64 left1, .int .i64 kept1, .int .i64 sum1, .int .i64 many1, .pointer (some ⟨g1, 0, none⟩), .pointer (some ⟨g2, 0, none⟩), .pointer (some ⟨g3, 0, none⟩)]) (n := 65) Try.func59 rfl rfl (by simp) (fun a hF => ?_)
  refine end_cut (fun a w => ∃ (p54 : List Int), Fr 65 [] a ∧ Sep w0 B w (blk g1 22 #[.slice A1 p51.length c1] :: own 3 (.slice A1 p51.length c1) (vI p54) :: blk g2 3 #[.int .i64 p61] :: blk g3 88 #[.func (.func 59) #[] #[.pointer (some ⟨g1, 0, none⟩), .pointer (some ⟨g2, 0, none⟩), .pointer (some ⟨g3, 0, none⟩)]] :: fs) ∧ (dice_Keep_1_J1 p54).bind some = some r) ?_ ?_
  · rintro a w ⟨p54, hF, hS, hm⟩
    unfold dice_Keep_1_J1 at hm
    have hm : some p54 = some r := hm
    obtain rfl := Option.some.inj hm
    exact endV (rs := []) (vs := []) hF rfl (rv_nil) rfl ⟨_, rfl, rfl, hS⟩ rfl
  · refine seq_cut (fun a w => Fr 65 [pl 0 (.int .i64 show1), pl 1 (.int .i64 left1), pl 2 (.int .i64 kept1), pl 3 (.int .i64 sum1), pl 4 (.int .i64 many1), pl 6 (.pointer (some ⟨g2, 0, none⟩)), pl 7 (.pointer (some ⟨g3, 0, none⟩))] a ∧ Sep w0 B w (blk g2 3 #[.int .i64 p61] :: blk g3 88 #[.func (.func 59) #[] #[.pointer (some ⟨g1, 0, none⟩), .pointer (some ⟨g2, 0, none⟩), .pointer (some ⟨g3, 0, none⟩)]] :: blk g1 22 #[.slice A1 p51.length c1] :: own 3 (.slice A1 p51.length c1) (vI p51) :: fs) ∧ ((dice_Keep_1_J2 rec_dice_Keep_1 show1 left1 kept1 sum1 many1 p51 p61)).bind some = some r) ?_ ?_
    · rintro a w ⟨hF, hS, hm⟩
      unfold dice_Keep_1_J2 at hm
      refine reg [] [] [0, 1, 2, 3, 4, 6, 7, 13] [pl 0 (.int .i64 show1), pl 1 (.int .i64 left1), pl 2 (.int .i64 kept1), pl 3 (.int .i64 sum1), pl 4 (.int .i64 many1), pl 6 (.pointer (some ⟨g2, 0, none⟩)), pl 7 (.pointer (some ⟨g3, 0, none⟩)), pl 13 (.int .i64 1)] hF hS Fol (by kernel_rfl) (by kernel_rfl) (by kernel_rfl) ?_ (fun a w hF hS => ?_)
      · exact obs_nil
      refine reg [] [] [0, 1, 2, 3, 4, 6, 7, 13, 14] [pl 0 (.int .i64 show1), pl 1 (.int .i64 left1), pl 2 (.int .i64 kept1), pl 3 (.int .i64 sum1), pl 4 (.int .i64 many1), pl 6 (.pointer (some ⟨g2, 0, none⟩)), pl 7 (.pointer (some ⟨g3, 0, none⟩)), pl 13 (.int .i64 1), pl 14 (.int .i64 0)] hF hS Fol (by kernel_rfl) (by kernel_rfl) (by kernel_rfl) ?_ (fun a w hF hS => ?_)
      · exact obs_nil
      refine wp_block ?_
      refine wp_loop_model (S := (List Int × Int × Int)) (R := (List Int)) (dice_Keep_1_L1 rec_dice_Keep_1 show1 left1 kept1 sum1 many1 p61) (fun x => (dice_Keep_1_K1 x).bind some) r (fun (x : (List Int × Int × Int)) a w => Fr 65 [pl 0 (.int .i64 show1), pl 1 (.int .i64 left1), pl 2 (.int .i64 kept1), pl 3 (.int .i64 sum1), pl 4 (.int .i64 many1), pl 6 (.pointer (some ⟨g2, 0, none⟩)), pl 7 (.pointer (some ⟨g3, 0, none⟩)), pl 13 (.int .i64 x.2.1), pl 14 (.int .i64 x.2.2)] a ∧ Sep w0 B w (blk g2 3 #[.int .i64 p61] :: blk g3 88 #[.func (.func 59) #[] #[.pointer (some ⟨g1, 0, none⟩), .pointer (some ⟨g2, 0, none⟩), .pointer (some ⟨g3, 0, none⟩)]] :: blk g1 22 #[.slice A1 p51.length c1] :: own 3 (.slice A1 p51.length c1) (vI x.1) :: fs)) (assoc_b hm) ⟨hF.weak [0, 1, 2, 3, 4, 6, 7, 13, 14] (by kernel_rfl), hS⟩ ?_
      clear hF hS hm
      rintro nn1 ⟨z1, c2, x1⟩ a w ⟨hF, hS⟩ hm
      generalize hφ1 : stK (dice_Keep_1_L1 rec_dice_Keep_1 show1 left1 kept1 sum1 many1 p61) nn1 (fun x => (dice_Keep_1_K1 x).bind some) = φ1 at hm
      unfold dice_Keep_1_L1 at hm
      dsimp only at hF hS hm
      refine seq_cut (fun a w => Fr 65 [pl 0 (.int .i64 show1), pl 1 (.int .i64 left1), pl 2 (.int .i64 kept1), pl 3 (.int .i64 sum1), pl 4 (.int .i64 many1), pl 6 (.pointer (some ⟨g2, 0, none⟩)), pl 7 (.pointer (some ⟨g3, 0, none⟩)), pl 13 (.int .i64 c2), pl 14 (.int .i64 x1)] a ∧ Sep w0 B w (blk g2 3 #[.int .i64 p61] :: blk g3 88 #[.func (.func 59) #[] #[.pointer (some ⟨g1, 0, none⟩), .pointer (some ⟨g2, 0, none⟩), .pointer (some ⟨g3, 0, none⟩)]] :: blk g1 22 #[.slice A1 p51.length c1] :: own 3 (.slice A1 p51.length c1) (vI z1) :: fs) ∧ ((dice_Keep_1_J4 rec_dice_Keep_1 show1 left1 kept1 sum1 many1 p61 z1 c2 x1)).bind φ1 = some r) ?_ ?_
      · rintro a w ⟨hF, hS, hm⟩
        unfold dice_Keep_1_J4 at hm
        refine seq_cut (fun a w => ∃ (z2 : List Int), Fr 65 [pl 0 (.int .i64 show1), pl 1 (.int .i64 left1), pl 2 (.int .i64 kept1), pl 3 (.int .i64 sum1), pl 4 (.int .i64 many1), pl 6 (.pointer (some ⟨g2, 0, none⟩)), pl 7 (.pointer (some ⟨g3, 0, none⟩)), pl 13 (.int .i64 (w64 (Int.tdiv (w64 (c2 * (w64 (left1 - x1)))) (w64 (x1 + 1))))), pl 14 (.int .i64 x1)] a ∧ Sep w0 B w (blk g2 3 #[.int .i64 p61] :: blk g3 88 #[.func (.func 59) #[] #[.pointer (some ⟨g1, 0, none⟩), .pointer (some ⟨g2, 0, none⟩), .pointer (some ⟨g3, 0, none⟩)]] :: blk g1 22 #[.slice A1 p51.length c1] :: own 3 (.slice A1 p51.length c1) (vI z2) :: fs) ∧ ((dice_Keep_1_J5 left1 c2 x1) z2).bind φ1 = some r) ?_ ?_
        · rintro a w ⟨z2, hF, hS, hm⟩
          unfold dice_Keep_1_J5 at hm
          refine reg1 [] [] [0, 1, 2, 3, 4, 6, 7, 13, 14] [pl 0 (.int .i64 show1), pl 1 (.int .i64 left1), pl 2 (.int .i64 kept1), pl 3 (.int .i64 sum1), pl 4 (.int .i64 many1), pl 6 (.pointer (some ⟨g2, 0, none⟩)), pl 7 (.pointer (some ⟨g3, 0, none⟩)), pl 13 (.int .i64 (w64 (Int.tdiv (w64 (c2 * (w64 (left1 - x1)))) (w64 (x1 + 1))))), pl 14 (.int .i64 (w64 (x1 + 1)))] hF hS Fol (by kernel_rfl) (by kernel_rfl) (by kernel_rfl) ?_ (fun a w hF hS => ?_)
          · exact obs_nil
          refine then_n ?_
          rw [← hφ1] at hm
          exact ⟨(z2, (w64 (Int.tdiv (w64 (c2 * (w64 (left1 - x1)))) (w64 (x1 + 1)))), (w64 (x1 + 1))), ⟨hF.weak [0, 1, 2, 3, 4, 6, 7, 13, 14] (by kernel_rfl), hS⟩, hm⟩
        · refine wp_block ?_
          refine reg [⟨false, [], vS (Instr.loadAt 3 (.pointer (some ⟨g2, 0, none⟩))), .int .i64 p61⟩, ⟨true, [], vS (Builtin.min_ #[3, 3] 3 #[.int .i64 x1, .int .i64 (w64 (p61 - kept1))]), .int .i64 (minI x1 (w64 (p61 - kept1)))⟩] [none, some (.int .i64 p61), none, none, some (.int .i64 (minI x1 (w64 (p61 - kept1)))), none] [0, 1, 2, 3, 4, 6, 7, 13, 14, 15] [pl 0 (.int .i64 show1), pl 1 (.int .i64 left1), pl 2 (.int .i64 kept1), pl 3 (.int .i64 sum1), pl 4 (.int .i64 many1), pl 6 (.pointer (some ⟨g2, 0, none⟩)), pl 7 (.pointer (some ⟨g3, 0, none⟩)), pl 13 (.int .i64 c2), pl 14 (.int .i64 x1), pl 15 (.int .i64 (minI x1 (w64 (p61 - kept1))))] hF hS Fol (by kernel_rfl) (by kernel_rfl) (by kernel_rfl) ?_ (fun a w hF hS => ?_)
          · exact obs_cons (ob_load Agg3 (fun _ _ hS => (hS.at_ 0 rfl).cell rfl)) <| obs_cons (ob_min rfl) <| obs_nil
          refine seqR ?_
          obtain ⟨r1, hr1, hm⟩ := call_b hm
          refine at_run 17 [⟨false, [], vS (Instr.loadAt 88 (.pointer (some ⟨g3, 0, none⟩))), .func (.func 59) #[] #[.pointer (some ⟨g1, 0, none⟩), .pointer (some ⟨g2, 0, none⟩), .pointer (some ⟨g3, 0, none⟩)]⟩] [some (.func (.func 59) #[] #[.pointer (some ⟨g1, 0, none⟩), .pointer (some ⟨g2, 0, none⟩), .pointer (some ⟨g3, 0, none⟩)]), none, none, none, none, none, none, none, none, none, none, none, none, none, none, none, none] [0, 1, 2, 3, 4, 6, 7, 13, 14, 39, 41, 44, 47, 52, 55] [pl 0 (.int .i64 show1), pl 1 (.int .i64 left1), pl 2 (.int .i64 kept1), pl 3 (.int .i64 sum1), pl 4 (.int .i64 many1), pl 6 (.pointer (some ⟨g2, 0, none⟩)), pl 7 (.pointer (some ⟨g3, 0, none⟩)), pl 13 (.int .i64 c2), pl 14 (.int .i64 x1), pl 39 (.func (.func 59) #[] #[.pointer (some ⟨g1, 0, none⟩), .pointer (some ⟨g2, 0, none⟩), .pointer (some ⟨g3, 0, none⟩)]), pl 41 (.int .i64 (w64 (show1 - 1))), pl 44 (.int .i64 (w64 (left1 - x1))), pl 47 (.int .i64 (w64 (kept1 + (minI x1 (w64 (p61 - kept1)))))), pl 52 (.int .i64 (w64 (sum1 + (w64 ((minI x1 (w64 (p61 - kept1))) * show1))))), pl 55 (.int .i64 (w64 (many1 * c2)))] hF hS (by kernel_rfl) (by kernel_rfl) ?_ (fun a w hF hS => ?_)
          · exact obs_cons (ob_load Agg88 (fun _ _ hS => (hS.at_ 1 rfl).cell rfl)) <| obs_nil
          have hS : Sep w0 B w (blk g1 22 #[.slice A1 p51.length c1] :: own 3 (.slice A1 p51.length c1) (vI z1) :: blk g2 3 #[.int .i64 p61] :: blk g3 88 #[.func (.func 59) #[] #[.pointer (some ⟨g1, 0, none⟩), .pointer (some ⟨g2, 0, none⟩), .pointer (some ⟨g3, 0, none⟩)]] :: fs) := hS.pickN 4 [2, 3, 0, 1] (by decide)
          refine at_call (f := 59) (args := #[.int .i64 (w64 (show1 - 1)), .int .i64 (w64 (left1 - x1)), .int .i64 (w64 (kept1 + (minI x1 (w64 (p61 - kept1))))), .int .i64 (w64 (sum1 + (w64 ((minI x1 (w64 (p61 - kept1))) * show1)))), .int .i64 (w64 (many1 * c2)), .pointer (some ⟨g1, 0, none⟩), .pointer (some ⟨g2, 0, none⟩), .pointer (some ⟨g3, 0, none⟩)]) (d := 56) hF (by kernel_rfl) (by kernel_rfl) Try.func59 (by kernel_rfl) rfl (ih_dice_Keep_1 hr1 hS ) (fun v a w hR hF => ?_)
          clear hS
          obtain ⟨rfl, hS⟩ := hR
          have hS : Sep w0 B w (blk g1 22 #[.slice A1 p51.length c1] :: own 3 (.slice A1 p51.length c1) (vI r1) :: blk g2 3 #[.int .i64 p61] :: blk g3 88 #[.func (.func 59) #[] #[.pointer (some ⟨g1, 0, none⟩), .pointer (some ⟨g2, 0, none⟩), .pointer (some ⟨g3, 0, none⟩)]] :: fs) := hS
          refine at_end [0, 1, 2, 3, 4, 6, 7, 13, 14] [pl 0 (.int .i64 show1), pl 1 (.int .i64 left1), pl 2 (.int .i64 kept1), pl 3 (.int .i64 sum1), pl 4 (.int .i64 many1), pl 6 (.pointer (some ⟨g2, 0, none⟩)), pl 7 (.pointer (some ⟨g3, 0, none⟩)), pl 13 (.int .i64 c2), pl 14 (.int .i64 x1)] hF rfl (by kernel_rfl) (fun hF => ?_)
          refine then_n ?_
          obtain ⟨hp3, hm⟩ := asrt_b hm
          refine reg1 [⟨true, [], vS (Op.intDiv .quo .i64 (w64 (c2 * (w64 (left1 - x1)))) (w64 (x1 + 1))), .int .i64 (w64 (Int.tdiv (w64 (c2 * (w64 (left1 - x1)))) (w64 (x1 + 1))))⟩] [none, none, none, none, none, none, none, some (.int .i64 (w64 (Int.tdiv (w64 (c2 * (w64 (left1 - x1)))) (w64 (x1 + 1))))), none] [0, 1, 2, 3, 4, 6, 7, 13, 14] [pl 0 (.int .i64 show1), pl 1 (.int .i64 left1), pl 2 (.int .i64 kept1), pl 3 (.int .i64 sum1), pl 4 (.int .i64 many1), pl 6 (.pointer (some ⟨g2, 0, none⟩)), pl 7 (.pointer (some ⟨g3, 0, none⟩)), pl 13 (.int .i64 (w64 (Int.tdiv (w64 (c2 * (w64 (left1 - x1)))) (w64 (x1 + 1))))), pl 14 (.int .i64 x1)] hF hS Fol (by kernel_rfl) (by kernel_rfl) (by kernel_rfl) ?_ (fun a w hF hS => ?_)
          · exact obs_cons (ob_quo rfl (fun _ => hp3)) <| obs_nil
          refine block_n ?_
          refine then_n ?_
          have hS := hS.pickN 4 [2, 3, 0, 1] (by decide)
          exact ⟨r1, hF.weak [0, 1, 2, 3, 4, 6, 7, 13, 14] (by kernel_rfl), hS, hm⟩
      · refine reg [] [] [0, 1, 2, 3, 4, 6, 7, 13, 14, 31] [pl 0 (.int .i64 show1), pl 1 (.int .i64 left1), pl 2 (.int .i64 kept1), pl 3 (.int .i64 sum1), pl 4 (.int .i64 many1), pl 6 (.pointer (some ⟨g2, 0, none⟩)), pl 7 (.pointer (some ⟨g3, 0, none⟩)), pl 13 (.int .i64 c2), pl 14 (.int .i64 x1), pl 31 (.bool (decide (x1 ≤ left1)))] hF hS Fol (by kernel_rfl) (by kernel_rfl) (by kernel_rfl) ?_ (fun a w hF hS => ?_)
        · exact obs_nil
        refine cond_ev (t := 31) (b := decide (x1 ≤ left1)) hF (by kernel_rfl) (fun hb => ?_) (fun hb => ?_)
        · replace hm := if_t hm hb
          refine wp_skip ?_
          refine then_n ?_
          exact ⟨hF.weak [0, 1, 2, 3, 4, 6, 7, 13, 14] (by kernel_rfl), hS, hm⟩
        · replace hm := if_f hm hb
          refine wp_exit ?_
          refine then_e (then_e (block_e (then_n ?_)))
          have hS := hS.pickN 4 [2, 3, 0, 1] (by decide)
          rw [← hφ1] at hm
          replace hm := done_b hm
          unfold dice_Keep_1_K1 at hm
          try dsimp only at hm
          have hm : (dice_Keep_1_J1 z1).bind some = some r := hm
          exact ⟨z1, hF.weak [] (by kernel_rfl), hS, hm⟩
    · refine reg [] [] [0, 1, 2, 3, 4, 5, 6, 7, 17] [pl 0 (.int .i64 show1), pl 1 (.int .i64 left1), pl 2 (.int .i64 kept1), pl 3 (.int .i64 sum1), pl 4 (.int .i64 many1), pl 5 (.pointer (some ⟨g1, 0, none⟩)), pl 6 (.pointer (some ⟨g2, 0, none⟩)), pl 7 (.pointer (some ⟨g3, 0, none⟩)), pl 17 (.bool (show1 == 0))] hF hS Fol (by kernel_rfl) (by kernel_rfl) (by kernel_rfl) ?_ (fun a w hF hS => ?_)
      · exact obs_nil
      refine cond_ev (t := 17) (b := (show1 == 0)) hF (by kernel_rfl) (fun hb => ?_) (fun hb => ?_)
      · replace hm := if_t hm hb
        refine seq_cut (fun a w => ∃ (p53 : List Int), Fr 65 [] a ∧ Sep w0 B w (blk g1 22 #[.slice A1 p51.length c1] :: own 3 (.slice A1 p51.length c1) (vI p53) :: blk g2 3 #[.int .i64 p61] :: blk g3 88 #[.func (.func 59) #[] #[.pointer (some ⟨g1, 0, none⟩), .pointer (some ⟨g2, 0, none⟩), .pointer (some ⟨g3, 0, none⟩)]] :: fs) ∧ (dice_Keep_1_J3 p53).bind some = some r) ?_ ?_
        · rintro a w ⟨p53, hF, hS, hm⟩
          unfold dice_Keep_1_J3 at hm
          refine wp_ret ?_
          refine then_r (then_r ?_)
          have hm : some p53 = some r := hm
          obtain rfl := Option.some.inj hm
          exact retV (rs := []) (vs := []) hF rfl (rv_nil) rfl ⟨_, rfl, rfl, hS⟩
        · refine reg [] [] [3, 4, 5, 6, 19] [pl 3 (.int .i64 sum1), pl 4 (.int .i64 many1), pl 5 (.pointer (some ⟨g1, 0, none⟩)), pl 6 (.pointer (some ⟨g2, 0, none⟩)), pl 19 (.bool (left1 == 0))] hF hS Fol (by kernel_rfl) (by kernel_rfl) (by kernel_rfl) ?_ (fun a w hF hS => ?_)
          · exact obs_nil
          refine cond_ev (t := 19) (b := (left1 == 0)) hF (by kernel_rfl) (fun hb => ?_) (fun hb => ?_)
          · replace hm := if_t hm hb
            refine oneR ?_
            obtain ⟨hp1, hm⟩ := asrt_b hm
            obtain ⟨hp2, hm⟩ := asrt_b hm
            refine at_run 9 [⟨false, [], vS (Instr.loadAt 22 (.pointer (some ⟨g1, 0, none⟩))), .slice A1 p51.length c1⟩, ⟨false, [], vS (Instr.loadAt 3 (.pointer (some ⟨g2, 0, none⟩))), .int .i64 p61⟩, ⟨true, [], vS (Instr.indexAt 22 (.slice A1 p51.length c1) (.int .i64 (w64 (sum1 - p61)))), .pointer (some (sAddr A1 (w64 (sum1 - p61))))⟩, ⟨false, [], vS (Instr.loadAt 3 (.pointer (some (sAddr A1 (w64 (sum1 - p61)))))), .int .i64 (geti p51 (w64 (sum1 - p61)))⟩, ⟨true, [], vS (Instr.indexAt 22 (.slice A1 p51.length c1) (.int .i64 (w64 (sum1 - p61)))), .pointer (some (sAddr A1 (w64 (sum1 - p61))))⟩] [some (.slice A1 p51.length c1), none, some (.int .i64 p61), none, some (.pointer (some (sAddr A1 (w64 (sum1 - p61))))), some (.int .i64 (geti p51 (w64 (sum1 - p61)))), none, none, some (.pointer (some (sAddr A1 (w64 (sum1 - p61)))))] [27, 28] [pl 27 (.int .i64 (w64 ((geti p51 (w64 (sum1 - p61))) + many1))), pl 28 (.pointer (some (sAddr A1 (w64 (sum1 - p61)))))] hF hS (by kernel_rfl) (by kernel_rfl) ?_ (fun a w hF hS => ?_)
            · exact obs_cons (ob_load Agg22 (fun _ _ hS => (hS.at_ 0 rfl).cell rfl)) <| obs_cons (ob_load Agg3 (fun _ _ hS => (hS.at_ 2 rfl).cell rfl)) <| obs_cons (ob_ix1 (f := (Value.int .i64)) (m := p51) Und22 hi3 hs3 (hS.at_ 1 rfl).rd rfl (fun _ => hp1)) <| obs_cons (ob_get1 (n := p51.length) (m := p51) (Value.int .i64) (0 : Int) Agg3 (fun _ hS => ⟨_, (hS.at_ 1 rfl).rd⟩) (fun _ hS => rfl) (fun _ => hp1)) <| obs_cons (ob_ix1 (f := (Value.int .i64)) (m := p51) Und22 hi3 hs3 (hS.at_ 1 rfl).rd rfl (fun _ => hp2)) <| obs_nil
            obtain ⟨w, hrun, hS⟩ := run_set1 (P := Try.prog) (t := 3) (x := (w64 ((geti p51 (w64 (sum1 - p61))) + many1))) (Value.int .i64) (hS.at_ 1 rfl) hi3 hs3 rfl rfl hp2
            refine at_skip hF (by kernel_rfl) hrun ?_
            have hS : Sep w0 B w (blk g1 22 #[.slice A1 p51.length c1] :: own 3 (.slice A1 p51.length c1) (vI (p51.set (Int.toNat (w64 (sum1 - p61))) (w64 ((geti p51 (w64 (sum1 - p61))) + many1)))) :: blk g2 3 #[.int .i64 p61] :: blk g3 88 #[.func (.func 59) #[] #[.pointer (some ⟨g1, 0, none⟩), .pointer (some ⟨g2, 0, none⟩), .pointer (some ⟨g3, 0, none⟩)]] :: fs) := hS
            refine at_end [] [] hF rfl (by kernel_rfl) (fun hF => ?_)
            refine then_n ?_
            exact ⟨(p51.set (Int.toNat (w64 (sum1 - p61))) (w64 ((geti p51 (w64 (sum1 - p61))) + many1))), hF.weak [] (by kernel_rfl), hS, hm⟩
          · replace hm := if_f hm hb
            refine wp_skip ?_
            refine then_n ?_
            exact ⟨p51, hF.weak [] (by kernel_rfl), hS, hm⟩
      · replace hm := if_f hm hb
        refine wp_skip ?_
        refine then_n ?_
        have hS := hS.pickN 4 [2, 3, 0, 1] (by decide)
        exact ⟨hF.weak [0, 1, 2, 3, 4, 6, 7] (by kernel_rfl), hS, hm⟩

theorem dice_Keep_1_w {show1 : Int} {left1 : Int} {kept1 : Int} {sum1 : Int} {many1 : Int} {g1 : Nat} {A1 : Option Addr} {c1 : Nat} {n1 : Nat} {p51 : List Int} {g2 : Nat} {p61 : Int} {g3 : Nat} {r : (List Int)} {w0 w : World} {B : Nat} {fs : List HP} (hm : dice_Keep_1_m show1 left1 kept1 sum1 many1 p51 p61 = some r) (hS : Sep w0 B w (blk g1 22 #[.slice A1 n1 c1] :: own 3 (.slice A1 n1 c1) (vI p51) :: blk g2 3 #[.int .i64 p61] :: blk g3 88 #[.func (.func 59) #[] #[.pointer (some ⟨g1, 0, none⟩), .pointer (some ⟨g2, 0, none⟩), .pointer (some ⟨g3, 0, none⟩)]] :: fs)) :
    Calls Try.prog 59 #[.int .i64 show1, .int .i64 left1, .int .i64 kept1, .int .i64 sum1, .int .i64 many1, .pointer (some ⟨g1, 0, none⟩), .pointer (some ⟨g2, 0, none⟩), .pointer (some ⟨g3, 0, none⟩)] w fun e w' => ∃ v, e = .returned v ∧ v = .tuple #[] ∧ Sep w0 B w' (blk g1 22 #[.slice A1 n1 c1] :: own 3 (.slice A1 n1 c1) (vI r) :: blk g2 3 #[.int .i64 p61] :: blk g3 88 #[.func (.func 59) #[] #[.pointer (some ⟨g1, 0, none⟩), .pointer (some ⟨g2, 0, none⟩), .pointer (some ⟨g3, 0, none⟩)]] :: fs) := by
  have key : ∀ (n : Nat) {show1 : Int} {left1 : Int} {kept1 : Int} {sum1 : Int} {many1 : Int} {g1 : Nat} {A1 : Option Addr} {c1 : Nat} {n1 : Nat} {p51 : List Int} {g2 : Nat} {p61 : Int} {g3 : Nat} {r : (List Int)} {w0 w : World} {B : Nat} {fs : List HP} (_ : dice_Keep_1_mF n show1 left1 kept1 sum1 many1 p51 p61 = some r) (_ : Sep w0 B w (blk g1 22 #[.slice A1 n1 c1] :: own 3 (.slice A1 n1 c1) (vI p51) :: blk g2 3 #[.int .i64 p61] :: blk g3 88 #[.func (.func 59) #[] #[.pointer (some ⟨g1, 0, none⟩), .pointer (some ⟨g2, 0, none⟩), .pointer (some ⟨g3, 0, none⟩)]] :: fs)), Calls Try.prog 59 #[.int .i64 show1, .int .i64 left1, .int .i64 kept1, .int .i64 sum1, .int .i64 many1, .pointer (some ⟨g1, 0, none⟩), .pointer (some ⟨g2, 0, none⟩), .pointer (some ⟨g3, 0, none⟩)] w fun e w' => ∃ v, e = .returned v ∧ v = .tuple #[] ∧ Sep w0 B w' (blk g1 22 #[.slice A1 n1 c1] :: own 3 (.slice A1 n1 c1) (vI r) :: blk g2 3 #[.int .i64 p61] :: blk g3 88 #[.func (.func 59) #[] #[.pointer (some ⟨g1, 0, none⟩), .pointer (some ⟨g2, 0, none⟩), .pointer (some ⟨g3, 0, none⟩)]] :: fs) := by
    intro n
    induction n with
    | zero => intros; rename_i hm0 _; cases hm0
    | succ n ih => intros; rename_i hm0 hS0; exact dice_Keep_1_wB (rec_dice_Keep_1 := dice_Keep_1_mF n) (fun hm hS => ih hm hS) hm0 hS0
  obtain ⟨n, hn⟩ := recM_some hm
  exact key n hn hS

theorem dice_Keep_1_J4_le_dice_Keep_1 {rec_dice_Keep_11 rec_dice_Keep_12 : Int → Int → Int → Int → Int → List Int → Int → Option (List Int)} (h_rec_dice_Keep_1 : ∀ a0 a1 a2 a3 a4 a5 a6, Le (rec_dice_Keep_11 a0 a1 a2 a3 a4 a5 a6) (rec_dice_Keep_12 a0 a1 a2 a3 a4 a5 a6)) (show1 : Int) (left1 : Int) (kept1 : Int) (sum1 : Int) (many1 : Int) (p61 : Int) (z1 : List Int) (c2 : Int) (x1 : Int) : Le (dice_Keep_1_J4 rec_dice_Keep_11 show1 left1 kept1 sum1 many1 p61 z1 c2 x1) (dice_Keep_1_J4 rec_dice_Keep_12 show1 left1 kept1 sum1 many1 p61 z1 c2 x1) := by
  unfold dice_Keep_1_J4
  repeat' (first | with_reducible exact Le.refl _ | with_reducible exact h_rec_dice_Keep_1 _ _ _ _ _ _ _ | refine Le.asrt ?_ | refine Le.ite ?_ ?_ | refine Le.bind ?_ (fun _ => ?_) | refine Le.loop2 (fun _ => ?_) | refine Le.elim2 (fun _ => ?_) (fun _ => ?_))

theorem dice_Keep_1_L1_le_dice_Keep_1 {rec_dice_Keep_11 rec_dice_Keep_12 : Int → Int → Int → Int → Int → List Int → Int → Option (List Int)} (h_rec_dice_Keep_1 : ∀ a0 a1 a2 a3 a4 a5 a6, Le (rec_dice_Keep_11 a0 a1 a2 a3 a4 a5 a6) (rec_dice_Keep_12 a0 a1 a2 a3 a4 a5 a6)) (show1 : Int) (left1 : Int) (kept1 : Int) (sum1 : Int) (many1 : Int) (p61 : Int) (x : (List Int × Int × Int)) : Le (dice_Keep_1_L1 rec_dice_Keep_11 show1 left1 kept1 sum1 many1 p61 x) (dice_Keep_1_L1 rec_dice_Keep_12 show1 left1 kept1 sum1 many1 p61 x) := by
  rcases x with ⟨z1, c2, x1⟩
  all_goals
    unfold dice_Keep_1_L1
    try dsimp only
    repeat' (first | with_reducible exact Le.refl _ | with_reducible exact h_rec_dice_Keep_1 _ _ _ _ _ _ _ | with_reducible exact dice_Keep_1_J4_le_dice_Keep_1 h_rec_dice_Keep_1 _ _ _ _ _ _ _ _ _ | refine Le.asrt ?_ | refine Le.ite ?_ ?_ | refine Le.bind ?_ (fun _ => ?_) | refine Le.loop2 (fun _ => ?_) | refine Le.elim2 (fun _ => ?_) (fun _ => ?_))

theorem dice_Keep_1_J2_le_dice_Keep_1 {rec_dice_Keep_11 rec_dice_Keep_12 : Int → Int → Int → Int → Int → List Int → Int → Option (List Int)} (h_rec_dice_Keep_1 : ∀ a0 a1 a2 a3 a4 a5 a6, Le (rec_dice_Keep_11 a0 a1 a2 a3 a4 a5 a6) (rec_dice_Keep_12 a0 a1 a2 a3 a4 a5 a6)) (show1 : Int) (left1 : Int) (kept1 : Int) (sum1 : Int) (many1 : Int) (p51 : List Int) (p61 : Int) : Le (dice_Keep_1_J2 rec_dice_Keep_11 show1 left1 kept1 sum1 many1 p51 p61) (dice_Keep_1_J2 rec_dice_Keep_12 show1 left1 kept1 sum1 many1 p51 p61) := by
  unfold dice_Keep_1_J2
  repeat' (first | with_reducible exact Le.refl _ | with_reducible exact h_rec_dice_Keep_1 _ _ _ _ _ _ _ | with_reducible exact dice_Keep_1_L1_le_dice_Keep_1 h_rec_dice_Keep_1 _ _ _ _ _ _ _ | refine Le.asrt ?_ | refine Le.ite ?_ ?_ | refine Le.bind ?_ (fun _ => ?_) | refine Le.loop2 (fun _ => ?_) | refine Le.elim2 (fun _ => ?_) (fun _ => ?_))

theorem dice_Keep_1_B_le {rec_dice_Keep_11 rec_dice_Keep_12 : Int → Int → Int → Int → Int → List Int → Int → Option (List Int)} (h_rec_dice_Keep_1 : ∀ a0 a1 a2 a3 a4 a5 a6, Le (rec_dice_Keep_11 a0 a1 a2 a3 a4 a5 a6) (rec_dice_Keep_12 a0 a1 a2 a3 a4 a5 a6)) (show1 : Int) (left1 : Int) (kept1 : Int) (sum1 : Int) (many1 : Int) (p51 : List Int) (p61 : Int) : Le (dice_Keep_1_B rec_dice_Keep_11 show1 left1 kept1 sum1 many1 p51 p61) (dice_Keep_1_B rec_dice_Keep_12 show1 left1 kept1 sum1 many1 p51 p61) := by
  unfold dice_Keep_1_B
  repeat' (first | with_reducible exact Le.refl _ | with_reducible exact h_rec_dice_Keep_1 _ _ _ _ _ _ _ | with_reducible exact dice_Keep_1_J2_le_dice_Keep_1 h_rec_dice_Keep_1 _ _ _ _ _ _ _ | refine Le.asrt ?_ | refine Le.ite ?_ ?_ | refine Le.bind ?_ (fun _ => ?_) | refine Le.loop2 (fun _ => ?_) | refine Le.elim2 (fun _ => ?_) (fun _ => ?_))

theorem dice_Keep_1_mF_le : ∀ (n : Nat) (show1 : Int) (left1 : Int) (kept1 : Int) (sum1 : Int) (many1 : Int) (p51 : List Int) (p61 : Int), Le (dice_Keep_1_mF n show1 left1 kept1 sum1 many1 p51 p61) (dice_Keep_1_mF (n + 1) show1 left1 kept1 sum1 many1 p51 p61)
  | 0, _, _, _, _, _, _, _ => fun _ h => by cases h
  | n + 1, _, _, _, _, _, _, _ => dice_Keep_1_B_le (fun a0 a1 a2 a3 a4 a5 a6 => dice_Keep_1_mF_le n a0 a1 a2 a3 a4 a5 a6) _ _ _ _ _ _ _

theorem dice_Keep_1_m_of (N : Nat) (show1 : Int) (left1 : Int) (kept1 : Int) (sum1 : Int) (many1 : Int) (p51 : List Int) (p61 : Int) {r : (List Int)} (h : dice_Keep_1_mF N show1 left1 kept1 sum1 many1 p51 p61 = some r) : dice_Keep_1_m show1 left1 kept1 sum1 many1 p51 p61 = some r :=
  recM_mono (fun n => dice_Keep_1_mF_le n _ _ _ _ _ _ _) h

noncomputable def dice_Keep_J1 (n1 : Int) (sides1 : Int) (k1 : Int) : Option (List Int × Int) :=
  asrt ((0 : Int) ≤ (w64 ((w64 (k1 * (w64 (sides1 - 1)))) + 1)) ∧ (w64 ((w64 (k1 * (w64 (sides1 - 1)))) + 1)) ≤ bigN) <| (dice_Keep_1_m sides1 n1 0 0 1 (List.replicate (Int.toNat (w64 ((w64 (k1 * (w64 (sides1 - 1)))) + 1))) (0 : Int)) k1).bind fun r2 => some (r2, 0)

noncomputable def dice_Keep_m (n1 : Int) (sides1 : Int) (k1 : Int) : Option (List Int × Int) :=
  if ((decide (n1 < 1)) || (decide ((10 : Int) < n1))) then (some (([] : List Int), 2)) else (if ((decide (sides1 < 1)) || (decide ((20 : Int) < sides1))) then (some (([] : List Int), 3)) else (((if (!((decide (k1 < 1)) || (decide (n1 < k1)))) then dice_ways_m sides1 n1 else some 0)).bind fun r1 => if (((decide (k1 < 1)) || (decide (n1 < k1))) || (r1 == 0)) then (some (([] : List Int), 11)) else ((dice_Keep_J1 n1 sides1 k1))))

set_option maxRecDepth 100000 in
set_option maxHeartbeats 4000000 in
theorem dice_Keep_w {n1 : Int} {sides1 : Int} {k1 : Int} {r : (List Int × Int)} {w0 w : World} {B : Nat} {fs : List HP} (hm : dice_Keep_m n1 sides1 k1 = some r) (hS : Sep w0 B w (fs)) :
    Calls Try.prog 22 #[.int .i64 n1, .int .i64 sides1, .int .i64 k1] w fun e w' => ∃ v, e = .returned v ∧ ∃ (A2 : Option Addr) (c2 : Nat), v = .tuple #[.slice A2 r.1.length c2, .int .i64 r.2] ∧ Sep w0 B w' (own 3 (.slice A2 r.1.length c2) (vI r.1) :: fs) := by
  obtain ⟨i3, hi3, hz3, hs3, hb3⟩ := info_parts Info3
  obtain ⟨i22, hi22, hz22, hs22, hb22⟩ := info_parts Info22
  obtain ⟨i88, hi88, hz88, hs88, hb88⟩ := info_parts Info88
  unfold dice_Keep_m at hm
  replace hm := start_b hm
  refine enter (l := [.int .i64 n1, .int .i64 sides1, .int .i64 k1]) (n := 50) Try.func22 rfl rfl (by simp) (fun a hF => ?_)
  refine seqR ?_
  refine at_do (d := 5) (s := vS (Instr.box 3 (.int .i64 k1))) (v := .pointer (some ⟨w.heap.size, 0, none⟩)) (w' := w.alloc (.cells #[.int .i64 k1] 3)) hF (by kernel_rfl) (by kernel_rfl) (by kernel_rfl) (fun a hF => ?_)
  have hS : Sep w0 B (w.alloc (.cells #[.int .i64 k1] 3)) (blk w.heap.size 3 #[.int .i64 k1] :: (fs)) := hS.box 3 #[.int .i64 k1]
  generalize w.heap.size = g1 at hF hS
  generalize w.alloc (.cells #[.int .i64 k1] 3) = w at hS ⊢
  refine at_run 2 [] [] [0, 1, 5] [pl 0 (.int .i64 n1), pl 1 (.int .i64 sides1), pl 5 (.pointer (some ⟨g1, 0, none⟩))] hF hS (by kernel_rfl) (by kernel_rfl) ?_ (fun a w hF hS => ?_)
  · exact obs_nil
  refine at_end [0, 1, 5] [pl 0 (.int .i64 n1), pl 1 (.int .i64 sides1), pl 5 (.pointer (some ⟨g1, 0, none⟩))] hF rfl (by kernel_rfl) (fun hF => ?_)
  refine then_n ?_
  refine seq_cut (fun a w => Fr 50 [pl 0 (.int .i64 n1), pl 1 (.int .i64 sides1), pl 5 (.pointer (some ⟨g1, 0, none⟩))] a ∧ Sep w0 B w (blk g1 3 #[.int .i64 k1] :: fs) ∧ ((dice_Keep_J1 n1 sides1 k1)).bind some = some r) ?_ ?_
  · rintro a w ⟨hF, hS, hm⟩
    unfold dice_Keep_J1 at hm
    refine seqR ?_
    obtain ⟨hp1, hm⟩ := asrt_b hm
    refine at_run 5 [⟨false, [], vS (Instr.loadAt 3 (.pointer (some ⟨g1, 0, none⟩))), .int .i64 k1⟩] [some (.int .i64 k1), none, none, none, none] [0, 1, 5, 42] [pl 0 (.int .i64 n1), pl 1 (.int .i64 sides1), pl 5 (.pointer (some ⟨g1, 0, none⟩)), pl 42 (.int .i64 (w64 ((w64 (k1 * (w64 (sides1 - 1)))) + 1)))] hF hS (by kernel_rfl) (by kernel_rfl) ?_ (fun a w hF hS => ?_)
    · exact obs_cons (ob_load Agg3 (fun _ _ hS => (hS.at_ 0 rfl).cell rfl)) <| obs_nil
    obtain ⟨A1, c1, w, hrun, hS⟩ := run_mk1 (P := Try.prog) (t := 22) (Value.int .i64) (0 : Int) hS .i64 .i64 Und22 hi3 hz3 hs3 (by omega) rfl hp1
    have hS : Sep w0 B w (own 3 (.slice A1 (Int.toNat (w64 ((w64 (k1 * (w64 (sides1 - 1)))) + 1))) c1) (vI (List.replicate (Int.toNat (w64 ((w64 (k1 * (w64 (sides1 - 1)))) + 1))) (0 : Int))) :: blk g1 3 #[.int .i64 k1] :: fs) := hS
    refine at_do (d := 43) hF (by kernel_rfl) (by kernel_rfl) hrun (fun a hF => ?_)
    refine at_do (d := 8) (s := vS (Instr.alloc 22 true (.tuple #[]))) (v := .pointer (some ⟨w.heap.size, 0, none⟩)) (w' := w.alloc (.cells #[.slice none 0 0] 22)) hF (by kernel_rfl) (by kernel_rfl) (by kernel_rfl) (fun a hF => ?_)
    have hS : Sep w0 B (w.alloc (.cells #[.slice none 0 0] 22)) (blk w.heap.size 22 #[.slice none 0 0] :: (own 3 (.slice A1 (Int.toNat (w64 ((w64 (k1 * (w64 (sides1 - 1)))) + 1))) c1) (vI (List.replicate (Int.toNat (w64 ((w64 (k1 * (w64 (sides1 - 1)))) + 1))) (0 : Int))) :: blk g1 3 #[.int .i64 k1] :: fs)) := hS.box 22 #[.slice none 0 0]
    generalize w.heap.size = g2 at hF hS
    generalize w.alloc (.cells #[.slice none 0 0] 22) = w at hS ⊢
    obtain ⟨w, hrun, hS⟩ := run_put (P := Try.prog) (t := 22) (u := .slice A1 (Int.toNat (w64 ((w64 (k1 * (w64 (sides1 - 1)))) + 1))) c1) (i := 0) (hS.at_ 0 rfl) hi22 hs22 rfl (Nat.lt_of_lt_of_eq (Nat.lt_of_succ_le (Nat.le_of_ble_eq_true (by kernel_rfl))) rfl)
    refine at_skip hF (by kernel_rfl) hrun ?_
    have hS : Sep w0 B w (blk g2 22 #[.slice A1 (Int.toNat (w64 ((w64 (k1 * (w64 (sides1 - 1)))) + 1))) c1] :: own 3 (.slice A1 (Int.toNat (w64 ((w64 (k1 * (w64 (sides1 - 1)))) + 1))) c1) (vI (List.replicate (Int.toNat (w64 ((w64 (k1 * (w64 (sides1 - 1)))) + 1))) (0 : Int))) :: blk g1 3 #[.int .i64 k1] :: fs) := hS
    refine at_end [0, 1, 5, 8] [pl 0 (.int .i64 n1), pl 1 (.int .i64 sides1), pl 5 (.pointer (some ⟨g1, 0, none⟩)), pl 8 (.pointer (some ⟨g2, 0, none⟩))] hF rfl (by kernel_rfl) (fun hF => ?_)
    refine then_n ?_
    refine seqR ?_
    refine at_do (d := 9) (s := vS (Instr.alloc 88 true (.tuple #[]))) (v := .pointer (some ⟨w.heap.size, 0, none⟩)) (w' := w.alloc (.cells #[.nilFunc] 88)) hF (by kernel_rfl) (by kernel_rfl) (by kernel_rfl) (fun a hF => ?_)
    have hS : Sep w0 B (w.alloc (.cells #[.nilFunc] 88)) (blk w.heap.size 88 #[.nilFunc] :: (blk g2 22 #[.slice A1 (Int.toNat (w64 ((w64 (k1 * (w64 (sides1 - 1)))) + 1))) c1] :: own 3 (.slice A1 (Int.toNat (w64 ((w64 (k1 * (w64 (sides1 - 1)))) + 1))) c1) (vI (List.replicate (Int.toNat (w64 ((w64 (k1 * (w64 (sides1 - 1)))) + 1))) (0 : Int))) :: blk g1 3 #[.int .i64 k1] :: fs)) := hS.box 88 #[.nilFunc]
    generalize w.heap.size = g3 at hF hS
    generalize w.alloc (.cells #[.nilFunc] 88) = w at hS ⊢
    refine at_end [0, 1, 5, 8, 9] [pl 0 (.int .i64 n1), pl 1 (.int .i64 sides1), pl 5 (.pointer (some ⟨g1, 0, none⟩)), pl 8 (.pointer (some ⟨g2, 0, none⟩)), pl 9 (.pointer (some ⟨g3, 0, none⟩))] hF rfl (by kernel_rfl) (fun hF => ?_)
    refine then_n ?_
    refine seqR ?_
    refine at_run 1 [] [] [0, 1, 8, 9, 44] [pl 0 (.int .i64 n1), pl 1 (.int .i64 sides1), pl 8 (.pointer (some ⟨g2, 0, none⟩)), pl 9 (.pointer (some ⟨g3, 0, none⟩)), pl 44 (.func (.func 59) #[] #[.pointer (some ⟨g2, 0, none⟩), .pointer (some ⟨g1, 0, none⟩), .pointer (some ⟨g3, 0, none⟩)])] hF hS (by kernel_rfl) (by kernel_rfl) ?_ (fun a w hF hS => ?_)
    · exact obs_nil
    obtain ⟨w, hrun, hS⟩ := run_put (P := Try.prog) (t := 88) (u := .func (.func 59) #[] #[.pointer (some ⟨g2, 0, none⟩), .pointer (some ⟨g1, 0, none⟩), .pointer (some ⟨g3, 0, none⟩)]) (i := 0) (hS.at_ 0 rfl) hi88 hs88 rfl (Nat.lt_of_lt_of_eq (Nat.lt_of_succ_le (Nat.le_of_ble_eq_true (by kernel_rfl))) rfl)
    refine at_skip hF (by kernel_rfl) hrun ?_
    have hS : Sep w0 B w (blk g3 88 #[.func (.func 59) #[] #[.pointer (some ⟨g2, 0, none⟩), .pointer (some ⟨g1, 0, none⟩), .pointer (some ⟨g3, 0, none⟩)]] :: blk g2 22 #[.slice A1 (Int.toNat (w64 ((w64 (k1 * (w64 (sides1 - 1)))) + 1))) c1] :: own 3 (.slice A1 (Int.toNat (w64 ((w64 (k1 * (w64 (sides1 - 1)))) + 1))) c1) (vI (List.replicate (Int.toNat (w64 ((w64 (k1 * (w64 (sides1 - 1)))) + 1))) (0 : Int))) :: blk g1 3 #[.int .i64 k1] :: fs) := hS
    refine at_end [0, 1, 8, 9] [pl 0 (.int .i64 n1), pl 1 (.int .i64 sides1), pl 8 (.pointer (some ⟨g2, 0, none⟩)), pl 9 (.pointer (some ⟨g3, 0, none⟩))] hF rfl (by kernel_rfl) (fun hF => ?_)
    refine then_n ?_
    refine seqR ?_
    obtain ⟨r2, hr2, hm⟩ := call_b hm
    refine at_run 3 [⟨false, [], vS (Instr.loadAt 88 (.pointer (some ⟨g3, 0, none⟩))), .func (.func 59) #[] #[.pointer (some ⟨g2, 0, none⟩), .pointer (some ⟨g1, 0, none⟩), .pointer (some ⟨g3, 0, none⟩)]⟩] [some (.func (.func 59) #[] #[.pointer (some ⟨g2, 0, none⟩), .pointer (some ⟨g1, 0, none⟩), .pointer (some ⟨g3, 0, none⟩)]), none, none] [8, 45, 46, 47] [pl 8 (.pointer (some ⟨g2, 0, none⟩)), pl 45 (.func (.func 59) #[] #[.pointer (some ⟨g2, 0, none⟩), .pointer (some ⟨g1, 0, none⟩), .pointer (some ⟨g3, 0, none⟩)]), pl 46 (.int .i64 sides1), pl 47 (.int .i64 n1)] hF hS (by kernel_rfl) (by kernel_rfl) ?_ (fun a w hF hS => ?_)
    · exact obs_cons (ob_load Agg88 (fun _ _ hS => (hS.at_ 0 rfl).cell rfl)) <| obs_nil
    have hS : Sep w0 B w (blk g2 22 #[.slice A1 (Int.toNat (w64 ((w64 (k1 * (w64 (sides1 - 1)))) + 1))) c1] :: own 3 (.slice A1 (Int.toNat (w64 ((w64 (k1 * (w64 (sides1 - 1)))) + 1))) c1) (vI (List.replicate (Int.toNat (w64 ((w64 (k1 * (w64 (sides1 - 1)))) + 1))) (0 : Int))) :: blk g1 3 #[.int .i64 k1] :: blk g3 88 #[.func (.func 59) #[] #[.pointer (some ⟨g2, 0, none⟩), .pointer (some ⟨g1, 0, none⟩), .pointer (some ⟨g3, 0, none⟩)]] :: fs) := hS.pickN 4 [1, 2, 3, 0] (by decide)
    refine at_call (f := 59) (args := #[.int .i64 sides1, .int .i64 n1, .int .i64 0, .int .i64 0, .int .i64 1, .pointer (some ⟨g2, 0, none⟩), .pointer (some ⟨g1, 0, none⟩), .pointer (some ⟨g3, 0, none⟩)]) (d := 48) hF (by kernel_rfl) (by kernel_rfl) Try.func59 (by kernel_rfl) rfl (dice_Keep_1_w hr2 hS ) (fun v a w hR hF => ?_)
    clear hS
    obtain ⟨rfl, hS⟩ := hR
    have hS : Sep w0 B w (blk g2 22 #[.slice A1 (Int.toNat (w64 ((w64 (k1 * (w64 (sides1 - 1)))) + 1))) c1] :: own 3 (.slice A1 (Int.toNat (w64 ((w64 (k1 * (w64 (sides1 - 1)))) + 1))) c1) (vI r2) :: blk g1 3 #[.int .i64 k1] :: blk g3 88 #[.func (.func 59) #[] #[.pointer (some ⟨g2, 0, none⟩), .pointer (some ⟨g1, 0, none⟩), .pointer (some ⟨g3, 0, none⟩)]] :: fs) := hS
    refine at_end [8] [pl 8 (.pointer (some ⟨g2, 0, none⟩))] hF rfl (by kernel_rfl) (fun hF => ?_)
    refine then_n ?_
    refine reg [⟨false, [], vS (Instr.loadAt 22 (.pointer (some ⟨g2, 0, none⟩))), .slice A1 (Int.toNat (w64 ((w64 (k1 * (w64 (sides1 - 1)))) + 1))) c1⟩] [some (.slice A1 (Int.toNat (w64 ((w64 (k1 * (w64 (sides1 - 1)))) + 1))) c1), none, none] [6, 7] [pl 6 (.slice A1 (Int.toNat (w64 ((w64 (k1 * (w64 (sides1 - 1)))) + 1))) c1), pl 7 (.int .i64 0)] hF hS Fol (by kernel_rfl) (by kernel_rfl) (by kernel_rfl) ?_ (fun a w hF hS => ?_)
    · exact obs_cons (ob_load Agg22 (fun _ _ hS => (hS.at_ 0 rfl).cell rfl)) <| obs_nil
    refine wp_ret ?_
    have hl4 := (hS.at_ 1 rfl).len1
    have hS := (hS.at_ 1 rfl).reN hl4
    have hS := (hS.at_ 0 rfl).reBlk (congrArg (fun k9 => (#[.slice A1 k9 c1] : Array Value)) hl4)
    have hS : Sep w0 B w (blk g2 22 #[.slice A1 r2.length c1] :: own 3 (.slice A1 r2.length c1) (vI r2) :: blk g1 3 #[.int .i64 k1] :: blk g3 88 #[.func (.func 59) #[] #[.pointer (some ⟨g2, 0, none⟩), .pointer (some ⟨g1, 0, none⟩), .pointer (some ⟨g3, 0, none⟩)]] :: fs) := hS
    have hF := hF.cast (t := 6) (v := .slice A1 (Int.toNat (w64 ((w64 (k1 * (w64 (sides1 - 1)))) + 1))) c1) (v' := .slice A1 r2.length c1) rfl rfl (congrArg (fun k => Value.slice A1 k c1) hl4)
    have hS := hS.pickN 4 [1] (by decide)
    have hm : some (r2, 0) = some r := hm
    obtain rfl := Option.some.inj hm
    exact retV (rs := [.tmp 6, .tmp 7]) (vs := [.slice A1 r2.length c1, .int .i64 0]) hF rfl (rv_t (by kernel_rfl) <| rv_t (by kernel_rfl) <| rv_nil) rfl ⟨_, rfl, A1, c1, rfl, hS⟩
  · refine wp_block ?_
    refine reg [] [] [0, 1, 5, 10] [pl 0 (.int .i64 n1), pl 1 (.int .i64 sides1), pl 5 (.pointer (some ⟨g1, 0, none⟩)), pl 10 (.bool ((decide (n1 < 1)) || (decide ((10 : Int) < n1))))] hF hS Fol (by kernel_rfl) (by kernel_rfl) (by kernel_rfl) ?_ (fun a w hF hS => ?_)
    · exact obs_nil
    refine cond_ev (t := 10) (b := (decide (n1 < 1)) || (decide ((10 : Int) < n1))) hF (by kernel_rfl) (fun hb => ?_) (fun hb => ?_)
    · replace hm := if_t hm hb
      refine reg [] [] [6, 7] [pl 6 (.slice none 0 0), pl 7 (.int .i64 2)] hF hS Fol (by kernel_rfl) (by kernel_rfl) (by kernel_rfl) ?_ (fun a w hF hS => ?_)
      · exact obs_nil
      refine wp_ret ?_
      refine block_r (then_r ?_)
      have hS : Sep w0 B w (own 3 (.slice none 0 0) (vI ([] : List Int)) :: blk g1 3 #[.int .i64 k1] :: fs) := hS.nil 3
      have hl1 := (hS.at_ 0 rfl).len1
      have hS := (hS.at_ 0 rfl).reN hl1
      have hS : Sep w0 B w (own 3 (.slice none (([] : List Int).length) 0) (vI ([] : List Int)) :: blk g1 3 #[.int .i64 k1] :: fs) := hS
      have hS := hS.pickN 2 [0] (by decide)
      have hm : some (([] : List Int), 2) = some r := hm
      obtain rfl := Option.some.inj hm
      exact retV (rs := [.tmp 6, .tmp 7]) (vs := [.slice none (([] : List Int).length) 0, .int .i64 2]) hF rfl (rv_t (by kernel_rfl) <| rv_t (by kernel_rfl) <| rv_nil) rfl ⟨_, rfl, none, 0, rfl, hS⟩
    · replace hm := if_f hm hb
      refine reg [] [] [0, 1, 5, 17] [pl 0 (.int .i64 n1), pl 1 (.int .i64 sides1), pl 5 (.pointer (some ⟨g1, 0, none⟩)), pl 17 (.bool ((decide (sides1 < 1)) || (decide ((20 : Int) < sides1))))] hF hS Fol (by kernel_rfl) (by kernel_rfl) (by kernel_rfl) ?_ (fun a w hF hS => ?_)
      · exact obs_nil
      refine cond_ev (t := 17) (b := (decide (sides1 < 1)) || (decide ((20 : Int) < sides1))) hF (by kernel_rfl) (fun hb => ?_) (fun hb => ?_)
      · replace hm := if_t hm hb
        refine reg [] [] [6, 7] [pl 6 (.slice none 0 0), pl 7 (.int .i64 3)] hF hS Fol (by kernel_rfl) (by kernel_rfl) (by kernel_rfl) ?_ (fun a w hF hS => ?_)
        · exact obs_nil
        refine wp_ret ?_
        refine block_r (then_r ?_)
        have hS : Sep w0 B w (own 3 (.slice none 0 0) (vI ([] : List Int)) :: blk g1 3 #[.int .i64 k1] :: fs) := hS.nil 3
        have hl2 := (hS.at_ 0 rfl).len1
        have hS := (hS.at_ 0 rfl).reN hl2
        have hS : Sep w0 B w (own 3 (.slice none (([] : List Int).length) 0) (vI ([] : List Int)) :: blk g1 3 #[.int .i64 k1] :: fs) := hS
        have hS := hS.pickN 2 [0] (by decide)
        have hm : some (([] : List Int), 3) = some r := hm
        obtain rfl := Option.some.inj hm
        exact retV (rs := [.tmp 6, .tmp 7]) (vs := [.slice none (([] : List Int).length) 0, .int .i64 3]) hF rfl (rv_t (by kernel_rfl) <| rv_t (by kernel_rfl) <| rv_nil) rfl ⟨_, rfl, none, 0, rfl, hS⟩
      · replace hm := if_f hm hb
        obtain ⟨r1, hr1, hm⟩ := call_b hm
        refine reg [⟨false, [], vS (Instr.loadAt 3 (.pointer (some ⟨g1, 0, none⟩))), .int .i64 k1⟩, ⟨false, [(decide (k1 < 1), false)], vS (Instr.loadAt 3 (.pointer (some ⟨g1, 0, none⟩))), .int .i64 k1⟩, ⟨false, [((decide (k1 < 1)) || (decide (n1 < k1)), false)], callFunc 57 #[.int .i64 sides1, .int .i64 n1], .int .i64 r1⟩] [some (.int .i64 k1), none, none, some (.int .i64 k1), none, none, none, none, none, none, some (.int .i64 r1), none, none, none] [0, 1, 5, 24] [pl 0 (.int .i64 n1), pl 1 (.int .i64 sides1), pl 5 (.pointer (some ⟨g1, 0, none⟩)), pl 24 (.bool (((decide (k1 < 1)) || (decide (n1 < k1))) || (r1 == 0)))] hF hS Fol (by kernel_rfl) (by kernel_rfl) (by kernel_rfl) ?_ (fun a w hF hS => ?_)
        · exact obs_cons (ob_load Agg3 (fun _ _ hS => (hS.at_ 0 rfl).cell rfl)) <| obs_cons (ob_load Agg3 (fun _ _ hS => (hS.at_ 0 rfl).cell rfl)) <| obs_cons (ob_call Try.func57 (by kernel_rfl) rfl (fun hy _ hS => dice_ways_w (ite_some hr1 (by rw [show ((decide (k1 < 1)) || (decide (n1 < k1))) = false from hy ((decide (k1 < 1)) || (decide (n1 < k1)), false) (by simp)]; try rfl)) hS )) <| obs_nil
        refine cond_ev (t := 24) (b := ((decide (k1 < 1)) || (decide (n1 < k1))) || (r1 == 0)) hF (by kernel_rfl) (fun hb => ?_) (fun hb => ?_)
        · replace hm := if_t hm hb
          refine reg [] [] [6, 7] [pl 6 (.slice none 0 0), pl 7 (.int .i64 11)] hF hS Fol (by kernel_rfl) (by kernel_rfl) (by kernel_rfl) ?_ (fun a w hF hS => ?_)
          · exact obs_nil
          refine wp_ret ?_
          refine block_r (then_r ?_)
          have hS : Sep w0 B w (own 3 (.slice none 0 0) (vI ([] : List Int)) :: blk g1 3 #[.int .i64 k1] :: fs) := hS.nil 3
          have hl3 := (hS.at_ 0 rfl).len1
          have hS := (hS.at_ 0 rfl).reN hl3
          have hS : Sep w0 B w (own 3 (.slice none (([] : List Int).length) 0) (vI ([] : List Int)) :: blk g1 3 #[.int .i64 k1] :: fs) := hS
          have hS := hS.pickN 2 [0] (by decide)
          have hm : some (([] : List Int), 11) = some r := hm
          obtain rfl := Option.some.inj hm
          exact retV (rs := [.tmp 6, .tmp 7]) (vs := [.slice none (([] : List Int).length) 0, .int .i64 11]) hF rfl (rv_t (by kernel_rfl) <| rv_t (by kernel_rfl) <| rv_nil) rfl ⟨_, rfl, none, 0, rfl, hS⟩
        · replace hm := if_f hm hb
          refine wp_skip ?_
          refine block_n ?_
          refine then_n ?_
          exact ⟨hF.weak [0, 1, 5] (by kernel_rfl), hS, hm⟩

noncomputable def gameroomref_within_m (n1 : Int) (low1 : Int) (high1 : Int) : Option Bool :=
  some ((decide (low1 ≤ n1)) && (decide (n1 ≤ high1)))

set_option maxRecDepth 100000 in
set_option maxHeartbeats 4000000 in
theorem gameroomref_within_w {n1 : Int} {low1 : Int} {high1 : Int} {r : Bool} {w0 w : World} {B : Nat} {fs : List HP} (hm : gameroomref_within_m n1 low1 high1 = some r) (hS : Sep w0 B w (fs)) :
    Calls Try.prog 60 #[.int .i64 n1, .int .i64 low1, .int .i64 high1] w fun e w' => e = .returned (.bool r) ∧ Sep w0 B w' (fs) := by
  unfold gameroomref_within_m at hm
  replace hm := start_b hm
  refine enter (l := [.int .i64 n1, .int .i64 low1, .int .i64 high1]) (n := 15) Try.func60 rfl rfl (by simp) (fun a hF => ?_)
  refine reg [] [] [0, 1, 2] [pl 0 (.int .i64 n1), pl 1 (.int .i64 low1), pl 2 (.int .i64 high1)] hF hS Fol (by kernel_rfl) (by kernel_rfl) (by kernel_rfl) ?_ (fun a w hF hS => ?_)
  · exact obs_nil
  refine reg [] [] [6] [pl 6 (.bool ((decide (low1 ≤ n1)) && (decide (n1 ≤ high1))))] hF hS Fol (by kernel_rfl) (by kernel_rfl) (by kernel_rfl) ?_ (fun a w hF hS => ?_)
  · exact obs_nil
  refine wp_ret ?_
  have hm : some ((decide (low1 ≤ n1)) && (decide (n1 ≤ high1))) = some r := hm
  obtain rfl := Option.some.inj hm
  exact retV (rs := [.tmp 6]) (vs := [.bool ((decide (low1 ≤ n1)) && (decide (n1 ≤ high1)))]) hF rfl (rv_t (by kernel_rfl) <| rv_nil) rfl ⟨rfl, hS⟩

noncomputable def gameroomref_allWays_J3 (sides1 : Int) (w1 : Int) (i1 : Int) : Option (St (Int × Int) (Fl Int Int)) :=
  some (.next ((w64 (w1 * sides1)), (w64 (i1 + 1))))

noncomputable def gameroomref_allWays_J2 (sides1 : Int) (w1 : Int) (i1 : Int) : Option (St (Int × Int) (Fl Int Int)) :=
  if (decide ((100000 : Int) < (w64 (w1 * sides1)))) then (some (.done (.ret 0))) else ((gameroomref_allWays_J3 sides1 w1 i1))

noncomputable def gameroomref_allWays_J1 (w2 : Int) : Option Int :=
  some w2

noncomputable def gameroomref_allWays_K1 : (Fl Int Int) → Option Int :=
  fun (x : (Fl Int Int)) => match x with | .go w2 => gameroomref_allWays_J1 w2 | .ret x => some x

noncomputable def gameroomref_allWays_L1 (sides1 : Int) (n1 : Int) : (Int × Int) → Option (St (Int × Int) (Fl Int Int)) :=
  fun (x : (Int × Int)) => match x with | (w1, i1) => if (decide (i1 < n1)) then ((gameroomref_allWays_J2 sides1 w1 i1)) else (some (.done (.go w1)))

noncomputable def gameroomref_allWays_m (sides1 : Int) (n1 : Int) : Option Int :=
  (loop (gameroomref_allWays_L1 sides1 n1) (1, 0)).bind gameroomref_allWays_K1

set_option maxRecDepth 100000 in
set_option maxHeartbeats 4000000 in
theorem gameroomref_allWays_w {sides1 : Int} {n1 : Int} {r : Int} {w0 w : World} {B : Nat} {fs : List HP} (hm : gameroomref_allWays_m sides1 n1 = some r) (hS : Sep w0 B w (fs)) :
    Calls Try.prog 58 #[.int .i64 sides1, .int .i64 n1] w fun e w' => e = .returned (.int .i64 r) ∧ Sep w0 B w' (fs) := by
  unfold gameroomref_allWays_m at hm
  replace hm := start_b hm
  refine enter (l := [.int .i64 sides1, .int .i64 n1]) (n := 18) Try.func58 rfl rfl (by simp) (fun a hF => ?_)
  refine reg [] [] [0, 1] [pl 0 (.int .i64 sides1), pl 1 (.int .i64 n1)] hF hS Fol (by kernel_rfl) (by kernel_rfl) (by kernel_rfl) ?_ (fun a w hF hS => ?_)
  · exact obs_nil
  refine reg [] [] [0, 1, 5] [pl 0 (.int .i64 sides1), pl 1 (.int .i64 n1), pl 5 (.int .i64 1)] hF hS Fol (by kernel_rfl) (by kernel_rfl) (by kernel_rfl) ?_ (fun a w hF hS => ?_)
  · exact obs_nil
  refine seq_cut (fun a w => ∃ (w2 : Int), Fr 18 [pl 5 (.int .i64 w2)] a ∧ Sep w0 B w (fs) ∧ (gameroomref_allWays_J1 w2).bind some = some r) ?_ ?_
  · rintro a w ⟨w2, hF, hS, hm⟩
    unfold gameroomref_allWays_J1 at hm
    refine reg [] [] [4] [pl 4 (.int .i64 w2)] hF hS Fol (by kernel_rfl) (by kernel_rfl) (by kernel_rfl) ?_ (fun a w hF hS => ?_)
    · exact obs_nil
    refine wp_ret ?_
    have hm : some w2 = some r := hm
    obtain rfl := Option.some.inj hm
    exact retV (rs := [.tmp 4]) (vs := [.int .i64 w2]) hF rfl (rv_t (by kernel_rfl) <| rv_nil) rfl ⟨rfl, hS⟩
  · refine reg [] [] [0, 1, 5, 6] [pl 0 (.int .i64 sides1), pl 1 (.int .i64 n1), pl 5 (.int .i64 1), pl 6 (.int .i64 0)] hF hS Fol (by kernel_rfl) (by kernel_rfl) (by kernel_rfl) ?_ (fun a w hF hS => ?_)
    · exact obs_nil
    refine wp_block ?_
    refine wp_loop_model (S := (Int × Int)) (R := (Fl Int Int)) (gameroomref_allWays_L1 sides1 n1) (fun x => (gameroomref_allWays_K1 x).bind some) r (fun (x : (Int × Int)) a w => Fr 18 [pl 0 (.int .i64 sides1), pl 1 (.int .i64 n1), pl 5 (.int .i64 x.1), pl 6 (.int .i64 x.2)] a ∧ Sep w0 B w (fs)) (assoc_b hm) ⟨hF.weak [0, 1, 5, 6] (by kernel_rfl), hS⟩ ?_
    clear hF hS hm
    rintro nn1 ⟨w1, i1⟩ a w ⟨hF, hS⟩ hm
    generalize hφ1 : stK (gameroomref_allWays_L1 sides1 n1) nn1 (fun x => (gameroomref_allWays_K1 x).bind some) = φ1 at hm
    unfold gameroomref_allWays_L1 at hm
    dsimp only at hF hS hm
    refine seq_cut (fun a w => Fr 18 [pl 0 (.int .i64 sides1), pl 1 (.int .i64 n1), pl 5 (.int .i64 w1), pl 6 (.int .i64 i1)] a ∧ Sep w0 B w (fs) ∧ ((gameroomref_allWays_J2 sides1 w1 i1)).bind φ1 = some r) ?_ ?_
    · rintro a w ⟨hF, hS, hm⟩
      unfold gameroomref_allWays_J2 at hm
      refine seq_cut (fun a w => Fr 18 [pl 0 (.int .i64 sides1), pl 1 (.int .i64 n1), pl 5 (.int .i64 (w64 (w1 * sides1))), pl 6 (.int .i64 i1)] a ∧ Sep w0 B w (fs) ∧ ((gameroomref_allWays_J3 sides1 w1 i1)).bind φ1 = some r) ?_ ?_
      · rintro a w ⟨hF, hS, hm⟩
        unfold gameroomref_allWays_J3 at hm
        refine reg1 [] [] [0, 1, 5, 6] [pl 0 (.int .i64 sides1), pl 1 (.int .i64 n1), pl 5 (.int .i64 (w64 (w1 * sides1))), pl 6 (.int .i64 (w64 (i1 + 1)))] hF hS Fol (by kernel_rfl) (by kernel_rfl) (by kernel_rfl) ?_ (fun a w hF hS => ?_)
        · exact obs_nil
        refine then_n ?_
        rw [← hφ1] at hm
        exact ⟨((w64 (w1 * sides1)), (w64 (i1 + 1))), ⟨hF.weak [0, 1, 5, 6] (by kernel_rfl), hS⟩, hm⟩
      · refine wp_block ?_
        refine reg [] [] [0, 1, 5, 6] [pl 0 (.int .i64 sides1), pl 1 (.int .i64 n1), pl 5 (.int .i64 (w64 (w1 * sides1))), pl 6 (.int .i64 i1)] hF hS Fol (by kernel_rfl) (by kernel_rfl) (by kernel_rfl) ?_ (fun a w hF hS => ?_)
        · exact obs_nil
        refine reg [] [] [0, 1, 5, 6, 16] [pl 0 (.int .i64 sides1), pl 1 (.int .i64 n1), pl 5 (.int .i64 (w64 (w1 * sides1))), pl 6 (.int .i64 i1), pl 16 (.bool (decide ((100000 : Int) < (w64 (w1 * sides1)))))] hF hS Fol (by kernel_rfl) (by kernel_rfl) (by kernel_rfl) ?_ (fun a w hF hS => ?_)
        · exact obs_nil
        refine cond_ev (t := 16) (b := decide ((100000 : Int) < (w64 (w1 * sides1)))) hF (by kernel_rfl) (fun hb => ?_) (fun hb => ?_)
        · replace hm := if_t hm hb
          refine reg [] [] [4] [pl 4 (.int .i64 0)] hF hS Fol (by kernel_rfl) (by kernel_rfl) (by kernel_rfl) ?_ (fun a w hF hS => ?_)
          · exact obs_nil
          refine wp_ret ?_
          refine block_r (then_r (then_r (block_r (then_r ?_))))
          rw [← hφ1] at hm
          replace hm := done_b hm
          unfold gameroomref_allWays_K1 at hm
          try dsimp only at hm
          have hm : some 0 = some r := hm
          obtain rfl := Option.some.inj hm
          exact retV (rs := [.tmp 4]) (vs := [.int .i64 0]) hF rfl (rv_t (by kernel_rfl) <| rv_nil) rfl ⟨rfl, hS⟩
        · replace hm := if_f hm hb
          refine wp_skip ?_
          refine block_n ?_
          refine then_n ?_
          exact ⟨hF.weak [0, 1, 5, 6] (by kernel_rfl), hS, hm⟩
    · refine reg [] [] [0, 1, 5, 6, 9] [pl 0 (.int .i64 sides1), pl 1 (.int .i64 n1), pl 5 (.int .i64 w1), pl 6 (.int .i64 i1), pl 9 (.bool (decide (i1 < n1)))] hF hS Fol (by kernel_rfl) (by kernel_rfl) (by kernel_rfl) ?_ (fun a w hF hS => ?_)
      · exact obs_nil
      refine cond_ev (t := 9) (b := decide (i1 < n1)) hF (by kernel_rfl) (fun hb => ?_) (fun hb => ?_)
      · replace hm := if_t hm hb
        refine wp_skip ?_
        refine then_n ?_
        exact ⟨hF.weak [0, 1, 5, 6] (by kernel_rfl), hS, hm⟩
      · replace hm := if_f hm hb
        refine wp_exit ?_
        refine then_e (then_e (block_e (then_n ?_)))
        rw [← hφ1] at hm
        replace hm := done_b hm
        unfold gameroomref_allWays_K1 at hm
        try dsimp only at hm
        have hm : (gameroomref_allWays_J1 w1).bind some = some r := hm
        exact ⟨w1, hF.weak [5] (by kernel_rfl), hS, hm⟩

noncomputable def gameroomref_KeepMay_J3 : Option Int :=
  some 0

noncomputable def gameroomref_KeepMay_J2 (n1 : Int) (sides1 : Int) (k1 : Int) : Option Int :=
  (gameroomref_within_m k1 1 n1).bind fun r3 => ((if (!(!r3)) then gameroomref_allWays_m sides1 n1 else some 0)).bind fun r4 => if ((!r3) || (r4 == 0)) then (some 11) else (gameroomref_KeepMay_J3)

noncomputable def gameroomref_KeepMay_J1 (n1 : Int) (sides1 : Int) (k1 : Int) : Option Int :=
  (gameroomref_within_m sides1 1 20).bind fun r2 => if (!r2) then (some 3) else ((gameroomref_KeepMay_J2 n1 sides1 k1))

noncomputable def gameroomref_KeepMay_m (n1 : Int) (sides1 : Int) (k1 : Int) : Option Int :=
  (gameroomref_within_m n1 1 10).bind fun r1 => if (!r1) then (some 2) else ((gameroomref_KeepMay_J1 n1 sides1 k1))

set_option maxRecDepth 100000 in
set_option maxHeartbeats 4000000 in
theorem gameroomref_KeepMay_w {n1 : Int} {sides1 : Int} {k1 : Int} {r : Int} {w0 w : World} {B : Nat} {fs : List HP} (hm : gameroomref_KeepMay_m n1 sides1 k1 = some r) (hS : Sep w0 B w (fs)) :
    Calls Try.prog 23 #[.int .i64 n1, .int .i64 sides1, .int .i64 k1] w fun e w' => e = .returned (.int .i64 r) ∧ Sep w0 B w' (fs) := by
  unfold gameroomref_KeepMay_m at hm
  replace hm := start_b hm
  refine enter (l := [.int .i64 n1, .int .i64 sides1, .int .i64 k1]) (n := 23) Try.func23 rfl rfl (by simp) (fun a hF => ?_)
  refine reg [] [] [0, 1, 2] [pl 0 (.int .i64 n1), pl 1 (.int .i64 sides1), pl 2 (.int .i64 k1)] hF hS Fol (by kernel_rfl) (by kernel_rfl) (by kernel_rfl) ?_ (fun a w hF hS => ?_)
  · exact obs_nil
  refine seq_cut (fun a w => Fr 23 [pl 0 (.int .i64 n1), pl 1 (.int .i64 sides1), pl 2 (.int .i64 k1)] a ∧ Sep w0 B w (fs) ∧ ((gameroomref_KeepMay_J1 n1 sides1 k1)).bind some = some r) ?_ ?_
  · rintro a w ⟨hF, hS, hm⟩
    unfold gameroomref_KeepMay_J1 at hm
    refine seq_cut (fun a w => Fr 23 [pl 0 (.int .i64 n1), pl 1 (.int .i64 sides1), pl 2 (.int .i64 k1)] a ∧ Sep w0 B w (fs) ∧ ((gameroomref_KeepMay_J2 n1 sides1 k1)).bind some = some r) ?_ ?_
    · rintro a w ⟨hF, hS, hm⟩
      unfold gameroomref_KeepMay_J2 at hm
      refine seq_cut (fun a w => Fr 23 [] a ∧ Sep w0 B w (fs) ∧ (gameroomref_KeepMay_J3).bind some = some r) ?_ ?_
      · rintro a w ⟨hF, hS, hm⟩
        unfold gameroomref_KeepMay_J3 at hm
        refine reg [] [] [6] [pl 6 (.int .i64 0)] hF hS Fol (by kernel_rfl) (by kernel_rfl) (by kernel_rfl) ?_ (fun a w hF hS => ?_)
        · exact obs_nil
        refine wp_ret ?_
        have hm : some 0 = some r := hm
        obtain rfl := Option.some.inj hm
        exact retV (rs := [.tmp 6]) (vs := [.int .i64 0]) hF rfl (rv_t (by kernel_rfl) <| rv_nil) rfl ⟨rfl, hS⟩
      · obtain ⟨r3, hr3, hm⟩ := call_b hm
        obtain ⟨r4, hr4, hm⟩ := call_b hm
        refine reg [⟨false, [], callFunc 60 #[.int .i64 k1, .int .i64 1, .int .i64 n1], .bool r3⟩, ⟨false, [(!r3, false)], callFunc 58 #[.int .i64 sides1, .int .i64 n1], .int .i64 r4⟩] [none, none, some (.bool r3), none, none, none, none, some (.int .i64 r4), none, none] [22] [pl 22 (.bool ((!r3) || (r4 == 0)))] hF hS Fol (by kernel_rfl) (by kernel_rfl) (by kernel_rfl) ?_ (fun a w hF hS => ?_)
        · exact obs_cons (ob_call Try.func60 (by kernel_rfl) rfl (fun _ _ hS => gameroomref_within_w hr3 hS )) <| obs_cons (ob_call Try.func58 (by kernel_rfl) rfl (fun hy _ hS => gameroomref_allWays_w (ite_some hr4 (by rw [show (!r3) = false from hy (!r3, false) (by simp)]; try rfl)) hS )) <| obs_nil
        refine cond_ev (t := 22) (b := (!r3) || (r4 == 0)) hF (by kernel_rfl) (fun hb => ?_) (fun hb => ?_)
        · replace hm := if_t hm hb
          refine reg [] [] [6] [pl 6 (.int .i64 11)] hF hS Fol (by kernel_rfl) (by kernel_rfl) (by kernel_rfl) ?_ (fun a w hF hS => ?_)
          · exact obs_nil
          refine wp_ret ?_
          refine then_r ?_
          have hm : some 11 = some r := hm
          obtain rfl := Option.some.inj hm
          exact retV (rs := [.tmp 6]) (vs := [.int .i64 11]) hF rfl (rv_t (by kernel_rfl) <| rv_nil) rfl ⟨rfl, hS⟩
        · replace hm := if_f hm hb
          refine wp_skip ?_
          refine then_n ?_
          exact ⟨hF.weak [] (by kernel_rfl), hS, hm⟩
    · obtain ⟨r2, hr2, hm⟩ := call_b hm
      refine reg [⟨false, [], callFunc 60 #[.int .i64 sides1, .int .i64 1, .int .i64 20], .bool r2⟩] [none, some (.bool r2), none] [0, 1, 2, 12] [pl 0 (.int .i64 n1), pl 1 (.int .i64 sides1), pl 2 (.int .i64 k1), pl 12 (.bool (!r2))] hF hS Fol (by kernel_rfl) (by kernel_rfl) (by kernel_rfl) ?_ (fun a w hF hS => ?_)
      · exact obs_cons (ob_call Try.func60 (by kernel_rfl) rfl (fun _ _ hS => gameroomref_within_w hr2 hS )) <| obs_nil
      refine cond_ev (t := 12) (b := !r2) hF (by kernel_rfl) (fun hb => ?_) (fun hb => ?_)
      · replace hm := if_t hm hb
        refine reg [] [] [6] [pl 6 (.int .i64 3)] hF hS Fol (by kernel_rfl) (by kernel_rfl) (by kernel_rfl) ?_ (fun a w hF hS => ?_)
        · exact obs_nil
        refine wp_ret ?_
        refine then_r ?_
        have hm : some 3 = some r := hm
        obtain rfl := Option.some.inj hm
        exact retV (rs := [.tmp 6]) (vs := [.int .i64 3]) hF rfl (rv_t (by kernel_rfl) <| rv_nil) rfl ⟨rfl, hS⟩
      · replace hm := if_f hm hb
        refine wp_skip ?_
        refine then_n ?_
        exact ⟨hF.weak [0, 1, 2] (by kernel_rfl), hS, hm⟩
  · obtain ⟨r1, hr1, hm⟩ := call_b hm
    refine reg [⟨false, [], callFunc 60 #[.int .i64 n1, .int .i64 1, .int .i64 10], .bool r1⟩] [none, some (.bool r1), none] [0, 1, 2, 9] [pl 0 (.int .i64 n1), pl 1 (.int .i64 sides1), pl 2 (.int .i64 k1), pl 9 (.bool (!r1))] hF hS Fol (by kernel_rfl) (by kernel_rfl) (by kernel_rfl) ?_ (fun a w hF hS => ?_)
    · exact obs_cons (ob_call Try.func60 (by kernel_rfl) rfl (fun _ _ hS => gameroomref_within_w hr1 hS )) <| obs_nil
    refine cond_ev (t := 9) (b := !r1) hF (by kernel_rfl) (fun hb => ?_) (fun hb => ?_)
    · replace hm := if_t hm hb
      refine reg [] [] [6] [pl 6 (.int .i64 2)] hF hS Fol (by kernel_rfl) (by kernel_rfl) (by kernel_rfl) ?_ (fun a w hF hS => ?_)
      · exact obs_nil
      refine wp_ret ?_
      refine then_r ?_
      have hm : some 2 = some r := hm
      obtain rfl := Option.some.inj hm
      exact retV (rs := [.tmp 6]) (vs := [.int .i64 2]) hF rfl (rv_t (by kernel_rfl) <| rv_nil) rfl ⟨rfl, hS⟩
    · replace hm := if_f hm hb
      refine wp_skip ?_
      refine then_n ?_
      exact ⟨hF.weak [0, 1, 2] (by kernel_rfl), hS, hm⟩

noncomputable def gameroomref_KeepWays_J6 (sides1 : Int) (x1 : Int) (shown1 : List Int) (i1 : Int) : Option (St (Int × List Int × Int) (List Int)) :=
  some (.next ((w64 (Int.tdiv x1 sides1)), (shown1.set (Int.toNat (w64 ((Int.tmod x1 sides1) + 1))) (w64 ((geti shown1 (w64 ((Int.tmod x1 sides1) + 1))) + 1))), (w64 (i1 + 1))))

noncomputable def gameroomref_KeepWays_J5 (sides1 : Int) (x1 : Int) (shown1 : List Int) (i1 : Int) : Option (St (Int × List Int × Int) (List Int)) :=
  asrt (sides1 ≠ (0 : Int)) <| asrt (0 ≤ (w64 ((Int.tmod x1 sides1) + 1)) ∧ (w64 ((Int.tmod x1 sides1) + 1)) < (((Int.toNat (w64 (sides1 + 1))) : Nat) : Int)) <| asrt (0 ≤ (w64 ((Int.tmod x1 sides1) + 1)) ∧ (w64 ((Int.tmod x1 sides1) + 1)) < (((Int.toNat (w64 (sides1 + 1))) : Nat) : Int)) <| asrt (sides1 ≠ (0 : Int)) <| (gameroomref_KeepWays_J6 sides1 x1 shown1 i1)

noncomputable def gameroomref_KeepWays_J11 (s1 : Int) (sum3 : Int) (left2 : Int) (i2 : Int) : Option (St (Int × Int × Int) (Int × Int)) :=
  some (.next ((w64 (sum3 + s1)), (w64 (left2 - 1)), (w64 (i2 + 1))))

noncomputable def gameroomref_KeepWays_J10 (s1 : Int) (sum3 : Int) (left2 : Int) (i2 : Int) : Option (St (Int × Int × Int) (Int × Int)) :=
  (gameroomref_KeepWays_J11 s1 sum3 left2 i2)

noncomputable def gameroomref_KeepWays_L4 (sides1 : Int) (shown2 : List Int) (s1 : Int) : (Int × Int × Int) → Option (St (Int × Int × Int) (Int × Int)) :=
  fun (x : (Int × Int × Int)) => match x with | (sum3, left2, i2) => asrt (0 ≤ s1 ∧ s1 < (((Int.toNat (w64 (sides1 + 1))) : Nat) : Int)) <| if ((decide (i2 < (geti shown2 s1))) && (decide ((0 : Int) < left2))) then ((gameroomref_KeepWays_J10 s1 sum3 left2 i2)) else (some (.done (sum3, left2)))

noncomputable def gameroomref_KeepWays_J9 (s1 : Int) (sum4 : Int) (left3 : Int) : Option (St (Int × Int × Int) Int) :=
  some (.next (sum4, left3, (w64 (s1 - 1))))

noncomputable def gameroomref_KeepWays_K4 (s1 : Int) : (Int × Int) → Option (St (Int × Int × Int) Int) :=
  fun (x : (Int × Int)) => match x with | (sum4, left3) => (gameroomref_KeepWays_J9 s1) sum4 left3

noncomputable def gameroomref_KeepWays_J8 (sides1 : Int) (shown2 : List Int) (sum1 : Int) (left1 : Int) (s1 : Int) : Option (St (Int × Int × Int) Int) :=
  (loop (gameroomref_KeepWays_L4 sides1 shown2 s1) (sum1, left1, 0)).bind (gameroomref_KeepWays_K4 s1)

noncomputable def gameroomref_KeepWays_L3 (sides1 : Int) (shown2 : List Int) : (Int × Int × Int) → Option (St (Int × Int × Int) Int) :=
  fun (x : (Int × Int × Int)) => match x with | (sum1, left1, s1) => if (decide ((0 : Int) < s1)) then ((gameroomref_KeepWays_J8 sides1 shown2 sum1 left1 s1)) else (some (.done sum1))

noncomputable def gameroomref_KeepWays_J3 (w1 : Int) (out3 : List Int) : Option (St (List Int × Int) (List Int)) :=
  some (.next (out3, (w64 (w1 + 1))))

noncomputable def gameroomref_KeepWays_J7 (sides1 : Int) (k1 : Int) (out1 : List Int) (w1 : Int) (sum2 : Int) : Option (St (List Int × Int) (List Int)) :=
  asrt (0 ≤ (w64 (sum2 - k1)) ∧ (w64 (sum2 - k1)) < (((Int.toNat (w64 ((w64 ((w64 (k1 * sides1)) - k1)) + 1))) : Nat) : Int)) <| asrt (0 ≤ (w64 (sum2 - k1)) ∧ (w64 (sum2 - k1)) < (((Int.toNat (w64 ((w64 ((w64 (k1 * sides1)) - k1)) + 1))) : Nat) : Int)) <| (gameroomref_KeepWays_J3 w1) (out1.set (Int.toNat (w64 (sum2 - k1))) (w64 ((geti out1 (w64 (sum2 - k1))) + 1)))

noncomputable def gameroomref_KeepWays_K3 (sides1 : Int) (k1 : Int) (out1 : List Int) (w1 : Int) : Int → Option (St (List Int × Int) (List Int)) :=
  fun (x : Int) => match x with | sum2 => (gameroomref_KeepWays_J7 sides1 k1 out1 w1) sum2

noncomputable def gameroomref_KeepWays_J4 (sides1 : Int) (k1 : Int) (out1 : List Int) (w1 : Int) (shown2 : List Int) : Option (St (List Int × Int) (List Int)) :=
  (loop (gameroomref_KeepWays_L3 sides1 shown2) (0, k1, sides1)).bind (gameroomref_KeepWays_K3 sides1 k1 out1 w1)

noncomputable def gameroomref_KeepWays_K2 (sides1 : Int) (k1 : Int) (out1 : List Int) (w1 : Int) : (List Int) → Option (St (List Int × Int) (List Int)) :=
  fun (x : (List Int)) => match x with | shown2 => (gameroomref_KeepWays_J4 sides1 k1 out1 w1) shown2

noncomputable def gameroomref_KeepWays_L2 (n1 : Int) (sides1 : Int) : (Int × List Int × Int) → Option (St (Int × List Int × Int) (List Int)) :=
  fun (x : (Int × List Int × Int)) => match x with | (x1, shown1, i1) => if (decide (i1 < n1)) then ((gameroomref_KeepWays_J5 sides1 x1 shown1 i1)) else (some (.done shown1))

noncomputable def gameroomref_KeepWays_J2 (n1 : Int) (sides1 : Int) (k1 : Int) (out1 : List Int) (w1 : Int) : Option (St (List Int × Int) (List Int)) :=
  asrt ((0 : Int) ≤ (w64 (sides1 + 1)) ∧ (w64 (sides1 + 1)) ≤ bigN) <| (loop (gameroomref_KeepWays_L2 n1 sides1) (w1, (List.replicate (Int.toNat (w64 (sides1 + 1))) (0 : Int)), 0)).bind (gameroomref_KeepWays_K2 sides1 k1 out1 w1)

noncomputable def gameroomref_KeepWays_J1 (out2 : List Int) : Option (List Int) :=
  some out2

noncomputable def gameroomref_KeepWays_K1 : (List Int) → Option (List Int) :=
  fun (x : (List Int)) => match x with | out2 => gameroomref_KeepWays_J1 out2

noncomputable def gameroomref_KeepWays_L1 (n1 : Int) (sides1 : Int) (k1 : Int) (r1 : Int) : (List Int × Int) → Option (St (List Int × Int) (List Int)) :=
  fun (x : (List Int × Int)) => match x with | (out1, w1) => if (decide (w1 < r1)) then ((gameroomref_KeepWays_J2 n1 sides1 k1 out1 w1)) else (some (.done out1))

noncomputable def gameroomref_KeepWays_m (n1 : Int) (sides1 : Int) (k1 : Int) : Option (List Int) :=
  asrt ((0 : Int) ≤ (w64 ((w64 ((w64 (k1 * sides1)) - k1)) + 1)) ∧ (w64 ((w64 ((w64 (k1 * sides1)) - k1)) + 1)) ≤ bigN) <| (gameroomref_allWays_m sides1 n1).bind fun r1 => (loop (gameroomref_KeepWays_L1 n1 sides1 k1 r1) ((List.replicate (Int.toNat (w64 ((w64 ((w64 (k1 * sides1)) - k1)) + 1))) (0 : Int)), 0)).bind gameroomref_KeepWays_K1

set_option maxRecDepth 100000 in
set_option maxHeartbeats 4000000 in
theorem gameroomref_KeepWays_w {n1 : Int} {sides1 : Int} {k1 : Int} {r : (List Int)} {w0 w : World} {B : Nat} {fs : List HP} (hm : gameroomref_KeepWays_m n1 sides1 k1 = some r) (hS : Sep w0 B w (fs)) :
    Calls Try.prog 24 #[.int .i64 n1, .int .i64 sides1, .int .i64 k1] w fun e w' => ∃ v, e = .returned v ∧ ∃ (A3 : Option Addr) (c3 : Nat), v = .slice A3 r.length c3 ∧ Sep w0 B w' (own 3 (.slice A3 r.length c3) (vI r) :: fs) := by
  obtain ⟨i3, hi3, hz3, hs3, hb3⟩ := info_parts Info3
  unfold gameroomref_KeepWays_m at hm
  replace hm := start_b hm
  refine enter (l := [.int .i64 n1, .int .i64 sides1, .int .i64 k1]) (n := 85) Try.func24 rfl rfl (by simp) (fun a hF => ?_)
  refine reg [] [] [0, 1, 2] [pl 0 (.int .i64 n1), pl 1 (.int .i64 sides1), pl 2 (.int .i64 k1)] hF hS Fol (by kernel_rfl) (by kernel_rfl) (by kernel_rfl) ?_ (fun a w hF hS => ?_)
  · exact obs_nil
  refine seqR ?_
  obtain ⟨hp1, hm⟩ := asrt_b hm
  refine at_run 6 [] [] [0, 1, 2, 22] [pl 0 (.int .i64 n1), pl 1 (.int .i64 sides1), pl 2 (.int .i64 k1), pl 22 (.int .i64 (w64 ((w64 ((w64 (k1 * sides1)) - k1)) + 1)))] hF hS (by kernel_rfl) (by kernel_rfl) ?_ (fun a w hF hS => ?_)
  · exact obs_nil
  obtain ⟨A1, c1, w, hrun, hS⟩ := run_mk1 (P := Try.prog) (t := 22) (Value.int .i64) (0 : Int) hS .i64 .i64 Und22 hi3 hz3 hs3 (by omega) rfl hp1
  have hS : Sep w0 B w (own 3 (.slice A1 (Int.toNat (w64 ((w64 ((w64 (k1 * sides1)) - k1)) + 1))) c1) (vI (List.replicate (Int.toNat (w64 ((w64 ((w64 (k1 * sides1)) - k1)) + 1))) (0 : Int))) :: fs) := hS
  refine at_do (d := 23) hF (by kernel_rfl) (by kernel_rfl) hrun (fun a hF => ?_)
  refine at_run 1 [] [] [0, 1, 2, 7] [pl 0 (.int .i64 n1), pl 1 (.int .i64 sides1), pl 2 (.int .i64 k1), pl 7 (.slice A1 (Int.toNat (w64 ((w64 ((w64 (k1 * sides1)) - k1)) + 1))) c1)] hF hS (by kernel_rfl) (by kernel_rfl) ?_ (fun a w hF hS => ?_)
  · exact obs_nil
  refine at_end [0, 1, 2, 7] [pl 0 (.int .i64 n1), pl 1 (.int .i64 sides1), pl 2 (.int .i64 k1), pl 7 (.slice A1 (Int.toNat (w64 ((w64 ((w64 (k1 * sides1)) - k1)) + 1))) c1)] hF rfl (by kernel_rfl) (fun hF => ?_)
  refine then_n ?_
  obtain ⟨r1, hr1, hm⟩ := call_b hm
  refine reg [⟨false, [], callFunc 58 #[.int .i64 sides1, .int .i64 n1], .int .i64 r1⟩] [none, none, some (.int .i64 r1), none] [0, 1, 2, 7, 8] [pl 0 (.int .i64 n1), pl 1 (.int .i64 sides1), pl 2 (.int .i64 k1), pl 7 (.slice A1 (Int.toNat (w64 ((w64 ((w64 (k1 * sides1)) - k1)) + 1))) c1), pl 8 (.int .i64 r1)] hF hS Fol (by kernel_rfl) (by kernel_rfl) (by kernel_rfl) ?_ (fun a w hF hS => ?_)
  · exact obs_cons (ob_call Try.func58 (by kernel_rfl) rfl (fun _ _ hS => gameroomref_allWays_w hr1 hS )) <| obs_nil
  refine seq_cut (fun a w => ∃ (out2 : List Int), Fr 85 [pl 7 (.slice A1 (Int.toNat (w64 ((w64 ((w64 (k1 * sides1)) - k1)) + 1))) c1)] a ∧ Sep w0 B w (own 3 (.slice A1 (Int.toNat (w64 ((w64 ((w64 (k1 * sides1)) - k1)) + 1))) c1) (vI out2) :: fs) ∧ (gameroomref_KeepWays_J1 out2).bind some = some r) ?_ ?_
  · rintro a w ⟨out2, hF, hS, hm⟩
    unfold gameroomref_KeepWays_J1 at hm
    refine reg [] [] [6] [pl 6 (.slice A1 (Int.toNat (w64 ((w64 ((w64 (k1 * sides1)) - k1)) + 1))) c1)] hF hS Fol (by kernel_rfl) (by kernel_rfl) (by kernel_rfl) ?_ (fun a w hF hS => ?_)
    · exact obs_nil
    refine wp_ret ?_
    have hl1 := (hS.at_ 0 rfl).len1
    have hS := (hS.at_ 0 rfl).reN hl1
    have hS : Sep w0 B w (own 3 (.slice A1 out2.length c1) (vI out2) :: fs) := hS
    have hF := hF.cast (t := 6) (v := .slice A1 (Int.toNat (w64 ((w64 ((w64 (k1 * sides1)) - k1)) + 1))) c1) (v' := .slice A1 out2.length c1) rfl rfl (congrArg (fun k => Value.slice A1 k c1) hl1)
    have hm : some out2 = some r := hm
    obtain rfl := Option.some.inj hm
    exact retV (rs := [.tmp 6]) (vs := [.slice A1 out2.length c1]) hF rfl (rv_t (by kernel_rfl) <| rv_nil) rfl ⟨_, rfl, A1, c1, rfl, hS⟩
  · refine reg [] [] [0, 1, 2, 7, 8, 9] [pl 0 (.int .i64 n1), pl 1 (.int .i64 sides1), pl 2 (.int .i64 k1), pl 7 (.slice A1 (Int.toNat (w64 ((w64 ((w64 (k1 * sides1)) - k1)) + 1))) c1), pl 8 (.int .i64 r1), pl 9 (.int .i64 0)] hF hS Fol (by kernel_rfl) (by kernel_rfl) (by kernel_rfl) ?_ (fun a w hF hS => ?_)
    · exact obs_nil
    refine wp_block ?_
    refine wp_loop_model (S := (List Int × Int)) (R := (List Int)) (gameroomref_KeepWays_L1 n1 sides1 k1 r1) (fun x => (gameroomref_KeepWays_K1 x).bind some) r (fun (x : (List Int × Int)) a w => Fr 85 [pl 0 (.int .i64 n1), pl 1 (.int .i64 sides1), pl 2 (.int .i64 k1), pl 7 (.slice A1 (Int.toNat (w64 ((w64 ((w64 (k1 * sides1)) - k1)) + 1))) c1), pl 8 (.int .i64 r1), pl 9 (.int .i64 x.2)] a ∧ Sep w0 B w (own 3 (.slice A1 (Int.toNat (w64 ((w64 ((w64 (k1 * sides1)) - k1)) + 1))) c1) (vI x.1) :: fs)) (assoc_b hm) ⟨hF.weak [0, 1, 2, 7, 8, 9] (by kernel_rfl), hS⟩ ?_
    clear hF hS hm
    rintro nn1 ⟨out1, w1⟩ a w ⟨hF, hS⟩ hm
    generalize hφ1 : stK (gameroomref_KeepWays_L1 n1 sides1 k1 r1) nn1 (fun x => (gameroomref_KeepWays_K1 x).bind some) = φ1 at hm
    unfold gameroomref_KeepWays_L1 at hm
    dsimp only at hF hS hm
    refine seq_cut (fun a w => Fr 85 [pl 0 (.int .i64 n1), pl 1 (.int .i64 sides1), pl 2 (.int .i64 k1), pl 7 (.slice A1 (Int.toNat (w64 ((w64 ((w64 (k1 * sides1)) - k1)) + 1))) c1), pl 8 (.int .i64 r1), pl 9 (.int .i64 w1)] a ∧ Sep w0 B w (own 3 (.slice A1 (Int.toNat (w64 ((w64 ((w64 (k1 * sides1)) - k1)) + 1))) c1) (vI out1) :: fs) ∧ ((gameroomref_KeepWays_J2 n1 sides1 k1 out1 w1)).bind φ1 = some r) ?_ ?_
    · rintro a w ⟨hF, hS, hm⟩
      unfold gameroomref_KeepWays_J2 at hm
      refine seq_cut (fun a w => ∃ (out3 : List Int), Fr 85 [pl 0 (.int .i64 n1), pl 1 (.int .i64 sides1), pl 2 (.int .i64 k1), pl 7 (.slice A1 (Int.toNat (w64 ((w64 ((w64 (k1 * sides1)) - k1)) + 1))) c1), pl 8 (.int .i64 r1), pl 9 (.int .i64 w1)] a ∧ Sep w0 B w (own 3 (.slice A1 (Int.toNat (w64 ((w64 ((w64 (k1 * sides1)) - k1)) + 1))) c1) (vI out3) :: fs) ∧ ((gameroomref_KeepWays_J3 w1) out3).bind φ1 = some r) ?_ ?_
      · rintro a w ⟨out3, hF, hS, hm⟩
        unfold gameroomref_KeepWays_J3 at hm
        refine reg1 [] [] [0, 1, 2, 7, 8, 9] [pl 0 (.int .i64 n1), pl 1 (.int .i64 sides1), pl 2 (.int .i64 k1), pl 7 (.slice A1 (Int.toNat (w64 ((w64 ((w64 (k1 * sides1)) - k1)) + 1))) c1), pl 8 (.int .i64 r1), pl 9 (.int .i64 (w64 (w1 + 1)))] hF hS Fol (by kernel_rfl) (by kernel_rfl) (by kernel_rfl) ?_ (fun a w hF hS => ?_)
        · exact obs_nil
        refine then_n ?_
        rw [← hφ1] at hm
        exact ⟨(out3, (w64 (w1 + 1))), ⟨hF.weak [0, 1, 2, 7, 8, 9] (by kernel_rfl), hS⟩, hm⟩
      · refine wp_block ?_
        refine reg [] [] [0, 1, 2, 7, 8, 9, 10] [pl 0 (.int .i64 n1), pl 1 (.int .i64 sides1), pl 2 (.int .i64 k1), pl 7 (.slice A1 (Int.toNat (w64 ((w64 ((w64 (k1 * sides1)) - k1)) + 1))) c1), pl 8 (.int .i64 r1), pl 9 (.int .i64 w1), pl 10 (.int .i64 w1)] hF hS Fol (by kernel_rfl) (by kernel_rfl) (by kernel_rfl) ?_ (fun a w hF hS => ?_)
        · exact obs_nil
        refine seqR ?_
        obtain ⟨hp2, hm⟩ := asrt_b hm
        refine at_run 2 [] [] [0, 1, 2, 7, 8, 9, 10, 34] [pl 0 (.int .i64 n1), pl 1 (.int .i64 sides1), pl 2 (.int .i64 k1), pl 7 (.slice A1 (Int.toNat (w64 ((w64 ((w64 (k1 * sides1)) - k1)) + 1))) c1), pl 8 (.int .i64 r1), pl 9 (.int .i64 w1), pl 10 (.int .i64 w1), pl 34 (.int .i64 (w64 (sides1 + 1)))] hF hS (by kernel_rfl) (by kernel_rfl) ?_ (fun a w hF hS => ?_)
        · exact obs_nil
        obtain ⟨A2, c2, w, hrun, hS⟩ := run_mk1 (P := Try.prog) (t := 22) (Value.int .i64) (0 : Int) hS .i64 .i64 Und22 hi3 hz3 hs3 (by omega) rfl hp2
        have hS : Sep w0 B w (own 3 (.slice A2 (Int.toNat (w64 (sides1 + 1))) c2) (vI (List.replicate (Int.toNat (w64 (sides1 + 1))) (0 : Int))) :: own 3 (.slice A1 (Int.toNat (w64 ((w64 ((w64 (k1 * sides1)) - k1)) + 1))) c1) (vI out1) :: fs) := hS
        refine at_do (d := 35) hF (by kernel_rfl) (by kernel_rfl) hrun (fun a hF => ?_)
        refine at_run 1 [] [] [0, 1, 2, 7, 8, 9, 10, 11] [pl 0 (.int .i64 n1), pl 1 (.int .i64 sides1), pl 2 (.int .i64 k1), pl 7 (.slice A1 (Int.toNat (w64 ((w64 ((w64 (k1 * sides1)) - k1)) + 1))) c1), pl 8 (.int .i64 r1), pl 9 (.int .i64 w1), pl 10 (.int .i64 w1), pl 11 (.slice A2 (Int.toNat (w64 (sides1 + 1))) c2)] hF hS (by kernel_rfl) (by kernel_rfl) ?_ (fun a w hF hS => ?_)
        · exact obs_nil
        refine at_end [0, 1, 2, 7, 8, 9, 10, 11] [pl 0 (.int .i64 n1), pl 1 (.int .i64 sides1), pl 2 (.int .i64 k1), pl 7 (.slice A1 (Int.toNat (w64 ((w64 ((w64 (k1 * sides1)) - k1)) + 1))) c1), pl 8 (.int .i64 r1), pl 9 (.int .i64 w1), pl 10 (.int .i64 w1), pl 11 (.slice A2 (Int.toNat (w64 (sides1 + 1))) c2)] hF rfl (by kernel_rfl) (fun hF => ?_)
        refine then_n ?_
        refine seq_cut (fun a w => ∃ (shown2 : List Int), Fr 85 [pl 0 (.int .i64 n1), pl 1 (.int .i64 sides1), pl 2 (.int .i64 k1), pl 7 (.slice A1 (Int.toNat (w64 ((w64 ((w64 (k1 * sides1)) - k1)) + 1))) c1), pl 8 (.int .i64 r1), pl 9 (.int .i64 w1), pl 11 (.slice A2 (Int.toNat (w64 (sides1 + 1))) c2)] a ∧ Sep w0 B w (own 3 (.slice A1 (Int.toNat (w64 ((w64 ((w64 (k1 * sides1)) - k1)) + 1))) c1) (vI out1) :: own 3 (.slice A2 (Int.toNat (w64 (sides1 + 1))) c2) (vI shown2) :: fs) ∧ ((gameroomref_KeepWays_J4 sides1 k1 out1 w1) shown2).bind φ1 = some r) ?_ ?_
        · rintro a w ⟨shown2, hF, hS, hm⟩
          unfold gameroomref_KeepWays_J4 at hm
          refine reg [] [] [0, 1, 2, 7, 8, 9, 11, 13, 14] [pl 0 (.int .i64 n1), pl 1 (.int .i64 sides1), pl 2 (.int .i64 k1), pl 7 (.slice A1 (Int.toNat (w64 ((w64 ((w64 (k1 * sides1)) - k1)) + 1))) c1), pl 8 (.int .i64 r1), pl 9 (.int .i64 w1), pl 11 (.slice A2 (Int.toNat (w64 (sides1 + 1))) c2), pl 13 (.int .i64 0), pl 14 (.int .i64 k1)] hF hS Fol (by kernel_rfl) (by kernel_rfl) (by kernel_rfl) ?_ (fun a w hF hS => ?_)
          · exact obs_nil
          refine seq_cut (fun a w => ∃ (sum2 : Int), Fr 85 [pl 0 (.int .i64 n1), pl 1 (.int .i64 sides1), pl 2 (.int .i64 k1), pl 7 (.slice A1 (Int.toNat (w64 ((w64 ((w64 (k1 * sides1)) - k1)) + 1))) c1), pl 8 (.int .i64 r1), pl 9 (.int .i64 w1), pl 13 (.int .i64 sum2)] a ∧ Sep w0 B w (own 3 (.slice A1 (Int.toNat (w64 ((w64 ((w64 (k1 * sides1)) - k1)) + 1))) c1) (vI out1) :: fs) ∧ ((gameroomref_KeepWays_J7 sides1 k1 out1 w1) sum2).bind φ1 = some r) ?_ ?_
          · rintro a w ⟨sum2, hF, hS, hm⟩
            unfold gameroomref_KeepWays_J7 at hm
            refine oneR ?_
            obtain ⟨hp8, hm⟩ := asrt_b hm
            obtain ⟨hp9, hm⟩ := asrt_b hm
            refine at_run 8 [⟨true, [], vS (Instr.indexAt 22 (.slice A1 (Int.toNat (w64 ((w64 ((w64 (k1 * sides1)) - k1)) + 1))) c1) (.int .i64 (w64 (sum2 - k1)))), .pointer (some (sAddr A1 (w64 (sum2 - k1))))⟩, ⟨false, [], vS (Instr.loadAt 3 (.pointer (some (sAddr A1 (w64 (sum2 - k1)))))), .int .i64 (geti out1 (w64 (sum2 - k1)))⟩, ⟨true, [], vS (Instr.indexAt 22 (.slice A1 (Int.toNat (w64 ((w64 ((w64 (k1 * sides1)) - k1)) + 1))) c1) (.int .i64 (w64 (sum2 - k1)))), .pointer (some (sAddr A1 (w64 (sum2 - k1))))⟩] [none, none, none, none, some (.pointer (some (sAddr A1 (w64 (sum2 - k1))))), some (.int .i64 (geti out1 (w64 (sum2 - k1)))), none, some (.pointer (some (sAddr A1 (w64 (sum2 - k1)))))] [0, 1, 2, 7, 8, 9, 82, 83] [pl 0 (.int .i64 n1), pl 1 (.int .i64 sides1), pl 2 (.int .i64 k1), pl 7 (.slice A1 (Int.toNat (w64 ((w64 ((w64 (k1 * sides1)) - k1)) + 1))) c1), pl 8 (.int .i64 r1), pl 9 (.int .i64 w1), pl 82 (.int .i64 (w64 ((geti out1 (w64 (sum2 - k1))) + 1))), pl 83 (.pointer (some (sAddr A1 (w64 (sum2 - k1)))))] hF hS (by kernel_rfl) (by kernel_rfl) ?_ (fun a w hF hS => ?_)
            · exact obs_cons (ob_ix1 (f := (Value.int .i64)) (m := out1) Und22 hi3 hs3 (hS.at_ 0 rfl).rd ((hS.at_ 0 rfl).len1) (fun _ => hp8)) <| obs_cons (ob_get1 (n := (Int.toNat (w64 ((w64 ((w64 (k1 * sides1)) - k1)) + 1)))) (m := out1) (Value.int .i64) (0 : Int) Agg3 (fun _ hS => ⟨_, (hS.at_ 0 rfl).rd⟩) (fun _ hS => ((hS.at_ 0 rfl).len1)) (fun _ => hp8)) <| obs_cons (ob_ix1 (f := (Value.int .i64)) (m := out1) Und22 hi3 hs3 (hS.at_ 0 rfl).rd ((hS.at_ 0 rfl).len1) (fun _ => hp9)) <| obs_nil
            obtain ⟨w, hrun, hS⟩ := run_set1 (P := Try.prog) (t := 3) (x := (w64 ((geti out1 (w64 (sum2 - k1))) + 1))) (Value.int .i64) (hS.at_ 0 rfl) hi3 hs3 rfl rfl hp9
            refine at_skip hF (by kernel_rfl) hrun ?_
            have hS : Sep w0 B w (own 3 (.slice A1 (Int.toNat (w64 ((w64 ((w64 (k1 * sides1)) - k1)) + 1))) c1) (vI (out1.set (Int.toNat (w64 (sum2 - k1))) (w64 ((geti out1 (w64 (sum2 - k1))) + 1)))) :: fs) := hS
            refine at_end [0, 1, 2, 7, 8, 9] [pl 0 (.int .i64 n1), pl 1 (.int .i64 sides1), pl 2 (.int .i64 k1), pl 7 (.slice A1 (Int.toNat (w64 ((w64 ((w64 (k1 * sides1)) - k1)) + 1))) c1), pl 8 (.int .i64 r1), pl 9 (.int .i64 w1)] hF rfl (by kernel_rfl) (fun hF => ?_)
            refine block_n ?_
            refine then_n ?_
            exact ⟨(out1.set (Int.toNat (w64 (sum2 - k1))) (w64 ((geti out1 (w64 (sum2 - k1))) + 1))), hF.weak [0, 1, 2, 7, 8, 9] (by kernel_rfl), hS, hm⟩
          · refine reg [] [] [0, 1, 2, 7, 8, 9, 11, 13, 14, 15] [pl 0 (.int .i64 n1), pl 1 (.int .i64 sides1), pl 2 (.int .i64 k1), pl 7 (.slice A1 (Int.toNat (w64 ((w64 ((w64 (k1 * sides1)) - k1)) + 1))) c1), pl 8 (.int .i64 r1), pl 9 (.int .i64 w1), pl 11 (.slice A2 (Int.toNat (w64 (sides1 + 1))) c2), pl 13 (.int .i64 0), pl 14 (.int .i64 k1), pl 15 (.int .i64 sides1)] hF hS Fol (by kernel_rfl) (by kernel_rfl) (by kernel_rfl) ?_ (fun a w hF hS => ?_)
            · exact obs_nil
            refine wp_block ?_
            refine wp_loop_model (S := (Int × Int × Int)) (R := Int) (gameroomref_KeepWays_L3 sides1 shown2) (fun x => ((gameroomref_KeepWays_K3 sides1 k1 out1 w1) x).bind φ1) r (fun (x : (Int × Int × Int)) a w => Fr 85 [pl 0 (.int .i64 n1), pl 1 (.int .i64 sides1), pl 2 (.int .i64 k1), pl 7 (.slice A1 (Int.toNat (w64 ((w64 ((w64 (k1 * sides1)) - k1)) + 1))) c1), pl 8 (.int .i64 r1), pl 9 (.int .i64 w1), pl 11 (.slice A2 (Int.toNat (w64 (sides1 + 1))) c2), pl 13 (.int .i64 x.1), pl 14 (.int .i64 x.2.1), pl 15 (.int .i64 x.2.2)] a ∧ Sep w0 B w (own 3 (.slice A1 (Int.toNat (w64 ((w64 ((w64 (k1 * sides1)) - k1)) + 1))) c1) (vI out1) :: own 3 (.slice A2 (Int.toNat (w64 (sides1 + 1))) c2) (vI shown2) :: fs)) (assoc_b hm) ⟨hF.weak [0, 1, 2, 7, 8, 9, 11, 13, 14, 15] (by kernel_rfl), hS⟩ ?_
            clear hF hS hm
            rintro nn3 ⟨sum1, left1, s1⟩ a w ⟨hF, hS⟩ hm
            generalize hφ3 : stK (gameroomref_KeepWays_L3 sides1 shown2) nn3 (fun x => ((gameroomref_KeepWays_K3 sides1 k1 out1 w1) x).bind φ1) = φ3 at hm
            unfold gameroomref_KeepWays_L3 at hm
            dsimp only at hF hS hm
            refine seq_cut (fun a w => Fr 85 [pl 0 (.int .i64 n1), pl 1 (.int .i64 sides1), pl 2 (.int .i64 k1), pl 7 (.slice A1 (Int.toNat (w64 ((w64 ((w64 (k1 * sides1)) - k1)) + 1))) c1), pl 8 (.int .i64 r1), pl 9 (.int .i64 w1), pl 11 (.slice A2 (Int.toNat (w64 (sides1 + 1))) c2), pl 13 (.int .i64 sum1), pl 14 (.int .i64 left1), pl 15 (.int .i64 s1)] a ∧ Sep w0 B w (own 3 (.slice A1 (Int.toNat (w64 ((w64 ((w64 (k1 * sides1)) - k1)) + 1))) c1) (vI out1) :: own 3 (.slice A2 (Int.toNat (w64 (sides1 + 1))) c2) (vI shown2) :: fs) ∧ ((gameroomref_KeepWays_J8 sides1 shown2 sum1 left1 s1)).bind φ3 = some r) ?_ ?_
            · rintro a w ⟨hF, hS, hm⟩
              unfold gameroomref_KeepWays_J8 at hm
              refine seq_cut (fun a w => ∃ (sum4 : Int) (left3 : Int), Fr 85 [pl 0 (.int .i64 n1), pl 1 (.int .i64 sides1), pl 2 (.int .i64 k1), pl 7 (.slice A1 (Int.toNat (w64 ((w64 ((w64 (k1 * sides1)) - k1)) + 1))) c1), pl 8 (.int .i64 r1), pl 9 (.int .i64 w1), pl 11 (.slice A2 (Int.toNat (w64 (sides1 + 1))) c2), pl 13 (.int .i64 sum4), pl 14 (.int .i64 left3), pl 15 (.int .i64 s1)] a ∧ Sep w0 B w (own 3 (.slice A1 (Int.toNat (w64 ((w64 ((w64 (k1 * sides1)) - k1)) + 1))) c1) (vI out1) :: own 3 (.slice A2 (Int.toNat (w64 (sides1 + 1))) c2) (vI shown2) :: fs) ∧ ((gameroomref_KeepWays_J9 s1) sum4 left3).bind φ3 = some r) ?_ ?_
              · rintro a w ⟨sum4, left3, hF, hS, hm⟩
                unfold gameroomref_KeepWays_J9 at hm
                refine reg1 [] [] [0, 1, 2, 7, 8, 9, 11, 13, 14, 15] [pl 0 (.int .i64 n1), pl 1 (.int .i64 sides1), pl 2 (.int .i64 k1), pl 7 (.slice A1 (Int.toNat (w64 ((w64 ((w64 (k1 * sides1)) - k1)) + 1))) c1), pl 8 (.int .i64 r1), pl 9 (.int .i64 w1), pl 11 (.slice A2 (Int.toNat (w64 (sides1 + 1))) c2), pl 13 (.int .i64 sum4), pl 14 (.int .i64 left3), pl 15 (.int .i64 (w64 (s1 - 1)))] hF hS Fol (by kernel_rfl) (by kernel_rfl) (by kernel_rfl) ?_ (fun a w hF hS => ?_)
                · exact obs_nil
                refine then_n ?_
                rw [← hφ3] at hm
                exact ⟨(sum4, left3, (w64 (s1 - 1))), ⟨hF.weak [0, 1, 2, 7, 8, 9, 11, 13, 14, 15] (by kernel_rfl), hS⟩, hm⟩
              · refine wp_block ?_
                refine reg [] [] [0, 1, 2, 7, 8, 9, 11, 13, 14, 15, 16] [pl 0 (.int .i64 n1), pl 1 (.int .i64 sides1), pl 2 (.int .i64 k1), pl 7 (.slice A1 (Int.toNat (w64 ((w64 ((w64 (k1 * sides1)) - k1)) + 1))) c1), pl 8 (.int .i64 r1), pl 9 (.int .i64 w1), pl 11 (.slice A2 (Int.toNat (w64 (sides1 + 1))) c2), pl 13 (.int .i64 sum1), pl 14 (.int .i64 left1), pl 15 (.int .i64 s1), pl 16 (.int .i64 0)] hF hS Fol (by kernel_rfl) (by kernel_rfl) (by kernel_rfl) ?_ (fun a w hF hS => ?_)
                · exact obs_nil
                refine wp_block ?_
                refine wp_loop_model (S := (Int × Int × Int)) (R := (Int × Int)) (gameroomref_KeepWays_L4 sides1 shown2 s1) (fun x => ((gameroomref_KeepWays_K4 s1) x).bind φ3) r (fun (x : (Int × Int × Int)) a w => Fr 85 [pl 0 (.int .i64 n1), pl 1 (.int .i64 sides1), pl 2 (.int .i64 k1), pl 7 (.slice A1 (Int.toNat (w64 ((w64 ((w64 (k1 * sides1)) - k1)) + 1))) c1), pl 8 (.int .i64 r1), pl 9 (.int .i64 w1), pl 11 (.slice A2 (Int.toNat (w64 (sides1 + 1))) c2), pl 13 (.int .i64 x.1), pl 14 (.int .i64 x.2.1), pl 15 (.int .i64 s1), pl 16 (.int .i64 x.2.2)] a ∧ Sep w0 B w (own 3 (.slice A1 (Int.toNat (w64 ((w64 ((w64 (k1 * sides1)) - k1)) + 1))) c1) (vI out1) :: own 3 (.slice A2 (Int.toNat (w64 (sides1 + 1))) c2) (vI shown2) :: fs)) (assoc_b hm) ⟨hF.weak [0, 1, 2, 7, 8, 9, 11, 13, 14, 15, 16] (by kernel_rfl), hS⟩ ?_
                clear hF hS hm
                rintro nn4 ⟨sum3, left2, i2⟩ a w ⟨hF, hS⟩ hm
                generalize hφ4 : stK (gameroomref_KeepWays_L4 sides1 shown2 s1) nn4 (fun x => ((gameroomref_KeepWays_K4 s1) x).bind φ3) = φ4 at hm
                unfold gameroomref_KeepWays_L4 at hm
                dsimp only at hF hS hm
                refine seq_cut (fun a w => Fr 85 [pl 0 (.int .i64 n1), pl 1 (.int .i64 sides1), pl 2 (.int .i64 k1), pl 7 (.slice A1 (Int.toNat (w64 ((w64 ((w64 (k1 * sides1)) - k1)) + 1))) c1), pl 8 (.int .i64 r1), pl 9 (.int .i64 w1), pl 11 (.slice A2 (Int.toNat (w64 (sides1 + 1))) c2), pl 13 (.int .i64 sum3), pl 14 (.int .i64 left2), pl 15 (.int .i64 s1), pl 16 (.int .i64 i2)] a ∧ Sep w0 B w (own 3 (.slice A1 (Int.toNat (w64 ((w64 ((w64 (k1 * sides1)) - k1)) + 1))) c1) (vI out1) :: own 3 (.slice A2 (Int.toNat (w64 (sides1 + 1))) c2) (vI shown2) :: fs) ∧ ((gameroomref_KeepWays_J10 s1 sum3 left2 i2)).bind φ4 = some r) ?_ ?_
                · rintro a w ⟨hF, hS, hm⟩
                  unfold gameroomref_KeepWays_J10 at hm
                  refine seq_cut (fun a w => Fr 85 [pl 0 (.int .i64 n1), pl 1 (.int .i64 sides1), pl 2 (.int .i64 k1), pl 7 (.slice A1 (Int.toNat (w64 ((w64 ((w64 (k1 * sides1)) - k1)) + 1))) c1), pl 8 (.int .i64 r1), pl 9 (.int .i64 w1), pl 11 (.slice A2 (Int.toNat (w64 (sides1 + 1))) c2), pl 13 (.int .i64 (w64 (sum3 + s1))), pl 14 (.int .i64 (w64 (left2 - 1))), pl 15 (.int .i64 s1), pl 16 (.int .i64 i2)] a ∧ Sep w0 B w (own 3 (.slice A1 (Int.toNat (w64 ((w64 ((w64 (k1 * sides1)) - k1)) + 1))) c1) (vI out1) :: own 3 (.slice A2 (Int.toNat (w64 (sides1 + 1))) c2) (vI shown2) :: fs) ∧ ((gameroomref_KeepWays_J11 s1 sum3 left2 i2)).bind φ4 = some r) ?_ ?_
                  · rintro a w ⟨hF, hS, hm⟩
                    unfold gameroomref_KeepWays_J11 at hm
                    refine reg1 [] [] [0, 1, 2, 7, 8, 9, 11, 13, 14, 15, 16] [pl 0 (.int .i64 n1), pl 1 (.int .i64 sides1), pl 2 (.int .i64 k1), pl 7 (.slice A1 (Int.toNat (w64 ((w64 ((w64 (k1 * sides1)) - k1)) + 1))) c1), pl 8 (.int .i64 r1), pl 9 (.int .i64 w1), pl 11 (.slice A2 (Int.toNat (w64 (sides1 + 1))) c2), pl 13 (.int .i64 (w64 (sum3 + s1))), pl 14 (.int .i64 (w64 (left2 - 1))), pl 15 (.int .i64 s1), pl 16 (.int .i64 (w64 (i2 + 1)))] hF hS Fol (by kernel_rfl) (by kernel_rfl) (by kernel_rfl) ?_ (fun a w hF hS => ?_)
                    · exact obs_nil
                    refine then_n ?_
                    rw [← hφ4] at hm
                    exact ⟨((w64 (sum3 + s1)), (w64 (left2 - 1)), (w64 (i2 + 1))), ⟨hF.weak [0, 1, 2, 7, 8, 9, 11, 13, 14, 15, 16] (by kernel_rfl), hS⟩, hm⟩
                  · refine wp_block ?_
                    refine reg [] [] [0, 1, 2, 7, 8, 9, 11, 13, 14, 15, 16] [pl 0 (.int .i64 n1), pl 1 (.int .i64 sides1), pl 2 (.int .i64 k1), pl 7 (.slice A1 (Int.toNat (w64 ((w64 ((w64 (k1 * sides1)) - k1)) + 1))) c1), pl 8 (.int .i64 r1), pl 9 (.int .i64 w1), pl 11 (.slice A2 (Int.toNat (w64 (sides1 + 1))) c2), pl 13 (.int .i64 (w64 (sum3 + s1))), pl 14 (.int .i64 left2), pl 15 (.int .i64 s1), pl 16 (.int .i64 i2)] hF hS Fol (by kernel_rfl) (by kernel_rfl) (by kernel_rfl) ?_ (fun a w hF hS => ?_)
                    · exact obs_nil
                    refine reg1 [] [] [0, 1, 2, 7, 8, 9, 11, 13, 14, 15, 16] [pl 0 (.int .i64 n1), pl 1 (.int .i64 sides1), pl 2 (.int .i64 k1), pl 7 (.slice A1 (Int.toNat (w64 ((w64 ((w64 (k1 * sides1)) - k1)) + 1))) c1), pl 8 (.int .i64 r1), pl 9 (.int .i64 w1), pl 11 (.slice A2 (Int.toNat (w64 (sides1 + 1))) c2), pl 13 (.int .i64 (w64 (sum3 + s1))), pl 14 (.int .i64 (w64 (left2 - 1))), pl 15 (.int .i64 s1), pl 16 (.int .i64 i2)] hF hS Fol (by kernel_rfl) (by kernel_rfl) (by kernel_rfl) ?_ (fun a w hF hS => ?_)
                    · exact obs_nil
                    refine block_n ?_
                    refine then_n ?_
                    exact ⟨hF.weak [0, 1, 2, 7, 8, 9, 11, 13, 14, 15, 16] (by kernel_rfl), hS, hm⟩
                · obtain ⟨hp7, hm⟩ := asrt_b hm
                  refine reg [⟨true, [], vS (Instr.indexAt 22 (.slice A2 (Int.toNat (w64 (sides1 + 1))) c2) (.int .i64 s1)), .pointer (some (sAddr A2 s1))⟩, ⟨false, [], vS (Instr.loadAt 3 (.pointer (some (sAddr A2 s1)))), .int .i64 (geti shown2 s1)⟩] [none, none, none, some (.pointer (some (sAddr A2 s1))), some (.int .i64 (geti shown2 s1)), none, none, none, none, none] [0, 1, 2, 7, 8, 9, 11, 13, 14, 15, 16, 68] [pl 0 (.int .i64 n1), pl 1 (.int .i64 sides1), pl 2 (.int .i64 k1), pl 7 (.slice A1 (Int.toNat (w64 ((w64 ((w64 (k1 * sides1)) - k1)) + 1))) c1), pl 8 (.int .i64 r1), pl 9 (.int .i64 w1), pl 11 (.slice A2 (Int.toNat (w64 (sides1 + 1))) c2), pl 13 (.int .i64 sum3), pl 14 (.int .i64 left2), pl 15 (.int .i64 s1), pl 16 (.int .i64 i2), pl 68 (.bool ((decide (i2 < (geti shown2 s1))) && (decide ((0 : Int) < left2))))] hF hS Fol (by kernel_rfl) (by kernel_rfl) (by kernel_rfl) ?_ (fun a w hF hS => ?_)
                  · exact obs_cons (ob_ix1 (f := (Value.int .i64)) (m := shown2) Und22 hi3 hs3 (hS.at_ 1 rfl).rd ((hS.at_ 1 rfl).len1) (fun _ => hp7)) <| obs_cons (ob_get1 (n := (Int.toNat (w64 (sides1 + 1)))) (m := shown2) (Value.int .i64) (0 : Int) Agg3 (fun _ hS => ⟨_, (hS.at_ 1 rfl).rd⟩) (fun _ hS => ((hS.at_ 1 rfl).len1)) (fun _ => hp7)) <| obs_nil
                  refine cond_ev (t := 68) (b := (decide (i2 < (geti shown2 s1))) && (decide ((0 : Int) < left2))) hF (by kernel_rfl) (fun hb => ?_) (fun hb => ?_)
                  · replace hm := if_t hm hb
                    refine wp_skip ?_
                    refine then_n ?_
                    exact ⟨hF.weak [0, 1, 2, 7, 8, 9, 11, 13, 14, 15, 16] (by kernel_rfl), hS, hm⟩
                  · replace hm := if_f hm hb
                    refine wp_exit ?_
                    refine then_e (then_e (block_e (block_n (then_n ?_))))
                    rw [← hφ4] at hm
                    replace hm := done_b hm
                    unfold gameroomref_KeepWays_K4 at hm
                    try dsimp only at hm
                    have hm : ((gameroomref_KeepWays_J9 s1) sum3 left2).bind φ3 = some r := hm
                    exact ⟨sum3, left2, hF.weak [0, 1, 2, 7, 8, 9, 11, 13, 14, 15] (by kernel_rfl), hS, hm⟩
            · refine reg [] [] [0, 1, 2, 7, 8, 9, 11, 13, 14, 15, 56] [pl 0 (.int .i64 n1), pl 1 (.int .i64 sides1), pl 2 (.int .i64 k1), pl 7 (.slice A1 (Int.toNat (w64 ((w64 ((w64 (k1 * sides1)) - k1)) + 1))) c1), pl 8 (.int .i64 r1), pl 9 (.int .i64 w1), pl 11 (.slice A2 (Int.toNat (w64 (sides1 + 1))) c2), pl 13 (.int .i64 sum1), pl 14 (.int .i64 left1), pl 15 (.int .i64 s1), pl 56 (.bool (decide ((0 : Int) < s1)))] hF hS Fol (by kernel_rfl) (by kernel_rfl) (by kernel_rfl) ?_ (fun a w hF hS => ?_)
              · exact obs_nil
              refine cond_ev (t := 56) (b := decide ((0 : Int) < s1)) hF (by kernel_rfl) (fun hb => ?_) (fun hb => ?_)
              · replace hm := if_t hm hb
                refine wp_skip ?_
                refine then_n ?_
                exact ⟨hF.weak [0, 1, 2, 7, 8, 9, 11, 13, 14, 15] (by kernel_rfl), hS, hm⟩
              · replace hm := if_f hm hb
                refine wp_exit ?_
                refine then_e (then_e (block_e (then_n ?_)))
                have hS := hS.pickN 2 [0] (by decide)
                rw [← hφ3] at hm
                replace hm := done_b hm
                unfold gameroomref_KeepWays_K3 at hm
                try dsimp only at hm
                have hm : ((gameroomref_KeepWays_J7 sides1 k1 out1 w1) sum1).bind φ1 = some r := hm
                exact ⟨sum1, hF.weak [0, 1, 2, 7, 8, 9, 13] (by kernel_rfl), hS, hm⟩
        · refine reg [] [] [0, 1, 2, 7, 8, 9, 10, 11, 12] [pl 0 (.int .i64 n1), pl 1 (.int .i64 sides1), pl 2 (.int .i64 k1), pl 7 (.slice A1 (Int.toNat (w64 ((w64 ((w64 (k1 * sides1)) - k1)) + 1))) c1), pl 8 (.int .i64 r1), pl 9 (.int .i64 w1), pl 10 (.int .i64 w1), pl 11 (.slice A2 (Int.toNat (w64 (sides1 + 1))) c2), pl 12 (.int .i64 0)] hF hS Fol (by kernel_rfl) (by kernel_rfl) (by kernel_rfl) ?_ (fun a w hF hS => ?_)
          · exact obs_nil
          refine wp_block ?_
          have hS := hS.pickN 2 [1, 0] (by decide)
          refine wp_loop_model (S := (Int × List Int × Int)) (R := (List Int)) (gameroomref_KeepWays_L2 n1 sides1) (fun x => ((gameroomref_KeepWays_K2 sides1 k1 out1 w1) x).bind φ1) r (fun (x : (Int × List Int × Int)) a w => Fr 85 [pl 0 (.int .i64 n1), pl 1 (.int .i64 sides1), pl 2 (.int .i64 k1), pl 7 (.slice A1 (Int.toNat (w64 ((w64 ((w64 (k1 * sides1)) - k1)) + 1))) c1), pl 8 (.int .i64 r1), pl 9 (.int .i64 w1), pl 10 (.int .i64 x.1), pl 11 (.slice A2 (Int.toNat (w64 (sides1 + 1))) c2), pl 12 (.int .i64 x.2.2)] a ∧ Sep w0 B w (own 3 (.slice A1 (Int.toNat (w64 ((w64 ((w64 (k1 * sides1)) - k1)) + 1))) c1) (vI out1) :: own 3 (.slice A2 (Int.toNat (w64 (sides1 + 1))) c2) (vI x.2.1) :: fs)) (assoc_b hm) ⟨hF.weak [0, 1, 2, 7, 8, 9, 10, 11, 12] (by kernel_rfl), hS⟩ ?_
          clear hF hS hm
          rintro nn2 ⟨x1, shown1, i1⟩ a w ⟨hF, hS⟩ hm
          generalize hφ2 : stK (gameroomref_KeepWays_L2 n1 sides1) nn2 (fun x => ((gameroomref_KeepWays_K2 sides1 k1 out1 w1) x).bind φ1) = φ2 at hm
          unfold gameroomref_KeepWays_L2 at hm
          dsimp only at hF hS hm
          refine seq_cut (fun a w => Fr 85 [pl 0 (.int .i64 n1), pl 1 (.int .i64 sides1), pl 2 (.int .i64 k1), pl 7 (.slice A1 (Int.toNat (w64 ((w64 ((w64 (k1 * sides1)) - k1)) + 1))) c1), pl 8 (.int .i64 r1), pl 9 (.int .i64 w1), pl 10 (.int .i64 x1), pl 11 (.slice A2 (Int.toNat (w64 (sides1 + 1))) c2), pl 12 (.int .i64 i1)] a ∧ Sep w0 B w (own 3 (.slice A1 (Int.toNat (w64 ((w64 ((w64 (k1 * sides1)) - k1)) + 1))) c1) (vI out1) :: own 3 (.slice A2 (Int.toNat (w64 (sides1 + 1))) c2) (vI shown1) :: fs) ∧ ((gameroomref_KeepWays_J5 sides1 x1 shown1 i1)).bind φ2 = some r) ?_ ?_
          · rintro a w ⟨hF, hS, hm⟩
            unfold gameroomref_KeepWays_J5 at hm
            refine seq_cut (fun a w => Fr 85 [pl 0 (.int .i64 n1), pl 1 (.int .i64 sides1), pl 2 (.int .i64 k1), pl 7 (.slice A1 (Int.toNat (w64 ((w64 ((w64 (k1 * sides1)) - k1)) + 1))) c1), pl 8 (.int .i64 r1), pl 9 (.int .i64 w1), pl 10 (.int .i64 (w64 (Int.tdiv x1 sides1))), pl 11 (.slice A2 (Int.toNat (w64 (sides1 + 1))) c2), pl 12 (.int .i64 i1)] a ∧ Sep w0 B w (own 3 (.slice A1 (Int.toNat (w64 ((w64 ((w64 (k1 * sides1)) - k1)) + 1))) c1) (vI out1) :: own 3 (.slice A2 (Int.toNat (w64 (sides1 + 1))) c2) (vI (shown1.set (Int.toNat (w64 ((Int.tmod x1 sides1) + 1))) (w64 ((geti shown1 (w64 ((Int.tmod x1 sides1) + 1))) + 1)))) :: fs) ∧ ((gameroomref_KeepWays_J6 sides1 x1 shown1 i1)).bind φ2 = some r) ?_ ?_
            · rintro a w ⟨hF, hS, hm⟩
              unfold gameroomref_KeepWays_J6 at hm
              refine reg1 [] [] [0, 1, 2, 7, 8, 9, 10, 11, 12] [pl 0 (.int .i64 n1), pl 1 (.int .i64 sides1), pl 2 (.int .i64 k1), pl 7 (.slice A1 (Int.toNat (w64 ((w64 ((w64 (k1 * sides1)) - k1)) + 1))) c1), pl 8 (.int .i64 r1), pl 9 (.int .i64 w1), pl 10 (.int .i64 (w64 (Int.tdiv x1 sides1))), pl 11 (.slice A2 (Int.toNat (w64 (sides1 + 1))) c2), pl 12 (.int .i64 (w64 (i1 + 1)))] hF hS Fol (by kernel_rfl) (by kernel_rfl) (by kernel_rfl) ?_ (fun a w hF hS => ?_)
              · exact obs_nil
              refine then_n ?_
              rw [← hφ2] at hm
              exact ⟨((w64 (Int.tdiv x1 sides1)), (shown1.set (Int.toNat (w64 ((Int.tmod x1 sides1) + 1))) (w64 ((geti shown1 (w64 ((Int.tmod x1 sides1) + 1))) + 1))), (w64 (i1 + 1))), ⟨hF.weak [0, 1, 2, 7, 8, 9, 10, 11, 12] (by kernel_rfl), hS⟩, hm⟩
            · refine wp_block ?_
              refine seqR ?_
              obtain ⟨hp3, hm⟩ := asrt_b hm
              obtain ⟨hp4, hm⟩ := asrt_b hm
              obtain ⟨hp5, hm⟩ := asrt_b hm
              refine at_run 9 [⟨true, [], vS (Op.intDiv .rem .i64 x1 sides1), .int .i64 (Int.tmod x1 sides1)⟩, ⟨true, [], vS (Instr.indexAt 22 (.slice A2 (Int.toNat (w64 (sides1 + 1))) c2) (.int .i64 (w64 ((Int.tmod x1 sides1) + 1)))), .pointer (some (sAddr A2 (w64 ((Int.tmod x1 sides1) + 1))))⟩, ⟨false, [], vS (Instr.loadAt 3 (.pointer (some (sAddr A2 (w64 ((Int.tmod x1 sides1) + 1)))))), .int .i64 (geti shown1 (w64 ((Int.tmod x1 sides1) + 1)))⟩, ⟨true, [], vS (Instr.indexAt 22 (.slice A2 (Int.toNat (w64 (sides1 + 1))) c2) (.int .i64 (w64 ((Int.tmod x1 sides1) + 1)))), .pointer (some (sAddr A2 (w64 ((Int.tmod x1 sides1) + 1))))⟩] [none, none, none, some (.int .i64 (Int.tmod x1 sides1)), none, some (.pointer (some (sAddr A2 (w64 ((Int.tmod x1 sides1) + 1))))), some (.int .i64 (geti shown1 (w64 ((Int.tmod x1 sides1) + 1)))), none, some (.pointer (some (sAddr A2 (w64 ((Int.tmod x1 sides1) + 1)))))] [0, 1, 2, 7, 8, 9, 10, 11, 12, 48, 49] [pl 0 (.int .i64 n1), pl 1 (.int .i64 sides1), pl 2 (.int .i64 k1), pl 7 (.slice A1 (Int.toNat (w64 ((w64 ((w64 (k1 * sides1)) - k1)) + 1))) c1), pl 8 (.int .i64 r1), pl 9 (.int .i64 w1), pl 10 (.int .i64 x1), pl 11 (.slice A2 (Int.toNat (w64 (sides1 + 1))) c2), pl 12 (.int .i64 i1), pl 48 (.int .i64 (w64 ((geti shown1 (w64 ((Int.tmod x1 sides1) + 1))) + 1))), pl 49 (.pointer (some (sAddr A2 (w64 ((Int.tmod x1 sides1) + 1)))))] hF hS (by kernel_rfl) (by kernel_rfl) ?_ (fun a w hF hS => ?_)
              · exact obs_cons (ob_rem rfl (fun _ => hp3)) <| obs_cons (ob_ix1 (f := (Value.int .i64)) (m := shown1) Und22 hi3 hs3 (hS.at_ 1 rfl).rd ((hS.at_ 1 rfl).len1) (fun _ => hp4)) <| obs_cons (ob_get1 (n := (Int.toNat (w64 (sides1 + 1)))) (m := shown1) (Value.int .i64) (0 : Int) Agg3 (fun _ hS => ⟨_, (hS.at_ 1 rfl).rd⟩) (fun _ hS => ((hS.at_ 1 rfl).len1)) (fun _ => hp4)) <| obs_cons (ob_ix1 (f := (Value.int .i64)) (m := shown1) Und22 hi3 hs3 (hS.at_ 1 rfl).rd ((hS.at_ 1 rfl).len1) (fun _ => hp5)) <| obs_nil
              obtain ⟨w, hrun, hS⟩ := run_set1 (P := Try.prog) (t := 3) (x := (w64 ((geti shown1 (w64 ((Int.tmod x1 sides1) + 1))) + 1))) (Value.int .i64) (hS.at_ 1 rfl) hi3 hs3 rfl rfl hp5
              refine at_skip hF (by kernel_rfl) hrun ?_
              have hS : Sep w0 B w (own 3 (.slice A1 (Int.toNat (w64 ((w64 ((w64 (k1 * sides1)) - k1)) + 1))) c1) (vI out1) :: own 3 (.slice A2 (Int.toNat (w64 (sides1 + 1))) c2) (vI (shown1.set (Int.toNat (w64 ((Int.tmod x1 sides1) + 1))) (w64 ((geti shown1 (w64 ((Int.tmod x1 sides1) + 1))) + 1)))) :: fs) := hS
              refine at_end [0, 1, 2, 7, 8, 9, 10, 11, 12] [pl 0 (.int .i64 n1), pl 1 (.int .i64 sides1), pl 2 (.int .i64 k1), pl 7 (.slice A1 (Int.toNat (w64 ((w64 ((w64 (k1 * sides1)) - k1)) + 1))) c1), pl 8 (.int .i64 r1), pl 9 (.int .i64 w1), pl 10 (.int .i64 x1), pl 11 (.slice A2 (Int.toNat (w64 (sides1 + 1))) c2), pl 12 (.int .i64 i1)] hF rfl (by kernel_rfl) (fun hF => ?_)
              refine then_n ?_
              obtain ⟨hp6, hm⟩ := asrt_b hm
              refine reg1 [⟨true, [], vS (Op.intDiv .quo .i64 x1 sides1), .int .i64 (w64 (Int.tdiv x1 sides1))⟩] [none, none, some (.int .i64 (w64 (Int.tdiv x1 sides1))), none] [0, 1, 2, 7, 8, 9, 10, 11, 12] [pl 0 (.int .i64 n1), pl 1 (.int .i64 sides1), pl 2 (.int .i64 k1), pl 7 (.slice A1 (Int.toNat (w64 ((w64 ((w64 (k1 * sides1)) - k1)) + 1))) c1), pl 8 (.int .i64 r1), pl 9 (.int .i64 w1), pl 10 (.int .i64 (w64 (Int.tdiv x1 sides1))), pl 11 (.slice A2 (Int.toNat (w64 (sides1 + 1))) c2), pl 12 (.int .i64 i1)] hF hS Fol (by kernel_rfl) (by kernel_rfl) (by kernel_rfl) ?_ (fun a w hF hS => ?_)
              · exact obs_cons (ob_quo rfl (fun _ => hp6)) <| obs_nil
              refine block_n ?_
              refine then_n ?_
              exact ⟨hF.weak [0, 1, 2, 7, 8, 9, 10, 11, 12] (by kernel_rfl), hS, hm⟩
          · refine reg [] [] [0, 1, 2, 7, 8, 9, 10, 11, 12, 38] [pl 0 (.int .i64 n1), pl 1 (.int .i64 sides1), pl 2 (.int .i64 k1), pl 7 (.slice A1 (Int.toNat (w64 ((w64 ((w64 (k1 * sides1)) - k1)) + 1))) c1), pl 8 (.int .i64 r1), pl 9 (.int .i64 w1), pl 10 (.int .i64 x1), pl 11 (.slice A2 (Int.toNat (w64 (sides1 + 1))) c2), pl 12 (.int .i64 i1), pl 38 (.bool (decide (i1 < n1)))] hF hS Fol (by kernel_rfl) (by kernel_rfl) (by kernel_rfl) ?_ (fun a w hF hS => ?_)
            · exact obs_nil
            refine cond_ev (t := 38) (b := decide (i1 < n1)) hF (by kernel_rfl) (fun hb => ?_) (fun hb => ?_)
            · replace hm := if_t hm hb
              refine wp_skip ?_
              refine then_n ?_
              exact ⟨hF.weak [0, 1, 2, 7, 8, 9, 10, 11, 12] (by kernel_rfl), hS, hm⟩
            · replace hm := if_f hm hb
              refine wp_exit ?_
              refine then_e (then_e (block_e (then_n ?_)))
              rw [← hφ2] at hm
              replace hm := done_b hm
              unfold gameroomref_KeepWays_K2 at hm
              try dsimp only at hm
              have hm : ((gameroomref_KeepWays_J4 sides1 k1 out1 w1) shown1).bind φ1 = some r := hm
              exact ⟨shown1, hF.weak [0, 1, 2, 7, 8, 9, 11] (by kernel_rfl), hS, hm⟩
    · refine reg [] [] [0, 1, 2, 7, 8, 9, 29] [pl 0 (.int .i64 n1), pl 1 (.int .i64 sides1), pl 2 (.int .i64 k1), pl 7 (.slice A1 (Int.toNat (w64 ((w64 ((w64 (k1 * sides1)) - k1)) + 1))) c1), pl 8 (.int .i64 r1), pl 9 (.int .i64 w1), pl 29 (.bool (decide (w1 < r1)))] hF hS Fol (by kernel_rfl) (by kernel_rfl) (by kernel_rfl) ?_ (fun a w hF hS => ?_)
      · exact obs_nil
      refine cond_ev (t := 29) (b := decide (w1 < r1)) hF (by kernel_rfl) (fun hb => ?_) (fun hb => ?_)
      · replace hm := if_t hm hb
        refine wp_skip ?_
        refine then_n ?_
        exact ⟨hF.weak [0, 1, 2, 7, 8, 9] (by kernel_rfl), hS, hm⟩
      · replace hm := if_f hm hb
        refine wp_exit ?_
        refine then_e (then_e (block_e (then_n ?_)))
        rw [← hφ1] at hm
        replace hm := done_b hm
        unfold gameroomref_KeepWays_K1 at hm
        try dsimp only at hm
        have hm : (gameroomref_KeepWays_J1 out1).bind some = some r := hm
        exact ⟨out1, hF.weak [7] (by kernel_rfl), hS, hm⟩

noncomputable def gameroomlaw_sameInts_J4 (i1 : Int) : Option (St Int (Fl Unit Bool)) :=
  some (.next (w64 (i1 + 1)))

noncomputable def gameroomlaw_sameInts_J3 (a1 : List Int) (b1 : List Int) (i1 : Int) : Option (St Int (Fl Unit Bool)) :=
  asrt (0 ≤ i1 ∧ i1 < (a1.length : Int)) <| asrt (0 ≤ i1 ∧ i1 < (b1.length : Int)) <| if ((geti a1 i1) != (geti b1 i1)) then (some (.done (.ret false))) else ((gameroomlaw_sameInts_J4 i1))

noncomputable def gameroomlaw_sameInts_J2 : Option Bool :=
  some true

noncomputable def gameroomlaw_sameInts_K1 : (Fl Unit Bool) → Option Bool :=
  fun (x : (Fl Unit Bool)) => match x with | .go _ => gameroomlaw_sameInts_J2 | .ret x => some x

noncomputable def gameroomlaw_sameInts_L1 (a1 : List Int) (b1 : List Int) : Int → Option (St Int (Fl Unit Bool)) :=
  fun (x : Int) => match x with | i1 => if (decide (i1 < (a1.length : Int))) then ((gameroomlaw_sameInts_J3 a1 b1 i1)) else (some (.done (.go ())))

noncomputable def gameroomlaw_sameInts_J1 (a1 : List Int) (b1 : List Int) : Option Bool :=
  (loop (gameroomlaw_sameInts_L1 a1 b1) 0).bind gameroomlaw_sameInts_K1

noncomputable def gameroomlaw_sameInts_m (a1 : List Int) (b1 : List Int) : Option Bool :=
  if ((a1.length : Int) != (b1.length : Int)) then (some false) else ((gameroomlaw_sameInts_J1 a1 b1))

set_option maxRecDepth 100000 in
set_option maxHeartbeats 4000000 in
theorem gameroomlaw_sameInts_w {A1 : Option Addr} {c1 : Nat} {n1 : Nat} {a1 : List Int} {A2 : Option Addr} {c2 : Nat} {n2 : Nat} {b1 : List Int} {r : Bool} {w0 w : World} {B : Nat} {fs : List HP} (hm : gameroomlaw_sameInts_m a1 b1 = some r) (hS : Sep w0 B w (fs)) (hr_a1 : RdF w0 B fs A1 (vI a1)) (_hc_a1 : a1.length ≤ c1) (_hn_a1 : n1 = a1.length) (hr_b1 : RdF w0 B fs A2 (vI b1)) (_hc_b1 : b1.length ≤ c2) (_hn_b1 : n2 = b1.length) :
    Calls Try.prog 17 #[.slice A1 n1 c1, .slice A2 n2 c2] w fun e w' => e = .returned (.bool r) ∧ Sep w0 B w' (fs) := by
  obtain ⟨i3, hi3, hz3, hs3, hb3⟩ := info_parts Info3
  obtain rfl := _hn_a1
  obtain rfl := _hn_b1
  unfold gameroomlaw_sameInts_m at hm
  replace hm := start_b hm
  refine enter (l := [.slice A1 a1.length c1, .slice A2 b1.length c2]) (n := 26) Try.func17 rfl rfl (by simp) (fun a hF => ?_)
  refine reg [] [] [0, 1] [pl 0 (.slice A1 a1.length c1), pl 1 (.slice A2 b1.length c2)] hF hS Fol (by kernel_rfl) (by kernel_rfl) (by kernel_rfl) ?_ (fun a w hF hS => ?_)
  · exact obs_nil
  refine seq_cut (fun a w => Fr 26 [pl 0 (.slice A1 a1.length c1), pl 1 (.slice A2 b1.length c2)] a ∧ Sep w0 B w (fs) ∧ ((gameroomlaw_sameInts_J1 a1 b1)).bind some = some r) ?_ ?_
  · rintro a w ⟨hF, hS, hm⟩
    unfold gameroomlaw_sameInts_J1 at hm
    refine seq_cut (fun a w => Fr 26 [] a ∧ Sep w0 B w (fs) ∧ (gameroomlaw_sameInts_J2).bind some = some r) ?_ ?_
    · rintro a w ⟨hF, hS, hm⟩
      unfold gameroomlaw_sameInts_J2 at hm
      refine reg [] [] [4] [pl 4 (.bool true)] hF hS Fol (by kernel_rfl) (by kernel_rfl) (by kernel_rfl) ?_ (fun a w hF hS => ?_)
      · exact obs_nil
      refine wp_ret ?_
      have hm : some true = some r := hm
      obtain rfl := Option.some.inj hm
      exact retV (rs := [.tmp 4]) (vs := [.bool true]) hF rfl (rv_t (by kernel_rfl) <| rv_nil) rfl ⟨rfl, hS⟩
    · refine reg [] [] [0, 1, 5] [pl 0 (.slice A1 a1.length c1), pl 1 (.slice A2 b1.length c2), pl 5 (.int .i64 0)] hF hS Fol (by kernel_rfl) (by kernel_rfl) (by kernel_rfl) ?_ (fun a w hF hS => ?_)
      · exact obs_nil
      refine wp_block ?_
      refine wp_loop_model (S := Int) (R := (Fl Unit Bool)) (gameroomlaw_sameInts_L1 a1 b1) (fun x => (gameroomlaw_sameInts_K1 x).bind some) r (fun (x : Int) a w => Fr 26 [pl 0 (.slice A1 a1.length c1), pl 1 (.slice A2 b1.length c2), pl 5 (.int .i64 x)] a ∧ Sep w0 B w (fs)) (assoc_b hm) ⟨hF.weak [0, 1, 5] (by kernel_rfl), hS⟩ ?_
      clear hF hS hm
      rintro nn1 i1 a w ⟨hF, hS⟩ hm
      generalize hφ1 : stK (gameroomlaw_sameInts_L1 a1 b1) nn1 (fun x => (gameroomlaw_sameInts_K1 x).bind some) = φ1 at hm
      unfold gameroomlaw_sameInts_L1 at hm
      dsimp only at hm
      refine seq_cut (fun a w => Fr 26 [pl 0 (.slice A1 a1.length c1), pl 1 (.slice A2 b1.length c2), pl 5 (.int .i64 i1)] a ∧ Sep w0 B w (fs) ∧ ((gameroomlaw_sameInts_J3 a1 b1 i1)).bind φ1 = some r) ?_ ?_
      · rintro a w ⟨hF, hS, hm⟩
        unfold gameroomlaw_sameInts_J3 at hm
        refine seq_cut (fun a w => Fr 26 [pl 0 (.slice A1 a1.length c1), pl 1 (.slice A2 b1.length c2), pl 5 (.int .i64 i1)] a ∧ Sep w0 B w (fs) ∧ ((gameroomlaw_sameInts_J4 i1)).bind φ1 = some r) ?_ ?_
        · rintro a w ⟨hF, hS, hm⟩
          unfold gameroomlaw_sameInts_J4 at hm
          refine reg1 [] [] [0, 1, 5] [pl 0 (.slice A1 a1.length c1), pl 1 (.slice A2 b1.length c2), pl 5 (.int .i64 (w64 (i1 + 1)))] hF hS Fol (by kernel_rfl) (by kernel_rfl) (by kernel_rfl) ?_ (fun a w hF hS => ?_)
          · exact obs_nil
          refine then_n ?_
          rw [← hφ1] at hm
          exact ⟨(w64 (i1 + 1)), ⟨hF.weak [0, 1, 5] (by kernel_rfl), hS⟩, hm⟩
        · refine wp_block ?_
          obtain ⟨hp1, hm⟩ := asrt_b hm
          obtain ⟨hp2, hm⟩ := asrt_b hm
          refine reg [⟨true, [], vS (Instr.indexAt 22 (.slice A1 a1.length c1) (.int .i64 i1)), .pointer (some (sAddr A1 i1))⟩, ⟨false, [], vS (Instr.loadAt 3 (.pointer (some (sAddr A1 i1)))), .int .i64 (geti a1 i1)⟩, ⟨true, [], vS (Instr.indexAt 22 (.slice A2 b1.length c2) (.int .i64 i1)), .pointer (some (sAddr A2 i1))⟩, ⟨false, [], vS (Instr.loadAt 3 (.pointer (some (sAddr A2 i1)))), .int .i64 (geti b1 i1)⟩] [none, none, some (.pointer (some (sAddr A1 i1))), some (.int .i64 (geti a1 i1)), none, none, some (.pointer (some (sAddr A2 i1))), some (.int .i64 (geti b1 i1)), none] [0, 1, 5, 25] [pl 0 (.slice A1 a1.length c1), pl 1 (.slice A2 b1.length c2), pl 5 (.int .i64 i1), pl 25 (.bool ((geti a1 i1) != (geti b1 i1)))] hF hS Fol (by kernel_rfl) (by kernel_rfl) (by kernel_rfl) ?_ (fun a w hF hS => ?_)
          · exact obs_cons (ob_ix1 (f := (Value.int .i64)) (m := a1) Und22 hi3 hs3 (hr_a1 _ (hS.dropN 0)) rfl (fun _ => hp1)) <| obs_cons (ob_get1 (n := a1.length) (m := a1) (Value.int .i64) (0 : Int) Agg3 (fun _ hS => ⟨_, (hr_a1 _ (hS.dropN 0))⟩) (fun _ hS => rfl) (fun _ => hp1)) <| obs_cons (ob_ix1 (f := (Value.int .i64)) (m := b1) Und22 hi3 hs3 (hr_b1 _ (hS.dropN 0)) rfl (fun _ => hp2)) <| obs_cons (ob_get1 (n := b1.length) (m := b1) (Value.int .i64) (0 : Int) Agg3 (fun _ hS => ⟨_, (hr_b1 _ (hS.dropN 0))⟩) (fun _ hS => rfl) (fun _ => hp2)) <| obs_nil
          refine cond_ev (t := 25) (b := ((geti a1 i1) != (geti b1 i1))) hF (by kernel_rfl) (fun hb => ?_) (fun hb => ?_)
          · replace hm := if_t hm hb
            refine reg [] [] [4] [pl 4 (.bool false)] hF hS Fol (by kernel_rfl) (by kernel_rfl) (by kernel_rfl) ?_ (fun a w hF hS => ?_)
            · exact obs_nil
            refine wp_ret ?_
            refine block_r (then_r (then_r (block_r (then_r ?_))))
            rw [← hφ1] at hm
            replace hm := done_b hm
            unfold gameroomlaw_sameInts_K1 at hm
            try dsimp only at hm
            have hm : some false = some r := hm
            obtain rfl := Option.some.inj hm
            exact retV (rs := [.tmp 4]) (vs := [.bool false]) hF rfl (rv_t (by kernel_rfl) <| rv_nil) rfl ⟨rfl, hS⟩
          · replace hm := if_f hm hb
            refine wp_skip ?_
            refine block_n ?_
            refine then_n ?_
            exact ⟨hF.weak [0, 1, 5] (by kernel_rfl), hS, hm⟩
      · refine reg [] [] [0, 1, 5, 14] [pl 0 (.slice A1 a1.length c1), pl 1 (.slice A2 b1.length c2), pl 5 (.int .i64 i1), pl 14 (.bool (decide (i1 < (a1.length : Int))))] hF hS Fol (by kernel_rfl) (by kernel_rfl) (by kernel_rfl) ?_ (fun a w hF hS => ?_)
        · exact obs_nil
        refine cond_ev (t := 14) (b := decide (i1 < (a1.length : Int))) hF (by kernel_rfl) (fun hb => ?_) (fun hb => ?_)
        · replace hm := if_t hm hb
          refine wp_skip ?_
          refine then_n ?_
          exact ⟨hF.weak [0, 1, 5] (by kernel_rfl), hS, hm⟩
        · replace hm := if_f hm hb
          refine wp_exit ?_
          refine then_e (then_e (block_e (then_n ?_)))
          rw [← hφ1] at hm
          replace hm := done_b hm
          unfold gameroomlaw_sameInts_K1 at hm
          try dsimp only at hm
          have hm : (gameroomlaw_sameInts_J2).bind some = some r := hm
          exact ⟨hF.weak [] (by kernel_rfl), hS, hm⟩
  · refine reg [] [] [0, 1, 10] [pl 0 (.slice A1 a1.length c1), pl 1 (.slice A2 b1.length c2), pl 10 (.bool ((a1.length : Int) != (b1.length : Int)))] hF hS Fol (by kernel_rfl) (by kernel_rfl) (by kernel_rfl) ?_ (fun a w hF hS => ?_)
    · exact obs_nil
    refine cond_ev (t := 10) (b := ((a1.length : Int) != (b1.length : Int))) hF (by kernel_rfl) (fun hb => ?_) (fun hb => ?_)
    · replace hm := if_t hm hb
      refine reg [] [] [4] [pl 4 (.bool false)] hF hS Fol (by kernel_rfl) (by kernel_rfl) (by kernel_rfl) ?_ (fun a w hF hS => ?_)
      · exact obs_nil
      refine wp_ret ?_
      refine then_r ?_
      have hm : some false = some r := hm
      obtain rfl := Option.some.inj hm
      exact retV (rs := [.tmp 4]) (vs := [.bool false]) hF rfl (rv_t (by kernel_rfl) <| rv_nil) rfl ⟨rfl, hS⟩
    · replace hm := if_f hm hb
      refine wp_skip ?_
      refine then_n ?_
      exact ⟨hF.weak [0, 1] (by kernel_rfl), hS, hm⟩

noncomputable def gameroomlaw_DiceKeeps_J2 (z1 : Bool) : Option Bool :=
  some z1

noncomputable def gameroomlaw_DiceKeeps_J1 (n1 : Int) (sides1 : Int) (k1 : Int) (r1 : (List Int × Int)) : Option Bool :=
  if (r1.2 == 0) then ((gameroomref_KeepWays_m n1 sides1 k1).bind fun r3 => ((if (r1.2 == 0) then gameroomlaw_sameInts_m r1.1 r3 else some false)).bind fun r4 => gameroomlaw_DiceKeeps_J2 ((r1.2 == 0) && r4)) else (((if (r1.2 == 0) then gameroomlaw_sameInts_m r1.1 ([] : List Int) else some false)).bind fun r5 => gameroomlaw_DiceKeeps_J2 ((r1.2 == 0) && r5))

noncomputable def gameroomlaw_DiceKeeps_m (n1 : Int) (sides1 : Int) (k1 : Int) : Option Bool :=
  (dice_Keep_m n1 sides1 k1).bind fun r1 => (gameroomref_KeepMay_m n1 sides1 k1).bind fun r2 => if (r2 != 0) then (some ((r1.2 == r2) && ((r1.1.length : Int) == 0))) else ((gameroomlaw_DiceKeeps_J1 n1 sides1 k1 r1))

set_option maxRecDepth 100000 in
set_option maxHeartbeats 4000000 in
theorem gameroomlaw_DiceKeeps_w {n1 : Int} {sides1 : Int} {k1 : Int} {r : Bool} {w0 w : World} {B : Nat} {fs : List HP} (hm : gameroomlaw_DiceKeeps_m n1 sides1 k1 = some r) (hS : Sep w0 B w (fs)) :
    Calls Try.prog 6 #[.int .i64 n1, .int .i64 sides1, .int .i64 k1] w fun e w' => e = .returned (.bool r) ∧ Sep w0 B w' (fs) := by
  unfold gameroomlaw_DiceKeeps_m at hm
  replace hm := start_b hm
  refine enter (l := [.int .i64 n1, .int .i64 sides1, .int .i64 k1]) (n := 41) Try.func6 rfl rfl (by simp) (fun a hF => ?_)
  refine reg [] [] [0, 1, 2] [pl 0 (.int .i64 n1), pl 1 (.int .i64 sides1), pl 2 (.int .i64 k1)] hF hS Fol (by kernel_rfl) (by kernel_rfl) (by kernel_rfl) ?_ (fun a w hF hS => ?_)
  · exact obs_nil
  refine seqR ?_
  obtain ⟨r1, hr1, hm⟩ := call_b hm
  refine at_run 3 [] [] [0, 1, 2, 11, 12, 13] [pl 0 (.int .i64 n1), pl 1 (.int .i64 sides1), pl 2 (.int .i64 k1), pl 11 (.int .i64 n1), pl 12 (.int .i64 sides1), pl 13 (.int .i64 k1)] hF hS (by kernel_rfl) (by kernel_rfl) ?_ (fun a w hF hS => ?_)
  · exact obs_nil
  refine at_call (f := 22) (args := #[.int .i64 n1, .int .i64 sides1, .int .i64 k1]) (d := 14) hF (by kernel_rfl) (by kernel_rfl) Try.func22 (by kernel_rfl) rfl (dice_Keep_w hr1 hS ) (fun v a w hR hF => ?_)
  clear hS
  obtain ⟨A1, c1, rfl, hS⟩ := hR
  have hS : Sep w0 B w (own 3 (.slice A1 r1.1.length c1) (vI r1.1) :: fs) := hS
  refine at_run 5 [] [] [0, 1, 2, 7, 8] [pl 0 (.int .i64 n1), pl 1 (.int .i64 sides1), pl 2 (.int .i64 k1), pl 7 (.slice A1 r1.1.length c1), pl 8 (.int .i64 r1.2)] hF hS (by kernel_rfl) (by kernel_rfl) ?_ (fun a w hF hS => ?_)
  · exact obs_nil
  refine at_end [0, 1, 2, 7, 8] [pl 0 (.int .i64 n1), pl 1 (.int .i64 sides1), pl 2 (.int .i64 k1), pl 7 (.slice A1 r1.1.length c1), pl 8 (.int .i64 r1.2)] hF rfl (by kernel_rfl) (fun hF => ?_)
  refine then_n ?_
  obtain ⟨r2, hr2, hm⟩ := call_b hm
  refine reg [⟨false, [], callFunc 23 #[.int .i64 n1, .int .i64 sides1, .int .i64 k1], .int .i64 r2⟩] [none, none, none, some (.int .i64 r2), none] [0, 1, 2, 7, 8, 9] [pl 0 (.int .i64 n1), pl 1 (.int .i64 sides1), pl 2 (.int .i64 k1), pl 7 (.slice A1 r1.1.length c1), pl 8 (.int .i64 r1.2), pl 9 (.int .i64 r2)] hF hS Fol (by kernel_rfl) (by kernel_rfl) (by kernel_rfl) ?_ (fun a w hF hS => ?_)
  · exact obs_cons (ob_call Try.func23 (by kernel_rfl) rfl (fun _ _ hS => gameroomref_KeepMay_w hr2 hS )) <| obs_nil
  refine seq_cut (fun a w => Fr 41 [pl 0 (.int .i64 n1), pl 1 (.int .i64 sides1), pl 2 (.int .i64 k1), pl 7 (.slice A1 r1.1.length c1), pl 8 (.int .i64 r1.2)] a ∧ Sep w0 B w (own 3 (.slice A1 r1.1.length c1) (vI r1.1) :: fs) ∧ ((gameroomlaw_DiceKeeps_J1 n1 sides1 k1 r1)).bind some = some r) ?_ ?_
  · rintro a w ⟨hF, hS, hm⟩
    unfold gameroomlaw_DiceKeeps_J1 at hm
    refine seq_cut (fun a w => ∃ (z1 : Bool), Fr 41 [pl 6 (.bool z1)] a ∧ Sep w0 B w (fs) ∧ (gameroomlaw_DiceKeeps_J2 z1).bind some = some r) ?_ ?_
    · rintro a w ⟨z1, hF, hS, hm⟩
      unfold gameroomlaw_DiceKeeps_J2 at hm
      refine wp_ret ?_
      have hm : some z1 = some r := hm
      obtain rfl := Option.some.inj hm
      exact retV (rs := [.tmp 6]) (vs := [.bool z1]) hF rfl (rv_t (by kernel_rfl) <| rv_nil) rfl ⟨rfl, hS⟩
    · refine oneR ?_
      refine at_run 7 [] [] [33, 34, 35, 36, 37] [pl 33 (.bool (r1.2 == 0)), ⟨34, [(33, true)], .slice A1 r1.1.length c1⟩, ⟨35, [(33, true)], .int .i64 n1⟩, ⟨36, [(33, true)], .int .i64 sides1⟩, ⟨37, [(33, true)], .int .i64 k1⟩] hF hS (by kernel_rfl) (by kernel_rfl) ?_ (fun a w hF hS => ?_)
      · exact obs_nil
      rcases Bool.eq_false_or_eq_true (r1.2 == 0) with hg1 | hg1
      · replace hm := if_t hm hg1
        obtain ⟨r3, hr3, hm⟩ := call_b hm
        obtain ⟨r4, hr4, hm⟩ := call_b hm
        refine at_gcall (hs := [((r1.2 == 0), true)]) (fun y hy => by simp only [List.mem_cons, List.not_mem_nil, or_false] at hy; subst hy; first | exact hg1) (f := 24) (args := #[.int .i64 n1, .int .i64 sides1, .int .i64 k1]) (d := 38) hF (by kernel_rfl) (by kernel_rfl) Try.func24 (by kernel_rfl) rfl (gameroomref_KeepWays_w hr3 hS ) (fun v a w hR hF => ?_)
        clear hS
        obtain ⟨A2, c2, rfl, hS⟩ := hR
        have hS : Sep w0 B w (own 3 (.slice A2 r3.length c2) (vI r3) :: own 3 (.slice A1 r1.1.length c1) (vI r1.1) :: fs) := hS
        refine at_run 3 [⟨false, [((r1.2 == 0), true)], callFunc 17 #[.slice A1 r1.1.length c1, .slice A2 r3.length c2], .bool r4⟩] [some (.bool r4), none, none] [6] [pl 6 (.bool ((r1.2 == 0) && r4))] hF hS (by kernel_rfl) (by kernel_rfl) ?_ (fun a w hF hS => ?_)
        · exact obs_cons (ob_call Try.func17 (by kernel_rfl) rfl (fun hy _ hS => gameroomlaw_sameInts_w (ite_some hr4 (by rw [show (r1.2 == 0) = true from hy ((r1.2 == 0), true) (by simp)]; try rfl)) hS (fun _ hS => (hS.at_ 1 rfl).rd) ((hS.at_ 1 rfl).cap1) rfl (fun _ hS => (hS.at_ 0 rfl).rd) ((hS.at_ 0 rfl).cap1) rfl)) <| obs_nil
        refine at_end [6] [pl 6 (.bool ((r1.2 == 0) && r4))] hF rfl (by kernel_rfl) (fun hF => ?_)
        refine then_n ?_
        have hS := hS.pickN 2 [] (by decide)
        exact ⟨((r1.2 == 0) && r4), hF.weak [6] (by kernel_rfl), hS, hm⟩
      · replace hm := if_f hm hg1
        obtain ⟨r5, hr5, hm⟩ := call_b hm
        refine at_gskip (d := 38) (v := .slice none 0 0) (hs := [((r1.2 == 0), true)]) (ctx := [(33, true)]) hF (by kernel_rfl) (by kernel_rfl) (fun h => absurd (h ((r1.2 == 0), true) (by simp)) (by simp [hg1])) (fun a hF => ?_)
        refine at_run 3 [⟨false, [((r1.2 == 0), true)], callFunc 17 #[.slice A1 r1.1.length c1, .slice none 0 0], .bool r5⟩] [some (.bool r5), none, none] [6] [pl 6 (.bool ((r1.2 == 0) && r5))] hF hS (by kernel_rfl) (by kernel_rfl) ?_ (fun a w hF hS => ?_)
        · exact obs_cons (Ob.vac (fun h => absurd (h ((r1.2 == 0), true) (by simp)) (by simp [hg1]))) <| obs_nil
        refine at_end [6] [pl 6 (.bool ((r1.2 == 0) && r5))] hF rfl (by kernel_rfl) (fun hF => ?_)
        refine then_n ?_
        have hS := hS.pickN 1 [] (by decide)
        exact ⟨((r1.2 == 0) && r5), hF.weak [6] (by kernel_rfl), hS, hm⟩
  · refine reg [] [] [0, 1, 2, 7, 8, 9, 22] [pl 0 (.int .i64 n1), pl 1 (.int .i64 sides1), pl 2 (.int .i64 k1), pl 7 (.slice A1 r1.1.length c1), pl 8 (.int .i64 r1.2), pl 9 (.int .i64 r2), pl 22 (.bool (r2 != 0))] hF hS Fol (by kernel_rfl) (by kernel_rfl) (by kernel_rfl) ?_ (fun a w hF hS => ?_)
    · exact obs_nil
    refine cond_ev (t := 22) (b := (r2 != 0)) hF (by kernel_rfl) (fun hb => ?_) (fun hb => ?_)
    · replace hm := if_t hm hb
      refine reg [] [] [6] [pl 6 (.bool ((r1.2 == r2) && ((r1.1.length : Int) == 0)))] hF hS Fol (by kernel_rfl) (by kernel_rfl) (by kernel_rfl) ?_ (fun a w hF hS => ?_)
      · exact obs_nil
      refine wp_ret ?_
      refine then_r ?_
      have hS := hS.pickN 1 [] (by decide)
      have hm : some ((r1.2 == r2) && ((r1.1.length : Int) == 0)) = some r := hm
      obtain rfl := Option.some.inj hm
      exact retV (rs := [.tmp 6]) (vs := [.bool ((r1.2 == r2) && ((r1.1.length : Int) == 0))]) hF rfl (rv_t (by kernel_rfl) <| rv_nil) rfl ⟨rfl, hS⟩
    · replace hm := if_f hm hb
      refine wp_skip ?_
      refine then_n ?_
      exact ⟨hF.weak [0, 1, 2, 7, 8] (by kernel_rfl), hS, hm⟩

end Go.Proofs.Ytnplejebgbdfpaa
