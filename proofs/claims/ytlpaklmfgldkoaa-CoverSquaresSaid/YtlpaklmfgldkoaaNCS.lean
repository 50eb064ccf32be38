/-
  Models and walks, printed by our own program (wip/gen).
-/
import Derived.Test.YtlpaklmfgldkoaaFB
import Derived.Test.YtlpaklmfgldkoaaLibAS
import Derived.Test.YtlpaklmfgldkoaaLibHd
namespace Go.Proofs.Ytlpaklmfgldkoaa
open Go Go.GL Go.RowKit


noncomputable def cover_Queens_1_J4  (z1 : Int) (many3 : Int) : Option (St (Int × Int) Int) :=
  some (.next (many3, (w64 (z1 + 1))))

noncomputable def cover_Queens_1_J3  (rec_cover_Queens_1 : Int → Int → Int → Int → Int → Option Int) (y1 : Int) (columns1 : Int) (up1 : Int) (down1 : Int) (p41 : Int) (many1 : Int) (z1 : Int) : Option (St (Int × Int) Int) :=
  asrt ((0 : Int) ≤ z1) <| asrt ((0 : Int) ≤ (w64 (z1 + y1))) <| asrt ((0 : Int) ≤ (w64 ((w64 (z1 - y1)) + p41))) <| if ((((andK .u64 columns1 (shlK .u64 1 z1)) == 0) && ((andK .u64 up1 (shlK .u64 1 (w64 (z1 + y1)))) == 0)) && ((andK .u64 down1 (shlK .u64 1 (w64 ((w64 (z1 - y1)) + p41)))) == 0)) then ((rec_cover_Queens_1 (w64 (y1 + 1)) (orK .u64 columns1 (shlK .u64 1 z1)) (orK .u64 up1 (shlK .u64 1 (w64 (z1 + y1)))) (orK .u64 down1 (shlK .u64 1 (w64 ((w64 (z1 - y1)) + p41)))) p41).bind fun r1 => (cover_Queens_1_J4 z1) (w64 (many1 + r1))) else ((cover_Queens_1_J4 z1) many1)

noncomputable def cover_Queens_1_J2  (many2 : Int) : Option Int :=
  some many2

noncomputable def cover_Queens_1_K1  : Int → Option Int :=
  fun (x : Int) => match x with | many2 => cover_Queens_1_J2 many2

noncomputable def cover_Queens_1_L1  (rec_cover_Queens_1 : Int → Int → Int → Int → Int → Option Int) (y1 : Int) (columns1 : Int) (up1 : Int) (down1 : Int) (p41 : Int) : (Int × Int) → Option (St (Int × Int) Int) :=
  fun (x : (Int × Int)) => match x with | (many1, z1) => if (decide (z1 < p41)) then ((cover_Queens_1_J3 rec_cover_Queens_1 y1 columns1 up1 down1 p41 many1 z1)) else (some (.done many1))

noncomputable def cover_Queens_1_J1  (rec_cover_Queens_1 : Int → Int → Int → Int → Int → Option Int) (y1 : Int) (columns1 : Int) (up1 : Int) (down1 : Int) (p41 : Int) : Option Int :=
  (loop (cover_Queens_1_L1 rec_cover_Queens_1 y1 columns1 up1 down1 p41) (0, 0)).bind cover_Queens_1_K1

noncomputable def cover_Queens_1_B (rec_cover_Queens_1 : Int → Int → Int → Int → Int → Option Int) (y1 : Int) (columns1 : Int) (up1 : Int) (down1 : Int) (p41 : Int) : Option Int :=
  if (y1 == p41) then (some 1) else ((cover_Queens_1_J1 rec_cover_Queens_1 y1 columns1 up1 down1 p41))

noncomputable def cover_Queens_1_mF : Nat → Int → Int → Int → Int → Int → Option Int
  | 0 => fun _ _ _ _ _ => none
  | n + 1 => fun y1 columns1 up1 down1 p41 => cover_Queens_1_B (cover_Queens_1_mF n) y1 columns1 up1 down1 p41

noncomputable def cover_Queens_1_m (y1 : Int) (columns1 : Int) (up1 : Int) (down1 : Int) (p41 : Int) : Option Int :=
  recM fun n => cover_Queens_1_mF n y1 columns1 up1 down1 p41

set_option maxRecDepth 100000 in
set_option maxHeartbeats 4000000 in
theorem cover_Queens_1_wB {rec_cover_Queens_1 : Int → Int → Int → Int → Int → Option Int} (ih_cover_Queens_1 : ∀ {y1 : Int} {columns1 : Int} {up1 : Int} {down1 : Int} {g1 : Nat} {p41 : Int} {g2 : Nat} {r : Int} {w0 w : World} {B : Nat} {fs : List HP} (_ : rec_cover_Queens_1 y1 columns1 up1 down1 p41 = some r) (_ : Sep w0 B w (blk g1 3 #[.int .i64 p41] :: blk g2 110 #[.func (.func 75) #[] #[.pointer (some ⟨g1, 0, none⟩), .pointer (some ⟨g2, 0, none⟩)]] :: fs)), Calls Try.prog 75 #[.int .i64 y1, .int .u64 columns1, .int .u64 up1, .int .u64 down1, .pointer (some ⟨g1, 0, none⟩), .pointer (some ⟨g2, 0, none⟩)] w fun e w' => e = .returned (.int .i64 r) ∧ Sep w0 B w' (blk g1 3 #[.int .i64 p41] :: blk g2 110 #[.func (.func 75) #[] #[.pointer (some ⟨g1, 0, none⟩), .pointer (some ⟨g2, 0, none⟩)]] :: fs)) {y1 : Int} {columns1 : Int} {up1 : Int} {down1 : Int} {g1 : Nat} {p41 : Int} {g2 : Nat} {r : Int} {w0 w : World} {B : Nat} {fs : List HP} (hm : cover_Queens_1_B rec_cover_Queens_1 y1 columns1 up1 down1 p41 = some r) (hS : Sep w0 B w (blk g1 3 #[.int .i64 p41] :: blk g2 110 #[.func (.func 75) #[] #[.pointer (some ⟨g1, 0, none⟩), .pointer (some ⟨g2, 0, none⟩)]] :: fs)) :
    Calls Try.prog 75 #[.int .i64 y1, .int .u64 columns1, .int .u64 up1, .int .u64 down1, .pointer (some ⟨g1, 0, none⟩), .pointer (some ⟨g2, 0, none⟩)] w fun e w' => e = .returned (.int .i64 r) ∧ Sep w0 B w' (blk g1 3 #[.int .i64 p41] :: blk g2 110 #[.func (.func 75) #[] #[.pointer (some ⟨g1, 0, none⟩), .pointer (some ⟨g2, 0, none⟩)]] :: fs) := by
  unfold cover_Queens_1_B at hm
  replace hm := start_b hm
  refine enter (l := [.int .i64 y1, .int .u64 columns1, .int .u64 up1, .int .u64 down1, .pointer (some ⟨g1, 0, none⟩), .pointer (some ⟨g2, 0, none⟩)]) (n := 68) Try.func75 rfl rfl (by simp) (fun a hF => ?_)
  refine reg [] [] [0, 1, 2, 3, 4, 5] [pl 0 (.int .i64 y1), pl 1 (.int .u64 columns1), pl 2 (.int .u64 up1), pl 3 (.int .u64 down1), pl 4 (.pointer (some ⟨g1, 0, none⟩)), pl 5 (.pointer (some ⟨g2, 0, none⟩))] hF hS Fol (by kernel_rfl) (by kernel_rfl) (by kernel_rfl) ?_ (fun a w hF hS => ?_)
  · exact obs_nil
  refine seq_cut (fun a w => Fr 68 [pl 0 (.int .i64 y1), pl 1 (.int .u64 columns1), pl 2 (.int .u64 up1), pl 3 (.int .u64 down1), pl 4 (.pointer (some ⟨g1, 0, none⟩)), pl 5 (.pointer (some ⟨g2, 0, none⟩))] a ∧ Sep w0 B w (blk g1 3 #[.int .i64 p41] :: blk g2 110 #[.func (.func 75) #[] #[.pointer (some ⟨g1, 0, none⟩), .pointer (some ⟨g2, 0, none⟩)]] :: fs) ∧ ((cover_Queens_1_J1 rec_cover_Queens_1 y1 columns1 up1 down1 p41)).bind some = some r) ?_ ?_
  · rintro a w ⟨hF, hS, hm⟩
    unfold cover_Queens_1_J1 at hm
    refine reg [] [] [0, 1, 2, 3, 4, 5, 11] [pl 0 (.int .i64 y1), pl 1 (.int .u64 columns1), pl 2 (.int .u64 up1), pl 3 (.int .u64 down1), pl 4 (.pointer (some ⟨g1, 0, none⟩)), pl 5 (.pointer (some ⟨g2, 0, none⟩)), pl 11 (.int .i64 0)] hF hS Fol (by kernel_rfl) (by kernel_rfl) (by kernel_rfl) ?_ (fun a w hF hS => ?_)
    · exact obs_nil
    refine seq_cut (fun a w => ∃ (many2 : Int), Fr 68 [pl 11 (.int .i64 many2)] a ∧ Sep w0 B w (blk g1 3 #[.int .i64 p41] :: blk g2 110 #[.func (.func 75) #[] #[.pointer (some ⟨g1, 0, none⟩), .pointer (some ⟨g2, 0, none⟩)]] :: fs) ∧ (cover_Queens_1_J2 many2).bind some = some r) ?_ ?_
    · rintro a w ⟨many2, hF, hS, hm⟩
      unfold cover_Queens_1_J2 at hm
      refine reg [] [] [10] [pl 10 (.int .i64 many2)] hF hS Fol (by kernel_rfl) (by kernel_rfl) (by kernel_rfl) ?_ (fun a w hF hS => ?_)
      · exact obs_nil
      refine wpIn_ret ?_
      have hm : some many2 = some r := hm
      obtain rfl := Option.some.inj hm
      exact retV (rs := [.tmp 10]) (vs := [.int .i64 many2]) hF rfl (rv_t (by kernel_rfl) <| rv_nil) rfl ⟨rfl, hS⟩
    · refine reg [⟨false, [], vS (Instr.loadAt 3 (.pointer (some ⟨g1, 0, none⟩))), .int .i64 p41⟩] [some (.int .i64 p41), none] [0, 1, 2, 3, 4, 5, 11, 19, 20] [pl 0 (.int .i64 y1), pl 1 (.int .u64 columns1), pl 2 (.int .u64 up1), pl 3 (.int .u64 down1), pl 4 (.pointer (some ⟨g1, 0, none⟩)), pl 5 (.pointer (some ⟨g2, 0, none⟩)), pl 11 (.int .i64 0), pl 19 (.int .i64 p41), pl 20 (.int .i64 0)] hF hS Fol (by kernel_rfl) (by kernel_rfl) (by kernel_rfl) ?_ (fun a w hF hS => ?_)
      · exact obs_cons (ob_load Agg3 (fun _ _ hS => (hS.at_ 0 rfl).cell rfl)) <| obs_nil
      refine wpIn_block ?_
      refine wp_loop_model (S := (Int × Int)) (R := Int) (cover_Queens_1_L1 rec_cover_Queens_1 y1 columns1 up1 down1 p41) (fun x => (cover_Queens_1_K1 x).bind some) r (fun (x : (Int × Int)) a w => Fr 68 [pl 0 (.int .i64 y1), pl 1 (.int .u64 columns1), pl 2 (.int .u64 up1), pl 3 (.int .u64 down1), pl 4 (.pointer (some ⟨g1, 0, none⟩)), pl 5 (.pointer (some ⟨g2, 0, none⟩)), pl 11 (.int .i64 x.1), pl 19 (.int .i64 p41), pl 20 (.int .i64 x.2)] a ∧ Sep w0 B w (blk g1 3 #[.int .i64 p41] :: blk g2 110 #[.func (.func 75) #[] #[.pointer (some ⟨g1, 0, none⟩), .pointer (some ⟨g2, 0, none⟩)]] :: fs)) (assoc_b hm) ⟨hF.weak [0, 1, 2, 3, 4, 5, 11, 19, 20] (by kernel_rfl), hS⟩ ?_
      clear hF hS hm
      rintro nn1 ⟨many1, z1⟩ a w ⟨hF, hS⟩ hm
      generalize hφ1 : stK (cover_Queens_1_L1 rec_cover_Queens_1 y1 columns1 up1 down1 p41) nn1 (fun x => (cover_Queens_1_K1 x).bind some) = φ1 at hm
      unfold cover_Queens_1_L1 at hm
      dsimp only at hF hS hm
      refine reg [] [] [0, 1, 2, 3, 4, 5, 11, 19, 20, 21] [pl 0 (.int .i64 y1), pl 1 (.int .u64 columns1), pl 2 (.int .u64 up1), pl 3 (.int .u64 down1), pl 4 (.pointer (some ⟨g1, 0, none⟩)), pl 5 (.pointer (some ⟨g2, 0, none⟩)), pl 11 (.int .i64 many1), pl 19 (.int .i64 p41), pl 20 (.int .i64 z1), pl 21 (.bool (decide (z1 < p41)))] hF hS Fol (by kernel_rfl) (by kernel_rfl) (by kernel_rfl) ?_ (fun a w hF hS => ?_)
      · exact obs_nil
      refine seq_cut (fun a w => Fr 68 [pl 0 (.int .i64 y1), pl 1 (.int .u64 columns1), pl 2 (.int .u64 up1), pl 3 (.int .u64 down1), pl 4 (.pointer (some ⟨g1, 0, none⟩)), pl 5 (.pointer (some ⟨g2, 0, none⟩)), pl 11 (.int .i64 many1), pl 19 (.int .i64 p41), pl 20 (.int .i64 z1)] a ∧ Sep w0 B w (blk g1 3 #[.int .i64 p41] :: blk g2 110 #[.func (.func 75) #[] #[.pointer (some ⟨g1, 0, none⟩), .pointer (some ⟨g2, 0, none⟩)]] :: fs) ∧ ((cover_Queens_1_J3 rec_cover_Queens_1 y1 columns1 up1 down1 p41 many1 z1)).bind φ1 = some r) ?_ ?_
      · rintro a w ⟨hF, hS, hm⟩
        unfold cover_Queens_1_J3 at hm
        refine seq_cut (fun a w => ∃ (many3 : Int), Fr 68 [pl 0 (.int .i64 y1), pl 1 (.int .u64 columns1), pl 2 (.int .u64 up1), pl 3 (.int .u64 down1), pl 4 (.pointer (some ⟨g1, 0, none⟩)), pl 5 (.pointer (some ⟨g2, 0, none⟩)), pl 11 (.int .i64 many3), pl 19 (.int .i64 p41), pl 20 (.int .i64 z1)] a ∧ Sep w0 B w (blk g1 3 #[.int .i64 p41] :: blk g2 110 #[.func (.func 75) #[] #[.pointer (some ⟨g1, 0, none⟩), .pointer (some ⟨g2, 0, none⟩)]] :: fs) ∧ ((cover_Queens_1_J4 z1) many3).bind φ1 = some r) ?_ ?_
        · rintro a w ⟨many3, hF, hS, hm⟩
          unfold cover_Queens_1_J4 at hm
          refine reg1 [] [] [0, 1, 2, 3, 4, 5, 11, 19, 20] [pl 0 (.int .i64 y1), pl 1 (.int .u64 columns1), pl 2 (.int .u64 up1), pl 3 (.int .u64 down1), pl 4 (.pointer (some ⟨g1, 0, none⟩)), pl 5 (.pointer (some ⟨g2, 0, none⟩)), pl 11 (.int .i64 many3), pl 19 (.int .i64 p41), pl 20 (.int .i64 (w64 (z1 + 1)))] hF hS Fol (by kernel_rfl) (by kernel_rfl) (by kernel_rfl) ?_ (fun a w hF hS => ?_)
          · exact obs_nil
          refine then_n ?_
          rw [← hφ1] at hm
          exact ⟨(many3, (w64 (z1 + 1))), ⟨hF.weak [0, 1, 2, 3, 4, 5, 11, 19, 20] (by kernel_rfl), hS⟩, hm⟩
        · refine wpIn_block ?_
          refine reg [] [] [0, 1, 2, 3, 4, 5, 11, 12, 19, 20] [pl 0 (.int .i64 y1), pl 1 (.int .u64 columns1), pl 2 (.int .u64 up1), pl 3 (.int .u64 down1), pl 4 (.pointer (some ⟨g1, 0, none⟩)), pl 5 (.pointer (some ⟨g2, 0, none⟩)), pl 11 (.int .i64 many1), pl 12 (.int .i64 z1), pl 19 (.int .i64 p41), pl 20 (.int .i64 z1)] hF hS Fol (by kernel_rfl) (by kernel_rfl) (by kernel_rfl) ?_ (fun a w hF hS => ?_)
          · exact obs_nil
          obtain ⟨hp1, hm⟩ := asrt_b hm
          obtain ⟨hp2, hm⟩ := asrt_b hm
          obtain ⟨hp3, hm⟩ := asrt_b hm
          refine reg [⟨true, [], vS (Op.shift .shl .u64 1 .i64 z1), .int .u64 (shlK .u64 1 z1)⟩, ⟨true, [], vS (Op.shift .shl .u64 1 .i64 (w64 (z1 + y1))), .int .u64 (shlK .u64 1 (w64 (z1 + y1)))⟩, ⟨false, [], vS (Instr.loadAt 3 (.pointer (some ⟨g1, 0, none⟩))), .int .i64 p41⟩, ⟨true, [], vS (Op.shift .shl .u64 1 .i64 (w64 ((w64 (z1 - y1)) + p41))), .int .u64 (shlK .u64 1 (w64 ((w64 (z1 - y1)) + p41)))⟩] [none, some (.int .u64 (shlK .u64 1 z1)), none, none, none, some (.int .u64 (shlK .u64 1 (w64 (z1 + y1)))), none, none, none, some (.int .i64 p41), none, some (.int .u64 (shlK .u64 1 (w64 ((w64 (z1 - y1)) + p41)))), none, none, none] [0, 1, 2, 3, 4, 5, 11, 13, 14, 15, 19, 20] [pl 0 (.int .i64 y1), pl 1 (.int .u64 columns1), pl 2 (.int .u64 up1), pl 3 (.int .u64 down1), pl 4 (.pointer (some ⟨g1, 0, none⟩)), pl 5 (.pointer (some ⟨g2, 0, none⟩)), pl 11 (.int .i64 many1), pl 13 (.int .u64 (shlK .u64 1 z1)), pl 14 (.int .u64 (shlK .u64 1 (w64 (z1 + y1)))), pl 15 (.int .u64 (shlK .u64 1 (w64 ((w64 (z1 - y1)) + p41)))), pl 19 (.int .i64 p41), pl 20 (.int .i64 z1)] hF hS Fol (by kernel_rfl) (by kernel_rfl) (by kernel_rfl) ?_ (fun a w hF hS => ?_)
          · exact obs_cons (ob_shl (fun _ => hp1)) <| obs_cons (ob_shl (fun _ => hp2)) <| obs_cons (ob_load Agg3 (fun _ _ hS => (hS.at_ 0 rfl).cell rfl)) <| obs_cons (ob_shl (fun _ => hp3)) <| obs_nil
          refine reg [] [] [0, 1, 2, 3, 4, 5, 11, 13, 14, 15, 19, 20, 50] [pl 0 (.int .i64 y1), pl 1 (.int .u64 columns1), pl 2 (.int .u64 up1), pl 3 (.int .u64 down1), pl 4 (.pointer (some ⟨g1, 0, none⟩)), pl 5 (.pointer (some ⟨g2, 0, none⟩)), pl 11 (.int .i64 many1), pl 13 (.int .u64 (shlK .u64 1 z1)), pl 14 (.int .u64 (shlK .u64 1 (w64 (z1 + y1)))), pl 15 (.int .u64 (shlK .u64 1 (w64 ((w64 (z1 - y1)) + p41)))), pl 19 (.int .i64 p41), pl 20 (.int .i64 z1), pl 50 (.bool ((((andK .u64 columns1 (shlK .u64 1 z1)) == 0) && ((andK .u64 up1 (shlK .u64 1 (w64 (z1 + y1)))) == 0)) && ((andK .u64 down1 (shlK .u64 1 (w64 ((w64 (z1 - y1)) + p41)))) == 0)))] hF hS Fol (by kernel_rfl) (by kernel_rfl) (by kernel_rfl) ?_ (fun a w hF hS => ?_)
          · exact obs_nil
          refine cond_ev (t := 50) (b := (((andK .u64 columns1 (shlK .u64 1 z1)) == 0) && ((andK .u64 up1 (shlK .u64 1 (w64 (z1 + y1)))) == 0)) && ((andK .u64 down1 (shlK .u64 1 (w64 ((w64 (z1 - y1)) + p41)))) == 0)) hF (by kernel_rfl) (fun hb => ?_) (fun hb => ?_)
          · replace hm := if_t hm hb
            refine oneR ?_
            obtain ⟨r1, hr1, hm⟩ := call_b hm
            refine at_run 16 [⟨false, [], vS (Instr.loadAt 110 (.pointer (some ⟨g2, 0, none⟩))), .func (.func 75) #[] #[.pointer (some ⟨g1, 0, none⟩), .pointer (some ⟨g2, 0, none⟩)]⟩, ⟨false, [], callFunc 75 #[.int .i64 (w64 (y1 + 1)), .int .u64 (orK .u64 columns1 (shlK .u64 1 z1)), .int .u64 (orK .u64 up1 (shlK .u64 1 (w64 (z1 + y1)))), .int .u64 (orK .u64 down1 (shlK .u64 1 (w64 ((w64 (z1 - y1)) + p41)))), .pointer (some ⟨g1, 0, none⟩), .pointer (some ⟨g2, 0, none⟩)], .int .i64 r1⟩] [none, some (.func (.func 75) #[] #[.pointer (some ⟨g1, 0, none⟩), .pointer (some ⟨g2, 0, none⟩)]), none, none, none, none, none, none, none, none, none, none, none, some (.int .i64 r1), none, none] [0, 1, 2, 3, 4, 5, 11, 19, 20] [pl 0 (.int .i64 y1), pl 1 (.int .u64 columns1), pl 2 (.int .u64 up1), pl 3 (.int .u64 down1), pl 4 (.pointer (some ⟨g1, 0, none⟩)), pl 5 (.pointer (some ⟨g2, 0, none⟩)), pl 11 (.int .i64 (w64 (many1 + r1))), pl 19 (.int .i64 p41), pl 20 (.int .i64 z1)] hF hS (by kernel_rfl) (by kernel_rfl) ?_ (fun a w hF hS => ?_)
            · exact obs_cons (ob_load Agg110 (fun _ _ hS => (hS.at_ 1 rfl).cell rfl)) <| obs_cons (ob_call Try.func75 (by kernel_rfl) rfl (fun _ _ hS => ih_cover_Queens_1 hr1 hS )) <| obs_nil
            refine at_end [0, 1, 2, 3, 4, 5, 11, 19, 20] [pl 0 (.int .i64 y1), pl 1 (.int .u64 columns1), pl 2 (.int .u64 up1), pl 3 (.int .u64 down1), pl 4 (.pointer (some ⟨g1, 0, none⟩)), pl 5 (.pointer (some ⟨g2, 0, none⟩)), pl 11 (.int .i64 (w64 (many1 + r1))), pl 19 (.int .i64 p41), pl 20 (.int .i64 z1)] hF rfl (by kernel_rfl) (fun hF => ?_)
            refine block_n ?_
            refine then_n ?_
            exact ⟨(w64 (many1 + r1)), hF.weak [0, 1, 2, 3, 4, 5, 11, 19, 20] (by kernel_rfl), hS, hm⟩
          · replace hm := if_f hm hb
            refine wpIn_skip ?_
            refine block_n ?_
            refine then_n ?_
            exact ⟨many1, hF.weak [0, 1, 2, 3, 4, 5, 11, 19, 20] (by kernel_rfl), hS, hm⟩
      · refine cond_ev (t := 21) (b := decide (z1 < p41)) hF (by kernel_rfl) (fun hb => ?_) (fun hb => ?_)
        · replace hm := if_t hm hb
          refine wpIn_skip ?_
          refine then_n ?_
          exact ⟨hF.weak [0, 1, 2, 3, 4, 5, 11, 19, 20] (by kernel_rfl), hS, hm⟩
        · replace hm := if_f hm hb
          refine wpIn_exit ?_
          refine then_e (then_e (block_e (then_n ?_)))
          rw [← hφ1] at hm
          replace hm := done_b hm
          unfold cover_Queens_1_K1 at hm
          try dsimp only at hm
          have hm : (cover_Queens_1_J2 many1).bind some = some r := hm
          exact ⟨many1, hF.weak [11] (by kernel_rfl), hS, hm⟩
  · refine reg [⟨false, [], vS (Instr.loadAt 3 (.pointer (some ⟨g1, 0, none⟩))), .int .i64 p41⟩] [none, some (.int .i64 p41), none] [0, 1, 2, 3, 4, 5, 18] [pl 0 (.int .i64 y1), pl 1 (.int .u64 columns1), pl 2 (.int .u64 up1), pl 3 (.int .u64 down1), pl 4 (.pointer (some ⟨g1, 0, none⟩)), pl 5 (.pointer (some ⟨g2, 0, none⟩)), pl 18 (.bool (y1 == p41))] hF hS Fol (by kernel_rfl) (by kernel_rfl) (by kernel_rfl) ?_ (fun a w hF hS => ?_)
    · exact obs_cons (ob_load Agg3 (fun _ _ hS => (hS.at_ 0 rfl).cell rfl)) <| obs_nil
    refine cond_ev (t := 18) (b := (y1 == p41)) hF (by kernel_rfl) (fun hb => ?_) (fun hb => ?_)
    · replace hm := if_t hm hb
      refine reg [] [] [10] [pl 10 (.int .i64 1)] hF hS Fol (by kernel_rfl) (by kernel_rfl) (by kernel_rfl) ?_ (fun a w hF hS => ?_)
      · exact obs_nil
      refine wpIn_ret ?_
      refine then_r ?_
      have hm : some 1 = some r := hm
      obtain rfl := Option.some.inj hm
      exact retV (rs := [.tmp 10]) (vs := [.int .i64 1]) hF rfl (rv_t (by kernel_rfl) <| rv_nil) rfl ⟨rfl, hS⟩
    · replace hm := if_f hm hb
      refine wpIn_skip ?_
      refine then_n ?_
      exact ⟨hF.weak [0, 1, 2, 3, 4, 5] (by kernel_rfl), hS, hm⟩

theorem cover_Queens_1_w {y1 : Int} {columns1 : Int} {up1 : Int} {down1 : Int} {g1 : Nat} {p41 : Int} {g2 : Nat} {r : Int} {w0 w : World} {B : Nat} {fs : List HP} (hm : cover_Queens_1_m y1 columns1 up1 down1 p41 = some r) (hS : Sep w0 B w (blk g1 3 #[.int .i64 p41] :: blk g2 110 #[.func (.func 75) #[] #[.pointer (some ⟨g1, 0, none⟩), .pointer (some ⟨g2, 0, none⟩)]] :: fs)) :
    Calls Try.prog 75 #[.int .i64 y1, .int .u64 columns1, .int .u64 up1, .int .u64 down1, .pointer (some ⟨g1, 0, none⟩), .pointer (some ⟨g2, 0, none⟩)] w fun e w' => e = .returned (.int .i64 r) ∧ Sep w0 B w' (blk g1 3 #[.int .i64 p41] :: blk g2 110 #[.func (.func 75) #[] #[.pointer (some ⟨g1, 0, none⟩), .pointer (some ⟨g2, 0, none⟩)]] :: fs) := by
  have key : ∀ (n : Nat) {y1 : Int} {columns1 : Int} {up1 : Int} {down1 : Int} {g1 : Nat} {p41 : Int} {g2 : Nat} {r : Int} {w0 w : World} {B : Nat} {fs : List HP} (_ : cover_Queens_1_mF n y1 columns1 up1 down1 p41 = some r) (_ : Sep w0 B w (blk g1 3 #[.int .i64 p41] :: blk g2 110 #[.func (.func 75) #[] #[.pointer (some ⟨g1, 0, none⟩), .pointer (some ⟨g2, 0, none⟩)]] :: fs)), Calls Try.prog 75 #[.int .i64 y1, .int .u64 columns1, .int .u64 up1, .int .u64 down1, .pointer (some ⟨g1, 0, none⟩), .pointer (some ⟨g2, 0, none⟩)] w fun e w' => e = .returned (.int .i64 r) ∧ Sep w0 B w' (blk g1 3 #[.int .i64 p41] :: blk g2 110 #[.func (.func 75) #[] #[.pointer (some ⟨g1, 0, none⟩), .pointer (some ⟨g2, 0, none⟩)]] :: fs) := by
    intro n
    induction n with
    | zero => intros; rename_i hm0 _; cases hm0
    | succ n ih => intros; rename_i hm0 hS0; exact cover_Queens_1_wB (rec_cover_Queens_1 := cover_Queens_1_mF n) (fun hm hS => ih hm hS) hm0 hS0
  obtain ⟨n, hn⟩ := recM_some hm
  exact key n hn hS

set_option maxRecDepth 100000 in
theorem cover_Queens_1_J3_le_cover_Queens_1 {rec_cover_Queens_11 rec_cover_Queens_12 : Int → Int → Int → Int → Int → Option Int} (h_rec_cover_Queens_1 : ∀ a0 a1 a2 a3 a4, Le (rec_cover_Queens_11 a0 a1 a2 a3 a4) (rec_cover_Queens_12 a0 a1 a2 a3 a4)) (y1 : Int) (columns1 : Int) (up1 : Int) (down1 : Int) (p41 : Int) (many1 : Int) (z1 : Int) : Le (cover_Queens_1_J3 rec_cover_Queens_11 y1 columns1 up1 down1 p41 many1 z1) (cover_Queens_1_J3 rec_cover_Queens_12 y1 columns1 up1 down1 p41 many1 z1) := by
  unfold cover_Queens_1_J3
  repeat' (first | with_reducible exact Le.refl _ | with_reducible exact h_rec_cover_Queens_1 _ _ _ _ _ | with_reducible refine Le.asrt ?_ | with_reducible refine Le.ite ?_ ?_ | refine Le.bind ?_ (fun _ => ?_) | refine Le.loop2 (fun _ => ?_) | refine Le.elim2 (fun _ => ?_) (fun _ => ?_))

set_option maxRecDepth 100000 in
theorem cover_Queens_1_L1_le_cover_Queens_1 {rec_cover_Queens_11 rec_cover_Queens_12 : Int → Int → Int → Int → Int → Option Int} (h_rec_cover_Queens_1 : ∀ a0 a1 a2 a3 a4, Le (rec_cover_Queens_11 a0 a1 a2 a3 a4) (rec_cover_Queens_12 a0 a1 a2 a3 a4)) (y1 : Int) (columns1 : Int) (up1 : Int) (down1 : Int) (p41 : Int) (x : (Int × Int)) : Le (cover_Queens_1_L1 rec_cover_Queens_11 y1 columns1 up1 down1 p41 x) (cover_Queens_1_L1 rec_cover_Queens_12 y1 columns1 up1 down1 p41 x) := by
  rcases x with ⟨many1, z1⟩
  all_goals
    unfold cover_Queens_1_L1
    try dsimp only
    repeat' (first | with_reducible exact Le.refl _ | with_reducible exact h_rec_cover_Queens_1 _ _ _ _ _ | with_reducible exact cover_Queens_1_J3_le_cover_Queens_1 h_rec_cover_Queens_1 _ _ _ _ _ _ _ | with_reducible refine Le.asrt ?_ | with_reducible refine Le.ite ?_ ?_ | refine Le.bind ?_ (fun _ => ?_) | refine Le.loop2 (fun _ => ?_) | refine Le.elim2 (fun _ => ?_) (fun _ => ?_))

set_option maxRecDepth 100000 in
theorem cover_Queens_1_J1_le_cover_Queens_1 {rec_cover_Queens_11 rec_cover_Queens_12 : Int → Int → Int → Int → Int → Option Int} (h_rec_cover_Queens_1 : ∀ a0 a1 a2 a3 a4, Le (rec_cover_Queens_11 a0 a1 a2 a3 a4) (rec_cover_Queens_12 a0 a1 a2 a3 a4)) (y1 : Int) (columns1 : Int) (up1 : Int) (down1 : Int) (p41 : Int) : Le (cover_Queens_1_J1 rec_cover_Queens_11 y1 columns1 up1 down1 p41) (cover_Queens_1_J1 rec_cover_Queens_12 y1 columns1 up1 down1 p41) := by
  unfold cover_Queens_1_J1
  repeat' (first | with_reducible exact Le.refl _ | with_reducible exact h_rec_cover_Queens_1 _ _ _ _ _ | with_reducible exact cover_Queens_1_L1_le_cover_Queens_1 h_rec_cover_Queens_1 _ _ _ _ _ _ | with_reducible refine Le.asrt ?_ | with_reducible refine Le.ite ?_ ?_ | refine Le.bind ?_ (fun _ => ?_) | refine Le.loop2 (fun _ => ?_) | refine Le.elim2 (fun _ => ?_) (fun _ => ?_))

set_option maxRecDepth 100000 in
theorem cover_Queens_1_B_le {rec_cover_Queens_11 rec_cover_Queens_12 : Int → Int → Int → Int → Int → Option Int} (h_rec_cover_Queens_1 : ∀ a0 a1 a2 a3 a4, Le (rec_cover_Queens_11 a0 a1 a2 a3 a4) (rec_cover_Queens_12 a0 a1 a2 a3 a4)) (y1 : Int) (columns1 : Int) (up1 : Int) (down1 : Int) (p41 : Int) : Le (cover_Queens_1_B rec_cover_Queens_11 y1 columns1 up1 down1 p41) (cover_Queens_1_B rec_cover_Queens_12 y1 columns1 up1 down1 p41) := by
  unfold cover_Queens_1_B
  repeat' (first | with_reducible exact Le.refl _ | with_reducible exact h_rec_cover_Queens_1 _ _ _ _ _ | with_reducible exact cover_Queens_1_J1_le_cover_Queens_1 h_rec_cover_Queens_1 _ _ _ _ _ | with_reducible refine Le.asrt ?_ | with_reducible refine Le.ite ?_ ?_ | refine Le.bind ?_ (fun _ => ?_) | refine Le.loop2 (fun _ => ?_) | refine Le.elim2 (fun _ => ?_) (fun _ => ?_))

set_option maxRecDepth 100000 in
theorem cover_Queens_1_mF_le : ∀ (n : Nat) (y1 : Int) (columns1 : Int) (up1 : Int) (down1 : Int) (p41 : Int), Le (cover_Queens_1_mF n y1 columns1 up1 down1 p41) (cover_Queens_1_mF (n + 1) y1 columns1 up1 down1 p41)
  | 0, _, _, _, _, _ => fun _ h => by cases h
  | n + 1, _, _, _, _, _ => cover_Queens_1_B_le (fun a0 a1 a2 a3 a4 => cover_Queens_1_mF_le n a0 a1 a2 a3 a4) _ _ _ _ _

set_option maxRecDepth 100000 in
theorem cover_Queens_1_m_of (N : Nat) (y1 : Int) (columns1 : Int) (up1 : Int) (down1 : Int) (p41 : Int) {r : Int} (h : cover_Queens_1_mF N y1 columns1 up1 down1 p41 = some r) : cover_Queens_1_m y1 columns1 up1 down1 p41 = some r :=
  recM_mono (fun n => cover_Queens_1_mF_le n _ _ _ _ _) h

noncomputable def cover_Queens_J1  (n1 : Int) : Option (Int × Int) :=
  (cover_Queens_1_m 0 0 0 0 n1).bind fun r1 => some (r1, 0)

noncomputable def cover_Queens_m  (n1 : Int) : Option (Int × Int) :=
  if ((decide (n1 < 1)) || (decide ((8 : Int) < n1))) then (some (0, 3)) else ((cover_Queens_J1 n1))

set_option maxRecDepth 100000 in
set_option maxHeartbeats 4000000 in
theorem cover_Queens_w {n1 : Int} {r : (Int × Int)} {w0 w : World} {B : Nat} {fs : List HP} (hm : cover_Queens_m n1 = some r) (hS : Sep w0 B w (fs)) :
    Calls Try.prog 27 #[.int .i64 n1] w fun e w' => e = .returned (.tuple #[.int .i64 r.1, .int .i64 r.2]) ∧ Sep w0 B w' (fs) := by
  obtain ⟨i110, hi110, hz110, hs110, hb110⟩ := info_parts Info110
  unfold cover_Queens_m at hm
  replace hm := start_b hm
  refine enter (l := [.int .i64 n1]) (n := 14) Try.func27 rfl rfl (by simp) (fun a hF => ?_)
  refine seqR ?_
  refine at_do (d := 1) (s := vS (Instr.box 3 (.int .i64 n1))) (v := .pointer (some ⟨w.heap.size, 0, none⟩)) (w' := w.alloc (.cells #[.int .i64 n1] 3)) hF (by kernel_rfl) (by kernel_rfl) (by kernel_rfl) (fun a hF => ?_)
  have hS : Sep w0 B (w.alloc (.cells #[.int .i64 n1] 3)) (blk w.heap.size 3 #[.int .i64 n1] :: (fs)) := hS.box 3 #[.int .i64 n1]
  generalize w.heap.size = g1 at hF hS
  generalize w.alloc (.cells #[.int .i64 n1] 3) = w at hS ⊢
  refine at_run 2 [] [] [1] [pl 1 (.pointer (some ⟨g1, 0, none⟩))] hF hS (by kernel_rfl) (by kernel_rfl) ?_ (fun a w hF hS => ?_)
  · exact obs_nil
  refine at_end [1] [pl 1 (.pointer (some ⟨g1, 0, none⟩))] hF rfl (by kernel_rfl) (fun hF => ?_)
  refine then_n ?_
  refine seq_cut (fun a w => Fr 14 [pl 1 (.pointer (some ⟨g1, 0, none⟩))] a ∧ Sep w0 B w (blk g1 3 #[.int .i64 n1] :: fs) ∧ ((cover_Queens_J1 n1)).bind some = some r) ?_ ?_
  · rintro a w ⟨hF, hS, hm⟩
    unfold cover_Queens_J1 at hm
    refine seqR ?_
    refine at_do (d := 4) (s := vS (Instr.alloc 110 true (.tuple #[]))) (v := .pointer (some ⟨w.heap.size, 0, none⟩)) (w' := w.alloc (.cells #[.nilFunc] 110)) hF (by kernel_rfl) (by kernel_rfl) (by kernel_rfl) (fun a hF => ?_)
    have hS : Sep w0 B (w.alloc (.cells #[.nilFunc] 110)) (blk w.heap.size 110 #[.nilFunc] :: (blk g1 3 #[.int .i64 n1] :: fs)) := hS.box 110 #[.nilFunc]
    generalize w.heap.size = g2 at hF hS
    generalize w.alloc (.cells #[.nilFunc] 110) = w at hS ⊢
    refine at_end [1, 4] [pl 1 (.pointer (some ⟨g1, 0, none⟩)), pl 4 (.pointer (some ⟨g2, 0, none⟩))] hF rfl (by kernel_rfl) (fun hF => ?_)
    refine then_n ?_
    refine seqR ?_
    refine at_run 1 [] [] [4, 11] [pl 4 (.pointer (some ⟨g2, 0, none⟩)), pl 11 (.func (.func 75) #[] #[.pointer (some ⟨g1, 0, none⟩), .pointer (some ⟨g2, 0, none⟩)])] hF hS (by kernel_rfl) (by kernel_rfl) ?_ (fun a w hF hS => ?_)
    · exact obs_nil
    obtain ⟨w, hrun, hS⟩ := run_put (P := Try.prog) (t := 110) (u := .func (.func 75) #[] #[.pointer (some ⟨g1, 0, none⟩), .pointer (some ⟨g2, 0, none⟩)]) (i := 0) (hS.at_ 0 rfl) hi110 hs110 rfl (Nat.lt_of_lt_of_eq (Nat.lt_of_succ_le (Nat.le_of_ble_eq_true (by kernel_rfl))) rfl)
    refine at_skip hF (by kernel_rfl) hrun ?_
    have hS : Sep w0 B w (blk g2 110 #[.func (.func 75) #[] #[.pointer (some ⟨g1, 0, none⟩), .pointer (some ⟨g2, 0, none⟩)]] :: blk g1 3 #[.int .i64 n1] :: fs) := hS
    refine at_end [4] [pl 4 (.pointer (some ⟨g2, 0, none⟩))] hF rfl (by kernel_rfl) (fun hF => ?_)
    refine then_n ?_
    refine seqR ?_
    obtain ⟨r1, hr1, hm⟩ := call_b hm
    refine at_run 4 [⟨false, [], vS (Instr.loadAt 110 (.pointer (some ⟨g2, 0, none⟩))), .func (.func 75) #[] #[.pointer (some ⟨g1, 0, none⟩), .pointer (some ⟨g2, 0, none⟩)]⟩, ⟨false, [], callFunc 75 #[.int .i64 0, .int .u64 0, .int .u64 0, .int .u64 0, .pointer (some ⟨g1, 0, none⟩), .pointer (some ⟨g2, 0, none⟩)], .int .i64 r1⟩] [some (.func (.func 75) #[] #[.pointer (some ⟨g1, 0, none⟩), .pointer (some ⟨g2, 0, none⟩)]), some (.int .i64 r1), none, none] [2, 3] [pl 2 (.int .i64 r1), pl 3 (.int .i64 0)] hF hS (by kernel_rfl) (by kernel_rfl) ?_ (fun a w hF hS => ?_)
    · exact obs_cons (ob_load Agg110 (fun _ _ hS => (hS.at_ 0 rfl).cell rfl)) <| obs_cons (ob_call Try.func75 (by kernel_rfl) rfl (fun _ _ hS => quiet_pick hS 2 [1, 0] (by decide) [1, 0] (by decide) (qs := (blk g1 3 #[.int .i64 n1] :: blk g2 110 #[.func (.func 75) #[] #[.pointer (some ⟨g1, 0, none⟩), .pointer (some ⟨g2, 0, none⟩)]] :: fs)) rfl (fun hS => cover_Queens_1_w hr1 hS ) 2 rfl)) <| obs_nil
    refine at_end [2, 3] [pl 2 (.int .i64 r1), pl 3 (.int .i64 0)] hF rfl (by kernel_rfl) (fun hF => ?_)
    refine then_n ?_
    refine wpIn_ret ?_
    have hS := hS.pickN 2 [] (by decide)
    have hm : some (r1, 0) = some r := hm
    obtain rfl := Option.some.inj hm
    exact retV (rs := [.tmp 2, .tmp 3]) (vs := [.int .i64 r1, .int .i64 0]) hF rfl (rv_t (by kernel_rfl) <| rv_t (by kernel_rfl) <| rv_nil) rfl ⟨rfl, hS⟩
  · refine reg [⟨false, [], vS (Instr.loadAt 3 (.pointer (some ⟨g1, 0, none⟩))), .int .i64 n1⟩, ⟨false, [(decide (n1 < 1), false)], vS (Instr.loadAt 3 (.pointer (some ⟨g1, 0, none⟩))), .int .i64 n1⟩] [some (.int .i64 n1), none, none, some (.int .i64 n1), none, none] [1, 10] [pl 1 (.pointer (some ⟨g1, 0, none⟩)), pl 10 (.bool ((decide (n1 < 1)) || (decide ((8 : Int) < n1))))] hF hS Fol (by kernel_rfl) (by kernel_rfl) (by kernel_rfl) ?_ (fun a w hF hS => ?_)
    · exact obs_cons (ob_load Agg3 (fun _ _ hS => (hS.at_ 0 rfl).cell rfl)) <| obs_cons (ob_load Agg3 (fun _ _ hS => (hS.at_ 0 rfl).cell rfl)) <| obs_nil
    refine cond_ev (t := 10) (b := (decide (n1 < 1)) || (decide ((8 : Int) < n1))) hF (by kernel_rfl) (fun hb => ?_) (fun hb => ?_)
    · replace hm := if_t hm hb
      refine reg [] [] [2, 3] [pl 2 (.int .i64 0), pl 3 (.int .i64 3)] hF hS Fol (by kernel_rfl) (by kernel_rfl) (by kernel_rfl) ?_ (fun a w hF hS => ?_)
      · exact obs_nil
      refine wpIn_ret ?_
      refine then_r ?_
      have hS := hS.pickN 1 [] (by decide)
      have hm : some (0, 3) = some r := hm
      obtain rfl := Option.some.inj hm
      exact retV (rs := [.tmp 2, .tmp 3]) (vs := [.int .i64 0, .int .i64 3]) hF rfl (rv_t (by kernel_rfl) <| rv_t (by kernel_rfl) <| rv_nil) rfl ⟨rfl, hS⟩
    · replace hm := if_f hm hb
      refine wpIn_skip ?_
      refine then_n ?_
      exact ⟨hF.weak [1] (by kernel_rfl), hS, hm⟩

noncomputable def gameroomref_size_J1  (n1 : Int) : Option Int :=
  some n1

noncomputable def gameroomref_size_m  (n1 : Int) : Option Int :=
  if (decide (n1 < 0)) then (some (w64 (0 - n1))) else ((gameroomref_size_J1 n1))

set_option maxRecDepth 100000 in
set_option maxHeartbeats 4000000 in
theorem gameroomref_size_w {n1 : Int} {r : Int} {w0 w : World} {B : Nat} {fs : List HP} (hm : gameroomref_size_m n1 = some r) (hS : Sep w0 B w (fs)) :
    Calls Try.prog 76 #[.int .i64 n1] w fun e w' => e = .returned (.int .i64 r) ∧ Sep w0 B w' (fs) := by
  unfold gameroomref_size_m at hm
  replace hm := start_b hm
  refine enter (l := [.int .i64 n1]) (n := 8) Try.func76 rfl rfl (by simp) (fun a hF => ?_)
  refine reg [] [] [0] [pl 0 (.int .i64 n1)] hF hS Fol (by kernel_rfl) (by kernel_rfl) (by kernel_rfl) ?_ (fun a w hF hS => ?_)
  · exact obs_nil
  refine seq_cut (fun a w => Fr 8 [pl 0 (.int .i64 n1)] a ∧ Sep w0 B w (fs) ∧ ((gameroomref_size_J1 n1)).bind some = some r) ?_ ?_
  · rintro a w ⟨hF, hS, hm⟩
    unfold gameroomref_size_J1 at hm
    refine reg [] [] [2] [pl 2 (.int .i64 n1)] hF hS Fol (by kernel_rfl) (by kernel_rfl) (by kernel_rfl) ?_ (fun a w hF hS => ?_)
    · exact obs_nil
    refine wpIn_ret ?_
    have hm : some n1 = some r := hm
    obtain rfl := Option.some.inj hm
    exact retV (rs := [.tmp 2]) (vs := [.int .i64 n1]) hF rfl (rv_t (by kernel_rfl) <| rv_nil) rfl ⟨rfl, hS⟩
  · refine reg [] [] [0, 4] [pl 0 (.int .i64 n1), pl 4 (.bool (decide (n1 < 0)))] hF hS Fol (by kernel_rfl) (by kernel_rfl) (by kernel_rfl) ?_ (fun a w hF hS => ?_)
    · exact obs_nil
    refine cond_ev (t := 4) (b := decide (n1 < 0)) hF (by kernel_rfl) (fun hb => ?_) (fun hb => ?_)
    · replace hm := if_t hm hb
      refine reg [] [] [2] [pl 2 (.int .i64 (w64 (0 - n1)))] hF hS Fol (by kernel_rfl) (by kernel_rfl) (by kernel_rfl) ?_ (fun a w hF hS => ?_)
      · exact obs_nil
      refine wpIn_ret ?_
      refine then_r ?_
      have hm : some (w64 (0 - n1)) = some r := hm
      obtain rfl := Option.some.inj hm
      exact retV (rs := [.tmp 2]) (vs := [.int .i64 (w64 (0 - n1))]) hF rfl (rv_t (by kernel_rfl) <| rv_nil) rfl ⟨rfl, hS⟩
    · replace hm := if_f hm hb
      refine wpIn_skip ?_
      refine then_n ?_
      exact ⟨hF.weak [0] (by kernel_rfl), hS, hm⟩

noncomputable def gameroomref_Ints_m  (l1 : List Int) : Option (List Int) :=
  asrt ((0 : Int) + (l1.length : Int) ≤ bigN) <| some ([] ++ l1)

set_option maxRecDepth 100000 in
set_option maxHeartbeats 4000000 in
theorem gameroomref_Ints_w {A1 : Option Addr} {c1 : Nat} {n1 : Nat} {l1 : List Int} {r : (List Int)} {w0 w : World} {B : Nat} {fs : List HP} (hm : gameroomref_Ints_m l1 = some r) (hS : Sep w0 B w (fs)) (hr_l1 : RdF w0 B fs A1 (vI l1)) (_hc_l1 : l1.length ≤ c1) (_hn_l1 : n1 = l1.length) :
    Calls Try.prog 71 #[.slice A1 n1 c1] w fun e w' => ∃ v, e = .returned v ∧ ∃ (A3 : Option Addr) (c3 : Nat), v = .slice A3 r.length c3 ∧ Sep w0 B w' (own 3 (.slice A3 r.length c3) (vI r) :: fs) := by
  obtain ⟨i3, hi3, hz3, hs3, hb3⟩ := info_parts Info3
  obtain rfl := _hn_l1
  unfold gameroomref_Ints_m at hm
  replace hm := start_b hm
  refine enter (l := [.slice A1 l1.length c1]) (n := 5) Try.func71 rfl rfl (by simp) (fun a hF => ?_)
  refine reg [] [] [0] [pl 0 (.slice A1 l1.length c1)] hF hS Fol (by kernel_rfl) (by kernel_rfl) (by kernel_rfl) ?_ (fun a w hF hS => ?_)
  · exact obs_nil
  refine seqR ?_
  obtain ⟨hp1, hm⟩ := asrt_b hm
  refine at_run 1 [] [] [3] [pl 3 (.slice A1 l1.length c1)] hF hS (by kernel_rfl) (by kernel_rfl) ?_ (fun a w hF hS => ?_)
  · exact obs_nil
  have hS : Sep w0 B w (own 3 (.slice none 0 0) (vI ([] : List Int)) :: fs) := hS.nil 3
  obtain ⟨A2, c2, w, hrun, hS⟩ := run_app1 (P := Try.prog) (t := 34) (m := ([] : List Int)) (ys := l1) (A2 := A1) (m2 := l1.length) (c2 := c1) (Value.int .i64) (0 : Int) (hS.at_ 0 rfl) (hr_l1 _ (hS.dropN 1)) rfl 34 Und34 hi3 hz3 hs3 (by omega) rfl (fun _ => rfl) hp1
  have hS : Sep w0 B w (own 3 (.slice A2 (([] ++ l1).length) c2) (vI ([] ++ l1)) :: fs) := hS
  refine at_do (d := 4) hF (by kernel_rfl) (by kernel_rfl) hrun (fun a hF => ?_)
  refine at_run 1 [] [] [2] [pl 2 (.slice A2 (([] ++ l1).length) c2)] hF hS (by kernel_rfl) (by kernel_rfl) ?_ (fun a w hF hS => ?_)
  · exact obs_nil
  refine at_end [2] [pl 2 (.slice A2 (([] ++ l1).length) c2)] hF rfl (by kernel_rfl) (fun hF => ?_)
  refine then_n ?_
  refine wpIn_ret ?_
  have hm : some ([] ++ l1) = some r := hm
  obtain rfl := Option.some.inj hm
  exact retV (rs := [.tmp 2]) (vs := [.slice A2 (([] ++ l1).length) c2]) hF rfl (rv_t (by kernel_rfl) <| rv_nil) rfl ⟨_, rfl, A2, c2, rfl, hS⟩

noncomputable def gameroomref_QueensOf_J7  (i1 : Int) (free3 : Bool) : Option (St (Bool × Int) Bool) :=
  some (.next (free3, (w64 (i1 + 1))))

noncomputable def gameroomref_QueensOf_J6  (columns1 : List Int) (x1 : Int) (free1 : Bool) (i1 : Int) : Option (St (Bool × Int) Bool) :=
  asrt (free1 = true → 0 ≤ i1 ∧ i1 < (columns1.length : Int)) <| asrt ((free1 && ((geti columns1 i1) != x1)) = true → 0 ≤ i1 ∧ i1 < (columns1.length : Int)) <| ((if (free1 && ((geti columns1 i1) != x1)) then gameroomref_size_m (w64 ((geti columns1 i1) - x1)) else some 0)).bind fun r1 => (gameroomref_QueensOf_J7 i1) ((free1 && ((geti columns1 i1) != x1)) && (r1 != (w64 ((columns1.length : Int) - i1))))

noncomputable def gameroomref_QueensOf_J4  (x1 : Int) (many3 : Int) : Option (St (Int × Int) Int) :=
  some (.next (many3, (w64 (x1 + 1))))

noncomputable def gameroomref_QueensOf_J5  (rec_gameroomref_QueensOf : Int → List Int → Option Int) (n1 : Int) (columns1 : List Int) (many1 : Int) (x1 : Int) (free2 : Bool) : Option (St (Int × Int) Int) :=
  if free2 then ((gameroomref_Ints_m columns1).bind fun r2 => asrt ((r2.length : Int) + 1 ≤ bigN) <| (rec_gameroomref_QueensOf n1 (r2 ++ ([x1] : List Int))).bind fun r3 => (gameroomref_QueensOf_J4 x1) (w64 (many1 + r3))) else ((gameroomref_QueensOf_J4 x1) many1)

noncomputable def gameroomref_QueensOf_K2  (rec_gameroomref_QueensOf : Int → List Int → Option Int) (n1 : Int) (columns1 : List Int) (many1 : Int) (x1 : Int) : Bool → Option (St (Int × Int) Int) :=
  fun (x : Bool) => match x with | free2 => (gameroomref_QueensOf_J5 rec_gameroomref_QueensOf n1 columns1 many1 x1) free2

noncomputable def gameroomref_QueensOf_L2  (columns1 : List Int) (x1 : Int) : (Bool × Int) → Option (St (Bool × Int) Bool) :=
  fun (x : (Bool × Int)) => match x with | (free1, i1) => if (decide (i1 < (columns1.length : Int))) then ((gameroomref_QueensOf_J6 columns1 x1 free1 i1)) else (some (.done free1))

noncomputable def gameroomref_QueensOf_J3  (rec_gameroomref_QueensOf : Int → List Int → Option Int) (n1 : Int) (columns1 : List Int) (many1 : Int) (x1 : Int) : Option (St (Int × Int) Int) :=
  (loop (gameroomref_QueensOf_L2 columns1 x1) (true, 0)).bind (gameroomref_QueensOf_K2 rec_gameroomref_QueensOf n1 columns1 many1 x1)

noncomputable def gameroomref_QueensOf_J2  (many2 : Int) : Option Int :=
  some many2

noncomputable def gameroomref_QueensOf_K1  : Int → Option Int :=
  fun (x : Int) => match x with | many2 => gameroomref_QueensOf_J2 many2

noncomputable def gameroomref_QueensOf_L1  (rec_gameroomref_QueensOf : Int → List Int → Option Int) (n1 : Int) (columns1 : List Int) : (Int × Int) → Option (St (Int × Int) Int) :=
  fun (x : (Int × Int)) => match x with | (many1, x1) => if (decide (x1 < n1)) then ((gameroomref_QueensOf_J3 rec_gameroomref_QueensOf n1 columns1 many1 x1)) else (some (.done many1))

noncomputable def gameroomref_QueensOf_J1  (rec_gameroomref_QueensOf : Int → List Int → Option Int) (n1 : Int) (columns1 : List Int) : Option Int :=
  (loop (gameroomref_QueensOf_L1 rec_gameroomref_QueensOf n1 columns1) (0, 0)).bind gameroomref_QueensOf_K1

noncomputable def gameroomref_QueensOf_B (rec_gameroomref_QueensOf : Int → List Int → Option Int) (n1 : Int) (columns1 : List Int) : Option Int :=
  if ((columns1.length : Int) == n1) then (some 1) else ((gameroomref_QueensOf_J1 rec_gameroomref_QueensOf n1 columns1))

noncomputable def gameroomref_QueensOf_mF : Nat → Int → List Int → Option Int
  | 0 => fun _ _ => none
  | n + 1 => fun n1 columns1 => gameroomref_QueensOf_B (gameroomref_QueensOf_mF n) n1 columns1

noncomputable def gameroomref_QueensOf_m (n1 : Int) (columns1 : List Int) : Option Int :=
  recM fun n => gameroomref_QueensOf_mF n n1 columns1

set_option maxRecDepth 100000 in
set_option maxHeartbeats 4000000 in
theorem gameroomref_QueensOf_wB {rec_gameroomref_QueensOf : Int → List Int → Option Int} (ih_gameroomref_QueensOf : ∀ {n1 : Int} {A1 : Option Addr} {c1 : Nat} {n2 : Nat} {columns1 : List Int} {r : Int} {w0 w : World} {B : Nat} {fs : List HP} (_ : rec_gameroomref_QueensOf n1 columns1 = some r) (_ : Sep w0 B w (fs)) (_hr_columns1 : RdF w0 B fs A1 (vI columns1)) (_hc_columns1 : columns1.length ≤ c1) (_hn_columns1 : n2 = columns1.length), Calls Try.prog 28 #[.int .i64 n1, .slice A1 n2 c1] w fun e w' => e = .returned (.int .i64 r) ∧ Sep w0 B w' (fs)) {n1 : Int} {A1 : Option Addr} {c1 : Nat} {n2 : Nat} {columns1 : List Int} {r : Int} {w0 w : World} {B : Nat} {fs : List HP} (hm : gameroomref_QueensOf_B rec_gameroomref_QueensOf n1 columns1 = some r) (hS : Sep w0 B w (fs)) (hr_columns1 : RdF w0 B fs A1 (vI columns1)) (_hc_columns1 : columns1.length ≤ c1) (_hn_columns1 : n2 = columns1.length) :
    Calls Try.prog 28 #[.int .i64 n1, .slice A1 n2 c1] w fun e w' => e = .returned (.int .i64 r) ∧ Sep w0 B w' (fs) := by
  obtain ⟨i3, hi3, hz3, hs3, hb3⟩ := info_parts Info3
  obtain rfl := _hn_columns1
  unfold gameroomref_QueensOf_B at hm
  replace hm := start_b hm
  refine enter (l := [.int .i64 n1, .slice A1 columns1.length c1]) (n := 58) Try.func28 rfl rfl (by simp) (fun a hF => ?_)
  refine reg [] [] [0, 1] [pl 0 (.int .i64 n1), pl 1 (.slice A1 columns1.length c1)] hF hS Fol (by kernel_rfl) (by kernel_rfl) (by kernel_rfl) ?_ (fun a w hF hS => ?_)
  · exact obs_nil
  refine reg [] [] [0, 1, 5] [pl 0 (.int .i64 n1), pl 1 (.slice A1 columns1.length c1), pl 5 (.int .i64 (columns1.length : Int))] hF hS Fol (by kernel_rfl) (by kernel_rfl) (by kernel_rfl) ?_ (fun a w hF hS => ?_)
  · exact obs_nil
  refine seq_cut (fun a w => Fr 58 [pl 0 (.int .i64 n1), pl 1 (.slice A1 columns1.length c1), pl 5 (.int .i64 (columns1.length : Int))] a ∧ Sep w0 B w (fs) ∧ ((gameroomref_QueensOf_J1 rec_gameroomref_QueensOf n1 columns1)).bind some = some r) ?_ ?_
  · rintro a w ⟨hF, hS, hm⟩
    unfold gameroomref_QueensOf_J1 at hm
    refine reg [] [] [0, 1, 5, 6] [pl 0 (.int .i64 n1), pl 1 (.slice A1 columns1.length c1), pl 5 (.int .i64 (columns1.length : Int)), pl 6 (.int .i64 0)] hF hS Fol (by kernel_rfl) (by kernel_rfl) (by kernel_rfl) ?_ (fun a w hF hS => ?_)
    · exact obs_nil
    refine seq_cut (fun a w => ∃ (many2 : Int), Fr 58 [pl 6 (.int .i64 many2)] a ∧ Sep w0 B w (fs) ∧ (gameroomref_QueensOf_J2 many2).bind some = some r) ?_ ?_
    · rintro a w ⟨many2, hF, hS, hm⟩
      unfold gameroomref_QueensOf_J2 at hm
      refine reg [] [] [4] [pl 4 (.int .i64 many2)] hF hS Fol (by kernel_rfl) (by kernel_rfl) (by kernel_rfl) ?_ (fun a w hF hS => ?_)
      · exact obs_nil
      refine wpIn_ret ?_
      have hm : some many2 = some r := hm
      obtain rfl := Option.some.inj hm
      exact retV (rs := [.tmp 4]) (vs := [.int .i64 many2]) hF rfl (rv_t (by kernel_rfl) <| rv_nil) rfl ⟨rfl, hS⟩
    · refine reg [] [] [0, 1, 5, 6, 7] [pl 0 (.int .i64 n1), pl 1 (.slice A1 columns1.length c1), pl 5 (.int .i64 (columns1.length : Int)), pl 6 (.int .i64 0), pl 7 (.int .i64 0)] hF hS Fol (by kernel_rfl) (by kernel_rfl) (by kernel_rfl) ?_ (fun a w hF hS => ?_)
      · exact obs_nil
      refine wpIn_block ?_
      refine wp_loop_model (S := (Int × Int)) (R := Int) (gameroomref_QueensOf_L1 rec_gameroomref_QueensOf n1 columns1) (fun x => (gameroomref_QueensOf_K1 x).bind some) r (fun (x : (Int × Int)) a w => Fr 58 [pl 0 (.int .i64 n1), pl 1 (.slice A1 columns1.length c1), pl 5 (.int .i64 (columns1.length : Int)), pl 6 (.int .i64 x.1), pl 7 (.int .i64 x.2)] a ∧ Sep w0 B w (fs)) (assoc_b hm) ⟨hF.weak [0, 1, 5, 6, 7] (by kernel_rfl), hS⟩ ?_
      clear hF hS hm
      rintro nn1 ⟨many1, x1⟩ a w ⟨hF, hS⟩ hm
      generalize hφ1 : stK (gameroomref_QueensOf_L1 rec_gameroomref_QueensOf n1 columns1) nn1 (fun x => (gameroomref_QueensOf_K1 x).bind some) = φ1 at hm
      unfold gameroomref_QueensOf_L1 at hm
      dsimp only at hF hS hm
      refine seq_cut (fun a w => Fr 58 [pl 0 (.int .i64 n1), pl 1 (.slice A1 columns1.length c1), pl 5 (.int .i64 (columns1.length : Int)), pl 6 (.int .i64 many1), pl 7 (.int .i64 x1)] a ∧ Sep w0 B w (fs) ∧ ((gameroomref_QueensOf_J3 rec_gameroomref_QueensOf n1 columns1 many1 x1)).bind φ1 = some r) ?_ ?_
      · rintro a w ⟨hF, hS, hm⟩
        unfold gameroomref_QueensOf_J3 at hm
        refine seq_cut (fun a w => ∃ (many3 : Int), Fr 58 [pl 0 (.int .i64 n1), pl 1 (.slice A1 columns1.length c1), pl 5 (.int .i64 (columns1.length : Int)), pl 6 (.int .i64 many3), pl 7 (.int .i64 x1)] a ∧ Sep w0 B w (fs) ∧ ((gameroomref_QueensOf_J4 x1) many3).bind φ1 = some r) ?_ ?_
        · rintro a w ⟨many3, hF, hS, hm⟩
          unfold gameroomref_QueensOf_J4 at hm
          refine reg1 [] [] [0, 1, 5, 6, 7] [pl 0 (.int .i64 n1), pl 1 (.slice A1 columns1.length c1), pl 5 (.int .i64 (columns1.length : Int)), pl 6 (.int .i64 many3), pl 7 (.int .i64 (w64 (x1 + 1)))] hF hS Fol (by kernel_rfl) (by kernel_rfl) (by kernel_rfl) ?_ (fun a w hF hS => ?_)
          · exact obs_nil
          refine then_n ?_
          rw [← hφ1] at hm
          exact ⟨(many3, (w64 (x1 + 1))), ⟨hF.weak [0, 1, 5, 6, 7] (by kernel_rfl), hS⟩, hm⟩
        · refine wpIn_block ?_
          refine reg [] [] [0, 1, 5, 6, 7, 8] [pl 0 (.int .i64 n1), pl 1 (.slice A1 columns1.length c1), pl 5 (.int .i64 (columns1.length : Int)), pl 6 (.int .i64 many1), pl 7 (.int .i64 x1), pl 8 (.bool true)] hF hS Fol (by kernel_rfl) (by kernel_rfl) (by kernel_rfl) ?_ (fun a w hF hS => ?_)
          · exact obs_nil
          refine seq_cut (fun a w => ∃ (free2 : Bool), Fr 58 [pl 0 (.int .i64 n1), pl 1 (.slice A1 columns1.length c1), pl 5 (.int .i64 (columns1.length : Int)), pl 6 (.int .i64 many1), pl 7 (.int .i64 x1), pl 8 (.bool free2)] a ∧ Sep w0 B w (fs) ∧ ((gameroomref_QueensOf_J5 rec_gameroomref_QueensOf n1 columns1 many1 x1) free2).bind φ1 = some r) ?_ ?_
          · rintro a w ⟨free2, hF, hS, hm⟩
            unfold gameroomref_QueensOf_J5 at hm
            refine reg [] [] [0, 1, 5, 6, 7, 47] [pl 0 (.int .i64 n1), pl 1 (.slice A1 columns1.length c1), pl 5 (.int .i64 (columns1.length : Int)), pl 6 (.int .i64 many1), pl 7 (.int .i64 x1), pl 47 (.bool free2)] hF hS Fol (by kernel_rfl) (by kernel_rfl) (by kernel_rfl) ?_ (fun a w hF hS => ?_)
            · exact obs_nil
            refine cond_ev (t := 47) (b := free2) hF (by kernel_rfl) (fun hb => ?_) (fun hb => ?_)
            · replace hm := if_t hm hb
              refine oneR ?_
              obtain ⟨r2, hr2, hm⟩ := call_b hm
              obtain ⟨hp3, hm⟩ := asrt_b hm
              obtain ⟨r3, hr3, hm⟩ := call_b hm
              refine at_run 3 [] [] [0, 1, 5, 7, 48, 49, 50] [pl 0 (.int .i64 n1), pl 1 (.slice A1 columns1.length c1), pl 5 (.int .i64 (columns1.length : Int)), pl 7 (.int .i64 x1), pl 48 (.int .i64 many1), pl 49 (.int .i64 n1), pl 50 (.slice A1 columns1.length c1)] hF hS (by kernel_rfl) (by kernel_rfl) ?_ (fun a w hF hS => ?_)
              · exact obs_nil
              refine at_call (f := 71) (args := #[.slice A1 columns1.length c1]) (d := 51) hF (by kernel_rfl) (by kernel_rfl) Try.func71 (by kernel_rfl) rfl (gameroomref_Ints_w hr2 hS (fun _ hS => (hr_columns1 _ (hS.dropN 0))) _hc_columns1 rfl) (fun v a w hR hF => ?_)
              clear hS
              obtain ⟨A2, c2, rfl, hS⟩ := hR
              have hS : Sep w0 B w (own 3 (.slice A2 r2.length c2) (vI r2) :: fs) := hS
              refine at_run 1 [] [] [0, 1, 5, 7, 48, 49, 51, 52] [pl 0 (.int .i64 n1), pl 1 (.slice A1 columns1.length c1), pl 5 (.int .i64 (columns1.length : Int)), pl 7 (.int .i64 x1), pl 48 (.int .i64 many1), pl 49 (.int .i64 n1), pl 51 (.slice A2 r2.length c2), pl 52 (.int .i64 x1)] hF hS (by kernel_rfl) (by kernel_rfl) ?_ (fun a w hF hS => ?_)
              · exact obs_nil
              refine at_do (d := 53) (s := vS (Instr.buildSlice 34 1 #[(0, .int .i64 x1)])) (v := .slice (some ⟨w.heap.size, 0, none⟩) 1 1) (w' := w.alloc (.cells #[.int .i64 x1] 3)) hF (by kernel_rfl) (by kernel_rfl) (by kernel_rfl) (fun a hF => ?_)
              have hS : Sep w0 B (w.alloc (.cells #[.int .i64 x1] 3)) (own 3 (.slice (some (⟨w.heap.size, 0, none⟩ : Addr)) 1 1) (vI ([x1] : List Int)) :: (own 3 (.slice A2 r2.length c2) (vI r2) :: fs)) := hS.lit 3 #[.int .i64 x1] 1 rfl (by omega)
              generalize (some (⟨w.heap.size, 0, none⟩ : Addr)) = g1 at hF hS
              generalize w.alloc (.cells #[.int .i64 x1] 3) = w at hS ⊢
              obtain ⟨A3, c3, w, hrun, hS⟩ := run_app1 (P := Try.prog) (t := 34) (m := r2) (ys := ([x1] : List Int)) (A2 := g1) (m2 := 1) (c2 := 1) (Value.int .i64) (0 : Int) (hS.at_ 1 rfl) (hS.at_ 0 rfl).rd ((hS.at_ 0 rfl).len1) 34 Und34 hi3 hz3 hs3 (by omega) rfl (fun _ => rfl) hp3
              have hS : Sep w0 B w (own 3 (.slice g1 1 1) (vI ([x1] : List Int)) :: own 3 (.slice A3 ((r2 ++ ([x1] : List Int)).length) c3) (vI (r2 ++ ([x1] : List Int))) :: fs) := hS
              refine at_do (d := 54) hF (by kernel_rfl) (by kernel_rfl) hrun (fun a hF => ?_)
              refine at_run 3 [⟨false, [], callFunc 28 #[.int .i64 n1, .slice A3 ((r2 ++ ([x1] : List Int)).length) c3], .int .i64 r3⟩] [some (.int .i64 r3), none, none] [0, 1, 5, 6, 7] [pl 0 (.int .i64 n1), pl 1 (.slice A1 columns1.length c1), pl 5 (.int .i64 (columns1.length : Int)), pl 6 (.int .i64 (w64 (many1 + r3))), pl 7 (.int .i64 x1)] hF hS (by kernel_rfl) (by kernel_rfl) ?_ (fun a w hF hS => ?_)
              · exact obs_cons (ob_call Try.func28 (by kernel_rfl) rfl (fun _ _ hS => ih_gameroomref_QueensOf hr3 hS (fun _ hS => (hS.at_ 1 rfl).rd) ((hS.at_ 1 rfl).cap1) rfl)) <| obs_nil
              refine at_end [0, 1, 5, 6, 7] [pl 0 (.int .i64 n1), pl 1 (.slice A1 columns1.length c1), pl 5 (.int .i64 (columns1.length : Int)), pl 6 (.int .i64 (w64 (many1 + r3))), pl 7 (.int .i64 x1)] hF rfl (by kernel_rfl) (fun hF => ?_)
              refine block_n ?_
              refine then_n ?_
              have hS := hS.pickN 2 [] (by decide)
              exact ⟨(w64 (many1 + r3)), hF.weak [0, 1, 5, 6, 7] (by kernel_rfl), hS, hm⟩
            · replace hm := if_f hm hb
              refine wpIn_skip ?_
              refine block_n ?_
              refine then_n ?_
              exact ⟨many1, hF.weak [0, 1, 5, 6, 7] (by kernel_rfl), hS, hm⟩
          · refine reg [] [] [0, 1, 5, 6, 7, 8, 9] [pl 0 (.int .i64 n1), pl 1 (.slice A1 columns1.length c1), pl 5 (.int .i64 (columns1.length : Int)), pl 6 (.int .i64 many1), pl 7 (.int .i64 x1), pl 8 (.bool true), pl 9 (.int .i64 0)] hF hS Fol (by kernel_rfl) (by kernel_rfl) (by kernel_rfl) ?_ (fun a w hF hS => ?_)
            · exact obs_nil
            refine wpIn_block ?_
            refine wp_loop_model (S := (Bool × Int)) (R := Bool) (gameroomref_QueensOf_L2 columns1 x1) (fun x => ((gameroomref_QueensOf_K2 rec_gameroomref_QueensOf n1 columns1 many1 x1) x).bind φ1) r (fun (x : (Bool × Int)) a w => Fr 58 [pl 0 (.int .i64 n1), pl 1 (.slice A1 columns1.length c1), pl 5 (.int .i64 (columns1.length : Int)), pl 6 (.int .i64 many1), pl 7 (.int .i64 x1), pl 8 (.bool x.1), pl 9 (.int .i64 x.2)] a ∧ Sep w0 B w (fs)) (assoc_b hm) ⟨hF.weak [0, 1, 5, 6, 7, 8, 9] (by kernel_rfl), hS⟩ ?_
            clear hF hS hm
            rintro nn2 ⟨free1, i1⟩ a w ⟨hF, hS⟩ hm
            generalize hφ2 : stK (gameroomref_QueensOf_L2 columns1 x1) nn2 (fun x => ((gameroomref_QueensOf_K2 rec_gameroomref_QueensOf n1 columns1 many1 x1) x).bind φ1) = φ2 at hm
            unfold gameroomref_QueensOf_L2 at hm
            dsimp only at hF hS hm
            refine seq_cut (fun a w => Fr 58 [pl 0 (.int .i64 n1), pl 1 (.slice A1 columns1.length c1), pl 5 (.int .i64 (columns1.length : Int)), pl 6 (.int .i64 many1), pl 7 (.int .i64 x1), pl 8 (.bool free1), pl 9 (.int .i64 i1)] a ∧ Sep w0 B w (fs) ∧ ((gameroomref_QueensOf_J6 columns1 x1 free1 i1)).bind φ2 = some r) ?_ ?_
            · rintro a w ⟨hF, hS, hm⟩
              unfold gameroomref_QueensOf_J6 at hm
              refine seq_cut (fun a w => ∃ (free3 : Bool), Fr 58 [pl 0 (.int .i64 n1), pl 1 (.slice A1 columns1.length c1), pl 5 (.int .i64 (columns1.length : Int)), pl 6 (.int .i64 many1), pl 7 (.int .i64 x1), pl 8 (.bool free3), pl 9 (.int .i64 i1)] a ∧ Sep w0 B w (fs) ∧ ((gameroomref_QueensOf_J7 i1) free3).bind φ2 = some r) ?_ ?_
              · rintro a w ⟨free3, hF, hS, hm⟩
                unfold gameroomref_QueensOf_J7 at hm
                refine reg1 [] [] [0, 1, 5, 6, 7, 8, 9] [pl 0 (.int .i64 n1), pl 1 (.slice A1 columns1.length c1), pl 5 (.int .i64 (columns1.length : Int)), pl 6 (.int .i64 many1), pl 7 (.int .i64 x1), pl 8 (.bool free3), pl 9 (.int .i64 (w64 (i1 + 1)))] hF hS Fol (by kernel_rfl) (by kernel_rfl) (by kernel_rfl) ?_ (fun a w hF hS => ?_)
                · exact obs_nil
                refine then_n ?_
                rw [← hφ2] at hm
                exact ⟨(free3, (w64 (i1 + 1))), ⟨hF.weak [0, 1, 5, 6, 7, 8, 9] (by kernel_rfl), hS⟩, hm⟩
              · refine wpIn_block ?_
                obtain ⟨hp1, hm⟩ := asrt_b hm
                obtain ⟨hp2, hm⟩ := asrt_b hm
                obtain ⟨r1, hr1, hm⟩ := call_b hm
                refine reg1 [⟨true, [(free1, true)], vS (Instr.indexAt 34 (.slice A1 columns1.length c1) (.int .i64 i1)), .pointer (some (sAddr A1 i1))⟩, ⟨false, [(free1, true)], vS (Instr.loadAt 3 (.pointer (some (sAddr A1 i1)))), .int .i64 (geti columns1 i1)⟩, ⟨true, [(free1 && ((geti columns1 i1) != x1), true)], vS (Instr.indexAt 34 (.slice A1 columns1.length c1) (.int .i64 i1)), .pointer (some (sAddr A1 i1))⟩, ⟨false, [(free1 && ((geti columns1 i1) != x1), true)], vS (Instr.loadAt 3 (.pointer (some (sAddr A1 i1)))), .int .i64 (geti columns1 i1)⟩, ⟨false, [(free1 && ((geti columns1 i1) != x1), true)], callFunc 76 #[.int .i64 (w64 ((geti columns1 i1) - x1))], .int .i64 r1⟩] [none, none, none, none, some (.pointer (some (sAddr A1 i1))), some (.int .i64 (geti columns1 i1)), none, none, none, none, none, none, some (.pointer (some (sAddr A1 i1))), some (.int .i64 (geti columns1 i1)), none, none, some (.int .i64 r1), none, none, none, none, none, none] [0, 1, 5, 6, 7, 8, 9] [pl 0 (.int .i64 n1), pl 1 (.slice A1 columns1.length c1), pl 5 (.int .i64 (columns1.length : Int)), pl 6 (.int .i64 many1), pl 7 (.int .i64 x1), pl 8 (.bool ((free1 && ((geti columns1 i1) != x1)) && (r1 != (w64 ((columns1.length : Int) - i1))))), pl 9 (.int .i64 i1)] hF hS Fol (by kernel_rfl) (by kernel_rfl) (by kernel_rfl) ?_ (fun a w hF hS => ?_)
                · exact obs_cons (ob_ix1 (f := (Value.int .i64)) (m := columns1) Und34 hi3 hs3 (hr_columns1 _ (hS.dropN 0)) rfl (fun hy => hp1 (hy (free1, true) (by simp)))) <| obs_cons (ob_get1 (n := columns1.length) (m := columns1) (Value.int .i64) (0 : Int) Agg3 (fun _ hS => ⟨_, (hr_columns1 _ (hS.dropN 0))⟩) (fun _ hS => rfl) (fun hy => hp1 (hy (free1, true) (by simp)))) <| obs_cons (ob_ix1 (f := (Value.int .i64)) (m := columns1) Und34 hi3 hs3 (hr_columns1 _ (hS.dropN 0)) rfl (fun hy => hp2 (hy (free1 && ((geti columns1 i1) != x1), true) (by simp)))) <| obs_cons (ob_get1 (n := columns1.length) (m := columns1) (Value.int .i64) (0 : Int) Agg3 (fun _ hS => ⟨_, (hr_columns1 _ (hS.dropN 0))⟩) (fun _ hS => rfl) (fun hy => hp2 (hy (free1 && ((geti columns1 i1) != x1), true) (by simp)))) <| obs_cons (ob_call Try.func76 (by kernel_rfl) rfl (fun hy _ hS => gameroomref_size_w (ite_some hr1 (by rw [show (free1 && ((geti columns1 i1) != x1)) = true from hy (free1 && ((geti columns1 i1) != x1), true) (by simp)]; try rfl)) hS )) <| obs_nil
                refine block_n ?_
                refine then_n ?_
                exact ⟨((free1 && ((geti columns1 i1) != x1)) && (r1 != (w64 ((columns1.length : Int) - i1)))), hF.weak [0, 1, 5, 6, 7, 8, 9] (by kernel_rfl), hS, hm⟩
            · refine reg [] [] [0, 1, 5, 6, 7, 8, 9, 22] [pl 0 (.int .i64 n1), pl 1 (.slice A1 columns1.length c1), pl 5 (.int .i64 (columns1.length : Int)), pl 6 (.int .i64 many1), pl 7 (.int .i64 x1), pl 8 (.bool free1), pl 9 (.int .i64 i1), pl 22 (.bool (decide (i1 < (columns1.length : Int))))] hF hS Fol (by kernel_rfl) (by kernel_rfl) (by kernel_rfl) ?_ (fun a w hF hS => ?_)
              · exact obs_nil
              refine cond_ev (t := 22) (b := decide (i1 < (columns1.length : Int))) hF (by kernel_rfl) (fun hb => ?_) (fun hb => ?_)
              · replace hm := if_t hm hb
                refine wpIn_skip ?_
                refine then_n ?_
                exact ⟨hF.weak [0, 1, 5, 6, 7, 8, 9] (by kernel_rfl), hS, hm⟩
              · replace hm := if_f hm hb
                refine wpIn_exit ?_
                refine then_e (then_e (block_e (then_n ?_)))
                rw [← hφ2] at hm
                replace hm := done_b hm
                unfold gameroomref_QueensOf_K2 at hm
                try dsimp only at hm
                have hm : ((gameroomref_QueensOf_J5 rec_gameroomref_QueensOf n1 columns1 many1 x1) free1).bind φ1 = some r := hm
                exact ⟨free1, hF.weak [0, 1, 5, 6, 7, 8] (by kernel_rfl), hS, hm⟩
      · refine reg [] [] [0, 1, 5, 6, 7, 17] [pl 0 (.int .i64 n1), pl 1 (.slice A1 columns1.length c1), pl 5 (.int .i64 (columns1.length : Int)), pl 6 (.int .i64 many1), pl 7 (.int .i64 x1), pl 17 (.bool (decide (x1 < n1)))] hF hS Fol (by kernel_rfl) (by kernel_rfl) (by kernel_rfl) ?_ (fun a w hF hS => ?_)
        · exact obs_nil
        refine cond_ev (t := 17) (b := decide (x1 < n1)) hF (by kernel_rfl) (fun hb => ?_) (fun hb => ?_)
        · replace hm := if_t hm hb
          refine wpIn_skip ?_
          refine then_n ?_
          exact ⟨hF.weak [0, 1, 5, 6, 7] (by kernel_rfl), hS, hm⟩
        · replace hm := if_f hm hb
          refine wpIn_exit ?_
          refine then_e (then_e (block_e (then_n ?_)))
          rw [← hφ1] at hm
          replace hm := done_b hm
          unfold gameroomref_QueensOf_K1 at hm
          try dsimp only at hm
          have hm : (gameroomref_QueensOf_J2 many1).bind some = some r := hm
          exact ⟨many1, hF.weak [6] (by kernel_rfl), hS, hm⟩
  · refine reg [] [] [0, 1, 5, 14] [pl 0 (.int .i64 n1), pl 1 (.slice A1 columns1.length c1), pl 5 (.int .i64 (columns1.length : Int)), pl 14 (.bool ((columns1.length : Int) == n1))] hF hS Fol (by kernel_rfl) (by kernel_rfl) (by kernel_rfl) ?_ (fun a w hF hS => ?_)
    · exact obs_nil
    refine cond_ev (t := 14) (b := ((columns1.length : Int) == n1)) hF (by kernel_rfl) (fun hb => ?_) (fun hb => ?_)
    · replace hm := if_t hm hb
      refine reg [] [] [4] [pl 4 (.int .i64 1)] hF hS Fol (by kernel_rfl) (by kernel_rfl) (by kernel_rfl) ?_ (fun a w hF hS => ?_)
      · exact obs_nil
      refine wpIn_ret ?_
      refine then_r ?_
      have hm : some 1 = some r := hm
      obtain rfl := Option.some.inj hm
      exact retV (rs := [.tmp 4]) (vs := [.int .i64 1]) hF rfl (rv_t (by kernel_rfl) <| rv_nil) rfl ⟨rfl, hS⟩
    · replace hm := if_f hm hb
      refine wpIn_skip ?_
      refine then_n ?_
      exact ⟨hF.weak [0, 1, 5] (by kernel_rfl), hS, hm⟩

theorem gameroomref_QueensOf_w {n1 : Int} {A1 : Option Addr} {c1 : Nat} {n2 : Nat} {columns1 : List Int} {r : Int} {w0 w : World} {B : Nat} {fs : List HP} (hm : gameroomref_QueensOf_m n1 columns1 = some r) (hS : Sep w0 B w (fs)) (hr_columns1 : RdF w0 B fs A1 (vI columns1)) (_hc_columns1 : columns1.length ≤ c1) (_hn_columns1 : n2 = columns1.length) :
    Calls Try.prog 28 #[.int .i64 n1, .slice A1 n2 c1] w fun e w' => e = .returned (.int .i64 r) ∧ Sep w0 B w' (fs) := by
  have key : ∀ (n : Nat) {n1 : Int} {A1 : Option Addr} {c1 : Nat} {n2 : Nat} {columns1 : List Int} {r : Int} {w0 w : World} {B : Nat} {fs : List HP} (_ : gameroomref_QueensOf_mF n n1 columns1 = some r) (_ : Sep w0 B w (fs)) (hr_columns1 : RdF w0 B fs A1 (vI columns1)) (_hc_columns1 : columns1.length ≤ c1) (_hn_columns1 : n2 = columns1.length), Calls Try.prog 28 #[.int .i64 n1, .slice A1 n2 c1] w fun e w' => e = .returned (.int .i64 r) ∧ Sep w0 B w' (fs) := by
    intro n
    induction n with
    | zero => intros; rename_i hm0 _ _ _ _; cases hm0
    | succ n ih => intros; rename_i hm0 hS0 h0 h1 h2; exact gameroomref_QueensOf_wB (rec_gameroomref_QueensOf := gameroomref_QueensOf_mF n) (fun hm hS h0 h1 h2 => ih hm hS h0 h1 h2) hm0 hS0 h0 h1 h2
  obtain ⟨n, hn⟩ := recM_some hm
  exact key n hn hS hr_columns1 _hc_columns1 _hn_columns1

set_option maxRecDepth 100000 in
theorem gameroomref_QueensOf_J5_le_gameroomref_QueensOf {rec_gameroomref_QueensOf1 rec_gameroomref_QueensOf2 : Int → List Int → Option Int} (h_rec_gameroomref_QueensOf : ∀ a0 a1, Le (rec_gameroomref_QueensOf1 a0 a1) (rec_gameroomref_QueensOf2 a0 a1)) (n1 : Int) (columns1 : List Int) (many1 : Int) (x1 : Int) (free2 : Bool) : Le (gameroomref_QueensOf_J5 rec_gameroomref_QueensOf1 n1 columns1 many1 x1 free2) (gameroomref_QueensOf_J5 rec_gameroomref_QueensOf2 n1 columns1 many1 x1 free2) := by
  unfold gameroomref_QueensOf_J5
  repeat' (first | with_reducible exact Le.refl _ | with_reducible exact h_rec_gameroomref_QueensOf _ _ | with_reducible refine Le.asrt ?_ | with_reducible refine Le.ite ?_ ?_ | refine Le.bind ?_ (fun _ => ?_) | refine Le.loop2 (fun _ => ?_) | refine Le.elim2 (fun _ => ?_) (fun _ => ?_))

set_option maxRecDepth 100000 in
theorem gameroomref_QueensOf_K2_le_gameroomref_QueensOf {rec_gameroomref_QueensOf1 rec_gameroomref_QueensOf2 : Int → List Int → Option Int} (h_rec_gameroomref_QueensOf : ∀ a0 a1, Le (rec_gameroomref_QueensOf1 a0 a1) (rec_gameroomref_QueensOf2 a0 a1)) (n1 : Int) (columns1 : List Int) (many1 : Int) (x1 : Int) (x : Bool) : Le (gameroomref_QueensOf_K2 rec_gameroomref_QueensOf1 n1 columns1 many1 x1 x) (gameroomref_QueensOf_K2 rec_gameroomref_QueensOf2 n1 columns1 many1 x1 x) := by
  rcases x with free2
  all_goals
    unfold gameroomref_QueensOf_K2
    try dsimp only
    repeat' (first | with_reducible exact Le.refl _ | with_reducible exact h_rec_gameroomref_QueensOf _ _ | with_reducible exact gameroomref_QueensOf_J5_le_gameroomref_QueensOf h_rec_gameroomref_QueensOf _ _ _ _ _ | with_reducible refine Le.asrt ?_ | with_reducible refine Le.ite ?_ ?_ | refine Le.bind ?_ (fun _ => ?_) | refine Le.loop2 (fun _ => ?_) | refine Le.elim2 (fun _ => ?_) (fun _ => ?_))

set_option maxRecDepth 100000 in
theorem gameroomref_QueensOf_J3_le_gameroomref_QueensOf {rec_gameroomref_QueensOf1 rec_gameroomref_QueensOf2 : Int → List Int → Option Int} (h_rec_gameroomref_QueensOf : ∀ a0 a1, Le (rec_gameroomref_QueensOf1 a0 a1) (rec_gameroomref_QueensOf2 a0 a1)) (n1 : Int) (columns1 : List Int) (many1 : Int) (x1 : Int) : Le (gameroomref_QueensOf_J3 rec_gameroomref_QueensOf1 n1 columns1 many1 x1) (gameroomref_QueensOf_J3 rec_gameroomref_QueensOf2 n1 columns1 many1 x1) := by
  unfold gameroomref_QueensOf_J3
  repeat' (first | with_reducible exact Le.refl _ | with_reducible exact h_rec_gameroomref_QueensOf _ _ | with_reducible exact gameroomref_QueensOf_K2_le_gameroomref_QueensOf h_rec_gameroomref_QueensOf _ _ _ _ _ | with_reducible refine Le.asrt ?_ | with_reducible refine Le.ite ?_ ?_ | refine Le.bind ?_ (fun _ => ?_) | refine Le.loop2 (fun _ => ?_) | refine Le.elim2 (fun _ => ?_) (fun _ => ?_))

set_option maxRecDepth 100000 in
theorem gameroomref_QueensOf_L1_le_gameroomref_QueensOf {rec_gameroomref_QueensOf1 rec_gameroomref_QueensOf2 : Int → List Int → Option Int} (h_rec_gameroomref_QueensOf : ∀ a0 a1, Le (rec_gameroomref_QueensOf1 a0 a1) (rec_gameroomref_QueensOf2 a0 a1)) (n1 : Int) (columns1 : List Int) (x : (Int × Int)) : Le (gameroomref_QueensOf_L1 rec_gameroomref_QueensOf1 n1 columns1 x) (gameroomref_QueensOf_L1 rec_gameroomref_QueensOf2 n1 columns1 x) := by
  rcases x with ⟨many1, x1⟩
  all_goals
    unfold gameroomref_QueensOf_L1
    try dsimp only
    repeat' (first | with_reducible exact Le.refl _ | with_reducible exact h_rec_gameroomref_QueensOf _ _ | with_reducible exact gameroomref_QueensOf_J3_le_gameroomref_QueensOf h_rec_gameroomref_QueensOf _ _ _ _ | with_reducible refine Le.asrt ?_ | with_reducible refine Le.ite ?_ ?_ | refine Le.bind ?_ (fun _ => ?_) | refine Le.loop2 (fun _ => ?_) | refine Le.elim2 (fun _ => ?_) (fun _ => ?_))

set_option maxRecDepth 100000 in
theorem gameroomref_QueensOf_J1_le_gameroomref_QueensOf {rec_gameroomref_QueensOf1 rec_gameroomref_QueensOf2 : Int → List Int → Option Int} (h_rec_gameroomref_QueensOf : ∀ a0 a1, Le (rec_gameroomref_QueensOf1 a0 a1) (rec_gameroomref_QueensOf2 a0 a1)) (n1 : Int) (columns1 : List Int) : Le (gameroomref_QueensOf_J1 rec_gameroomref_QueensOf1 n1 columns1) (gameroomref_QueensOf_J1 rec_gameroomref_QueensOf2 n1 columns1) := by
  unfold gameroomref_QueensOf_J1
  repeat' (first | with_reducible exact Le.refl _ | with_reducible exact h_rec_gameroomref_QueensOf _ _ | with_reducible exact gameroomref_QueensOf_L1_le_gameroomref_QueensOf h_rec_gameroomref_QueensOf _ _ _ | with_reducible refine Le.asrt ?_ | with_reducible refine Le.ite ?_ ?_ | refine Le.bind ?_ (fun _ => ?_) | refine Le.loop2 (fun _ => ?_) | refine Le.elim2 (fun _ => ?_) (fun _ => ?_))

set_option maxRecDepth 100000 in
theorem gameroomref_QueensOf_B_le {rec_gameroomref_QueensOf1 rec_gameroomref_QueensOf2 : Int → List Int → Option Int} (h_rec_gameroomref_QueensOf : ∀ a0 a1, Le (rec_gameroomref_QueensOf1 a0 a1) (rec_gameroomref_QueensOf2 a0 a1)) (n1 : Int) (columns1 : List Int) : Le (gameroomref_QueensOf_B rec_gameroomref_QueensOf1 n1 columns1) (gameroomref_QueensOf_B rec_gameroomref_QueensOf2 n1 columns1) := by
  unfold gameroomref_QueensOf_B
  repeat' (first | with_reducible exact Le.refl _ | with_reducible exact h_rec_gameroomref_QueensOf _ _ | with_reducible exact gameroomref_QueensOf_J1_le_gameroomref_QueensOf h_rec_gameroomref_QueensOf _ _ | with_reducible refine Le.asrt ?_ | with_reducible refine Le.ite ?_ ?_ | refine Le.bind ?_ (fun _ => ?_) | refine Le.loop2 (fun _ => ?_) | refine Le.elim2 (fun _ => ?_) (fun _ => ?_))

set_option maxRecDepth 100000 in
theorem gameroomref_QueensOf_mF_le : ∀ (n : Nat) (n1 : Int) (columns1 : List Int), Le (gameroomref_QueensOf_mF n n1 columns1) (gameroomref_QueensOf_mF (n + 1) n1 columns1)
  | 0, _, _ => fun _ h => by cases h
  | n + 1, _, _ => gameroomref_QueensOf_B_le (fun a0 a1 => gameroomref_QueensOf_mF_le n a0 a1) _ _

set_option maxRecDepth 100000 in
theorem gameroomref_QueensOf_m_of (N : Nat) (n1 : Int) (columns1 : List Int) {r : Int} (h : gameroomref_QueensOf_mF N n1 columns1 = some r) : gameroomref_QueensOf_m n1 columns1 = some r :=
  recM_mono (fun n => gameroomref_QueensOf_mF_le n _ _) h

noncomputable def gameroomlaw_ints_m  (l1 : List Int) : Option (List Int) :=
  asrt ((0 : Int) + (l1.length : Int) ≤ bigN) <| some ([] ++ l1)

set_option maxRecDepth 100000 in
set_option maxHeartbeats 4000000 in
theorem gameroomlaw_ints_w {A1 : Option Addr} {c1 : Nat} {n1 : Nat} {l1 : List Int} {r : (List Int)} {w0 w : World} {B : Nat} {fs : List HP} (hm : gameroomlaw_ints_m l1 = some r) (hS : Sep w0 B w (fs)) (hr_l1 : RdF w0 B fs A1 (vI l1)) (_hc_l1 : l1.length ≤ c1) (_hn_l1 : n1 = l1.length) :
    Calls Try.prog 22 #[.slice A1 n1 c1] w fun e w' => ∃ v, e = .returned v ∧ ∃ (A3 : Option Addr) (c3 : Nat), v = .slice A3 r.length c3 ∧ Sep w0 B w' (own 3 (.slice A3 r.length c3) (vI r) :: fs) := by
  obtain ⟨i3, hi3, hz3, hs3, hb3⟩ := info_parts Info3
  obtain rfl := _hn_l1
  unfold gameroomlaw_ints_m at hm
  replace hm := start_b hm
  refine enter (l := [.slice A1 l1.length c1]) (n := 5) Try.func22 rfl rfl (by simp) (fun a hF => ?_)
  refine reg [] [] [0] [pl 0 (.slice A1 l1.length c1)] hF hS Fol (by kernel_rfl) (by kernel_rfl) (by kernel_rfl) ?_ (fun a w hF hS => ?_)
  · exact obs_nil
  refine seqR ?_
  obtain ⟨hp1, hm⟩ := asrt_b hm
  refine at_run 1 [] [] [3] [pl 3 (.slice A1 l1.length c1)] hF hS (by kernel_rfl) (by kernel_rfl) ?_ (fun a w hF hS => ?_)
  · exact obs_nil
  have hS : Sep w0 B w (own 3 (.slice none 0 0) (vI ([] : List Int)) :: fs) := hS.nil 3
  obtain ⟨A2, c2, w, hrun, hS⟩ := run_app1 (P := Try.prog) (t := 34) (m := ([] : List Int)) (ys := l1) (A2 := A1) (m2 := l1.length) (c2 := c1) (Value.int .i64) (0 : Int) (hS.at_ 0 rfl) (hr_l1 _ (hS.dropN 1)) rfl 34 Und34 hi3 hz3 hs3 (by omega) rfl (fun _ => rfl) hp1
  have hS : Sep w0 B w (own 3 (.slice A2 (([] ++ l1).length) c2) (vI ([] ++ l1)) :: fs) := hS
  refine at_do (d := 4) hF (by kernel_rfl) (by kernel_rfl) hrun (fun a hF => ?_)
  refine at_run 1 [] [] [2] [pl 2 (.slice A2 (([] ++ l1).length) c2)] hF hS (by kernel_rfl) (by kernel_rfl) ?_ (fun a w hF hS => ?_)
  · exact obs_nil
  refine at_end [2] [pl 2 (.slice A2 (([] ++ l1).length) c2)] hF rfl (by kernel_rfl) (fun hF => ?_)
  refine then_n ?_
  refine wpIn_ret ?_
  have hm : some ([] ++ l1) = some r := hm
  obtain rfl := Option.some.inj hm
  exact retV (rs := [.tmp 2]) (vs := [.slice A2 (([] ++ l1).length) c2]) hF rfl (rv_t (by kernel_rfl) <| rv_nil) rfl ⟨_, rfl, A2, c2, rfl, hS⟩

noncomputable def gameroomlaw_copied_J3  (i1 : Int) (out3 : List (List Int)) : Option (St (List (List Int) × Int) (List (List Int))) :=
  some (.next (out3, (w64 (i1 + 1))))

noncomputable def gameroomlaw_copied_J2  (l1 : List (List Int)) (out1 : List (List Int)) (i1 : Int) : Option (St (List (List Int) × Int) (List (List Int))) :=
  asrt (0 ≤ i1 ∧ i1 < (l1.length : Int)) <| (gameroomlaw_ints_m (geti2 l1 i1)).bind fun r1 => asrt (((out1.length : Int) : Int) + 1 ≤ bigR) <| (gameroomlaw_copied_J3 i1) (out1 ++ [r1])

noncomputable def gameroomlaw_copied_J1  (out2 : List (List Int)) : Option (List (List Int)) :=
  some out2

noncomputable def gameroomlaw_copied_K1  : (List (List Int)) → Option (List (List Int)) :=
  fun (x : (List (List Int))) => match x with | out2 => gameroomlaw_copied_J1 out2

noncomputable def gameroomlaw_copied_L1  (l1 : List (List Int)) : (List (List Int) × Int) → Option (St (List (List Int) × Int) (List (List Int))) :=
  fun (x : (List (List Int) × Int)) => match x with | (out1, i1) => if (decide (i1 < (l1.length : Int))) then ((gameroomlaw_copied_J2 l1 out1 i1)) else (some (.done out1))

noncomputable def gameroomlaw_copied_m  (l1 : List (List Int)) : Option (List (List Int)) :=
  (loop (gameroomlaw_copied_L1 l1) (([] : List (List Int)), 0)).bind gameroomlaw_copied_K1

set_option maxRecDepth 100000 in
set_option maxHeartbeats 4000000 in
theorem gameroomlaw_copied_w {A1 : Option Addr} {c1 : Nat} {n1 : Nat} {hd1 : List Hd} {l1 : List (List Int)} {r : (List (List Int))} {w0 w : World} {B : Nat} {fs : List HP} (hm : gameroomlaw_copied_m l1 = some r) (hS : Sep w0 B w (fs)) (hr_l1 : RdRowsF w0 B fs A1 hd1 l1) (_hc_l1 : l1.length ≤ c1) (_hn_l1 : n1 = l1.length) :
    Calls Try.prog 30 #[.slice A1 n1 c1] w fun e w' => ∃ v, e = .returned v ∧ ∃ (A7 : Option Addr) (c7 : Nat) (hd5 : List Hd), v = .slice A7 r.length c7 ∧ Sep w0 B w' (rows 34 3 (.slice A7 r.length c7) hd5 r :: fs) := by
  obtain ⟨i34, hi34, hz34, hs34, hb34⟩ := info_parts Info34
  obtain rfl := _hn_l1
  unfold gameroomlaw_copied_m at hm
  replace hm := start_b hm
  refine enter (l := [.slice A1 l1.length c1]) (n := 20) Try.func30 rfl rfl (by simp) (fun a hF => ?_)
  refine reg [] [] [0] [pl 0 (.slice A1 l1.length c1)] hF hS Fol (by kernel_rfl) (by kernel_rfl) (by kernel_rfl) ?_ (fun a w hF hS => ?_)
  · exact obs_nil
  refine reg [] [] [0, 3] [pl 0 (.slice A1 l1.length c1), pl 3 (.slice none 0 0)] hF hS Fol (by kernel_rfl) (by kernel_rfl) (by kernel_rfl) ?_ (fun a w hF hS => ?_)
  · exact obs_nil
  refine seq_cut (fun a w => ∃ (out2 : List (List Int)) (A3 : Option Addr) (c3 : Nat) (hd3 : List Hd), Fr 20 [pl 3 (.slice A3 out2.length c3)] a ∧ Sep w0 B w (rows 34 3 (.slice A3 out2.length c3) hd3 out2 :: fs) ∧ (gameroomlaw_copied_J1 out2).bind some = some r) ?_ ?_
  · rintro a w ⟨out2, A3, c3, hd3, hF, hS, hm⟩
    unfold gameroomlaw_copied_J1 at hm
    refine reg [] [] [2] [pl 2 (.slice A3 out2.length c3)] hF hS Fol (by kernel_rfl) (by kernel_rfl) (by kernel_rfl) ?_ (fun a w hF hS => ?_)
    · exact obs_nil
    refine wpIn_ret ?_
    have hm : some out2 = some r := hm
    obtain rfl := Option.some.inj hm
    exact retV (rs := [.tmp 2]) (vs := [.slice A3 out2.length c3]) hF rfl (rv_t (by kernel_rfl) <| rv_nil) rfl ⟨_, rfl, A3, c3, hd3, rfl, hS⟩
  · refine reg [] [] [0, 3, 4] [pl 0 (.slice A1 l1.length c1), pl 3 (.slice none 0 0), pl 4 (.int .i64 0)] hF hS Fol (by kernel_rfl) (by kernel_rfl) (by kernel_rfl) ?_ (fun a w hF hS => ?_)
    · exact obs_nil
    refine wpIn_block ?_
    have hS := hS.nilRows0 34 3
    have hl1 := (hS.at_ 0 rfl).lenR
    have hS := (hS.at_ 0 rfl).reNR hl1
    have hS : Sep w0 B w (rows 34 3 (.slice none (([] : List (List Int)).length) 0) ([]) ([] : List (List Int)) :: fs) := hS
    have hF := hF.cast (t := 3) (v := .slice none 0 0) (v' := .slice none (([] : List (List Int)).length) 0) rfl rfl (congrArg (fun k => Value.slice none k 0) hl1)
    refine wp_loop_model (S := (List (List Int) × Int)) (R := (List (List Int))) (gameroomlaw_copied_L1 l1) (fun x => (gameroomlaw_copied_K1 x).bind some) r (fun (x : (List (List Int) × Int)) a w => ∃ (A2 : Option Addr) (c2 : Nat) (hd2 : List Hd), Fr 20 [pl 0 (.slice A1 l1.length c1), pl 3 (.slice A2 x.1.length c2), pl 4 (.int .i64 x.2)] a ∧ Sep w0 B w (rows 34 3 (.slice A2 x.1.length c2) hd2 x.1 :: fs)) (assoc_b hm) ⟨none, 0, ([]), hF.weak [0, 3, 4] (by kernel_rfl), hS⟩ ?_
    clear hF hS hm
    rintro nn1 ⟨out1, i1⟩ a w ⟨A2, c2, hd2, hF, hS⟩ hm
    generalize hφ1 : stK (gameroomlaw_copied_L1 l1) nn1 (fun x => (gameroomlaw_copied_K1 x).bind some) = φ1 at hm
    unfold gameroomlaw_copied_L1 at hm
    dsimp only at hF hS hm
    refine seq_cut (fun a w => Fr 20 [pl 0 (.slice A1 l1.length c1), pl 3 (.slice A2 out1.length c2), pl 4 (.int .i64 i1)] a ∧ Sep w0 B w (rows 34 3 (.slice A2 out1.length c2) hd2 out1 :: fs) ∧ ((gameroomlaw_copied_J2 l1 out1 i1)).bind φ1 = some r) ?_ ?_
    · rintro a w ⟨hF, hS, hm⟩
      unfold gameroomlaw_copied_J2 at hm
      refine seq_cut (fun a w => ∃ (out3 : List (List Int)) (A6 : Option Addr) (c6 : Nat) (hd4 : List Hd), Fr 20 [pl 0 (.slice A1 l1.length c1), pl 3 (.slice A6 out3.length c6), pl 4 (.int .i64 i1)] a ∧ Sep w0 B w (rows 34 3 (.slice A6 out3.length c6) hd4 out3 :: fs) ∧ ((gameroomlaw_copied_J3 i1) out3).bind φ1 = some r) ?_ ?_
      · rintro a w ⟨out3, A6, c6, hd4, hF, hS, hm⟩
        unfold gameroomlaw_copied_J3 at hm
        refine reg1 [] [] [0, 3, 4] [pl 0 (.slice A1 l1.length c1), pl 3 (.slice A6 out3.length c6), pl 4 (.int .i64 (w64 (i1 + 1)))] hF hS Fol (by kernel_rfl) (by kernel_rfl) (by kernel_rfl) ?_ (fun a w hF hS => ?_)
        · exact obs_nil
        refine then_n ?_
        rw [← hφ1] at hm
        exact ⟨(out3, (w64 (i1 + 1))), ⟨A6, c6, hd4, hF.weak [0, 3, 4] (by kernel_rfl), hS⟩, hm⟩
      · refine wpIn_block ?_
        refine oneR ?_
        obtain ⟨hp1, hm⟩ := asrt_b hm
        obtain ⟨r1, hr1, hm⟩ := call_b hm
        obtain ⟨hp2, hm⟩ := asrt_b hm
        refine at_run 5 [⟨true, [], vS (Instr.indexAt 45 (.slice A1 l1.length c1) (.int .i64 i1)), .pointer (some (sAddr A1 i1))⟩, ⟨false, [], vS (Instr.loadAt 34 (.pointer (some (sAddr A1 i1)))), .slice (hdA hd1 i1) ((geti2 l1 i1).length) (hdC hd1 i1)⟩] [none, none, none, some (.pointer (some (sAddr A1 i1))), some (.slice (hdA hd1 i1) ((geti2 l1 i1).length) (hdC hd1 i1))] [0, 4, 11, 15] [pl 0 (.slice A1 l1.length c1), pl 4 (.int .i64 i1), pl 11 (.slice A2 out1.length c2), pl 15 (.slice (hdA hd1 i1) ((geti2 l1 i1).length) (hdC hd1 i1))] hF hS (by kernel_rfl) (by kernel_rfl) ?_ (fun a w hF hS => ?_)
        · exact obs_cons (ob_ixRn Und45 hi34 hs34 (hr_l1 _ (hS.dropN 1)) rfl (fun _ => hp1)) <| obs_cons (ob_getR Agg34 (fun _ hS => ⟨_, (hr_l1 _ (hS.dropN 1))⟩) (fun _ => hp1)) <| obs_nil
        refine at_call (f := 22) (args := #[.slice (hdA hd1 i1) ((geti2 l1 i1).length) (hdC hd1 i1)]) (d := 16) hF (by kernel_rfl) (by kernel_rfl) Try.func22 (by kernel_rfl) rfl (gameroomlaw_ints_w hr1 hS (fun _ hS => ((hr_l1 _ (hS.dropN 1)).row _ hp1).1) ((hr_l1 _ (hS.dropN 1)).row _ hp1).2 rfl) (fun v a w hR hF => ?_)
        clear hS
        obtain ⟨A4, c4, rfl, hS⟩ := hR
        have hS : Sep w0 B w (own 3 (.slice A4 r1.length c4) (vI r1) :: rows 34 3 (.slice A2 out1.length c2) hd2 out1 :: fs) := hS
        refine at_do (d := 17) (s := vS (Instr.buildSlice 45 1 #[(0, .slice A4 r1.length c4)])) (v := .slice (some ⟨w.heap.size, 0, none⟩) 1 1) (w' := w.alloc (.cells #[.slice A4 r1.length c4] 34)) hF (by kernel_rfl) (by kernel_rfl) (by kernel_rfl) (fun a hF => ?_)
        have hS : Sep w0 B (w.alloc (.cells #[.slice A4 r1.length c4] 34)) (own 34 (.slice (some (⟨w.heap.size, 0, none⟩ : Addr)) 1 1) [.slice A4 r1.length c4] :: (own 3 (.slice A4 r1.length c4) (vI r1) :: rows 34 3 (.slice A2 out1.length c2) hd2 out1 :: fs)) := hS.lit 34 #[.slice A4 r1.length c4] 1 rfl (by omega)
        generalize (some (⟨w.heap.size, 0, none⟩ : Addr)) = g1 at hF hS
        generalize w.alloc (.cells #[.slice A4 r1.length c4] 34) = w at hS ⊢
        have hS := hS.pickN 3 [1, 0, 2] (by decide)
        have hS : Sep w0 B w (own 3 (.slice A4 r1.length c4) (vI r1) :: own 34 (.slice g1 1 1) [.slice A4 r1.length c4] :: rows 34 3 (.slice A2 out1.length c2) hd2 out1 :: fs) := hS
        obtain ⟨A5, c5, w, hrun, hS⟩ := run_appRow (P := Try.prog) (t := 45) (A2 := g1) (c2 := 1) (hS.at2 1 rfl) (hS.at_ 1 rfl).rd 45 Und45 hi34 hz34 hs34 hb34 hp2
        have hS : Sep w0 B w (own 34 (.slice g1 1 1) [.slice A4 r1.length c4] :: rows 34 3 (.slice A5 ((out1 ++ [r1]).length) c5) (hd2 ++ [(A4, c4)]) (out1 ++ [r1]) :: fs) := hS
        refine at_do (d := 18) hF (by kernel_rfl) (by kernel_rfl) hrun (fun a hF => ?_)
        refine at_run 1 [] [] [0, 3, 4] [pl 0 (.slice A1 l1.length c1), pl 3 (.slice A5 ((out1 ++ [r1]).length) c5), pl 4 (.int .i64 i1)] hF hS (by kernel_rfl) (by kernel_rfl) ?_ (fun a w hF hS => ?_)
        · exact obs_nil
        refine at_end [0, 3, 4] [pl 0 (.slice A1 l1.length c1), pl 3 (.slice A5 ((out1 ++ [r1]).length) c5), pl 4 (.int .i64 i1)] hF rfl (by kernel_rfl) (fun hF => ?_)
        refine block_n ?_
        refine then_n ?_
        have hS := hS.pickN 2 [1] (by decide)
        exact ⟨(out1 ++ [r1]), A5, c5, (hd2 ++ [(A4, c4)]), hF.weak [0, 3, 4] (by kernel_rfl), hS, hm⟩
    · refine reg [] [] [0, 3, 4, 8] [pl 0 (.slice A1 l1.length c1), pl 3 (.slice A2 out1.length c2), pl 4 (.int .i64 i1), pl 8 (.bool (decide (i1 < (l1.length : Int))))] hF hS Fol (by kernel_rfl) (by kernel_rfl) (by kernel_rfl) ?_ (fun a w hF hS => ?_)
      · exact obs_nil
      refine cond_ev (t := 8) (b := decide (i1 < (l1.length : Int))) hF (by kernel_rfl) (fun hb => ?_) (fun hb => ?_)
      · replace hm := if_t hm hb
        refine wpIn_skip ?_
        refine then_n ?_
        exact ⟨hF.weak [0, 3, 4] (by kernel_rfl), hS, hm⟩
      · replace hm := if_f hm hb
        refine wpIn_exit ?_
        refine then_e (then_e (block_e (then_n ?_)))
        rw [← hφ1] at hm
        replace hm := done_b hm
        unfold gameroomlaw_copied_K1 at hm
        try dsimp only at hm
        have hm : (gameroomlaw_copied_J1 out1).bind some = some r := hm
        exact ⟨out1, A2, c2, hd2, hF.weak [3] (by kernel_rfl), hS, hm⟩

noncomputable def cover_Latin_1_J5  (v1 : Int) (z2 : List Int) (many3 : Int) : Option (St (List Int × Int × Int) (Int × List Int)) :=
  some (.next (z2, many3, (w64 (v1 + 1))))

noncomputable def cover_Latin_1_J6  (rec_cover_Latin_1 : Int → Int → Int → List Int → Option (Int × List Int)) (at1 : Int) (p21 : Int) (p31 : List Int) (in2 : Int) (z1 : List Int) (many1 : Int) (v1 : Int) : Option (St (List Int × Int × Int) (Int × List Int)) :=
  asrt (0 ≤ (Int.tmod at1 p21) ∧ (Int.tmod at1 p21) < (p31.length : Int)) <| asrt ((0 : Int) ≤ v1) <| asrt (0 ≤ (Int.tmod at1 p21) ∧ (Int.tmod at1 p21) < (p31.length : Int)) <| asrt ((0 : Int) ≤ v1) <| (rec_cover_Latin_1 (w64 (at1 + 1)) (orK .u64 in2 (shlK .u64 1 v1)) p21 (z1.set (Int.toNat (Int.tmod at1 p21)) (xorK .u64 (getd (0 : Int) z1 (Int.tmod at1 p21)) (shlK .u64 1 v1)))).bind fun r1 => asrt (0 ≤ (Int.tmod at1 p21) ∧ (Int.tmod at1 p21) < (p31.length : Int)) <| asrt ((0 : Int) ≤ v1) <| asrt (0 ≤ (Int.tmod at1 p21) ∧ (Int.tmod at1 p21) < (p31.length : Int)) <| (cover_Latin_1_J5 v1) (r1.2.set (Int.toNat (Int.tmod at1 p21)) (xorK .u64 (getd (0 : Int) r1.2 (Int.tmod at1 p21)) (shlK .u64 1 v1))) (w64 (many1 + r1.1))

noncomputable def cover_Latin_1_J4  (rec_cover_Latin_1 : Int → Int → Int → List Int → Option (Int × List Int)) (at1 : Int) (p21 : Int) (p31 : List Int) (in2 : Int) (z1 : List Int) (many1 : Int) (v1 : Int) : Option (St (List Int × Int × Int) (Int × List Int)) :=
  asrt ((0 : Int) ≤ v1) <| asrt (((andK .u64 (shrK .u64 in2 v1) 1) == 1) = false → 0 ≤ (Int.tmod at1 p21) ∧ (Int.tmod at1 p21) < (p31.length : Int)) <| asrt (((andK .u64 (shrK .u64 in2 v1) 1) == 1) = false → (0 : Int) ≤ v1) <| if (((andK .u64 (shrK .u64 in2 v1) 1) == 1) || ((andK .u64 (shrK .u64 (getd (0 : Int) z1 (Int.tmod at1 p21)) v1) 1) == 1)) then ((cover_Latin_1_J5 v1) z1 many1) else ((cover_Latin_1_J6 rec_cover_Latin_1 at1 p21 p31 in2 z1 many1 v1))

noncomputable def cover_Latin_1_J3  (many2 : Int) (p33 : List Int) : Option (Int × List Int) :=
  some (many2, p33)

noncomputable def cover_Latin_1_K1  : (Int × List Int) → Option (Int × List Int) :=
  fun (x : (Int × List Int)) => match x with | (many2, p33) => cover_Latin_1_J3 many2 p33

noncomputable def cover_Latin_1_L1  (rec_cover_Latin_1 : Int → Int → Int → List Int → Option (Int × List Int)) (at1 : Int) (p21 : Int) (p31 : List Int) (in2 : Int) : (List Int × Int × Int) → Option (St (List Int × Int × Int) (Int × List Int)) :=
  fun (x : (List Int × Int × Int)) => match x with | (z1, many1, v1) => if (decide (v1 ≤ p21)) then ((cover_Latin_1_J4 rec_cover_Latin_1 at1 p21 p31 in2 z1 many1 v1)) else (some (.done (many1, z1)))

noncomputable def cover_Latin_1_J2  (rec_cover_Latin_1 : Int → Int → Int → List Int → Option (Int × List Int)) (at1 : Int) (p21 : Int) (p31 : List Int) (in2 : Int) : Option (Int × List Int) :=
  (loop (cover_Latin_1_L1 rec_cover_Latin_1 at1 p21 p31 in2) (p31, 0, 1)).bind cover_Latin_1_K1

noncomputable def cover_Latin_1_J1  (rec_cover_Latin_1 : Int → Int → Int → List Int → Option (Int × List Int)) (at1 : Int) (p21 : Int) (p31 : List Int) (in2 : Int) : Option (Int × List Int) :=
  if (at1 == (w64 (p21 * p21))) then (some (1, p31)) else ((cover_Latin_1_J2 rec_cover_Latin_1 at1 p21 p31 in2))

noncomputable def cover_Latin_1_B (rec_cover_Latin_1 : Int → Int → Int → List Int → Option (Int × List Int)) (at1 : Int) (in1 : Int) (p21 : Int) (p31 : List Int) : Option (Int × List Int) :=
  asrt (p21 ≠ (0 : Int)) <| if ((Int.tmod at1 p21) == 0) then ((cover_Latin_1_J1 rec_cover_Latin_1 at1 p21 p31) 0) else ((cover_Latin_1_J1 rec_cover_Latin_1 at1 p21 p31) in1)

noncomputable def cover_Latin_1_mF : Nat → Int → Int → Int → List Int → Option (Int × List Int)
  | 0 => fun _ _ _ _ => none
  | n + 1 => fun at1 in1 p21 p31 => cover_Latin_1_B (cover_Latin_1_mF n) at1 in1 p21 p31

noncomputable def cover_Latin_1_m (at1 : Int) (in1 : Int) (p21 : Int) (p31 : List Int) : Option (Int × List Int) :=
  recM fun n => cover_Latin_1_mF n at1 in1 p21 p31

set_option maxRecDepth 100000 in
set_option maxHeartbeats 4000000 in
theorem cover_Latin_1_wB {rec_cover_Latin_1 : Int → Int → Int → List Int → Option (Int × List Int)} (ih_cover_Latin_1 : ∀ {at1 : Int} {in1 : Int} {g1 : Nat} {p21 : Int} {g2 : Nat} {A1 : Option Addr} {c1 : Nat} {n1 : Nat} {p31 : List Int} {g3 : Nat} {r : (Int × List Int)} {w0 w : World} {B : Nat} {fs : List HP} (_ : rec_cover_Latin_1 at1 in1 p21 p31 = some r) (_ : Sep w0 B w (blk g1 3 #[.int .i64 p21] :: blk g2 113 #[.slice A1 n1 c1] :: own 111 (.slice A1 n1 c1) ((List.map (Value.int .u64) p31)) :: blk g3 114 #[.func (.func 77) #[] #[.pointer (some ⟨g1, 0, none⟩), .pointer (some ⟨g2, 0, none⟩), .pointer (some ⟨g3, 0, none⟩)]] :: fs)), Calls Try.prog 77 #[.int .i64 at1, .int .u64 in1, .pointer (some ⟨g1, 0, none⟩), .pointer (some ⟨g2, 0, none⟩), .pointer (some ⟨g3, 0, none⟩)] w fun e w' => ∃ v, e = .returned v ∧ v = .int .i64 r.1 ∧ Sep w0 B w' (blk g1 3 #[.int .i64 p21] :: blk g2 113 #[.slice A1 n1 c1] :: own 111 (.slice A1 n1 c1) ((List.map (Value.int .u64) r.2)) :: blk g3 114 #[.func (.func 77) #[] #[.pointer (some ⟨g1, 0, none⟩), .pointer (some ⟨g2, 0, none⟩), .pointer (some ⟨g3, 0, none⟩)]] :: fs)) {at1 : Int} {in1 : Int} {g1 : Nat} {p21 : Int} {g2 : Nat} {A1 : Option Addr} {c1 : Nat} {n1 : Nat} {p31 : List Int} {g3 : Nat} {r : (Int × List Int)} {w0 w : World} {B : Nat} {fs : List HP} (hm : cover_Latin_1_B rec_cover_Latin_1 at1 in1 p21 p31 = some r) (hS : Sep w0 B w (blk g1 3 #[.int .i64 p21] :: blk g2 113 #[.slice A1 n1 c1] :: own 111 (.slice A1 n1 c1) ((List.map (Value.int .u64) p31)) :: blk g3 114 #[.func (.func 77) #[] #[.pointer (some ⟨g1, 0, none⟩), .pointer (some ⟨g2, 0, none⟩), .pointer (some ⟨g3, 0, none⟩)]] :: fs)) :
    Calls Try.prog 77 #[.int .i64 at1, .int .u64 in1, .pointer (some ⟨g1, 0, none⟩), .pointer (some ⟨g2, 0, none⟩), .pointer (some ⟨g3, 0, none⟩)] w fun e w' => ∃ v, e = .returned v ∧ v = .int .i64 r.1 ∧ Sep w0 B w' (blk g1 3 #[.int .i64 p21] :: blk g2 113 #[.slice A1 n1 c1] :: own 111 (.slice A1 n1 c1) ((List.map (Value.int .u64) r.2)) :: blk g3 114 #[.func (.func 77) #[] #[.pointer (some ⟨g1, 0, none⟩), .pointer (some ⟨g2, 0, none⟩), .pointer (some ⟨g3, 0, none⟩)]] :: fs) := by
  obtain ⟨i111, hi111, hz111, hs111, hb111⟩ := info_parts Info111
  obtain rfl := (hS.at_ 2 rfl).len1
  unfold cover_Latin_1_B at hm
  replace hm := start_b hm
  refine enter (l := [.int .i64 at1, .int .u64 in1, .pointer (some ⟨g1, 0, none⟩), .pointer (some ⟨g2, 0, none⟩), .pointer (some ⟨g3, 0, none⟩)]) (n := 68) Try.func77 rfl rfl (by simp) (fun a hF => ?_)
  refine reg [] [] [0, 1, 2, 3, 4] [pl 0 (.int .i64 at1), pl 1 (.int .u64 in1), pl 2 (.pointer (some ⟨g1, 0, none⟩)), pl 3 (.pointer (some ⟨g2, 0, none⟩)), pl 4 (.pointer (some ⟨g3, 0, none⟩))] hF hS Fol (by kernel_rfl) (by kernel_rfl) (by kernel_rfl) ?_ (fun a w hF hS => ?_)
  · exact obs_nil
  obtain ⟨hp1, hm⟩ := asrt_b hm
  refine reg [⟨false, [], vS (Instr.loadAt 3 (.pointer (some ⟨g1, 0, none⟩))), .int .i64 p21⟩, ⟨true, [], vS (Op.intDiv .rem .i64 at1 p21), .int .i64 (Int.tmod at1 p21)⟩] [none, some (.int .i64 p21), some (.int .i64 (Int.tmod at1 p21)), none] [0, 1, 2, 3, 4, 8] [pl 0 (.int .i64 at1), pl 1 (.int .u64 in1), pl 2 (.pointer (some ⟨g1, 0, none⟩)), pl 3 (.pointer (some ⟨g2, 0, none⟩)), pl 4 (.pointer (some ⟨g3, 0, none⟩)), pl 8 (.int .i64 (Int.tmod at1 p21))] hF hS Fol (by kernel_rfl) (by kernel_rfl) (by kernel_rfl) ?_ (fun a w hF hS => ?_)
  · exact obs_cons (ob_load Agg3 (fun _ _ hS => (hS.at_ 0 rfl).cell rfl)) <| obs_cons (ob_rem rfl (fun _ => hp1)) <| obs_nil
  refine seq_cut (fun a w => ∃ (in2 : Int), Fr 68 [pl 0 (.int .i64 at1), pl 1 (.int .u64 in2), pl 2 (.pointer (some ⟨g1, 0, none⟩)), pl 3 (.pointer (some ⟨g2, 0, none⟩)), pl 4 (.pointer (some ⟨g3, 0, none⟩)), pl 8 (.int .i64 (Int.tmod at1 p21))] a ∧ Sep w0 B w (blk g1 3 #[.int .i64 p21] :: blk g2 113 #[.slice A1 p31.length c1] :: own 111 (.slice A1 p31.length c1) ((List.map (Value.int .u64) p31)) :: blk g3 114 #[.func (.func 77) #[] #[.pointer (some ⟨g1, 0, none⟩), .pointer (some ⟨g2, 0, none⟩), .pointer (some ⟨g3, 0, none⟩)]] :: fs) ∧ ((cover_Latin_1_J1 rec_cover_Latin_1 at1 p21 p31) in2).bind some = some r) ?_ ?_
  · rintro a w ⟨in2, hF, hS, hm⟩
    unfold cover_Latin_1_J1 at hm
    refine seq_cut (fun a w => Fr 68 [pl 0 (.int .i64 at1), pl 1 (.int .u64 in2), pl 2 (.pointer (some ⟨g1, 0, none⟩)), pl 3 (.pointer (some ⟨g2, 0, none⟩)), pl 4 (.pointer (some ⟨g3, 0, none⟩)), pl 8 (.int .i64 (Int.tmod at1 p21))] a ∧ Sep w0 B w (blk g1 3 #[.int .i64 p21] :: blk g2 113 #[.slice A1 p31.length c1] :: own 111 (.slice A1 p31.length c1) ((List.map (Value.int .u64) p31)) :: blk g3 114 #[.func (.func 77) #[] #[.pointer (some ⟨g1, 0, none⟩), .pointer (some ⟨g2, 0, none⟩), .pointer (some ⟨g3, 0, none⟩)]] :: fs) ∧ ((cover_Latin_1_J2 rec_cover_Latin_1 at1 p21 p31 in2)).bind some = some r) ?_ ?_
    · rintro a w ⟨hF, hS, hm⟩
      unfold cover_Latin_1_J2 at hm
      refine reg [] [] [0, 1, 2, 3, 4, 8, 9] [pl 0 (.int .i64 at1), pl 1 (.int .u64 in2), pl 2 (.pointer (some ⟨g1, 0, none⟩)), pl 3 (.pointer (some ⟨g2, 0, none⟩)), pl 4 (.pointer (some ⟨g3, 0, none⟩)), pl 8 (.int .i64 (Int.tmod at1 p21)), pl 9 (.int .i64 0)] hF hS Fol (by kernel_rfl) (by kernel_rfl) (by kernel_rfl) ?_ (fun a w hF hS => ?_)
      · exact obs_nil
      refine seq_cut (fun a w => ∃ (many2 : Int) (p33 : List Int), Fr 68 [pl 9 (.int .i64 many2)] a ∧ Sep w0 B w (blk g1 3 #[.int .i64 p21] :: blk g2 113 #[.slice A1 p31.length c1] :: own 111 (.slice A1 p31.length c1) ((List.map (Value.int .u64) p33)) :: blk g3 114 #[.func (.func 77) #[] #[.pointer (some ⟨g1, 0, none⟩), .pointer (some ⟨g2, 0, none⟩), .pointer (some ⟨g3, 0, none⟩)]] :: fs) ∧ (cover_Latin_1_J3 many2 p33).bind some = some r) ?_ ?_
      · rintro a w ⟨many2, p33, hF, hS, hm⟩
        unfold cover_Latin_1_J3 at hm
        refine reg [] [] [7] [pl 7 (.int .i64 many2)] hF hS Fol (by kernel_rfl) (by kernel_rfl) (by kernel_rfl) ?_ (fun a w hF hS => ?_)
        · exact obs_nil
        refine wpIn_ret ?_
        have hm : some (many2, p33) = some r := hm
        obtain rfl := Option.some.inj hm
        exact retV (rs := [.tmp 7]) (vs := [.int .i64 many2]) hF rfl (rv_t (by kernel_rfl) <| rv_nil) rfl ⟨_, rfl, rfl, hS⟩
      · refine reg [] [] [0, 1, 2, 3, 4, 8, 9, 10] [pl 0 (.int .i64 at1), pl 1 (.int .u64 in2), pl 2 (.pointer (some ⟨g1, 0, none⟩)), pl 3 (.pointer (some ⟨g2, 0, none⟩)), pl 4 (.pointer (some ⟨g3, 0, none⟩)), pl 8 (.int .i64 (Int.tmod at1 p21)), pl 9 (.int .i64 0), pl 10 (.int .i64 1)] hF hS Fol (by kernel_rfl) (by kernel_rfl) (by kernel_rfl) ?_ (fun a w hF hS => ?_)
        · exact obs_nil
        refine wpIn_block ?_
        refine wp_loop_model (S := (List Int × Int × Int)) (R := (Int × List Int)) (cover_Latin_1_L1 rec_cover_Latin_1 at1 p21 p31 in2) (fun x => (cover_Latin_1_K1 x).bind some) r (fun (x : (List Int × Int × Int)) a w => Fr 68 [pl 0 (.int .i64 at1), pl 1 (.int .u64 in2), pl 2 (.pointer (some ⟨g1, 0, none⟩)), pl 3 (.pointer (some ⟨g2, 0, none⟩)), pl 4 (.pointer (some ⟨g3, 0, none⟩)), pl 8 (.int .i64 (Int.tmod at1 p21)), pl 9 (.int .i64 x.2.1), pl 10 (.int .i64 x.2.2)] a ∧ Sep w0 B w (blk g1 3 #[.int .i64 p21] :: blk g2 113 #[.slice A1 p31.length c1] :: own 111 (.slice A1 p31.length c1) ((List.map (Value.int .u64) x.1)) :: blk g3 114 #[.func (.func 77) #[] #[.pointer (some ⟨g1, 0, none⟩), .pointer (some ⟨g2, 0, none⟩), .pointer (some ⟨g3, 0, none⟩)]] :: fs)) (assoc_b hm) ⟨hF.weak [0, 1, 2, 3, 4, 8, 9, 10] (by kernel_rfl), hS⟩ ?_
        clear hF hS hm
        rintro nn1 ⟨z1, many1, v1⟩ a w ⟨hF, hS⟩ hm
        generalize hφ1 : stK (cover_Latin_1_L1 rec_cover_Latin_1 at1 p21 p31 in2) nn1 (fun x => (cover_Latin_1_K1 x).bind some) = φ1 at hm
        unfold cover_Latin_1_L1 at hm
        dsimp only at hF hS hm
        refine seq_cut (fun a w => Fr 68 [pl 0 (.int .i64 at1), pl 1 (.int .u64 in2), pl 2 (.pointer (some ⟨g1, 0, none⟩)), pl 3 (.pointer (some ⟨g2, 0, none⟩)), pl 4 (.pointer (some ⟨g3, 0, none⟩)), pl 8 (.int .i64 (Int.tmod at1 p21)), pl 9 (.int .i64 many1), pl 10 (.int .i64 v1)] a ∧ Sep w0 B w (blk g1 3 #[.int .i64 p21] :: blk g2 113 #[.slice A1 p31.length c1] :: own 111 (.slice A1 p31.length c1) ((List.map (Value.int .u64) z1)) :: blk g3 114 #[.func (.func 77) #[] #[.pointer (some ⟨g1, 0, none⟩), .pointer (some ⟨g2, 0, none⟩), .pointer (some ⟨g3, 0, none⟩)]] :: fs) ∧ ((cover_Latin_1_J4 rec_cover_Latin_1 at1 p21 p31 in2 z1 many1 v1)).bind φ1 = some r) ?_ ?_
        · rintro a w ⟨hF, hS, hm⟩
          unfold cover_Latin_1_J4 at hm
          refine seq_cut (fun a w => ∃ (z2 : List Int) (many3 : Int), Fr 68 [pl 0 (.int .i64 at1), pl 1 (.int .u64 in2), pl 2 (.pointer (some ⟨g1, 0, none⟩)), pl 3 (.pointer (some ⟨g2, 0, none⟩)), pl 4 (.pointer (some ⟨g3, 0, none⟩)), pl 8 (.int .i64 (Int.tmod at1 p21)), pl 9 (.int .i64 many3), pl 10 (.int .i64 v1)] a ∧ Sep w0 B w (blk g1 3 #[.int .i64 p21] :: blk g2 113 #[.slice A1 p31.length c1] :: own 111 (.slice A1 p31.length c1) ((List.map (Value.int .u64) z2)) :: blk g3 114 #[.func (.func 77) #[] #[.pointer (some ⟨g1, 0, none⟩), .pointer (some ⟨g2, 0, none⟩), .pointer (some ⟨g3, 0, none⟩)]] :: fs) ∧ ((cover_Latin_1_J5 v1) z2 many3).bind φ1 = some r) ?_ ?_
          · rintro a w ⟨z2, many3, hF, hS, hm⟩
            unfold cover_Latin_1_J5 at hm
            refine reg1 [] [] [0, 1, 2, 3, 4, 8, 9, 10] [pl 0 (.int .i64 at1), pl 1 (.int .u64 in2), pl 2 (.pointer (some ⟨g1, 0, none⟩)), pl 3 (.pointer (some ⟨g2, 0, none⟩)), pl 4 (.pointer (some ⟨g3, 0, none⟩)), pl 8 (.int .i64 (Int.tmod at1 p21)), pl 9 (.int .i64 many3), pl 10 (.int .i64 (w64 (v1 + 1)))] hF hS Fol (by kernel_rfl) (by kernel_rfl) (by kernel_rfl) ?_ (fun a w hF hS => ?_)
            · exact obs_nil
            refine then_n ?_
            rw [← hφ1] at hm
            exact ⟨(z2, many3, (w64 (v1 + 1))), ⟨hF.weak [0, 1, 2, 3, 4, 8, 9, 10] (by kernel_rfl), hS⟩, hm⟩
          · refine wpIn_block ?_
            refine seq_cut (fun a w => Fr 68 [pl 0 (.int .i64 at1), pl 1 (.int .u64 in2), pl 2 (.pointer (some ⟨g1, 0, none⟩)), pl 3 (.pointer (some ⟨g2, 0, none⟩)), pl 4 (.pointer (some ⟨g3, 0, none⟩)), pl 8 (.int .i64 (Int.tmod at1 p21)), pl 9 (.int .i64 many1), pl 10 (.int .i64 v1)] a ∧ Sep w0 B w (blk g1 3 #[.int .i64 p21] :: blk g2 113 #[.slice A1 p31.length c1] :: own 111 (.slice A1 p31.length c1) ((List.map (Value.int .u64) z1)) :: blk g3 114 #[.func (.func 77) #[] #[.pointer (some ⟨g1, 0, none⟩), .pointer (some ⟨g2, 0, none⟩), .pointer (some ⟨g3, 0, none⟩)]] :: fs) ∧ ((cover_Latin_1_J6 rec_cover_Latin_1 at1 p21 p31 in2 z1 many1 v1)).bind φ1 = some r) ?_ ?_
            · rintro a w ⟨hF, hS, hm⟩
              unfold cover_Latin_1_J6 at hm
              refine wpIn_seq ?_
              obtain ⟨hp5, hm⟩ := asrt_b hm
              obtain ⟨hp6, hm⟩ := asrt_b hm
              obtain ⟨hp7, hm⟩ := asrt_b hm
              refine regMix4 [0, 1, 2, 3, 4, 5, 6, 7] [8] [⟨false, [], vS (Instr.loadAt 113 (.pointer (some ⟨g2, 0, none⟩))), .slice A1 p31.length c1⟩, ⟨true, [], vS (Instr.indexAt 113 (.slice A1 p31.length c1) (.int .i64 (Int.tmod at1 p21))), .pointer (some (sAddr A1 (Int.tmod at1 p21)))⟩, ⟨false, [], vS (Instr.loadAt 111 (.pointer (some (sAddr A1 (Int.tmod at1 p21))))), .int .u64 (getd (0 : Int) z1 (Int.tmod at1 p21))⟩, ⟨true, [], vS (Op.shift .shl .u64 1 .i64 v1), .int .u64 (shlK .u64 1 v1)⟩, ⟨true, [], vS (Instr.indexAt 113 (.slice A1 p31.length c1) (.int .i64 (Int.tmod at1 p21))), .pointer (some (sAddr A1 (Int.tmod at1 p21)))⟩] [some (.slice A1 p31.length c1), none, some (.pointer (some (sAddr A1 (Int.tmod at1 p21)))), some (.int .u64 (getd (0 : Int) z1 (Int.tmod at1 p21))), none, some (.int .u64 (shlK .u64 1 v1)), none, some (.pointer (some (sAddr A1 (Int.tmod at1 p21))))] [0, 1, 2, 3, 4, 8, 9, 10, 47, 48] [pl 0 (.int .i64 at1), pl 1 (.int .u64 in2), pl 2 (.pointer (some ⟨g1, 0, none⟩)), pl 3 (.pointer (some ⟨g2, 0, none⟩)), pl 4 (.pointer (some ⟨g3, 0, none⟩)), pl 8 (.int .i64 (Int.tmod at1 p21)), pl 9 (.int .i64 many1), pl 10 (.int .i64 v1), pl 47 (.int .u64 (xorK .u64 (getd (0 : Int) z1 (Int.tmod at1 p21)) (shlK .u64 1 v1))), pl 48 (.pointer (some (sAddr A1 (Int.tmod at1 p21))))] hF hS Fol (by kernel_rfl) (by kernel_rfl) (by kernel_rfl) (by kernel_rfl) (by kernel_rfl) ?_ (fun a w hF hS => ?_)
              · exact obs_cons (ob_load Agg113 (fun _ _ hS => (hS.at_ 1 rfl).cell rfl)) <| obs_cons (ob_ix1 (f := (Value.int .u64)) (m := z1) Und113 hi111 hs111 (hS.at_ 2 rfl).rd ((hS.at_ 2 rfl).len1) (fun _ => hp5)) <| obs_cons (ob_get1 (n := p31.length) (m := z1) (Value.int .u64) (0 : Int) Agg111 (fun _ hS => ⟨_, (hS.at_ 2 rfl).rd⟩) (fun _ hS => ((hS.at_ 2 rfl).len1)) (fun _ => hp5)) <| obs_cons (ob_shl (fun _ => hp6)) <| obs_cons (ob_ix1 (f := (Value.int .u64)) (m := z1) Und113 hi111 hs111 (hS.at_ 2 rfl).rd ((hS.at_ 2 rfl).len1) (fun _ => hp7)) <| obs_nil
              obtain ⟨w, hrun, hS⟩ := run_set1 (P := Try.prog) (t := 111) (x := (xorK .u64 (getd (0 : Int) z1 (Int.tmod at1 p21)) (shlK .u64 1 v1))) (Value.int .u64) (hS.at_ 2 rfl) hi111 hs111 rfl rfl hp7
              refine at_skip hF (by kernel_rfl) hrun ?_
              have hS : Sep w0 B w (blk g1 3 #[.int .i64 p21] :: blk g2 113 #[.slice A1 p31.length c1] :: own 111 (.slice A1 p31.length c1) ((List.map (Value.int .u64) (z1.set (Int.toNat (Int.tmod at1 p21)) (xorK .u64 (getd (0 : Int) z1 (Int.tmod at1 p21)) (shlK .u64 1 v1))))) :: blk g3 114 #[.func (.func 77) #[] #[.pointer (some ⟨g1, 0, none⟩), .pointer (some ⟨g2, 0, none⟩), .pointer (some ⟨g3, 0, none⟩)]] :: fs) := hS
              refine at_end [0, 1, 2, 3, 4, 8, 9, 10] [pl 0 (.int .i64 at1), pl 1 (.int .u64 in2), pl 2 (.pointer (some ⟨g1, 0, none⟩)), pl 3 (.pointer (some ⟨g2, 0, none⟩)), pl 4 (.pointer (some ⟨g3, 0, none⟩)), pl 8 (.int .i64 (Int.tmod at1 p21)), pl 9 (.int .i64 many1), pl 10 (.int .i64 v1)] hF rfl (by kernel_rfl) (fun hF => ?_)
              refine np_n ?_
              refine then_n ?_
              refine wpIn_seq ?_
              obtain ⟨hp8, hm⟩ := asrt_b hm
              obtain ⟨r1, hr1, hm⟩ := call_b hm
              refine regMix4 [0, 1, 2, 3, 4, 5, 6, 7] [8, 9, 10] [⟨false, [], vS (Instr.loadAt 114 (.pointer (some ⟨g3, 0, none⟩))), .func (.func 77) #[] #[.pointer (some ⟨g1, 0, none⟩), .pointer (some ⟨g2, 0, none⟩), .pointer (some ⟨g3, 0, none⟩)]⟩, ⟨true, [], vS (Op.shift .shl .u64 1 .i64 v1), .int .u64 (shlK .u64 1 v1)⟩] [none, some (.func (.func 77) #[] #[.pointer (some ⟨g1, 0, none⟩), .pointer (some ⟨g2, 0, none⟩), .pointer (some ⟨g3, 0, none⟩)]), none, none, none, none, some (.int .u64 (shlK .u64 1 v1)), none] [0, 1, 2, 3, 4, 8, 10, 49, 50, 52, 56] [pl 0 (.int .i64 at1), pl 1 (.int .u64 in2), pl 2 (.pointer (some ⟨g1, 0, none⟩)), pl 3 (.pointer (some ⟨g2, 0, none⟩)), pl 4 (.pointer (some ⟨g3, 0, none⟩)), pl 8 (.int .i64 (Int.tmod at1 p21)), pl 10 (.int .i64 v1), pl 49 (.int .i64 many1), pl 50 (.func (.func 77) #[] #[.pointer (some ⟨g1, 0, none⟩), .pointer (some ⟨g2, 0, none⟩), .pointer (some ⟨g3, 0, none⟩)]), pl 52 (.int .i64 (w64 (at1 + 1))), pl 56 (.int .u64 (orK .u64 in2 (shlK .u64 1 v1)))] hF hS Fol (by kernel_rfl) (by kernel_rfl) (by kernel_rfl) (by kernel_rfl) (by kernel_rfl) ?_ (fun a w hF hS => ?_)
              · exact obs_cons (ob_load Agg114 (fun _ _ hS => (hS.at_ 3 rfl).cell rfl)) <| obs_cons (ob_shl (fun _ => hp8)) <| obs_nil
              refine at_call (f := 77) (args := #[.int .i64 (w64 (at1 + 1)), .int .u64 (orK .u64 in2 (shlK .u64 1 v1)), .pointer (some ⟨g1, 0, none⟩), .pointer (some ⟨g2, 0, none⟩), .pointer (some ⟨g3, 0, none⟩)]) (d := 57) hF (by kernel_rfl) (by kernel_rfl) Try.func77 (by kernel_rfl) rfl (ih_cover_Latin_1 hr1 hS ) (fun v a w hR hF => ?_)
              clear hS
              obtain ⟨rfl, hS⟩ := hR
              have hS : Sep w0 B w (blk g1 3 #[.int .i64 p21] :: blk g2 113 #[.slice A1 p31.length c1] :: own 111 (.slice A1 p31.length c1) ((List.map (Value.int .u64) r1.2)) :: blk g3 114 #[.func (.func 77) #[] #[.pointer (some ⟨g1, 0, none⟩), .pointer (some ⟨g2, 0, none⟩), .pointer (some ⟨g3, 0, none⟩)]] :: fs) := hS
              refine at_run 2 [] [] [0, 1, 2, 3, 4, 8, 9, 10] [pl 0 (.int .i64 at1), pl 1 (.int .u64 in2), pl 2 (.pointer (some ⟨g1, 0, none⟩)), pl 3 (.pointer (some ⟨g2, 0, none⟩)), pl 4 (.pointer (some ⟨g3, 0, none⟩)), pl 8 (.int .i64 (Int.tmod at1 p21)), pl 9 (.int .i64 (w64 (many1 + r1.1))), pl 10 (.int .i64 v1)] hF hS (by kernel_rfl) (by kernel_rfl) ?_ (fun a w hF hS => ?_)
              · exact obs_nil
              refine at_end [0, 1, 2, 3, 4, 8, 9, 10] [pl 0 (.int .i64 at1), pl 1 (.int .u64 in2), pl 2 (.pointer (some ⟨g1, 0, none⟩)), pl 3 (.pointer (some ⟨g2, 0, none⟩)), pl 4 (.pointer (some ⟨g3, 0, none⟩)), pl 8 (.int .i64 (Int.tmod at1 p21)), pl 9 (.int .i64 (w64 (many1 + r1.1))), pl 10 (.int .i64 v1)] hF rfl (by kernel_rfl) (fun hF => ?_)
              refine np_n ?_
              refine then_n ?_
              obtain ⟨hp9, hm⟩ := asrt_b hm
              obtain ⟨hp10, hm⟩ := asrt_b hm
              obtain ⟨hp11, hm⟩ := asrt_b hm
              refine regMix4 [0, 1, 2, 3, 4, 5, 6, 7] [8] [⟨false, [], vS (Instr.loadAt 113 (.pointer (some ⟨g2, 0, none⟩))), .slice A1 p31.length c1⟩, ⟨true, [], vS (Instr.indexAt 113 (.slice A1 p31.length c1) (.int .i64 (Int.tmod at1 p21))), .pointer (some (sAddr A1 (Int.tmod at1 p21)))⟩, ⟨false, [], vS (Instr.loadAt 111 (.pointer (some (sAddr A1 (Int.tmod at1 p21))))), .int .u64 (getd (0 : Int) r1.2 (Int.tmod at1 p21))⟩, ⟨true, [], vS (Op.shift .shl .u64 1 .i64 v1), .int .u64 (shlK .u64 1 v1)⟩, ⟨true, [], vS (Instr.indexAt 113 (.slice A1 p31.length c1) (.int .i64 (Int.tmod at1 p21))), .pointer (some (sAddr A1 (Int.tmod at1 p21)))⟩] [some (.slice A1 p31.length c1), none, some (.pointer (some (sAddr A1 (Int.tmod at1 p21)))), some (.int .u64 (getd (0 : Int) r1.2 (Int.tmod at1 p21))), none, some (.int .u64 (shlK .u64 1 v1)), none, some (.pointer (some (sAddr A1 (Int.tmod at1 p21))))] [0, 1, 2, 3, 4, 8, 9, 10, 65, 66] [pl 0 (.int .i64 at1), pl 1 (.int .u64 in2), pl 2 (.pointer (some ⟨g1, 0, none⟩)), pl 3 (.pointer (some ⟨g2, 0, none⟩)), pl 4 (.pointer (some ⟨g3, 0, none⟩)), pl 8 (.int .i64 (Int.tmod at1 p21)), pl 9 (.int .i64 (w64 (many1 + r1.1))), pl 10 (.int .i64 v1), pl 65 (.int .u64 (xorK .u64 (getd (0 : Int) r1.2 (Int.tmod at1 p21)) (shlK .u64 1 v1))), pl 66 (.pointer (some (sAddr A1 (Int.tmod at1 p21))))] hF hS Fol (by kernel_rfl) (by kernel_rfl) (by kernel_rfl) (by kernel_rfl) (by kernel_rfl) ?_ (fun a w hF hS => ?_)
              · exact obs_cons (ob_load Agg113 (fun _ _ hS => (hS.at_ 1 rfl).cell rfl)) <| obs_cons (ob_ix1 (f := (Value.int .u64)) (m := r1.2) Und113 hi111 hs111 (hS.at_ 2 rfl).rd ((hS.at_ 2 rfl).len1) (fun _ => hp9)) <| obs_cons (ob_get1 (n := p31.length) (m := r1.2) (Value.int .u64) (0 : Int) Agg111 (fun _ hS => ⟨_, (hS.at_ 2 rfl).rd⟩) (fun _ hS => ((hS.at_ 2 rfl).len1)) (fun _ => hp9)) <| obs_cons (ob_shl (fun _ => hp10)) <| obs_cons (ob_ix1 (f := (Value.int .u64)) (m := r1.2) Und113 hi111 hs111 (hS.at_ 2 rfl).rd ((hS.at_ 2 rfl).len1) (fun _ => hp11)) <| obs_nil
              obtain ⟨w, hrun, hS⟩ := run_set1 (P := Try.prog) (t := 111) (x := (xorK .u64 (getd (0 : Int) r1.2 (Int.tmod at1 p21)) (shlK .u64 1 v1))) (Value.int .u64) (hS.at_ 2 rfl) hi111 hs111 rfl rfl hp11
              refine at_skip hF (by kernel_rfl) hrun ?_
              have hS : Sep w0 B w (blk g1 3 #[.int .i64 p21] :: blk g2 113 #[.slice A1 p31.length c1] :: own 111 (.slice A1 p31.length c1) ((List.map (Value.int .u64) (r1.2.set (Int.toNat (Int.tmod at1 p21)) (xorK .u64 (getd (0 : Int) r1.2 (Int.tmod at1 p21)) (shlK .u64 1 v1))))) :: blk g3 114 #[.func (.func 77) #[] #[.pointer (some ⟨g1, 0, none⟩), .pointer (some ⟨g2, 0, none⟩), .pointer (some ⟨g3, 0, none⟩)]] :: fs) := hS
              refine at_end [0, 1, 2, 3, 4, 8, 9, 10] [pl 0 (.int .i64 at1), pl 1 (.int .u64 in2), pl 2 (.pointer (some ⟨g1, 0, none⟩)), pl 3 (.pointer (some ⟨g2, 0, none⟩)), pl 4 (.pointer (some ⟨g3, 0, none⟩)), pl 8 (.int .i64 (Int.tmod at1 p21)), pl 9 (.int .i64 (w64 (many1 + r1.1))), pl 10 (.int .i64 v1)] hF rfl (by kernel_rfl) (fun hF => ?_)
              refine np_n ?_
              refine block_n ?_
              refine then_n ?_
              exact ⟨(r1.2.set (Int.toNat (Int.tmod at1 p21)) (xorK .u64 (getd (0 : Int) r1.2 (Int.tmod at1 p21)) (shlK .u64 1 v1))), (w64 (many1 + r1.1)), hF.weak [0, 1, 2, 3, 4, 8, 9, 10] (by kernel_rfl), hS, hm⟩
            · obtain ⟨hp2, hm⟩ := asrt_b hm
              obtain ⟨hp3, hm⟩ := asrt_b hm
              obtain ⟨hp4, hm⟩ := asrt_b hm
              refine reg [⟨true, [], vS (Op.shift .shr .u64 in2 .i64 v1), .int .u64 (shrK .u64 in2 v1)⟩, ⟨false, [(((andK .u64 (shrK .u64 in2 v1) 1) == 1), false)], vS (Instr.loadAt 113 (.pointer (some ⟨g2, 0, none⟩))), .slice A1 p31.length c1⟩, ⟨true, [(((andK .u64 (shrK .u64 in2 v1) 1) == 1), false)], vS (Instr.indexAt 113 (.slice A1 p31.length c1) (.int .i64 (Int.tmod at1 p21))), .pointer (some (sAddr A1 (Int.tmod at1 p21)))⟩, ⟨false, [(((andK .u64 (shrK .u64 in2 v1) 1) == 1), false)], vS (Instr.loadAt 111 (.pointer (some (sAddr A1 (Int.tmod at1 p21))))), .int .u64 (getd (0 : Int) z1 (Int.tmod at1 p21))⟩, ⟨true, [(((andK .u64 (shrK .u64 in2 v1) 1) == 1), false)], vS (Op.shift .shr .u64 (getd (0 : Int) z1 (Int.tmod at1 p21)) .i64 v1), .int .u64 (shrK .u64 (getd (0 : Int) z1 (Int.tmod at1 p21)) v1)⟩] [none, none, some (.int .u64 (shrK .u64 in2 v1)), none, none, none, some (.slice A1 p31.length c1), none, some (.pointer (some (sAddr A1 (Int.tmod at1 p21)))), some (.int .u64 (getd (0 : Int) z1 (Int.tmod at1 p21))), none, some (.int .u64 (shrK .u64 (getd (0 : Int) z1 (Int.tmod at1 p21)) v1)), none, none, none] [0, 1, 2, 3, 4, 8, 9, 10, 40] [pl 0 (.int .i64 at1), pl 1 (.int .u64 in2), pl 2 (.pointer (some ⟨g1, 0, none⟩)), pl 3 (.pointer (some ⟨g2, 0, none⟩)), pl 4 (.pointer (some ⟨g3, 0, none⟩)), pl 8 (.int .i64 (Int.tmod at1 p21)), pl 9 (.int .i64 many1), pl 10 (.int .i64 v1), pl 40 (.bool (((andK .u64 (shrK .u64 in2 v1) 1) == 1) || ((andK .u64 (shrK .u64 (getd (0 : Int) z1 (Int.tmod at1 p21)) v1) 1) == 1)))] hF hS Fol (by kernel_rfl) (by kernel_rfl) (by kernel_rfl) ?_ (fun a w hF hS => ?_)
              · exact obs_cons (ob_shr (fun _ => hp2)) <| obs_cons (ob_load Agg113 (fun _ _ hS => (hS.at_ 1 rfl).cell rfl)) <| obs_cons (ob_ix1 (f := (Value.int .u64)) (m := z1) Und113 hi111 hs111 (hS.at_ 2 rfl).rd ((hS.at_ 2 rfl).len1) (fun hy => hp3 (hy (((andK .u64 (shrK .u64 in2 v1) 1) == 1), false) (by simp)))) <| obs_cons (ob_get1 (n := p31.length) (m := z1) (Value.int .u64) (0 : Int) Agg111 (fun _ hS => ⟨_, (hS.at_ 2 rfl).rd⟩) (fun _ hS => ((hS.at_ 2 rfl).len1)) (fun hy => hp3 (hy (((andK .u64 (shrK .u64 in2 v1) 1) == 1), false) (by simp)))) <| obs_cons (ob_shr (fun hy => hp4 (hy (((andK .u64 (shrK .u64 in2 v1) 1) == 1), false) (by simp)))) <| obs_nil
              refine cond_ev (t := 40) (b := ((andK .u64 (shrK .u64 in2 v1) 1) == 1) || ((andK .u64 (shrK .u64 (getd (0 : Int) z1 (Int.tmod at1 p21)) v1) 1) == 1)) hF (by kernel_rfl) (fun hb => ?_) (fun hb => ?_)
              · replace hm := if_t hm hb
                refine wpIn_exit ?_
                refine then_e (block_e (then_n ?_))
                exact ⟨z1, many1, hF.weak [0, 1, 2, 3, 4, 8, 9, 10] (by kernel_rfl), hS, hm⟩
              · replace hm := if_f hm hb
                refine wpIn_skip ?_
                refine then_n ?_
                exact ⟨hF.weak [0, 1, 2, 3, 4, 8, 9, 10] (by kernel_rfl), hS, hm⟩
        · refine reg [⟨false, [], vS (Instr.loadAt 3 (.pointer (some ⟨g1, 0, none⟩))), .int .i64 p21⟩] [none, some (.int .i64 p21), none] [0, 1, 2, 3, 4, 8, 9, 10, 23] [pl 0 (.int .i64 at1), pl 1 (.int .u64 in2), pl 2 (.pointer (some ⟨g1, 0, none⟩)), pl 3 (.pointer (some ⟨g2, 0, none⟩)), pl 4 (.pointer (some ⟨g3, 0, none⟩)), pl 8 (.int .i64 (Int.tmod at1 p21)), pl 9 (.int .i64 many1), pl 10 (.int .i64 v1), pl 23 (.bool (decide (v1 ≤ p21)))] hF hS Fol (by kernel_rfl) (by kernel_rfl) (by kernel_rfl) ?_ (fun a w hF hS => ?_)
          · exact obs_cons (ob_load Agg3 (fun _ _ hS => (hS.at_ 0 rfl).cell rfl)) <| obs_nil
          refine cond_ev (t := 23) (b := decide (v1 ≤ p21)) hF (by kernel_rfl) (fun hb => ?_) (fun hb => ?_)
          · replace hm := if_t hm hb
            refine wpIn_skip ?_
            refine then_n ?_
            exact ⟨hF.weak [0, 1, 2, 3, 4, 8, 9, 10] (by kernel_rfl), hS, hm⟩
          · replace hm := if_f hm hb
            refine wpIn_exit ?_
            refine then_e (then_e (block_e (then_n ?_)))
            rw [← hφ1] at hm
            replace hm := done_b hm
            unfold cover_Latin_1_K1 at hm
            try dsimp only at hm
            have hm : (cover_Latin_1_J3 many1 z1).bind some = some r := hm
            exact ⟨many1, z1, hF.weak [9] (by kernel_rfl), hS, hm⟩
    · refine reg [⟨false, [], vS (Instr.loadAt 3 (.pointer (some ⟨g1, 0, none⟩))), .int .i64 p21⟩, ⟨false, [], vS (Instr.loadAt 3 (.pointer (some ⟨g1, 0, none⟩))), .int .i64 p21⟩] [none, some (.int .i64 p21), some (.int .i64 p21), none, none] [0, 1, 2, 3, 4, 8, 20] [pl 0 (.int .i64 at1), pl 1 (.int .u64 in2), pl 2 (.pointer (some ⟨g1, 0, none⟩)), pl 3 (.pointer (some ⟨g2, 0, none⟩)), pl 4 (.pointer (some ⟨g3, 0, none⟩)), pl 8 (.int .i64 (Int.tmod at1 p21)), pl 20 (.bool (at1 == (w64 (p21 * p21))))] hF hS Fol (by kernel_rfl) (by kernel_rfl) (by kernel_rfl) ?_ (fun a w hF hS => ?_)
      · exact obs_cons (ob_load Agg3 (fun _ _ hS => (hS.at_ 0 rfl).cell rfl)) <| obs_cons (ob_load Agg3 (fun _ _ hS => (hS.at_ 0 rfl).cell rfl)) <| obs_nil
      refine cond_ev (t := 20) (b := (at1 == (w64 (p21 * p21)))) hF (by kernel_rfl) (fun hb => ?_) (fun hb => ?_)
      · replace hm := if_t hm hb
        refine reg [] [] [7] [pl 7 (.int .i64 1)] hF hS Fol (by kernel_rfl) (by kernel_rfl) (by kernel_rfl) ?_ (fun a w hF hS => ?_)
        · exact obs_nil
        refine wpIn_ret ?_
        refine then_r ?_
        have hm : some (1, p31) = some r := hm
        obtain rfl := Option.some.inj hm
        exact retV (rs := [.tmp 7]) (vs := [.int .i64 1]) hF rfl (rv_t (by kernel_rfl) <| rv_nil) rfl ⟨_, rfl, rfl, hS⟩
      · replace hm := if_f hm hb
        refine wpIn_skip ?_
        refine then_n ?_
        exact ⟨hF.weak [0, 1, 2, 3, 4, 8] (by kernel_rfl), hS, hm⟩
  · refine reg [] [] [0, 1, 2, 3, 4, 8, 15] [pl 0 (.int .i64 at1), pl 1 (.int .u64 in1), pl 2 (.pointer (some ⟨g1, 0, none⟩)), pl 3 (.pointer (some ⟨g2, 0, none⟩)), pl 4 (.pointer (some ⟨g3, 0, none⟩)), pl 8 (.int .i64 (Int.tmod at1 p21)), pl 15 (.bool ((Int.tmod at1 p21) == 0))] hF hS Fol (by kernel_rfl) (by kernel_rfl) (by kernel_rfl) ?_ (fun a w hF hS => ?_)
    · exact obs_nil
    refine cond_ev (t := 15) (b := ((Int.tmod at1 p21) == 0)) hF (by kernel_rfl) (fun hb => ?_) (fun hb => ?_)
    · replace hm := if_t hm hb
      refine reg1 [] [] [0, 1, 2, 3, 4, 8] [pl 0 (.int .i64 at1), pl 1 (.int .u64 0), pl 2 (.pointer (some ⟨g1, 0, none⟩)), pl 3 (.pointer (some ⟨g2, 0, none⟩)), pl 4 (.pointer (some ⟨g3, 0, none⟩)), pl 8 (.int .i64 (Int.tmod at1 p21))] hF hS Fol (by kernel_rfl) (by kernel_rfl) (by kernel_rfl) ?_ (fun a w hF hS => ?_)
      · exact obs_nil
      refine then_n ?_
      exact ⟨0, hF.weak [0, 1, 2, 3, 4, 8] (by kernel_rfl), hS, hm⟩
    · replace hm := if_f hm hb
      refine wpIn_skip ?_
      refine then_n ?_
      exact ⟨in1, hF.weak [0, 1, 2, 3, 4, 8] (by kernel_rfl), hS, hm⟩

theorem cover_Latin_1_w {at1 : Int} {in1 : Int} {g1 : Nat} {p21 : Int} {g2 : Nat} {A1 : Option Addr} {c1 : Nat} {n1 : Nat} {p31 : List Int} {g3 : Nat} {r : (Int × List Int)} {w0 w : World} {B : Nat} {fs : List HP} (hm : cover_Latin_1_m at1 in1 p21 p31 = some r) (hS : Sep w0 B w (blk g1 3 #[.int .i64 p21] :: blk g2 113 #[.slice A1 n1 c1] :: own 111 (.slice A1 n1 c1) ((List.map (Value.int .u64) p31)) :: blk g3 114 #[.func (.func 77) #[] #[.pointer (some ⟨g1, 0, none⟩), .pointer (some ⟨g2, 0, none⟩), .pointer (some ⟨g3, 0, none⟩)]] :: fs)) :
    Calls Try.prog 77 #[.int .i64 at1, .int .u64 in1, .pointer (some ⟨g1, 0, none⟩), .pointer (some ⟨g2, 0, none⟩), .pointer (some ⟨g3, 0, none⟩)] w fun e w' => ∃ v, e = .returned v ∧ v = .int .i64 r.1 ∧ Sep w0 B w' (blk g1 3 #[.int .i64 p21] :: blk g2 113 #[.slice A1 n1 c1] :: own 111 (.slice A1 n1 c1) ((List.map (Value.int .u64) r.2)) :: blk g3 114 #[.func (.func 77) #[] #[.pointer (some ⟨g1, 0, none⟩), .pointer (some ⟨g2, 0, none⟩), .pointer (some ⟨g3, 0, none⟩)]] :: fs) := by
  have key : ∀ (n : Nat) {at1 : Int} {in1 : Int} {g1 : Nat} {p21 : Int} {g2 : Nat} {A1 : Option Addr} {c1 : Nat} {n1 : Nat} {p31 : List Int} {g3 : Nat} {r : (Int × List Int)} {w0 w : World} {B : Nat} {fs : List HP} (_ : cover_Latin_1_mF n at1 in1 p21 p31 = some r) (_ : Sep w0 B w (blk g1 3 #[.int .i64 p21] :: blk g2 113 #[.slice A1 n1 c1] :: own 111 (.slice A1 n1 c1) ((List.map (Value.int .u64) p31)) :: blk g3 114 #[.func (.func 77) #[] #[.pointer (some ⟨g1, 0, none⟩), .pointer (some ⟨g2, 0, none⟩), .pointer (some ⟨g3, 0, none⟩)]] :: fs)), Calls Try.prog 77 #[.int .i64 at1, .int .u64 in1, .pointer (some ⟨g1, 0, none⟩), .pointer (some ⟨g2, 0, none⟩), .pointer (some ⟨g3, 0, none⟩)] w fun e w' => ∃ v, e = .returned v ∧ v = .int .i64 r.1 ∧ Sep w0 B w' (blk g1 3 #[.int .i64 p21] :: blk g2 113 #[.slice A1 n1 c1] :: own 111 (.slice A1 n1 c1) ((List.map (Value.int .u64) r.2)) :: blk g3 114 #[.func (.func 77) #[] #[.pointer (some ⟨g1, 0, none⟩), .pointer (some ⟨g2, 0, none⟩), .pointer (some ⟨g3, 0, none⟩)]] :: fs) := by
    intro n
    induction n with
    | zero => intros; rename_i hm0 _; cases hm0
    | succ n ih => intros; rename_i hm0 hS0; exact cover_Latin_1_wB (rec_cover_Latin_1 := cover_Latin_1_mF n) (fun hm hS => ih hm hS) hm0 hS0
  obtain ⟨n, hn⟩ := recM_some hm
  exact key n hn hS

set_option maxRecDepth 100000 in
theorem cover_Latin_1_J6_le_cover_Latin_1 {rec_cover_Latin_11 rec_cover_Latin_12 : Int → Int → Int → List Int → Option (Int × List Int)} (h_rec_cover_Latin_1 : ∀ a0 a1 a2 a3, Le (rec_cover_Latin_11 a0 a1 a2 a3) (rec_cover_Latin_12 a0 a1 a2 a3)) (at1 : Int) (p21 : Int) (p31 : List Int) (in2 : Int) (z1 : List Int) (many1 : Int) (v1 : Int) : Le (cover_Latin_1_J6 rec_cover_Latin_11 at1 p21 p31 in2 z1 many1 v1) (cover_Latin_1_J6 rec_cover_Latin_12 at1 p21 p31 in2 z1 many1 v1) := by
  unfold cover_Latin_1_J6
  repeat' (first | with_reducible exact Le.refl _ | with_reducible exact h_rec_cover_Latin_1 _ _ _ _ | with_reducible refine Le.asrt ?_ | with_reducible refine Le.ite ?_ ?_ | refine Le.bind ?_ (fun _ => ?_) | refine Le.loop2 (fun _ => ?_) | refine Le.elim2 (fun _ => ?_) (fun _ => ?_))

set_option maxRecDepth 100000 in
theorem cover_Latin_1_J4_le_cover_Latin_1 {rec_cover_Latin_11 rec_cover_Latin_12 : Int → Int → Int → List Int → Option (Int × List Int)} (h_rec_cover_Latin_1 : ∀ a0 a1 a2 a3, Le (rec_cover_Latin_11 a0 a1 a2 a3) (rec_cover_Latin_12 a0 a1 a2 a3)) (at1 : Int) (p21 : Int) (p31 : List Int) (in2 : Int) (z1 : List Int) (many1 : Int) (v1 : Int) : Le (cover_Latin_1_J4 rec_cover_Latin_11 at1 p21 p31 in2 z1 many1 v1) (cover_Latin_1_J4 rec_cover_Latin_12 at1 p21 p31 in2 z1 many1 v1) := by
  unfold cover_Latin_1_J4
  repeat' (first | with_reducible exact Le.refl _ | with_reducible exact h_rec_cover_Latin_1 _ _ _ _ | with_reducible exact cover_Latin_1_J6_le_cover_Latin_1 h_rec_cover_Latin_1 _ _ _ _ _ _ _ | with_reducible refine Le.asrt ?_ | with_reducible refine Le.ite ?_ ?_ | refine Le.bind ?_ (fun _ => ?_) | refine Le.loop2 (fun _ => ?_) | refine Le.elim2 (fun _ => ?_) (fun _ => ?_))

set_option maxRecDepth 100000 in
theorem cover_Latin_1_L1_le_cover_Latin_1 {rec_cover_Latin_11 rec_cover_Latin_12 : Int → Int → Int → List Int → Option (Int × List Int)} (h_rec_cover_Latin_1 : ∀ a0 a1 a2 a3, Le (rec_cover_Latin_11 a0 a1 a2 a3) (rec_cover_Latin_12 a0 a1 a2 a3)) (at1 : Int) (p21 : Int) (p31 : List Int) (in2 : Int) (x : (List Int × Int × Int)) : Le (cover_Latin_1_L1 rec_cover_Latin_11 at1 p21 p31 in2 x) (cover_Latin_1_L1 rec_cover_Latin_12 at1 p21 p31 in2 x) := by
  rcases x with ⟨z1, many1, v1⟩
  all_goals
    unfold cover_Latin_1_L1
    try dsimp only
    repeat' (first | with_reducible exact Le.refl _ | with_reducible exact h_rec_cover_Latin_1 _ _ _ _ | with_reducible exact cover_Latin_1_J4_le_cover_Latin_1 h_rec_cover_Latin_1 _ _ _ _ _ _ _ | with_reducible refine Le.asrt ?_ | with_reducible refine Le.ite ?_ ?_ | refine Le.bind ?_ (fun _ => ?_) | refine Le.loop2 (fun _ => ?_) | refine Le.elim2 (fun _ => ?_) (fun _ => ?_))

set_option maxRecDepth 100000 in
theorem cover_Latin_1_J2_le_cover_Latin_1 {rec_cover_Latin_11 rec_cover_Latin_12 : Int → Int → Int → List Int → Option (Int × List Int)} (h_rec_cover_Latin_1 : ∀ a0 a1 a2 a3, Le (rec_cover_Latin_11 a0 a1 a2 a3) (rec_cover_Latin_12 a0 a1 a2 a3)) (at1 : Int) (p21 : Int) (p31 : List Int) (in2 : Int) : Le (cover_Latin_1_J2 rec_cover_Latin_11 at1 p21 p31 in2) (cover_Latin_1_J2 rec_cover_Latin_12 at1 p21 p31 in2) := by
  unfold cover_Latin_1_J2
  repeat' (first | with_reducible exact Le.refl _ | with_reducible exact h_rec_cover_Latin_1 _ _ _ _ | with_reducible exact cover_Latin_1_L1_le_cover_Latin_1 h_rec_cover_Latin_1 _ _ _ _ _ | with_reducible refine Le.asrt ?_ | with_reducible refine Le.ite ?_ ?_ | refine Le.bind ?_ (fun _ => ?_) | refine Le.loop2 (fun _ => ?_) | refine Le.elim2 (fun _ => ?_) (fun _ => ?_))

set_option maxRecDepth 100000 in
theorem cover_Latin_1_J1_le_cover_Latin_1 {rec_cover_Latin_11 rec_cover_Latin_12 : Int → Int → Int → List Int → Option (Int × List Int)} (h_rec_cover_Latin_1 : ∀ a0 a1 a2 a3, Le (rec_cover_Latin_11 a0 a1 a2 a3) (rec_cover_Latin_12 a0 a1 a2 a3)) (at1 : Int) (p21 : Int) (p31 : List Int) (in2 : Int) : Le (cover_Latin_1_J1 rec_cover_Latin_11 at1 p21 p31 in2) (cover_Latin_1_J1 rec_cover_Latin_12 at1 p21 p31 in2) := by
  unfold cover_Latin_1_J1
  repeat' (first | with_reducible exact Le.refl _ | with_reducible exact h_rec_cover_Latin_1 _ _ _ _ | with_reducible exact cover_Latin_1_J2_le_cover_Latin_1 h_rec_cover_Latin_1 _ _ _ _ | with_reducible refine Le.asrt ?_ | with_reducible refine Le.ite ?_ ?_ | refine Le.bind ?_ (fun _ => ?_) | refine Le.loop2 (fun _ => ?_) | refine Le.elim2 (fun _ => ?_) (fun _ => ?_))

set_option maxRecDepth 100000 in
theorem cover_Latin_1_B_le {rec_cover_Latin_11 rec_cover_Latin_12 : Int → Int → Int → List Int → Option (Int × List Int)} (h_rec_cover_Latin_1 : ∀ a0 a1 a2 a3, Le (rec_cover_Latin_11 a0 a1 a2 a3) (rec_cover_Latin_12 a0 a1 a2 a3)) (at1 : Int) (in1 : Int) (p21 : Int) (p31 : List Int) : Le (cover_Latin_1_B rec_cover_Latin_11 at1 in1 p21 p31) (cover_Latin_1_B rec_cover_Latin_12 at1 in1 p21 p31) := by
  unfold cover_Latin_1_B
  repeat' (first | with_reducible exact Le.refl _ | with_reducible exact h_rec_cover_Latin_1 _ _ _ _ | with_reducible exact cover_Latin_1_J1_le_cover_Latin_1 h_rec_cover_Latin_1 _ _ _ _ | with_reducible refine Le.asrt ?_ | with_reducible refine Le.ite ?_ ?_ | refine Le.bind ?_ (fun _ => ?_) | refine Le.loop2 (fun _ => ?_) | refine Le.elim2 (fun _ => ?_) (fun _ => ?_))

set_option maxRecDepth 100000 in
theorem cover_Latin_1_mF_le : ∀ (n : Nat) (at1 : Int) (in1 : Int) (p21 : Int) (p31 : List Int), Le (cover_Latin_1_mF n at1 in1 p21 p31) (cover_Latin_1_mF (n + 1) at1 in1 p21 p31)
  | 0, _, _, _, _ => fun _ h => by cases h
  | n + 1, _, _, _, _ => cover_Latin_1_B_le (fun a0 a1 a2 a3 => cover_Latin_1_mF_le n a0 a1 a2 a3) _ _ _ _

set_option maxRecDepth 100000 in
theorem cover_Latin_1_m_of (N : Nat) (at1 : Int) (in1 : Int) (p21 : Int) (p31 : List Int) {r : (Int × List Int)} (h : cover_Latin_1_mF N at1 in1 p21 p31 = some r) : cover_Latin_1_m at1 in1 p21 p31 = some r :=
  recM_mono (fun n => cover_Latin_1_mF_le n _ _ _ _) h

noncomputable def cover_Latin_J7  (rows1 : List (List Int)) (z1 : Int) (columns3 : List Int) (in1 : Int) (z2 : Int) : Option (St (List Int × Int × Int) (Fl (List Int) (Int × Int))) :=
  some (.next ((columns3.set (Int.toNat z2) (orK .u64 (getd (0 : Int) columns3 z2) (shlK .u64 1 (geti (geti2 rows1 z1) z2)))), (orK .u64 in1 (shlK .u64 1 (geti (geti2 rows1 z1) z2))), (w64 (z2 + 1))))

noncomputable def cover_Latin_J8  (n1 : Int) (rows1 : List (List Int)) (z1 : Int) (columns3 : List Int) (in1 : Int) (z2 : Int) : Option (St (List Int × Int × Int) (Fl (List Int) (Int × Int))) :=
  asrt ((0 : Int) ≤ (geti (geti2 rows1 z1) z2)) <| asrt (0 ≤ z2 ∧ z2 < (((Int.toNat n1) : Nat) : Int)) <| asrt ((0 : Int) ≤ (geti (geti2 rows1 z1) z2)) <| asrt (0 ≤ z2 ∧ z2 < (((Int.toNat n1) : Nat) : Int)) <| (cover_Latin_J7 rows1 z1 columns3 in1 z2)

noncomputable def cover_Latin_J6  (n1 : Int) (rows1 : List (List Int)) (z1 : Int) (columns3 : List Int) (in1 : Int) (z2 : Int) : Option (St (List Int × Int × Int) (Fl (List Int) (Int × Int))) :=
  asrt (0 ≤ z2 ∧ z2 < (((geti2 rows1 z1).length : Nat) : Int)) <| asrt (((decide ((geti (geti2 rows1 z1) z2) < 1)) || (decide (n1 < (geti (geti2 rows1 z1) z2)))) = false → (0 : Int) ≤ (geti (geti2 rows1 z1) z2)) <| asrt ((((decide ((geti (geti2 rows1 z1) z2) < 1)) || (decide (n1 < (geti (geti2 rows1 z1) z2)))) || ((andK .u64 (shrK .u64 in1 (geti (geti2 rows1 z1) z2)) 1) == 1)) = false → 0 ≤ z2 ∧ z2 < (((Int.toNat n1) : Nat) : Int)) <| asrt ((((decide ((geti (geti2 rows1 z1) z2) < 1)) || (decide (n1 < (geti (geti2 rows1 z1) z2)))) || ((andK .u64 (shrK .u64 in1 (geti (geti2 rows1 z1) z2)) 1) == 1)) = false → (0 : Int) ≤ (geti (geti2 rows1 z1) z2)) <| if ((((decide ((geti (geti2 rows1 z1) z2) < 1)) || (decide (n1 < (geti (geti2 rows1 z1) z2)))) || ((andK .u64 (shrK .u64 in1 (geti (geti2 rows1 z1) z2)) 1) == 1)) || ((andK .u64 (shrK .u64 (getd (0 : Int) columns3 z2) (geti (geti2 rows1 z1) z2)) 1) == 1)) then (some (.done (.ret (0, 1)))) else ((cover_Latin_J8 n1 rows1 z1 columns3 in1 z2))

noncomputable def cover_Latin_J4  (z1 : Int) (columns4 : List Int) : Option (St (List Int × Int) (Fl (List Int) (Int × Int))) :=
  some (.next (columns4, (w64 (z1 + 1))))

noncomputable def cover_Latin_K2  (z1 : Int) : (Fl (List Int) (Int × Int)) → Option (St (List Int × Int) (Fl (List Int) (Int × Int))) :=
  fun (x : (Fl (List Int) (Int × Int))) => match x with | .go columns4 => (cover_Latin_J4 z1) columns4 | .ret x => some (.done (.ret x))

noncomputable def cover_Latin_L2  (n1 : Int) (rows1 : List (List Int)) (z1 : Int) : (List Int × Int × Int) → Option (St (List Int × Int × Int) (Fl (List Int) (Int × Int))) :=
  fun (x : (List Int × Int × Int)) => match x with | (columns3, in1, z2) => if (decide (z2 < (((geti2 rows1 z1).length : Nat) : Int))) then ((cover_Latin_J6 n1 rows1 z1 columns3 in1 z2)) else (some (.done (.go columns3)))

noncomputable def cover_Latin_J5  (n1 : Int) (rows1 : List (List Int)) (columns1 : List Int) (z1 : Int) : Option (St (List Int × Int) (Fl (List Int) (Int × Int))) :=
  (loop (cover_Latin_L2 n1 rows1 z1) (columns1, 0, 0)).bind (cover_Latin_K2 z1)

noncomputable def cover_Latin_J3  (n1 : Int) (rows1 : List (List Int)) (columns1 : List Int) (z1 : Int) : Option (St (List Int × Int) (Fl (List Int) (Int × Int))) :=
  asrt (0 ≤ z1 ∧ z1 < (rows1.length : Int)) <| if ((((geti2 rows1 z1).length : Nat) : Int) != n1) then (some (.done (.ret (0, 1)))) else ((cover_Latin_J5 n1 rows1 columns1 z1))

noncomputable def cover_Latin_J2  (n1 : Int) (rows1 : List (List Int)) (columns2 : List Int) : Option (Int × Int) :=
  (cover_Latin_1_m (w64 ((rows1.length : Int) * n1)) 0 n1 columns2).bind fun r1 => some (r1.1, 0)

noncomputable def cover_Latin_K1  (n1 : Int) (rows1 : List (List Int)) : (Fl (List Int) (Int × Int)) → Option (Int × Int) :=
  fun (x : (Fl (List Int) (Int × Int))) => match x with | .go columns2 => (cover_Latin_J2 n1 rows1) columns2 | .ret x => some x

noncomputable def cover_Latin_L1  (n1 : Int) (rows1 : List (List Int)) : (List Int × Int) → Option (St (List Int × Int) (Fl (List Int) (Int × Int))) :=
  fun (x : (List Int × Int)) => match x with | (columns1, z1) => if (decide (z1 < (rows1.length : Int))) then ((cover_Latin_J3 n1 rows1 columns1 z1)) else (some (.done (.go columns1)))

noncomputable def cover_Latin_J1  (n1 : Int) (rows1 : List (List Int)) : Option (Int × Int) :=
  asrt ((0 : Int) ≤ n1 ∧ n1 ≤ bigN) <| (loop (cover_Latin_L1 n1 rows1) ((List.replicate (Int.toNat n1) (0 : Int)), 0)).bind (cover_Latin_K1 n1 rows1)

noncomputable def cover_Latin_m  (n1 : Int) (rows1 : List (List Int)) : Option (Int × Int) :=
  if (((decide (n1 < 1)) || (decide ((5 : Int) < n1))) || (decide (n1 < (rows1.length : Int)))) then (some (0, 3)) else ((cover_Latin_J1 n1 rows1))

set_option maxRecDepth 100000 in
set_option maxHeartbeats 4000000 in
theorem cover_Latin_w {n1 : Int} {A1 : Option Addr} {c1 : Nat} {n2 : Nat} {hd1 : List Hd} {rows1 : List (List Int)} {r : (Int × Int)} {w0 w : World} {B : Nat} {fs : List HP} (hm : cover_Latin_m n1 rows1 = some r) (hS : Sep w0 B w (fs)) (hr_rows1 : RdRowsF w0 B fs A1 hd1 rows1) (_hc_rows1 : rows1.length ≤ c1) (_hn_rows1 : n2 = rows1.length) :
    Calls Try.prog 29 #[.int .i64 n1, .slice A1 n2 c1] w fun e w' => e = .returned (.tuple #[.int .i64 r.1, .int .i64 r.2]) ∧ Sep w0 B w' (fs) := by
  obtain ⟨i3, hi3, hz3, hs3, hb3⟩ := info_parts Info3
  obtain ⟨i34, hi34, hz34, hs34, hb34⟩ := info_parts Info34
  obtain ⟨i111, hi111, hz111, hs111, hb111⟩ := info_parts Info111
  obtain ⟨i113, hi113, hz113, hs113, hb113⟩ := info_parts Info113
  obtain ⟨i114, hi114, hz114, hs114, hb114⟩ := info_parts Info114
  obtain rfl := _hn_rows1
  unfold cover_Latin_m at hm
  replace hm := start_b hm
  refine enter (l := [.int .i64 n1, .slice A1 rows1.length c1]) (n := 89) Try.func29 rfl rfl (by simp) (fun a hF => ?_)
  refine seqR ?_
  refine at_do (d := 2) (s := vS (Instr.box 3 (.int .i64 n1))) (v := .pointer (some ⟨w.heap.size, 0, none⟩)) (w' := w.alloc (.cells #[.int .i64 n1] 3)) hF (by kernel_rfl) (by kernel_rfl) (by kernel_rfl) (fun a hF => ?_)
  have hS : Sep w0 B (w.alloc (.cells #[.int .i64 n1] 3)) (blk w.heap.size 3 #[.int .i64 n1] :: (fs)) := hS.box 3 #[.int .i64 n1]
  generalize w.heap.size = g1 at hF hS
  generalize w.alloc (.cells #[.int .i64 n1] 3) = w at hS ⊢
  refine at_run 2 [] [] [1, 2] [pl 1 (.slice A1 rows1.length c1), pl 2 (.pointer (some ⟨g1, 0, none⟩))] hF hS (by kernel_rfl) (by kernel_rfl) ?_ (fun a w hF hS => ?_)
  · exact obs_nil
  refine at_end [1, 2] [pl 1 (.slice A1 rows1.length c1), pl 2 (.pointer (some ⟨g1, 0, none⟩))] hF rfl (by kernel_rfl) (fun hF => ?_)
  refine then_n ?_
  refine seq_cut (fun a w => Fr 89 [pl 1 (.slice A1 rows1.length c1), pl 2 (.pointer (some ⟨g1, 0, none⟩))] a ∧ Sep w0 B w (blk g1 3 #[.int .i64 n1] :: fs) ∧ ((cover_Latin_J1 n1 rows1)).bind some = some r) ?_ ?_
  · rintro a w ⟨hF, hS, hm⟩
    unfold cover_Latin_J1 at hm
    refine seqR ?_
    obtain ⟨hp1, hm⟩ := asrt_b hm
    refine at_run 1 [⟨false, [], vS (Instr.loadAt 3 (.pointer (some ⟨g1, 0, none⟩))), .int .i64 n1⟩] [some (.int .i64 n1)] [1, 2, 25] [pl 1 (.slice A1 rows1.length c1), pl 2 (.pointer (some ⟨g1, 0, none⟩)), pl 25 (.int .i64 n1)] hF hS (by kernel_rfl) (by kernel_rfl) ?_ (fun a w hF hS => ?_)
    · exact obs_cons (ob_load Agg3 (fun _ _ hS => (hS.at_ 0 rfl).cell rfl)) <| obs_nil
    obtain ⟨A2, c2, w, hrun, hS⟩ := run_mk1 (P := Try.prog) (t := 113) (Value.int .u64) (0 : Int) hS .i64 .i64 Und113 hi111 hz111 hs111 (by omega) rfl hp1
    have hS : Sep w0 B w (own 111 (.slice A2 (Int.toNat n1) c2) ((List.map (Value.int .u64) (List.replicate (Int.toNat n1) (0 : Int)))) :: blk g1 3 #[.int .i64 n1] :: fs) := hS
    refine at_do (d := 26) hF (by kernel_rfl) (by kernel_rfl) hrun (fun a hF => ?_)
    refine at_do (d := 6) (s := vS (Instr.alloc 113 true (.tuple #[]))) (v := .pointer (some ⟨w.heap.size, 0, none⟩)) (w' := w.alloc (.cells #[.slice none 0 0] 113)) hF (by kernel_rfl) (by kernel_rfl) (by kernel_rfl) (fun a hF => ?_)
    have hS : Sep w0 B (w.alloc (.cells #[.slice none 0 0] 113)) (blk w.heap.size 113 #[.slice none 0 0] :: (own 111 (.slice A2 (Int.toNat n1) c2) ((List.map (Value.int .u64) (List.replicate (Int.toNat n1) (0 : Int)))) :: blk g1 3 #[.int .i64 n1] :: fs)) := hS.box 113 #[.slice none 0 0]
    generalize w.heap.size = g2 at hF hS
    generalize w.alloc (.cells #[.slice none 0 0] 113) = w at hS ⊢
    obtain ⟨w, hrun, hS⟩ := run_put (P := Try.prog) (t := 113) (u := .slice A2 (Int.toNat n1) c2) (i := 0) (hS.at_ 0 rfl) hi113 hs113 rfl (Nat.lt_of_lt_of_eq (Nat.lt_of_succ_le (Nat.le_of_ble_eq_true (by kernel_rfl))) rfl)
    refine at_skip hF (by kernel_rfl) hrun ?_
    have hS : Sep w0 B w (blk g2 113 #[.slice A2 (Int.toNat n1) c2] :: own 111 (.slice A2 (Int.toNat n1) c2) ((List.map (Value.int .u64) (List.replicate (Int.toNat n1) (0 : Int)))) :: blk g1 3 #[.int .i64 n1] :: fs) := hS
    refine at_end [1, 2, 6] [pl 1 (.slice A1 rows1.length c1), pl 2 (.pointer (some ⟨g1, 0, none⟩)), pl 6 (.pointer (some ⟨g2, 0, none⟩))] hF rfl (by kernel_rfl) (fun hF => ?_)
    refine then_n ?_
    refine seq_cut (fun a w => ∃ (columns2 : List Int), Fr 89 [pl 1 (.slice A1 rows1.length c1), pl 2 (.pointer (some ⟨g1, 0, none⟩)), pl 6 (.pointer (some ⟨g2, 0, none⟩))] a ∧ Sep w0 B w (blk g1 3 #[.int .i64 n1] :: blk g2 113 #[.slice A2 (Int.toNat n1) c2] :: own 111 (.slice A2 (Int.toNat n1) c2) ((List.map (Value.int .u64) columns2)) :: fs) ∧ ((cover_Latin_J2 n1 rows1) columns2).bind some = some r) ?_ ?_
    · rintro a w ⟨columns2, hF, hS, hm⟩
      unfold cover_Latin_J2 at hm
      refine seqR ?_
      refine at_do (d := 12) (s := vS (Instr.alloc 114 true (.tuple #[]))) (v := .pointer (some ⟨w.heap.size, 0, none⟩)) (w' := w.alloc (.cells #[.nilFunc] 114)) hF (by kernel_rfl) (by kernel_rfl) (by kernel_rfl) (fun a hF => ?_)
      have hS : Sep w0 B (w.alloc (.cells #[.nilFunc] 114)) (blk w.heap.size 114 #[.nilFunc] :: (blk g1 3 #[.int .i64 n1] :: blk g2 113 #[.slice A2 (Int.toNat n1) c2] :: own 111 (.slice A2 (Int.toNat n1) c2) ((List.map (Value.int .u64) columns2)) :: fs)) := hS.box 114 #[.nilFunc]
      generalize w.heap.size = g3 at hF hS
      generalize w.alloc (.cells #[.nilFunc] 114) = w at hS ⊢
      refine at_end [1, 2, 6, 12] [pl 1 (.slice A1 rows1.length c1), pl 2 (.pointer (some ⟨g1, 0, none⟩)), pl 6 (.pointer (some ⟨g2, 0, none⟩)), pl 12 (.pointer (some ⟨g3, 0, none⟩))] hF rfl (by kernel_rfl) (fun hF => ?_)
      refine then_n ?_
      refine seqR ?_
      refine at_run 1 [] [] [1, 2, 12, 82] [pl 1 (.slice A1 rows1.length c1), pl 2 (.pointer (some ⟨g1, 0, none⟩)), pl 12 (.pointer (some ⟨g3, 0, none⟩)), pl 82 (.func (.func 77) #[] #[.pointer (some ⟨g1, 0, none⟩), .pointer (some ⟨g2, 0, none⟩), .pointer (some ⟨g3, 0, none⟩)])] hF hS (by kernel_rfl) (by kernel_rfl) ?_ (fun a w hF hS => ?_)
      · exact obs_nil
      obtain ⟨w, hrun, hS⟩ := run_put (P := Try.prog) (t := 114) (u := .func (.func 77) #[] #[.pointer (some ⟨g1, 0, none⟩), .pointer (some ⟨g2, 0, none⟩), .pointer (some ⟨g3, 0, none⟩)]) (i := 0) (hS.at_ 0 rfl) hi114 hs114 rfl (Nat.lt_of_lt_of_eq (Nat.lt_of_succ_le (Nat.le_of_ble_eq_true (by kernel_rfl))) rfl)
      refine at_skip hF (by kernel_rfl) hrun ?_
      have hS : Sep w0 B w (blk g3 114 #[.func (.func 77) #[] #[.pointer (some ⟨g1, 0, none⟩), .pointer (some ⟨g2, 0, none⟩), .pointer (some ⟨g3, 0, none⟩)]] :: blk g1 3 #[.int .i64 n1] :: blk g2 113 #[.slice A2 (Int.toNat n1) c2] :: own 111 (.slice A2 (Int.toNat n1) c2) ((List.map (Value.int .u64) columns2)) :: fs) := hS
      refine at_end [1, 2, 12] [pl 1 (.slice A1 rows1.length c1), pl 2 (.pointer (some ⟨g1, 0, none⟩)), pl 12 (.pointer (some ⟨g3, 0, none⟩))] hF rfl (by kernel_rfl) (fun hF => ?_)
      refine then_n ?_
      refine seqR ?_
      obtain ⟨r1, hr1, hm⟩ := call_b hm
      refine at_run 5 [⟨false, [], vS (Instr.loadAt 114 (.pointer (some ⟨g3, 0, none⟩))), .func (.func 77) #[] #[.pointer (some ⟨g1, 0, none⟩), .pointer (some ⟨g2, 0, none⟩), .pointer (some ⟨g3, 0, none⟩)]⟩, ⟨false, [], vS (Instr.loadAt 3 (.pointer (some ⟨g1, 0, none⟩))), .int .i64 n1⟩] [some (.func (.func 77) #[] #[.pointer (some ⟨g1, 0, none⟩), .pointer (some ⟨g2, 0, none⟩), .pointer (some ⟨g3, 0, none⟩)]), none, none, some (.int .i64 n1), none] [83, 87] [pl 83 (.func (.func 77) #[] #[.pointer (some ⟨g1, 0, none⟩), .pointer (some ⟨g2, 0, none⟩), .pointer (some ⟨g3, 0, none⟩)]), pl 87 (.int .i64 (w64 ((rows1.length : Int) * n1)))] hF hS (by kernel_rfl) (by kernel_rfl) ?_ (fun a w hF hS => ?_)
      · exact obs_cons (ob_load Agg114 (fun _ _ hS => (hS.at_ 0 rfl).cell rfl)) <| obs_cons (ob_load Agg3 (fun _ _ hS => (hS.at_ 1 rfl).cell rfl)) <| obs_nil
      have hS : Sep w0 B w (blk g1 3 #[.int .i64 n1] :: blk g2 113 #[.slice A2 (Int.toNat n1) c2] :: own 111 (.slice A2 (Int.toNat n1) c2) ((List.map (Value.int .u64) columns2)) :: blk g3 114 #[.func (.func 77) #[] #[.pointer (some ⟨g1, 0, none⟩), .pointer (some ⟨g2, 0, none⟩), .pointer (some ⟨g3, 0, none⟩)]] :: fs) := hS.pickN 4 [1, 2, 3, 0] (by decide)
      refine at_call (f := 77) (args := #[.int .i64 (w64 ((rows1.length : Int) * n1)), .int .u64 0, .pointer (some ⟨g1, 0, none⟩), .pointer (some ⟨g2, 0, none⟩), .pointer (some ⟨g3, 0, none⟩)]) (d := 88) hF (by kernel_rfl) (by kernel_rfl) Try.func77 (by kernel_rfl) rfl (cover_Latin_1_w hr1 hS ) (fun v a w hR hF => ?_)
      clear hS
      obtain ⟨rfl, hS⟩ := hR
      have hS : Sep w0 B w (blk g1 3 #[.int .i64 n1] :: blk g2 113 #[.slice A2 (Int.toNat n1) c2] :: own 111 (.slice A2 (Int.toNat n1) c2) ((List.map (Value.int .u64) r1.2)) :: blk g3 114 #[.func (.func 77) #[] #[.pointer (some ⟨g1, 0, none⟩), .pointer (some ⟨g2, 0, none⟩), .pointer (some ⟨g3, 0, none⟩)]] :: fs) := hS
      refine at_run 2 [] [] [4, 5] [pl 4 (.int .i64 r1.1), pl 5 (.int .i64 0)] hF hS (by kernel_rfl) (by kernel_rfl) ?_ (fun a w hF hS => ?_)
      · exact obs_nil
      refine at_end [4, 5] [pl 4 (.int .i64 r1.1), pl 5 (.int .i64 0)] hF rfl (by kernel_rfl) (fun hF => ?_)
      refine then_n ?_
      refine wpIn_ret ?_
      have hS := hS.pickN 4 [] (by decide)
      have hm : some (r1.1, 0) = some r := hm
      obtain rfl := Option.some.inj hm
      exact retV (rs := [.tmp 4, .tmp 5]) (vs := [.int .i64 r1.1, .int .i64 0]) hF rfl (rv_t (by kernel_rfl) <| rv_t (by kernel_rfl) <| rv_nil) rfl ⟨rfl, hS⟩
    · refine reg [] [] [1, 2, 6, 27, 28, 29] [pl 1 (.slice A1 rows1.length c1), pl 2 (.pointer (some ⟨g1, 0, none⟩)), pl 6 (.pointer (some ⟨g2, 0, none⟩)), pl 27 (.slice A1 rows1.length c1), pl 28 (.int .i64 (rows1.length : Int)), pl 29 (.int .i64 0)] hF hS Fol (by kernel_rfl) (by kernel_rfl) (by kernel_rfl) ?_ (fun a w hF hS => ?_)
      · exact obs_nil
      refine wpIn_block ?_
      have hS := hS.pickN 3 [2, 0, 1] (by decide)
      refine wp_loop_model (S := (List Int × Int)) (R := (Fl (List Int) (Int × Int))) (cover_Latin_L1 n1 rows1) (fun x => ((cover_Latin_K1 n1 rows1) x).bind some) r (fun (x : (List Int × Int)) a w => Fr 89 [pl 1 (.slice A1 rows1.length c1), pl 2 (.pointer (some ⟨g1, 0, none⟩)), pl 6 (.pointer (some ⟨g2, 0, none⟩)), pl 27 (.slice A1 rows1.length c1), pl 28 (.int .i64 (rows1.length : Int)), pl 29 (.int .i64 x.2)] a ∧ Sep w0 B w (blk g1 3 #[.int .i64 n1] :: blk g2 113 #[.slice A2 (Int.toNat n1) c2] :: own 111 (.slice A2 (Int.toNat n1) c2) ((List.map (Value.int .u64) x.1)) :: fs)) (assoc_b hm) ⟨hF.weak [1, 2, 6, 27, 28, 29] (by kernel_rfl), hS⟩ ?_
      clear hF hS hm
      rintro nn1 ⟨columns1, z1⟩ a w ⟨hF, hS⟩ hm
      generalize hφ1 : stK (cover_Latin_L1 n1 rows1) nn1 (fun x => ((cover_Latin_K1 n1 rows1) x).bind some) = φ1 at hm
      unfold cover_Latin_L1 at hm
      dsimp only at hF hS hm
      refine reg [] [] [1, 2, 6, 27, 28, 29, 30] [pl 1 (.slice A1 rows1.length c1), pl 2 (.pointer (some ⟨g1, 0, none⟩)), pl 6 (.pointer (some ⟨g2, 0, none⟩)), pl 27 (.slice A1 rows1.length c1), pl 28 (.int .i64 (rows1.length : Int)), pl 29 (.int .i64 z1), pl 30 (.bool (decide (z1 < (rows1.length : Int))))] hF hS Fol (by kernel_rfl) (by kernel_rfl) (by kernel_rfl) ?_ (fun a w hF hS => ?_)
      · exact obs_nil
      refine seq_cut (fun a w => Fr 89 [pl 1 (.slice A1 rows1.length c1), pl 2 (.pointer (some ⟨g1, 0, none⟩)), pl 6 (.pointer (some ⟨g2, 0, none⟩)), pl 27 (.slice A1 rows1.length c1), pl 28 (.int .i64 (rows1.length : Int)), pl 29 (.int .i64 z1)] a ∧ Sep w0 B w (blk g1 3 #[.int .i64 n1] :: blk g2 113 #[.slice A2 (Int.toNat n1) c2] :: own 111 (.slice A2 (Int.toNat n1) c2) ((List.map (Value.int .u64) columns1)) :: fs) ∧ ((cover_Latin_J3 n1 rows1 columns1 z1)).bind φ1 = some r) ?_ ?_
      · rintro a w ⟨hF, hS, hm⟩
        unfold cover_Latin_J3 at hm
        refine seq_cut (fun a w => ∃ (columns4 : List Int), Fr 89 [pl 1 (.slice A1 rows1.length c1), pl 2 (.pointer (some ⟨g1, 0, none⟩)), pl 6 (.pointer (some ⟨g2, 0, none⟩)), pl 27 (.slice A1 rows1.length c1), pl 28 (.int .i64 (rows1.length : Int)), pl 29 (.int .i64 z1)] a ∧ Sep w0 B w (blk g1 3 #[.int .i64 n1] :: blk g2 113 #[.slice A2 (Int.toNat n1) c2] :: own 111 (.slice A2 (Int.toNat n1) c2) ((List.map (Value.int .u64) columns4)) :: fs) ∧ ((cover_Latin_J4 z1) columns4).bind φ1 = some r) ?_ ?_
        · rintro a w ⟨columns4, hF, hS, hm⟩
          unfold cover_Latin_J4 at hm
          refine reg1 [] [] [1, 2, 6, 27, 28, 29] [pl 1 (.slice A1 rows1.length c1), pl 2 (.pointer (some ⟨g1, 0, none⟩)), pl 6 (.pointer (some ⟨g2, 0, none⟩)), pl 27 (.slice A1 rows1.length c1), pl 28 (.int .i64 (rows1.length : Int)), pl 29 (.int .i64 (w64 (z1 + 1)))] hF hS Fol (by kernel_rfl) (by kernel_rfl) (by kernel_rfl) ?_ (fun a w hF hS => ?_)
          · exact obs_nil
          refine then_n ?_
          rw [← hφ1] at hm
          exact ⟨(columns4, (w64 (z1 + 1))), ⟨hF.weak [1, 2, 6, 27, 28, 29] (by kernel_rfl), hS⟩, hm⟩
        · refine wpIn_block ?_
          obtain ⟨hp2, hm⟩ := asrt_b hm
          refine reg [⟨true, [], vS (Instr.indexAt 45 (.slice A1 rows1.length c1) (.int .i64 z1)), .pointer (some (sAddr A1 z1))⟩, ⟨false, [], vS (Instr.loadAt 34 (.pointer (some (sAddr A1 z1)))), .slice (hdA hd1 z1) ((geti2 rows1 z1).length) (hdC hd1 z1)⟩] [some (.pointer (some (sAddr A1 z1))), some (.slice (hdA hd1 z1) ((geti2 rows1 z1).length) (hdC hd1 z1)), none] [1, 2, 6, 8, 27, 28, 29] [pl 1 (.slice A1 rows1.length c1), pl 2 (.pointer (some ⟨g1, 0, none⟩)), pl 6 (.pointer (some ⟨g2, 0, none⟩)), pl 8 (.slice (hdA hd1 z1) ((geti2 rows1 z1).length) (hdC hd1 z1)), pl 27 (.slice A1 rows1.length c1), pl 28 (.int .i64 (rows1.length : Int)), pl 29 (.int .i64 z1)] hF hS Fol (by kernel_rfl) (by kernel_rfl) (by kernel_rfl) ?_ (fun a w hF hS => ?_)
          · exact obs_cons (ob_ixRn Und45 hi34 hs34 (hr_rows1 _ (hS.dropN 3)) rfl (fun _ => hp2)) <| obs_cons (ob_getR Agg34 (fun _ hS => ⟨_, (hr_rows1 _ (hS.dropN 3))⟩) (fun _ => hp2)) <| obs_nil
          refine seq_cut (fun a w => Fr 89 [pl 1 (.slice A1 rows1.length c1), pl 2 (.pointer (some ⟨g1, 0, none⟩)), pl 6 (.pointer (some ⟨g2, 0, none⟩)), pl 8 (.slice (hdA hd1 z1) ((geti2 rows1 z1).length) (hdC hd1 z1)), pl 27 (.slice A1 rows1.length c1), pl 28 (.int .i64 (rows1.length : Int)), pl 29 (.int .i64 z1)] a ∧ Sep w0 B w (blk g1 3 #[.int .i64 n1] :: blk g2 113 #[.slice A2 (Int.toNat n1) c2] :: own 111 (.slice A2 (Int.toNat n1) c2) ((List.map (Value.int .u64) columns1)) :: fs) ∧ ((cover_Latin_J5 n1 rows1 columns1 z1)).bind φ1 = some r) ?_ ?_
          · rintro a w ⟨hF, hS, hm⟩
            unfold cover_Latin_J5 at hm
            refine reg [] [] [1, 2, 6, 8, 9, 27, 28, 29] [pl 1 (.slice A1 rows1.length c1), pl 2 (.pointer (some ⟨g1, 0, none⟩)), pl 6 (.pointer (some ⟨g2, 0, none⟩)), pl 8 (.slice (hdA hd1 z1) ((geti2 rows1 z1).length) (hdC hd1 z1)), pl 9 (.int .u64 0), pl 27 (.slice A1 rows1.length c1), pl 28 (.int .i64 (rows1.length : Int)), pl 29 (.int .i64 z1)] hF hS Fol (by kernel_rfl) (by kernel_rfl) (by kernel_rfl) ?_ (fun a w hF hS => ?_)
            · exact obs_nil
            refine reg [] [] [1, 2, 6, 9, 27, 28, 29, 37, 38, 39] [pl 1 (.slice A1 rows1.length c1), pl 2 (.pointer (some ⟨g1, 0, none⟩)), pl 6 (.pointer (some ⟨g2, 0, none⟩)), pl 9 (.int .u64 0), pl 27 (.slice A1 rows1.length c1), pl 28 (.int .i64 (rows1.length : Int)), pl 29 (.int .i64 z1), pl 37 (.slice (hdA hd1 z1) ((geti2 rows1 z1).length) (hdC hd1 z1)), pl 38 (.int .i64 (((geti2 rows1 z1).length : Nat) : Int)), pl 39 (.int .i64 0)] hF hS Fol (by kernel_rfl) (by kernel_rfl) (by kernel_rfl) ?_ (fun a w hF hS => ?_)
            · exact obs_nil
            refine wpIn_block ?_
            refine wp_loop_model (S := (List Int × Int × Int)) (R := (Fl (List Int) (Int × Int))) (cover_Latin_L2 n1 rows1 z1) (fun x => ((cover_Latin_K2 z1) x).bind φ1) r (fun (x : (List Int × Int × Int)) a w => Fr 89 [pl 1 (.slice A1 rows1.length c1), pl 2 (.pointer (some ⟨g1, 0, none⟩)), pl 6 (.pointer (some ⟨g2, 0, none⟩)), pl 9 (.int .u64 x.2.1), pl 27 (.slice A1 rows1.length c1), pl 28 (.int .i64 (rows1.length : Int)), pl 29 (.int .i64 z1), pl 37 (.slice (hdA hd1 z1) ((geti2 rows1 z1).length) (hdC hd1 z1)), pl 38 (.int .i64 (((geti2 rows1 z1).length : Nat) : Int)), pl 39 (.int .i64 x.2.2)] a ∧ Sep w0 B w (blk g1 3 #[.int .i64 n1] :: blk g2 113 #[.slice A2 (Int.toNat n1) c2] :: own 111 (.slice A2 (Int.toNat n1) c2) ((List.map (Value.int .u64) x.1)) :: fs)) (assoc_b hm) ⟨hF.weak [1, 2, 6, 9, 27, 28, 29, 37, 38, 39] (by kernel_rfl), hS⟩ ?_
            clear hF hS hm
            rintro nn2 ⟨columns3, in1, z2⟩ a w ⟨hF, hS⟩ hm
            generalize hφ2 : stK (cover_Latin_L2 n1 rows1 z1) nn2 (fun x => ((cover_Latin_K2 z1) x).bind φ1) = φ2 at hm
            unfold cover_Latin_L2 at hm
            dsimp only at hF hS hm
            refine reg [] [] [1, 2, 6, 9, 27, 28, 29, 37, 38, 39, 40] [pl 1 (.slice A1 rows1.length c1), pl 2 (.pointer (some ⟨g1, 0, none⟩)), pl 6 (.pointer (some ⟨g2, 0, none⟩)), pl 9 (.int .u64 in1), pl 27 (.slice A1 rows1.length c1), pl 28 (.int .i64 (rows1.length : Int)), pl 29 (.int .i64 z1), pl 37 (.slice (hdA hd1 z1) ((geti2 rows1 z1).length) (hdC hd1 z1)), pl 38 (.int .i64 (((geti2 rows1 z1).length : Nat) : Int)), pl 39 (.int .i64 z2), pl 40 (.bool (decide (z2 < (((geti2 rows1 z1).length : Nat) : Int))))] hF hS Fol (by kernel_rfl) (by kernel_rfl) (by kernel_rfl) ?_ (fun a w hF hS => ?_)
            · exact obs_nil
            refine seq_cut (fun a w => Fr 89 [pl 1 (.slice A1 rows1.length c1), pl 2 (.pointer (some ⟨g1, 0, none⟩)), pl 6 (.pointer (some ⟨g2, 0, none⟩)), pl 9 (.int .u64 in1), pl 27 (.slice A1 rows1.length c1), pl 28 (.int .i64 (rows1.length : Int)), pl 29 (.int .i64 z1), pl 37 (.slice (hdA hd1 z1) ((geti2 rows1 z1).length) (hdC hd1 z1)), pl 38 (.int .i64 (((geti2 rows1 z1).length : Nat) : Int)), pl 39 (.int .i64 z2)] a ∧ Sep w0 B w (blk g1 3 #[.int .i64 n1] :: blk g2 113 #[.slice A2 (Int.toNat n1) c2] :: own 111 (.slice A2 (Int.toNat n1) c2) ((List.map (Value.int .u64) columns3)) :: fs) ∧ ((cover_Latin_J6 n1 rows1 z1 columns3 in1 z2)).bind φ2 = some r) ?_ ?_
            · rintro a w ⟨hF, hS, hm⟩
              unfold cover_Latin_J6 at hm
              refine seq_cut (fun a w => Fr 89 [pl 1 (.slice A1 rows1.length c1), pl 2 (.pointer (some ⟨g1, 0, none⟩)), pl 6 (.pointer (some ⟨g2, 0, none⟩)), pl 9 (.int .u64 (orK .u64 in1 (shlK .u64 1 (geti (geti2 rows1 z1) z2)))), pl 27 (.slice A1 rows1.length c1), pl 28 (.int .i64 (rows1.length : Int)), pl 29 (.int .i64 z1), pl 37 (.slice (hdA hd1 z1) ((geti2 rows1 z1).length) (hdC hd1 z1)), pl 38 (.int .i64 (((geti2 rows1 z1).length : Nat) : Int)), pl 39 (.int .i64 z2)] a ∧ Sep w0 B w (blk g1 3 #[.int .i64 n1] :: blk g2 113 #[.slice A2 (Int.toNat n1) c2] :: own 111 (.slice A2 (Int.toNat n1) c2) ((List.map (Value.int .u64) (columns3.set (Int.toNat z2) (orK .u64 (getd (0 : Int) columns3 z2) (shlK .u64 1 (geti (geti2 rows1 z1) z2)))))) :: fs) ∧ ((cover_Latin_J7 rows1 z1 columns3 in1 z2)).bind φ2 = some r) ?_ ?_
              · rintro a w ⟨hF, hS, hm⟩
                unfold cover_Latin_J7 at hm
                refine reg1 [] [] [1, 2, 6, 9, 27, 28, 29, 37, 38, 39] [pl 1 (.slice A1 rows1.length c1), pl 2 (.pointer (some ⟨g1, 0, none⟩)), pl 6 (.pointer (some ⟨g2, 0, none⟩)), pl 9 (.int .u64 (orK .u64 in1 (shlK .u64 1 (geti (geti2 rows1 z1) z2)))), pl 27 (.slice A1 rows1.length c1), pl 28 (.int .i64 (rows1.length : Int)), pl 29 (.int .i64 z1), pl 37 (.slice (hdA hd1 z1) ((geti2 rows1 z1).length) (hdC hd1 z1)), pl 38 (.int .i64 (((geti2 rows1 z1).length : Nat) : Int)), pl 39 (.int .i64 (w64 (z2 + 1)))] hF hS Fol (by kernel_rfl) (by kernel_rfl) (by kernel_rfl) ?_ (fun a w hF hS => ?_)
                · exact obs_nil
                refine then_n ?_
                rw [← hφ2] at hm
                exact ⟨((columns3.set (Int.toNat z2) (orK .u64 (getd (0 : Int) columns3 z2) (shlK .u64 1 (geti (geti2 rows1 z1) z2)))), (orK .u64 in1 (shlK .u64 1 (geti (geti2 rows1 z1) z2))), (w64 (z2 + 1))), ⟨hF.weak [1, 2, 6, 9, 27, 28, 29, 37, 38, 39] (by kernel_rfl), hS⟩, hm⟩
              · refine wpIn_block ?_
                obtain ⟨hp3, hm⟩ := asrt_b hm
                refine reg [⟨true, [], vS (Instr.indexAt 34 (.slice (hdA hd1 z1) ((geti2 rows1 z1).length) (hdC hd1 z1)) (.int .i64 z2)), .pointer (some (sAddr (hdA hd1 z1) z2))⟩, ⟨false, [], vS (Instr.loadAt 3 (.pointer (some (sAddr (hdA hd1 z1) z2)))), .int .i64 (geti (geti2 rows1 z1) z2)⟩] [none, some (.pointer (some (sAddr (hdA hd1 z1) z2))), some (.int .i64 (geti (geti2 rows1 z1) z2)), none, none] [1, 2, 6, 9, 10, 11, 27, 28, 29, 37, 38, 39] [pl 1 (.slice A1 rows1.length c1), pl 2 (.pointer (some ⟨g1, 0, none⟩)), pl 6 (.pointer (some ⟨g2, 0, none⟩)), pl 9 (.int .u64 in1), pl 10 (.int .i64 z2), pl 11 (.int .i64 (geti (geti2 rows1 z1) z2)), pl 27 (.slice A1 rows1.length c1), pl 28 (.int .i64 (rows1.length : Int)), pl 29 (.int .i64 z1), pl 37 (.slice (hdA hd1 z1) ((geti2 rows1 z1).length) (hdC hd1 z1)), pl 38 (.int .i64 (((geti2 rows1 z1).length : Nat) : Int)), pl 39 (.int .i64 z2)] hF hS Fol (by kernel_rfl) (by kernel_rfl) (by kernel_rfl) ?_ (fun a w hF hS => ?_)
                · exact obs_cons (ob_ix1 (f := (Value.int .i64)) (m := (geti2 rows1 z1)) Und34 hi3 hs3 ((hr_rows1 _ (hS.dropN 3)).row _ hp2).1 rfl (fun _ => hp3)) <| obs_cons (ob_get1 (n := (geti2 rows1 z1).length) (m := (geti2 rows1 z1)) (Value.int .i64) (0 : Int) Agg3 (fun _ hS => ⟨_, ((hr_rows1 _ (hS.dropN 3)).row _ hp2).1⟩) (fun _ hS => rfl) (fun _ => hp3)) <| obs_nil
                refine seq_cut (fun a w => Fr 89 [pl 1 (.slice A1 rows1.length c1), pl 2 (.pointer (some ⟨g1, 0, none⟩)), pl 6 (.pointer (some ⟨g2, 0, none⟩)), pl 9 (.int .u64 in1), pl 10 (.int .i64 z2), pl 11 (.int .i64 (geti (geti2 rows1 z1) z2)), pl 27 (.slice A1 rows1.length c1), pl 28 (.int .i64 (rows1.length : Int)), pl 29 (.int .i64 z1), pl 37 (.slice (hdA hd1 z1) ((geti2 rows1 z1).length) (hdC hd1 z1)), pl 38 (.int .i64 (((geti2 rows1 z1).length : Nat) : Int)), pl 39 (.int .i64 z2)] a ∧ Sep w0 B w (blk g1 3 #[.int .i64 n1] :: blk g2 113 #[.slice A2 (Int.toNat n1) c2] :: own 111 (.slice A2 (Int.toNat n1) c2) ((List.map (Value.int .u64) columns3)) :: fs) ∧ ((cover_Latin_J8 n1 rows1 z1 columns3 in1 z2)).bind φ2 = some r) ?_ ?_
                · rintro a w ⟨hF, hS, hm⟩
                  unfold cover_Latin_J8 at hm
                  obtain ⟨hp7, hm⟩ := asrt_b hm
                  refine reg [⟨true, [], vS (Op.shift .shl .u64 1 .i64 (geti (geti2 rows1 z1) z2)), .int .u64 (shlK .u64 1 (geti (geti2 rows1 z1) z2))⟩] [none, none, some (.int .u64 (shlK .u64 1 (geti (geti2 rows1 z1) z2))), none, none] [1, 2, 6, 9, 10, 11, 27, 28, 29, 37, 38, 39] [pl 1 (.slice A1 rows1.length c1), pl 2 (.pointer (some ⟨g1, 0, none⟩)), pl 6 (.pointer (some ⟨g2, 0, none⟩)), pl 9 (.int .u64 (orK .u64 in1 (shlK .u64 1 (geti (geti2 rows1 z1) z2)))), pl 10 (.int .i64 z2), pl 11 (.int .i64 (geti (geti2 rows1 z1) z2)), pl 27 (.slice A1 rows1.length c1), pl 28 (.int .i64 (rows1.length : Int)), pl 29 (.int .i64 z1), pl 37 (.slice (hdA hd1 z1) ((geti2 rows1 z1).length) (hdC hd1 z1)), pl 38 (.int .i64 (((geti2 rows1 z1).length : Nat) : Int)), pl 39 (.int .i64 z2)] hF hS Fol (by kernel_rfl) (by kernel_rfl) (by kernel_rfl) ?_ (fun a w hF hS => ?_)
                  · exact obs_cons (ob_shl (fun _ => hp7)) <| obs_nil
                  obtain ⟨hp8, hm⟩ := asrt_b hm
                  obtain ⟨hp9, hm⟩ := asrt_b hm
                  obtain ⟨hp10, hm⟩ := asrt_b hm
                  refine regMix4 [0, 1, 2, 3, 4, 5, 6, 7] [8] [⟨false, [], vS (Instr.loadAt 113 (.pointer (some ⟨g2, 0, none⟩))), .slice A2 (Int.toNat n1) c2⟩, ⟨true, [], vS (Instr.indexAt 113 (.slice A2 (Int.toNat n1) c2) (.int .i64 z2)), .pointer (some (sAddr A2 z2))⟩, ⟨false, [], vS (Instr.loadAt 111 (.pointer (some (sAddr A2 z2)))), .int .u64 (getd (0 : Int) columns3 z2)⟩, ⟨true, [], vS (Op.shift .shl .u64 1 .i64 (geti (geti2 rows1 z1) z2)), .int .u64 (shlK .u64 1 (geti (geti2 rows1 z1) z2))⟩, ⟨true, [], vS (Instr.indexAt 113 (.slice A2 (Int.toNat n1) c2) (.int .i64 z2)), .pointer (some (sAddr A2 z2))⟩] [some (.slice A2 (Int.toNat n1) c2), none, some (.pointer (some (sAddr A2 z2))), some (.int .u64 (getd (0 : Int) columns3 z2)), none, some (.int .u64 (shlK .u64 1 (geti (geti2 rows1 z1) z2))), none, some (.pointer (some (sAddr A2 z2)))] [1, 2, 6, 9, 27, 28, 29, 37, 38, 39, 78, 79] [pl 1 (.slice A1 rows1.length c1), pl 2 (.pointer (some ⟨g1, 0, none⟩)), pl 6 (.pointer (some ⟨g2, 0, none⟩)), pl 9 (.int .u64 (orK .u64 in1 (shlK .u64 1 (geti (geti2 rows1 z1) z2)))), pl 27 (.slice A1 rows1.length c1), pl 28 (.int .i64 (rows1.length : Int)), pl 29 (.int .i64 z1), pl 37 (.slice (hdA hd1 z1) ((geti2 rows1 z1).length) (hdC hd1 z1)), pl 38 (.int .i64 (((geti2 rows1 z1).length : Nat) : Int)), pl 39 (.int .i64 z2), pl 78 (.int .u64 (orK .u64 (getd (0 : Int) columns3 z2) (shlK .u64 1 (geti (geti2 rows1 z1) z2)))), pl 79 (.pointer (some (sAddr A2 z2)))] hF hS Fol (by kernel_rfl) (by kernel_rfl) (by kernel_rfl) (by kernel_rfl) (by kernel_rfl) ?_ (fun a w hF hS => ?_)
                  · exact obs_cons (ob_load Agg113 (fun _ _ hS => (hS.at_ 1 rfl).cell rfl)) <| obs_cons (ob_ix1 (f := (Value.int .u64)) (m := columns3) Und113 hi111 hs111 (hS.at_ 2 rfl).rd ((hS.at_ 2 rfl).len1) (fun _ => hp8)) <| obs_cons (ob_get1 (n := (Int.toNat n1)) (m := columns3) (Value.int .u64) (0 : Int) Agg111 (fun _ hS => ⟨_, (hS.at_ 2 rfl).rd⟩) (fun _ hS => ((hS.at_ 2 rfl).len1)) (fun _ => hp8)) <| obs_cons (ob_shl (fun _ => hp9)) <| obs_cons (ob_ix1 (f := (Value.int .u64)) (m := columns3) Und113 hi111 hs111 (hS.at_ 2 rfl).rd ((hS.at_ 2 rfl).len1) (fun _ => hp10)) <| obs_nil
                  obtain ⟨w, hrun, hS⟩ := run_set1 (P := Try.prog) (t := 111) (x := (orK .u64 (getd (0 : Int) columns3 z2) (shlK .u64 1 (geti (geti2 rows1 z1) z2)))) (Value.int .u64) (hS.at_ 2 rfl) hi111 hs111 rfl rfl hp10
                  refine at_skip hF (by kernel_rfl) hrun ?_
                  have hS : Sep w0 B w (blk g1 3 #[.int .i64 n1] :: blk g2 113 #[.slice A2 (Int.toNat n1) c2] :: own 111 (.slice A2 (Int.toNat n1) c2) ((List.map (Value.int .u64) (columns3.set (Int.toNat z2) (orK .u64 (getd (0 : Int) columns3 z2) (shlK .u64 1 (geti (geti2 rows1 z1) z2)))))) :: fs) := hS
                  refine at_end [1, 2, 6, 9, 27, 28, 29, 37, 38, 39] [pl 1 (.slice A1 rows1.length c1), pl 2 (.pointer (some ⟨g1, 0, none⟩)), pl 6 (.pointer (some ⟨g2, 0, none⟩)), pl 9 (.int .u64 (orK .u64 in1 (shlK .u64 1 (geti (geti2 rows1 z1) z2)))), pl 27 (.slice A1 rows1.length c1), pl 28 (.int .i64 (rows1.length : Int)), pl 29 (.int .i64 z1), pl 37 (.slice (hdA hd1 z1) ((geti2 rows1 z1).length) (hdC hd1 z1)), pl 38 (.int .i64 (((geti2 rows1 z1).length : Nat) : Int)), pl 39 (.int .i64 z2)] hF rfl (by kernel_rfl) (fun hF => ?_)
                  refine np_n ?_
                  refine block_n ?_
                  refine then_n ?_
                  exact ⟨hF.weak [1, 2, 6, 9, 27, 28, 29, 37, 38, 39] (by kernel_rfl), hS, hm⟩
                · obtain ⟨hp4, hm⟩ := asrt_b hm
                  obtain ⟨hp5, hm⟩ := asrt_b hm
                  obtain ⟨hp6, hm⟩ := asrt_b hm
                  refine reg [⟨false, [(decide ((geti (geti2 rows1 z1) z2) < 1), false)], vS (Instr.loadAt 3 (.pointer (some ⟨g1, 0, none⟩))), .int .i64 n1⟩, ⟨true, [((decide ((geti (geti2 rows1 z1) z2) < 1)) || (decide (n1 < (geti (geti2 rows1 z1) z2))), false)], vS (Op.shift .shr .u64 in1 .i64 (geti (geti2 rows1 z1) z2)), .int .u64 (shrK .u64 in1 (geti (geti2 rows1 z1) z2))⟩, ⟨false, [(((decide ((geti (geti2 rows1 z1) z2) < 1)) || (decide (n1 < (geti (geti2 rows1 z1) z2)))) || ((andK .u64 (shrK .u64 in1 (geti (geti2 rows1 z1) z2)) 1) == 1), false)], vS (Instr.loadAt 113 (.pointer (some ⟨g2, 0, none⟩))), .slice A2 (Int.toNat n1) c2⟩, ⟨true, [(((decide ((geti (geti2 rows1 z1) z2) < 1)) || (decide (n1 < (geti (geti2 rows1 z1) z2)))) || ((andK .u64 (shrK .u64 in1 (geti (geti2 rows1 z1) z2)) 1) == 1), false)], vS (Instr.indexAt 113 (.slice A2 (Int.toNat n1) c2) (.int .i64 z2)), .pointer (some (sAddr A2 z2))⟩, ⟨false, [(((decide ((geti (geti2 rows1 z1) z2) < 1)) || (decide (n1 < (geti (geti2 rows1 z1) z2)))) || ((andK .u64 (shrK .u64 in1 (geti (geti2 rows1 z1) z2)) 1) == 1), false)], vS (Instr.loadAt 111 (.pointer (some (sAddr A2 z2)))), .int .u64 (getd (0 : Int) columns3 z2)⟩, ⟨true, [(((decide ((geti (geti2 rows1 z1) z2) < 1)) || (decide (n1 < (geti (geti2 rows1 z1) z2)))) || ((andK .u64 (shrK .u64 in1 (geti (geti2 rows1 z1) z2)) 1) == 1), false)], vS (Op.shift .shr .u64 (getd (0 : Int) columns3 z2) .i64 (geti (geti2 rows1 z1) z2)), .int .u64 (shrK .u64 (getd (0 : Int) columns3 z2) (geti (geti2 rows1 z1) z2))⟩] [none, none, none, none, some (.int .i64 n1), none, none, none, none, none, some (.int .u64 (shrK .u64 in1 (geti (geti2 rows1 z1) z2))), none, none, none, none, some (.slice A2 (Int.toNat n1) c2), none, some (.pointer (some (sAddr A2 z2))), some (.int .u64 (getd (0 : Int) columns3 z2)), none, some (.int .u64 (shrK .u64 (getd (0 : Int) columns3 z2) (geti (geti2 rows1 z1) z2))), none, none, none] [1, 2, 6, 9, 10, 11, 27, 28, 29, 37, 38, 39, 67] [pl 1 (.slice A1 rows1.length c1), pl 2 (.pointer (some ⟨g1, 0, none⟩)), pl 6 (.pointer (some ⟨g2, 0, none⟩)), pl 9 (.int .u64 in1), pl 10 (.int .i64 z2), pl 11 (.int .i64 (geti (geti2 rows1 z1) z2)), pl 27 (.slice A1 rows1.length c1), pl 28 (.int .i64 (rows1.length : Int)), pl 29 (.int .i64 z1), pl 37 (.slice (hdA hd1 z1) ((geti2 rows1 z1).length) (hdC hd1 z1)), pl 38 (.int .i64 (((geti2 rows1 z1).length : Nat) : Int)), pl 39 (.int .i64 z2), pl 67 (.bool ((((decide ((geti (geti2 rows1 z1) z2) < 1)) || (decide (n1 < (geti (geti2 rows1 z1) z2)))) || ((andK .u64 (shrK .u64 in1 (geti (geti2 rows1 z1) z2)) 1) == 1)) || ((andK .u64 (shrK .u64 (getd (0 : Int) columns3 z2) (geti (geti2 rows1 z1) z2)) 1) == 1)))] hF hS Fol (by kernel_rfl) (by kernel_rfl) (by kernel_rfl) ?_ (fun a w hF hS => ?_)
                  · exact obs_cons (ob_load Agg3 (fun _ _ hS => (hS.at_ 0 rfl).cell rfl)) <| obs_cons (ob_shr (fun hy => hp4 (hy ((decide ((geti (geti2 rows1 z1) z2) < 1)) || (decide (n1 < (geti (geti2 rows1 z1) z2))), false) (by simp)))) <| obs_cons (ob_load Agg113 (fun _ _ hS => (hS.at_ 1 rfl).cell rfl)) <| obs_cons (ob_ix1 (f := (Value.int .u64)) (m := columns3) Und113 hi111 hs111 (hS.at_ 2 rfl).rd ((hS.at_ 2 rfl).len1) (fun hy => hp5 (hy (((decide ((geti (geti2 rows1 z1) z2) < 1)) || (decide (n1 < (geti (geti2 rows1 z1) z2)))) || ((andK .u64 (shrK .u64 in1 (geti (geti2 rows1 z1) z2)) 1) == 1), false) (by simp)))) <| obs_cons (ob_get1 (n := (Int.toNat n1)) (m := columns3) (Value.int .u64) (0 : Int) Agg111 (fun _ hS => ⟨_, (hS.at_ 2 rfl).rd⟩) (fun _ hS => ((hS.at_ 2 rfl).len1)) (fun hy => hp5 (hy (((decide ((geti (geti2 rows1 z1) z2) < 1)) || (decide (n1 < (geti (geti2 rows1 z1) z2)))) || ((andK .u64 (shrK .u64 in1 (geti (geti2 rows1 z1) z2)) 1) == 1), false) (by simp)))) <| obs_cons (ob_shr (fun hy => hp6 (hy (((decide ((geti (geti2 rows1 z1) z2) < 1)) || (decide (n1 < (geti (geti2 rows1 z1) z2)))) || ((andK .u64 (shrK .u64 in1 (geti (geti2 rows1 z1) z2)) 1) == 1), false) (by simp)))) <| obs_nil
                  refine cond_ev (t := 67) (b := (((decide ((geti (geti2 rows1 z1) z2) < 1)) || (decide (n1 < (geti (geti2 rows1 z1) z2)))) || ((andK .u64 (shrK .u64 in1 (geti (geti2 rows1 z1) z2)) 1) == 1)) || ((andK .u64 (shrK .u64 (getd (0 : Int) columns3 z2) (geti (geti2 rows1 z1) z2)) 1) == 1)) hF (by kernel_rfl) (fun hb => ?_) (fun hb => ?_)
                  · replace hm := if_t hm hb
                    refine reg [] [] [4, 5] [pl 4 (.int .i64 0), pl 5 (.int .i64 1)] hF hS Fol (by kernel_rfl) (by kernel_rfl) (by kernel_rfl) ?_ (fun a w hF hS => ?_)
                    · exact obs_nil
                    refine wpIn_ret ?_
                    refine then_r (block_r (then_r (then_r (block_r (block_r (then_r (then_r (block_r (then_r ?_)))))))))
                    rw [← hφ2] at hm
                    replace hm := done_b hm
                    unfold cover_Latin_K2 at hm
                    try dsimp only at hm
                    rw [← hφ1] at hm
                    replace hm := done_b hm
                    unfold cover_Latin_K1 at hm
                    try dsimp only at hm
                    have hS := hS.pickN 3 [] (by decide)
                    have hm : some (0, 1) = some r := hm
                    obtain rfl := Option.some.inj hm
                    exact retV (rs := [.tmp 4, .tmp 5]) (vs := [.int .i64 0, .int .i64 1]) hF rfl (rv_t (by kernel_rfl) <| rv_t (by kernel_rfl) <| rv_nil) rfl ⟨rfl, hS⟩
                  · replace hm := if_f hm hb
                    refine wpIn_skip ?_
                    refine then_n ?_
                    exact ⟨hF.weak [1, 2, 6, 9, 10, 11, 27, 28, 29, 37, 38, 39] (by kernel_rfl), hS, hm⟩
            · refine cond_ev (t := 40) (b := decide (z2 < (((geti2 rows1 z1).length : Nat) : Int))) hF (by kernel_rfl) (fun hb => ?_) (fun hb => ?_)
              · replace hm := if_t hm hb
                refine wpIn_skip ?_
                refine then_n ?_
                exact ⟨hF.weak [1, 2, 6, 9, 27, 28, 29, 37, 38, 39] (by kernel_rfl), hS, hm⟩
              · replace hm := if_f hm hb
                refine wpIn_exit ?_
                refine then_e (then_e (block_e (block_n (then_n ?_))))
                rw [← hφ2] at hm
                replace hm := done_b hm
                unfold cover_Latin_K2 at hm
                try dsimp only at hm
                have hm : ((cover_Latin_J4 z1) columns3).bind φ1 = some r := hm
                exact ⟨columns3, hF.weak [1, 2, 6, 27, 28, 29] (by kernel_rfl), hS, hm⟩
          · refine reg [⟨false, [], vS (Instr.loadAt 3 (.pointer (some ⟨g1, 0, none⟩))), .int .i64 n1⟩] [none, none, some (.int .i64 n1), none] [1, 2, 6, 8, 27, 28, 29, 36] [pl 1 (.slice A1 rows1.length c1), pl 2 (.pointer (some ⟨g1, 0, none⟩)), pl 6 (.pointer (some ⟨g2, 0, none⟩)), pl 8 (.slice (hdA hd1 z1) ((geti2 rows1 z1).length) (hdC hd1 z1)), pl 27 (.slice A1 rows1.length c1), pl 28 (.int .i64 (rows1.length : Int)), pl 29 (.int .i64 z1), pl 36 (.bool ((((geti2 rows1 z1).length : Nat) : Int) != n1))] hF hS Fol (by kernel_rfl) (by kernel_rfl) (by kernel_rfl) ?_ (fun a w hF hS => ?_)
            · exact obs_cons (ob_load Agg3 (fun _ _ hS => (hS.at_ 0 rfl).cell rfl)) <| obs_nil
            refine cond_ev (t := 36) (b := ((((geti2 rows1 z1).length : Nat) : Int) != n1)) hF (by kernel_rfl) (fun hb => ?_) (fun hb => ?_)
            · replace hm := if_t hm hb
              refine reg [] [] [4, 5] [pl 4 (.int .i64 0), pl 5 (.int .i64 1)] hF hS Fol (by kernel_rfl) (by kernel_rfl) (by kernel_rfl) ?_ (fun a w hF hS => ?_)
              · exact obs_nil
              refine wpIn_ret ?_
              refine then_r (block_r (then_r (then_r (block_r (then_r ?_)))))
              rw [← hφ1] at hm
              replace hm := done_b hm
              unfold cover_Latin_K1 at hm
              try dsimp only at hm
              have hS := hS.pickN 3 [] (by decide)
              have hm : some (0, 1) = some r := hm
              obtain rfl := Option.some.inj hm
              exact retV (rs := [.tmp 4, .tmp 5]) (vs := [.int .i64 0, .int .i64 1]) hF rfl (rv_t (by kernel_rfl) <| rv_t (by kernel_rfl) <| rv_nil) rfl ⟨rfl, hS⟩
            · replace hm := if_f hm hb
              refine wpIn_skip ?_
              refine then_n ?_
              exact ⟨hF.weak [1, 2, 6, 8, 27, 28, 29] (by kernel_rfl), hS, hm⟩
      · refine cond_ev (t := 30) (b := decide (z1 < (rows1.length : Int))) hF (by kernel_rfl) (fun hb => ?_) (fun hb => ?_)
        · replace hm := if_t hm hb
          refine wpIn_skip ?_
          refine then_n ?_
          exact ⟨hF.weak [1, 2, 6, 27, 28, 29] (by kernel_rfl), hS, hm⟩
        · replace hm := if_f hm hb
          refine wpIn_exit ?_
          refine then_e (then_e (block_e (then_n ?_)))
          rw [← hφ1] at hm
          replace hm := done_b hm
          unfold cover_Latin_K1 at hm
          try dsimp only at hm
          have hm : ((cover_Latin_J2 n1 rows1) columns1).bind some = some r := hm
          exact ⟨columns1, hF.weak [1, 2, 6] (by kernel_rfl), hS, hm⟩
  · refine reg [⟨false, [], vS (Instr.loadAt 3 (.pointer (some ⟨g1, 0, none⟩))), .int .i64 n1⟩, ⟨false, [(decide (n1 < 1), false)], vS (Instr.loadAt 3 (.pointer (some ⟨g1, 0, none⟩))), .int .i64 n1⟩, ⟨false, [((decide (n1 < 1)) || (decide ((5 : Int) < n1)), false)], vS (Instr.loadAt 3 (.pointer (some ⟨g1, 0, none⟩))), .int .i64 n1⟩] [some (.int .i64 n1), none, none, some (.int .i64 n1), none, none, none, none, none, some (.int .i64 n1), none, none] [1, 2, 24] [pl 1 (.slice A1 rows1.length c1), pl 2 (.pointer (some ⟨g1, 0, none⟩)), pl 24 (.bool (((decide (n1 < 1)) || (decide ((5 : Int) < n1))) || (decide (n1 < (rows1.length : Int)))))] hF hS Fol (by kernel_rfl) (by kernel_rfl) (by kernel_rfl) ?_ (fun a w hF hS => ?_)
    · exact obs_cons (ob_load Agg3 (fun _ _ hS => (hS.at_ 0 rfl).cell rfl)) <| obs_cons (ob_load Agg3 (fun _ _ hS => (hS.at_ 0 rfl).cell rfl)) <| obs_cons (ob_load Agg3 (fun _ _ hS => (hS.at_ 0 rfl).cell rfl)) <| obs_nil
    refine cond_ev (t := 24) (b := ((decide (n1 < 1)) || (decide ((5 : Int) < n1))) || (decide (n1 < (rows1.length : Int)))) hF (by kernel_rfl) (fun hb => ?_) (fun hb => ?_)
    · replace hm := if_t hm hb
      refine reg [] [] [4, 5] [pl 4 (.int .i64 0), pl 5 (.int .i64 3)] hF hS Fol (by kernel_rfl) (by kernel_rfl) (by kernel_rfl) ?_ (fun a w hF hS => ?_)
      · exact obs_nil
      refine wpIn_ret ?_
      refine then_r ?_
      have hS := hS.pickN 1 [] (by decide)
      have hm : some (0, 3) = some r := hm
      obtain rfl := Option.some.inj hm
      exact retV (rs := [.tmp 4, .tmp 5]) (vs := [.int .i64 0, .int .i64 3]) hF rfl (rv_t (by kernel_rfl) <| rv_t (by kernel_rfl) <| rv_nil) rfl ⟨rfl, hS⟩
    · replace hm := if_f hm hb
      refine wpIn_skip ?_
      refine then_n ?_
      exact ⟨hF.weak [1, 2] (by kernel_rfl), hS, hm⟩

noncomputable def gameroomref_within_m  (n1 : Int) (low1 : Int) (high1 : Int) : Option Bool :=
  some ((decide (low1 ≤ n1)) && (decide (n1 ≤ high1)))

set_option maxRecDepth 100000 in
set_option maxHeartbeats 4000000 in
theorem gameroomref_within_w {n1 : Int} {low1 : Int} {high1 : Int} {r : Bool} {w0 w : World} {B : Nat} {fs : List HP} (hm : gameroomref_within_m n1 low1 high1 = some r) (hS : Sep w0 B w (fs)) :
    Calls Try.prog 72 #[.int .i64 n1, .int .i64 low1, .int .i64 high1] w fun e w' => e = .returned (.bool r) ∧ Sep w0 B w' (fs) := by
  unfold gameroomref_within_m at hm
  replace hm := start_b hm
  refine enter (l := [.int .i64 n1, .int .i64 low1, .int .i64 high1]) (n := 15) Try.func72 rfl rfl (by simp) (fun a hF => ?_)
  refine reg [] [] [0, 1, 2] [pl 0 (.int .i64 n1), pl 1 (.int .i64 low1), pl 2 (.int .i64 high1)] hF hS Fol (by kernel_rfl) (by kernel_rfl) (by kernel_rfl) ?_ (fun a w hF hS => ?_)
  · exact obs_nil
  refine reg [] [] [6] [pl 6 (.bool ((decide (low1 ≤ n1)) && (decide (n1 ≤ high1))))] hF hS Fol (by kernel_rfl) (by kernel_rfl) (by kernel_rfl) ?_ (fun a w hF hS => ?_)
  · exact obs_nil
  refine wpIn_ret ?_
  have hm : some ((decide (low1 ≤ n1)) && (decide (n1 ≤ high1))) = some r := hm
  obtain rfl := Option.some.inj hm
  exact retV (rs := [.tmp 6]) (vs := [.bool ((decide (low1 ≤ n1)) && (decide (n1 ≤ high1)))]) hF rfl (rv_t (by kernel_rfl) <| rv_nil) rfl ⟨rfl, hS⟩

noncomputable def gameroomref_at_J3  (i1 : Int) : Option (St Int (Fl Unit Int)) :=
  some (.next (w64 (i1 + 1)))

noncomputable def gameroomref_at_J2  (l1 : List Int) (n2 : Int) (i1 : Int) : Option (St Int (Fl Unit Int)) :=
  asrt (0 ≤ i1 ∧ i1 < (l1.length : Int)) <| if ((geti l1 i1) == n2) then (some (.done (.ret i1))) else ((gameroomref_at_J3 i1))

noncomputable def gameroomref_at_J1  : Option Int :=
  some (-1)

noncomputable def gameroomref_at_K1  : (Fl Unit Int) → Option Int :=
  fun (x : (Fl Unit Int)) => match x with | .go _ => gameroomref_at_J1 | .ret x => some x

noncomputable def gameroomref_at_L1  (l1 : List Int) (n2 : Int) : Int → Option (St Int (Fl Unit Int)) :=
  fun (x : Int) => match x with | i1 => if (decide (i1 < (l1.length : Int))) then ((gameroomref_at_J2 l1 n2 i1)) else (some (.done (.go ())))

noncomputable def gameroomref_at_m  (l1 : List Int) (n2 : Int) : Option Int :=
  (loop (gameroomref_at_L1 l1 n2) 0).bind gameroomref_at_K1

set_option maxRecDepth 100000 in
set_option maxHeartbeats 4000000 in
theorem gameroomref_at_w {A1 : Option Addr} {c1 : Nat} {n1 : Nat} {l1 : List Int} {n2 : Int} {r : Int} {w0 w : World} {B : Nat} {fs : List HP} (hm : gameroomref_at_m l1 n2 = some r) (hS : Sep w0 B w (fs)) (hr_l1 : RdF w0 B fs A1 (vI l1)) (_hc_l1 : l1.length ≤ c1) (_hn_l1 : n1 = l1.length) :
    Calls Try.prog 78 #[.slice A1 n1 c1, .int .i64 n2] w fun e w' => e = .returned (.int .i64 r) ∧ Sep w0 B w' (fs) := by
  obtain ⟨i3, hi3, hz3, hs3, hb3⟩ := info_parts Info3
  obtain rfl := _hn_l1
  unfold gameroomref_at_m at hm
  replace hm := start_b hm
  refine enter (l := [.slice A1 l1.length c1, .int .i64 n2]) (n := 19) Try.func78 rfl rfl (by simp) (fun a hF => ?_)
  refine reg [] [] [0, 1] [pl 0 (.slice A1 l1.length c1), pl 1 (.int .i64 n2)] hF hS Fol (by kernel_rfl) (by kernel_rfl) (by kernel_rfl) ?_ (fun a w hF hS => ?_)
  · exact obs_nil
  refine seq_cut (fun a w => Fr 19 [] a ∧ Sep w0 B w (fs) ∧ (gameroomref_at_J1).bind some = some r) ?_ ?_
  · rintro a w ⟨hF, hS, hm⟩
    unfold gameroomref_at_J1 at hm
    refine reg [] [] [4] [pl 4 (.int .i64 (-1))] hF hS Fol (by kernel_rfl) (by kernel_rfl) (by kernel_rfl) ?_ (fun a w hF hS => ?_)
    · exact obs_nil
    refine wpIn_ret ?_
    have hm : some (-1) = some r := hm
    obtain rfl := Option.some.inj hm
    exact retV (rs := [.tmp 4]) (vs := [.int .i64 (-1)]) hF rfl (rv_t (by kernel_rfl) <| rv_nil) rfl ⟨rfl, hS⟩
  · refine reg [] [] [0, 1, 5] [pl 0 (.slice A1 l1.length c1), pl 1 (.int .i64 n2), pl 5 (.int .i64 0)] hF hS Fol (by kernel_rfl) (by kernel_rfl) (by kernel_rfl) ?_ (fun a w hF hS => ?_)
    · exact obs_nil
    refine wpIn_block ?_
    refine wp_loop_model (S := Int) (R := (Fl Unit Int)) (gameroomref_at_L1 l1 n2) (fun x => (gameroomref_at_K1 x).bind some) r (fun (x : Int) a w => Fr 19 [pl 0 (.slice A1 l1.length c1), pl 1 (.int .i64 n2), pl 5 (.int .i64 x)] a ∧ Sep w0 B w (fs)) (assoc_b hm) ⟨hF.weak [0, 1, 5] (by kernel_rfl), hS⟩ ?_
    clear hF hS hm
    rintro nn1 i1 a w ⟨hF, hS⟩ hm
    generalize hφ1 : stK (gameroomref_at_L1 l1 n2) nn1 (fun x => (gameroomref_at_K1 x).bind some) = φ1 at hm
    unfold gameroomref_at_L1 at hm
    dsimp only at hm
    refine seq_cut (fun a w => Fr 19 [pl 0 (.slice A1 l1.length c1), pl 1 (.int .i64 n2), pl 5 (.int .i64 i1)] a ∧ Sep w0 B w (fs) ∧ ((gameroomref_at_J2 l1 n2 i1)).bind φ1 = some r) ?_ ?_
    · rintro a w ⟨hF, hS, hm⟩
      unfold gameroomref_at_J2 at hm
      refine seq_cut (fun a w => Fr 19 [pl 0 (.slice A1 l1.length c1), pl 1 (.int .i64 n2), pl 5 (.int .i64 i1)] a ∧ Sep w0 B w (fs) ∧ ((gameroomref_at_J3 i1)).bind φ1 = some r) ?_ ?_
      · rintro a w ⟨hF, hS, hm⟩
        unfold gameroomref_at_J3 at hm
        refine reg1 [] [] [0, 1, 5] [pl 0 (.slice A1 l1.length c1), pl 1 (.int .i64 n2), pl 5 (.int .i64 (w64 (i1 + 1)))] hF hS Fol (by kernel_rfl) (by kernel_rfl) (by kernel_rfl) ?_ (fun a w hF hS => ?_)
        · exact obs_nil
        refine then_n ?_
        rw [← hφ1] at hm
        exact ⟨(w64 (i1 + 1)), ⟨hF.weak [0, 1, 5] (by kernel_rfl), hS⟩, hm⟩
      · refine wpIn_block ?_
        obtain ⟨hp1, hm⟩ := asrt_b hm
        refine reg [⟨true, [], vS (Instr.indexAt 34 (.slice A1 l1.length c1) (.int .i64 i1)), .pointer (some (sAddr A1 i1))⟩, ⟨false, [], vS (Instr.loadAt 3 (.pointer (some (sAddr A1 i1)))), .int .i64 (geti l1 i1)⟩] [none, none, some (.pointer (some (sAddr A1 i1))), some (.int .i64 (geti l1 i1)), none, none] [0, 1, 5, 17] [pl 0 (.slice A1 l1.length c1), pl 1 (.int .i64 n2), pl 5 (.int .i64 i1), pl 17 (.bool ((geti l1 i1) == n2))] hF hS Fol (by kernel_rfl) (by kernel_rfl) (by kernel_rfl) ?_ (fun a w hF hS => ?_)
        · exact obs_cons (ob_ix1 (f := (Value.int .i64)) (m := l1) Und34 hi3 hs3 (hr_l1 _ (hS.dropN 0)) rfl (fun _ => hp1)) <| obs_cons (ob_get1 (n := l1.length) (m := l1) (Value.int .i64) (0 : Int) Agg3 (fun _ hS => ⟨_, (hr_l1 _ (hS.dropN 0))⟩) (fun _ hS => rfl) (fun _ => hp1)) <| obs_nil
        refine cond_ev (t := 17) (b := ((geti l1 i1) == n2)) hF (by kernel_rfl) (fun hb => ?_) (fun hb => ?_)
        · replace hm := if_t hm hb
          refine reg [] [] [4] [pl 4 (.int .i64 i1)] hF hS Fol (by kernel_rfl) (by kernel_rfl) (by kernel_rfl) ?_ (fun a w hF hS => ?_)
          · exact obs_nil
          refine wpIn_ret ?_
          refine block_r (then_r (then_r (block_r (then_r ?_))))
          rw [← hφ1] at hm
          replace hm := done_b hm
          unfold gameroomref_at_K1 at hm
          try dsimp only at hm
          have hm : some i1 = some r := hm
          obtain rfl := Option.some.inj hm
          exact retV (rs := [.tmp 4]) (vs := [.int .i64 i1]) hF rfl (rv_t (by kernel_rfl) <| rv_nil) rfl ⟨rfl, hS⟩
        · replace hm := if_f hm hb
          refine wpIn_skip ?_
          refine block_n ?_
          refine then_n ?_
          exact ⟨hF.weak [0, 1, 5] (by kernel_rfl), hS, hm⟩
    · refine reg [] [] [0, 1, 5, 9] [pl 0 (.slice A1 l1.length c1), pl 1 (.int .i64 n2), pl 5 (.int .i64 i1), pl 9 (.bool (decide (i1 < (l1.length : Int))))] hF hS Fol (by kernel_rfl) (by kernel_rfl) (by kernel_rfl) ?_ (fun a w hF hS => ?_)
      · exact obs_nil
      refine cond_ev (t := 9) (b := decide (i1 < (l1.length : Int))) hF (by kernel_rfl) (fun hb => ?_) (fun hb => ?_)
      · replace hm := if_t hm hb
        refine wpIn_skip ?_
        refine then_n ?_
        exact ⟨hF.weak [0, 1, 5] (by kernel_rfl), hS, hm⟩
      · replace hm := if_f hm hb
        refine wpIn_exit ?_
        refine then_e (then_e (block_e (then_n ?_)))
        rw [← hφ1] at hm
        replace hm := done_b hm
        unfold gameroomref_at_K1 at hm
        try dsimp only at hm
        have hm : (gameroomref_at_J1).bind some = some r := hm
        exact ⟨hF.weak [] (by kernel_rfl), hS, hm⟩

noncomputable def gameroomref_LatinMay_J10  (k1 : Int) : Option (St Int (Fl Unit Int)) :=
  some (.next (w64 (k1 + 1)))

noncomputable def gameroomref_LatinMay_J9  (rows1 : List (List Int)) (i1 : Int) (x1 : Int) (k1 : Int) : Option (St Int (Fl Unit Int)) :=
  asrt (0 ≤ k1 ∧ k1 < (rows1.length : Int)) <| asrt (0 ≤ x1 ∧ x1 < (((geti2 rows1 k1).length : Nat) : Int)) <| asrt (0 ≤ i1 ∧ i1 < (rows1.length : Int)) <| asrt (0 ≤ x1 ∧ x1 < (((geti2 rows1 i1).length : Nat) : Int)) <| if ((geti (geti2 rows1 k1) x1) == (geti (geti2 rows1 i1) x1)) then (some (.done (.ret 1))) else ((gameroomref_LatinMay_J10 k1))

noncomputable def gameroomref_LatinMay_J7  (x1 : Int) : Option (St Int (Fl Unit Int)) :=
  some (.next (w64 (x1 + 1)))

noncomputable def gameroomref_LatinMay_K3  (x1 : Int) : (Fl Unit Int) → Option (St Int (Fl Unit Int)) :=
  fun (x : (Fl Unit Int)) => match x with | .go _ => (gameroomref_LatinMay_J7 x1) | .ret x => some (.done (.ret x))

noncomputable def gameroomref_LatinMay_L3  (rows1 : List (List Int)) (i1 : Int) (x1 : Int) : Int → Option (St Int (Fl Unit Int)) :=
  fun (x : Int) => match x with | k1 => if (decide (k1 < i1)) then ((gameroomref_LatinMay_J9 rows1 i1 x1 k1)) else (some (.done (.go ())))

noncomputable def gameroomref_LatinMay_J8  (rows1 : List (List Int)) (i1 : Int) (x1 : Int) : Option (St Int (Fl Unit Int)) :=
  (loop (gameroomref_LatinMay_L3 rows1 i1 x1) 0).bind (gameroomref_LatinMay_K3 x1)

noncomputable def gameroomref_LatinMay_J6  (rows1 : List (List Int)) (i1 : Int) (x1 : Int) : Option (St Int (Fl Unit Int)) :=
  asrt (0 ≤ i1 ∧ i1 < (rows1.length : Int)) <| (gameroomref_at_m (geti2 rows1 i1) (w64 (x1 + 1))).bind fun r2 => if (decide (r2 < 0)) then (some (.done (.ret 1))) else ((gameroomref_LatinMay_J8 rows1 i1 x1))

noncomputable def gameroomref_LatinMay_J4  (i1 : Int) : Option (St Int (Fl Unit Int)) :=
  some (.next (w64 (i1 + 1)))

noncomputable def gameroomref_LatinMay_K2  (i1 : Int) : (Fl Unit Int) → Option (St Int (Fl Unit Int)) :=
  fun (x : (Fl Unit Int)) => match x with | .go _ => (gameroomref_LatinMay_J4 i1) | .ret x => some (.done (.ret x))

noncomputable def gameroomref_LatinMay_L2  (n1 : Int) (rows1 : List (List Int)) (i1 : Int) : Int → Option (St Int (Fl Unit Int)) :=
  fun (x : Int) => match x with | x1 => if (decide (x1 < n1)) then ((gameroomref_LatinMay_J6 rows1 i1 x1)) else (some (.done (.go ())))

noncomputable def gameroomref_LatinMay_J5  (n1 : Int) (rows1 : List (List Int)) (i1 : Int) : Option (St Int (Fl Unit Int)) :=
  (loop (gameroomref_LatinMay_L2 n1 rows1 i1) 0).bind (gameroomref_LatinMay_K2 i1)

noncomputable def gameroomref_LatinMay_J3  (n1 : Int) (rows1 : List (List Int)) (i1 : Int) : Option (St Int (Fl Unit Int)) :=
  asrt (0 ≤ i1 ∧ i1 < (rows1.length : Int)) <| if ((((geti2 rows1 i1).length : Nat) : Int) != n1) then (some (.done (.ret 1))) else ((gameroomref_LatinMay_J5 n1 rows1 i1))

noncomputable def gameroomref_LatinMay_J2  : Option Int :=
  some 0

noncomputable def gameroomref_LatinMay_K1  : (Fl Unit Int) → Option Int :=
  fun (x : (Fl Unit Int)) => match x with | .go _ => gameroomref_LatinMay_J2 | .ret x => some x

noncomputable def gameroomref_LatinMay_L1  (n1 : Int) (rows1 : List (List Int)) : Int → Option (St Int (Fl Unit Int)) :=
  fun (x : Int) => match x with | i1 => if (decide (i1 < (rows1.length : Int))) then ((gameroomref_LatinMay_J3 n1 rows1 i1)) else (some (.done (.go ())))

noncomputable def gameroomref_LatinMay_J1  (n1 : Int) (rows1 : List (List Int)) : Option Int :=
  (loop (gameroomref_LatinMay_L1 n1 rows1) 0).bind gameroomref_LatinMay_K1

noncomputable def gameroomref_LatinMay_m  (n1 : Int) (rows1 : List (List Int)) : Option Int :=
  (gameroomref_within_m n1 1 5).bind fun r1 => if ((!r1) || (decide (n1 < (rows1.length : Int)))) then (some 3) else ((gameroomref_LatinMay_J1 n1 rows1))

set_option maxRecDepth 100000 in
set_option maxHeartbeats 4000000 in
theorem gameroomref_LatinMay_w {n1 : Int} {A1 : Option Addr} {c1 : Nat} {n2 : Nat} {hd1 : List Hd} {rows1 : List (List Int)} {r : Int} {w0 w : World} {B : Nat} {fs : List HP} (hm : gameroomref_LatinMay_m n1 rows1 = some r) (hS : Sep w0 B w (fs)) (hr_rows1 : RdRowsF w0 B fs A1 hd1 rows1) (_hc_rows1 : rows1.length ≤ c1) (_hn_rows1 : n2 = rows1.length) :
    Calls Try.prog 31 #[.int .i64 n1, .slice A1 n2 c1] w fun e w' => e = .returned (.int .i64 r) ∧ Sep w0 B w' (fs) := by
  obtain ⟨i3, hi3, hz3, hs3, hb3⟩ := info_parts Info3
  obtain ⟨i34, hi34, hz34, hs34, hb34⟩ := info_parts Info34
  obtain rfl := _hn_rows1
  unfold gameroomref_LatinMay_m at hm
  replace hm := start_b hm
  refine enter (l := [.int .i64 n1, .slice A1 rows1.length c1]) (n := 63) Try.func31 rfl rfl (by simp) (fun a hF => ?_)
  refine reg [] [] [0, 1] [pl 0 (.int .i64 n1), pl 1 (.slice A1 rows1.length c1)] hF hS Fol (by kernel_rfl) (by kernel_rfl) (by kernel_rfl) ?_ (fun a w hF hS => ?_)
  · exact obs_nil
  refine seq_cut (fun a w => Fr 63 [pl 0 (.int .i64 n1), pl 1 (.slice A1 rows1.length c1)] a ∧ Sep w0 B w (fs) ∧ ((gameroomref_LatinMay_J1 n1 rows1)).bind some = some r) ?_ ?_
  · rintro a w ⟨hF, hS, hm⟩
    unfold gameroomref_LatinMay_J1 at hm
    refine seq_cut (fun a w => Fr 63 [] a ∧ Sep w0 B w (fs) ∧ (gameroomref_LatinMay_J2).bind some = some r) ?_ ?_
    · rintro a w ⟨hF, hS, hm⟩
      unfold gameroomref_LatinMay_J2 at hm
      refine reg [] [] [4] [pl 4 (.int .i64 0)] hF hS Fol (by kernel_rfl) (by kernel_rfl) (by kernel_rfl) ?_ (fun a w hF hS => ?_)
      · exact obs_nil
      refine wpIn_ret ?_
      have hm : some 0 = some r := hm
      obtain rfl := Option.some.inj hm
      exact retV (rs := [.tmp 4]) (vs := [.int .i64 0]) hF rfl (rv_t (by kernel_rfl) <| rv_nil) rfl ⟨rfl, hS⟩
    · refine reg [] [] [0, 1, 5] [pl 0 (.int .i64 n1), pl 1 (.slice A1 rows1.length c1), pl 5 (.int .i64 0)] hF hS Fol (by kernel_rfl) (by kernel_rfl) (by kernel_rfl) ?_ (fun a w hF hS => ?_)
      · exact obs_nil
      refine wpIn_block ?_
      refine wp_loop_model (S := Int) (R := (Fl Unit Int)) (gameroomref_LatinMay_L1 n1 rows1) (fun x => (gameroomref_LatinMay_K1 x).bind some) r (fun (x : Int) a w => Fr 63 [pl 0 (.int .i64 n1), pl 1 (.slice A1 rows1.length c1), pl 5 (.int .i64 x)] a ∧ Sep w0 B w (fs)) (assoc_b hm) ⟨hF.weak [0, 1, 5] (by kernel_rfl), hS⟩ ?_
      clear hF hS hm
      rintro nn1 i1 a w ⟨hF, hS⟩ hm
      generalize hφ1 : stK (gameroomref_LatinMay_L1 n1 rows1) nn1 (fun x => (gameroomref_LatinMay_K1 x).bind some) = φ1 at hm
      unfold gameroomref_LatinMay_L1 at hm
      dsimp only at hm
      refine seq_cut (fun a w => Fr 63 [pl 0 (.int .i64 n1), pl 1 (.slice A1 rows1.length c1), pl 5 (.int .i64 i1)] a ∧ Sep w0 B w (fs) ∧ ((gameroomref_LatinMay_J3 n1 rows1 i1)).bind φ1 = some r) ?_ ?_
      · rintro a w ⟨hF, hS, hm⟩
        unfold gameroomref_LatinMay_J3 at hm
        refine seq_cut (fun a w => Fr 63 [pl 0 (.int .i64 n1), pl 1 (.slice A1 rows1.length c1), pl 5 (.int .i64 i1)] a ∧ Sep w0 B w (fs) ∧ ((gameroomref_LatinMay_J4 i1)).bind φ1 = some r) ?_ ?_
        · rintro a w ⟨hF, hS, hm⟩
          unfold gameroomref_LatinMay_J4 at hm
          refine reg1 [] [] [0, 1, 5] [pl 0 (.int .i64 n1), pl 1 (.slice A1 rows1.length c1), pl 5 (.int .i64 (w64 (i1 + 1)))] hF hS Fol (by kernel_rfl) (by kernel_rfl) (by kernel_rfl) ?_ (fun a w hF hS => ?_)
          · exact obs_nil
          refine then_n ?_
          rw [← hφ1] at hm
          exact ⟨(w64 (i1 + 1)), ⟨hF.weak [0, 1, 5] (by kernel_rfl), hS⟩, hm⟩
        · refine wpIn_block ?_
          refine seq_cut (fun a w => Fr 63 [pl 0 (.int .i64 n1), pl 1 (.slice A1 rows1.length c1), pl 5 (.int .i64 i1)] a ∧ Sep w0 B w (fs) ∧ ((gameroomref_LatinMay_J5 n1 rows1 i1)).bind φ1 = some r) ?_ ?_
          · rintro a w ⟨hF, hS, hm⟩
            unfold gameroomref_LatinMay_J5 at hm
            refine reg [] [] [0, 1, 5, 6] [pl 0 (.int .i64 n1), pl 1 (.slice A1 rows1.length c1), pl 5 (.int .i64 i1), pl 6 (.int .i64 0)] hF hS Fol (by kernel_rfl) (by kernel_rfl) (by kernel_rfl) ?_ (fun a w hF hS => ?_)
            · exact obs_nil
            refine wpIn_block ?_
            refine wp_loop_model (S := Int) (R := (Fl Unit Int)) (gameroomref_LatinMay_L2 n1 rows1 i1) (fun x => ((gameroomref_LatinMay_K2 i1) x).bind φ1) r (fun (x : Int) a w => Fr 63 [pl 0 (.int .i64 n1), pl 1 (.slice A1 rows1.length c1), pl 5 (.int .i64 i1), pl 6 (.int .i64 x)] a ∧ Sep w0 B w (fs)) (assoc_b hm) ⟨hF.weak [0, 1, 5, 6] (by kernel_rfl), hS⟩ ?_
            clear hF hS hm
            rintro nn2 x1 a w ⟨hF, hS⟩ hm
            generalize hφ2 : stK (gameroomref_LatinMay_L2 n1 rows1 i1) nn2 (fun x => ((gameroomref_LatinMay_K2 i1) x).bind φ1) = φ2 at hm
            unfold gameroomref_LatinMay_L2 at hm
            dsimp only at hm
            refine seq_cut (fun a w => Fr 63 [pl 0 (.int .i64 n1), pl 1 (.slice A1 rows1.length c1), pl 5 (.int .i64 i1), pl 6 (.int .i64 x1)] a ∧ Sep w0 B w (fs) ∧ ((gameroomref_LatinMay_J6 rows1 i1 x1)).bind φ2 = some r) ?_ ?_
            · rintro a w ⟨hF, hS, hm⟩
              unfold gameroomref_LatinMay_J6 at hm
              refine seq_cut (fun a w => Fr 63 [pl 0 (.int .i64 n1), pl 1 (.slice A1 rows1.length c1), pl 5 (.int .i64 i1), pl 6 (.int .i64 x1)] a ∧ Sep w0 B w (fs) ∧ ((gameroomref_LatinMay_J7 x1)).bind φ2 = some r) ?_ ?_
              · rintro a w ⟨hF, hS, hm⟩
                unfold gameroomref_LatinMay_J7 at hm
                refine reg1 [] [] [0, 1, 5, 6] [pl 0 (.int .i64 n1), pl 1 (.slice A1 rows1.length c1), pl 5 (.int .i64 i1), pl 6 (.int .i64 (w64 (x1 + 1)))] hF hS Fol (by kernel_rfl) (by kernel_rfl) (by kernel_rfl) ?_ (fun a w hF hS => ?_)
                · exact obs_nil
                refine then_n ?_
                rw [← hφ2] at hm
                exact ⟨(w64 (x1 + 1)), ⟨hF.weak [0, 1, 5, 6] (by kernel_rfl), hS⟩, hm⟩
              · refine wpIn_block ?_
                refine seq_cut (fun a w => Fr 63 [pl 0 (.int .i64 n1), pl 1 (.slice A1 rows1.length c1), pl 5 (.int .i64 i1), pl 6 (.int .i64 x1)] a ∧ Sep w0 B w (fs) ∧ ((gameroomref_LatinMay_J8 rows1 i1 x1)).bind φ2 = some r) ?_ ?_
                · rintro a w ⟨hF, hS, hm⟩
                  unfold gameroomref_LatinMay_J8 at hm
                  refine reg [] [] [0, 1, 5, 6, 7] [pl 0 (.int .i64 n1), pl 1 (.slice A1 rows1.length c1), pl 5 (.int .i64 i1), pl 6 (.int .i64 x1), pl 7 (.int .i64 0)] hF hS Fol (by kernel_rfl) (by kernel_rfl) (by kernel_rfl) ?_ (fun a w hF hS => ?_)
                  · exact obs_nil
                  refine wpIn_block ?_
                  refine wp_loop_model (S := Int) (R := (Fl Unit Int)) (gameroomref_LatinMay_L3 rows1 i1 x1) (fun x => ((gameroomref_LatinMay_K3 x1) x).bind φ2) r (fun (x : Int) a w => Fr 63 [pl 0 (.int .i64 n1), pl 1 (.slice A1 rows1.length c1), pl 5 (.int .i64 i1), pl 6 (.int .i64 x1), pl 7 (.int .i64 x)] a ∧ Sep w0 B w (fs)) (assoc_b hm) ⟨hF.weak [0, 1, 5, 6, 7] (by kernel_rfl), hS⟩ ?_
                  clear hF hS hm
                  rintro nn3 k1 a w ⟨hF, hS⟩ hm
                  generalize hφ3 : stK (gameroomref_LatinMay_L3 rows1 i1 x1) nn3 (fun x => ((gameroomref_LatinMay_K3 x1) x).bind φ2) = φ3 at hm
                  unfold gameroomref_LatinMay_L3 at hm
                  dsimp only at hm
                  refine seq_cut (fun a w => Fr 63 [pl 0 (.int .i64 n1), pl 1 (.slice A1 rows1.length c1), pl 5 (.int .i64 i1), pl 6 (.int .i64 x1), pl 7 (.int .i64 k1)] a ∧ Sep w0 B w (fs) ∧ ((gameroomref_LatinMay_J9 rows1 i1 x1 k1)).bind φ3 = some r) ?_ ?_
                  · rintro a w ⟨hF, hS, hm⟩
                    unfold gameroomref_LatinMay_J9 at hm
                    refine seq_cut (fun a w => Fr 63 [pl 0 (.int .i64 n1), pl 1 (.slice A1 rows1.length c1), pl 5 (.int .i64 i1), pl 6 (.int .i64 x1), pl 7 (.int .i64 k1)] a ∧ Sep w0 B w (fs) ∧ ((gameroomref_LatinMay_J10 k1)).bind φ3 = some r) ?_ ?_
                    · rintro a w ⟨hF, hS, hm⟩
                      unfold gameroomref_LatinMay_J10 at hm
                      refine reg1 [] [] [0, 1, 5, 6, 7] [pl 0 (.int .i64 n1), pl 1 (.slice A1 rows1.length c1), pl 5 (.int .i64 i1), pl 6 (.int .i64 x1), pl 7 (.int .i64 (w64 (k1 + 1)))] hF hS Fol (by kernel_rfl) (by kernel_rfl) (by kernel_rfl) ?_ (fun a w hF hS => ?_)
                      · exact obs_nil
                      refine then_n ?_
                      rw [← hφ3] at hm
                      exact ⟨(w64 (k1 + 1)), ⟨hF.weak [0, 1, 5, 6, 7] (by kernel_rfl), hS⟩, hm⟩
                    · refine wpIn_block ?_
                      obtain ⟨hp3, hm⟩ := asrt_b hm
                      obtain ⟨hp4, hm⟩ := asrt_b hm
                      obtain ⟨hp5, hm⟩ := asrt_b hm
                      obtain ⟨hp6, hm⟩ := asrt_b hm
                      refine reg [⟨true, [], vS (Instr.indexAt 45 (.slice A1 rows1.length c1) (.int .i64 k1)), .pointer (some (sAddr A1 k1))⟩, ⟨false, [], vS (Instr.loadAt 34 (.pointer (some (sAddr A1 k1)))), .slice (hdA hd1 k1) ((geti2 rows1 k1).length) (hdC hd1 k1)⟩, ⟨true, [], vS (Instr.indexAt 34 (.slice (hdA hd1 k1) ((geti2 rows1 k1).length) (hdC hd1 k1)) (.int .i64 x1)), .pointer (some (sAddr (hdA hd1 k1) x1))⟩, ⟨false, [], vS (Instr.loadAt 3 (.pointer (some (sAddr (hdA hd1 k1) x1)))), .int .i64 (geti (geti2 rows1 k1) x1)⟩, ⟨true, [], vS (Instr.indexAt 45 (.slice A1 rows1.length c1) (.int .i64 i1)), .pointer (some (sAddr A1 i1))⟩, ⟨false, [], vS (Instr.loadAt 34 (.pointer (some (sAddr A1 i1)))), .slice (hdA hd1 i1) ((geti2 rows1 i1).length) (hdC hd1 i1)⟩, ⟨true, [], vS (Instr.indexAt 34 (.slice (hdA hd1 i1) ((geti2 rows1 i1).length) (hdC hd1 i1)) (.int .i64 x1)), .pointer (some (sAddr (hdA hd1 i1) x1))⟩, ⟨false, [], vS (Instr.loadAt 3 (.pointer (some (sAddr (hdA hd1 i1) x1)))), .int .i64 (geti (geti2 rows1 i1) x1)⟩] [none, none, some (.pointer (some (sAddr A1 k1))), some (.slice (hdA hd1 k1) ((geti2 rows1 k1).length) (hdC hd1 k1)), none, some (.pointer (some (sAddr (hdA hd1 k1) x1))), some (.int .i64 (geti (geti2 rows1 k1) x1)), none, none, some (.pointer (some (sAddr A1 i1))), some (.slice (hdA hd1 i1) ((geti2 rows1 i1).length) (hdC hd1 i1)), none, some (.pointer (some (sAddr (hdA hd1 i1) x1))), some (.int .i64 (geti (geti2 rows1 i1) x1)), none] [0, 1, 5, 6, 7, 62] [pl 0 (.int .i64 n1), pl 1 (.slice A1 rows1.length c1), pl 5 (.int .i64 i1), pl 6 (.int .i64 x1), pl 7 (.int .i64 k1), pl 62 (.bool ((geti (geti2 rows1 k1) x1) == (geti (geti2 rows1 i1) x1)))] hF hS Fol (by kernel_rfl) (by kernel_rfl) (by kernel_rfl) ?_ (fun a w hF hS => ?_)
                      · exact obs_cons (ob_ixRn Und45 hi34 hs34 (hr_rows1 _ (hS.dropN 0)) rfl (fun _ => hp3)) <| obs_cons (ob_getR Agg34 (fun _ hS => ⟨_, (hr_rows1 _ (hS.dropN 0))⟩) (fun _ => hp3)) <| obs_cons (ob_ix1 (f := (Value.int .i64)) (m := (geti2 rows1 k1)) Und34 hi3 hs3 ((hr_rows1 _ (hS.dropN 0)).row _ hp3).1 rfl (fun _ => hp4)) <| obs_cons (ob_get1 (n := (geti2 rows1 k1).length) (m := (geti2 rows1 k1)) (Value.int .i64) (0 : Int) Agg3 (fun _ hS => ⟨_, ((hr_rows1 _ (hS.dropN 0)).row _ hp3).1⟩) (fun _ hS => rfl) (fun _ => hp4)) <| obs_cons (ob_ixRn Und45 hi34 hs34 (hr_rows1 _ (hS.dropN 0)) rfl (fun _ => hp5)) <| obs_cons (ob_getR Agg34 (fun _ hS => ⟨_, (hr_rows1 _ (hS.dropN 0))⟩) (fun _ => hp5)) <| obs_cons (ob_ix1 (f := (Value.int .i64)) (m := (geti2 rows1 i1)) Und34 hi3 hs3 ((hr_rows1 _ (hS.dropN 0)).row _ hp5).1 rfl (fun _ => hp6)) <| obs_cons (ob_get1 (n := (geti2 rows1 i1).length) (m := (geti2 rows1 i1)) (Value.int .i64) (0 : Int) Agg3 (fun _ hS => ⟨_, ((hr_rows1 _ (hS.dropN 0)).row _ hp5).1⟩) (fun _ hS => rfl) (fun _ => hp6)) <| obs_nil
                      refine cond_ev (t := 62) (b := ((geti (geti2 rows1 k1) x1) == (geti (geti2 rows1 i1) x1))) hF (by kernel_rfl) (fun hb => ?_) (fun hb => ?_)
                      · replace hm := if_t hm hb
                        refine reg [] [] [4] [pl 4 (.int .i64 1)] hF hS Fol (by kernel_rfl) (by kernel_rfl) (by kernel_rfl) ?_ (fun a w hF hS => ?_)
                        · exact obs_nil
                        refine wpIn_ret ?_
                        refine block_r (then_r (then_r (block_r (block_r (then_r (then_r (block_r (block_r (then_r (then_r (block_r (then_r ?_))))))))))))
                        rw [← hφ3] at hm
                        replace hm := done_b hm
                        unfold gameroomref_LatinMay_K3 at hm
                        try dsimp only at hm
                        rw [← hφ2] at hm
                        replace hm := done_b hm
                        unfold gameroomref_LatinMay_K2 at hm
                        try dsimp only at hm
                        rw [← hφ1] at hm
                        replace hm := done_b hm
                        unfold gameroomref_LatinMay_K1 at hm
                        try dsimp only at hm
                        have hm : some 1 = some r := hm
                        obtain rfl := Option.some.inj hm
                        exact retV (rs := [.tmp 4]) (vs := [.int .i64 1]) hF rfl (rv_t (by kernel_rfl) <| rv_nil) rfl ⟨rfl, hS⟩
                      · replace hm := if_f hm hb
                        refine wpIn_skip ?_
                        refine block_n ?_
                        refine then_n ?_
                        exact ⟨hF.weak [0, 1, 5, 6, 7] (by kernel_rfl), hS, hm⟩
                  · refine reg [] [] [0, 1, 5, 6, 7, 45] [pl 0 (.int .i64 n1), pl 1 (.slice A1 rows1.length c1), pl 5 (.int .i64 i1), pl 6 (.int .i64 x1), pl 7 (.int .i64 k1), pl 45 (.bool (decide (k1 < i1)))] hF hS Fol (by kernel_rfl) (by kernel_rfl) (by kernel_rfl) ?_ (fun a w hF hS => ?_)
                    · exact obs_nil
                    refine cond_ev (t := 45) (b := decide (k1 < i1)) hF (by kernel_rfl) (fun hb => ?_) (fun hb => ?_)
                    · replace hm := if_t hm hb
                      refine wpIn_skip ?_
                      refine then_n ?_
                      exact ⟨hF.weak [0, 1, 5, 6, 7] (by kernel_rfl), hS, hm⟩
                    · replace hm := if_f hm hb
                      refine wpIn_exit ?_
                      refine then_e (then_e (block_e (block_n (then_n ?_))))
                      rw [← hφ3] at hm
                      replace hm := done_b hm
                      unfold gameroomref_LatinMay_K3 at hm
                      try dsimp only at hm
                      have hm : ((gameroomref_LatinMay_J7 x1)).bind φ2 = some r := hm
                      exact ⟨hF.weak [0, 1, 5, 6] (by kernel_rfl), hS, hm⟩
                · obtain ⟨hp2, hm⟩ := asrt_b hm
                  obtain ⟨r2, hr2, hm⟩ := call_b hm
                  refine reg [⟨true, [], vS (Instr.indexAt 45 (.slice A1 rows1.length c1) (.int .i64 i1)), .pointer (some (sAddr A1 i1))⟩, ⟨false, [], vS (Instr.loadAt 34 (.pointer (some (sAddr A1 i1)))), .slice (hdA hd1 i1) ((geti2 rows1 i1).length) (hdC hd1 i1)⟩, ⟨false, [], callFunc 78 #[.slice (hdA hd1 i1) ((geti2 rows1 i1).length) (hdC hd1 i1), .int .i64 (w64 (x1 + 1))], .int .i64 r2⟩] [none, none, some (.pointer (some (sAddr A1 i1))), some (.slice (hdA hd1 i1) ((geti2 rows1 i1).length) (hdC hd1 i1)), none, none, some (.int .i64 r2), none] [0, 1, 5, 6, 42] [pl 0 (.int .i64 n1), pl 1 (.slice A1 rows1.length c1), pl 5 (.int .i64 i1), pl 6 (.int .i64 x1), pl 42 (.bool (decide (r2 < 0)))] hF hS Fol (by kernel_rfl) (by kernel_rfl) (by kernel_rfl) ?_ (fun a w hF hS => ?_)
                  · exact obs_cons (ob_ixRn Und45 hi34 hs34 (hr_rows1 _ (hS.dropN 0)) rfl (fun _ => hp2)) <| obs_cons (ob_getR Agg34 (fun _ hS => ⟨_, (hr_rows1 _ (hS.dropN 0))⟩) (fun _ => hp2)) <| obs_cons (ob_call Try.func78 (by kernel_rfl) rfl (fun _ _ hS => gameroomref_at_w hr2 hS (fun _ hS => ((hr_rows1 _ (hS.dropN 0)).row _ hp2).1) ((hr_rows1 _ (hS.dropN 0)).row _ hp2).2 rfl)) <| obs_nil
                  refine cond_ev (t := 42) (b := decide (r2 < 0)) hF (by kernel_rfl) (fun hb => ?_) (fun hb => ?_)
                  · replace hm := if_t hm hb
                    refine reg [] [] [4] [pl 4 (.int .i64 1)] hF hS Fol (by kernel_rfl) (by kernel_rfl) (by kernel_rfl) ?_ (fun a w hF hS => ?_)
                    · exact obs_nil
                    refine wpIn_ret ?_
                    refine then_r (block_r (then_r (then_r (block_r (block_r (then_r (then_r (block_r (then_r ?_)))))))))
                    rw [← hφ2] at hm
                    replace hm := done_b hm
                    unfold gameroomref_LatinMay_K2 at hm
                    try dsimp only at hm
                    rw [← hφ1] at hm
                    replace hm := done_b hm
                    unfold gameroomref_LatinMay_K1 at hm
                    try dsimp only at hm
                    have hm : some 1 = some r := hm
                    obtain rfl := Option.some.inj hm
                    exact retV (rs := [.tmp 4]) (vs := [.int .i64 1]) hF rfl (rv_t (by kernel_rfl) <| rv_nil) rfl ⟨rfl, hS⟩
                  · replace hm := if_f hm hb
                    refine wpIn_skip ?_
                    refine then_n ?_
                    exact ⟨hF.weak [0, 1, 5, 6] (by kernel_rfl), hS, hm⟩
            · refine reg [] [] [0, 1, 5, 6, 32] [pl 0 (.int .i64 n1), pl 1 (.slice A1 rows1.length c1), pl 5 (.int .i64 i1), pl 6 (.int .i64 x1), pl 32 (.bool (decide (x1 < n1)))] hF hS Fol (by kernel_rfl) (by kernel_rfl) (by kernel_rfl) ?_ (fun a w hF hS => ?_)
              · exact obs_nil
              refine cond_ev (t := 32) (b := decide (x1 < n1)) hF (by kernel_rfl) (fun hb => ?_) (fun hb => ?_)
              · replace hm := if_t hm hb
                refine wpIn_skip ?_
                refine then_n ?_
                exact ⟨hF.weak [0, 1, 5, 6] (by kernel_rfl), hS, hm⟩
              · replace hm := if_f hm hb
                refine wpIn_exit ?_
                refine then_e (then_e (block_e (block_n (then_n ?_))))
                rw [← hφ2] at hm
                replace hm := done_b hm
                unfold gameroomref_LatinMay_K2 at hm
                try dsimp only at hm
                have hm : ((gameroomref_LatinMay_J4 i1)).bind φ1 = some r := hm
                exact ⟨hF.weak [0, 1, 5] (by kernel_rfl), hS, hm⟩
          · obtain ⟨hp1, hm⟩ := asrt_b hm
            refine reg [⟨true, [], vS (Instr.indexAt 45 (.slice A1 rows1.length c1) (.int .i64 i1)), .pointer (some (sAddr A1 i1))⟩, ⟨false, [], vS (Instr.loadAt 34 (.pointer (some (sAddr A1 i1)))), .slice (hdA hd1 i1) ((geti2 rows1 i1).length) (hdC hd1 i1)⟩] [none, none, some (.pointer (some (sAddr A1 i1))), some (.slice (hdA hd1 i1) ((geti2 rows1 i1).length) (hdC hd1 i1)), none, none, none] [0, 1, 5, 29] [pl 0 (.int .i64 n1), pl 1 (.slice A1 rows1.length c1), pl 5 (.int .i64 i1), pl 29 (.bool ((((geti2 rows1 i1).length : Nat) : Int) != n1))] hF hS Fol (by kernel_rfl) (by kernel_rfl) (by kernel_rfl) ?_ (fun a w hF hS => ?_)
            · exact obs_cons (ob_ixRn Und45 hi34 hs34 (hr_rows1 _ (hS.dropN 0)) rfl (fun _ => hp1)) <| obs_cons (ob_getR Agg34 (fun _ hS => ⟨_, (hr_rows1 _ (hS.dropN 0))⟩) (fun _ => hp1)) <| obs_nil
            refine cond_ev (t := 29) (b := ((((geti2 rows1 i1).length : Nat) : Int) != n1)) hF (by kernel_rfl) (fun hb => ?_) (fun hb => ?_)
            · replace hm := if_t hm hb
              refine reg [] [] [4] [pl 4 (.int .i64 1)] hF hS Fol (by kernel_rfl) (by kernel_rfl) (by kernel_rfl) ?_ (fun a w hF hS => ?_)
              · exact obs_nil
              refine wpIn_ret ?_
              refine then_r (block_r (then_r (then_r (block_r (then_r ?_)))))
              rw [← hφ1] at hm
              replace hm := done_b hm
              unfold gameroomref_LatinMay_K1 at hm
              try dsimp only at hm
              have hm : some 1 = some r := hm
              obtain rfl := Option.some.inj hm
              exact retV (rs := [.tmp 4]) (vs := [.int .i64 1]) hF rfl (rv_t (by kernel_rfl) <| rv_nil) rfl ⟨rfl, hS⟩
            · replace hm := if_f hm hb
              refine wpIn_skip ?_
              refine then_n ?_
              exact ⟨hF.weak [0, 1, 5] (by kernel_rfl), hS, hm⟩
      · refine reg [] [] [0, 1, 5, 20] [pl 0 (.int .i64 n1), pl 1 (.slice A1 rows1.length c1), pl 5 (.int .i64 i1), pl 20 (.bool (decide (i1 < (rows1.length : Int))))] hF hS Fol (by kernel_rfl) (by kernel_rfl) (by kernel_rfl) ?_ (fun a w hF hS => ?_)
        · exact obs_nil
        refine cond_ev (t := 20) (b := decide (i1 < (rows1.length : Int))) hF (by kernel_rfl) (fun hb => ?_) (fun hb => ?_)
        · replace hm := if_t hm hb
          refine wpIn_skip ?_
          refine then_n ?_
          exact ⟨hF.weak [0, 1, 5] (by kernel_rfl), hS, hm⟩
        · replace hm := if_f hm hb
          refine wpIn_exit ?_
          refine then_e (then_e (block_e (then_n ?_)))
          rw [← hφ1] at hm
          replace hm := done_b hm
          unfold gameroomref_LatinMay_K1 at hm
          try dsimp only at hm
          have hm : (gameroomref_LatinMay_J2).bind some = some r := hm
          exact ⟨hF.weak [] (by kernel_rfl), hS, hm⟩
  · obtain ⟨r1, hr1, hm⟩ := call_b hm
    refine reg [⟨false, [], callFunc 72 #[.int .i64 n1, .int .i64 1, .int .i64 5], .bool r1⟩] [none, some (.bool r1), none, none, none, none, none, none, none] [0, 1, 16] [pl 0 (.int .i64 n1), pl 1 (.slice A1 rows1.length c1), pl 16 (.bool ((!r1) || (decide (n1 < (rows1.length : Int)))))] hF hS Fol (by kernel_rfl) (by kernel_rfl) (by kernel_rfl) ?_ (fun a w hF hS => ?_)
    · exact obs_cons (ob_call Try.func72 (by kernel_rfl) rfl (fun _ _ hS => gameroomref_within_w hr1 hS )) <| obs_nil
    refine cond_ev (t := 16) (b := (!r1) || (decide (n1 < (rows1.length : Int)))) hF (by kernel_rfl) (fun hb => ?_) (fun hb => ?_)
    · replace hm := if_t hm hb
      refine reg [] [] [4] [pl 4 (.int .i64 3)] hF hS Fol (by kernel_rfl) (by kernel_rfl) (by kernel_rfl) ?_ (fun a w hF hS => ?_)
      · exact obs_nil
      refine wpIn_ret ?_
      refine then_r ?_
      have hm : some 3 = some r := hm
      obtain rfl := Option.some.inj hm
      exact retV (rs := [.tmp 4]) (vs := [.int .i64 3]) hF rfl (rv_t (by kernel_rfl) <| rv_nil) rfl ⟨rfl, hS⟩
    · replace hm := if_f hm hb
      refine wpIn_skip ?_
      refine then_n ?_
      exact ⟨hF.weak [0, 1] (by kernel_rfl), hS, hm⟩

noncomputable def gameroomref_factorial_J3  (f1 : Int) (i1 : Int) : Option (St (Int × Int) Int) :=
  some (.next ((w64 (f1 * i1)), (w64 (i1 + 1))))

noncomputable def gameroomref_factorial_J2  (f1 : Int) (i1 : Int) : Option (St (Int × Int) Int) :=
  (gameroomref_factorial_J3 f1 i1)

noncomputable def gameroomref_factorial_J1  (f2 : Int) : Option Int :=
  some f2

noncomputable def gameroomref_factorial_K1  : Int → Option Int :=
  fun (x : Int) => match x with | f2 => gameroomref_factorial_J1 f2

noncomputable def gameroomref_factorial_L1  (n1 : Int) : (Int × Int) → Option (St (Int × Int) Int) :=
  fun (x : (Int × Int)) => match x with | (f1, i1) => if (decide (i1 ≤ n1)) then ((gameroomref_factorial_J2 f1 i1)) else (some (.done f1))

noncomputable def gameroomref_factorial_m  (n1 : Int) : Option Int :=
  (loop (gameroomref_factorial_L1 n1) (1, 2)).bind gameroomref_factorial_K1

set_option maxRecDepth 100000 in
set_option maxHeartbeats 4000000 in
theorem gameroomref_factorial_w {n1 : Int} {r : Int} {w0 w : World} {B : Nat} {fs : List HP} (hm : gameroomref_factorial_m n1 = some r) (hS : Sep w0 B w (fs)) :
    Calls Try.prog 79 #[.int .i64 n1] w fun e w' => e = .returned (.int .i64 r) ∧ Sep w0 B w' (fs) := by
  unfold gameroomref_factorial_m at hm
  replace hm := start_b hm
  refine enter (l := [.int .i64 n1]) (n := 14) Try.func79 rfl rfl (by simp) (fun a hF => ?_)
  refine reg [] [] [0] [pl 0 (.int .i64 n1)] hF hS Fol (by kernel_rfl) (by kernel_rfl) (by kernel_rfl) ?_ (fun a w hF hS => ?_)
  · exact obs_nil
  refine reg [] [] [0, 3] [pl 0 (.int .i64 n1), pl 3 (.int .i64 1)] hF hS Fol (by kernel_rfl) (by kernel_rfl) (by kernel_rfl) ?_ (fun a w hF hS => ?_)
  · exact obs_nil
  refine seq_cut (fun a w => ∃ (f2 : Int), Fr 14 [pl 3 (.int .i64 f2)] a ∧ Sep w0 B w (fs) ∧ (gameroomref_factorial_J1 f2).bind some = some r) ?_ ?_
  · rintro a w ⟨f2, hF, hS, hm⟩
    unfold gameroomref_factorial_J1 at hm
    refine reg [] [] [2] [pl 2 (.int .i64 f2)] hF hS Fol (by kernel_rfl) (by kernel_rfl) (by kernel_rfl) ?_ (fun a w hF hS => ?_)
    · exact obs_nil
    refine wpIn_ret ?_
    have hm : some f2 = some r := hm
    obtain rfl := Option.some.inj hm
    exact retV (rs := [.tmp 2]) (vs := [.int .i64 f2]) hF rfl (rv_t (by kernel_rfl) <| rv_nil) rfl ⟨rfl, hS⟩
  · refine reg [] [] [0, 3, 4] [pl 0 (.int .i64 n1), pl 3 (.int .i64 1), pl 4 (.int .i64 2)] hF hS Fol (by kernel_rfl) (by kernel_rfl) (by kernel_rfl) ?_ (fun a w hF hS => ?_)
    · exact obs_nil
    refine wpIn_block ?_
    refine wp_loop_model (S := (Int × Int)) (R := Int) (gameroomref_factorial_L1 n1) (fun x => (gameroomref_factorial_K1 x).bind some) r (fun (x : (Int × Int)) a w => Fr 14 [pl 0 (.int .i64 n1), pl 3 (.int .i64 x.1), pl 4 (.int .i64 x.2)] a ∧ Sep w0 B w (fs)) (assoc_b hm) ⟨hF.weak [0, 3, 4] (by kernel_rfl), hS⟩ ?_
    clear hF hS hm
    rintro nn1 ⟨f1, i1⟩ a w ⟨hF, hS⟩ hm
    generalize hφ1 : stK (gameroomref_factorial_L1 n1) nn1 (fun x => (gameroomref_factorial_K1 x).bind some) = φ1 at hm
    unfold gameroomref_factorial_L1 at hm
    dsimp only at hF hS hm
    refine seq_cut (fun a w => Fr 14 [pl 0 (.int .i64 n1), pl 3 (.int .i64 f1), pl 4 (.int .i64 i1)] a ∧ Sep w0 B w (fs) ∧ ((gameroomref_factorial_J2 f1 i1)).bind φ1 = some r) ?_ ?_
    · rintro a w ⟨hF, hS, hm⟩
      unfold gameroomref_factorial_J2 at hm
      refine seq_cut (fun a w => Fr 14 [pl 0 (.int .i64 n1), pl 3 (.int .i64 (w64 (f1 * i1))), pl 4 (.int .i64 i1)] a ∧ Sep w0 B w (fs) ∧ ((gameroomref_factorial_J3 f1 i1)).bind φ1 = some r) ?_ ?_
      · rintro a w ⟨hF, hS, hm⟩
        unfold gameroomref_factorial_J3 at hm
        refine reg1 [] [] [0, 3, 4] [pl 0 (.int .i64 n1), pl 3 (.int .i64 (w64 (f1 * i1))), pl 4 (.int .i64 (w64 (i1 + 1)))] hF hS Fol (by kernel_rfl) (by kernel_rfl) (by kernel_rfl) ?_ (fun a w hF hS => ?_)
        · exact obs_nil
        refine then_n ?_
        rw [← hφ1] at hm
        exact ⟨((w64 (f1 * i1)), (w64 (i1 + 1))), ⟨hF.weak [0, 3, 4] (by kernel_rfl), hS⟩, hm⟩
      · refine wpIn_block ?_
        refine reg1 [] [] [0, 3, 4] [pl 0 (.int .i64 n1), pl 3 (.int .i64 (w64 (f1 * i1))), pl 4 (.int .i64 i1)] hF hS Fol (by kernel_rfl) (by kernel_rfl) (by kernel_rfl) ?_ (fun a w hF hS => ?_)
        · exact obs_nil
        refine block_n ?_
        refine then_n ?_
        exact ⟨hF.weak [0, 3, 4] (by kernel_rfl), hS, hm⟩
    · refine reg [] [] [0, 3, 4, 7] [pl 0 (.int .i64 n1), pl 3 (.int .i64 f1), pl 4 (.int .i64 i1), pl 7 (.bool (decide (i1 ≤ n1)))] hF hS Fol (by kernel_rfl) (by kernel_rfl) (by kernel_rfl) ?_ (fun a w hF hS => ?_)
      · exact obs_nil
      refine cond_ev (t := 7) (b := decide (i1 ≤ n1)) hF (by kernel_rfl) (fun hb => ?_) (fun hb => ?_)
      · replace hm := if_t hm hb
        refine wpIn_skip ?_
        refine then_n ?_
        exact ⟨hF.weak [0, 3, 4] (by kernel_rfl), hS, hm⟩
      · replace hm := if_f hm hb
        refine wpIn_exit ?_
        refine then_e (then_e (block_e (then_n ?_)))
        rw [← hφ1] at hm
        replace hm := done_b hm
        unfold gameroomref_factorial_K1 at hm
        try dsimp only at hm
        have hm : (gameroomref_factorial_J1 f1).bind some = some r := hm
        exact ⟨f1, hF.weak [3] (by kernel_rfl), hS, hm⟩

noncomputable def gameroomref_NthOf_J4  (x1 : Int) (skip2 : Int) : Option (St (Int × Int) (Int × List Int)) :=
  some (.next (skip2, (w64 (x1 + 1))))

noncomputable def gameroomref_NthOf_J6  (skip1 : Int) (x1 : Int) : Option (St (Int × Int) (Int × List Int)) :=
  (gameroomref_NthOf_J4 x1) (w64 (skip1 - 1))

noncomputable def gameroomref_NthOf_J5  (k2 : Int) (l1 : List Int) (r1 : Int) (skip1 : Int) (x1 : Int) : Option (St (Int × Int) (Int × List Int)) :=
  if (skip1 == 0) then (asrt ((l1.length : Int) + 1 ≤ bigN) <| some (.done ((Int.tmod k2 r1), (l1 ++ ([x1] : List Int))))) else ((gameroomref_NthOf_J6 skip1 x1))

noncomputable def gameroomref_NthOf_J3  (k2 : Int) (l1 : List Int) (r1 : Int) (skip1 : Int) (x1 : Int) : Option (St (Int × Int) (Int × List Int)) :=
  (gameroomref_at_m l1 x1).bind fun r2 => if (decide ((0 : Int) ≤ r2)) then ((gameroomref_NthOf_J4 x1) skip1) else ((gameroomref_NthOf_J5 k2 l1 r1 skip1 x1))

noncomputable def gameroomref_NthOf_K2  : (Int × List Int) → Option (St (Int × List Int) (List Int)) :=
  fun (x : (Int × List Int)) => match x with | (k2, l1) => some (.next (k2, l1))

noncomputable def gameroomref_NthOf_L2  (n1 : Int) (k2 : Int) (l1 : List Int) (r1 : Int) : (Int × Int) → Option (St (Int × Int) (Int × List Int)) :=
  fun (x : (Int × Int)) => match x with | (skip1, x1) => if (decide (x1 < n1)) then ((gameroomref_NthOf_J3 k2 l1 r1 skip1 x1)) else (some (.done ((Int.tmod k2 r1), l1)))

noncomputable def gameroomref_NthOf_J2  (n1 : Int) (k2 : Int) (l1 : List Int) : Option (St (Int × List Int) (List Int)) :=
  (gameroomref_factorial_m (w64 ((w64 (n1 - 1)) - (l1.length : Int)))).bind fun r1 => asrt (r1 ≠ (0 : Int)) <| asrt (r1 ≠ (0 : Int)) <| (loop (gameroomref_NthOf_L2 n1 k2 l1 r1) ((w64 (Int.tdiv k2 r1)), 0)).bind gameroomref_NthOf_K2

noncomputable def gameroomref_NthOf_J1  (l2 : List Int) : Option (List Int) :=
  some l2

noncomputable def gameroomref_NthOf_K1  : (List Int) → Option (List Int) :=
  fun (x : (List Int)) => match x with | l2 => gameroomref_NthOf_J1 l2

noncomputable def gameroomref_NthOf_L1  (n1 : Int) : (Int × List Int) → Option (St (Int × List Int) (List Int)) :=
  fun (x : (Int × List Int)) => match x with | (k2, l1) => if (decide ((l1.length : Int) < n1)) then ((gameroomref_NthOf_J2 n1 k2 l1)) else (some (.done l1))

noncomputable def gameroomref_NthOf_m  (n1 : Int) (k1 : Int) : Option (List Int) :=
  (loop (gameroomref_NthOf_L1 n1) (k1, ([] : List Int))).bind gameroomref_NthOf_K1

set_option maxRecDepth 100000 in
set_option maxHeartbeats 4000000 in
theorem gameroomref_NthOf_w {n1 : Int} {k1 : Int} {r : (List Int)} {w0 w : World} {B : Nat} {fs : List HP} (hm : gameroomref_NthOf_m n1 k1 = some r) (hS : Sep w0 B w (fs)) :
    Calls Try.prog 80 #[.int .i64 n1, .int .i64 k1] w fun e w' => ∃ v, e = .returned v ∧ ∃ (A4 : Option Addr) (c4 : Nat), v = .slice A4 r.length c4 ∧ Sep w0 B w' (own 3 (.slice A4 r.length c4) (vI r) :: fs) := by
  obtain ⟨i3, hi3, hz3, hs3, hb3⟩ := info_parts Info3
  unfold gameroomref_NthOf_m at hm
  replace hm := start_b hm
  refine enter (l := [.int .i64 n1, .int .i64 k1]) (n := 43) Try.func80 rfl rfl (by simp) (fun a hF => ?_)
  refine reg [] [] [0, 1] [pl 0 (.int .i64 n1), pl 1 (.int .i64 k1)] hF hS Fol (by kernel_rfl) (by kernel_rfl) (by kernel_rfl) ?_ (fun a w hF hS => ?_)
  · exact obs_nil
  refine reg [] [] [0, 1, 5] [pl 0 (.int .i64 n1), pl 1 (.int .i64 k1), pl 5 (.slice none 0 0)] hF hS Fol (by kernel_rfl) (by kernel_rfl) (by kernel_rfl) ?_ (fun a w hF hS => ?_)
  · exact obs_nil
  refine seq_cut (fun a w => ∃ (l2 : List Int) (A2 : Option Addr) (c2 : Nat), Fr 43 [pl 5 (.slice A2 l2.length c2)] a ∧ Sep w0 B w (own 3 (.slice A2 l2.length c2) (vI l2) :: fs) ∧ (gameroomref_NthOf_J1 l2).bind some = some r) ?_ ?_
  · rintro a w ⟨l2, A2, c2, hF, hS, hm⟩
    unfold gameroomref_NthOf_J1 at hm
    refine reg [] [] [4] [pl 4 (.slice A2 l2.length c2)] hF hS Fol (by kernel_rfl) (by kernel_rfl) (by kernel_rfl) ?_ (fun a w hF hS => ?_)
    · exact obs_nil
    refine wpIn_ret ?_
    have hm : some l2 = some r := hm
    obtain rfl := Option.some.inj hm
    exact retV (rs := [.tmp 4]) (vs := [.slice A2 l2.length c2]) hF rfl (rv_t (by kernel_rfl) <| rv_nil) rfl ⟨_, rfl, A2, c2, rfl, hS⟩
  · refine wpIn_block ?_
    have hS : Sep w0 B w (own 3 (.slice none 0 0) (vI ([] : List Int)) :: fs) := hS.nil 3
    have hl1 := (hS.at_ 0 rfl).len1
    have hS := (hS.at_ 0 rfl).reN hl1
    have hS : Sep w0 B w (own 3 (.slice none (([] : List Int).length) 0) (vI ([] : List Int)) :: fs) := hS
    have hF := hF.cast (t := 5) (v := .slice none 0 0) (v' := .slice none (([] : List Int).length) 0) rfl rfl (congrArg (fun k => Value.slice none k 0) hl1)
    refine wp_loop_model (S := (Int × List Int)) (R := (List Int)) (gameroomref_NthOf_L1 n1) (fun x => (gameroomref_NthOf_K1 x).bind some) r (fun (x : (Int × List Int)) a w => ∃ (A1 : Option Addr) (c1 : Nat), Fr 43 [pl 0 (.int .i64 n1), pl 1 (.int .i64 x.1), pl 5 (.slice A1 x.2.length c1)] a ∧ Sep w0 B w (own 3 (.slice A1 x.2.length c1) (vI x.2) :: fs)) (assoc_b hm) ⟨none, 0, hF.weak [0, 1, 5] (by kernel_rfl), hS⟩ ?_
    clear hF hS hm
    rintro nn1 ⟨k2, l1⟩ a w ⟨A1, c1, hF, hS⟩ hm
    generalize hφ1 : stK (gameroomref_NthOf_L1 n1) nn1 (fun x => (gameroomref_NthOf_K1 x).bind some) = φ1 at hm
    unfold gameroomref_NthOf_L1 at hm
    dsimp only at hF hS hm
    refine seq_cut (fun a w => Fr 43 [pl 0 (.int .i64 n1), pl 1 (.int .i64 k2), pl 5 (.slice A1 l1.length c1)] a ∧ Sep w0 B w (own 3 (.slice A1 l1.length c1) (vI l1) :: fs) ∧ ((gameroomref_NthOf_J2 n1 k2 l1)).bind φ1 = some r) ?_ ?_
    · rintro a w ⟨hF, hS, hm⟩
      unfold gameroomref_NthOf_J2 at hm
      refine wpIn_block ?_
      obtain ⟨r1, hr1, hm⟩ := call_b hm
      refine reg [⟨false, [], callFunc 79 #[.int .i64 (w64 ((w64 (n1 - 1)) - (l1.length : Int)))], .int .i64 r1⟩] [none, none, none, none, none, some (.int .i64 r1), none] [0, 1, 5, 6] [pl 0 (.int .i64 n1), pl 1 (.int .i64 k2), pl 5 (.slice A1 l1.length c1), pl 6 (.int .i64 r1)] hF hS Fol (by kernel_rfl) (by kernel_rfl) (by kernel_rfl) ?_ (fun a w hF hS => ?_)
      · exact obs_cons (ob_call Try.func79 (by kernel_rfl) rfl (fun _ _ hS => gameroomref_factorial_w hr1 hS )) <| obs_nil
      obtain ⟨hp1, hm⟩ := asrt_b hm
      refine reg [⟨true, [], vS (Op.intDiv .quo .i64 k2 r1), .int .i64 (w64 (Int.tdiv k2 r1))⟩] [none, none, some (.int .i64 (w64 (Int.tdiv k2 r1))), none] [0, 1, 5, 6, 7] [pl 0 (.int .i64 n1), pl 1 (.int .i64 k2), pl 5 (.slice A1 l1.length c1), pl 6 (.int .i64 r1), pl 7 (.int .i64 (w64 (Int.tdiv k2 r1)))] hF hS Fol (by kernel_rfl) (by kernel_rfl) (by kernel_rfl) ?_ (fun a w hF hS => ?_)
      · exact obs_cons (ob_quo rfl (fun _ => hp1)) <| obs_nil
      obtain ⟨hp2, hm⟩ := asrt_b hm
      refine reg [⟨true, [], vS (Op.intDiv .rem .i64 k2 r1), .int .i64 (Int.tmod k2 r1)⟩] [none, none, some (.int .i64 (Int.tmod k2 r1)), none] [0, 1, 5, 7] [pl 0 (.int .i64 n1), pl 1 (.int .i64 (Int.tmod k2 r1)), pl 5 (.slice A1 l1.length c1), pl 7 (.int .i64 (w64 (Int.tdiv k2 r1)))] hF hS Fol (by kernel_rfl) (by kernel_rfl) (by kernel_rfl) ?_ (fun a w hF hS => ?_)
      · exact obs_cons (ob_rem rfl (fun _ => hp2)) <| obs_nil
      refine reg [] [] [0, 1, 5, 7, 8] [pl 0 (.int .i64 n1), pl 1 (.int .i64 (Int.tmod k2 r1)), pl 5 (.slice A1 l1.length c1), pl 7 (.int .i64 (w64 (Int.tdiv k2 r1))), pl 8 (.int .i64 0)] hF hS Fol (by kernel_rfl) (by kernel_rfl) (by kernel_rfl) ?_ (fun a w hF hS => ?_)
      · exact obs_nil
      refine wpIn_block ?_
      refine wp_loop_model (S := (Int × Int)) (R := (Int × List Int)) (gameroomref_NthOf_L2 n1 k2 l1 r1) (fun x => (gameroomref_NthOf_K2 x).bind φ1) r (fun (x : (Int × Int)) a w => Fr 43 [pl 0 (.int .i64 n1), pl 1 (.int .i64 (Int.tmod k2 r1)), pl 5 (.slice A1 l1.length c1), pl 7 (.int .i64 x.1), pl 8 (.int .i64 x.2)] a ∧ Sep w0 B w (own 3 (.slice A1 l1.length c1) (vI l1) :: fs)) (assoc_b hm) ⟨hF.weak [0, 1, 5, 7, 8] (by kernel_rfl), hS⟩ ?_
      clear hF hS hm
      rintro nn2 ⟨skip1, x1⟩ a w ⟨hF, hS⟩ hm
      generalize hφ2 : stK (gameroomref_NthOf_L2 n1 k2 l1 r1) nn2 (fun x => (gameroomref_NthOf_K2 x).bind φ1) = φ2 at hm
      unfold gameroomref_NthOf_L2 at hm
      dsimp only at hF hS hm
      refine seq_cut (fun a w => Fr 43 [pl 0 (.int .i64 n1), pl 1 (.int .i64 (Int.tmod k2 r1)), pl 5 (.slice A1 l1.length c1), pl 7 (.int .i64 skip1), pl 8 (.int .i64 x1)] a ∧ Sep w0 B w (own 3 (.slice A1 l1.length c1) (vI l1) :: fs) ∧ ((gameroomref_NthOf_J3 k2 l1 r1 skip1 x1)).bind φ2 = some r) ?_ ?_
      · rintro a w ⟨hF, hS, hm⟩
        unfold gameroomref_NthOf_J3 at hm
        refine seq_cut (fun a w => ∃ (skip2 : Int), Fr 43 [pl 0 (.int .i64 n1), pl 1 (.int .i64 (Int.tmod k2 r1)), pl 5 (.slice A1 l1.length c1), pl 7 (.int .i64 skip2), pl 8 (.int .i64 x1)] a ∧ Sep w0 B w (own 3 (.slice A1 l1.length c1) (vI l1) :: fs) ∧ ((gameroomref_NthOf_J4 x1) skip2).bind φ2 = some r) ?_ ?_
        · rintro a w ⟨skip2, hF, hS, hm⟩
          unfold gameroomref_NthOf_J4 at hm
          refine reg1 [] [] [0, 1, 5, 7, 8] [pl 0 (.int .i64 n1), pl 1 (.int .i64 (Int.tmod k2 r1)), pl 5 (.slice A1 l1.length c1), pl 7 (.int .i64 skip2), pl 8 (.int .i64 (w64 (x1 + 1)))] hF hS Fol (by kernel_rfl) (by kernel_rfl) (by kernel_rfl) ?_ (fun a w hF hS => ?_)
          · exact obs_nil
          refine then_n ?_
          rw [← hφ2] at hm
          exact ⟨(skip2, (w64 (x1 + 1))), ⟨hF.weak [0, 1, 5, 7, 8] (by kernel_rfl), hS⟩, hm⟩
        · refine wpIn_block ?_
          refine seq_cut (fun a w => Fr 43 [pl 0 (.int .i64 n1), pl 1 (.int .i64 (Int.tmod k2 r1)), pl 5 (.slice A1 l1.length c1), pl 7 (.int .i64 skip1), pl 8 (.int .i64 x1)] a ∧ Sep w0 B w (own 3 (.slice A1 l1.length c1) (vI l1) :: fs) ∧ ((gameroomref_NthOf_J5 k2 l1 r1 skip1 x1)).bind φ2 = some r) ?_ ?_
          · rintro a w ⟨hF, hS, hm⟩
            unfold gameroomref_NthOf_J5 at hm
            refine seq_cut (fun a w => Fr 43 [pl 0 (.int .i64 n1), pl 1 (.int .i64 (Int.tmod k2 r1)), pl 5 (.slice A1 l1.length c1), pl 7 (.int .i64 skip1), pl 8 (.int .i64 x1)] a ∧ Sep w0 B w (own 3 (.slice A1 l1.length c1) (vI l1) :: fs) ∧ ((gameroomref_NthOf_J6 skip1 x1)).bind φ2 = some r) ?_ ?_
            · rintro a w ⟨hF, hS, hm⟩
              unfold gameroomref_NthOf_J6 at hm
              refine reg1 [] [] [0, 1, 5, 7, 8] [pl 0 (.int .i64 n1), pl 1 (.int .i64 (Int.tmod k2 r1)), pl 5 (.slice A1 l1.length c1), pl 7 (.int .i64 (w64 (skip1 - 1))), pl 8 (.int .i64 x1)] hF hS Fol (by kernel_rfl) (by kernel_rfl) (by kernel_rfl) ?_ (fun a w hF hS => ?_)
              · exact obs_nil
              refine block_n ?_
              refine then_n ?_
              exact ⟨(w64 (skip1 - 1)), hF.weak [0, 1, 5, 7, 8] (by kernel_rfl), hS, hm⟩
            · refine reg [] [] [0, 1, 5, 7, 8, 35] [pl 0 (.int .i64 n1), pl 1 (.int .i64 (Int.tmod k2 r1)), pl 5 (.slice A1 l1.length c1), pl 7 (.int .i64 skip1), pl 8 (.int .i64 x1), pl 35 (.bool (skip1 == 0))] hF hS Fol (by kernel_rfl) (by kernel_rfl) (by kernel_rfl) ?_ (fun a w hF hS => ?_)
              · exact obs_nil
              refine cond_ev (t := 35) (b := (skip1 == 0)) hF (by kernel_rfl) (fun hb => ?_) (fun hb => ?_)
              · replace hm := if_t hm hb
                refine seqR ?_
                obtain ⟨hp3, hm⟩ := asrt_b hm
                refine at_run 2 [] [] [0, 1, 36, 37] [pl 0 (.int .i64 n1), pl 1 (.int .i64 (Int.tmod k2 r1)), pl 36 (.slice A1 l1.length c1), pl 37 (.int .i64 x1)] hF hS (by kernel_rfl) (by kernel_rfl) ?_ (fun a w hF hS => ?_)
                · exact obs_nil
                refine at_do (d := 38) (s := vS (Instr.buildSlice 34 1 #[(0, .int .i64 x1)])) (v := .slice (some ⟨w.heap.size, 0, none⟩) 1 1) (w' := w.alloc (.cells #[.int .i64 x1] 3)) hF (by kernel_rfl) (by kernel_rfl) (by kernel_rfl) (fun a hF => ?_)
                have hS : Sep w0 B (w.alloc (.cells #[.int .i64 x1] 3)) (own 3 (.slice (some (⟨w.heap.size, 0, none⟩ : Addr)) 1 1) (vI ([x1] : List Int)) :: (own 3 (.slice A1 l1.length c1) (vI l1) :: fs)) := hS.lit 3 #[.int .i64 x1] 1 rfl (by omega)
                generalize (some (⟨w.heap.size, 0, none⟩ : Addr)) = g1 at hF hS
                generalize w.alloc (.cells #[.int .i64 x1] 3) = w at hS ⊢
                obtain ⟨A3, c3, w, hrun, hS⟩ := run_app1 (P := Try.prog) (t := 34) (m := l1) (ys := ([x1] : List Int)) (A2 := g1) (m2 := 1) (c2 := 1) (Value.int .i64) (0 : Int) (hS.at_ 1 rfl) (hS.at_ 0 rfl).rd ((hS.at_ 0 rfl).len1) 34 Und34 hi3 hz3 hs3 (by omega) rfl (fun _ => rfl) hp3
                have hS : Sep w0 B w (own 3 (.slice g1 1 1) (vI ([x1] : List Int)) :: own 3 (.slice A3 ((l1 ++ ([x1] : List Int)).length) c3) (vI (l1 ++ ([x1] : List Int))) :: fs) := hS
                refine at_do (d := 39) hF (by kernel_rfl) (by kernel_rfl) hrun (fun a hF => ?_)
                refine at_run 1 [] [] [0, 1, 5] [pl 0 (.int .i64 n1), pl 1 (.int .i64 (Int.tmod k2 r1)), pl 5 (.slice A3 ((l1 ++ ([x1] : List Int)).length) c3)] hF hS (by kernel_rfl) (by kernel_rfl) ?_ (fun a w hF hS => ?_)
                · exact obs_nil
                refine at_end [0, 1, 5] [pl 0 (.int .i64 n1), pl 1 (.int .i64 (Int.tmod k2 r1)), pl 5 (.slice A3 ((l1 ++ ([x1] : List Int)).length) c3)] hF rfl (by kernel_rfl) (fun hF => ?_)
                refine then_n ?_
                refine wpIn_exit ?_
                refine then_e (block_o rfl (then_e (then_e (block_e (block_n (then_n ?_))))))
                have hS := hS.pickN 2 [1] (by decide)
                rw [← hφ2] at hm
                replace hm := done_b hm
                unfold gameroomref_NthOf_K2 at hm
                try dsimp only at hm
                have hm : (some (.next ((Int.tmod k2 r1), (l1 ++ ([x1] : List Int))))).bind φ1 = some r := hm
                rw [← hφ1] at hm
                exact ⟨((Int.tmod k2 r1), (l1 ++ ([x1] : List Int))), ⟨A3, c3, hF.weak [0, 1, 5] (by kernel_rfl), hS⟩, hm⟩
              · replace hm := if_f hm hb
                refine wpIn_skip ?_
                refine then_n ?_
                exact ⟨hF.weak [0, 1, 5, 7, 8] (by kernel_rfl), hS, hm⟩
          · obtain ⟨r2, hr2, hm⟩ := call_b hm
            refine reg [⟨false, [], callFunc 78 #[.slice A1 l1.length c1, .int .i64 x1], .int .i64 r2⟩] [none, none, some (.int .i64 r2), none] [0, 1, 5, 7, 8, 33] [pl 0 (.int .i64 n1), pl 1 (.int .i64 (Int.tmod k2 r1)), pl 5 (.slice A1 l1.length c1), pl 7 (.int .i64 skip1), pl 8 (.int .i64 x1), pl 33 (.bool (decide ((0 : Int) ≤ r2)))] hF hS Fol (by kernel_rfl) (by kernel_rfl) (by kernel_rfl) ?_ (fun a w hF hS => ?_)
            · exact obs_cons (ob_call Try.func78 (by kernel_rfl) rfl (fun _ _ hS => gameroomref_at_w hr2 hS (fun _ hS => (hS.at_ 0 rfl).rd) ((hS.at_ 0 rfl).cap1) rfl)) <| obs_nil
            refine cond_ev (t := 33) (b := decide ((0 : Int) ≤ r2)) hF (by kernel_rfl) (fun hb => ?_) (fun hb => ?_)
            · replace hm := if_t hm hb
              refine wpIn_exit ?_
              refine then_e (block_e (then_n ?_))
              exact ⟨skip1, hF.weak [0, 1, 5, 7, 8] (by kernel_rfl), hS, hm⟩
            · replace hm := if_f hm hb
              refine wpIn_skip ?_
              refine then_n ?_
              exact ⟨hF.weak [0, 1, 5, 7, 8] (by kernel_rfl), hS, hm⟩
      · refine reg [] [] [0, 1, 5, 7, 8, 27] [pl 0 (.int .i64 n1), pl 1 (.int .i64 (Int.tmod k2 r1)), pl 5 (.slice A1 l1.length c1), pl 7 (.int .i64 skip1), pl 8 (.int .i64 x1), pl 27 (.bool (decide (x1 < n1)))] hF hS Fol (by kernel_rfl) (by kernel_rfl) (by kernel_rfl) ?_ (fun a w hF hS => ?_)
        · exact obs_nil
        refine cond_ev (t := 27) (b := decide (x1 < n1)) hF (by kernel_rfl) (fun hb => ?_) (fun hb => ?_)
        · replace hm := if_t hm hb
          refine wpIn_skip ?_
          refine then_n ?_
          exact ⟨hF.weak [0, 1, 5, 7, 8] (by kernel_rfl), hS, hm⟩
        · replace hm := if_f hm hb
          refine wpIn_exit ?_
          refine then_e (then_e (block_e (block_n (then_n ?_))))
          rw [← hφ2] at hm
          replace hm := done_b hm
          unfold gameroomref_NthOf_K2 at hm
          try dsimp only at hm
          have hm : (some (.next ((Int.tmod k2 r1), l1))).bind φ1 = some r := hm
          rw [← hφ1] at hm
          exact ⟨((Int.tmod k2 r1), l1), ⟨A1, c1, hF.weak [0, 1, 5] (by kernel_rfl), hS⟩, hm⟩
    · refine reg [] [] [0, 1, 5, 12] [pl 0 (.int .i64 n1), pl 1 (.int .i64 k2), pl 5 (.slice A1 l1.length c1), pl 12 (.bool (decide ((l1.length : Int) < n1)))] hF hS Fol (by kernel_rfl) (by kernel_rfl) (by kernel_rfl) ?_ (fun a w hF hS => ?_)
      · exact obs_nil
      refine cond_ev (t := 12) (b := decide ((l1.length : Int) < n1)) hF (by kernel_rfl) (fun hb => ?_) (fun hb => ?_)
      · replace hm := if_t hm hb
        refine wpIn_skip ?_
        refine then_n ?_
        exact ⟨hF.weak [0, 1, 5] (by kernel_rfl), hS, hm⟩
      · replace hm := if_f hm hb
        refine wpIn_exit ?_
        refine then_e (then_e (block_e (then_n ?_)))
        rw [← hφ1] at hm
        replace hm := done_b hm
        unfold gameroomref_NthOf_K1 at hm
        try dsimp only at hm
        have hm : (gameroomref_NthOf_J1 l1).bind some = some r := hm
        exact ⟨l1, A1, c1, hF.weak [5] (by kernel_rfl), hS, hm⟩

noncomputable def gameroomref_LatinOf_J9  (rows1 : List (List Int)) (row1 : List Int) (x1 : Int) (free3 : Bool) (i1 : Int) : Option (St (Bool × Int) Bool) :=
  some (.next ((free3 && ((geti (geti2 rows1 i1) x1) != (geti (row1.set (Int.toNat x1) (w64 ((geti row1 x1) + 1))) x1))), (w64 (i1 + 1))))

noncomputable def gameroomref_LatinOf_J8  (rows1 : List (List Int)) (r2 : (List Int)) (row1 : List Int) (x1 : Int) (free3 : Bool) (i1 : Int) : Option (St (Bool × Int) Bool) :=
  asrt (free3 = true → 0 ≤ i1 ∧ i1 < (rows1.length : Int)) <| asrt (free3 = true → 0 ≤ x1 ∧ x1 < (((geti2 rows1 i1).length : Nat) : Int)) <| asrt (free3 = true → 0 ≤ x1 ∧ x1 < (r2.length : Int)) <| (gameroomref_LatinOf_J9 rows1 row1 x1 free3 i1)

noncomputable def gameroomref_LatinOf_J7  (row1 : List Int) (x1 : Int) (free4 : Bool) : Option (St (List Int × Bool × Int) (List Int × Bool)) :=
  some (.next ((row1.set (Int.toNat x1) (w64 ((geti row1 x1) + 1))), free4, (w64 (x1 + 1))))

noncomputable def gameroomref_LatinOf_K3  (row1 : List Int) (x1 : Int) : Bool → Option (St (List Int × Bool × Int) (List Int × Bool)) :=
  fun (x : Bool) => match x with | free4 => (gameroomref_LatinOf_J7 row1 x1) free4

noncomputable def gameroomref_LatinOf_L3  (rows1 : List (List Int)) (r2 : (List Int)) (row1 : List Int) (x1 : Int) : (Bool × Int) → Option (St (Bool × Int) Bool) :=
  fun (x : (Bool × Int)) => match x with | (free3, i1) => if (decide (i1 < (rows1.length : Int))) then ((gameroomref_LatinOf_J8 rows1 r2 row1 x1 free3 i1)) else (some (.done free3))

noncomputable def gameroomref_LatinOf_J6  (rows1 : List (List Int)) (r2 : (List Int)) (row1 : List Int) (free1 : Bool) (x1 : Int) : Option (St (List Int × Bool × Int) (List Int × Bool)) :=
  asrt (0 ≤ x1 ∧ x1 < (r2.length : Int)) <| asrt (0 ≤ x1 ∧ x1 < (r2.length : Int)) <| (loop (gameroomref_LatinOf_L3 rows1 r2 row1 x1) (free1, 0)).bind (gameroomref_LatinOf_K3 row1 x1)

noncomputable def gameroomref_LatinOf_J4  (k1 : Int) (many3 : Int) : Option (St (Int × Int) Int) :=
  some (.next (many3, (w64 (k1 + 1))))

noncomputable def gameroomref_LatinOf_J5  (rec_gameroomref_LatinOf : Int → List (List Int) → Option Int) (n1 : Int) (rows1 : List (List Int)) (many1 : Int) (k1 : Int) (row2 : List Int) (free2 : Bool) : Option (St (Int × Int) Int) :=
  if free2 then (asrt ((0 : Int) + (rows1.length : Int) ≤ bigR) <| asrt ((((([] : List (List Int)) ++ rows1).length : Nat) : Int) + 1 ≤ bigR) <| (rec_gameroomref_LatinOf n1 ((([] : List (List Int)) ++ rows1) ++ ([row2] : List (List Int)))).bind fun r3 => (gameroomref_LatinOf_J4 k1) (w64 (many1 + r3))) else ((gameroomref_LatinOf_J4 k1) many1)

noncomputable def gameroomref_LatinOf_K2  (rec_gameroomref_LatinOf : Int → List (List Int) → Option Int) (n1 : Int) (rows1 : List (List Int)) (many1 : Int) (k1 : Int) : (List Int × Bool) → Option (St (Int × Int) Int) :=
  fun (x : (List Int × Bool)) => match x with | (row2, free2) => (gameroomref_LatinOf_J5 rec_gameroomref_LatinOf n1 rows1 many1 k1) row2 free2

noncomputable def gameroomref_LatinOf_L2  (n1 : Int) (rows1 : List (List Int)) (r2 : (List Int)) : (List Int × Bool × Int) → Option (St (List Int × Bool × Int) (List Int × Bool)) :=
  fun (x : (List Int × Bool × Int)) => match x with | (row1, free1, x1) => if (decide (x1 < n1)) then ((gameroomref_LatinOf_J6 rows1 r2 row1 free1 x1)) else (some (.done (row1, free1)))

noncomputable def gameroomref_LatinOf_J3  (rec_gameroomref_LatinOf : Int → List (List Int) → Option Int) (n1 : Int) (rows1 : List (List Int)) (many1 : Int) (k1 : Int) : Option (St (Int × Int) Int) :=
  (gameroomref_NthOf_m n1 k1).bind fun r2 => (loop (gameroomref_LatinOf_L2 n1 rows1 r2) (r2, true, 0)).bind (gameroomref_LatinOf_K2 rec_gameroomref_LatinOf n1 rows1 many1 k1)

noncomputable def gameroomref_LatinOf_J2  (many2 : Int) : Option Int :=
  some many2

noncomputable def gameroomref_LatinOf_K1  : Int → Option Int :=
  fun (x : Int) => match x with | many2 => gameroomref_LatinOf_J2 many2

noncomputable def gameroomref_LatinOf_L1  (rec_gameroomref_LatinOf : Int → List (List Int) → Option Int) (n1 : Int) (rows1 : List (List Int)) : (Int × Int) → Option (St (Int × Int) Int) :=
  fun (x : (Int × Int)) => match x with | (many1, k1) => (gameroomref_factorial_m n1).bind fun r1 => if (decide (k1 < r1)) then ((gameroomref_LatinOf_J3 rec_gameroomref_LatinOf n1 rows1 many1 k1)) else (some (.done many1))

noncomputable def gameroomref_LatinOf_J1  (rec_gameroomref_LatinOf : Int → List (List Int) → Option Int) (n1 : Int) (rows1 : List (List Int)) : Option Int :=
  (loop (gameroomref_LatinOf_L1 rec_gameroomref_LatinOf n1 rows1) (0, 0)).bind gameroomref_LatinOf_K1

noncomputable def gameroomref_LatinOf_B (rec_gameroomref_LatinOf : Int → List (List Int) → Option Int) (n1 : Int) (rows1 : List (List Int)) : Option Int :=
  if ((rows1.length : Int) == n1) then (some 1) else ((gameroomref_LatinOf_J1 rec_gameroomref_LatinOf n1 rows1))

noncomputable def gameroomref_LatinOf_mF : Nat → Int → List (List Int) → Option Int
  | 0 => fun _ _ => none
  | n + 1 => fun n1 rows1 => gameroomref_LatinOf_B (gameroomref_LatinOf_mF n) n1 rows1

noncomputable def gameroomref_LatinOf_m (n1 : Int) (rows1 : List (List Int)) : Option Int :=
  recM fun n => gameroomref_LatinOf_mF n n1 rows1

set_option maxRecDepth 100000 in
set_option maxHeartbeats 4000000 in
theorem gameroomref_LatinOf_wB {rec_gameroomref_LatinOf : Int → List (List Int) → Option Int} (ih_gameroomref_LatinOf : ∀ {n1 : Int} {A1 : Option Addr} {c1 : Nat} {n2 : Nat} {hd1 : List Hd} {rows1 : List (List Int)} {r : Int} {w0 w : World} {B : Nat} {fs : List HP} (_ : rec_gameroomref_LatinOf n1 rows1 = some r) (_ : Sep w0 B w (fs)) (_hr_rows1 : RdRowsF w0 B fs A1 hd1 rows1) (_hc_rows1 : rows1.length ≤ c1) (_hn_rows1 : n2 = rows1.length), Calls Try.prog 32 #[.int .i64 n1, .slice A1 n2 c1] w fun e w' => e = .returned (.int .i64 r) ∧ Sep w0 B w' (fs)) {n1 : Int} {A1 : Option Addr} {c1 : Nat} {n2 : Nat} {hd1 : List Hd} {rows1 : List (List Int)} {r : Int} {w0 w : World} {B : Nat} {fs : List HP} (hm : gameroomref_LatinOf_B rec_gameroomref_LatinOf n1 rows1 = some r) (hS : Sep w0 B w (fs)) (hr_rows1 : RdRowsF w0 B fs A1 hd1 rows1) (_hc_rows1 : rows1.length ≤ c1) (_hn_rows1 : n2 = rows1.length) :
    Calls Try.prog 32 #[.int .i64 n1, .slice A1 n2 c1] w fun e w' => e = .returned (.int .i64 r) ∧ Sep w0 B w' (fs) := by
  obtain ⟨i3, hi3, hz3, hs3, hb3⟩ := info_parts Info3
  obtain ⟨i34, hi34, hz34, hs34, hb34⟩ := info_parts Info34
  obtain rfl := _hn_rows1
  unfold gameroomref_LatinOf_B at hm
  replace hm := start_b hm
  refine enter (l := [.int .i64 n1, .slice A1 rows1.length c1]) (n := 70) Try.func32 rfl rfl (by simp) (fun a hF => ?_)
  refine reg [] [] [0, 1] [pl 0 (.int .i64 n1), pl 1 (.slice A1 rows1.length c1)] hF hS Fol (by kernel_rfl) (by kernel_rfl) (by kernel_rfl) ?_ (fun a w hF hS => ?_)
  · exact obs_nil
  refine seq_cut (fun a w => Fr 70 [pl 0 (.int .i64 n1), pl 1 (.slice A1 rows1.length c1)] a ∧ Sep w0 B w (fs) ∧ ((gameroomref_LatinOf_J1 rec_gameroomref_LatinOf n1 rows1)).bind some = some r) ?_ ?_
  · rintro a w ⟨hF, hS, hm⟩
    unfold gameroomref_LatinOf_J1 at hm
    refine reg [] [] [0, 1, 5] [pl 0 (.int .i64 n1), pl 1 (.slice A1 rows1.length c1), pl 5 (.int .i64 0)] hF hS Fol (by kernel_rfl) (by kernel_rfl) (by kernel_rfl) ?_ (fun a w hF hS => ?_)
    · exact obs_nil
    refine seq_cut (fun a w => ∃ (many2 : Int), Fr 70 [pl 5 (.int .i64 many2)] a ∧ Sep w0 B w (fs) ∧ (gameroomref_LatinOf_J2 many2).bind some = some r) ?_ ?_
    · rintro a w ⟨many2, hF, hS, hm⟩
      unfold gameroomref_LatinOf_J2 at hm
      refine reg [] [] [4] [pl 4 (.int .i64 many2)] hF hS Fol (by kernel_rfl) (by kernel_rfl) (by kernel_rfl) ?_ (fun a w hF hS => ?_)
      · exact obs_nil
      refine wpIn_ret ?_
      have hm : some many2 = some r := hm
      obtain rfl := Option.some.inj hm
      exact retV (rs := [.tmp 4]) (vs := [.int .i64 many2]) hF rfl (rv_t (by kernel_rfl) <| rv_nil) rfl ⟨rfl, hS⟩
    · refine reg [] [] [0, 1, 5, 6] [pl 0 (.int .i64 n1), pl 1 (.slice A1 rows1.length c1), pl 5 (.int .i64 0), pl 6 (.int .i64 0)] hF hS Fol (by kernel_rfl) (by kernel_rfl) (by kernel_rfl) ?_ (fun a w hF hS => ?_)
      · exact obs_nil
      refine wpIn_block ?_
      refine wp_loop_model (S := (Int × Int)) (R := Int) (gameroomref_LatinOf_L1 rec_gameroomref_LatinOf n1 rows1) (fun x => (gameroomref_LatinOf_K1 x).bind some) r (fun (x : (Int × Int)) a w => Fr 70 [pl 0 (.int .i64 n1), pl 1 (.slice A1 rows1.length c1), pl 5 (.int .i64 x.1), pl 6 (.int .i64 x.2)] a ∧ Sep w0 B w (fs)) (assoc_b hm) ⟨hF.weak [0, 1, 5, 6] (by kernel_rfl), hS⟩ ?_
      clear hF hS hm
      rintro nn1 ⟨many1, k1⟩ a w ⟨hF, hS⟩ hm
      generalize hφ1 : stK (gameroomref_LatinOf_L1 rec_gameroomref_LatinOf n1 rows1) nn1 (fun x => (gameroomref_LatinOf_K1 x).bind some) = φ1 at hm
      unfold gameroomref_LatinOf_L1 at hm
      dsimp only at hF hS hm
      refine seq_cut (fun a w => Fr 70 [pl 0 (.int .i64 n1), pl 1 (.slice A1 rows1.length c1), pl 5 (.int .i64 many1), pl 6 (.int .i64 k1)] a ∧ Sep w0 B w (fs) ∧ ((gameroomref_LatinOf_J3 rec_gameroomref_LatinOf n1 rows1 many1 k1)).bind φ1 = some r) ?_ ?_
      · rintro a w ⟨hF, hS, hm⟩
        unfold gameroomref_LatinOf_J3 at hm
        refine seq_cut (fun a w => ∃ (many3 : Int), Fr 70 [pl 0 (.int .i64 n1), pl 1 (.slice A1 rows1.length c1), pl 5 (.int .i64 many3), pl 6 (.int .i64 k1)] a ∧ Sep w0 B w (fs) ∧ ((gameroomref_LatinOf_J4 k1) many3).bind φ1 = some r) ?_ ?_
        · rintro a w ⟨many3, hF, hS, hm⟩
          unfold gameroomref_LatinOf_J4 at hm
          refine reg1 [] [] [0, 1, 5, 6] [pl 0 (.int .i64 n1), pl 1 (.slice A1 rows1.length c1), pl 5 (.int .i64 many3), pl 6 (.int .i64 (w64 (k1 + 1)))] hF hS Fol (by kernel_rfl) (by kernel_rfl) (by kernel_rfl) ?_ (fun a w hF hS => ?_)
          · exact obs_nil
          refine then_n ?_
          rw [← hφ1] at hm
          exact ⟨(many3, (w64 (k1 + 1))), ⟨hF.weak [0, 1, 5, 6] (by kernel_rfl), hS⟩, hm⟩
        · refine wpIn_block ?_
          refine seqR ?_
          obtain ⟨r2, hr2, hm⟩ := call_b hm
          refine at_run 2 [] [] [0, 1, 5, 6, 22, 23] [pl 0 (.int .i64 n1), pl 1 (.slice A1 rows1.length c1), pl 5 (.int .i64 many1), pl 6 (.int .i64 k1), pl 22 (.int .i64 n1), pl 23 (.int .i64 k1)] hF hS (by kernel_rfl) (by kernel_rfl) ?_ (fun a w hF hS => ?_)
          · exact obs_nil
          refine at_call (f := 80) (args := #[.int .i64 n1, .int .i64 k1]) (d := 24) hF (by kernel_rfl) (by kernel_rfl) Try.func80 (by kernel_rfl) rfl (gameroomref_NthOf_w hr2 hS ) (fun v a w hR hF => ?_)
          clear hS
          obtain ⟨A2, c2, rfl, hS⟩ := hR
          have hS : Sep w0 B w (own 3 (.slice A2 r2.length c2) (vI r2) :: fs) := hS
          refine at_run 1 [] [] [0, 1, 5, 6, 7] [pl 0 (.int .i64 n1), pl 1 (.slice A1 rows1.length c1), pl 5 (.int .i64 many1), pl 6 (.int .i64 k1), pl 7 (.slice A2 r2.length c2)] hF hS (by kernel_rfl) (by kernel_rfl) ?_ (fun a w hF hS => ?_)
          · exact obs_nil
          refine at_end [0, 1, 5, 6, 7] [pl 0 (.int .i64 n1), pl 1 (.slice A1 rows1.length c1), pl 5 (.int .i64 many1), pl 6 (.int .i64 k1), pl 7 (.slice A2 r2.length c2)] hF rfl (by kernel_rfl) (fun hF => ?_)
          refine then_n ?_
          refine reg [] [] [0, 1, 5, 6, 7, 8] [pl 0 (.int .i64 n1), pl 1 (.slice A1 rows1.length c1), pl 5 (.int .i64 many1), pl 6 (.int .i64 k1), pl 7 (.slice A2 r2.length c2), pl 8 (.bool true)] hF hS Fol (by kernel_rfl) (by kernel_rfl) (by kernel_rfl) ?_ (fun a w hF hS => ?_)
          · exact obs_nil
          refine seq_cut (fun a w => ∃ (row2 : List Int) (free2 : Bool), Fr 70 [pl 0 (.int .i64 n1), pl 1 (.slice A1 rows1.length c1), pl 5 (.int .i64 many1), pl 6 (.int .i64 k1), pl 7 (.slice A2 r2.length c2), pl 8 (.bool free2)] a ∧ Sep w0 B w (own 3 (.slice A2 r2.length c2) (vI row2) :: fs) ∧ ((gameroomref_LatinOf_J5 rec_gameroomref_LatinOf n1 rows1 many1 k1) row2 free2).bind φ1 = some r) ?_ ?_
          · rintro a w ⟨row2, free2, hF, hS, hm⟩
            unfold gameroomref_LatinOf_J5 at hm
            refine reg [] [] [0, 1, 5, 6, 7, 57] [pl 0 (.int .i64 n1), pl 1 (.slice A1 rows1.length c1), pl 5 (.int .i64 many1), pl 6 (.int .i64 k1), pl 7 (.slice A2 r2.length c2), pl 57 (.bool free2)] hF hS Fol (by kernel_rfl) (by kernel_rfl) (by kernel_rfl) ?_ (fun a w hF hS => ?_)
            · exact obs_nil
            refine cond_ev (t := 57) (b := free2) hF (by kernel_rfl) (fun hb => ?_) (fun hb => ?_)
            · replace hm := if_t hm hb
              refine reg [] [] [0, 1, 5, 6, 7, 11] [pl 0 (.int .i64 n1), pl 1 (.slice A1 rows1.length c1), pl 5 (.int .i64 many1), pl 6 (.int .i64 k1), pl 7 (.slice A2 r2.length c2), pl 11 (.slice none 0 0)] hF hS Fol (by kernel_rfl) (by kernel_rfl) (by kernel_rfl) ?_ (fun a w hF hS => ?_)
              · exact obs_nil
              refine seqR ?_
              obtain ⟨hp6, hm⟩ := asrt_b hm
              refine at_run 2 [] [] [0, 1, 5, 6, 7, 58, 59] [pl 0 (.int .i64 n1), pl 1 (.slice A1 rows1.length c1), pl 5 (.int .i64 many1), pl 6 (.int .i64 k1), pl 7 (.slice A2 r2.length c2), pl 58 (.slice none 0 0), pl 59 (.slice A1 rows1.length c1)] hF hS (by kernel_rfl) (by kernel_rfl) ?_ (fun a w hF hS => ?_)
              · exact obs_nil
              have hS : Sep w0 B w (hdrs 34 none 0 0 ([]) ([] : List (List Int)) :: own 3 (.slice A2 r2.length c2) (vI row2) :: fs) := hS.nilHdr 34
              obtain ⟨A3, c3, w, hrun, hS⟩ := run_appHdr (P := Try.prog) (t := 45) (A2 := A1) (n2 := rows1.length) (c2 := c1) (hS.at_ 0 rfl) (hr_rows1 _ (hS.dropN 2)) rfl 45 Und45 hi34 hz34 hs34 hb34 hp6
              have hS : Sep w0 B w (hdrs 34 A3 ((([] : List (List Int)) ++ rows1).length) c3 (([]) ++ hd1) (([] : List (List Int)) ++ rows1) :: own 3 (.slice A2 r2.length c2) (vI row2) :: fs) := hS
              refine at_do (d := 60) hF (by kernel_rfl) (by kernel_rfl) hrun (fun a hF => ?_)
              refine at_run 1 [] [] [0, 1, 5, 6, 7, 11] [pl 0 (.int .i64 n1), pl 1 (.slice A1 rows1.length c1), pl 5 (.int .i64 many1), pl 6 (.int .i64 k1), pl 7 (.slice A2 r2.length c2), pl 11 (.slice A3 ((([] : List (List Int)) ++ rows1).length) c3)] hF hS (by kernel_rfl) (by kernel_rfl) ?_ (fun a w hF hS => ?_)
              · exact obs_nil
              refine at_end [0, 1, 5, 6, 7, 11] [pl 0 (.int .i64 n1), pl 1 (.slice A1 rows1.length c1), pl 5 (.int .i64 many1), pl 6 (.int .i64 k1), pl 7 (.slice A2 r2.length c2), pl 11 (.slice A3 ((([] : List (List Int)) ++ rows1).length) c3)] hF rfl (by kernel_rfl) (fun hF => ?_)
              refine then_n ?_
              refine oneR ?_
              obtain ⟨hp7, hm⟩ := asrt_b hm
              obtain ⟨r3, hr3, hm⟩ := call_b hm
              refine at_run 4 [] [] [0, 1, 6, 61, 62, 63, 64] [pl 0 (.int .i64 n1), pl 1 (.slice A1 rows1.length c1), pl 6 (.int .i64 k1), pl 61 (.int .i64 many1), pl 62 (.int .i64 n1), pl 63 (.slice A3 ((([] : List (List Int)) ++ rows1).length) c3), pl 64 (.slice A2 r2.length c2)] hF hS (by kernel_rfl) (by kernel_rfl) ?_ (fun a w hF hS => ?_)
              · exact obs_nil
              refine at_do (d := 65) (s := vS (Instr.buildSlice 45 1 #[(0, .slice A2 r2.length c2)])) (v := .slice (some ⟨w.heap.size, 0, none⟩) 1 1) (w' := w.alloc (.cells #[.slice A2 r2.length c2] 34)) hF (by kernel_rfl) (by kernel_rfl) (by kernel_rfl) (fun a hF => ?_)
              have hS : Sep w0 B (w.alloc (.cells #[.slice A2 r2.length c2] 34)) (own 34 (.slice (some (⟨w.heap.size, 0, none⟩ : Addr)) 1 1) [.slice A2 r2.length c2] :: (hdrs 34 A3 ((([] : List (List Int)) ++ rows1).length) c3 (([]) ++ hd1) (([] : List (List Int)) ++ rows1) :: own 3 (.slice A2 r2.length c2) (vI row2) :: fs)) := hS.lit 34 #[.slice A2 r2.length c2] 1 rfl (by omega)
              generalize (some (⟨w.heap.size, 0, none⟩ : Addr)) = g1 at hF hS
              generalize w.alloc (.cells #[.slice A2 r2.length c2] 34) = w at hS ⊢
              have hl1 := (hS.at_ 2 rfl).len1
              have hS := (hS.at_ 2 rfl).reN hl1
              have hS : Sep w0 B w (own 34 (.slice g1 1 1) [.slice A2 r2.length c2] :: hdrs 34 A3 ((([] : List (List Int)) ++ rows1).length) c3 (([]) ++ hd1) (([] : List (List Int)) ++ rows1) :: own 3 (.slice A2 row2.length c2) (vI row2) :: fs) := hS
              have hS := (hS.at_ 0 rfl).reOwn (congrArg (fun k => [Value.slice A2 k c2]) hl1)
              have hS : Sep w0 B w (own 34 (.slice g1 1 1) [.slice A2 row2.length c2] :: hdrs 34 A3 ((([] : List (List Int)) ++ rows1).length) c3 (([]) ++ hd1) (([] : List (List Int)) ++ rows1) :: own 3 (.slice A2 row2.length c2) (vI row2) :: fs) := hS
              obtain ⟨A4, c4, w, hrun, hS⟩ := run_appHdr (P := Try.prog) (t := 45) (A2 := g1) (n2 := 1) (c2 := 1) (hS.at_ 1 rfl) (rdLit (hd := ([(A2, c2)] : List Hd)) (m := ([row2] : List (List Int))) hS 0 rfl ⟨⟨(hS.at_ 2 rfl).rd, ((hS.at_ 2 rfl).cap1)⟩, trivial⟩) rfl 45 Und45 hi34 hz34 hs34 hb34 hp7
              have hS : Sep w0 B w (own 34 (.slice g1 1 1) [.slice A2 row2.length c2] :: hdrs 34 A4 (((([] : List (List Int)) ++ rows1) ++ ([row2] : List (List Int))).length) c4 ((([]) ++ hd1) ++ ([(A2, c2)] : List Hd)) ((([] : List (List Int)) ++ rows1) ++ ([row2] : List (List Int))) :: own 3 (.slice A2 row2.length c2) (vI row2) :: fs) := hS
              refine at_do (d := 66) hF (by kernel_rfl) (by kernel_rfl) hrun (fun a hF => ?_)
              refine at_run 3 [⟨false, [], callFunc 32 #[.int .i64 n1, .slice A4 (((([] : List (List Int)) ++ rows1) ++ ([row2] : List (List Int))).length) c4], .int .i64 r3⟩] [some (.int .i64 r3), none, none] [0, 1, 5, 6] [pl 0 (.int .i64 n1), pl 1 (.slice A1 rows1.length c1), pl 5 (.int .i64 (w64 (many1 + r3))), pl 6 (.int .i64 k1)] hF hS (by kernel_rfl) (by kernel_rfl) ?_ (fun a w hF hS => ?_)
              · exact obs_cons (ob_call Try.func32 (by kernel_rfl) rfl (fun _ _ hS => ih_gameroomref_LatinOf hr3 hS (fun _ hS => (rdHdr hS 1 rfl (RowsAll.app (RowsAll.app (trivial : RowsAll _ _ [] []) (hr_rows1 _ (hS.dropN 3)).all) (show RowsAll _ _ [(A2, c2)] [row2] from ⟨⟨(hS.at_ 2 rfl).rd, ((hS.at_ 2 rfl).cap1)⟩, trivial⟩)))) (hS.at_ 1 rfl).capH (hS.at_ 1 rfl).lenH)) <| obs_nil
              refine at_end [0, 1, 5, 6] [pl 0 (.int .i64 n1), pl 1 (.slice A1 rows1.length c1), pl 5 (.int .i64 (w64 (many1 + r3))), pl 6 (.int .i64 k1)] hF rfl (by kernel_rfl) (fun hF => ?_)
              refine block_n ?_
              refine then_n ?_
              have hS := hS.pickN 3 [] (by decide)
              exact ⟨(w64 (many1 + r3)), hF.weak [0, 1, 5, 6] (by kernel_rfl), hS, hm⟩
            · replace hm := if_f hm hb
              refine wpIn_skip ?_
              refine block_n ?_
              refine then_n ?_
              have hS := hS.pickN 1 [] (by decide)
              exact ⟨many1, hF.weak [0, 1, 5, 6] (by kernel_rfl), hS, hm⟩
          · refine reg [] [] [0, 1, 5, 6, 7, 8, 9] [pl 0 (.int .i64 n1), pl 1 (.slice A1 rows1.length c1), pl 5 (.int .i64 many1), pl 6 (.int .i64 k1), pl 7 (.slice A2 r2.length c2), pl 8 (.bool true), pl 9 (.int .i64 0)] hF hS Fol (by kernel_rfl) (by kernel_rfl) (by kernel_rfl) ?_ (fun a w hF hS => ?_)
            · exact obs_nil
            refine wpIn_block ?_
            refine wp_loop_model (S := (List Int × Bool × Int)) (R := (List Int × Bool)) (gameroomref_LatinOf_L2 n1 rows1 r2) (fun x => ((gameroomref_LatinOf_K2 rec_gameroomref_LatinOf n1 rows1 many1 k1) x).bind φ1) r (fun (x : (List Int × Bool × Int)) a w => Fr 70 [pl 0 (.int .i64 n1), pl 1 (.slice A1 rows1.length c1), pl 5 (.int .i64 many1), pl 6 (.int .i64 k1), pl 7 (.slice A2 r2.length c2), pl 8 (.bool x.2.1), pl 9 (.int .i64 x.2.2)] a ∧ Sep w0 B w (own 3 (.slice A2 r2.length c2) (vI x.1) :: fs)) (assoc_b hm) ⟨hF.weak [0, 1, 5, 6, 7, 8, 9] (by kernel_rfl), hS⟩ ?_
            clear hF hS hm
            rintro nn2 ⟨row1, free1, x1⟩ a w ⟨hF, hS⟩ hm
            generalize hφ2 : stK (gameroomref_LatinOf_L2 n1 rows1 r2) nn2 (fun x => ((gameroomref_LatinOf_K2 rec_gameroomref_LatinOf n1 rows1 many1 k1) x).bind φ1) = φ2 at hm
            unfold gameroomref_LatinOf_L2 at hm
            dsimp only at hF hS hm
            refine seq_cut (fun a w => Fr 70 [pl 0 (.int .i64 n1), pl 1 (.slice A1 rows1.length c1), pl 5 (.int .i64 many1), pl 6 (.int .i64 k1), pl 7 (.slice A2 r2.length c2), pl 8 (.bool free1), pl 9 (.int .i64 x1)] a ∧ Sep w0 B w (own 3 (.slice A2 r2.length c2) (vI row1) :: fs) ∧ ((gameroomref_LatinOf_J6 rows1 r2 row1 free1 x1)).bind φ2 = some r) ?_ ?_
            · rintro a w ⟨hF, hS, hm⟩
              unfold gameroomref_LatinOf_J6 at hm
              refine seq_cut (fun a w => ∃ (free4 : Bool), Fr 70 [pl 0 (.int .i64 n1), pl 1 (.slice A1 rows1.length c1), pl 5 (.int .i64 many1), pl 6 (.int .i64 k1), pl 7 (.slice A2 r2.length c2), pl 8 (.bool free4), pl 9 (.int .i64 x1)] a ∧ Sep w0 B w (own 3 (.slice A2 r2.length c2) (vI (row1.set (Int.toNat x1) (w64 ((geti row1 x1) + 1)))) :: fs) ∧ ((gameroomref_LatinOf_J7 row1 x1) free4).bind φ2 = some r) ?_ ?_
              · rintro a w ⟨free4, hF, hS, hm⟩
                unfold gameroomref_LatinOf_J7 at hm
                refine reg1 [] [] [0, 1, 5, 6, 7, 8, 9] [pl 0 (.int .i64 n1), pl 1 (.slice A1 rows1.length c1), pl 5 (.int .i64 many1), pl 6 (.int .i64 k1), pl 7 (.slice A2 r2.length c2), pl 8 (.bool free4), pl 9 (.int .i64 (w64 (x1 + 1)))] hF hS Fol (by kernel_rfl) (by kernel_rfl) (by kernel_rfl) ?_ (fun a w hF hS => ?_)
                · exact obs_nil
                refine then_n ?_
                rw [← hφ2] at hm
                exact ⟨((row1.set (Int.toNat x1) (w64 ((geti row1 x1) + 1))), free4, (w64 (x1 + 1))), ⟨hF.weak [0, 1, 5, 6, 7, 8, 9] (by kernel_rfl), hS⟩, hm⟩
              · refine wpIn_block ?_
                refine seqR ?_
                obtain ⟨hp1, hm⟩ := asrt_b hm
                obtain ⟨hp2, hm⟩ := asrt_b hm
                refine at_run 6 [⟨true, [], vS (Instr.indexAt 34 (.slice A2 r2.length c2) (.int .i64 x1)), .pointer (some (sAddr A2 x1))⟩, ⟨false, [], vS (Instr.loadAt 3 (.pointer (some (sAddr A2 x1)))), .int .i64 (geti row1 x1)⟩, ⟨true, [], vS (Instr.indexAt 34 (.slice A2 r2.length c2) (.int .i64 x1)), .pointer (some (sAddr A2 x1))⟩] [none, none, some (.pointer (some (sAddr A2 x1))), some (.int .i64 (geti row1 x1)), none, some (.pointer (some (sAddr A2 x1)))] [0, 1, 5, 6, 7, 8, 9, 34, 35] [pl 0 (.int .i64 n1), pl 1 (.slice A1 rows1.length c1), pl 5 (.int .i64 many1), pl 6 (.int .i64 k1), pl 7 (.slice A2 r2.length c2), pl 8 (.bool free1), pl 9 (.int .i64 x1), pl 34 (.int .i64 (w64 ((geti row1 x1) + 1))), pl 35 (.pointer (some (sAddr A2 x1)))] hF hS (by kernel_rfl) (by kernel_rfl) ?_ (fun a w hF hS => ?_)
                · exact obs_cons (ob_ix1 (f := (Value.int .i64)) (m := row1) Und34 hi3 hs3 (hS.at_ 0 rfl).rd ((hS.at_ 0 rfl).len1) (fun _ => hp1)) <| obs_cons (ob_get1 (n := r2.length) (m := row1) (Value.int .i64) (0 : Int) Agg3 (fun _ hS => ⟨_, (hS.at_ 0 rfl).rd⟩) (fun _ hS => ((hS.at_ 0 rfl).len1)) (fun _ => hp1)) <| obs_cons (ob_ix1 (f := (Value.int .i64)) (m := row1) Und34 hi3 hs3 (hS.at_ 0 rfl).rd ((hS.at_ 0 rfl).len1) (fun _ => hp2)) <| obs_nil
                obtain ⟨w, hrun, hS⟩ := run_set1 (P := Try.prog) (t := 3) (x := (w64 ((geti row1 x1) + 1))) (Value.int .i64) (hS.at_ 0 rfl) hi3 hs3 rfl rfl hp2
                refine at_skip hF (by kernel_rfl) hrun ?_
                have hS : Sep w0 B w (own 3 (.slice A2 r2.length c2) (vI (row1.set (Int.toNat x1) (w64 ((geti row1 x1) + 1)))) :: fs) := hS
                refine at_end [0, 1, 5, 6, 7, 8, 9] [pl 0 (.int .i64 n1), pl 1 (.slice A1 rows1.length c1), pl 5 (.int .i64 many1), pl 6 (.int .i64 k1), pl 7 (.slice A2 r2.length c2), pl 8 (.bool free1), pl 9 (.int .i64 x1)] hF rfl (by kernel_rfl) (fun hF => ?_)
                refine then_n ?_
                refine reg [] [] [0, 1, 5, 6, 7, 8, 9, 10] [pl 0 (.int .i64 n1), pl 1 (.slice A1 rows1.length c1), pl 5 (.int .i64 many1), pl 6 (.int .i64 k1), pl 7 (.slice A2 r2.length c2), pl 8 (.bool free1), pl 9 (.int .i64 x1), pl 10 (.int .i64 0)] hF hS Fol (by kernel_rfl) (by kernel_rfl) (by kernel_rfl) ?_ (fun a w hF hS => ?_)
                · exact obs_nil
                refine wpIn_block ?_
                refine wp_loop_model (S := (Bool × Int)) (R := Bool) (gameroomref_LatinOf_L3 rows1 r2 row1 x1) (fun x => ((gameroomref_LatinOf_K3 row1 x1) x).bind φ2) r (fun (x : (Bool × Int)) a w => Fr 70 [pl 0 (.int .i64 n1), pl 1 (.slice A1 rows1.length c1), pl 5 (.int .i64 many1), pl 6 (.int .i64 k1), pl 7 (.slice A2 r2.length c2), pl 8 (.bool x.1), pl 9 (.int .i64 x1), pl 10 (.int .i64 x.2)] a ∧ Sep w0 B w (own 3 (.slice A2 r2.length c2) (vI (row1.set (Int.toNat x1) (w64 ((geti row1 x1) + 1)))) :: fs)) (assoc_b hm) ⟨hF.weak [0, 1, 5, 6, 7, 8, 9, 10] (by kernel_rfl), hS⟩ ?_
                clear hF hS hm
                rintro nn3 ⟨free3, i1⟩ a w ⟨hF, hS⟩ hm
                generalize hφ3 : stK (gameroomref_LatinOf_L3 rows1 r2 row1 x1) nn3 (fun x => ((gameroomref_LatinOf_K3 row1 x1) x).bind φ2) = φ3 at hm
                unfold gameroomref_LatinOf_L3 at hm
                dsimp only at hF hS hm
                refine seq_cut (fun a w => Fr 70 [pl 0 (.int .i64 n1), pl 1 (.slice A1 rows1.length c1), pl 5 (.int .i64 many1), pl 6 (.int .i64 k1), pl 7 (.slice A2 r2.length c2), pl 8 (.bool free3), pl 9 (.int .i64 x1), pl 10 (.int .i64 i1)] a ∧ Sep w0 B w (own 3 (.slice A2 r2.length c2) (vI (row1.set (Int.toNat x1) (w64 ((geti row1 x1) + 1)))) :: fs) ∧ ((gameroomref_LatinOf_J8 rows1 r2 row1 x1 free3 i1)).bind φ3 = some r) ?_ ?_
                · rintro a w ⟨hF, hS, hm⟩
                  unfold gameroomref_LatinOf_J8 at hm
                  refine seq_cut (fun a w => Fr 70 [pl 0 (.int .i64 n1), pl 1 (.slice A1 rows1.length c1), pl 5 (.int .i64 many1), pl 6 (.int .i64 k1), pl 7 (.slice A2 r2.length c2), pl 8 (.bool (free3 && ((geti (geti2 rows1 i1) x1) != (geti (row1.set (Int.toNat x1) (w64 ((geti row1 x1) + 1))) x1)))), pl 9 (.int .i64 x1), pl 10 (.int .i64 i1)] a ∧ Sep w0 B w (own 3 (.slice A2 r2.length c2) (vI (row1.set (Int.toNat x1) (w64 ((geti row1 x1) + 1)))) :: fs) ∧ ((gameroomref_LatinOf_J9 rows1 row1 x1 free3 i1)).bind φ3 = some r) ?_ ?_
                  · rintro a w ⟨hF, hS, hm⟩
                    unfold gameroomref_LatinOf_J9 at hm
                    refine reg1 [] [] [0, 1, 5, 6, 7, 8, 9, 10] [pl 0 (.int .i64 n1), pl 1 (.slice A1 rows1.length c1), pl 5 (.int .i64 many1), pl 6 (.int .i64 k1), pl 7 (.slice A2 r2.length c2), pl 8 (.bool (free3 && ((geti (geti2 rows1 i1) x1) != (geti (row1.set (Int.toNat x1) (w64 ((geti row1 x1) + 1))) x1)))), pl 9 (.int .i64 x1), pl 10 (.int .i64 (w64 (i1 + 1)))] hF hS Fol (by kernel_rfl) (by kernel_rfl) (by kernel_rfl) ?_ (fun a w hF hS => ?_)
                    · exact obs_nil
                    refine then_n ?_
                    rw [← hφ3] at hm
                    exact ⟨((free3 && ((geti (geti2 rows1 i1) x1) != (geti (row1.set (Int.toNat x1) (w64 ((geti row1 x1) + 1))) x1))), (w64 (i1 + 1))), ⟨hF.weak [0, 1, 5, 6, 7, 8, 9, 10] (by kernel_rfl), hS⟩, hm⟩
                  · refine wpIn_block ?_
                    obtain ⟨hp3, hm⟩ := asrt_b hm
                    obtain ⟨hp4, hm⟩ := asrt_b hm
                    obtain ⟨hp5, hm⟩ := asrt_b hm
                    refine reg1 [⟨true, [(free3, true)], vS (Instr.indexAt 45 (.slice A1 rows1.length c1) (.int .i64 i1)), .pointer (some (sAddr A1 i1))⟩, ⟨false, [(free3, true)], vS (Instr.loadAt 34 (.pointer (some (sAddr A1 i1)))), .slice (hdA hd1 i1) ((geti2 rows1 i1).length) (hdC hd1 i1)⟩, ⟨true, [(free3, true)], vS (Instr.indexAt 34 (.slice (hdA hd1 i1) ((geti2 rows1 i1).length) (hdC hd1 i1)) (.int .i64 x1)), .pointer (some (sAddr (hdA hd1 i1) x1))⟩, ⟨false, [(free3, true)], vS (Instr.loadAt 3 (.pointer (some (sAddr (hdA hd1 i1) x1)))), .int .i64 (geti (geti2 rows1 i1) x1)⟩, ⟨true, [(free3, true)], vS (Instr.indexAt 34 (.slice A2 r2.length c2) (.int .i64 x1)), .pointer (some (sAddr A2 x1))⟩, ⟨false, [(free3, true)], vS (Instr.loadAt 3 (.pointer (some (sAddr A2 x1)))), .int .i64 (geti (row1.set (Int.toNat x1) (w64 ((geti row1 x1) + 1))) x1)⟩] [none, none, none, none, some (.pointer (some (sAddr A1 i1))), some (.slice (hdA hd1 i1) ((geti2 rows1 i1).length) (hdC hd1 i1)), none, some (.pointer (some (sAddr (hdA hd1 i1) x1))), some (.int .i64 (geti (geti2 rows1 i1) x1)), none, none, some (.pointer (some (sAddr A2 x1))), some (.int .i64 (geti (row1.set (Int.toNat x1) (w64 ((geti row1 x1) + 1))) x1)), none, none, none] [0, 1, 5, 6, 7, 8, 9, 10] [pl 0 (.int .i64 n1), pl 1 (.slice A1 rows1.length c1), pl 5 (.int .i64 many1), pl 6 (.int .i64 k1), pl 7 (.slice A2 r2.length c2), pl 8 (.bool (free3 && ((geti (geti2 rows1 i1) x1) != (geti (row1.set (Int.toNat x1) (w64 ((geti row1 x1) + 1))) x1)))), pl 9 (.int .i64 x1), pl 10 (.int .i64 i1)] hF hS Fol (by kernel_rfl) (by kernel_rfl) (by kernel_rfl) ?_ (fun a w hF hS => ?_)
                    · exact obs_cons (ob_ixRn Und45 hi34 hs34 (hr_rows1 _ (hS.dropN 1)) rfl (fun hy => hp3 (hy (free3, true) (by simp)))) <| obs_cons (ob_getR Agg34 (fun _ hS => ⟨_, (hr_rows1 _ (hS.dropN 1))⟩) (fun hy => hp3 (hy (free3, true) (by simp)))) <| obs_cons (ob_ix1 (f := (Value.int .i64)) (m := (geti2 rows1 i1)) Und34 hi3 hs3 ((hr_rows1 _ (hS.dropN 1)).rowAny i1).1 rfl (fun hy => hp4 (hy (free3, true) (by simp)))) <| obs_cons (ob_get1 (n := (geti2 rows1 i1).length) (m := (geti2 rows1 i1)) (Value.int .i64) (0 : Int) Agg3 (fun _ hS => ⟨_, ((hr_rows1 _ (hS.dropN 1)).rowAny i1).1⟩) (fun _ hS => rfl) (fun hy => hp4 (hy (free3, true) (by simp)))) <| obs_cons (ob_ix1 (f := (Value.int .i64)) (m := (row1.set (Int.toNat x1) (w64 ((geti row1 x1) + 1)))) Und34 hi3 hs3 (hS.at_ 0 rfl).rd ((hS.at_ 0 rfl).len1) (fun hy => hp5 (hy (free3, true) (by simp)))) <| obs_cons (ob_get1 (n := r2.length) (m := (row1.set (Int.toNat x1) (w64 ((geti row1 x1) + 1)))) (Value.int .i64) (0 : Int) Agg3 (fun _ hS => ⟨_, (hS.at_ 0 rfl).rd⟩) (fun _ hS => ((hS.at_ 0 rfl).len1)) (fun hy => hp5 (hy (free3, true) (by simp)))) <| obs_nil
                    refine block_n ?_
                    refine then_n ?_
                    exact ⟨hF.weak [0, 1, 5, 6, 7, 8, 9, 10] (by kernel_rfl), hS, hm⟩
                · refine reg [] [] [0, 1, 5, 6, 7, 8, 9, 10, 39] [pl 0 (.int .i64 n1), pl 1 (.slice A1 rows1.length c1), pl 5 (.int .i64 many1), pl 6 (.int .i64 k1), pl 7 (.slice A2 r2.length c2), pl 8 (.bool free3), pl 9 (.int .i64 x1), pl 10 (.int .i64 i1), pl 39 (.bool (decide (i1 < (rows1.length : Int))))] hF hS Fol (by kernel_rfl) (by kernel_rfl) (by kernel_rfl) ?_ (fun a w hF hS => ?_)
                  · exact obs_nil
                  refine cond_ev (t := 39) (b := decide (i1 < (rows1.length : Int))) hF (by kernel_rfl) (fun hb => ?_) (fun hb => ?_)
                  · replace hm := if_t hm hb
                    refine wpIn_skip ?_
                    refine then_n ?_
                    exact ⟨hF.weak [0, 1, 5, 6, 7, 8, 9, 10] (by kernel_rfl), hS, hm⟩
                  · replace hm := if_f hm hb
                    refine wpIn_exit ?_
                    refine then_e (then_e (block_e (block_n (then_n ?_))))
                    rw [← hφ3] at hm
                    replace hm := done_b hm
                    unfold gameroomref_LatinOf_K3 at hm
                    try dsimp only at hm
                    have hm : ((gameroomref_LatinOf_J7 row1 x1) free3).bind φ2 = some r := hm
                    exact ⟨free3, hF.weak [0, 1, 5, 6, 7, 8, 9] (by kernel_rfl), hS, hm⟩
            · refine reg [] [] [0, 1, 5, 6, 7, 8, 9, 27] [pl 0 (.int .i64 n1), pl 1 (.slice A1 rows1.length c1), pl 5 (.int .i64 many1), pl 6 (.int .i64 k1), pl 7 (.slice A2 r2.length c2), pl 8 (.bool free1), pl 9 (.int .i64 x1), pl 27 (.bool (decide (x1 < n1)))] hF hS Fol (by kernel_rfl) (by kernel_rfl) (by kernel_rfl) ?_ (fun a w hF hS => ?_)
              · exact obs_nil
              refine cond_ev (t := 27) (b := decide (x1 < n1)) hF (by kernel_rfl) (fun hb => ?_) (fun hb => ?_)
              · replace hm := if_t hm hb
                refine wpIn_skip ?_
                refine then_n ?_
                exact ⟨hF.weak [0, 1, 5, 6, 7, 8, 9] (by kernel_rfl), hS, hm⟩
              · replace hm := if_f hm hb
                refine wpIn_exit ?_
                refine then_e (then_e (block_e (then_n ?_)))
                rw [← hφ2] at hm
                replace hm := done_b hm
                unfold gameroomref_LatinOf_K2 at hm
                try dsimp only at hm
                have hm : ((gameroomref_LatinOf_J5 rec_gameroomref_LatinOf n1 rows1 many1 k1) row1 free1).bind φ1 = some r := hm
                exact ⟨row1, free1, hF.weak [0, 1, 5, 6, 7, 8] (by kernel_rfl), hS, hm⟩
      · obtain ⟨r1, hr1, hm⟩ := call_b hm
        refine reg [⟨false, [], callFunc 79 #[.int .i64 n1], .int .i64 r1⟩] [none, none, some (.int .i64 r1), none] [0, 1, 5, 6, 19] [pl 0 (.int .i64 n1), pl 1 (.slice A1 rows1.length c1), pl 5 (.int .i64 many1), pl 6 (.int .i64 k1), pl 19 (.bool (decide (k1 < r1)))] hF hS Fol (by kernel_rfl) (by kernel_rfl) (by kernel_rfl) ?_ (fun a w hF hS => ?_)
        · exact obs_cons (ob_call Try.func79 (by kernel_rfl) rfl (fun _ _ hS => gameroomref_factorial_w hr1 hS )) <| obs_nil
        refine cond_ev (t := 19) (b := decide (k1 < r1)) hF (by kernel_rfl) (fun hb => ?_) (fun hb => ?_)
        · replace hm := if_t hm hb
          refine wpIn_skip ?_
          refine then_n ?_
          exact ⟨hF.weak [0, 1, 5, 6] (by kernel_rfl), hS, hm⟩
        · replace hm := if_f hm hb
          refine wpIn_exit ?_
          refine then_e (then_e (block_e (then_n ?_)))
          rw [← hφ1] at hm
          replace hm := done_b hm
          unfold gameroomref_LatinOf_K1 at hm
          try dsimp only at hm
          have hm : (gameroomref_LatinOf_J2 many1).bind some = some r := hm
          exact ⟨many1, hF.weak [5] (by kernel_rfl), hS, hm⟩
  · refine reg [] [] [0, 1, 15] [pl 0 (.int .i64 n1), pl 1 (.slice A1 rows1.length c1), pl 15 (.bool ((rows1.length : Int) == n1))] hF hS Fol (by kernel_rfl) (by kernel_rfl) (by kernel_rfl) ?_ (fun a w hF hS => ?_)
    · exact obs_nil
    refine cond_ev (t := 15) (b := ((rows1.length : Int) == n1)) hF (by kernel_rfl) (fun hb => ?_) (fun hb => ?_)
    · replace hm := if_t hm hb
      refine reg [] [] [4] [pl 4 (.int .i64 1)] hF hS Fol (by kernel_rfl) (by kernel_rfl) (by kernel_rfl) ?_ (fun a w hF hS => ?_)
      · exact obs_nil
      refine wpIn_ret ?_
      refine then_r ?_
      have hm : some 1 = some r := hm
      obtain rfl := Option.some.inj hm
      exact retV (rs := [.tmp 4]) (vs := [.int .i64 1]) hF rfl (rv_t (by kernel_rfl) <| rv_nil) rfl ⟨rfl, hS⟩
    · replace hm := if_f hm hb
      refine wpIn_skip ?_
      refine then_n ?_
      exact ⟨hF.weak [0, 1] (by kernel_rfl), hS, hm⟩

theorem gameroomref_LatinOf_w {n1 : Int} {A1 : Option Addr} {c1 : Nat} {n2 : Nat} {hd1 : List Hd} {rows1 : List (List Int)} {r : Int} {w0 w : World} {B : Nat} {fs : List HP} (hm : gameroomref_LatinOf_m n1 rows1 = some r) (hS : Sep w0 B w (fs)) (hr_rows1 : RdRowsF w0 B fs A1 hd1 rows1) (_hc_rows1 : rows1.length ≤ c1) (_hn_rows1 : n2 = rows1.length) :
    Calls Try.prog 32 #[.int .i64 n1, .slice A1 n2 c1] w fun e w' => e = .returned (.int .i64 r) ∧ Sep w0 B w' (fs) := by
  have key : ∀ (n : Nat) {n1 : Int} {A1 : Option Addr} {c1 : Nat} {n2 : Nat} {hd1 : List Hd} {rows1 : List (List Int)} {r : Int} {w0 w : World} {B : Nat} {fs : List HP} (_ : gameroomref_LatinOf_mF n n1 rows1 = some r) (_ : Sep w0 B w (fs)) (hr_rows1 : RdRowsF w0 B fs A1 hd1 rows1) (_hc_rows1 : rows1.length ≤ c1) (_hn_rows1 : n2 = rows1.length), Calls Try.prog 32 #[.int .i64 n1, .slice A1 n2 c1] w fun e w' => e = .returned (.int .i64 r) ∧ Sep w0 B w' (fs) := by
    intro n
    induction n with
    | zero => intros; rename_i hm0 _ _ _ _; cases hm0
    | succ n ih => intros; rename_i hm0 hS0 h0 h1 h2; exact gameroomref_LatinOf_wB (rec_gameroomref_LatinOf := gameroomref_LatinOf_mF n) (fun hm hS h0 h1 h2 => ih hm hS h0 h1 h2) hm0 hS0 h0 h1 h2
  obtain ⟨n, hn⟩ := recM_some hm
  exact key n hn hS hr_rows1 _hc_rows1 _hn_rows1

set_option maxRecDepth 100000 in
theorem gameroomref_LatinOf_J5_le_gameroomref_LatinOf {rec_gameroomref_LatinOf1 rec_gameroomref_LatinOf2 : Int → List (List Int) → Option Int} (h_rec_gameroomref_LatinOf : ∀ a0 a1, Le (rec_gameroomref_LatinOf1 a0 a1) (rec_gameroomref_LatinOf2 a0 a1)) (n1 : Int) (rows1 : List (List Int)) (many1 : Int) (k1 : Int) (row2 : List Int) (free2 : Bool) : Le (gameroomref_LatinOf_J5 rec_gameroomref_LatinOf1 n1 rows1 many1 k1 row2 free2) (gameroomref_LatinOf_J5 rec_gameroomref_LatinOf2 n1 rows1 many1 k1 row2 free2) := by
  unfold gameroomref_LatinOf_J5
  repeat' (first | with_reducible exact Le.refl _ | with_reducible exact h_rec_gameroomref_LatinOf _ _ | with_reducible refine Le.asrt ?_ | with_reducible refine Le.ite ?_ ?_ | refine Le.bind ?_ (fun _ => ?_) | refine Le.loop2 (fun _ => ?_) | refine Le.elim2 (fun _ => ?_) (fun _ => ?_))

set_option maxRecDepth 100000 in
theorem gameroomref_LatinOf_K2_le_gameroomref_LatinOf {rec_gameroomref_LatinOf1 rec_gameroomref_LatinOf2 : Int → List (List Int) → Option Int} (h_rec_gameroomref_LatinOf : ∀ a0 a1, Le (rec_gameroomref_LatinOf1 a0 a1) (rec_gameroomref_LatinOf2 a0 a1)) (n1 : Int) (rows1 : List (List Int)) (many1 : Int) (k1 : Int) (x : (List Int × Bool)) : Le (gameroomref_LatinOf_K2 rec_gameroomref_LatinOf1 n1 rows1 many1 k1 x) (gameroomref_LatinOf_K2 rec_gameroomref_LatinOf2 n1 rows1 many1 k1 x) := by
  rcases x with ⟨row2, free2⟩
  all_goals
    unfold gameroomref_LatinOf_K2
    try dsimp only
    repeat' (first | with_reducible exact Le.refl _ | with_reducible exact h_rec_gameroomref_LatinOf _ _ | with_reducible exact gameroomref_LatinOf_J5_le_gameroomref_LatinOf h_rec_gameroomref_LatinOf _ _ _ _ _ _ | with_reducible refine Le.asrt ?_ | with_reducible refine Le.ite ?_ ?_ | refine Le.bind ?_ (fun _ => ?_) | refine Le.loop2 (fun _ => ?_) | refine Le.elim2 (fun _ => ?_) (fun _ => ?_))

set_option maxRecDepth 100000 in
theorem gameroomref_LatinOf_J3_le_gameroomref_LatinOf {rec_gameroomref_LatinOf1 rec_gameroomref_LatinOf2 : Int → List (List Int) → Option Int} (h_rec_gameroomref_LatinOf : ∀ a0 a1, Le (rec_gameroomref_LatinOf1 a0 a1) (rec_gameroomref_LatinOf2 a0 a1)) (n1 : Int) (rows1 : List (List Int)) (many1 : Int) (k1 : Int) : Le (gameroomref_LatinOf_J3 rec_gameroomref_LatinOf1 n1 rows1 many1 k1) (gameroomref_LatinOf_J3 rec_gameroomref_LatinOf2 n1 rows1 many1 k1) := by
  unfold gameroomref_LatinOf_J3
  repeat' (first | with_reducible exact Le.refl _ | with_reducible exact h_rec_gameroomref_LatinOf _ _ | with_reducible exact gameroomref_LatinOf_K2_le_gameroomref_LatinOf h_rec_gameroomref_LatinOf _ _ _ _ _ | with_reducible refine Le.asrt ?_ | with_reducible refine Le.ite ?_ ?_ | refine Le.bind ?_ (fun _ => ?_) | refine Le.loop2 (fun _ => ?_) | refine Le.elim2 (fun _ => ?_) (fun _ => ?_))

set_option maxRecDepth 100000 in
theorem gameroomref_LatinOf_L1_le_gameroomref_LatinOf {rec_gameroomref_LatinOf1 rec_gameroomref_LatinOf2 : Int → List (List Int) → Option Int} (h_rec_gameroomref_LatinOf : ∀ a0 a1, Le (rec_gameroomref_LatinOf1 a0 a1) (rec_gameroomref_LatinOf2 a0 a1)) (n1 : Int) (rows1 : List (List Int)) (x : (Int × Int)) : Le (gameroomref_LatinOf_L1 rec_gameroomref_LatinOf1 n1 rows1 x) (gameroomref_LatinOf_L1 rec_gameroomref_LatinOf2 n1 rows1 x) := by
  rcases x with ⟨many1, k1⟩
  all_goals
    unfold gameroomref_LatinOf_L1
    try dsimp only
    repeat' (first | with_reducible exact Le.refl _ | with_reducible exact h_rec_gameroomref_LatinOf _ _ | with_reducible exact gameroomref_LatinOf_J3_le_gameroomref_LatinOf h_rec_gameroomref_LatinOf _ _ _ _ | with_reducible refine Le.asrt ?_ | with_reducible refine Le.ite ?_ ?_ | refine Le.bind ?_ (fun _ => ?_) | refine Le.loop2 (fun _ => ?_) | refine Le.elim2 (fun _ => ?_) (fun _ => ?_))

set_option maxRecDepth 100000 in
theorem gameroomref_LatinOf_J1_le_gameroomref_LatinOf {rec_gameroomref_LatinOf1 rec_gameroomref_LatinOf2 : Int → List (List Int) → Option Int} (h_rec_gameroomref_LatinOf : ∀ a0 a1, Le (rec_gameroomref_LatinOf1 a0 a1) (rec_gameroomref_LatinOf2 a0 a1)) (n1 : Int) (rows1 : List (List Int)) : Le (gameroomref_LatinOf_J1 rec_gameroomref_LatinOf1 n1 rows1) (gameroomref_LatinOf_J1 rec_gameroomref_LatinOf2 n1 rows1) := by
  unfold gameroomref_LatinOf_J1
  repeat' (first | with_reducible exact Le.refl _ | with_reducible exact h_rec_gameroomref_LatinOf _ _ | with_reducible exact gameroomref_LatinOf_L1_le_gameroomref_LatinOf h_rec_gameroomref_LatinOf _ _ _ | with_reducible refine Le.asrt ?_ | with_reducible refine Le.ite ?_ ?_ | refine Le.bind ?_ (fun _ => ?_) | refine Le.loop2 (fun _ => ?_) | refine Le.elim2 (fun _ => ?_) (fun _ => ?_))

set_option maxRecDepth 100000 in
theorem gameroomref_LatinOf_B_le {rec_gameroomref_LatinOf1 rec_gameroomref_LatinOf2 : Int → List (List Int) → Option Int} (h_rec_gameroomref_LatinOf : ∀ a0 a1, Le (rec_gameroomref_LatinOf1 a0 a1) (rec_gameroomref_LatinOf2 a0 a1)) (n1 : Int) (rows1 : List (List Int)) : Le (gameroomref_LatinOf_B rec_gameroomref_LatinOf1 n1 rows1) (gameroomref_LatinOf_B rec_gameroomref_LatinOf2 n1 rows1) := by
  unfold gameroomref_LatinOf_B
  repeat' (first | with_reducible exact Le.refl _ | with_reducible exact h_rec_gameroomref_LatinOf _ _ | with_reducible exact gameroomref_LatinOf_J1_le_gameroomref_LatinOf h_rec_gameroomref_LatinOf _ _ | with_reducible refine Le.asrt ?_ | with_reducible refine Le.ite ?_ ?_ | refine Le.bind ?_ (fun _ => ?_) | refine Le.loop2 (fun _ => ?_) | refine Le.elim2 (fun _ => ?_) (fun _ => ?_))

set_option maxRecDepth 100000 in
theorem gameroomref_LatinOf_mF_le : ∀ (n : Nat) (n1 : Int) (rows1 : List (List Int)), Le (gameroomref_LatinOf_mF n n1 rows1) (gameroomref_LatinOf_mF (n + 1) n1 rows1)
  | 0, _, _ => fun _ h => by cases h
  | n + 1, _, _ => gameroomref_LatinOf_B_le (fun a0 a1 => gameroomref_LatinOf_mF_le n a0 a1) _ _

set_option maxRecDepth 100000 in
theorem gameroomref_LatinOf_m_of (N : Nat) (n1 : Int) (rows1 : List (List Int)) {r : Int} (h : gameroomref_LatinOf_mF N n1 rows1 = some r) : gameroomref_LatinOf_m n1 rows1 = some r :=
  recM_mono (fun n => gameroomref_LatinOf_mF_le n _ _) h

noncomputable def gameroomlaw_CoverSquares_J3  (m1 : Int) (given1 : List (List Int)) (r4 : (Int × Int)) : Option Bool :=
  ((if (r4.2 == 0) then gameroomref_LatinOf_m m1 given1 else some 0)).bind fun r6 => some ((r4.2 == 0) && (r4.1 == r6))

noncomputable def gameroomlaw_CoverSquares_J2  (m1 : Int) (given1 : List (List Int)) : Option Bool :=
  (gameroomlaw_copied_m given1).bind fun r3 => (cover_Latin_m m1 r3).bind fun r4 => (gameroomref_LatinMay_m m1 given1).bind fun r5 => if (r5 != 0) then (some ((r4.2 == r5) && (r4.1 == 0))) else ((gameroomlaw_CoverSquares_J3 m1 given1 r4))

noncomputable def gameroomlaw_CoverSquares_J1  (m1 : Int) (given1 : List (List Int)) : Option Bool :=
  if ((m1 == 5) && ((given1.length : Int) == 0)) then (some true) else ((gameroomlaw_CoverSquares_J2 m1 given1))

noncomputable def gameroomlaw_CoverSquares_m  (n1 : Int) (m1 : Int) (given1 : List (List Int)) : Option Bool :=
  (cover_Queens_m n1).bind fun r1 => if ((decide (n1 < 1)) || (decide ((8 : Int) < n1))) then (if ((r1.2 != 3) || (r1.1 != 0)) then (some false) else ((gameroomlaw_CoverSquares_J1 m1 given1))) else (((if (!(r1.2 != 0)) then gameroomref_QueensOf_m n1 ([] : List Int) else some 0)).bind fun r2 => if ((r1.2 != 0) || (r1.1 != r2)) then (some false) else ((gameroomlaw_CoverSquares_J1 m1 given1)))

set_option maxRecDepth 100000 in
set_option maxHeartbeats 4000000 in
theorem gameroomlaw_CoverSquares_w {n1 : Int} {m1 : Int} {A1 : Option Addr} {c1 : Nat} {n2 : Nat} {hd1 : List Hd} {given1 : List (List Int)} {r : Bool} {w0 w : World} {B : Nat} {fs : List HP} (hm : gameroomlaw_CoverSquares_m n1 m1 given1 = some r) (hS : Sep w0 B w (fs)) (hr_given1 : RdRowsF w0 B fs A1 hd1 given1) (_hc_given1 : given1.length ≤ c1) (_hn_given1 : n2 = given1.length) :
    Calls Try.prog 5 #[.int .i64 n1, .int .i64 m1, .slice A1 n2 c1] w fun e w' => e = .returned (.bool r) ∧ Sep w0 B w' (fs) := by
  obtain rfl := _hn_given1
  unfold gameroomlaw_CoverSquares_m at hm
  replace hm := start_b hm
  refine enter (l := [.int .i64 n1, .int .i64 m1, .slice A1 given1.length c1]) (n := 72) Try.func5 rfl rfl (by simp) (fun a hF => ?_)
  refine reg [] [] [0, 1, 2] [pl 0 (.int .i64 n1), pl 1 (.int .i64 m1), pl 2 (.slice A1 given1.length c1)] hF hS Fol (by kernel_rfl) (by kernel_rfl) (by kernel_rfl) ?_ (fun a w hF hS => ?_)
  · exact obs_nil
  obtain ⟨r1, hr1, hm⟩ := call_b hm
  refine reg [⟨false, [], callFunc 27 #[.int .i64 n1], .tuple #[.int .i64 r1.1, .int .i64 r1.2]⟩] [none, some (.tuple #[.int .i64 r1.1, .int .i64 r1.2]), none, none, none, none, none] [0, 1, 2, 7, 8] [pl 0 (.int .i64 n1), pl 1 (.int .i64 m1), pl 2 (.slice A1 given1.length c1), pl 7 (.int .i64 r1.1), pl 8 (.int .i64 r1.2)] hF hS Fol (by kernel_rfl) (by kernel_rfl) (by kernel_rfl) ?_ (fun a w hF hS => ?_)
  · exact obs_cons (ob_call Try.func27 (by kernel_rfl) rfl (fun _ _ hS => cover_Queens_w hr1 hS )) <| obs_nil
  refine seq_cut (fun a w => Fr 72 [pl 1 (.int .i64 m1), pl 2 (.slice A1 given1.length c1)] a ∧ Sep w0 B w (fs) ∧ ((gameroomlaw_CoverSquares_J1 m1 given1)).bind some = some r) ?_ ?_
  · rintro a w ⟨hF, hS, hm⟩
    unfold gameroomlaw_CoverSquares_J1 at hm
    refine seq_cut (fun a w => Fr 72 [pl 1 (.int .i64 m1), pl 2 (.slice A1 given1.length c1)] a ∧ Sep w0 B w (fs) ∧ ((gameroomlaw_CoverSquares_J2 m1 given1)).bind some = some r) ?_ ?_
    · rintro a w ⟨hF, hS, hm⟩
      unfold gameroomlaw_CoverSquares_J2 at hm
      refine seqR ?_
      obtain ⟨r3, hr3, hm⟩ := call_b hm
      obtain ⟨r4, hr4, hm⟩ := call_b hm
      refine at_run 2 [] [] [1, 2, 45, 46] [pl 1 (.int .i64 m1), pl 2 (.slice A1 given1.length c1), pl 45 (.int .i64 m1), pl 46 (.slice A1 given1.length c1)] hF hS (by kernel_rfl) (by kernel_rfl) ?_ (fun a w hF hS => ?_)
      · exact obs_nil
      refine at_call (f := 30) (args := #[.slice A1 given1.length c1]) (d := 47) hF (by kernel_rfl) (by kernel_rfl) Try.func30 (by kernel_rfl) rfl (gameroomlaw_copied_w hr3 hS (fun _ hS => (hr_given1 _ (hS.dropN 0))) _hc_given1 rfl) (fun v a w hR hF => ?_)
      clear hS
      obtain ⟨A2, c2, hd2, rfl, hS⟩ := hR
      have hS : Sep w0 B w (rows 34 3 (.slice A2 r3.length c2) hd2 r3 :: fs) := hS
      refine at_run 6 [⟨false, [], callFunc 29 #[.int .i64 m1, .slice A2 r3.length c2], .tuple #[.int .i64 r4.1, .int .i64 r4.2]⟩] [some (.tuple #[.int .i64 r4.1, .int .i64 r4.2]), none, none, none, none, none] [1, 2, 9, 10] [pl 1 (.int .i64 m1), pl 2 (.slice A1 given1.length c1), pl 9 (.int .i64 r4.1), pl 10 (.int .i64 r4.2)] hF hS (by kernel_rfl) (by kernel_rfl) ?_ (fun a w hF hS => ?_)
      · exact obs_cons (ob_call Try.func29 (by kernel_rfl) rfl (fun _ _ hS => cover_Latin_w hr4 hS (fun _ hS => (hS.at_ 0 rfl).rdRows) (hS.at_ 0 rfl).rowsLen.2 (hS.at_ 0 rfl).lenR)) <| obs_nil
      refine at_end [1, 2, 9, 10] [pl 1 (.int .i64 m1), pl 2 (.slice A1 given1.length c1), pl 9 (.int .i64 r4.1), pl 10 (.int .i64 r4.2)] hF rfl (by kernel_rfl) (fun hF => ?_)
      refine then_n ?_
      obtain ⟨r5, hr5, hm⟩ := call_b hm
      refine reg [⟨false, [], callFunc 31 #[.int .i64 m1, .slice A1 given1.length c1], .int .i64 r5⟩] [none, none, some (.int .i64 r5), none] [1, 2, 9, 10, 11] [pl 1 (.int .i64 m1), pl 2 (.slice A1 given1.length c1), pl 9 (.int .i64 r4.1), pl 10 (.int .i64 r4.2), pl 11 (.int .i64 r5)] hF hS Fol (by kernel_rfl) (by kernel_rfl) (by kernel_rfl) ?_ (fun a w hF hS => ?_)
      · exact obs_cons (ob_call Try.func31 (by kernel_rfl) rfl (fun _ _ hS => gameroomref_LatinMay_w hr5 hS (fun _ hS => (hr_given1 _ (hS.dropN 1))) _hc_given1 rfl)) <| obs_nil
      refine seq_cut (fun a w => Fr 72 [pl 1 (.int .i64 m1), pl 2 (.slice A1 given1.length c1), pl 9 (.int .i64 r4.1), pl 10 (.int .i64 r4.2)] a ∧ Sep w0 B w (fs) ∧ ((gameroomlaw_CoverSquares_J3 m1 given1 r4)).bind some = some r) ?_ ?_
      · rintro a w ⟨hF, hS, hm⟩
        unfold gameroomlaw_CoverSquares_J3 at hm
        obtain ⟨r6, hr6, hm⟩ := call_b hm
        refine reg [⟨false, [((r4.2 == 0), true)], callFunc 32 #[.int .i64 m1, .slice A1 given1.length c1], .int .i64 r6⟩] [none, none, none, none, none, none, some (.int .i64 r6), none, none, none] [6] [pl 6 (.bool ((r4.2 == 0) && (r4.1 == r6)))] hF hS Fol (by kernel_rfl) (by kernel_rfl) (by kernel_rfl) ?_ (fun a w hF hS => ?_)
        · exact obs_cons (ob_call Try.func32 (by kernel_rfl) rfl (fun hy _ hS => gameroomref_LatinOf_w (ite_some hr6 (by rw [show (r4.2 == 0) = true from hy ((r4.2 == 0), true) (by simp)]; try rfl)) hS (fun _ hS => (hr_given1 _ (hS.dropN 0))) _hc_given1 rfl)) <| obs_nil
        refine wpIn_ret ?_
        have hm : some ((r4.2 == 0) && (r4.1 == r6)) = some r := hm
        obtain rfl := Option.some.inj hm
        exact retV (rs := [.tmp 6]) (vs := [.bool ((r4.2 == 0) && (r4.1 == r6))]) hF rfl (rv_t (by kernel_rfl) <| rv_nil) rfl ⟨rfl, hS⟩
      · refine reg [] [] [1, 2, 9, 10, 11, 55] [pl 1 (.int .i64 m1), pl 2 (.slice A1 given1.length c1), pl 9 (.int .i64 r4.1), pl 10 (.int .i64 r4.2), pl 11 (.int .i64 r5), pl 55 (.bool (r5 != 0))] hF hS Fol (by kernel_rfl) (by kernel_rfl) (by kernel_rfl) ?_ (fun a w hF hS => ?_)
        · exact obs_nil
        refine cond_ev (t := 55) (b := (r5 != 0)) hF (by kernel_rfl) (fun hb => ?_) (fun hb => ?_)
        · replace hm := if_t hm hb
          refine reg [] [] [6] [pl 6 (.bool ((r4.2 == r5) && (r4.1 == 0)))] hF hS Fol (by kernel_rfl) (by kernel_rfl) (by kernel_rfl) ?_ (fun a w hF hS => ?_)
          · exact obs_nil
          refine wpIn_ret ?_
          refine then_r ?_
          have hS := hS.pickN 1 [] (by decide)
          have hm : some ((r4.2 == r5) && (r4.1 == 0)) = some r := hm
          obtain rfl := Option.some.inj hm
          exact retV (rs := [.tmp 6]) (vs := [.bool ((r4.2 == r5) && (r4.1 == 0))]) hF rfl (rv_t (by kernel_rfl) <| rv_nil) rfl ⟨rfl, hS⟩
        · replace hm := if_f hm hb
          refine wpIn_skip ?_
          refine then_n ?_
          have hS := hS.pickN 1 [] (by decide)
          exact ⟨hF.weak [1, 2, 9, 10] (by kernel_rfl), hS, hm⟩
    · refine reg [] [] [1, 2, 43] [pl 1 (.int .i64 m1), pl 2 (.slice A1 given1.length c1), pl 43 (.bool ((m1 == 5) && ((given1.length : Int) == 0)))] hF hS Fol (by kernel_rfl) (by kernel_rfl) (by kernel_rfl) ?_ (fun a w hF hS => ?_)
      · exact obs_nil
      refine cond_ev (t := 43) (b := (m1 == 5) && ((given1.length : Int) == 0)) hF (by kernel_rfl) (fun hb => ?_) (fun hb => ?_)
      · replace hm := if_t hm hb
        refine reg [] [] [6] [pl 6 (.bool true)] hF hS Fol (by kernel_rfl) (by kernel_rfl) (by kernel_rfl) ?_ (fun a w hF hS => ?_)
        · exact obs_nil
        refine wpIn_ret ?_
        refine then_r ?_
        have hm : some true = some r := hm
        obtain rfl := Option.some.inj hm
        exact retV (rs := [.tmp 6]) (vs := [.bool true]) hF rfl (rv_t (by kernel_rfl) <| rv_nil) rfl ⟨rfl, hS⟩
      · replace hm := if_f hm hb
        refine wpIn_skip ?_
        refine then_n ?_
        exact ⟨hF.weak [1, 2] (by kernel_rfl), hS, hm⟩
  · refine reg [] [] [0, 1, 2, 7, 8, 22] [pl 0 (.int .i64 n1), pl 1 (.int .i64 m1), pl 2 (.slice A1 given1.length c1), pl 7 (.int .i64 r1.1), pl 8 (.int .i64 r1.2), pl 22 (.bool ((decide (n1 < 1)) || (decide ((8 : Int) < n1))))] hF hS Fol (by kernel_rfl) (by kernel_rfl) (by kernel_rfl) ?_ (fun a w hF hS => ?_)
    · exact obs_nil
    refine cond_ev (t := 22) (b := (decide (n1 < 1)) || (decide ((8 : Int) < n1))) hF (by kernel_rfl) (fun hb => ?_) (fun hb => ?_)
    · replace hm := if_t hm hb
      refine reg [] [] [1, 2, 28] [pl 1 (.int .i64 m1), pl 2 (.slice A1 given1.length c1), pl 28 (.bool ((r1.2 != 3) || (r1.1 != 0)))] hF hS Fol (by kernel_rfl) (by kernel_rfl) (by kernel_rfl) ?_ (fun a w hF hS => ?_)
      · exact obs_nil
      refine cond_ev (t := 28) (b := (r1.2 != 3) || (r1.1 != 0)) hF (by kernel_rfl) (fun hb => ?_) (fun hb => ?_)
      · replace hm := if_t hm hb
        refine reg [] [] [6] [pl 6 (.bool false)] hF hS Fol (by kernel_rfl) (by kernel_rfl) (by kernel_rfl) ?_ (fun a w hF hS => ?_)
        · exact obs_nil
        refine wpIn_ret ?_
        refine then_r ?_
        have hm : some false = some r := hm
        obtain rfl := Option.some.inj hm
        exact retV (rs := [.tmp 6]) (vs := [.bool false]) hF rfl (rv_t (by kernel_rfl) <| rv_nil) rfl ⟨rfl, hS⟩
      · replace hm := if_f hm hb
        refine wpIn_skip ?_
        refine then_n ?_
        exact ⟨hF.weak [1, 2] (by kernel_rfl), hS, hm⟩
    · replace hm := if_f hm hb
      obtain ⟨r2, hr2, hm⟩ := call_b hm
      refine reg [⟨false, [((r1.2 != 0), false)], callFunc 28 #[.int .i64 n1, .slice none 0 0], .int .i64 r2⟩] [none, none, none, none, none, some (.int .i64 r2), none, none] [1, 2, 36] [pl 1 (.int .i64 m1), pl 2 (.slice A1 given1.length c1), pl 36 (.bool ((r1.2 != 0) || (r1.1 != r2)))] hF hS Fol (by kernel_rfl) (by kernel_rfl) (by kernel_rfl) ?_ (fun a w hF hS => ?_)
      · exact obs_cons (ob_call Try.func28 (by kernel_rfl) rfl (fun hy _ hS => gameroomref_QueensOf_w (ite_some hr2 (by rw [show (r1.2 != 0) = false from hy ((r1.2 != 0), false) (by simp)]; try rfl)) hS (fun _ hS => Rd.nil _ _ _) (Nat.le_refl _) rfl)) <| obs_nil
      refine cond_ev (t := 36) (b := (r1.2 != 0) || (r1.1 != r2)) hF (by kernel_rfl) (fun hb => ?_) (fun hb => ?_)
      · replace hm := if_t hm hb
        refine reg [] [] [6] [pl 6 (.bool false)] hF hS Fol (by kernel_rfl) (by kernel_rfl) (by kernel_rfl) ?_ (fun a w hF hS => ?_)
        · exact obs_nil
        refine wpIn_ret ?_
        refine then_r ?_
        have hm : some false = some r := hm
        obtain rfl := Option.some.inj hm
        exact retV (rs := [.tmp 6]) (vs := [.bool false]) hF rfl (rv_t (by kernel_rfl) <| rv_nil) rfl ⟨rfl, hS⟩
      · replace hm := if_f hm hb
        refine wpIn_skip ?_
        refine then_n ?_
        exact ⟨hF.weak [1, 2] (by kernel_rfl), hS, hm⟩

end Go.Proofs.Ytlpaklmfgldkoaa
