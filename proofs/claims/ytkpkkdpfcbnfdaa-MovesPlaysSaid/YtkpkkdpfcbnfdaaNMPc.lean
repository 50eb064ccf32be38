import Derived.Test.YtkpkkdpfcbnfdaaVI
import Derived.Test.YtkpkkdpfcbnfdaaFB
import Derived.Test.YtkpkkdpfcbnfdaaLibJ
import Derived.Test.YtkpkkdpfcbnfdaaLibD
import Derived.Test.YtkpkkdpfcbnfdaaLibMV
import Derived.Test.YtkpkkdpfcbnfdaaLibAP
import Derived.Test.YtkpkkdpfcbnfdaaFE
import Derived.Test.YtkpkkdpfcbnfdaaLibPl
import Derived.Test.YtkpkkdpfcbnfdaaLibAR
import Derived.Test.YtkpkkdpfcbnfdaaLibRF
import Derived.Test.YtkpkkdpfcbnfdaaFM
import Derived.Test.YtkpkkdpfcbnfdaaLibG
import Derived.Test.YtkpkkdpfcbnfdaaSF
import Derived.Test.YtkpkkdpfcbnfdaaNMPb
noncomputable section
namespace Go.Proofs.Ytkpkkdpfcbnfdaa
open Go Go.GL Go.RowKit
set_option maxRecDepth 100000
set_option maxHeartbeats 4000000

def rf_size_m  (n1 : Int) : Option Int :=
 if (decide (n1 < 0)) then (some (w64 (0 - n1))) else ((rf_size_J1 n1))

theorem rf_size_w  {n1 r : Int} {w0 w : World} {B : Nat} {fs : List HP} (hm : rf_size_m n1 = some r) (hS : Sep w0 B w (fs)) :
  Calls Try.prog 81 #[vi n1] w fun e w' => e = .returned (vi r) ∧ Sep w0 B w' (fs) := by
 unfold rf_size_m at hm
 replace hm := start_b hm
 refine enter (l := [vi n1]) (n := 8) Try.func81 rfl rfl (by simp) (fun a hF => ?_)
 refine rg [] [] [0] [pl 0 (vi n1)] hF hS obs_nil (fun a w hF hS => ?_)
 refine seq_cut (fun a w => Fr 8 [pl 0 (vi n1)] a ∧ Sep w0 B w (fs) ∧ ((rf_size_J1 n1)).bind some = some r) ?_ ?_
 ·rintro a w ⟨hF, hS, hm⟩
  unfold rf_size_J1 at hm
  refine rg [] [] [2] [pl 2 (vi n1)] hF hS obs_nil (fun a w hF hS => ?_)
  refine wpIn_ret ?_
  have hm : some n1 = some r := hm
  obtain rfl := Option.some.inj hm
  exact retV (rs := [.tmp 2]) (vs := [vi n1]) hF rfl rv1 rfl ⟨rfl, hS⟩
 ·refine rg [] [] [0, 4] [pl 0 (vi n1), pl 4 (.bool (decide (n1 < 0)))] hF hS obs_nil (fun a w hF hS => ?_)
  refine ce (t := 4) (b := decide (n1 < 0)) hF (fun hb => ?_) (fun hb => ?_)
  ·replace hm := if_t hm hb
   refine rg [] [] [2] [pl 2 (vi (w64 (0 - n1)))] hF hS obs_nil (fun a w hF hS => ?_)
   refine wpIn_ret ?_
   refine then_r ?_
   have hm : some (w64 (0 - n1)) = some r := hm
   obtain rfl := Option.some.inj hm
   exact retV (rs := [.tmp 2]) (vs := [vi (w64 (0 - n1))]) hF rfl rv1 rfl ⟨rfl, hS⟩
  ·replace hm := if_f hm hb
   refine wpIn_skip ?_
   refine then_n ?_
   exact ⟨hF.wk [0], hS, hm⟩

def rf_at_J3  (i1 : Int) : Option (St Int (Fl Unit Int)) :=
 some (.next (w64 (i1 + 1)))

def rf_at_J2  (l1 : List Int) (n2 i1 : Int) : Option (St Int (Fl Unit Int)) :=
 asrt (0 ≤ i1 ∧ i1 < (l1.length : Int)) <| if ((geti l1 i1) == n2) then (some (.done (.ret i1))) else ((rf_at_J3 i1))

def rf_at_J1  : Option Int :=
 some (-1)

def rf_at_K1  : (Fl Unit Int) → Option Int :=
 fun (x : (Fl Unit Int)) => match x with | .go _ => rf_at_J1 | .ret x => some x

def rf_at_L1  (l1 : List Int) (n2 : Int) : Int → Option (St Int (Fl Unit Int)) :=
 fun (x : Int) => match x with | i1 => if (decide (i1 < (l1.length : Int))) then ((rf_at_J2 l1 n2 i1)) else (some (.done (.go ())))

def rf_at_m  (l1 : List Int) (n2 : Int) : Option Int :=
 (loop (rf_at_L1 l1 n2) 0).bind rf_at_K1

theorem rf_at_w  {A1 : Option Addr} {c1 n1 : Nat} {l1 : List Int} {n2 r : Int} {w0 w : World} {B : Nat} {fs : List HP} (hm : rf_at_m l1 n2 = some r) (hS : Sep w0 B w (fs)) (hr_l1 : RdF w0 B fs A1 (vI l1)) (_hc_l1 : l1.length ≤ c1) (_hn_l1 : n1 = l1.length) :
  Calls Try.prog 65 #[.slice A1 n1 c1, vi n2] w fun e w' => e = .returned (vi r) ∧ Sep w0 B w' (fs) := by
 obtain ⟨i3, hi3, hz3, hs3, hb3⟩ := info_parts Info3
 obtain rfl := _hn_l1
 unfold rf_at_m at hm
 replace hm := start_b hm
 refine enter (l := [.slice A1 l1.length c1, vi n2]) (n := 19) Try.func65 rfl rfl (by simp) (fun a hF => ?_)
 refine rg [] [] [0, 1] [pl 0 (.slice A1 l1.length c1), pl 1 (vi n2)] hF hS obs_nil (fun a w hF hS => ?_)
 refine seq_cut (fun a w => Fr 19 [] a ∧ Sep w0 B w (fs) ∧ (rf_at_J1).bind some = some r) ?_ ?_
 ·rintro a w ⟨hF, hS, hm⟩
  unfold rf_at_J1 at hm
  refine rg [] [] [4] [pl 4 (vi (-1))] hF hS obs_nil (fun a w hF hS => ?_)
  refine wpIn_ret ?_
  have hm : some (-1) = some r := hm
  obtain rfl := Option.some.inj hm
  exact retV (rs := [.tmp 4]) (vs := [vi (-1)]) hF rfl rv1 rfl ⟨rfl, hS⟩
 ·refine rg [] [] [0, 1, 5] [pl 0 (.slice A1 l1.length c1), pl 1 (vi n2), pl 5 (vi 0)] hF hS obs_nil (fun a w hF hS => ?_)
  refine wpIn_block ?_
  refine wp_loop_model (S := Int) (R := (Fl Unit Int)) (rf_at_L1 l1 n2) (fun x => (rf_at_K1 x).bind some) r (fun (x : Int) a w => Fr 19 [pl 0 (.slice A1 l1.length c1), pl 1 (vi n2), pl 5 (vi x)] a ∧ Sep w0 B w (fs)) (assoc_b hm) ⟨hF.wk [0, 1, 5], hS⟩ ?_
  clear hF hS hm
  rintro nn1 i1 a w ⟨hF, hS⟩ hm
  generalize hφ1 : stK (rf_at_L1 l1 n2) nn1 (fun x => (rf_at_K1 x).bind some) = φ1 at hm
  unfold rf_at_L1 at hm
  dsimp only at hm
  refine seq_cut (fun a w => Fr 19 [pl 0 (.slice A1 l1.length c1), pl 1 (vi n2), pl 5 (vi i1)] a ∧ Sep w0 B w (fs) ∧ ((rf_at_J2 l1 n2 i1)).bind φ1 = some r) ?_ ?_
  ·rintro a w ⟨hF, hS, hm⟩
   unfold rf_at_J2 at hm
   refine seq_cut (fun a w => Fr 19 [pl 0 (.slice A1 l1.length c1), pl 1 (vi n2), pl 5 (vi i1)] a ∧ Sep w0 B w (fs) ∧ ((rf_at_J3 i1)).bind φ1 = some r) ?_ ?_
   ·rintro a w ⟨hF, hS, hm⟩
    unfold rf_at_J3 at hm
    refine rg1 [] [] [0, 1, 5] [pl 0 (.slice A1 l1.length c1), pl 1 (vi n2), pl 5 (vi (w64 (i1 + 1)))] hF hS obs_nil (fun a w hF hS => ?_)
    refine then_n ?_
    rw [← hφ1] at hm
    exact ⟨(w64 (i1 + 1)), ⟨hF.wk [0, 1, 5], hS⟩, hm⟩
   ·refine wpIn_block ?_
    obtain ⟨hp1, hm⟩ := asrt_b hm
    refine rg [⟨true, [], vS (Instr.indexAt 22 (.slice A1 l1.length c1) (vi i1)), .pointer (some (sAddr A1 i1))⟩, ⟨false, [], vS (Instr.loadAt 3 (.pointer (some (sAddr A1 i1)))), vi (geti l1 i1)⟩] [none, none, some (.pointer (some (sAddr A1 i1))), some (vi (geti l1 i1)), none, none] [0, 1, 5, 17] [pl 0 (.slice A1 l1.length c1), pl 1 (vi n2), pl 5 (vi i1), pl 17 (.bool ((geti l1 i1) == n2))] hF hS ?_ (fun a w hF hS => ?_)
    ·exact obs_cons (ob_ix1 (f := (Value.int .i64)) (m := l1) Und22 hi3 hs3 (hr_l1 _ (hS.dropN 0)) rfl (fun _ => hp1)) <| obs_cons (ob_get1 (n := l1.length) (m := l1) (Value.int .i64) (0 : Int) Agg3 (fun _ hS => ⟨_, (hr_l1 _ (hS.dropN 0))⟩) (fun _ hS => rfl) (fun _ => hp1)) <| obs_nil
    refine ce (t := 17) (b := ((geti l1 i1) == n2)) hF (fun hb => ?_) (fun hb => ?_)
    ·replace hm := if_t hm hb
     refine rg [] [] [4] [pl 4 (vi i1)] hF hS obs_nil (fun a w hF hS => ?_)
     refine wpIn_ret ?_
     refine block_r (then_r (then_r (block_r (then_r ?_))))
     rw [← hφ1] at hm
     replace hm := done_b hm
     unfold rf_at_K1 at hm
     try dsimp only at hm
     have hm : some i1 = some r := hm
     obtain rfl := Option.some.inj hm
     exact retV (rs := [.tmp 4]) (vs := [vi i1]) hF rfl rv1 rfl ⟨rfl, hS⟩
    ·replace hm := if_f hm hb
     refine wpIn_skip ?_
     refine block_n ?_
     refine then_n ?_
     exact ⟨hF.wk [0, 1, 5], hS, hm⟩
  ·refine rg [] [] [0, 1, 5, 9] [pl 0 (.slice A1 l1.length c1), pl 1 (vi n2), pl 5 (vi i1), pl 9 (.bool (decide (i1 < (l1.length : Int))))] hF hS obs_nil (fun a w hF hS => ?_)
   refine ce (t := 9) (b := decide (i1 < (l1.length : Int))) hF (fun hb => ?_) (fun hb => ?_)
   ·replace hm := if_t hm hb
    refine wpIn_skip ?_
    refine then_n ?_
    exact ⟨hF.wk [0, 1, 5], hS, hm⟩
   ·replace hm := if_f hm hb
    refine wpIn_exit ?_
    refine then_e (then_e (block_e (then_n ?_)))
    rw [← hφ1] at hm
    replace hm := done_b hm
    unfold rf_at_K1 at hm
    try dsimp only at hm
    have hm : (rf_at_J1).bind some = some r := hm
    exact ⟨hF.wk [], hS, hm⟩

def rf_pieceSide_J2  : Option Int :=
 some (-1)

def rf_pieceSide_J1  (x1 : Int) : Option Int :=
 if (decide (x1 < 0)) then (some 1) else (rf_pieceSide_J2)

def rf_pieceSide_m  (x1 : Int) : Option Int :=
 if (decide ((0 : Int) < x1)) then (some 0) else ((rf_pieceSide_J1 x1))

theorem rf_pieceSide_w  {x1 r : Int} {w0 w : World} {B : Nat} {fs : List HP} (hm : rf_pieceSide_m x1 = some r) (hS : Sep w0 B w (fs)) :
  Calls Try.prog 117 #[vi x1] w fun e w' => e = .returned (vi r) ∧ Sep w0 B w' (fs) := by
 unfold rf_pieceSide_m at hm
 replace hm := start_b hm
 refine enter (l := [vi x1]) (n := 7) Try.func117 rfl rfl (by simp) (fun a hF => ?_)
 refine rg [] [] [0] [pl 0 (vi x1)] hF hS obs_nil (fun a w hF hS => ?_)
 refine seq_cut (fun a w => Fr 7 [pl 0 (vi x1)] a ∧ Sep w0 B w (fs) ∧ ((rf_pieceSide_J1 x1)).bind some = some r) ?_ ?_
 ·rintro a w ⟨hF, hS, hm⟩
  unfold rf_pieceSide_J1 at hm
  refine seq_cut (fun a w => Fr 7 [] a ∧ Sep w0 B w (fs) ∧ (rf_pieceSide_J2).bind some = some r) ?_ ?_
  ·rintro a w ⟨hF, hS, hm⟩
   unfold rf_pieceSide_J2 at hm
   refine rg [] [] [2] [pl 2 (vi (-1))] hF hS obs_nil (fun a w hF hS => ?_)
   refine wpIn_ret ?_
   have hm : some (-1) = some r := hm
   obtain rfl := Option.some.inj hm
   exact retV (rs := [.tmp 2]) (vs := [vi (-1)]) hF rfl rv1 rfl ⟨rfl, hS⟩
  ·refine rg [] [] [6] [pl 6 (.bool (decide (x1 < 0)))] hF hS obs_nil (fun a w hF hS => ?_)
   refine ce (t := 6) (b := decide (x1 < 0)) hF (fun hb => ?_) (fun hb => ?_)
   ·replace hm := if_t hm hb
    refine rg [] [] [2] [pl 2 (vi 1)] hF hS obs_nil (fun a w hF hS => ?_)
    refine wpIn_ret ?_
    refine then_r ?_
    have hm : some 1 = some r := hm
    obtain rfl := Option.some.inj hm
    exact retV (rs := [.tmp 2]) (vs := [vi 1]) hF rfl rv1 rfl ⟨rfl, hS⟩
   ·replace hm := if_f hm hb
    refine wpIn_skip ?_
    refine then_n ?_
    exact ⟨hF.wk [], hS, hm⟩
 ·refine rg [] [] [0, 4] [pl 0 (vi x1), pl 4 (.bool (decide ((0 : Int) < x1)))] hF hS obs_nil (fun a w hF hS => ?_)
  refine ce (t := 4) (b := decide ((0 : Int) < x1)) hF (fun hb => ?_) (fun hb => ?_)
  ·replace hm := if_t hm hb
   refine rg [] [] [2] [pl 2 (vi 0)] hF hS obs_nil (fun a w hF hS => ?_)
   refine wpIn_ret ?_
   refine then_r ?_
   have hm : some 0 = some r := hm
   obtain rfl := Option.some.inj hm
   exact retV (rs := [.tmp 2]) (vs := [vi 0]) hF rfl rv1 rfl ⟨rfl, hS⟩
  ·replace hm := if_f hm hb
   refine wpIn_skip ?_
   refine then_n ?_
   exact ⟨hF.wk [0], hS, hm⟩

def rf_signOf_J2  : Option Int :=
 some 0

def rf_signOf_J1  (n1 : Int) : Option Int :=
 if (decide (n1 < 0)) then (some (-1)) else (rf_signOf_J2)

def rf_signOf_m  (n1 : Int) : Option Int :=
 if (decide ((0 : Int) < n1)) then (some 1) else ((rf_signOf_J1 n1))

theorem rf_signOf_w  {n1 r : Int} {w0 w : World} {B : Nat} {fs : List HP} (hm : rf_signOf_m n1 = some r) (hS : Sep w0 B w (fs)) :
  Calls Try.prog 106 #[vi n1] w fun e w' => e = .returned (vi r) ∧ Sep w0 B w' (fs) := by
 unfold rf_signOf_m at hm
 replace hm := start_b hm
 refine enter (l := [vi n1]) (n := 7) Try.func106 rfl rfl (by simp) (fun a hF => ?_)
 refine rg [] [] [0] [pl 0 (vi n1)] hF hS obs_nil (fun a w hF hS => ?_)
 refine seq_cut (fun a w => Fr 7 [pl 0 (vi n1)] a ∧ Sep w0 B w (fs) ∧ ((rf_signOf_J1 n1)).bind some = some r) ?_ ?_
 ·rintro a w ⟨hF, hS, hm⟩
  unfold rf_signOf_J1 at hm
  refine seq_cut (fun a w => Fr 7 [] a ∧ Sep w0 B w (fs) ∧ (rf_signOf_J2).bind some = some r) ?_ ?_
  ·rintro a w ⟨hF, hS, hm⟩
   unfold rf_signOf_J2 at hm
   refine rg [] [] [2] [pl 2 (vi 0)] hF hS obs_nil (fun a w hF hS => ?_)
   refine wpIn_ret ?_
   have hm : some 0 = some r := hm
   obtain rfl := Option.some.inj hm
   exact retV (rs := [.tmp 2]) (vs := [vi 0]) hF rfl rv1 rfl ⟨rfl, hS⟩
  ·refine rg [] [] [6] [pl 6 (.bool (decide (n1 < 0)))] hF hS obs_nil (fun a w hF hS => ?_)
   refine ce (t := 6) (b := decide (n1 < 0)) hF (fun hb => ?_) (fun hb => ?_)
   ·replace hm := if_t hm hb
    refine rg [] [] [2] [pl 2 (vi (-1))] hF hS obs_nil (fun a w hF hS => ?_)
    refine wpIn_ret ?_
    refine then_r ?_
    have hm : some (-1) = some r := hm
    obtain rfl := Option.some.inj hm
    exact retV (rs := [.tmp 2]) (vs := [vi (-1)]) hF rfl rv1 rfl ⟨rfl, hS⟩
   ·replace hm := if_f hm hb
    refine wpIn_skip ?_
    refine then_n ?_
    exact ⟨hF.wk [], hS, hm⟩
 ·refine rg [] [] [0, 4] [pl 0 (vi n1), pl 4 (.bool (decide ((0 : Int) < n1)))] hF hS obs_nil (fun a w hF hS => ?_)
  refine ce (t := 4) (b := decide ((0 : Int) < n1)) hF (fun hb => ?_) (fun hb => ?_)
  ·replace hm := if_t hm hb
   refine rg [] [] [2] [pl 2 (vi 1)] hF hS obs_nil (fun a w hF hS => ?_)
   refine wpIn_ret ?_
   refine then_r ?_
   have hm : some 1 = some r := hm
   obtain rfl := Option.some.inj hm
   exact retV (rs := [.tmp 2]) (vs := [vi 1]) hF rfl rv1 rfl ⟨rfl, hS⟩
  ·replace hm := if_f hm hb
   refine wpIn_skip ?_
   refine then_n ?_
   exact ⟨hF.wk [0], hS, hm⟩

def rf_Attacks_J6  (from1 to1 k1 : Int) : Option (St Int (Fl Unit Bool)) :=
 (rf_signOf_m (w64 ((Int.tmod to1 8) - (Int.tmod from1 8)))).bind fun r12 => (rf_signOf_m (w64 ((w64 (Int.tdiv to1 8)) - (w64 (Int.tdiv from1 8))))).bind fun r13 => some (.next (w64 (k1 + (w64 (r12 + (w64 (8 * r13)))))))

def rf_Attacks_J5  (places1 : List Int) (from1 to1 k1 : Int) : Option (St Int (Fl Unit Bool)) :=
 asrt (0 ≤ k1 ∧ k1 < (places1.length : Int)) <| if ((geti places1 k1) != 0) then (some (.done (.ret false))) else ((rf_Attacks_J6 from1 to1 k1))

def rf_Attacks_J4  : Option Bool :=
 some true

def rf_Attacks_K1  : (Fl Unit Bool) → Option Bool :=
 fun (x : (Fl Unit Bool)) => match x with | .go _ => rf_Attacks_J4 | .ret x => some x

def rf_Attacks_L1  (places1 : List Int) (from1 to1 : Int) : Int → Option (St Int (Fl Unit Bool)) :=
 fun (x : Int) => match x with | k1 => if (k1 != to1) then ((rf_Attacks_J5 places1 from1 to1 k1)) else (some (.done (.go ())))

def rf_Attacks_J3  (places1 : List Int) (from1 to1 : Int) : Option Bool :=
 (rf_signOf_m (w64 ((Int.tmod to1 8) - (Int.tmod from1 8)))).bind fun r10 => (rf_signOf_m (w64 ((w64 (Int.tdiv to1 8)) - (w64 (Int.tdiv from1 8))))).bind fun r11 => (loop (rf_Attacks_L1 places1 from1 to1) (w64 ((w64 (from1 + r10)) + (w64 (8 * r11))))).bind rf_Attacks_K1

def rf_Attacks_J2  (places1 : List Int) (from1 to1 : Int) : Option Bool :=
 (rf_size_m (w64 ((Int.tmod to1 8) - (Int.tmod from1 8)))).bind fun r6 => (rf_size_m (w64 ((w64 (Int.tdiv to1 8)) - (w64 (Int.tdiv from1 8))))).bind fun r7 => ((if (!(((geti places1 from1) == 0) || ((!(r6 == r7)) && (!(((w64 ((Int.tmod to1 8) - (Int.tmod from1 8))) == 0) || ((w64 ((w64 (Int.tdiv to1 8)) - (w64 (Int.tdiv from1 8)))) == 0)))))) then rf_size_m (geti places1 from1) else some 0)).bind fun r8 => ((if (!((((geti places1 from1) == 0) || ((!(r6 == r7)) && (!(((w64 ((Int.tmod to1 8) - (Int.tmod from1 8))) == 0) || ((w64 ((w64 (Int.tdiv to1 8)) - (w64 (Int.tdiv from1 8)))) == 0))))) || ((r8 == 3) && (!(r6 == r7))))) then rf_size_m (geti places1 from1) else some 0)).bind fun r9 => if (((((geti places1 from1) == 0) || ((!(r6 == r7)) && (!(((w64 ((Int.tmod to1 8) - (Int.tmod from1 8))) == 0) || ((w64 ((w64 (Int.tdiv to1 8)) - (w64 (Int.tdiv from1 8)))) == 0))))) || ((r8 == 3) && (!(r6 == r7)))) || ((r9 == 4) && (!(((w64 ((Int.tmod to1 8) - (Int.tmod from1 8))) == 0) || ((w64 ((w64 (Int.tdiv to1 8)) - (w64 (Int.tdiv from1 8)))) == 0))))) then (some false) else ((rf_Attacks_J3 places1 from1 to1))

def rf_Attacks_J1  (places1 : List Int) (from1 to1 : Int) : Option Bool :=
 (rf_size_m (geti places1 from1)).bind fun r1 => if (r1 == 1) then ((rf_size_m (w64 ((Int.tmod to1 8) - (Int.tmod from1 8)))).bind fun r2 => some ((r2 == 1) && ((w64 ((w64 (Int.tdiv to1 8)) - (w64 (Int.tdiv from1 8)))) == (geti places1 from1)))) else (if (r1 == 2) then ((rf_size_m (w64 ((w64 ((Int.tmod to1 8) - (Int.tmod from1 8))) * (w64 ((w64 (Int.tdiv to1 8)) - (w64 (Int.tdiv from1 8))))))).bind fun r3 => some (r3 == 2)) else (if (r1 == 6) then ((rf_size_m (w64 ((Int.tmod to1 8) - (Int.tmod from1 8)))).bind fun r4 => ((if (decide (r4 ≤ 1)) then rf_size_m (w64 ((w64 (Int.tdiv to1 8)) - (w64 (Int.tdiv from1 8)))) else some 0)).bind fun r5 => some ((decide (r4 ≤ 1)) && (decide (r5 ≤ 1)))) else ((rf_Attacks_J2 places1 from1 to1))))

def rf_Attacks_m  (places1 : List Int) (from1 to1 : Int) : Option Bool :=
 asrt (0 ≤ from1 ∧ from1 < (places1.length : Int)) <| if (((w64 ((Int.tmod to1 8) - (Int.tmod from1 8))) == 0) && ((w64 ((w64 (Int.tdiv to1 8)) - (w64 (Int.tdiv from1 8)))) == 0)) then (some false) else ((rf_Attacks_J1 places1 from1 to1))

theorem rf_Attacks_w  {A1 : Option Addr} {c1 n1 : Nat} {places1 : List Int} {from1 to1 : Int} {r : Bool} {w0 w : World} {B : Nat} {fs : List HP} (hm : rf_Attacks_m places1 from1 to1 = some r) (hS : Sep w0 B w (fs)) (hr_places1 : RdF w0 B fs A1 (vI places1)) (_hc_places1 : places1.length ≤ c1) (_hn_places1 : n1 = places1.length) :
  Calls Try.prog 148 #[.slice A1 n1 c1, vi from1, vi to1] w fun e w' => e = .returned (.bool r) ∧ Sep w0 B w' (fs) := by
 obtain ⟨i3, hi3, hz3, hs3, hb3⟩ := info_parts Info3
 obtain rfl := _hn_places1
 unfold rf_Attacks_m at hm
 replace hm := start_b hm
 refine enter (l := [.slice A1 places1.length c1, vi from1, vi to1]) (n := 125) Try.func148 rfl rfl (by simp) (fun a hF => ?_)
 refine rg [] [] [0, 1, 2] [pl 0 (.slice A1 places1.length c1), pl 1 (vi from1), pl 2 (vi to1)] hF hS obs_nil (fun a w hF hS => ?_)
 refine rg [] [] [0, 1, 2, 7, 8] [pl 0 (.slice A1 places1.length c1), pl 1 (vi from1), pl 2 (vi to1), pl 7 (vi (w64 ((Int.tmod to1 8) - (Int.tmod from1 8)))), pl 8 (vi (w64 ((w64 (Int.tdiv to1 8)) - (w64 (Int.tdiv from1 8)))))] hF hS obs_nil (fun a w hF hS => ?_)
 obtain ⟨hp1, hm⟩ := asrt_b hm
 refine rg [⟨true, [], vS (Instr.indexAt 22 (.slice A1 places1.length c1) (vi from1)), .pointer (some (sAddr A1 from1))⟩, ⟨false, [], vS (Instr.loadAt 3 (.pointer (some (sAddr A1 from1)))), vi (geti places1 from1)⟩] [none, none, some (.pointer (some (sAddr A1 from1))), some (vi (geti places1 from1)), none] [0, 1, 2, 7, 8, 9] [pl 0 (.slice A1 places1.length c1), pl 1 (vi from1), pl 2 (vi to1), pl 7 (vi (w64 ((Int.tmod to1 8) - (Int.tmod from1 8)))), pl 8 (vi (w64 ((w64 (Int.tdiv to1 8)) - (w64 (Int.tdiv from1 8))))), pl 9 (vi (geti places1 from1))] hF hS ?_ (fun a w hF hS => ?_)
 ·exact obs_cons (ob_ix1 (f := (Value.int .i64)) (m := places1) Und22 hi3 hs3 (hr_places1 _ (hS.dropN 0)) rfl (fun _ => hp1)) <| obs_cons (ob_get1 (n := places1.length) (m := places1) (Value.int .i64) (0 : Int) Agg3 (fun _ hS => ⟨_, (hr_places1 _ (hS.dropN 0))⟩) (fun _ hS => rfl) (fun _ => hp1)) <| obs_nil
 refine seq_cut (fun a w => Fr 125 [pl 0 (.slice A1 places1.length c1), pl 1 (vi from1), pl 2 (vi to1), pl 7 (vi (w64 ((Int.tmod to1 8) - (Int.tmod from1 8)))), pl 8 (vi (w64 ((w64 (Int.tdiv to1 8)) - (w64 (Int.tdiv from1 8))))), pl 9 (vi (geti places1 from1))] a ∧ Sep w0 B w (fs) ∧ ((rf_Attacks_J1 places1 from1 to1)).bind some = some r) ?_ ?_
 ·rintro a w ⟨hF, hS, hm⟩
  unfold rf_Attacks_J1 at hm
  refine seq_cut (fun a w => Fr 125 [pl 0 (.slice A1 places1.length c1), pl 1 (vi from1), pl 2 (vi to1), pl 7 (vi (w64 ((Int.tmod to1 8) - (Int.tmod from1 8)))), pl 8 (vi (w64 ((w64 (Int.tdiv to1 8)) - (w64 (Int.tdiv from1 8))))), pl 9 (vi (geti places1 from1))] a ∧ Sep w0 B w (fs) ∧ ((rf_Attacks_J2 places1 from1 to1)).bind some = some r) ?_ ?_
  ·rintro a w ⟨hF, hS, hm⟩
   unfold rf_Attacks_J2 at hm
   obtain ⟨r6, hr6, hm⟩ := call_b hm
   obtain ⟨r7, hr7, hm⟩ := call_b hm
   refine rg [⟨false, [], callFunc 81 #[vi (w64 ((Int.tmod to1 8) - (Int.tmod from1 8)))], vi r6⟩, ⟨false, [], callFunc 81 #[vi (w64 ((w64 (Int.tdiv to1 8)) - (w64 (Int.tdiv from1 8))))], vi r7⟩] [none, some (vi r6), none, some (vi r7), none, none, none, none, none, none, none, none, none] [0, 1, 2, 7, 8, 9, 10, 11] [pl 0 (.slice A1 places1.length c1), pl 1 (vi from1), pl 2 (vi to1), pl 7 (vi (w64 ((Int.tmod to1 8) - (Int.tmod from1 8)))), pl 8 (vi (w64 ((w64 (Int.tdiv to1 8)) - (w64 (Int.tdiv from1 8))))), pl 9 (vi (geti places1 from1)), pl 10 (.bool (r6 == r7)), pl 11 (.bool (((w64 ((Int.tmod to1 8) - (Int.tmod from1 8))) == 0) || ((w64 ((w64 (Int.tdiv to1 8)) - (w64 (Int.tdiv from1 8)))) == 0)))] hF hS ?_ (fun a w hF hS => ?_)
   ·exact obs_cons (ob_call Try.func81 (by kernel_rfl) rfl (fun _ _ hS => rf_size_w hr6 hS )) <| obs_cons (ob_call Try.func81 (by kernel_rfl) rfl (fun _ _ hS => rf_size_w hr7 hS )) <| obs_nil
   refine seq_cut (fun a w => Fr 125 [pl 0 (.slice A1 places1.length c1), pl 1 (vi from1), pl 2 (vi to1), pl 7 (vi (w64 ((Int.tmod to1 8) - (Int.tmod from1 8)))), pl 8 (vi (w64 ((w64 (Int.tdiv to1 8)) - (w64 (Int.tdiv from1 8)))))] a ∧ Sep w0 B w (fs) ∧ ((rf_Attacks_J3 places1 from1 to1)).bind some = some r) ?_ ?_
   ·rintro a w ⟨hF, hS, hm⟩
    unfold rf_Attacks_J3 at hm
    refine seq_cut (fun a w => Fr 125 [] a ∧ Sep w0 B w (fs) ∧ (rf_Attacks_J4).bind some = some r) ?_ ?_
    ·rintro a w ⟨hF, hS, hm⟩
     unfold rf_Attacks_J4 at hm
     refine rg [] [] [6] [pl 6 (.bool true)] hF hS obs_nil (fun a w hF hS => ?_)
     refine wpIn_ret ?_
     have hm : some true = some r := hm
     obtain rfl := Option.some.inj hm
     exact retV (rs := [.tmp 6]) (vs := [.bool true]) hF rfl rv1 rfl ⟨rfl, hS⟩
    ·obtain ⟨r10, hr10, hm⟩ := call_b hm
     obtain ⟨r11, hr11, hm⟩ := call_b hm
     refine rg [⟨false, [], callFunc 106 #[vi (w64 ((Int.tmod to1 8) - (Int.tmod from1 8)))], vi r10⟩, ⟨false, [], callFunc 106 #[vi (w64 ((w64 (Int.tdiv to1 8)) - (w64 (Int.tdiv from1 8))))], vi r11⟩] [none, none, some (vi r10), none, none, some (vi r11), none, none, none] [0, 2, 7, 8, 12] [pl 0 (.slice A1 places1.length c1), pl 2 (vi to1), pl 7 (vi (w64 ((Int.tmod to1 8) - (Int.tmod from1 8)))), pl 8 (vi (w64 ((w64 (Int.tdiv to1 8)) - (w64 (Int.tdiv from1 8))))), pl 12 (vi (w64 ((w64 (from1 + r10)) + (w64 (8 * r11)))))] hF hS ?_ (fun a w hF hS => ?_)
     ·exact obs_cons (ob_call Try.func106 (by kernel_rfl) rfl (fun _ _ hS => rf_signOf_w hr10 hS )) <| obs_cons (ob_call Try.func106 (by kernel_rfl) rfl (fun _ _ hS => rf_signOf_w hr11 hS )) <| obs_nil
     refine wpIn_block ?_
     refine wp_loop_model (S := Int) (R := (Fl Unit Bool)) (rf_Attacks_L1 places1 from1 to1) (fun x => (rf_Attacks_K1 x).bind some) r (fun (x : Int) a w => Fr 125 [pl 0 (.slice A1 places1.length c1), pl 2 (vi to1), pl 7 (vi (w64 ((Int.tmod to1 8) - (Int.tmod from1 8)))), pl 8 (vi (w64 ((w64 (Int.tdiv to1 8)) - (w64 (Int.tdiv from1 8))))), pl 12 (vi x)] a ∧ Sep w0 B w (fs)) (assoc_b hm) ⟨hF.wk [0, 2, 7, 8, 12], hS⟩ ?_
     clear hF hS hm
     rintro nn1 k1 a w ⟨hF, hS⟩ hm
     generalize hφ1 : stK (rf_Attacks_L1 places1 from1 to1) nn1 (fun x => (rf_Attacks_K1 x).bind some) = φ1 at hm
     unfold rf_Attacks_L1 at hm
     dsimp only at hm
     refine seq_cut (fun a w => Fr 125 [pl 0 (.slice A1 places1.length c1), pl 2 (vi to1), pl 7 (vi (w64 ((Int.tmod to1 8) - (Int.tmod from1 8)))), pl 8 (vi (w64 ((w64 (Int.tdiv to1 8)) - (w64 (Int.tdiv from1 8))))), pl 12 (vi k1)] a ∧ Sep w0 B w (fs) ∧ ((rf_Attacks_J5 places1 from1 to1 k1)).bind φ1 = some r) ?_ ?_
     ·rintro a w ⟨hF, hS, hm⟩
      unfold rf_Attacks_J5 at hm
      refine seq_cut (fun a w => Fr 125 [pl 0 (.slice A1 places1.length c1), pl 2 (vi to1), pl 7 (vi (w64 ((Int.tmod to1 8) - (Int.tmod from1 8)))), pl 8 (vi (w64 ((w64 (Int.tdiv to1 8)) - (w64 (Int.tdiv from1 8))))), pl 12 (vi k1)] a ∧ Sep w0 B w (fs) ∧ ((rf_Attacks_J6 from1 to1 k1)).bind φ1 = some r) ?_ ?_
      ·rintro a w ⟨hF, hS, hm⟩
       unfold rf_Attacks_J6 at hm
       obtain ⟨r12, hr12, hm⟩ := call_b hm
       obtain ⟨r13, hr13, hm⟩ := call_b hm
       refine rg1 [⟨false, [], callFunc 106 #[vi (w64 ((Int.tmod to1 8) - (Int.tmod from1 8)))], vi r12⟩, ⟨false, [], callFunc 106 #[vi (w64 ((w64 (Int.tdiv to1 8)) - (w64 (Int.tdiv from1 8))))], vi r13⟩] [none, none, some (vi r12), none, some (vi r13), none, none, none, none] [0, 2, 7, 8, 12] [pl 0 (.slice A1 places1.length c1), pl 2 (vi to1), pl 7 (vi (w64 ((Int.tmod to1 8) - (Int.tmod from1 8)))), pl 8 (vi (w64 ((w64 (Int.tdiv to1 8)) - (w64 (Int.tdiv from1 8))))), pl 12 (vi (w64 (k1 + (w64 (r12 + (w64 (8 * r13)))))))] hF hS ?_ (fun a w hF hS => ?_)
       ·exact obs_cons (ob_call Try.func106 (by kernel_rfl) rfl (fun _ _ hS => rf_signOf_w hr12 hS )) <| obs_cons (ob_call Try.func106 (by kernel_rfl) rfl (fun _ _ hS => rf_signOf_w hr13 hS )) <| obs_nil
       refine then_n ?_
       rw [← hφ1] at hm
       exact ⟨(w64 (k1 + (w64 (r12 + (w64 (8 * r13)))))), ⟨hF.wk [0, 2, 7, 8, 12], hS⟩, hm⟩
      ·refine wpIn_block ?_
       obtain ⟨hp2, hm⟩ := asrt_b hm
       refine rg [⟨true, [], vS (Instr.indexAt 22 (.slice A1 places1.length c1) (vi k1)), .pointer (some (sAddr A1 k1))⟩, ⟨false, [], vS (Instr.loadAt 3 (.pointer (some (sAddr A1 k1)))), vi (geti places1 k1)⟩] [none, none, some (.pointer (some (sAddr A1 k1))), some (vi (geti places1 k1)), none] [0, 2, 7, 8, 12, 124] [pl 0 (.slice A1 places1.length c1), pl 2 (vi to1), pl 7 (vi (w64 ((Int.tmod to1 8) - (Int.tmod from1 8)))), pl 8 (vi (w64 ((w64 (Int.tdiv to1 8)) - (w64 (Int.tdiv from1 8))))), pl 12 (vi k1), pl 124 (.bool ((geti places1 k1) != 0))] hF hS ?_ (fun a w hF hS => ?_)
       ·exact obs_cons (ob_ix1 (f := (Value.int .i64)) (m := places1) Und22 hi3 hs3 (hr_places1 _ (hS.dropN 0)) rfl (fun _ => hp2)) <| obs_cons (ob_get1 (n := places1.length) (m := places1) (Value.int .i64) (0 : Int) Agg3 (fun _ hS => ⟨_, (hr_places1 _ (hS.dropN 0))⟩) (fun _ hS => rfl) (fun _ => hp2)) <| obs_nil
       refine ce (t := 124) (b := ((geti places1 k1) != 0)) hF (fun hb => ?_) (fun hb => ?_)
       ·replace hm := if_t hm hb
        refine rg [] [] [6] [pl 6 (.bool false)] hF hS obs_nil (fun a w hF hS => ?_)
        refine wpIn_ret ?_
        refine block_r (then_r (then_r (block_r (then_r ?_))))
        rw [← hφ1] at hm
        replace hm := done_b hm
        unfold rf_Attacks_K1 at hm
        try dsimp only at hm
        have hm : some false = some r := hm
        obtain rfl := Option.some.inj hm
        exact retV (rs := [.tmp 6]) (vs := [.bool false]) hF rfl rv1 rfl ⟨rfl, hS⟩
       ·replace hm := if_f hm hb
        refine wpIn_skip ?_
        refine block_n ?_
        refine then_n ?_
        exact ⟨hF.wk [0, 2, 7, 8, 12], hS, hm⟩
     ·refine rg [] [] [0, 2, 7, 8, 12, 111] [pl 0 (.slice A1 places1.length c1), pl 2 (vi to1), pl 7 (vi (w64 ((Int.tmod to1 8) - (Int.tmod from1 8)))), pl 8 (vi (w64 ((w64 (Int.tdiv to1 8)) - (w64 (Int.tdiv from1 8))))), pl 12 (vi k1), pl 111 (.bool (k1 != to1))] hF hS obs_nil (fun a w hF hS => ?_)
      refine ce (t := 111) (b := (k1 != to1)) hF (fun hb => ?_) (fun hb => ?_)
      ·replace hm := if_t hm hb
       refine wpIn_skip ?_
       refine then_n ?_
       exact ⟨hF.wk [0, 2, 7, 8, 12], hS, hm⟩
      ·replace hm := if_f hm hb
       refine wpIn_exit ?_
       refine then_e (then_e (block_e (then_n ?_)))
       rw [← hφ1] at hm
       replace hm := done_b hm
       unfold rf_Attacks_K1 at hm
       try dsimp only at hm
       have hm : (rf_Attacks_J4).bind some = some r := hm
       exact ⟨hF.wk [], hS, hm⟩
   ·obtain ⟨r8, hr8, hm⟩ := call_b hm
    obtain ⟨r9, hr9, hm⟩ := call_b hm
    refine rg [⟨false, [(((geti places1 from1) == 0) || ((!(r6 == r7)) && (!(((w64 ((Int.tmod to1 8) - (Int.tmod from1 8))) == 0) || ((w64 ((w64 (Int.tdiv to1 8)) - (w64 (Int.tdiv from1 8)))) == 0)))), false)], callFunc 81 #[vi (geti places1 from1)], vi r8⟩, ⟨false, [((((geti places1 from1) == 0) || ((!(r6 == r7)) && (!(((w64 ((Int.tmod to1 8) - (Int.tmod from1 8))) == 0) || ((w64 ((w64 (Int.tdiv to1 8)) - (w64 (Int.tdiv from1 8)))) == 0))))) || ((r8 == 3) && (!(r6 == r7))), false)], callFunc 81 #[vi (geti places1 from1)], vi r9⟩] [none, none, none, none, none, none, none, none, none, none, none, none, some (vi r8), none, none, none, none, none, none, none, none, some (vi r9), none, none, none, none, none, none] [0, 1, 2, 7, 8, 100] [pl 0 (.slice A1 places1.length c1), pl 1 (vi from1), pl 2 (vi to1), pl 7 (vi (w64 ((Int.tmod to1 8) - (Int.tmod from1 8)))), pl 8 (vi (w64 ((w64 (Int.tdiv to1 8)) - (w64 (Int.tdiv from1 8))))), pl 100 (.bool (((((geti places1 from1) == 0) || ((!(r6 == r7)) && (!(((w64 ((Int.tmod to1 8) - (Int.tmod from1 8))) == 0) || ((w64 ((w64 (Int.tdiv to1 8)) - (w64 (Int.tdiv from1 8)))) == 0))))) || ((r8 == 3) && (!(r6 == r7)))) || ((r9 == 4) && (!(((w64 ((Int.tmod to1 8) - (Int.tmod from1 8))) == 0) || ((w64 ((w64 (Int.tdiv to1 8)) - (w64 (Int.tdiv from1 8)))) == 0))))))] hF hS ?_ (fun a w hF hS => ?_)
    ·exact obs_cons (ob_call Try.func81 (by kernel_rfl) rfl (fun hy _ hS => rf_size_w (ite_some hr8 (by rw [show (((geti places1 from1) == 0) || ((!(r6 == r7)) && (!(((w64 ((Int.tmod to1 8) - (Int.tmod from1 8))) == 0) || ((w64 ((w64 (Int.tdiv to1 8)) - (w64 (Int.tdiv from1 8)))) == 0))))) = false from hy (((geti places1 from1) == 0) || ((!(r6 == r7)) && (!(((w64 ((Int.tmod to1 8) - (Int.tmod from1 8))) == 0) || ((w64 ((w64 (Int.tdiv to1 8)) - (w64 (Int.tdiv from1 8)))) == 0)))), false) (by simp)]; try rfl)) hS )) <| obs_cons (ob_call Try.func81 (by kernel_rfl) rfl (fun hy _ hS => rf_size_w (ite_some hr9 (by rw [show ((((geti places1 from1) == 0) || ((!(r6 == r7)) && (!(((w64 ((Int.tmod to1 8) - (Int.tmod from1 8))) == 0) || ((w64 ((w64 (Int.tdiv to1 8)) - (w64 (Int.tdiv from1 8)))) == 0))))) || ((r8 == 3) && (!(r6 == r7)))) = false from hy ((((geti places1 from1) == 0) || ((!(r6 == r7)) && (!(((w64 ((Int.tmod to1 8) - (Int.tmod from1 8))) == 0) || ((w64 ((w64 (Int.tdiv to1 8)) - (w64 (Int.tdiv from1 8)))) == 0))))) || ((r8 == 3) && (!(r6 == r7))), false) (by simp)]; try rfl)) hS )) <| obs_nil
    refine ce (t := 100) (b := ((((geti places1 from1) == 0) || ((!(r6 == r7)) && (!(((w64 ((Int.tmod to1 8) - (Int.tmod from1 8))) == 0) || ((w64 ((w64 (Int.tdiv to1 8)) - (w64 (Int.tdiv from1 8)))) == 0))))) || ((r8 == 3) && (!(r6 == r7)))) || ((r9 == 4) && (!(((w64 ((Int.tmod to1 8) - (Int.tmod from1 8))) == 0) || ((w64 ((w64 (Int.tdiv to1 8)) - (w64 (Int.tdiv from1 8)))) == 0))))) hF (fun hb => ?_) (fun hb => ?_)
    ·replace hm := if_t hm hb
     refine rg [] [] [6] [pl 6 (.bool false)] hF hS obs_nil (fun a w hF hS => ?_)
     refine wpIn_ret ?_
     refine then_r ?_
     have hm : some false = some r := hm
     obtain rfl := Option.some.inj hm
     exact retV (rs := [.tmp 6]) (vs := [.bool false]) hF rfl rv1 rfl ⟨rfl, hS⟩
    ·replace hm := if_f hm hb
     refine wpIn_skip ?_
     refine then_n ?_
     exact ⟨hF.wk [0, 1, 2, 7, 8], hS, hm⟩
  ·obtain ⟨r1, hr1, hm⟩ := call_b hm
   refine rg [⟨false, [], callFunc 81 #[vi (geti places1 from1)], vi r1⟩] [none, some (vi r1)] [0, 1, 2, 7, 8, 9, 34] [pl 0 (.slice A1 places1.length c1), pl 1 (vi from1), pl 2 (vi to1), pl 7 (vi (w64 ((Int.tmod to1 8) - (Int.tmod from1 8)))), pl 8 (vi (w64 ((w64 (Int.tdiv to1 8)) - (w64 (Int.tdiv from1 8))))), pl 9 (vi (geti places1 from1)), pl 34 (vi r1)] hF hS ?_ (fun a w hF hS => ?_)
   ·exact obs_cons (ob_call Try.func81 (by kernel_rfl) rfl (fun _ _ hS => rf_size_w hr1 hS )) <| obs_nil
   refine wpIn_block ?_
   refine rg [] [] [0, 1, 2, 7, 8, 9, 34, 35] [pl 0 (.slice A1 places1.length c1), pl 1 (vi from1), pl 2 (vi to1), pl 7 (vi (w64 ((Int.tmod to1 8) - (Int.tmod from1 8)))), pl 8 (vi (w64 ((w64 (Int.tdiv to1 8)) - (w64 (Int.tdiv from1 8))))), pl 9 (vi (geti places1 from1)), pl 34 (vi r1), pl 35 (.bool (r1 == 1))] hF hS obs_nil (fun a w hF hS => ?_)
   refine ce (t := 35) (b := (r1 == 1)) hF (fun hb => ?_) (fun hb => ?_)
   ·replace hm := if_t hm hb
    obtain ⟨r2, hr2, hm⟩ := call_b hm
    refine rg [⟨false, [], callFunc 81 #[vi (w64 ((Int.tmod to1 8) - (Int.tmod from1 8)))], vi r2⟩] [none, some (vi r2), none, none, none, none, none, none, none] [6] [pl 6 (.bool ((r2 == 1) && ((w64 ((w64 (Int.tdiv to1 8)) - (w64 (Int.tdiv from1 8)))) == (geti places1 from1))))] hF hS ?_ (fun a w hF hS => ?_)
    ·exact obs_cons (ob_call Try.func81 (by kernel_rfl) rfl (fun _ _ hS => rf_size_w hr2 hS )) <| obs_nil
    refine wpIn_ret ?_
    refine block_r (then_r ?_)
    have hm : some ((r2 == 1) && ((w64 ((w64 (Int.tdiv to1 8)) - (w64 (Int.tdiv from1 8)))) == (geti places1 from1))) = some r := hm
    obtain rfl := Option.some.inj hm
    exact retV (rs := [.tmp 6]) (vs := [.bool ((r2 == 1) && ((w64 ((w64 (Int.tdiv to1 8)) - (w64 (Int.tdiv from1 8)))) == (geti places1 from1)))]) hF rfl rv1 rfl ⟨rfl, hS⟩
   ·replace hm := if_f hm hb
    refine rg [] [] [0, 1, 2, 7, 8, 9, 34, 45] [pl 0 (.slice A1 places1.length c1), pl 1 (vi from1), pl 2 (vi to1), pl 7 (vi (w64 ((Int.tmod to1 8) - (Int.tmod from1 8)))), pl 8 (vi (w64 ((w64 (Int.tdiv to1 8)) - (w64 (Int.tdiv from1 8))))), pl 9 (vi (geti places1 from1)), pl 34 (vi r1), pl 45 (.bool (r1 == 2))] hF hS obs_nil (fun a w hF hS => ?_)
    refine ce (t := 45) (b := (r1 == 2)) hF (fun hb => ?_) (fun hb => ?_)
    ·replace hm := if_t hm hb
     obtain ⟨r3, hr3, hm⟩ := call_b hm
     refine rg [⟨false, [], callFunc 81 #[vi (w64 ((w64 ((Int.tmod to1 8) - (Int.tmod from1 8))) * (w64 ((w64 (Int.tdiv to1 8)) - (w64 (Int.tdiv from1 8))))))], vi r3⟩] [none, none, none, some (vi r3), none, none] [6] [pl 6 (.bool (r3 == 2))] hF hS ?_ (fun a w hF hS => ?_)
     ·exact obs_cons (ob_call Try.func81 (by kernel_rfl) rfl (fun _ _ hS => rf_size_w hr3 hS )) <| obs_nil
     refine wpIn_ret ?_
     refine block_r (then_r ?_)
     have hm : some (r3 == 2) = some r := hm
     obtain rfl := Option.some.inj hm
     exact retV (rs := [.tmp 6]) (vs := [.bool (r3 == 2)]) hF rfl rv1 rfl ⟨rfl, hS⟩
    ·replace hm := if_f hm hb
     refine rg [] [] [0, 1, 2, 7, 8, 9, 52] [pl 0 (.slice A1 places1.length c1), pl 1 (vi from1), pl 2 (vi to1), pl 7 (vi (w64 ((Int.tmod to1 8) - (Int.tmod from1 8)))), pl 8 (vi (w64 ((w64 (Int.tdiv to1 8)) - (w64 (Int.tdiv from1 8))))), pl 9 (vi (geti places1 from1)), pl 52 (.bool (r1 == 6))] hF hS obs_nil (fun a w hF hS => ?_)
     refine ce (t := 52) (b := (r1 == 6)) hF (fun hb => ?_) (fun hb => ?_)
     ·replace hm := if_t hm hb
      obtain ⟨r4, hr4, hm⟩ := call_b hm
      obtain ⟨r5, hr5, hm⟩ := call_b hm
      refine rg [⟨false, [], callFunc 81 #[vi (w64 ((Int.tmod to1 8) - (Int.tmod from1 8)))], vi r4⟩, ⟨false, [(decide (r4 ≤ 1), true)], callFunc 81 #[vi (w64 ((w64 (Int.tdiv to1 8)) - (w64 (Int.tdiv from1 8))))], vi r5⟩] [none, some (vi r4), none, none, none, some (vi r5), none, none, none] [6] [pl 6 (.bool ((decide (r4 ≤ 1)) && (decide (r5 ≤ 1))))] hF hS ?_ (fun a w hF hS => ?_)
      ·exact obs_cons (ob_call Try.func81 (by kernel_rfl) rfl (fun _ _ hS => rf_size_w hr4 hS )) <| obs_cons (ob_call Try.func81 (by kernel_rfl) rfl (fun hy _ hS => rf_size_w (ite_some hr5 (by rw [show (decide (r4 ≤ 1)) = true from hy (decide (r4 ≤ 1), true) (by simp)]; try rfl)) hS )) <| obs_nil
      refine wpIn_ret ?_
      refine block_r (then_r ?_)
      have hm : some ((decide (r4 ≤ 1)) && (decide (r5 ≤ 1))) = some r := hm
      obtain rfl := Option.some.inj hm
      exact retV (rs := [.tmp 6]) (vs := [.bool ((decide (r4 ≤ 1)) && (decide (r5 ≤ 1)))]) hF rfl rv1 rfl ⟨rfl, hS⟩
     ·replace hm := if_f hm hb
      refine wpIn_skip ?_
      refine block_n ?_
      refine then_n ?_
      exact ⟨hF.wk [0, 1, 2, 7, 8, 9], hS, hm⟩
 ·refine rg [] [] [0, 1, 2, 7, 8, 9, 32] [pl 0 (.slice A1 places1.length c1), pl 1 (vi from1), pl 2 (vi to1), pl 7 (vi (w64 ((Int.tmod to1 8) - (Int.tmod from1 8)))), pl 8 (vi (w64 ((w64 (Int.tdiv to1 8)) - (w64 (Int.tdiv from1 8))))), pl 9 (vi (geti places1 from1)), pl 32 (.bool (((w64 ((Int.tmod to1 8) - (Int.tmod from1 8))) == 0) && ((w64 ((w64 (Int.tdiv to1 8)) - (w64 (Int.tdiv from1 8)))) == 0)))] hF hS obs_nil (fun a w hF hS => ?_)
  refine ce (t := 32) (b := ((w64 ((Int.tmod to1 8) - (Int.tmod from1 8))) == 0) && ((w64 ((w64 (Int.tdiv to1 8)) - (w64 (Int.tdiv from1 8)))) == 0)) hF (fun hb => ?_) (fun hb => ?_)
  ·replace hm := if_t hm hb
   refine rg [] [] [6] [pl 6 (.bool false)] hF hS obs_nil (fun a w hF hS => ?_)
   refine wpIn_ret ?_
   refine then_r ?_
   have hm : some false = some r := hm
   obtain rfl := Option.some.inj hm
   exact retV (rs := [.tmp 6]) (vs := [.bool false]) hF rfl rv1 rfl ⟨rfl, hS⟩
  ·replace hm := if_f hm hb
   refine wpIn_skip ?_
   refine then_n ?_
   exact ⟨hF.wk [0, 1, 2, 7, 8, 9], hS, hm⟩

def rf_AttackersOf_J3  (i1 : Int) (l3 : List Int) : Option (St (List Int × Int) (List Int)) :=
 some (.next (l3, (w64 (i1 + 1))))

def rf_AttackersOf_J2  (places1 : List Int) (to1 by1 : Int) (l1 : List Int) (i1 : Int) : Option (St (List Int × Int) (List Int)) :=
 asrt (0 ≤ i1 ∧ i1 < (places1.length : Int)) <| (rf_pieceSide_m (geti places1 i1)).bind fun r1 => ((if (r1 == by1) then rf_Attacks_m places1 i1 to1 else some false)).bind fun r2 => if ((r1 == by1) && r2) then (asrt ((l1.length : Int) + 1 ≤ bigN) <| (rf_AttackersOf_J3 i1) (l1 ++ ([i1] : List Int))) else ((rf_AttackersOf_J3 i1) l1)

def rf_AttackersOf_J1  (l2 : List Int) : Option (List Int) :=
 some l2

def rf_AttackersOf_K1  : (List Int) → Option (List Int) :=
 fun (x : (List Int)) => match x with | l2 => rf_AttackersOf_J1 l2

def rf_AttackersOf_L1  (places1 : List Int) (to1 by1 : Int) : (List Int × Int) → Option (St (List Int × Int) (List Int)) :=
 fun (x : (List Int × Int)) => match x with | (l1, i1) => if (decide (i1 < 64)) then ((rf_AttackersOf_J2 places1 to1 by1 l1 i1)) else (some (.done l1))

def rf_AttackersOf_m  (places1 : List Int) (to1 by1 : Int) : Option (List Int) :=
 (loop (rf_AttackersOf_L1 places1 to1 by1) (([] : List Int), 0)).bind rf_AttackersOf_K1

theorem rf_AttackersOf_w  {A1 : Option Addr} {c1 n1 : Nat} {places1 : List Int} {to1 by1 : Int} {r : (List Int)} {w0 w : World} {B : Nat} {fs : List HP} (hm : rf_AttackersOf_m places1 to1 by1 = some r) (hS : Sep w0 B w (fs)) (hr_places1 : RdF w0 B fs A1 (vI places1)) (_hc_places1 : places1.length ≤ c1) (_hn_places1 : n1 = places1.length) :
  Calls Try.prog 116 #[.slice A1 n1 c1, vi to1, vi by1] w fun e w' => ∃ v, e = .returned v ∧ ∃ (A6 : Option Addr) (c6 : Nat), v = .slice A6 r.length c6 ∧ Sep w0 B w' (own 3 (.slice A6 r.length c6) (vI r) :: fs) := by
 obtain ⟨i3, hi3, hz3, hs3, hb3⟩ := info_parts Info3
 obtain rfl := _hn_places1
 unfold rf_AttackersOf_m at hm
 replace hm := start_b hm
 refine enter (l := [.slice A1 places1.length c1, vi to1, vi by1]) (n := 31) Try.func116 rfl rfl (by simp) (fun a hF => ?_)
 refine rg [] [] [0, 1, 2] [pl 0 (.slice A1 places1.length c1), pl 1 (vi to1), pl 2 (vi by1)] hF hS obs_nil (fun a w hF hS => ?_)
 refine rg [] [] [0, 1, 2, 7] [pl 0 (.slice A1 places1.length c1), pl 1 (vi to1), pl 2 (vi by1), pl 7 (.slice none 0 0)] hF hS obs_nil (fun a w hF hS => ?_)
 refine seq_cut (fun a w => ∃ (l2 : List Int) (A3 : Option Addr) (c3 : Nat), Fr 31 [pl 7 (.slice A3 l2.length c3)] a ∧ Sep w0 B w (own 3 (.slice A3 l2.length c3) (vI l2) :: fs) ∧ (rf_AttackersOf_J1 l2).bind some = some r) ?_ ?_
 ·rintro a w ⟨l2, A3, c3, hF, hS, hm⟩
  unfold rf_AttackersOf_J1 at hm
  refine rg [] [] [6] [pl 6 (.slice A3 l2.length c3)] hF hS obs_nil (fun a w hF hS => ?_)
  refine wpIn_ret ?_
  have hm : some l2 = some r := hm
  obtain rfl := Option.some.inj hm
  exact retV (rs := [.tmp 6]) (vs := [.slice A3 l2.length c3]) hF rfl rv1 rfl ⟨_, rfl, A3, c3, rfl, hS⟩
 ·refine rg [] [] [0, 1, 2, 7, 8] [pl 0 (.slice A1 places1.length c1), pl 1 (vi to1), pl 2 (vi by1), pl 7 (.slice none 0 0), pl 8 (vi 0)] hF hS obs_nil (fun a w hF hS => ?_)
  refine wpIn_block ?_
  have hS : Sep w0 B w (own 3 (.slice none 0 0) (vI ([] : List Int)) :: fs) := hS.nil 3
  have hl1 := (hS.at_ 0 rfl).len1
  have hS := (hS.at_ 0 rfl).reN hl1
  have hS : Sep w0 B w (own 3 (.slice none (([] : List Int).length) 0) (vI ([] : List Int)) :: fs) := hS
  have hF := hF.cast (t := 7) (v := .slice none 0 0) (v' := .slice none (([] : List Int).length) 0) rfl rfl (congrArg (fun k => Value.slice none k 0) hl1)
  refine wp_loop_model (S := (List Int × Int)) (R := (List Int)) (rf_AttackersOf_L1 places1 to1 by1) (fun x => (rf_AttackersOf_K1 x).bind some) r (fun (x : (List Int × Int)) a w => ∃ (A2 : Option Addr) (c2 : Nat), Fr 31 [pl 0 (.slice A1 places1.length c1), pl 1 (vi to1), pl 2 (vi by1), pl 7 (.slice A2 x.1.length c2), pl 8 (vi x.2)] a ∧ Sep w0 B w (own 3 (.slice A2 x.1.length c2) (vI x.1) :: fs)) (assoc_b hm) ⟨none, 0, hF.wk [0, 1, 2, 7, 8], hS⟩ ?_
  clear hF hS hm
  rintro nn1 ⟨l1, i1⟩ a w ⟨A2, c2, hF, hS⟩ hm
  generalize hφ1 : stK (rf_AttackersOf_L1 places1 to1 by1) nn1 (fun x => (rf_AttackersOf_K1 x).bind some) = φ1 at hm
  unfold rf_AttackersOf_L1 at hm
  dsimp only at hF hS hm
  refine seq_cut (fun a w => Fr 31 [pl 0 (.slice A1 places1.length c1), pl 1 (vi to1), pl 2 (vi by1), pl 7 (.slice A2 l1.length c2), pl 8 (vi i1)] a ∧ Sep w0 B w (own 3 (.slice A2 l1.length c2) (vI l1) :: fs) ∧ ((rf_AttackersOf_J2 places1 to1 by1 l1 i1)).bind φ1 = some r) ?_ ?_
  ·rintro a w ⟨hF, hS, hm⟩
   unfold rf_AttackersOf_J2 at hm
   refine seq_cut (fun a w => ∃ (l3 : List Int) (A5 : Option Addr) (c5 : Nat), Fr 31 [pl 0 (.slice A1 places1.length c1), pl 1 (vi to1), pl 2 (vi by1), pl 7 (.slice A5 l3.length c5), pl 8 (vi i1)] a ∧ Sep w0 B w (own 3 (.slice A5 l3.length c5) (vI l3) :: fs) ∧ ((rf_AttackersOf_J3 i1) l3).bind φ1 = some r) ?_ ?_
   ·rintro a w ⟨l3, A5, c5, hF, hS, hm⟩
    unfold rf_AttackersOf_J3 at hm
    refine rg1 [] [] [0, 1, 2, 7, 8] [pl 0 (.slice A1 places1.length c1), pl 1 (vi to1), pl 2 (vi by1), pl 7 (.slice A5 l3.length c5), pl 8 (vi (w64 (i1 + 1)))] hF hS obs_nil (fun a w hF hS => ?_)
    refine then_n ?_
    rw [← hφ1] at hm
    exact ⟨(l3, (w64 (i1 + 1))), ⟨A5, c5, hF.wk [0, 1, 2, 7, 8], hS⟩, hm⟩
   ·refine wpIn_block ?_
    obtain ⟨hp1, hm⟩ := asrt_b hm
    obtain ⟨r1, hr1, hm⟩ := call_b hm
    obtain ⟨r2, hr2, hm⟩ := call_b hm
    refine rg [⟨true, [], vS (Instr.indexAt 22 (.slice A1 places1.length c1) (vi i1)), .pointer (some (sAddr A1 i1))⟩, ⟨false, [], vS (Instr.loadAt 3 (.pointer (some (sAddr A1 i1)))), vi (geti places1 i1)⟩, ⟨false, [], callFunc 117 #[vi (geti places1 i1)], vi r1⟩, ⟨false, [((r1 == by1), true)], callFunc 148 #[.slice A1 places1.length c1, vi i1, vi to1], .bool r2⟩] [none, none, some (.pointer (some (sAddr A1 i1))), some (vi (geti places1 i1)), some (vi r1), none, none, none, none, none, none, some (.bool r2), none] [0, 1, 2, 7, 8, 25] [pl 0 (.slice A1 places1.length c1), pl 1 (vi to1), pl 2 (vi by1), pl 7 (.slice A2 l1.length c2), pl 8 (vi i1), pl 25 (.bool ((r1 == by1) && r2))] hF hS ?_ (fun a w hF hS => ?_)
    ·exact obs_cons (ob_ix1 (f := (Value.int .i64)) (m := places1) Und22 hi3 hs3 (hr_places1 _ (hS.dropN 1)) rfl (fun _ => hp1)) <| obs_cons (ob_get1 (n := places1.length) (m := places1) (Value.int .i64) (0 : Int) Agg3 (fun _ hS => ⟨_, (hr_places1 _ (hS.dropN 1))⟩) (fun _ hS => rfl) (fun _ => hp1)) <| obs_cons (ob_call Try.func117 (by kernel_rfl) rfl (fun _ _ hS => rf_pieceSide_w hr1 hS )) <| obs_cons (ob_call Try.func148 (by kernel_rfl) rfl (fun hy _ hS => rf_Attacks_w (ite_some hr2 (by rw [show (r1 == by1) = true from hy ((r1 == by1), true) (by simp)]; try rfl)) hS (fun _ hS => (hr_places1 _ (hS.dropN 1))) _hc_places1 rfl)) <| obs_nil
    refine ce (t := 25) (b := (r1 == by1) && r2) hF (fun hb => ?_) (fun hb => ?_)
    ·replace hm := if_t hm hb
     refine oneR ?_
     obtain ⟨hp2, hm⟩ := asrt_b hm
     refine ar 2 [] [] [0, 1, 2, 8, 26, 27] [pl 0 (.slice A1 places1.length c1), pl 1 (vi to1), pl 2 (vi by1), pl 8 (vi i1), pl 26 (.slice A2 l1.length c2), pl 27 (vi i1)] hF hS obs_nil (fun a w hF hS => ?_)
     refine at_do (d := 28) (s := vS (Instr.buildSlice 22 1 #[(0, vi i1)])) (v := .slice (some ⟨w.heap.size, 0, none⟩) 1 1) (w' := w.alloc (.cells #[vi i1] 3)) hF (by kernel_rfl) (by kernel_rfl) (by kernel_rfl) (fun a hF => ?_)
     have hS : Sep w0 B (w.alloc (.cells #[vi i1] 3)) (own 3 (.slice (some (⟨w.heap.size, 0, none⟩ : Addr)) 1 1) (vI ([i1] : List Int)) :: (own 3 (.slice A2 l1.length c2) (vI l1) :: fs)) := hS.lit 3 #[vi i1] 1 rfl (by omega)
     generalize (some (⟨w.heap.size, 0, none⟩ : Addr)) = g1 at hF hS
     generalize w.alloc (.cells #[vi i1] 3) = w at hS ⊢
     obtain ⟨A4, c4, w, hrun, hS⟩ := run_app1 (P := Try.prog) (t := 22) (m := l1) (ys := ([i1] : List Int)) (A2 := g1) (m2 := 1) (c2 := 1) (Value.int .i64) (0 : Int) (hS.at_ 1 rfl) (hS.at_ 0 rfl).rd ((hS.at_ 0 rfl).len1) 22 Und22 hi3 hz3 hs3 (by omega) rfl (fun _ => rfl) hp2
     have hS : Sep w0 B w (own 3 (.slice g1 1 1) (vI ([i1] : List Int)) :: own 3 (.slice A4 ((l1 ++ ([i1] : List Int)).length) c4) (vI (l1 ++ ([i1] : List Int))) :: fs) := hS
     refine ad (d := 29) hF hrun (fun a hF => ?_)
     refine ar 1 [] [] [0, 1, 2, 7, 8] [pl 0 (.slice A1 places1.length c1), pl 1 (vi to1), pl 2 (vi by1), pl 7 (.slice A4 ((l1 ++ ([i1] : List Int)).length) c4), pl 8 (vi i1)] hF hS obs_nil (fun a w hF hS => ?_)
     refine ae [0, 1, 2, 7, 8] [pl 0 (.slice A1 places1.length c1), pl 1 (vi to1), pl 2 (vi by1), pl 7 (.slice A4 ((l1 ++ ([i1] : List Int)).length) c4), pl 8 (vi i1)] hF rfl (fun hF => ?_)
     refine block_n ?_
     refine then_n ?_
     have hS := hS.pickN 2 [1] (by decide)
     exact ⟨(l1 ++ ([i1] : List Int)), A4, c4, hF.wk [0, 1, 2, 7, 8], hS, hm⟩
    ·replace hm := if_f hm hb
     refine wpIn_skip ?_
     refine block_n ?_
     refine then_n ?_
     exact ⟨l1, A2, c2, hF.wk [0, 1, 2, 7, 8], hS, hm⟩
  ·refine rg [] [] [0, 1, 2, 7, 8, 10] [pl 0 (.slice A1 places1.length c1), pl 1 (vi to1), pl 2 (vi by1), pl 7 (.slice A2 l1.length c2), pl 8 (vi i1), pl 10 (.bool (decide (i1 < 64)))] hF hS obs_nil (fun a w hF hS => ?_)
   refine ce (t := 10) (b := decide (i1 < 64)) hF (fun hb => ?_) (fun hb => ?_)
   ·replace hm := if_t hm hb
    refine wpIn_skip ?_
    refine then_n ?_
    exact ⟨hF.wk [0, 1, 2, 7, 8], hS, hm⟩
   ·replace hm := if_f hm hb
    refine wpIn_exit ?_
    refine then_e (then_e (block_e (then_n ?_)))
    rw [← hφ1] at hm
    replace hm := done_b hm
    unfold rf_AttackersOf_K1 at hm
    try dsimp only at hm
    have hm : (rf_AttackersOf_J1 l1).bind some = some r := hm
    exact ⟨l1, A2, c2, hF.wk [7], hS, hm⟩

def rf_InCheck_J1  (places1 : List Int) (side1 king1 : Int) : Option Bool :=
 (rf_at_m places1 king1).bind fun r1 => (rf_AttackersOf_m places1 r1 (w64 (1 - side1))).bind fun r2 => some (decide ((0 : Int) < (r2.length : Int)))

def rf_InCheck_m  (places1 : List Int) (side1 : Int) : Option Bool :=
 if (side1 == 1) then ((rf_InCheck_J1 places1 side1) (w64 (0 - 6))) else ((rf_InCheck_J1 places1 side1) 6)

theorem rf_InCheck_w  {A1 : Option Addr} {c1 n1 : Nat} {places1 : List Int} {side1 : Int} {r : Bool} {w0 w : World} {B : Nat} {fs : List HP} (hm : rf_InCheck_m places1 side1 = some r) (hS : Sep w0 B w (fs)) (hr_places1 : RdF w0 B fs A1 (vI places1)) (_hc_places1 : places1.length ≤ c1) (_hn_places1 : n1 = places1.length) :
  Calls Try.prog 82 #[.slice A1 n1 c1, vi side1] w fun e w' => e = .returned (.bool r) ∧ Sep w0 B w' (fs) := by
 obtain ⟨i3, hi3, hz3, hs3, hb3⟩ := info_parts Info3
 obtain rfl := _hn_places1
 unfold rf_InCheck_m at hm
 replace hm := start_b hm
 refine enter (l := [.slice A1 places1.length c1, vi side1]) (n := 19) Try.func82 rfl rfl (by simp) (fun a hF => ?_)
 refine rg [] [] [0, 1] [pl 0 (.slice A1 places1.length c1), pl 1 (vi side1)] hF hS obs_nil (fun a w hF hS => ?_)
 refine rg [] [] [0, 1, 5] [pl 0 (.slice A1 places1.length c1), pl 1 (vi side1), pl 5 (vi 6)] hF hS obs_nil (fun a w hF hS => ?_)
 refine seq_cut (fun a w => ∃ (king1 : Int), Fr 19 [pl 0 (.slice A1 places1.length c1), pl 1 (vi side1), pl 5 (vi king1)] a ∧ Sep w0 B w (fs) ∧ ((rf_InCheck_J1 places1 side1) king1).bind some = some r) ?_ ?_
 ·rintro a w ⟨king1, hF, hS, hm⟩
  unfold rf_InCheck_J1 at hm
  refine seqR ?_
  obtain ⟨r1, hr1, hm⟩ := call_b hm
  obtain ⟨r2, hr2, hm⟩ := call_b hm
  refine ar 6 [⟨false, [], callFunc 65 #[.slice A1 places1.length c1, vi king1], vi r1⟩] [none, none, none, some (vi r1), none, none] [10, 13, 15] [pl 10 (.slice A1 places1.length c1), pl 13 (vi r1), pl 15 (vi (w64 (1 - side1)))] hF hS ?_ (fun a w hF hS => ?_)
  ·exact obs_cons (ob_call Try.func65 (by kernel_rfl) rfl (fun _ _ hS => rf_at_w hr1 hS (fun _ hS => (hr_places1 _ (hS.dropN 0))) _hc_places1 rfl)) <| obs_nil
  refine at_call (f := 116) (args := #[.slice A1 places1.length c1, vi r1, vi (w64 (1 - side1))]) (d := 16) hF (by kernel_rfl) (by kernel_rfl) Try.func116 (by kernel_rfl) rfl (rf_AttackersOf_w hr2 hS (fun _ hS => (hr_places1 _ (hS.dropN 0))) _hc_places1 rfl) (fun v a w hR hF => ?_)
  clear hS
  obtain ⟨A2, c2, rfl, hS⟩ := hR
  have hS : Sep w0 B w (own 3 (.slice A2 r2.length c2) (vI r2) :: fs) := hS
  refine ar 3 [] [] [4] [pl 4 (.bool (decide ((0 : Int) < (r2.length : Int))))] hF hS obs_nil (fun a w hF hS => ?_)
  refine ae [4] [pl 4 (.bool (decide ((0 : Int) < (r2.length : Int))))] hF rfl (fun hF => ?_)
  refine then_n (wpIn_ret ?_)
  have hS := hS.pickN 1 [] (by decide)
  have hm : some (decide ((0 : Int) < (r2.length : Int))) = some r := hm
  obtain rfl := Option.some.inj hm
  exact retV (rs := [.tmp 4]) (vs := [.bool (decide ((0 : Int) < (r2.length : Int)))]) hF rfl rv1 rfl ⟨rfl, hS⟩
 ·refine rg [] [] [0, 1, 5, 7] [pl 0 (.slice A1 places1.length c1), pl 1 (vi side1), pl 5 (vi 6), pl 7 (.bool (side1 == 1))] hF hS obs_nil (fun a w hF hS => ?_)
  refine ce (t := 7) (b := (side1 == 1)) hF (fun hb => ?_) (fun hb => ?_)
  ·replace hm := if_t hm hb
   refine rg1 [] [] [0, 1, 5] [pl 0 (.slice A1 places1.length c1), pl 1 (vi side1), pl 5 (vi (w64 (0 - 6)))] hF hS obs_nil (fun a w hF hS => ?_)
   refine then_n ?_
   exact ⟨(w64 (0 - 6)), hF.wk [0, 1, 5], hS, hm⟩
  ·replace hm := if_f hm hb
   refine wpIn_skip ?_
   refine then_n ?_
   exact ⟨6, hF.wk [0, 1, 5], hS, hm⟩

def rf_ChessMay_J4  (i1 white4 black3 : Int) : Option (St MvT (Fl (Int × Int) Bool)) :=
 some (.next (white4, black3, (w64 (i1 + 1))))

def rf_ChessMay_J6  (p1 : List Int) (black1 i1 white3 : Int) : Option (St MvT (Fl (Int × Int) Bool)) :=
 if ((geti p1 i1) == (-6)) then ((rf_ChessMay_J4 i1) white3 (w64 (black1 + 1))) else ((rf_ChessMay_J4 i1) white3 black1)

def rf_ChessMay_J5  (p1 : List Int) (white1 black1 i1 : Int) : Option (St MvT (Fl (Int × Int) Bool)) :=
 if ((geti p1 i1) == 6) then ((rf_ChessMay_J6 p1 black1 i1) (w64 (white1 + 1))) else ((rf_ChessMay_J6 p1 black1 i1) white1)

def rf_ChessMay_J3  (p1 : List Int) (white1 black1 i1 : Int) : Option (St MvT (Fl (Int × Int) Bool)) :=
 asrt (0 ≤ i1 ∧ i1 < (p1.length : Int)) <| (rf_within_m (geti p1 i1) (-6) 6).bind fun r5 => ((if (!(!r5)) then rf_size_m (geti p1 i1) else some 0)).bind fun r6 => if ((!r5) || ((r6 == 1) && ((decide (i1 < 8)) || (decide ((55 : Int) < i1))))) then (some (.done (.ret false))) else ((rf_ChessMay_J5 p1 white1 black1 i1))

def rf_ChessMay_J10  (n2 : Int) : Option (St Int (Fl Unit Bool)) :=
 some (.next (w64 (n2 + 1)))

def rf_ChessMay_J11  (p1 : List Int) (p3 n2 c2 : Int) : Option (St Int (Fl Unit Bool)) :=
 asrt ((0 : Int) ≤ n2) <| asrt (((bAnd (shrK .i64 p3 n2) 1) == 1) = true → 0 ≤ n2 ∧ n2 < 4) <| asrt (((bAnd (shrK .i64 p3 n2) 1) == 1) = true → 0 ≤ (geti ([4, 4, 60, 60] : List Int) n2) ∧ (geti ([4, 4, 60, 60] : List Int) n2) < (p1.length : Int)) <| asrt (((geti p1 (geti ([4, 4, 60, 60] : List Int) n2)) != (w64 (c2 * 6))) = false → ((bAnd (shrK .i64 p3 n2) 1) == 1) = true → 0 ≤ n2 ∧ n2 < 4) <| asrt (((geti p1 (geti ([4, 4, 60, 60] : List Int) n2)) != (w64 (c2 * 6))) = false → ((bAnd (shrK .i64 p3 n2) 1) == 1) = true → 0 ≤ (geti ([7, 0, 63, 56] : List Int) n2) ∧ (geti ([7, 0, 63, 56] : List Int) n2) < (p1.length : Int)) <| if (((bAnd (shrK .i64 p3 n2) 1) == 1) && (((geti p1 (geti ([4, 4, 60, 60] : List Int) n2)) != (w64 (c2 * 6))) || ((geti p1 (geti ([7, 0, 63, 56] : List Int) n2)) != (w64 (c2 * 4))))) then (some (.done (.ret false))) else ((rf_ChessMay_J10 n2))

def rf_ChessMay_J9  (p1 : List Int) (p3 n2 : Int) : Option (St Int (Fl Unit Bool)) :=
 if (decide ((2 : Int) ≤ n2)) then ((rf_ChessMay_J11 p1 p3 n2) (-1)) else ((rf_ChessMay_J11 p1 p3 n2) 1)

def rf_ChessMay_L2  (p1 : List Int) (p3 : Int) : Int → Option (St Int (Fl Unit Bool)) :=
 fun (x : Int) => match x with | n2 => if (decide (n2 < 4)) then ((rf_ChessMay_J9 p1 p3 n2)) else (some (.done (.go ())))

def rf_ChessMay_J13  (p1 : List Int) (p4 : Int) : Option Bool :=
 (rf_within_m p4 16 23).bind fun r9 => asrt (r9 = true → 0 ≤ p4 ∧ p4 < (p1.length : Int)) <| asrt ((r9 && ((geti p1 p4) == 0)) = true → 0 ≤ (w64 (p4 + 8)) ∧ (w64 (p4 + 8)) < (p1.length : Int)) <| asrt (((r9 && ((geti p1 p4) == 0)) && ((geti p1 (w64 (p4 + 8))) == 1)) = true → 0 ≤ (w64 (p4 - 8)) ∧ (w64 (p4 - 8)) < (p1.length : Int)) <| some (((r9 && ((geti p1 p4) == 0)) && ((geti p1 (w64 (p4 + 8))) == 1)) && ((geti p1 (w64 (p4 - 8))) == 0))

def rf_ChessMay_J12  (p1 : List Int) (p2 p4 : Int) : Option Bool :=
 if (p2 == 0) then ((rf_within_m p4 40 47).bind fun r8 => asrt (r8 = true → 0 ≤ p4 ∧ p4 < (p1.length : Int)) <| asrt ((r8 && ((geti p1 p4) == 0)) = true → 0 ≤ (w64 (p4 - 8)) ∧ (w64 (p4 - 8)) < (p1.length : Int)) <| asrt (((r8 && ((geti p1 p4) == 0)) && ((geti p1 (w64 (p4 - 8))) == (-1))) = true → 0 ≤ (w64 (p4 + 8)) ∧ (w64 (p4 + 8)) < (p1.length : Int)) <| some (((r8 && ((geti p1 p4) == 0)) && ((geti p1 (w64 (p4 - 8))) == (-1))) && ((geti p1 (w64 (p4 + 8))) == 0))) else ((rf_ChessMay_J13 p1 p4))

def rf_ChessMay_J8  (p1 : List Int) (p2 p4 : Int) : Option Bool :=
 if (p4 == (-1)) then (some true) else ((rf_ChessMay_J12 p1 p2 p4))

def rf_ChessMay_K2  (p1 : List Int) (p2 p4 : Int) : (Fl Unit Bool) → Option Bool :=
 fun (x : (Fl Unit Bool)) => match x with | .go _ => (rf_ChessMay_J8 p1 p2 p4) | .ret x => some x

def rf_ChessMay_J7  (p1 : List Int) (p2 p3 p4 : Int) : Option Bool :=
 (loop (rf_ChessMay_L2 p1 p3) 0).bind (rf_ChessMay_K2 p1 p2 p4)

def rf_ChessMay_J2  (p1 : List Int) (p2 p3 : Int) (p4 white2 black2 : Int) : Option Bool :=
 ((if (!((white2 != 1) || (black2 != 1))) then rf_InCheck_m p1 (w64 (1 - p2)) else some false)).bind fun r7 => if (((white2 != 1) || (black2 != 1)) || r7) then (some false) else ((rf_ChessMay_J7 p1 p2 p3 p4))

def rf_ChessMay_K1  (p1 : List Int) (p2 p3 p4 : Int) : (Fl (Int × Int) Bool) → Option Bool :=
 fun (x : (Fl (Int × Int) Bool)) => match x with | .go (white2, black2) => (rf_ChessMay_J2 p1 p2 p3 p4) white2 black2 | .ret x => some x

def rf_ChessMay_L1  (p1 : List Int) : MvT → Option (St MvT (Fl (Int × Int) Bool)) :=
 fun (x : MvT) => match x with | (white1, black1, i1) => if (decide (i1 < 64)) then ((rf_ChessMay_J3 p1 white1 black1 i1)) else (some (.done (.go (white1, black1))))

def rf_ChessMay_J1  (p1 : List Int) (p2 p3 p4 : Int) : Option Bool :=
 (loop (rf_ChessMay_L1 p1) (0, 0, 0)).bind (rf_ChessMay_K1 p1 p2 p3 p4)

def rf_ChessMay_m  (p1 : List Int) (p2 p3 : Int) (p4 p5 p6 : Int) : Option Bool :=
 ((if (!((p1.length : Int) != 64)) then rf_within_m p2 0 1 else some false)).bind fun r1 => ((if (!(((p1.length : Int) != 64) || (!r1))) then rf_within_m p3 0 15 else some false)).bind fun r2 => ((if (!((((p1.length : Int) != 64) || (!r1)) || (!r2))) then rf_within_m p5 0 999 else some false)).bind fun r3 => ((if (!(((((p1.length : Int) != 64) || (!r1)) || (!r2)) || (!r3))) then rf_within_m p6 1 999 else some false)).bind fun r4 => if ((((((p1.length : Int) != 64) || (!r1)) || (!r2)) || (!r3)) || (!r4)) then (some false) else ((rf_ChessMay_J1 p1 p2 p3 p4))

theorem rf_ChessMay_w  {A1 : Option Addr} {c1 n1 : Nat} {p1 : List Int} {p2 p3 : Int} {p4 p5 p6 : Int} {r : Bool} {w0 w : World} {B : Nat} {fs : List HP} (hm : rf_ChessMay_m p1 p2 p3 p4 p5 p6 = some r) (hS : Sep w0 B w (fs)) (hr_p1 : RdF w0 B fs A1 (vI p1)) (_hc_p1 : p1.length ≤ c1) (_hn_p1 : n1 = p1.length) :
  Calls Try.prog 31 #[.agg (ca A1 n1 c1 p2 p3 p4 p5 p6)] w fun e w' => e = .returned (.bool r) ∧ Sep w0 B w' (fs) := by
 obtain ⟨i3, hi3, hz3, hs3, hb3⟩ := info_parts Info3
 obtain rfl := _hn_p1
 unfold rf_ChessMay_m at hm
 replace hm := start_b hm
 refine enter (l := [.agg (ca A1 p1.length c1 p2 p3 p4 p5 p6)]) (n := 190) Try.func31 rfl rfl (by simp) (fun a hF => ?_)
 refine seqR ?_
 refine at_do (d := 1) (s := vS (Instr.box 65 (.agg (ca A1 p1.length c1 p2 p3 p4 p5 p6)))) (v := pa w.heap.size 0) (w' := w.alloc (.cells (ca A1 p1.length c1 p2 p3 p4 p5 p6) 65)) hF (by kernel_rfl) (by kernel_rfl) (by kernel_rfl) (fun a hF => ?_)
 have hS : Sep w0 B (w.alloc (.cells (ca A1 p1.length c1 p2 p3 p4 p5 p6) 65)) (blk w.heap.size 65 (ca A1 p1.length c1 p2 p3 p4 p5 p6) :: (fs)) := hS.box 65 (ca A1 p1.length c1 p2 p3 p4 p5 p6)
 generalize w.heap.size = g1 at hF hS
 generalize w.alloc (.cells (ca A1 p1.length c1 p2 p3 p4 p5 p6) 65) = w at hS ⊢
 refine ar 1 [] [] [1] [pl 1 (pa g1 0)] hF hS obs_nil (fun a w hF hS => ?_)
 refine ae [1] [pl 1 (pa g1 0)] hF rfl (fun hF => ?_)
 refine then_n ?_
 refine seq_cut (fun a w => Fr 190 [pl 1 (pa g1 0)] a ∧ Sep w0 B w (blk g1 65 (ca A1 p1.length c1 p2 p3 p4 p5 p6) :: fs) ∧ ((rf_ChessMay_J1 p1 p2 p3 p4)).bind some = some r) ?_ ?_
 ·rintro a w ⟨hF, hS, hm⟩
  unfold rf_ChessMay_J1 at hm
  refine rg [] [] [1, 3, 4] [pl 1 (pa g1 0), pl 3 (vi 0), pl 4 (vi 0)] hF hS obs_nil (fun a w hF hS => ?_)
  refine seq_cut (fun a w => ∃ (white2 black2 : Int), Fr 190 [pl 1 (pa g1 0), pl 3 (vi white2), pl 4 (vi black2)] a ∧ Sep w0 B w (blk g1 65 (ca A1 p1.length c1 p2 p3 p4 p5 p6) :: fs) ∧ ((rf_ChessMay_J2 p1 p2 p3 p4) white2 black2).bind some = some r) ?_ ?_
  ·rintro a w ⟨white2, black2, hF, hS, hm⟩
   unfold rf_ChessMay_J2 at hm
   refine seq_cut (fun a w => Fr 190 [pl 1 (pa g1 0)] a ∧ Sep w0 B w (blk g1 65 (ca A1 p1.length c1 p2 p3 p4 p5 p6) :: fs) ∧ ((rf_ChessMay_J7 p1 p2 p3 p4)).bind some = some r) ?_ ?_
   ·rintro a w ⟨hF, hS, hm⟩
    unfold rf_ChessMay_J7 at hm
    refine seqR ?_
    refine at_do (d := 87) (s := vS (Instr.buildSlice 22 4 #[(0, vi 4), (1, vi 4), (2, vi 60), (3, vi 60)])) (v := .slice (some ⟨w.heap.size, 0, none⟩) 4 4) (w' := w.alloc (.cells #[vi 4, vi 4, vi 60, vi 60] 3)) hF (by kernel_rfl) (by kernel_rfl) (by kernel_rfl) (fun a hF => ?_)
    have hS : Sep w0 B (w.alloc (.cells #[vi 4, vi 4, vi 60, vi 60] 3)) (own 3 (.slice (some (⟨w.heap.size, 0, none⟩ : Addr)) 4 4) (vI ([4, 4, 60, 60] : List Int)) :: (blk g1 65 (ca A1 p1.length c1 p2 p3 p4 p5 p6) :: fs)) := hS.lit 3 #[vi 4, vi 4, vi 60, vi 60] 4 rfl (by omega)
    generalize (some (⟨w.heap.size, 0, none⟩ : Addr)) = g2 at hF hS
    generalize w.alloc (.cells #[vi 4, vi 4, vi 60, vi 60] 3) = w at hS ⊢
    refine at_do (d := 88) (s := vS (Instr.buildSlice 22 4 #[(0, vi 7), (1, vi 0), (2, vi 63), (3, vi 56)])) (v := .slice (some ⟨w.heap.size, 0, none⟩) 4 4) (w' := w.alloc (.cells #[vi 7, vi 0, vi 63, vi 56] 3)) hF (by kernel_rfl) (by kernel_rfl) (by kernel_rfl) (fun a hF => ?_)
    have hS : Sep w0 B (w.alloc (.cells #[vi 7, vi 0, vi 63, vi 56] 3)) (own 3 (.slice (some (⟨w.heap.size, 0, none⟩ : Addr)) 4 4) (vI ([7, 0, 63, 56] : List Int)) :: (own 3 (.slice g2 4 4) (vI ([4, 4, 60, 60] : List Int)) :: blk g1 65 (ca A1 p1.length c1 p2 p3 p4 p5 p6) :: fs)) := hS.lit 3 #[vi 7, vi 0, vi 63, vi 56] 4 rfl (by omega)
    generalize (some (⟨w.heap.size, 0, none⟩ : Addr)) = g3 at hF hS
    generalize w.alloc (.cells #[vi 7, vi 0, vi 63, vi 56] 3) = w at hS ⊢
    refine ar 2 [] [] [1, 7, 8] [pl 1 (pa g1 0), pl 7 (.slice g2 4 4), pl 8 (.slice g3 4 4)] hF hS obs_nil (fun a w hF hS => ?_)
    refine ae [1, 7, 8] [pl 1 (pa g1 0), pl 7 (.slice g2 4 4), pl 8 (.slice g3 4 4)] hF rfl (fun hF => ?_)
    refine then_n ?_
    refine seq_cut (fun a w => Fr 190 [pl 1 (pa g1 0)] a ∧ Sep w0 B w (blk g1 65 (ca A1 p1.length c1 p2 p3 p4 p5 p6) :: fs) ∧ ((rf_ChessMay_J8 p1 p2 p4)).bind some = some r) ?_ ?_
    ·rintro a w ⟨hF, hS, hm⟩
     unfold rf_ChessMay_J8 at hm
     refine rg [⟨false, [], vS (Instr.loadAt 3 (pa g1 3)), vi p4⟩] [none, some (vi p4), none] [1, 11] [pl 1 (pa g1 0), pl 11 (vi p4)] hF hS ?_ (fun a w hF hS => ?_)
     ·exact obs_cons (ob_load Agg3 (fun _ _ hS => (hS.at_ 0 rfl).cell rfl)) <| obs_nil
     refine seq_cut (fun a w => Fr 190 [pl 1 (pa g1 0), pl 11 (vi p4)] a ∧ Sep w0 B w (blk g1 65 (ca A1 p1.length c1 p2 p3 p4 p5 p6) :: fs) ∧ ((rf_ChessMay_J12 p1 p2 p4)).bind some = some r) ?_ ?_
     ·rintro a w ⟨hF, hS, hm⟩
      unfold rf_ChessMay_J12 at hm
      refine seq_cut (fun a w => Fr 190 [pl 1 (pa g1 0), pl 11 (vi p4)] a ∧ Sep w0 B w (blk g1 65 (ca A1 p1.length c1 p2 p3 p4 p5 p6) :: fs) ∧ ((rf_ChessMay_J13 p1 p4)).bind some = some r) ?_ ?_
      ·rintro a w ⟨hF, hS, hm⟩
       unfold rf_ChessMay_J13 at hm
       obtain ⟨r9, hr9, hm⟩ := call_b hm
       obtain ⟨hp10, hm⟩ := asrt_b hm
       obtain ⟨hp11, hm⟩ := asrt_b hm
       obtain ⟨hp12, hm⟩ := asrt_b hm
       refine rg [⟨false, [], callFunc 62 #[vi p4, vi 16, vi 23], .bool r9⟩, ⟨false, [(r9, true)], vS (Instr.loadAt 22 (pa g1 0)), .slice A1 p1.length c1⟩, ⟨true, [(r9, true)], vS (Instr.indexAt 22 (.slice A1 p1.length c1) (vi p4)), .pointer (some (sAddr A1 p4))⟩, ⟨false, [(r9, true)], vS (Instr.loadAt 3 (.pointer (some (sAddr A1 p4)))), vi (geti p1 p4)⟩, ⟨false, [(r9 && ((geti p1 p4) == 0), true)], vS (Instr.loadAt 22 (pa g1 0)), .slice A1 p1.length c1⟩, ⟨true, [(r9 && ((geti p1 p4) == 0), true)], vS (Instr.indexAt 22 (.slice A1 p1.length c1) (vi (w64 (p4 + 8)))), .pointer (some (sAddr A1 (w64 (p4 + 8))))⟩, ⟨false, [(r9 && ((geti p1 p4) == 0), true)], vS (Instr.loadAt 3 (.pointer (some (sAddr A1 (w64 (p4 + 8)))))), vi (geti p1 (w64 (p4 + 8)))⟩, ⟨false, [((r9 && ((geti p1 p4) == 0)) && ((geti p1 (w64 (p4 + 8))) == 1), true)], vS (Instr.loadAt 22 (pa g1 0)), .slice A1 p1.length c1⟩, ⟨true, [((r9 && ((geti p1 p4) == 0)) && ((geti p1 (w64 (p4 + 8))) == 1), true)], vS (Instr.indexAt 22 (.slice A1 p1.length c1) (vi (w64 (p4 - 8)))), .pointer (some (sAddr A1 (w64 (p4 - 8))))⟩, ⟨false, [((r9 && ((geti p1 p4) == 0)) && ((geti p1 (w64 (p4 + 8))) == 1), true)], vS (Instr.loadAt 3 (.pointer (some (sAddr A1 (w64 (p4 - 8)))))), vi (geti p1 (w64 (p4 - 8)))⟩] [none, some (.bool r9), none, none, some (.slice A1 p1.length c1), none, some (.pointer (some (sAddr A1 p4))), some (vi (geti p1 p4)), none, none, none, none, some (.slice A1 p1.length c1), none, none, some (.pointer (some (sAddr A1 (w64 (p4 + 8))))), some (vi (geti p1 (w64 (p4 + 8)))), none, none, none, none, some (.slice A1 p1.length c1), none, none, some (.pointer (some (sAddr A1 (w64 (p4 - 8))))), some (vi (geti p1 (w64 (p4 - 8)))), none, none, none] [2] [pl 2 (.bool (((r9 && ((geti p1 p4) == 0)) && ((geti p1 (w64 (p4 + 8))) == 1)) && ((geti p1 (w64 (p4 - 8))) == 0)))] hF hS ?_ (fun a w hF hS => ?_)
       ·exact obs_cons (ob_call Try.func62 (by kernel_rfl) rfl (fun _ _ hS => rf_within_w hr9 hS )) <| obs_cons (ob_load Agg22 (fun _ _ hS => (hS.at_ 0 rfl).cell rfl)) <| obs_cons (ob_ix1 (f := (Value.int .i64)) (m := p1) Und22 hi3 hs3 (hr_p1 _ (hS.dropN 1)) rfl (fun hy => hp10 (hy (r9, true) (by simp)))) <| obs_cons (ob_get1 (n := p1.length) (m := p1) (Value.int .i64) (0 : Int) Agg3 (fun _ hS => ⟨_, (hr_p1 _ (hS.dropN 1))⟩) (fun _ hS => rfl) (fun hy => hp10 (hy (r9, true) (by simp)))) <| obs_cons (ob_load Agg22 (fun _ _ hS => (hS.at_ 0 rfl).cell rfl)) <| obs_cons (ob_ix1 (f := (Value.int .i64)) (m := p1) Und22 hi3 hs3 (hr_p1 _ (hS.dropN 1)) rfl (fun hy => hp11 (hy (r9 && ((geti p1 p4) == 0), true) (by simp)))) <| obs_cons (ob_get1 (n := p1.length) (m := p1) (Value.int .i64) (0 : Int) Agg3 (fun _ hS => ⟨_, (hr_p1 _ (hS.dropN 1))⟩) (fun _ hS => rfl) (fun hy => hp11 (hy (r9 && ((geti p1 p4) == 0), true) (by simp)))) <| obs_cons (ob_load Agg22 (fun _ _ hS => (hS.at_ 0 rfl).cell rfl)) <| obs_cons (ob_ix1 (f := (Value.int .i64)) (m := p1) Und22 hi3 hs3 (hr_p1 _ (hS.dropN 1)) rfl (fun hy => hp12 (hy ((r9 && ((geti p1 p4) == 0)) && ((geti p1 (w64 (p4 + 8))) == 1), true) (by simp)))) <| obs_cons (ob_get1 (n := p1.length) (m := p1) (Value.int .i64) (0 : Int) Agg3 (fun _ hS => ⟨_, (hr_p1 _ (hS.dropN 1))⟩) (fun _ hS => rfl) (fun hy => hp12 (hy ((r9 && ((geti p1 p4) == 0)) && ((geti p1 (w64 (p4 + 8))) == 1), true) (by simp)))) <| obs_nil
       refine wpIn_ret ?_
       have hS := hS.pickN 1 [] (by decide)
       have hm : some (((r9 && ((geti p1 p4) == 0)) && ((geti p1 (w64 (p4 + 8))) == 1)) && ((geti p1 (w64 (p4 - 8))) == 0)) = some r := hm
       obtain rfl := Option.some.inj hm
       exact retV (rs := [.tmp 2]) (vs := [.bool (((r9 && ((geti p1 p4) == 0)) && ((geti p1 (w64 (p4 + 8))) == 1)) && ((geti p1 (w64 (p4 - 8))) == 0))]) hF rfl rv1 rfl ⟨rfl, hS⟩
      ·refine rg [⟨false, [], vS (Instr.loadAt 3 (pa g1 1)), vi p2⟩] [none, some (vi p2), none] [1, 11, 133] [pl 1 (pa g1 0), pl 11 (vi p4), pl 133 (.bool (p2 == 0))] hF hS ?_ (fun a w hF hS => ?_)
       ·exact obs_cons (ob_load Agg3 (fun _ _ hS => (hS.at_ 0 rfl).cell rfl)) <| obs_nil
       refine ce (t := 133) (b := (p2 == 0)) hF (fun hb => ?_) (fun hb => ?_)
       ·replace hm := if_t hm hb
        obtain ⟨r8, hr8, hm⟩ := call_b hm
        obtain ⟨hp7, hm⟩ := asrt_b hm
        obtain ⟨hp8, hm⟩ := asrt_b hm
        obtain ⟨hp9, hm⟩ := asrt_b hm
        refine rg [⟨false, [], callFunc 62 #[vi p4, vi 40, vi 47], .bool r8⟩, ⟨false, [(r8, true)], vS (Instr.loadAt 22 (pa g1 0)), .slice A1 p1.length c1⟩, ⟨true, [(r8, true)], vS (Instr.indexAt 22 (.slice A1 p1.length c1) (vi p4)), .pointer (some (sAddr A1 p4))⟩, ⟨false, [(r8, true)], vS (Instr.loadAt 3 (.pointer (some (sAddr A1 p4)))), vi (geti p1 p4)⟩, ⟨false, [(r8 && ((geti p1 p4) == 0), true)], vS (Instr.loadAt 22 (pa g1 0)), .slice A1 p1.length c1⟩, ⟨true, [(r8 && ((geti p1 p4) == 0), true)], vS (Instr.indexAt 22 (.slice A1 p1.length c1) (vi (w64 (p4 - 8)))), .pointer (some (sAddr A1 (w64 (p4 - 8))))⟩, ⟨false, [(r8 && ((geti p1 p4) == 0), true)], vS (Instr.loadAt 3 (.pointer (some (sAddr A1 (w64 (p4 - 8)))))), vi (geti p1 (w64 (p4 - 8)))⟩, ⟨false, [((r8 && ((geti p1 p4) == 0)) && ((geti p1 (w64 (p4 - 8))) == (-1)), true)], vS (Instr.loadAt 22 (pa g1 0)), .slice A1 p1.length c1⟩, ⟨true, [((r8 && ((geti p1 p4) == 0)) && ((geti p1 (w64 (p4 - 8))) == (-1)), true)], vS (Instr.indexAt 22 (.slice A1 p1.length c1) (vi (w64 (p4 + 8)))), .pointer (some (sAddr A1 (w64 (p4 + 8))))⟩, ⟨false, [((r8 && ((geti p1 p4) == 0)) && ((geti p1 (w64 (p4 - 8))) == (-1)), true)], vS (Instr.loadAt 3 (.pointer (some (sAddr A1 (w64 (p4 + 8)))))), vi (geti p1 (w64 (p4 + 8)))⟩] [none, some (.bool r8), none, none, some (.slice A1 p1.length c1), none, some (.pointer (some (sAddr A1 p4))), some (vi (geti p1 p4)), none, none, none, none, some (.slice A1 p1.length c1), none, none, some (.pointer (some (sAddr A1 (w64 (p4 - 8))))), some (vi (geti p1 (w64 (p4 - 8)))), none, none, none, none, some (.slice A1 p1.length c1), none, none, some (.pointer (some (sAddr A1 (w64 (p4 + 8))))), some (vi (geti p1 (w64 (p4 + 8)))), none, none, none] [2] [pl 2 (.bool (((r8 && ((geti p1 p4) == 0)) && ((geti p1 (w64 (p4 - 8))) == (-1))) && ((geti p1 (w64 (p4 + 8))) == 0)))] hF hS ?_ (fun a w hF hS => ?_)
        ·exact obs_cons (ob_call Try.func62 (by kernel_rfl) rfl (fun _ _ hS => rf_within_w hr8 hS )) <| obs_cons (ob_load Agg22 (fun _ _ hS => (hS.at_ 0 rfl).cell rfl)) <| obs_cons (ob_ix1 (f := (Value.int .i64)) (m := p1) Und22 hi3 hs3 (hr_p1 _ (hS.dropN 1)) rfl (fun hy => hp7 (hy (r8, true) (by simp)))) <| obs_cons (ob_get1 (n := p1.length) (m := p1) (Value.int .i64) (0 : Int) Agg3 (fun _ hS => ⟨_, (hr_p1 _ (hS.dropN 1))⟩) (fun _ hS => rfl) (fun hy => hp7 (hy (r8, true) (by simp)))) <| obs_cons (ob_load Agg22 (fun _ _ hS => (hS.at_ 0 rfl).cell rfl)) <| obs_cons (ob_ix1 (f := (Value.int .i64)) (m := p1) Und22 hi3 hs3 (hr_p1 _ (hS.dropN 1)) rfl (fun hy => hp8 (hy (r8 && ((geti p1 p4) == 0), true) (by simp)))) <| obs_cons (ob_get1 (n := p1.length) (m := p1) (Value.int .i64) (0 : Int) Agg3 (fun _ hS => ⟨_, (hr_p1 _ (hS.dropN 1))⟩) (fun _ hS => rfl) (fun hy => hp8 (hy (r8 && ((geti p1 p4) == 0), true) (by simp)))) <| obs_cons (ob_load Agg22 (fun _ _ hS => (hS.at_ 0 rfl).cell rfl)) <| obs_cons (ob_ix1 (f := (Value.int .i64)) (m := p1) Und22 hi3 hs3 (hr_p1 _ (hS.dropN 1)) rfl (fun hy => hp9 (hy ((r8 && ((geti p1 p4) == 0)) && ((geti p1 (w64 (p4 - 8))) == (-1)), true) (by simp)))) <| obs_cons (ob_get1 (n := p1.length) (m := p1) (Value.int .i64) (0 : Int) Agg3 (fun _ hS => ⟨_, (hr_p1 _ (hS.dropN 1))⟩) (fun _ hS => rfl) (fun hy => hp9 (hy ((r8 && ((geti p1 p4) == 0)) && ((geti p1 (w64 (p4 - 8))) == (-1)), true) (by simp)))) <| obs_nil
        refine wpIn_ret ?_
        refine then_r ?_
        have hS := hS.pickN 1 [] (by decide)
        have hm : some (((r8 && ((geti p1 p4) == 0)) && ((geti p1 (w64 (p4 - 8))) == (-1))) && ((geti p1 (w64 (p4 + 8))) == 0)) = some r := hm
        obtain rfl := Option.some.inj hm
        exact retV (rs := [.tmp 2]) (vs := [.bool (((r8 && ((geti p1 p4) == 0)) && ((geti p1 (w64 (p4 - 8))) == (-1))) && ((geti p1 (w64 (p4 + 8))) == 0))]) hF rfl rv1 rfl ⟨rfl, hS⟩
       ·replace hm := if_f hm hb
        refine wpIn_skip ?_
        refine then_n ?_
        exact ⟨hF.wk [1, 11], hS, hm⟩
     ·refine rg [] [] [1, 11, 130] [pl 1 (pa g1 0), pl 11 (vi p4), pl 130 (.bool (p4 == (-1)))] hF hS obs_nil (fun a w hF hS => ?_)
      refine ce (t := 130) (b := (p4 == (-1))) hF (fun hb => ?_) (fun hb => ?_)
      ·replace hm := if_t hm hb
       refine rg [] [] [2] [pl 2 (.bool true)] hF hS obs_nil (fun a w hF hS => ?_)
       refine wpIn_ret ?_
       refine then_r ?_
       have hS := hS.pickN 1 [] (by decide)
       have hm : some true = some r := hm
       obtain rfl := Option.some.inj hm
       exact retV (rs := [.tmp 2]) (vs := [.bool true]) hF rfl rv1 rfl ⟨rfl, hS⟩
      ·replace hm := if_f hm hb
       refine wpIn_skip ?_
       refine then_n ?_
       exact ⟨hF.wk [1, 11], hS, hm⟩
    ·refine rg [] [] [1, 7, 8, 9] [pl 1 (pa g1 0), pl 7 (.slice g2 4 4), pl 8 (.slice g3 4 4), pl 9 (vi 0)] hF hS obs_nil (fun a w hF hS => ?_)
     refine wpIn_block ?_
     have hS := hS.pickN 3 [2, 1, 0] (by decide)
     refine wp_loop_model (S := Int) (R := (Fl Unit Bool)) (rf_ChessMay_L2 p1 p3) (fun x => ((rf_ChessMay_K2 p1 p2 p4) x).bind some) r (fun (x : Int) a w => Fr 190 [pl 1 (pa g1 0), pl 7 (.slice g2 4 4), pl 8 (.slice g3 4 4), pl 9 (vi x)] a ∧ Sep w0 B w (blk g1 65 (ca A1 p1.length c1 p2 p3 p4 p5 p6) :: own 3 (.slice g2 4 4) (vI ([4, 4, 60, 60] : List Int)) :: own 3 (.slice g3 4 4) (vI ([7, 0, 63, 56] : List Int)) :: fs)) (assoc_b hm) ⟨hF.wk [1, 7, 8, 9], hS⟩ ?_
     clear hF hS hm
     rintro nn2 n2 a w ⟨hF, hS⟩ hm
     generalize hφ2 : stK (rf_ChessMay_L2 p1 p3) nn2 (fun x => ((rf_ChessMay_K2 p1 p2 p4) x).bind some) = φ2 at hm
     unfold rf_ChessMay_L2 at hm
     dsimp only at hm
     refine seq_cut (fun a w => Fr 190 [pl 1 (pa g1 0), pl 7 (.slice g2 4 4), pl 8 (.slice g3 4 4), pl 9 (vi n2)] a ∧ Sep w0 B w (blk g1 65 (ca A1 p1.length c1 p2 p3 p4 p5 p6) :: own 3 (.slice g2 4 4) (vI ([4, 4, 60, 60] : List Int)) :: own 3 (.slice g3 4 4) (vI ([7, 0, 63, 56] : List Int)) :: fs) ∧ ((rf_ChessMay_J9 p1 p3 n2)).bind φ2 = some r) ?_ ?_
     ·rintro a w ⟨hF, hS, hm⟩
      unfold rf_ChessMay_J9 at hm
      refine seq_cut (fun a w => Fr 190 [pl 1 (pa g1 0), pl 7 (.slice g2 4 4), pl 8 (.slice g3 4 4), pl 9 (vi n2)] a ∧ Sep w0 B w (blk g1 65 (ca A1 p1.length c1 p2 p3 p4 p5 p6) :: own 3 (.slice g2 4 4) (vI ([4, 4, 60, 60] : List Int)) :: own 3 (.slice g3 4 4) (vI ([7, 0, 63, 56] : List Int)) :: fs) ∧ ((rf_ChessMay_J10 n2)).bind φ2 = some r) ?_ ?_
      ·rintro a w ⟨hF, hS, hm⟩
       unfold rf_ChessMay_J10 at hm
       refine rg1 [] [] [1, 7, 8, 9] [pl 1 (pa g1 0), pl 7 (.slice g2 4 4), pl 8 (.slice g3 4 4), pl 9 (vi (w64 (n2 + 1)))] hF hS obs_nil (fun a w hF hS => ?_)
       refine then_n ?_
       rw [← hφ2] at hm
       exact ⟨(w64 (n2 + 1)), ⟨hF.wk [1, 7, 8, 9], hS⟩, hm⟩
      ·refine wpIn_block ?_
       refine rg [] [] [1, 7, 8, 9, 10] [pl 1 (pa g1 0), pl 7 (.slice g2 4 4), pl 8 (.slice g3 4 4), pl 9 (vi n2), pl 10 (vi 1)] hF hS obs_nil (fun a w hF hS => ?_)
       refine seq_cut (fun a w => ∃ (c2 : Int), Fr 190 [pl 1 (pa g1 0), pl 7 (.slice g2 4 4), pl 8 (.slice g3 4 4), pl 9 (vi n2), pl 10 (vi c2)] a ∧ Sep w0 B w (blk g1 65 (ca A1 p1.length c1 p2 p3 p4 p5 p6) :: own 3 (.slice g2 4 4) (vI ([4, 4, 60, 60] : List Int)) :: own 3 (.slice g3 4 4) (vI ([7, 0, 63, 56] : List Int)) :: fs) ∧ ((rf_ChessMay_J11 p1 p3 n2) c2).bind φ2 = some r) ?_ ?_
       ·rintro a w ⟨c2, hF, hS, hm⟩
        unfold rf_ChessMay_J11 at hm
        obtain ⟨hp2, hm⟩ := asrt_b hm
        obtain ⟨hp3, hm⟩ := asrt_b hm
        obtain ⟨hp4, hm⟩ := asrt_b hm
        obtain ⟨hp5, hm⟩ := asrt_b hm
        obtain ⟨hp6, hm⟩ := asrt_b hm
        refine rg [⟨false, [], vS (Instr.loadAt 3 (pa g1 2)), vi p3⟩, ⟨true, [], vS (Op.shift .shr .i64 p3 .i64 n2), vi (shrK .i64 p3 n2)⟩, ⟨false, [(((bAnd (shrK .i64 p3 n2) 1) == 1), true)], vS (Instr.loadAt 22 (pa g1 0)), .slice A1 p1.length c1⟩, ⟨true, [(((bAnd (shrK .i64 p3 n2) 1) == 1), true)], vS (Instr.indexAt 22 (.slice g2 4 4) (vi n2)), .pointer (some (sAddr g2 n2))⟩, ⟨false, [(((bAnd (shrK .i64 p3 n2) 1) == 1), true)], vS (Instr.loadAt 3 (.pointer (some (sAddr g2 n2)))), vi (geti ([4, 4, 60, 60] : List Int) n2)⟩, ⟨true, [(((bAnd (shrK .i64 p3 n2) 1) == 1), true)], vS (Instr.indexAt 22 (.slice A1 p1.length c1) (vi (geti ([4, 4, 60, 60] : List Int) n2))), .pointer (some (sAddr A1 (geti ([4, 4, 60, 60] : List Int) n2)))⟩, ⟨false, [(((bAnd (shrK .i64 p3 n2) 1) == 1), true)], vS (Instr.loadAt 3 (.pointer (some (sAddr A1 (geti ([4, 4, 60, 60] : List Int) n2))))), vi (geti p1 (geti ([4, 4, 60, 60] : List Int) n2))⟩, ⟨false, [(((geti p1 (geti ([4, 4, 60, 60] : List Int) n2)) != (w64 (c2 * 6))), false), (((bAnd (shrK .i64 p3 n2) 1) == 1), true)], vS (Instr.loadAt 22 (pa g1 0)), .slice A1 p1.length c1⟩, ⟨true, [(((geti p1 (geti ([4, 4, 60, 60] : List Int) n2)) != (w64 (c2 * 6))), false), (((bAnd (shrK .i64 p3 n2) 1) == 1), true)], vS (Instr.indexAt 22 (.slice g3 4 4) (vi n2)), .pointer (some (sAddr g3 n2))⟩, ⟨false, [(((geti p1 (geti ([4, 4, 60, 60] : List Int) n2)) != (w64 (c2 * 6))), false), (((bAnd (shrK .i64 p3 n2) 1) == 1), true)], vS (Instr.loadAt 3 (.pointer (some (sAddr g3 n2)))), vi (geti ([7, 0, 63, 56] : List Int) n2)⟩, ⟨true, [(((geti p1 (geti ([4, 4, 60, 60] : List Int) n2)) != (w64 (c2 * 6))), false), (((bAnd (shrK .i64 p3 n2) 1) == 1), true)], vS (Instr.indexAt 22 (.slice A1 p1.length c1) (vi (geti ([7, 0, 63, 56] : List Int) n2))), .pointer (some (sAddr A1 (geti ([7, 0, 63, 56] : List Int) n2)))⟩, ⟨false, [(((geti p1 (geti ([4, 4, 60, 60] : List Int) n2)) != (w64 (c2 * 6))), false), (((bAnd (shrK .i64 p3 n2) 1) == 1), true)], vS (Instr.loadAt 3 (.pointer (some (sAddr A1 (geti ([7, 0, 63, 56] : List Int) n2))))), vi (geti p1 (geti ([7, 0, 63, 56] : List Int) n2))⟩] [none, some (vi p3), none, some (vi (shrK .i64 p3 n2)), none, none, none, none, some (.slice A1 p1.length c1), none, none, some (.pointer (some (sAddr g2 n2))), some (vi (geti ([4, 4, 60, 60] : List Int) n2)), some (.pointer (some (sAddr A1 (geti ([4, 4, 60, 60] : List Int) n2)))), some (vi (geti p1 (geti ([4, 4, 60, 60] : List Int) n2))), none, none, none, none, none, some (.slice A1 p1.length c1), none, none, some (.pointer (some (sAddr g3 n2))), some (vi (geti ([7, 0, 63, 56] : List Int) n2)), some (.pointer (some (sAddr A1 (geti ([7, 0, 63, 56] : List Int) n2)))), some (vi (geti p1 (geti ([7, 0, 63, 56] : List Int) n2))), none, none, none, none, none] [1, 7, 8, 9, 126] [pl 1 (pa g1 0), pl 7 (.slice g2 4 4), pl 8 (.slice g3 4 4), pl 9 (vi n2), pl 126 (.bool (((bAnd (shrK .i64 p3 n2) 1) == 1) && (((geti p1 (geti ([4, 4, 60, 60] : List Int) n2)) != (w64 (c2 * 6))) || ((geti p1 (geti ([7, 0, 63, 56] : List Int) n2)) != (w64 (c2 * 4))))))] hF hS ?_ (fun a w hF hS => ?_)
        ·exact obs_cons (ob_load Agg3 (fun _ _ hS => (hS.at_ 0 rfl).cell rfl)) <| obs_cons (ob_shr (fun _ => hp2)) <| obs_cons (ob_load Agg22 (fun _ _ hS => (hS.at_ 0 rfl).cell rfl)) <| obs_cons (ob_ix1 (f := (Value.int .i64)) (m := ([4, 4, 60, 60] : List Int)) Und22 hi3 hs3 (hS.at_ 1 rfl).rd ((hS.at_ 1 rfl).len1) (fun hy => hp3 (hy (((bAnd (shrK .i64 p3 n2) 1) == 1), true) (by simp)))) <| obs_cons (ob_get1 (n := 4) (m := ([4, 4, 60, 60] : List Int)) (Value.int .i64) (0 : Int) Agg3 (fun _ hS => ⟨_, (hS.at_ 1 rfl).rd⟩) (fun _ hS => ((hS.at_ 1 rfl).len1)) (fun hy => hp3 (hy (((bAnd (shrK .i64 p3 n2) 1) == 1), true) (by simp)))) <| obs_cons (ob_ix1 (f := (Value.int .i64)) (m := p1) Und22 hi3 hs3 (hr_p1 _ (hS.dropN 3)) rfl (fun hy => hp4 (hy (((bAnd (shrK .i64 p3 n2) 1) == 1), true) (by simp)))) <| obs_cons (ob_get1 (n := p1.length) (m := p1) (Value.int .i64) (0 : Int) Agg3 (fun _ hS => ⟨_, (hr_p1 _ (hS.dropN 3))⟩) (fun _ hS => rfl) (fun hy => hp4 (hy (((bAnd (shrK .i64 p3 n2) 1) == 1), true) (by simp)))) <| obs_cons (ob_load Agg22 (fun _ _ hS => (hS.at_ 0 rfl).cell rfl)) <| obs_cons (ob_ix1 (f := (Value.int .i64)) (m := ([7, 0, 63, 56] : List Int)) Und22 hi3 hs3 (hS.at_ 2 rfl).rd ((hS.at_ 2 rfl).len1) (fun hy => hp5 (hy (((geti p1 (geti ([4, 4, 60, 60] : List Int) n2)) != (w64 (c2 * 6))), false) (by simp)) (hy (((bAnd (shrK .i64 p3 n2) 1) == 1), true) (by simp)))) <| obs_cons (ob_get1 (n := 4) (m := ([7, 0, 63, 56] : List Int)) (Value.int .i64) (0 : Int) Agg3 (fun _ hS => ⟨_, (hS.at_ 2 rfl).rd⟩) (fun _ hS => ((hS.at_ 2 rfl).len1)) (fun hy => hp5 (hy (((geti p1 (geti ([4, 4, 60, 60] : List Int) n2)) != (w64 (c2 * 6))), false) (by simp)) (hy (((bAnd (shrK .i64 p3 n2) 1) == 1), true) (by simp)))) <| obs_cons (ob_ix1 (f := (Value.int .i64)) (m := p1) Und22 hi3 hs3 (hr_p1 _ (hS.dropN 3)) rfl (fun hy => hp6 (hy (((geti p1 (geti ([4, 4, 60, 60] : List Int) n2)) != (w64 (c2 * 6))), false) (by simp)) (hy (((bAnd (shrK .i64 p3 n2) 1) == 1), true) (by simp)))) <| obs_cons (ob_get1 (n := p1.length) (m := p1) (Value.int .i64) (0 : Int) Agg3 (fun _ hS => ⟨_, (hr_p1 _ (hS.dropN 3))⟩) (fun _ hS => rfl) (fun hy => hp6 (hy (((geti p1 (geti ([4, 4, 60, 60] : List Int) n2)) != (w64 (c2 * 6))), false) (by simp)) (hy (((bAnd (shrK .i64 p3 n2) 1) == 1), true) (by simp)))) <| obs_nil
        refine ce (t := 126) (b := ((bAnd (shrK .i64 p3 n2) 1) == 1) && (((geti p1 (geti ([4, 4, 60, 60] : List Int) n2)) != (w64 (c2 * 6))) || ((geti p1 (geti ([7, 0, 63, 56] : List Int) n2)) != (w64 (c2 * 4))))) hF (fun hb => ?_) (fun hb => ?_)
        ·replace hm := if_t hm hb
         refine rg [] [] [2] [pl 2 (.bool false)] hF hS obs_nil (fun a w hF hS => ?_)
         refine wpIn_ret ?_
         refine block_r (then_r (then_r (block_r (then_r ?_))))
         rw [← hφ2] at hm
         replace hm := done_b hm
         unfold rf_ChessMay_K2 at hm
         try dsimp only at hm
         have hS := hS.pickN 3 [] (by decide)
         have hm : some false = some r := hm
         obtain rfl := Option.some.inj hm
         exact retV (rs := [.tmp 2]) (vs := [.bool false]) hF rfl rv1 rfl ⟨rfl, hS⟩
        ·replace hm := if_f hm hb
         refine wpIn_skip ?_
         refine block_n ?_
         refine then_n ?_
         exact ⟨hF.wk [1, 7, 8, 9], hS, hm⟩
       ·refine rg [] [] [1, 7, 8, 9, 10, 94] [pl 1 (pa g1 0), pl 7 (.slice g2 4 4), pl 8 (.slice g3 4 4), pl 9 (vi n2), pl 10 (vi 1), pl 94 (.bool (decide ((2 : Int) ≤ n2)))] hF hS obs_nil (fun a w hF hS => ?_)
        refine ce (t := 94) (b := decide ((2 : Int) ≤ n2)) hF (fun hb => ?_) (fun hb => ?_)
        ·replace hm := if_t hm hb
         refine rg1 [] [] [1, 7, 8, 9, 10] [pl 1 (pa g1 0), pl 7 (.slice g2 4 4), pl 8 (.slice g3 4 4), pl 9 (vi n2), pl 10 (vi (-1))] hF hS obs_nil (fun a w hF hS => ?_)
         refine then_n ?_
         exact ⟨(-1), hF.wk [1, 7, 8, 9, 10], hS, hm⟩
        ·replace hm := if_f hm hb
         refine wpIn_skip ?_
         refine then_n ?_
         exact ⟨1, hF.wk [1, 7, 8, 9, 10], hS, hm⟩
     ·refine rg [] [] [1, 7, 8, 9, 90] [pl 1 (pa g1 0), pl 7 (.slice g2 4 4), pl 8 (.slice g3 4 4), pl 9 (vi n2), pl 90 (.bool (decide (n2 < 4)))] hF hS obs_nil (fun a w hF hS => ?_)
      refine ce (t := 90) (b := decide (n2 < 4)) hF (fun hb => ?_) (fun hb => ?_)
      ·replace hm := if_t hm hb
       refine wpIn_skip ?_
       refine then_n ?_
       exact ⟨hF.wk [1, 7, 8, 9], hS, hm⟩
      ·replace hm := if_f hm hb
       refine wpIn_exit ?_
       refine then_e (then_e (block_e (then_n ?_)))
       have hS := hS.pickN 3 [0] (by decide)
       rw [← hφ2] at hm
       replace hm := done_b hm
       unfold rf_ChessMay_K2 at hm
       try dsimp only at hm
       have hm : ((rf_ChessMay_J8 p1 p2 p4)).bind some = some r := hm
       exact ⟨hF.wk [1], hS, hm⟩
   ·obtain ⟨r7, hr7, hm⟩ := call_b hm
    refine rg [⟨false, [((white2 != 1) || (black2 != 1), false)], vS (Instr.loadAt 22 (pa g1 0)), .slice A1 p1.length c1⟩, ⟨false, [((white2 != 1) || (black2 != 1), false)], vS (Instr.loadAt 3 (pa g1 1)), vi p2⟩, ⟨false, [((white2 != 1) || (black2 != 1), false)], callFunc 82 #[.slice A1 p1.length c1, vi (w64 (1 - p2))], .bool r7⟩] [none, none, none, none, none, none, none, none, some (.slice A1 p1.length c1), none, some (vi p2), none, some (.bool r7), none] [1, 86] [pl 1 (pa g1 0), pl 86 (.bool (((white2 != 1) || (black2 != 1)) || r7))] hF hS ?_ (fun a w hF hS => ?_)
    ·exact obs_cons (ob_load Agg22 (fun _ _ hS => (hS.at_ 0 rfl).cell rfl)) <| obs_cons (ob_load Agg3 (fun _ _ hS => (hS.at_ 0 rfl).cell rfl)) <| obs_cons (ob_call Try.func82 (by kernel_rfl) rfl (fun hy _ hS => rf_InCheck_w (ite_some hr7 (by rw [show ((white2 != 1) || (black2 != 1)) = false from hy ((white2 != 1) || (black2 != 1), false) (by simp)]; try rfl)) hS (fun _ hS => (hr_p1 _ (hS.dropN 1))) _hc_p1 rfl)) <| obs_nil
    refine ce (t := 86) (b := ((white2 != 1) || (black2 != 1)) || r7) hF (fun hb => ?_) (fun hb => ?_)
    ·replace hm := if_t hm hb
     refine rg [] [] [2] [pl 2 (.bool false)] hF hS obs_nil (fun a w hF hS => ?_)
     refine wpIn_ret ?_
     refine then_r ?_
     have hS := hS.pickN 1 [] (by decide)
     have hm : some false = some r := hm
     obtain rfl := Option.some.inj hm
     exact retV (rs := [.tmp 2]) (vs := [.bool false]) hF rfl rv1 rfl ⟨rfl, hS⟩
    ·replace hm := if_f hm hb
     refine wpIn_skip ?_
     refine then_n ?_
     exact ⟨hF.wk [1], hS, hm⟩
  ·refine rg [] [] [1, 3, 4, 5] [pl 1 (pa g1 0), pl 3 (vi 0), pl 4 (vi 0), pl 5 (vi 0)] hF hS obs_nil (fun a w hF hS => ?_)
   refine wpIn_block ?_
   refine wp_loop_model (S := MvT) (R := (Fl (Int × Int) Bool)) (rf_ChessMay_L1 p1) (fun x => ((rf_ChessMay_K1 p1 p2 p3 p4) x).bind some) r (fun (x : MvT) a w => Fr 190 [pl 1 (pa g1 0), pl 3 (vi x.1), pl 4 (vi x.2.1), pl 5 (vi x.2.2)] a ∧ Sep w0 B w (blk g1 65 (ca A1 p1.length c1 p2 p3 p4 p5 p6) :: fs)) (assoc_b hm) ⟨hF.wk [1, 3, 4, 5], hS⟩ ?_
   clear hF hS hm
   rintro nn1 ⟨white1, black1, i1⟩ a w ⟨hF, hS⟩ hm
   generalize hφ1 : stK (rf_ChessMay_L1 p1) nn1 (fun x => ((rf_ChessMay_K1 p1 p2 p3 p4) x).bind some) = φ1 at hm
   unfold rf_ChessMay_L1 at hm
   dsimp only at hF hS hm
   refine seq_cut (fun a w => Fr 190 [pl 1 (pa g1 0), pl 3 (vi white1), pl 4 (vi black1), pl 5 (vi i1)] a ∧ Sep w0 B w (blk g1 65 (ca A1 p1.length c1 p2 p3 p4 p5 p6) :: fs) ∧ ((rf_ChessMay_J3 p1 white1 black1 i1)).bind φ1 = some r) ?_ ?_
   ·rintro a w ⟨hF, hS, hm⟩
    unfold rf_ChessMay_J3 at hm
    refine seq_cut (fun a w => ∃ (white4 black3 : Int), Fr 190 [pl 1 (pa g1 0), pl 3 (vi white4), pl 4 (vi black3), pl 5 (vi i1)] a ∧ Sep w0 B w (blk g1 65 (ca A1 p1.length c1 p2 p3 p4 p5 p6) :: fs) ∧ ((rf_ChessMay_J4 i1) white4 black3).bind φ1 = some r) ?_ ?_
    ·rintro a w ⟨white4, black3, hF, hS, hm⟩
     unfold rf_ChessMay_J4 at hm
     refine rg1 [] [] [1, 3, 4, 5] [pl 1 (pa g1 0), pl 3 (vi white4), pl 4 (vi black3), pl 5 (vi (w64 (i1 + 1)))] hF hS obs_nil (fun a w hF hS => ?_)
     refine then_n ?_
     rw [← hφ1] at hm
     exact ⟨(white4, black3, (w64 (i1 + 1))), ⟨hF.wk [1, 3, 4, 5], hS⟩, hm⟩
    ·refine wpIn_block ?_
     obtain ⟨hp1, hm⟩ := asrt_b hm
     refine rg [⟨false, [], vS (Instr.loadAt 22 (pa g1 0)), .slice A1 p1.length c1⟩, ⟨true, [], vS (Instr.indexAt 22 (.slice A1 p1.length c1) (vi i1)), .pointer (some (sAddr A1 i1))⟩, ⟨false, [], vS (Instr.loadAt 3 (.pointer (some (sAddr A1 i1)))), vi (geti p1 i1)⟩] [none, some (.slice A1 p1.length c1), none, some (.pointer (some (sAddr A1 i1))), some (vi (geti p1 i1)), none] [1, 3, 4, 5, 6] [pl 1 (pa g1 0), pl 3 (vi white1), pl 4 (vi black1), pl 5 (vi i1), pl 6 (vi (geti p1 i1))] hF hS ?_ (fun a w hF hS => ?_)
     ·exact obs_cons (ob_load Agg22 (fun _ _ hS => (hS.at_ 0 rfl).cell rfl)) <| obs_cons (ob_ix1 (f := (Value.int .i64)) (m := p1) Und22 hi3 hs3 (hr_p1 _ (hS.dropN 1)) rfl (fun _ => hp1)) <| obs_cons (ob_get1 (n := p1.length) (m := p1) (Value.int .i64) (0 : Int) Agg3 (fun _ hS => ⟨_, (hr_p1 _ (hS.dropN 1))⟩) (fun _ hS => rfl) (fun _ => hp1)) <| obs_nil
     refine seq_cut (fun a w => Fr 190 [pl 1 (pa g1 0), pl 3 (vi white1), pl 4 (vi black1), pl 5 (vi i1), pl 6 (vi (geti p1 i1))] a ∧ Sep w0 B w (blk g1 65 (ca A1 p1.length c1 p2 p3 p4 p5 p6) :: fs) ∧ ((rf_ChessMay_J5 p1 white1 black1 i1)).bind φ1 = some r) ?_ ?_
     ·rintro a w ⟨hF, hS, hm⟩
      unfold rf_ChessMay_J5 at hm
      refine seq_cut (fun a w => ∃ (white3 : Int), Fr 190 [pl 1 (pa g1 0), pl 3 (vi white3), pl 4 (vi black1), pl 5 (vi i1), pl 6 (vi (geti p1 i1))] a ∧ Sep w0 B w (blk g1 65 (ca A1 p1.length c1 p2 p3 p4 p5 p6) :: fs) ∧ ((rf_ChessMay_J6 p1 black1 i1) white3).bind φ1 = some r) ?_ ?_
      ·rintro a w ⟨white3, hF, hS, hm⟩
       unfold rf_ChessMay_J6 at hm
       refine rg [] [] [1, 3, 4, 5, 70] [pl 1 (pa g1 0), pl 3 (vi white3), pl 4 (vi black1), pl 5 (vi i1), pl 70 (.bool ((geti p1 i1) == (-6)))] hF hS obs_nil (fun a w hF hS => ?_)
       refine ce (t := 70) (b := ((geti p1 i1) == (-6))) hF (fun hb => ?_) (fun hb => ?_)
       ·replace hm := if_t hm hb
        refine rg1 [] [] [1, 3, 4, 5] [pl 1 (pa g1 0), pl 3 (vi white3), pl 4 (vi (w64 (black1 + 1))), pl 5 (vi i1)] hF hS obs_nil (fun a w hF hS => ?_)
        refine block_n ?_
        refine then_n ?_
        exact ⟨white3, (w64 (black1 + 1)), hF.wk [1, 3, 4, 5], hS, hm⟩
       ·replace hm := if_f hm hb
        refine wpIn_skip ?_
        refine block_n ?_
        refine then_n ?_
        exact ⟨white3, black1, hF.wk [1, 3, 4, 5], hS, hm⟩
      ·refine rg [] [] [1, 3, 4, 5, 6, 66] [pl 1 (pa g1 0), pl 3 (vi white1), pl 4 (vi black1), pl 5 (vi i1), pl 6 (vi (geti p1 i1)), pl 66 (.bool ((geti p1 i1) == 6))] hF hS obs_nil (fun a w hF hS => ?_)
       refine ce (t := 66) (b := ((geti p1 i1) == 6)) hF (fun hb => ?_) (fun hb => ?_)
       ·replace hm := if_t hm hb
        refine rg1 [] [] [1, 3, 4, 5, 6] [pl 1 (pa g1 0), pl 3 (vi (w64 (white1 + 1))), pl 4 (vi black1), pl 5 (vi i1), pl 6 (vi (geti p1 i1))] hF hS obs_nil (fun a w hF hS => ?_)
        refine then_n ?_
        exact ⟨(w64 (white1 + 1)), hF.wk [1, 3, 4, 5, 6], hS, hm⟩
       ·replace hm := if_f hm hb
        refine wpIn_skip ?_
        refine then_n ?_
        exact ⟨white1, hF.wk [1, 3, 4, 5, 6], hS, hm⟩
     ·obtain ⟨r5, hr5, hm⟩ := call_b hm
      obtain ⟨r6, hr6, hm⟩ := call_b hm
      refine rg [⟨false, [], callFunc 62 #[vi (geti p1 i1), vi (-6), vi 6], .bool r5⟩, ⟨false, [(!r5, false)], callFunc 81 #[vi (geti p1 i1)], vi r6⟩] [none, some (.bool r5), none, none, none, some (vi r6), none, none, none, none, none, none, none, none, none, none] [1, 3, 4, 5, 6, 64] [pl 1 (pa g1 0), pl 3 (vi white1), pl 4 (vi black1), pl 5 (vi i1), pl 6 (vi (geti p1 i1)), pl 64 (.bool ((!r5) || ((r6 == 1) && ((decide (i1 < 8)) || (decide ((55 : Int) < i1))))))] hF hS ?_ (fun a w hF hS => ?_)
      ·exact obs_cons (ob_call Try.func62 (by kernel_rfl) rfl (fun _ _ hS => rf_within_w hr5 hS )) <| obs_cons (ob_call Try.func81 (by kernel_rfl) rfl (fun hy _ hS => rf_size_w (ite_some hr6 (by rw [show (!r5) = false from hy (!r5, false) (by simp)]; try rfl)) hS )) <| obs_nil
      refine ce (t := 64) (b := (!r5) || ((r6 == 1) && ((decide (i1 < 8)) || (decide ((55 : Int) < i1))))) hF (fun hb => ?_) (fun hb => ?_)
      ·replace hm := if_t hm hb
       refine rg [] [] [2] [pl 2 (.bool false)] hF hS obs_nil (fun a w hF hS => ?_)
       refine wpIn_ret ?_
       refine then_r (block_r (then_r (then_r (block_r (then_r ?_)))))
       rw [← hφ1] at hm
       replace hm := done_b hm
       unfold rf_ChessMay_K1 at hm
       try dsimp only at hm
       have hS := hS.pickN 1 [] (by decide)
       have hm : some false = some r := hm
       obtain rfl := Option.some.inj hm
       exact retV (rs := [.tmp 2]) (vs := [.bool false]) hF rfl rv1 rfl ⟨rfl, hS⟩
      ·replace hm := if_f hm hb
       refine wpIn_skip ?_
       refine then_n ?_
       exact ⟨hF.wk [1, 3, 4, 5, 6], hS, hm⟩
   ·refine rg [] [] [1, 3, 4, 5, 41] [pl 1 (pa g1 0), pl 3 (vi white1), pl 4 (vi black1), pl 5 (vi i1), pl 41 (.bool (decide (i1 < 64)))] hF hS obs_nil (fun a w hF hS => ?_)
    refine ce (t := 41) (b := decide (i1 < 64)) hF (fun hb => ?_) (fun hb => ?_)
    ·replace hm := if_t hm hb
     refine wpIn_skip ?_
     refine then_n ?_
     exact ⟨hF.wk [1, 3, 4, 5], hS, hm⟩
    ·replace hm := if_f hm hb
     refine wpIn_exit ?_
     refine then_e (then_e (block_e (then_n ?_)))
     rw [← hφ1] at hm
     replace hm := done_b hm
     unfold rf_ChessMay_K1 at hm
     try dsimp only at hm
     have hm : ((rf_ChessMay_J2 p1 p2 p3 p4) white1 black1).bind some = some r := hm
     exact ⟨white1, black1, hF.wk [1, 3, 4], hS, hm⟩
 ·obtain ⟨r1, hr1, hm⟩ := call_b hm
  obtain ⟨r2, hr2, hm⟩ := call_b hm
  obtain ⟨r3, hr3, hm⟩ := call_b hm
  obtain ⟨r4, hr4, hm⟩ := call_b hm
  refine rg [⟨false, [], vS (Instr.loadAt 22 (pa g1 0)), .slice A1 p1.length c1⟩, ⟨false, [(((p1.length : Int) != 64), false)], vS (Instr.loadAt 3 (pa g1 1)), vi p2⟩, ⟨false, [(((p1.length : Int) != 64), false)], callFunc 62 #[vi p2, vi 0, vi 1], .bool r1⟩, ⟨false, [(((p1.length : Int) != 64) || (!r1), false)], vS (Instr.loadAt 3 (pa g1 2)), vi p3⟩, ⟨false, [(((p1.length : Int) != 64) || (!r1), false)], callFunc 62 #[vi p3, vi 0, vi 15], .bool r2⟩, ⟨false, [((((p1.length : Int) != 64) || (!r1)) || (!r2), false)], vS (Instr.loadAt 3 (pa g1 4)), vi p5⟩, ⟨false, [((((p1.length : Int) != 64) || (!r1)) || (!r2), false)], callFunc 62 #[vi p5, vi 0, vi 999], .bool r3⟩, ⟨false, [(((((p1.length : Int) != 64) || (!r1)) || (!r2)) || (!r3), false)], vS (Instr.loadAt 3 (pa g1 5)), vi p6⟩, ⟨false, [(((((p1.length : Int) != 64) || (!r1)) || (!r2)) || (!r3), false)], callFunc 62 #[vi p6, vi 1, vi 999], .bool r4⟩] [none, some (.slice A1 p1.length c1), none, none, none, none, some (vi p2), some (.bool r1), none, none, none, none, some (vi p3), some (.bool r2), none, none, none, none, some (vi p5), some (.bool r3), none, none, none, none, some (vi p6), some (.bool r4), none, none] [1, 39] [pl 1 (pa g1 0), pl 39 (.bool ((((((p1.length : Int) != 64) || (!r1)) || (!r2)) || (!r3)) || (!r4)))] hF hS ?_ (fun a w hF hS => ?_)
  ·exact obs_cons (ob_load Agg22 (fun _ _ hS => (hS.at_ 0 rfl).cell rfl)) <| obs_cons (ob_load Agg3 (fun _ _ hS => (hS.at_ 0 rfl).cell rfl)) <| obs_cons (ob_call Try.func62 (by kernel_rfl) rfl (fun hy _ hS => rf_within_w (ite_some hr1 (by rw [show ((p1.length : Int) != 64) = false from hy (((p1.length : Int) != 64), false) (by simp)]; try rfl)) hS )) <| obs_cons (ob_load Agg3 (fun _ _ hS => (hS.at_ 0 rfl).cell rfl)) <| obs_cons (ob_call Try.func62 (by kernel_rfl) rfl (fun hy _ hS => rf_within_w (ite_some hr2 (by rw [show (((p1.length : Int) != 64) || (!r1)) = false from hy (((p1.length : Int) != 64) || (!r1), false) (by simp)]; try rfl)) hS )) <| obs_cons (ob_load Agg3 (fun _ _ hS => (hS.at_ 0 rfl).cell rfl)) <| obs_cons (ob_call Try.func62 (by kernel_rfl) rfl (fun hy _ hS => rf_within_w (ite_some hr3 (by rw [show ((((p1.length : Int) != 64) || (!r1)) || (!r2)) = false from hy ((((p1.length : Int) != 64) || (!r1)) || (!r2), false) (by simp)]; try rfl)) hS )) <| obs_cons (ob_load Agg3 (fun _ _ hS => (hS.at_ 0 rfl).cell rfl)) <| obs_cons (ob_call Try.func62 (by kernel_rfl) rfl (fun hy _ hS => rf_within_w (ite_some hr4 (by rw [show (((((p1.length : Int) != 64) || (!r1)) || (!r2)) || (!r3)) = false from hy (((((p1.length : Int) != 64) || (!r1)) || (!r2)) || (!r3), false) (by simp)]; try rfl)) hS )) <| obs_nil
  refine ce (t := 39) (b := (((((p1.length : Int) != 64) || (!r1)) || (!r2)) || (!r3)) || (!r4)) hF (fun hb => ?_) (fun hb => ?_)
  ·replace hm := if_t hm hb
   refine rg [] [] [2] [pl 2 (.bool false)] hF hS obs_nil (fun a w hF hS => ?_)
   refine wpIn_ret ?_
   refine then_r ?_
   have hS := hS.pickN 1 [] (by decide)
   have hm : some false = some r := hm
   obtain rfl := Option.some.inj hm
   exact retV (rs := [.tmp 2]) (vs := [.bool false]) hF rfl rv1 rfl ⟨rfl, hS⟩
  ·replace hm := if_f hm hb
   refine wpIn_skip ?_
   refine then_n ?_
   exact ⟨hF.wk [1], hS, hm⟩

def lw_noChess_m  (p1 : List Int) (p2 p3 : Int) (p4 p5 p6 : Int) : Option Bool :=
 some (((((((p1.length : Int) == 0) && (p2 == 0)) && (p3 == 0)) && (p4 == 0)) && (p5 == 0)) && (p6 == 0))

theorem lw_noChess_w  {A1 : Option Addr} {c1 n1 : Nat} {p1 : List Int} {p2 p3 : Int} {p4 p5 p6 : Int} {r : Bool} {w0 w : World} {B : Nat} {fs : List HP} (hm : lw_noChess_m p1 p2 p3 p4 p5 p6 = some r) (hS : Sep w0 B w (fs)) (hr_p1 : RdF w0 B fs A1 (vI p1)) (_hc_p1 : p1.length ≤ c1) (_hn_p1 : n1 = p1.length) :
  Calls Try.prog 32 #[.agg (ca A1 n1 c1 p2 p3 p4 p5 p6)] w fun e w' => e = .returned (.bool r) ∧ Sep w0 B w' (fs) := by
 obtain ⟨i3, hi3, hz3, hs3, hb3⟩ := info_parts Info3
 obtain rfl := _hn_p1
 unfold lw_noChess_m at hm
 replace hm := start_b hm
 refine enter (l := [.agg (ca A1 p1.length c1 p2 p3 p4 p5 p6)]) (n := 32) Try.func32 rfl rfl (by simp) (fun a hF => ?_)
 refine seqR ?_
 refine at_do (d := 1) (s := vS (Instr.box 65 (.agg (ca A1 p1.length c1 p2 p3 p4 p5 p6)))) (v := pa w.heap.size 0) (w' := w.alloc (.cells (ca A1 p1.length c1 p2 p3 p4 p5 p6) 65)) hF (by kernel_rfl) (by kernel_rfl) (by kernel_rfl) (fun a hF => ?_)
 have hS : Sep w0 B (w.alloc (.cells (ca A1 p1.length c1 p2 p3 p4 p5 p6) 65)) (blk w.heap.size 65 (ca A1 p1.length c1 p2 p3 p4 p5 p6) :: (fs)) := hS.box 65 (ca A1 p1.length c1 p2 p3 p4 p5 p6)
 generalize w.heap.size = g1 at hF hS
 generalize w.alloc (.cells (ca A1 p1.length c1 p2 p3 p4 p5 p6) 65) = w at hS ⊢
 refine ar 1 [] [] [1] [pl 1 (pa g1 0)] hF hS obs_nil (fun a w hF hS => ?_)
 refine ae [1] [pl 1 (pa g1 0)] hF rfl (fun hF => ?_)
 refine then_n ?_
 refine rg [⟨false, [], vS (Instr.loadAt 22 (pa g1 0)), .slice A1 p1.length c1⟩, ⟨false, [(((p1.length : Int) == 0), true)], vS (Instr.loadAt 3 (pa g1 1)), vi p2⟩, ⟨false, [(((p1.length : Int) == 0) && (p2 == 0), true)], vS (Instr.loadAt 3 (pa g1 2)), vi p3⟩, ⟨false, [((((p1.length : Int) == 0) && (p2 == 0)) && (p3 == 0), true)], vS (Instr.loadAt 3 (pa g1 3)), vi p4⟩, ⟨false, [(((((p1.length : Int) == 0) && (p2 == 0)) && (p3 == 0)) && (p4 == 0), true)], vS (Instr.loadAt 3 (pa g1 4)), vi p5⟩, ⟨false, [((((((p1.length : Int) == 0) && (p2 == 0)) && (p3 == 0)) && (p4 == 0)) && (p5 == 0), true)], vS (Instr.loadAt 3 (pa g1 5)), vi p6⟩] [none, some (.slice A1 p1.length c1), none, none, none, none, some (vi p2), none, none, none, none, some (vi p3), none, none, none, none, some (vi p4), none, none, none, none, some (vi p5), none, none, none, none, some (vi p6), none, none, none] [2] [pl 2 (.bool (((((((p1.length : Int) == 0) && (p2 == 0)) && (p3 == 0)) && (p4 == 0)) && (p5 == 0)) && (p6 == 0)))] hF hS ?_ (fun a w hF hS => ?_)
 ·exact obs_cons (ob_load Agg22 (fun _ _ hS => (hS.at_ 0 rfl).cell rfl)) <| obs_cons (ob_load Agg3 (fun _ _ hS => (hS.at_ 0 rfl).cell rfl)) <| obs_cons (ob_load Agg3 (fun _ _ hS => (hS.at_ 0 rfl).cell rfl)) <| obs_cons (ob_load Agg3 (fun _ _ hS => (hS.at_ 0 rfl).cell rfl)) <| obs_cons (ob_load Agg3 (fun _ _ hS => (hS.at_ 0 rfl).cell rfl)) <| obs_cons (ob_load Agg3 (fun _ _ hS => (hS.at_ 0 rfl).cell rfl)) <| obs_nil
 refine wpIn_ret ?_
 have hS := hS.pickN 1 [] (by decide)
 have hm : some (((((((p1.length : Int) == 0) && (p2 == 0)) && (p3 == 0)) && (p4 == 0)) && (p5 == 0)) && (p6 == 0)) = some r := hm
 obtain rfl := Option.some.inj hm
 exact retV (rs := [.tmp 2]) (vs := [.bool (((((((p1.length : Int) == 0) && (p2 == 0)) && (p3 == 0)) && (p4 == 0)) && (p5 == 0)) && (p6 == 0))]) hF rfl rv1 rfl ⟨rfl, hS⟩

def rf_SideSign_m  (side1 : Int) : Option Int :=
 some (w64 (1 - (w64 (2 * side1))))

theorem rf_SideSign_w  {side1 r : Int} {w0 w : World} {B : Nat} {fs : List HP} (hm : rf_SideSign_m side1 = some r) (hS : Sep w0 B w (fs)) :
  Calls Try.prog 120 #[vi side1] w fun e w' => e = .returned (vi r) ∧ Sep w0 B w' (fs) := by
 unfold rf_SideSign_m at hm
 replace hm := start_b hm
 refine enter (l := [vi side1]) (n := 6) Try.func120 rfl rfl (by simp) (fun a hF => ?_)
 refine rg [] [] [0] [pl 0 (vi side1)] hF hS obs_nil (fun a w hF hS => ?_)
 refine rg [] [] [2] [pl 2 (vi (w64 (1 - (w64 (2 * side1)))))] hF hS obs_nil (fun a w hF hS => ?_)
 refine wpIn_ret ?_
 have hm : some (w64 (1 - (w64 (2 * side1)))) = some r := hm
 obtain rfl := Option.some.inj hm
 exact retV (rs := [.tmp 2]) (vs := [vi (w64 (1 - (w64 (2 * side1))))]) hF rfl rv1 rfl ⟨rfl, hS⟩

def rf_mayGo_J5  (p1 : List Int) (from1 to1 : Int) (r1 first1 : Int) : Option Bool :=
 asrt ((((w64 (Int.tdiv from1 8)) == first1) && (to1 == (w64 (from1 + (w64 (16 * r1)))))) = true → 0 ≤ to1 ∧ to1 < (p1.length : Int)) <| asrt (((((w64 (Int.tdiv from1 8)) == first1) && (to1 == (w64 (from1 + (w64 (16 * r1)))))) && ((geti p1 to1) == 0)) = true → 0 ≤ (w64 (from1 + (w64 (8 * r1)))) ∧ (w64 (from1 + (w64 (8 * r1)))) < (p1.length : Int)) <| some (((((w64 (Int.tdiv from1 8)) == first1) && (to1 == (w64 (from1 + (w64 (16 * r1)))))) && ((geti p1 to1) == 0)) && ((geti p1 (w64 (from1 + (w64 (8 * r1))))) == 0))

def rf_mayGo_J4  (p1 : List Int) (from1 to1 r1 : Int) : Option Bool :=
 if (decide (r1 < 0)) then ((rf_mayGo_J5 p1 from1 to1 r1) 6) else ((rf_mayGo_J5 p1 from1 to1 r1) 1)

def rf_mayGo_J3  (p1 : List Int) (from1 to1 r1 : Int) : Option Bool :=
 if (to1 == (w64 (from1 + (w64 (8 * r1))))) then (asrt (0 ≤ to1 ∧ to1 < (p1.length : Int)) <| some ((geti p1 to1) == 0)) else ((rf_mayGo_J4 p1 from1 to1 r1))

def rf_mayGo_J2  (p1 : List Int) (p4 from1 : Int) (to1 r1 : Int) : Option Bool :=
 (rf_Attacks_m p1 from1 to1).bind fun r3 => if r3 then (asrt (0 ≤ to1 ∧ to1 < (p1.length : Int)) <| some (((geti p1 to1) != 0) || (to1 == p4))) else ((rf_mayGo_J3 p1 from1 to1 r1))

def rf_mayGo_J1  (p1 : List Int) (p4 from1 : Int) (to1 r1 : Int) : Option Bool :=
 if ((w64 ((geti p1 from1) * r1)) != 1) then ((rf_Attacks_m p1 from1 to1).bind fun r2 => some r2) else ((rf_mayGo_J2 p1 p4 from1 to1 r1))

def rf_mayGo_m  (p1 : List Int) (p2 p3 : Int) (p4 p5 : Int) (p6 from1 to1 : Int) : Option Bool :=
 (rf_SideSign_m p2).bind fun r1 => asrt (0 ≤ from1 ∧ from1 < (p1.length : Int)) <| asrt ((decide ((w64 ((geti p1 from1) * r1)) ≤ 0)) = false → 0 ≤ to1 ∧ to1 < (p1.length : Int)) <| if ((decide ((w64 ((geti p1 from1) * r1)) ≤ 0)) || (decide ((0 : Int) < (w64 ((geti p1 to1) * r1))))) then (some false) else ((rf_mayGo_J1 p1 p4 from1 to1 r1))

theorem rf_mayGo_w  {A1 : Option Addr} {c1 n1 : Nat} {p1 : List Int} {p2 p3 : Int} {p4 p5 : Int} {p6 from1 to1 : Int} {r : Bool} {w0 w : World} {B : Nat} {fs : List HP} (hm : rf_mayGo_m p1 p2 p3 p4 p5 p6 from1 to1 = some r) (hS : Sep w0 B w (fs)) (hr_p1 : RdF w0 B fs A1 (vI p1)) (_hc_p1 : p1.length ≤ c1) (_hn_p1 : n1 = p1.length) :
  Calls Try.prog 118 #[.agg (ca A1 n1 c1 p2 p3 p4 p5 p6), vi from1, vi to1] w fun e w' => e = .returned (.bool r) ∧ Sep w0 B w' (fs) := by
 obtain ⟨i3, hi3, hz3, hs3, hb3⟩ := info_parts Info3
 obtain rfl := _hn_p1
 unfold rf_mayGo_m at hm
 replace hm := start_b hm
 refine enter (l := [.agg (ca A1 p1.length c1 p2 p3 p4 p5 p6), vi from1, vi to1]) (n := 101) Try.func118 rfl rfl (by simp) (fun a hF => ?_)
 refine seqR ?_
 refine at_do (d := 3) (s := vS (Instr.box 65 (.agg (ca A1 p1.length c1 p2 p3 p4 p5 p6)))) (v := pa w.heap.size 0) (w' := w.alloc (.cells (ca A1 p1.length c1 p2 p3 p4 p5 p6) 65)) hF (by kernel_rfl) (by kernel_rfl) (by kernel_rfl) (fun a hF => ?_)
 have hS : Sep w0 B (w.alloc (.cells (ca A1 p1.length c1 p2 p3 p4 p5 p6) 65)) (blk w.heap.size 65 (ca A1 p1.length c1 p2 p3 p4 p5 p6) :: (fs)) := hS.box 65 (ca A1 p1.length c1 p2 p3 p4 p5 p6)
 generalize w.heap.size = g1 at hF hS
 generalize w.alloc (.cells (ca A1 p1.length c1 p2 p3 p4 p5 p6) 65) = w at hS ⊢
 refine ar 1 [] [] [1, 2, 3] [pl 1 (vi from1), pl 2 (vi to1), pl 3 (pa g1 0)] hF hS obs_nil (fun a w hF hS => ?_)
 refine ae [1, 2, 3] [pl 1 (vi from1), pl 2 (vi to1), pl 3 (pa g1 0)] hF rfl (fun hF => ?_)
 refine then_n ?_
 obtain ⟨r1, hr1, hm⟩ := call_b hm
 refine rg [⟨false, [], vS (Instr.loadAt 3 (pa g1 1)), vi p2⟩, ⟨false, [], callFunc 120 #[vi p2], vi r1⟩] [none, some (vi p2), some (vi r1), none] [1, 2, 3, 7] [pl 1 (vi from1), pl 2 (vi to1), pl 3 (pa g1 0), pl 7 (vi r1)] hF hS ?_ (fun a w hF hS => ?_)
 ·exact obs_cons (ob_load Agg3 (fun _ _ hS => (hS.at_ 0 rfl).cell rfl)) <| obs_cons (ob_call Try.func120 (by kernel_rfl) rfl (fun _ _ hS => rf_SideSign_w hr1 hS )) <| obs_nil
 obtain ⟨hp1, hm⟩ := asrt_b hm
 refine rg [⟨false, [], vS (Instr.loadAt 22 (pa g1 0)), .slice A1 p1.length c1⟩, ⟨true, [], vS (Instr.indexAt 22 (.slice A1 p1.length c1) (vi from1)), .pointer (some (sAddr A1 from1))⟩, ⟨false, [], vS (Instr.loadAt 3 (.pointer (some (sAddr A1 from1)))), vi (geti p1 from1)⟩] [none, some (.slice A1 p1.length c1), none, some (.pointer (some (sAddr A1 from1))), some (vi (geti p1 from1)), none, none, none] [1, 2, 3, 7, 8] [pl 1 (vi from1), pl 2 (vi to1), pl 3 (pa g1 0), pl 7 (vi r1), pl 8 (vi (w64 ((geti p1 from1) * r1)))] hF hS ?_ (fun a w hF hS => ?_)
 ·exact obs_cons (ob_load Agg22 (fun _ _ hS => (hS.at_ 0 rfl).cell rfl)) <| obs_cons (ob_ix1 (f := (Value.int .i64)) (m := p1) Und22 hi3 hs3 (hr_p1 _ (hS.dropN 1)) rfl (fun _ => hp1)) <| obs_cons (ob_get1 (n := p1.length) (m := p1) (Value.int .i64) (0 : Int) Agg3 (fun _ hS => ⟨_, (hr_p1 _ (hS.dropN 1))⟩) (fun _ hS => rfl) (fun _ => hp1)) <| obs_nil
 refine seq_cut (fun a w => Fr 101 [pl 1 (vi from1), pl 2 (vi to1), pl 3 (pa g1 0), pl 7 (vi r1), pl 8 (vi (w64 ((geti p1 from1) * r1)))] a ∧ Sep w0 B w (blk g1 65 (ca A1 p1.length c1 p2 p3 p4 p5 p6) :: fs) ∧ ((rf_mayGo_J1 p1 p4 from1 to1 r1)).bind some = some r) ?_ ?_
 ·rintro a w ⟨hF, hS, hm⟩
  unfold rf_mayGo_J1 at hm
  refine seq_cut (fun a w => Fr 101 [pl 1 (vi from1), pl 2 (vi to1), pl 3 (pa g1 0), pl 7 (vi r1)] a ∧ Sep w0 B w (blk g1 65 (ca A1 p1.length c1 p2 p3 p4 p5 p6) :: fs) ∧ ((rf_mayGo_J2 p1 p4 from1 to1 r1)).bind some = some r) ?_ ?_
  ·rintro a w ⟨hF, hS, hm⟩
   unfold rf_mayGo_J2 at hm
   refine seq_cut (fun a w => Fr 101 [pl 1 (vi from1), pl 2 (vi to1), pl 3 (pa g1 0), pl 7 (vi r1)] a ∧ Sep w0 B w (blk g1 65 (ca A1 p1.length c1 p2 p3 p4 p5 p6) :: fs) ∧ ((rf_mayGo_J3 p1 from1 to1 r1)).bind some = some r) ?_ ?_
   ·rintro a w ⟨hF, hS, hm⟩
    unfold rf_mayGo_J3 at hm
    refine seq_cut (fun a w => Fr 101 [pl 1 (vi from1), pl 2 (vi to1), pl 3 (pa g1 0), pl 7 (vi r1)] a ∧ Sep w0 B w (blk g1 65 (ca A1 p1.length c1 p2 p3 p4 p5 p6) :: fs) ∧ ((rf_mayGo_J4 p1 from1 to1 r1)).bind some = some r) ?_ ?_
    ·rintro a w ⟨hF, hS, hm⟩
     unfold rf_mayGo_J4 at hm
     refine rg [] [] [1, 2, 3, 7, 9] [pl 1 (vi from1), pl 2 (vi to1), pl 3 (pa g1 0), pl 7 (vi r1), pl 9 (vi 1)] hF hS obs_nil (fun a w hF hS => ?_)
     refine seq_cut (fun a w => ∃ (first1 : Int), Fr 101 [pl 1 (vi from1), pl 2 (vi to1), pl 3 (pa g1 0), pl 7 (vi r1), pl 9 (vi first1)] a ∧ Sep w0 B w (blk g1 65 (ca A1 p1.length c1 p2 p3 p4 p5 p6) :: fs) ∧ ((rf_mayGo_J5 p1 from1 to1 r1) first1).bind some = some r) ?_ ?_
     ·rintro a w ⟨first1, hF, hS, hm⟩
      unfold rf_mayGo_J5 at hm
      obtain ⟨hp5, hm⟩ := asrt_b hm
      obtain ⟨hp6, hm⟩ := asrt_b hm
      refine rg [⟨false, [(((w64 (Int.tdiv from1 8)) == first1) && (to1 == (w64 (from1 + (w64 (16 * r1))))), true)], vS (Instr.loadAt 22 (pa g1 0)), .slice A1 p1.length c1⟩, ⟨true, [(((w64 (Int.tdiv from1 8)) == first1) && (to1 == (w64 (from1 + (w64 (16 * r1))))), true)], vS (Instr.indexAt 22 (.slice A1 p1.length c1) (vi to1)), .pointer (some (sAddr A1 to1))⟩, ⟨false, [(((w64 (Int.tdiv from1 8)) == first1) && (to1 == (w64 (from1 + (w64 (16 * r1))))), true)], vS (Instr.loadAt 3 (.pointer (some (sAddr A1 to1)))), vi (geti p1 to1)⟩, ⟨false, [((((w64 (Int.tdiv from1 8)) == first1) && (to1 == (w64 (from1 + (w64 (16 * r1)))))) && ((geti p1 to1) == 0), true)], vS (Instr.loadAt 22 (pa g1 0)), .slice A1 p1.length c1⟩, ⟨true, [((((w64 (Int.tdiv from1 8)) == first1) && (to1 == (w64 (from1 + (w64 (16 * r1)))))) && ((geti p1 to1) == 0), true)], vS (Instr.indexAt 22 (.slice A1 p1.length c1) (vi (w64 (from1 + (w64 (8 * r1)))))), .pointer (some (sAddr A1 (w64 (from1 + (w64 (8 * r1))))))⟩, ⟨false, [((((w64 (Int.tdiv from1 8)) == first1) && (to1 == (w64 (from1 + (w64 (16 * r1)))))) && ((geti p1 to1) == 0), true)], vS (Instr.loadAt 3 (.pointer (some (sAddr A1 (w64 (from1 + (w64 (8 * r1)))))))), vi (geti p1 (w64 (from1 + (w64 (8 * r1)))))⟩] [none, none, none, none, none, none, none, none, none, none, none, none, none, none, some (.slice A1 p1.length c1), none, some (.pointer (some (sAddr A1 to1))), some (vi (geti p1 to1)), none, none, none, none, some (.slice A1 p1.length c1), none, none, none, none, some (.pointer (some (sAddr A1 (w64 (from1 + (w64 (8 * r1))))))), some (vi (geti p1 (w64 (from1 + (w64 (8 * r1)))))), none, none, none] [6] [pl 6 (.bool (((((w64 (Int.tdiv from1 8)) == first1) && (to1 == (w64 (from1 + (w64 (16 * r1)))))) && ((geti p1 to1) == 0)) && ((geti p1 (w64 (from1 + (w64 (8 * r1))))) == 0)))] hF hS ?_ (fun a w hF hS => ?_)
      ·exact obs_cons (ob_load Agg22 (fun _ _ hS => (hS.at_ 0 rfl).cell rfl)) <| obs_cons (ob_ix1 (f := (Value.int .i64)) (m := p1) Und22 hi3 hs3 (hr_p1 _ (hS.dropN 1)) rfl (fun hy => hp5 (hy (((w64 (Int.tdiv from1 8)) == first1) && (to1 == (w64 (from1 + (w64 (16 * r1))))), true) (by simp)))) <| obs_cons (ob_get1 (n := p1.length) (m := p1) (Value.int .i64) (0 : Int) Agg3 (fun _ hS => ⟨_, (hr_p1 _ (hS.dropN 1))⟩) (fun _ hS => rfl) (fun hy => hp5 (hy (((w64 (Int.tdiv from1 8)) == first1) && (to1 == (w64 (from1 + (w64 (16 * r1))))), true) (by simp)))) <| obs_cons (ob_load Agg22 (fun _ _ hS => (hS.at_ 0 rfl).cell rfl)) <| obs_cons (ob_ix1 (f := (Value.int .i64)) (m := p1) Und22 hi3 hs3 (hr_p1 _ (hS.dropN 1)) rfl (fun hy => hp6 (hy ((((w64 (Int.tdiv from1 8)) == first1) && (to1 == (w64 (from1 + (w64 (16 * r1)))))) && ((geti p1 to1) == 0), true) (by simp)))) <| obs_cons (ob_get1 (n := p1.length) (m := p1) (Value.int .i64) (0 : Int) Agg3 (fun _ hS => ⟨_, (hr_p1 _ (hS.dropN 1))⟩) (fun _ hS => rfl) (fun hy => hp6 (hy ((((w64 (Int.tdiv from1 8)) == first1) && (to1 == (w64 (from1 + (w64 (16 * r1)))))) && ((geti p1 to1) == 0), true) (by simp)))) <| obs_nil
      refine wpIn_ret ?_
      have hS := hS.pickN 1 [] (by decide)
      have hm : some (((((w64 (Int.tdiv from1 8)) == first1) && (to1 == (w64 (from1 + (w64 (16 * r1)))))) && ((geti p1 to1) == 0)) && ((geti p1 (w64 (from1 + (w64 (8 * r1))))) == 0)) = some r := hm
      obtain rfl := Option.some.inj hm
      exact retV (rs := [.tmp 6]) (vs := [.bool (((((w64 (Int.tdiv from1 8)) == first1) && (to1 == (w64 (from1 + (w64 (16 * r1)))))) && ((geti p1 to1) == 0)) && ((geti p1 (w64 (from1 + (w64 (8 * r1))))) == 0))]) hF rfl rv1 rfl ⟨rfl, hS⟩
     ·refine rg [] [] [1, 2, 3, 7, 9, 69] [pl 1 (vi from1), pl 2 (vi to1), pl 3 (pa g1 0), pl 7 (vi r1), pl 9 (vi 1), pl 69 (.bool (decide (r1 < 0)))] hF hS obs_nil (fun a w hF hS => ?_)
      refine ce (t := 69) (b := decide (r1 < 0)) hF (fun hb => ?_) (fun hb => ?_)
      ·replace hm := if_t hm hb
       refine rg1 [] [] [1, 2, 3, 7, 9] [pl 1 (vi from1), pl 2 (vi to1), pl 3 (pa g1 0), pl 7 (vi r1), pl 9 (vi 6)] hF hS obs_nil (fun a w hF hS => ?_)
       refine then_n ?_
       exact ⟨6, hF.wk [1, 2, 3, 7, 9], hS, hm⟩
      ·replace hm := if_f hm hb
       refine wpIn_skip ?_
       refine then_n ?_
       exact ⟨1, hF.wk [1, 2, 3, 7, 9], hS, hm⟩
    ·refine rg [] [] [1, 2, 3, 7, 61] [pl 1 (vi from1), pl 2 (vi to1), pl 3 (pa g1 0), pl 7 (vi r1), pl 61 (.bool (to1 == (w64 (from1 + (w64 (8 * r1))))))] hF hS obs_nil (fun a w hF hS => ?_)
     refine ce (t := 61) (b := (to1 == (w64 (from1 + (w64 (8 * r1)))))) hF (fun hb => ?_) (fun hb => ?_)
     ·replace hm := if_t hm hb
      obtain ⟨hp4, hm⟩ := asrt_b hm
      refine rg [⟨false, [], vS (Instr.loadAt 22 (pa g1 0)), .slice A1 p1.length c1⟩, ⟨true, [], vS (Instr.indexAt 22 (.slice A1 p1.length c1) (vi to1)), .pointer (some (sAddr A1 to1))⟩, ⟨false, [], vS (Instr.loadAt 3 (.pointer (some (sAddr A1 to1)))), vi (geti p1 to1)⟩] [none, some (.slice A1 p1.length c1), none, some (.pointer (some (sAddr A1 to1))), some (vi (geti p1 to1)), none, none] [6] [pl 6 (.bool ((geti p1 to1) == 0))] hF hS ?_ (fun a w hF hS => ?_)
      ·exact obs_cons (ob_load Agg22 (fun _ _ hS => (hS.at_ 0 rfl).cell rfl)) <| obs_cons (ob_ix1 (f := (Value.int .i64)) (m := p1) Und22 hi3 hs3 (hr_p1 _ (hS.dropN 1)) rfl (fun _ => hp4)) <| obs_cons (ob_get1 (n := p1.length) (m := p1) (Value.int .i64) (0 : Int) Agg3 (fun _ hS => ⟨_, (hr_p1 _ (hS.dropN 1))⟩) (fun _ hS => rfl) (fun _ => hp4)) <| obs_nil
      refine wpIn_ret ?_
      refine then_r ?_
      have hS := hS.pickN 1 [] (by decide)
      have hm : some ((geti p1 to1) == 0) = some r := hm
      obtain rfl := Option.some.inj hm
      exact retV (rs := [.tmp 6]) (vs := [.bool ((geti p1 to1) == 0)]) hF rfl rv1 rfl ⟨rfl, hS⟩
     ·replace hm := if_f hm hb
      refine wpIn_skip ?_
      refine then_n ?_
      exact ⟨hF.wk [1, 2, 3, 7], hS, hm⟩
   ·obtain ⟨r3, hr3, hm⟩ := call_b hm
    refine rg [⟨false, [], vS (Instr.loadAt 22 (pa g1 0)), .slice A1 p1.length c1⟩, ⟨false, [], callFunc 148 #[.slice A1 p1.length c1, vi from1, vi to1], .bool r3⟩] [none, some (.slice A1 p1.length c1), none, none, some (.bool r3)] [1, 2, 3, 7, 43] [pl 1 (vi from1), pl 2 (vi to1), pl 3 (pa g1 0), pl 7 (vi r1), pl 43 (.bool r3)] hF hS ?_ (fun a w hF hS => ?_)
    ·exact obs_cons (ob_load Agg22 (fun _ _ hS => (hS.at_ 0 rfl).cell rfl)) <| obs_cons (ob_call Try.func148 (by kernel_rfl) rfl (fun _ _ hS => rf_Attacks_w hr3 hS (fun _ hS => (hr_p1 _ (hS.dropN 1))) _hc_p1 rfl)) <| obs_nil
    refine ce (t := 43) (b := r3) hF (fun hb => ?_) (fun hb => ?_)
    ·replace hm := if_t hm hb
     obtain ⟨hp3, hm⟩ := asrt_b hm
     refine rg [⟨false, [], vS (Instr.loadAt 22 (pa g1 0)), .slice A1 p1.length c1⟩, ⟨true, [], vS (Instr.indexAt 22 (.slice A1 p1.length c1) (vi to1)), .pointer (some (sAddr A1 to1))⟩, ⟨false, [], vS (Instr.loadAt 3 (.pointer (some (sAddr A1 to1)))), vi (geti p1 to1)⟩, ⟨false, [(((geti p1 to1) != 0), false)], vS (Instr.loadAt 3 (pa g1 3)), vi p4⟩] [none, some (.slice A1 p1.length c1), none, some (.pointer (some (sAddr A1 to1))), some (vi (geti p1 to1)), none, none, none, none, some (vi p4), none, none, none] [6] [pl 6 (.bool (((geti p1 to1) != 0) || (to1 == p4)))] hF hS ?_ (fun a w hF hS => ?_)
     ·exact obs_cons (ob_load Agg22 (fun _ _ hS => (hS.at_ 0 rfl).cell rfl)) <| obs_cons (ob_ix1 (f := (Value.int .i64)) (m := p1) Und22 hi3 hs3 (hr_p1 _ (hS.dropN 1)) rfl (fun _ => hp3)) <| obs_cons (ob_get1 (n := p1.length) (m := p1) (Value.int .i64) (0 : Int) Agg3 (fun _ hS => ⟨_, (hr_p1 _ (hS.dropN 1))⟩) (fun _ hS => rfl) (fun _ => hp3)) <| obs_cons (ob_load Agg3 (fun _ _ hS => (hS.at_ 0 rfl).cell rfl)) <| obs_nil
     refine wpIn_ret ?_
     refine then_r ?_
     have hS := hS.pickN 1 [] (by decide)
     have hm : some (((geti p1 to1) != 0) || (to1 == p4)) = some r := hm
     obtain rfl := Option.some.inj hm
     exact retV (rs := [.tmp 6]) (vs := [.bool (((geti p1 to1) != 0) || (to1 == p4))]) hF rfl rv1 rfl ⟨rfl, hS⟩
    ·replace hm := if_f hm hb
     refine wpIn_skip ?_
     refine then_n ?_
     exact ⟨hF.wk [1, 2, 3, 7], hS, hm⟩
  ·refine rg [] [] [1, 2, 3, 7, 33] [pl 1 (vi from1), pl 2 (vi to1), pl 3 (pa g1 0), pl 7 (vi r1), pl 33 (.bool ((w64 ((geti p1 from1) * r1)) != 1))] hF hS obs_nil (fun a w hF hS => ?_)
   refine ce (t := 33) (b := ((w64 ((geti p1 from1) * r1)) != 1)) hF (fun hb => ?_) (fun hb => ?_)
   ·replace hm := if_t hm hb
    obtain ⟨r2, hr2, hm⟩ := call_b hm
    refine rg [⟨false, [], vS (Instr.loadAt 22 (pa g1 0)), .slice A1 p1.length c1⟩, ⟨false, [], callFunc 148 #[.slice A1 p1.length c1, vi from1, vi to1], .bool r2⟩] [none, some (.slice A1 p1.length c1), none, none, some (.bool r2), none] [6] [pl 6 (.bool r2)] hF hS ?_ (fun a w hF hS => ?_)
    ·exact obs_cons (ob_load Agg22 (fun _ _ hS => (hS.at_ 0 rfl).cell rfl)) <| obs_cons (ob_call Try.func148 (by kernel_rfl) rfl (fun _ _ hS => rf_Attacks_w hr2 hS (fun _ hS => (hr_p1 _ (hS.dropN 1))) _hc_p1 rfl)) <| obs_nil
    refine wpIn_ret ?_
    refine then_r ?_
    have hS := hS.pickN 1 [] (by decide)
    have hm : some r2 = some r := hm
    obtain rfl := Option.some.inj hm
    exact retV (rs := [.tmp 6]) (vs := [.bool r2]) hF rfl rv1 rfl ⟨rfl, hS⟩
   ·replace hm := if_f hm hb
    refine wpIn_skip ?_
    refine then_n ?_
    exact ⟨hF.wk [1, 2, 3, 7], hS, hm⟩
 ·obtain ⟨hp2, hm⟩ := asrt_b hm
  refine rg [⟨false, [(decide ((w64 ((geti p1 from1) * r1)) ≤ 0), false)], vS (Instr.loadAt 22 (pa g1 0)), .slice A1 p1.length c1⟩, ⟨true, [(decide ((w64 ((geti p1 from1) * r1)) ≤ 0), false)], vS (Instr.indexAt 22 (.slice A1 p1.length c1) (vi to1)), .pointer (some (sAddr A1 to1))⟩, ⟨false, [(decide ((w64 ((geti p1 from1) * r1)) ≤ 0), false)], vS (Instr.loadAt 3 (.pointer (some (sAddr A1 to1)))), vi (geti p1 to1)⟩] [none, none, none, none, some (.slice A1 p1.length c1), none, some (.pointer (some (sAddr A1 to1))), some (vi (geti p1 to1)), none, none, none, none] [1, 2, 3, 7, 8, 31] [pl 1 (vi from1), pl 2 (vi to1), pl 3 (pa g1 0), pl 7 (vi r1), pl 8 (vi (w64 ((geti p1 from1) * r1))), pl 31 (.bool ((decide ((w64 ((geti p1 from1) * r1)) ≤ 0)) || (decide ((0 : Int) < (w64 ((geti p1 to1) * r1))))))] hF hS ?_ (fun a w hF hS => ?_)
  ·exact obs_cons (ob_load Agg22 (fun _ _ hS => (hS.at_ 0 rfl).cell rfl)) <| obs_cons (ob_ix1 (f := (Value.int .i64)) (m := p1) Und22 hi3 hs3 (hr_p1 _ (hS.dropN 1)) rfl (fun hy => hp2 (hy (decide ((w64 ((geti p1 from1) * r1)) ≤ 0), false) (by simp)))) <| obs_cons (ob_get1 (n := p1.length) (m := p1) (Value.int .i64) (0 : Int) Agg3 (fun _ hS => ⟨_, (hr_p1 _ (hS.dropN 1))⟩) (fun _ hS => rfl) (fun hy => hp2 (hy (decide ((w64 ((geti p1 from1) * r1)) ≤ 0), false) (by simp)))) <| obs_nil
  refine ce (t := 31) (b := (decide ((w64 ((geti p1 from1) * r1)) ≤ 0)) || (decide ((0 : Int) < (w64 ((geti p1 to1) * r1))))) hF (fun hb => ?_) (fun hb => ?_)
  ·replace hm := if_t hm hb
   refine rg [] [] [6] [pl 6 (.bool false)] hF hS obs_nil (fun a w hF hS => ?_)
   refine wpIn_ret ?_
   refine then_r ?_
   have hS := hS.pickN 1 [] (by decide)
   have hm : some false = some r := hm
   obtain rfl := Option.some.inj hm
   exact retV (rs := [.tmp 6]) (vs := [.bool false]) hF rfl rv1 rfl ⟨rfl, hS⟩
  ·replace hm := if_f hm hb
   refine wpIn_skip ?_
   refine then_n ?_
   exact ⟨hF.wk [1, 2, 3, 7, 8], hS, hm⟩

def rf_castleTo_J4  (i1 : Int) : Option (St Int (Fl Unit Int)) :=
 some (.next (w64 (i1 + 1)))

def rf_castleTo_J3  (p1 : List Int) (n2 i1 : Int) : Option (St Int (Fl Unit Int)) :=
 asrt (0 ≤ i1 ∧ i1 < (((geti2 ([([5, 6] : List Int), ([1, 2, 3] : List Int), ([61, 62] : List Int), ([57, 58, 59] : List Int)] : List (List Int)) n2).length : Nat) : Int)) <| asrt (0 ≤ (geti (geti2 ([([5, 6] : List Int), ([1, 2, 3] : List Int), ([61, 62] : List Int), ([57, 58, 59] : List Int)] : List (List Int)) n2) i1) ∧ (geti (geti2 ([([5, 6] : List Int), ([1, 2, 3] : List Int), ([61, 62] : List Int), ([57, 58, 59] : List Int)] : List (List Int)) n2) i1) < (p1.length : Int)) <| if ((geti p1 (geti (geti2 ([([5, 6] : List Int), ([1, 2, 3] : List Int), ([61, 62] : List Int), ([57, 58, 59] : List Int)] : List (List Int)) n2) i1)) != 0) then (some (.done (.ret (-1)))) else ((rf_castleTo_J4 i1))

def rf_castleTo_J7  (k1 : Int) : Option (St Int (Fl Unit Int)) :=
 some (.next (w64 (k1 + 1)))

def rf_castleTo_J6  (p1 : List Int) (p2 n2 k1 : Int) : Option (St Int (Fl Unit Int)) :=
 (rf_AttackersOf_m p1 (w64 ((geti ([4, 4, 60, 60] : List Int) n2) + (w64 (k1 * (geti ([1, (-1), 1, (-1)] : List Int) n2))))) (w64 (1 - p2))).bind fun r1 => if (decide ((0 : Int) < (r1.length : Int))) then (some (.done (.ret (-1)))) else ((rf_castleTo_J7 k1))

def rf_castleTo_L2  (p1 : List Int) (p2 n2 : Int) : Int → Option (St Int (Fl Unit Int)) :=
 fun (x : Int) => match x with | k1 => if (decide (k1 ≤ 2)) then ((rf_castleTo_J6 p1 p2 n2 k1)) else (some (.done (.go ())))

def rf_castleTo_J5  (n2 : Int) : Option Int :=
 some (w64 ((geti ([4, 4, 60, 60] : List Int) n2) + (w64 (2 * (geti ([1, (-1), 1, (-1)] : List Int) n2)))))

def rf_castleTo_K2  (n2 : Int) : (Fl Unit Int) → Option Int :=
 fun (x : (Fl Unit Int)) => match x with | .go _ => (rf_castleTo_J5 n2) | .ret x => some x

def rf_castleTo_J2  (p1 : List Int) (p2 n2 : Int) : Option Int :=
 asrt (0 ≤ n2 ∧ n2 < 4) <| (loop (rf_castleTo_L2 p1 p2 n2) 0).bind (rf_castleTo_K2 n2)

def rf_castleTo_K1  (p1 : List Int) (p2 n2 : Int) : (Fl Unit Int) → Option Int :=
 fun (x : (Fl Unit Int)) => match x with | .go _ => (rf_castleTo_J2 p1 p2 n2) | .ret x => some x

def rf_castleTo_L1  (p1 : List Int) (n2 : Int) : Int → Option (St Int (Fl Unit Int)) :=
 fun (x : Int) => match x with | i1 => if (decide (i1 < (((geti2 ([([5, 6] : List Int), ([1, 2, 3] : List Int), ([61, 62] : List Int), ([57, 58, 59] : List Int)] : List (List Int)) n2).length : Nat) : Int))) then ((rf_castleTo_J3 p1 n2 i1)) else (some (.done (.go ())))

def rf_castleTo_J1  (p1 : List Int) (p2 n2 : Int) : Option Int :=
 asrt (0 ≤ n2 ∧ n2 < 4) <| asrt (0 ≤ n2 ∧ n2 < 4) <| (loop (rf_castleTo_L1 p1 n2) 0).bind (rf_castleTo_K1 p1 p2 n2)

def rf_castleTo_m  (p1 : List Int) (p2 p3 : Int) (p4 p5 : Int) (p6 n2 : Int) : Option Int :=
 asrt ((0 : Int) ≤ n2) <| if (((bAnd (shrK .i64 p3 n2) 1) == 0) || ((w64 (Int.tdiv n2 2)) != p2)) then (some (-1)) else ((rf_castleTo_J1 p1 p2 n2))

theorem rf_castleTo_w  {A1 : Option Addr} {c1 n1 : Nat} {p1 : List Int} {p2 p3 : Int} {p4 p5 : Int} {p6 n2 r : Int} {w0 w : World} {B : Nat} {fs : List HP} (hm : rf_castleTo_m p1 p2 p3 p4 p5 p6 n2 = some r) (hS : Sep w0 B w (fs)) (hr_p1 : RdF w0 B fs A1 (vI p1)) (_hc_p1 : p1.length ≤ c1) (_hn_p1 : n1 = p1.length) :
  Calls Try.prog 119 #[.agg (ca A1 n1 c1 p2 p3 p4 p5 p6), vi n2] w fun e w' => e = .returned (vi r) ∧ Sep w0 B w' (fs) := by
 obtain ⟨i3, hi3, hz3, hs3, hb3⟩ := info_parts Info3
 obtain ⟨i22, hi22, hz22, hs22, hb22⟩ := info_parts Info22
 obtain rfl := _hn_p1
 unfold rf_castleTo_m at hm
 replace hm := start_b hm
 refine enter (l := [.agg (ca A1 p1.length c1 p2 p3 p4 p5 p6), vi n2]) (n := 75) Try.func119 rfl rfl (by simp) (fun a hF => ?_)
 refine seqR ?_
 refine at_do (d := 2) (s := vS (Instr.box 65 (.agg (ca A1 p1.length c1 p2 p3 p4 p5 p6)))) (v := pa w.heap.size 0) (w' := w.alloc (.cells (ca A1 p1.length c1 p2 p3 p4 p5 p6) 65)) hF (by kernel_rfl) (by kernel_rfl) (by kernel_rfl) (fun a hF => ?_)
 have hS : Sep w0 B (w.alloc (.cells (ca A1 p1.length c1 p2 p3 p4 p5 p6) 65)) (blk w.heap.size 65 (ca A1 p1.length c1 p2 p3 p4 p5 p6) :: (fs)) := hS.box 65 (ca A1 p1.length c1 p2 p3 p4 p5 p6)
 generalize w.heap.size = g1 at hF hS
 generalize w.alloc (.cells (ca A1 p1.length c1 p2 p3 p4 p5 p6) 65) = w at hS ⊢
 refine ar 1 [] [] [1, 2] [pl 1 (vi n2), pl 2 (pa g1 0)] hF hS obs_nil (fun a w hF hS => ?_)
 refine ae [1, 2] [pl 1 (vi n2), pl 2 (pa g1 0)] hF rfl (fun hF => ?_)
 refine then_n ?_
 refine seq_cut (fun a w => Fr 75 [pl 1 (vi n2), pl 2 (pa g1 0)] a ∧ Sep w0 B w (blk g1 65 (ca A1 p1.length c1 p2 p3 p4 p5 p6) :: fs) ∧ ((rf_castleTo_J1 p1 p2 n2)).bind some = some r) ?_ ?_
 ·rintro a w ⟨hF, hS, hm⟩
  unfold rf_castleTo_J1 at hm
  refine seqR ?_
  obtain ⟨hp2, hm⟩ := asrt_b hm
  refine at_do (d := 23) (s := vS (Instr.buildSlice 22 4 #[(0, vi 4), (1, vi 4), (2, vi 60), (3, vi 60)])) (v := .slice (some ⟨w.heap.size, 0, none⟩) 4 4) (w' := w.alloc (.cells #[vi 4, vi 4, vi 60, vi 60] 3)) hF (by kernel_rfl) (by kernel_rfl) (by kernel_rfl) (fun a hF => ?_)
  have hS : Sep w0 B (w.alloc (.cells #[vi 4, vi 4, vi 60, vi 60] 3)) (own 3 (.slice (some (⟨w.heap.size, 0, none⟩ : Addr)) 4 4) (vI ([4, 4, 60, 60] : List Int)) :: (blk g1 65 (ca A1 p1.length c1 p2 p3 p4 p5 p6) :: fs)) := hS.lit 3 #[vi 4, vi 4, vi 60, vi 60] 4 rfl (by omega)
  generalize (some (⟨w.heap.size, 0, none⟩ : Addr)) = g2 at hF hS
  generalize w.alloc (.cells #[vi 4, vi 4, vi 60, vi 60] 3) = w at hS ⊢
  refine ar 4 [⟨true, [], vS (Instr.indexAt 22 (.slice g2 4 4) (vi n2)), .pointer (some (sAddr g2 n2))⟩, ⟨false, [], vS (Instr.loadAt 3 (.pointer (some (sAddr g2 n2)))), vi (geti ([4, 4, 60, 60] : List Int) n2)⟩] [none, some (.pointer (some (sAddr g2 n2))), some (vi (geti ([4, 4, 60, 60] : List Int) n2)), none] [1, 2, 5] [pl 1 (vi n2), pl 2 (pa g1 0), pl 5 (vi (geti ([4, 4, 60, 60] : List Int) n2))] hF hS ?_ (fun a w hF hS => ?_)
  ·exact obs_cons (ob_ix1 (f := (Value.int .i64)) (m := ([4, 4, 60, 60] : List Int)) Und22 hi3 hs3 (hS.at_ 0 rfl).rd ((hS.at_ 0 rfl).len1) (fun _ => hp2)) <| obs_cons (ob_get1 (n := 4) (m := ([4, 4, 60, 60] : List Int)) (Value.int .i64) (0 : Int) Agg3 (fun _ hS => ⟨_, (hS.at_ 0 rfl).rd⟩) (fun _ hS => ((hS.at_ 0 rfl).len1)) (fun _ => hp2)) <| obs_nil
  refine ae [1, 2, 5] [pl 1 (vi n2), pl 2 (pa g1 0), pl 5 (vi (geti ([4, 4, 60, 60] : List Int) n2))] hF rfl (fun hF => ?_)
  refine then_n (seqR ?_)
  obtain ⟨hp3, hm⟩ := asrt_b hm
  refine at_do (d := 27) (s := vS (Instr.buildSlice 22 2 #[(0, vi 5), (1, vi 6)])) (v := .slice (some ⟨w.heap.size, 0, none⟩) 2 2) (w' := w.alloc (.cells #[vi 5, vi 6] 3)) hF (by kernel_rfl) (by kernel_rfl) (by kernel_rfl) (fun a hF => ?_)
  have hS : Sep w0 B (w.alloc (.cells #[vi 5, vi 6] 3)) (own 3 (.slice (some (⟨w.heap.size, 0, none⟩ : Addr)) 2 2) (vI ([5, 6] : List Int)) :: (own 3 (.slice g2 4 4) (vI ([4, 4, 60, 60] : List Int)) :: blk g1 65 (ca A1 p1.length c1 p2 p3 p4 p5 p6) :: fs)) := hS.lit 3 #[vi 5, vi 6] 2 rfl (by omega)
  generalize (some (⟨w.heap.size, 0, none⟩ : Addr)) = g3 at hF hS
  generalize w.alloc (.cells #[vi 5, vi 6] 3) = w at hS ⊢
  refine at_do (d := 28) (s := vS (Instr.buildSlice 22 3 #[(0, vi 1), (1, vi 2), (2, vi 3)])) (v := .slice (some ⟨w.heap.size, 0, none⟩) 3 3) (w' := w.alloc (.cells #[vi 1, vi 2, vi 3] 3)) hF (by kernel_rfl) (by kernel_rfl) (by kernel_rfl) (fun a hF => ?_)
  have hS : Sep w0 B (w.alloc (.cells #[vi 1, vi 2, vi 3] 3)) (own 3 (.slice (some (⟨w.heap.size, 0, none⟩ : Addr)) 3 3) (vI ([1, 2, 3] : List Int)) :: (own 3 (.slice g3 2 2) (vI ([5, 6] : List Int)) :: own 3 (.slice g2 4 4) (vI ([4, 4, 60, 60] : List Int)) :: blk g1 65 (ca A1 p1.length c1 p2 p3 p4 p5 p6) :: fs)) := hS.lit 3 #[vi 1, vi 2, vi 3] 3 rfl (by omega)
  generalize (some (⟨w.heap.size, 0, none⟩ : Addr)) = g4 at hF hS
  generalize w.alloc (.cells #[vi 1, vi 2, vi 3] 3) = w at hS ⊢
  refine at_do (d := 29) (s := vS (Instr.buildSlice 22 2 #[(0, vi 61), (1, vi 62)])) (v := .slice (some ⟨w.heap.size, 0, none⟩) 2 2) (w' := w.alloc (.cells #[vi 61, vi 62] 3)) hF (by kernel_rfl) (by kernel_rfl) (by kernel_rfl) (fun a hF => ?_)
  have hS : Sep w0 B (w.alloc (.cells #[vi 61, vi 62] 3)) (own 3 (.slice (some (⟨w.heap.size, 0, none⟩ : Addr)) 2 2) (vI ([61, 62] : List Int)) :: (own 3 (.slice g4 3 3) (vI ([1, 2, 3] : List Int)) :: own 3 (.slice g3 2 2) (vI ([5, 6] : List Int)) :: own 3 (.slice g2 4 4) (vI ([4, 4, 60, 60] : List Int)) :: blk g1 65 (ca A1 p1.length c1 p2 p3 p4 p5 p6) :: fs)) := hS.lit 3 #[vi 61, vi 62] 2 rfl (by omega)
  generalize (some (⟨w.heap.size, 0, none⟩ : Addr)) = g5 at hF hS
  generalize w.alloc (.cells #[vi 61, vi 62] 3) = w at hS ⊢
  refine at_do (d := 30) (s := vS (Instr.buildSlice 22 3 #[(0, vi 57), (1, vi 58), (2, vi 59)])) (v := .slice (some ⟨w.heap.size, 0, none⟩) 3 3) (w' := w.alloc (.cells #[vi 57, vi 58, vi 59] 3)) hF (by kernel_rfl) (by kernel_rfl) (by kernel_rfl) (fun a hF => ?_)
  have hS : Sep w0 B (w.alloc (.cells #[vi 57, vi 58, vi 59] 3)) (own 3 (.slice (some (⟨w.heap.size, 0, none⟩ : Addr)) 3 3) (vI ([57, 58, 59] : List Int)) :: (own 3 (.slice g5 2 2) (vI ([61, 62] : List Int)) :: own 3 (.slice g4 3 3) (vI ([1, 2, 3] : List Int)) :: own 3 (.slice g3 2 2) (vI ([5, 6] : List Int)) :: own 3 (.slice g2 4 4) (vI ([4, 4, 60, 60] : List Int)) :: blk g1 65 (ca A1 p1.length c1 p2 p3 p4 p5 p6) :: fs)) := hS.lit 3 #[vi 57, vi 58, vi 59] 3 rfl (by omega)
  generalize (some (⟨w.heap.size, 0, none⟩ : Addr)) = g6 at hF hS
  generalize w.alloc (.cells #[vi 57, vi 58, vi 59] 3) = w at hS ⊢
  refine at_do (d := 31) (s := vS (Instr.buildSlice 74 4 #[(0, .slice g3 2 2), (1, .slice g4 3 3), (2, .slice g5 2 2), (3, .slice g6 3 3)])) (v := .slice (some ⟨w.heap.size, 0, none⟩) 4 4) (w' := w.alloc (.cells #[.slice g3 2 2, .slice g4 3 3, .slice g5 2 2, .slice g6 3 3] 22)) hF (by kernel_rfl) (by kernel_rfl) (by kernel_rfl) (fun a hF => ?_)
  have hS : Sep w0 B (w.alloc (.cells #[.slice g3 2 2, .slice g4 3 3, .slice g5 2 2, .slice g6 3 3] 22)) (own 22 (.slice (some (⟨w.heap.size, 0, none⟩ : Addr)) 4 4) [.slice g3 2 2, .slice g4 3 3, .slice g5 2 2, .slice g6 3 3] :: (own 3 (.slice g6 3 3) (vI ([57, 58, 59] : List Int)) :: own 3 (.slice g5 2 2) (vI ([61, 62] : List Int)) :: own 3 (.slice g4 3 3) (vI ([1, 2, 3] : List Int)) :: own 3 (.slice g3 2 2) (vI ([5, 6] : List Int)) :: own 3 (.slice g2 4 4) (vI ([4, 4, 60, 60] : List Int)) :: blk g1 65 (ca A1 p1.length c1 p2 p3 p4 p5 p6) :: fs)) := hS.lit 22 #[.slice g3 2 2, .slice g4 3 3, .slice g5 2 2, .slice g6 3 3] 4 rfl (by omega)
  generalize (some (⟨w.heap.size, 0, none⟩ : Addr)) = g7 at hF hS
  generalize w.alloc (.cells #[.slice g3 2 2, .slice g4 3 3, .slice g5 2 2, .slice g6 3 3] 22) = w at hS ⊢
  refine ar 4 [⟨true, [], vS (Instr.indexAt 74 (.slice g7 4 4) (vi n2)), .pointer (some (sAddr g7 n2))⟩, ⟨false, [], vS (Instr.loadAt 22 (.pointer (some (sAddr g7 n2)))), .slice (hdA ([(g3, 2), (g4, 3), (g5, 2), (g6, 3)] : List Hd) n2) ((geti2 ([([5, 6] : List Int), ([1, 2, 3] : List Int), ([61, 62] : List Int), ([57, 58, 59] : List Int)] : List (List Int)) n2).length) (hdC ([(g3, 2), (g4, 3), (g5, 2), (g6, 3)] : List Hd) n2)⟩] [none, some (.pointer (some (sAddr g7 n2))), some (.slice (hdA ([(g3, 2), (g4, 3), (g5, 2), (g6, 3)] : List Hd) n2) ((geti2 ([([5, 6] : List Int), ([1, 2, 3] : List Int), ([61, 62] : List Int), ([57, 58, 59] : List Int)] : List (List Int)) n2).length) (hdC ([(g3, 2), (g4, 3), (g5, 2), (g6, 3)] : List Hd) n2)), none] [1, 2, 5, 6] [pl 1 (vi n2), pl 2 (pa g1 0), pl 5 (vi (geti ([4, 4, 60, 60] : List Int) n2)), pl 6 (.slice (hdA ([(g3, 2), (g4, 3), (g5, 2), (g6, 3)] : List Hd) n2) ((geti2 ([([5, 6] : List Int), ([1, 2, 3] : List Int), ([61, 62] : List Int), ([57, 58, 59] : List Int)] : List (List Int)) n2).length) (hdC ([(g3, 2), (g4, 3), (g5, 2), (g6, 3)] : List Hd) n2))] hF hS ?_ (fun a w hF hS => ?_)
  ·exact obs_cons (ob_ixRn Und74 hi22 hs22 (rdLit (hd := ([(g3, 2), (g4, 3), (g5, 2), (g6, 3)] : List Hd)) (m := ([([5, 6] : List Int), ([1, 2, 3] : List Int), ([61, 62] : List Int), ([57, 58, 59] : List Int)] : List (List Int))) hS 0 rfl ⟨⟨(hS.at_ 4 rfl).rd, ((hS.at_ 4 rfl).cap1)⟩, ⟨(hS.at_ 3 rfl).rd, ((hS.at_ 3 rfl).cap1)⟩, ⟨(hS.at_ 2 rfl).rd, ((hS.at_ 2 rfl).cap1)⟩, ⟨(hS.at_ 1 rfl).rd, ((hS.at_ 1 rfl).cap1)⟩, trivial⟩) rfl (fun _ => hp3)) <| obs_cons (ob_getR Agg22 (fun _ hS => ⟨_, (rdLit (hd := ([(g3, 2), (g4, 3), (g5, 2), (g6, 3)] : List Hd)) (m := ([([5, 6] : List Int), ([1, 2, 3] : List Int), ([61, 62] : List Int), ([57, 58, 59] : List Int)] : List (List Int))) hS 0 rfl ⟨⟨(hS.at_ 4 rfl).rd, ((hS.at_ 4 rfl).cap1)⟩, ⟨(hS.at_ 3 rfl).rd, ((hS.at_ 3 rfl).cap1)⟩, ⟨(hS.at_ 2 rfl).rd, ((hS.at_ 2 rfl).cap1)⟩, ⟨(hS.at_ 1 rfl).rd, ((hS.at_ 1 rfl).cap1)⟩, trivial⟩)⟩) (fun _ => hp3)) <| obs_nil
  refine ae [1, 2, 5, 6] [pl 1 (vi n2), pl 2 (pa g1 0), pl 5 (vi (geti ([4, 4, 60, 60] : List Int) n2)), pl 6 (.slice (hdA ([(g3, 2), (g4, 3), (g5, 2), (g6, 3)] : List Hd) n2) ((geti2 ([([5, 6] : List Int), ([1, 2, 3] : List Int), ([61, 62] : List Int), ([57, 58, 59] : List Int)] : List (List Int)) n2).length) (hdC ([(g3, 2), (g4, 3), (g5, 2), (g6, 3)] : List Hd) n2))] hF rfl (fun hF => ?_)
  refine then_n ?_
  refine seq_cut (fun a w => Fr 75 [pl 1 (vi n2), pl 2 (pa g1 0), pl 5 (vi (geti ([4, 4, 60, 60] : List Int) n2))] a ∧ Sep w0 B w (blk g1 65 (ca A1 p1.length c1 p2 p3 p4 p5 p6) :: fs) ∧ ((rf_castleTo_J2 p1 p2 n2)).bind some = some r) ?_ ?_
  ·rintro a w ⟨hF, hS, hm⟩
   unfold rf_castleTo_J2 at hm
   refine seqR ?_
   obtain ⟨hp6, hm⟩ := asrt_b hm
   refine at_do (d := 50) (s := vS (Instr.buildSlice 22 4 #[(0, vi 1), (1, vi (-1)), (2, vi 1), (3, vi (-1))])) (v := .slice (some ⟨w.heap.size, 0, none⟩) 4 4) (w' := w.alloc (.cells #[vi 1, vi (-1), vi 1, vi (-1)] 3)) hF (by kernel_rfl) (by kernel_rfl) (by kernel_rfl) (fun a hF => ?_)
   have hS : Sep w0 B (w.alloc (.cells #[vi 1, vi (-1), vi 1, vi (-1)] 3)) (own 3 (.slice (some (⟨w.heap.size, 0, none⟩ : Addr)) 4 4) (vI ([1, (-1), 1, (-1)] : List Int)) :: (blk g1 65 (ca A1 p1.length c1 p2 p3 p4 p5 p6) :: fs)) := hS.lit 3 #[vi 1, vi (-1), vi 1, vi (-1)] 4 rfl (by omega)
   generalize (some (⟨w.heap.size, 0, none⟩ : Addr)) = g8 at hF hS
   generalize w.alloc (.cells #[vi 1, vi (-1), vi 1, vi (-1)] 3) = w at hS ⊢
   refine ar 4 [⟨true, [], vS (Instr.indexAt 22 (.slice g8 4 4) (vi n2)), .pointer (some (sAddr g8 n2))⟩, ⟨false, [], vS (Instr.loadAt 3 (.pointer (some (sAddr g8 n2)))), vi (geti ([1, (-1), 1, (-1)] : List Int) n2)⟩] [none, some (.pointer (some (sAddr g8 n2))), some (vi (geti ([1, (-1), 1, (-1)] : List Int) n2)), none] [2, 5, 8] [pl 2 (pa g1 0), pl 5 (vi (geti ([4, 4, 60, 60] : List Int) n2)), pl 8 (vi (geti ([1, (-1), 1, (-1)] : List Int) n2))] hF hS ?_ (fun a w hF hS => ?_)
   ·exact obs_cons (ob_ix1 (f := (Value.int .i64)) (m := ([1, (-1), 1, (-1)] : List Int)) Und22 hi3 hs3 (hS.at_ 0 rfl).rd ((hS.at_ 0 rfl).len1) (fun _ => hp6)) <| obs_cons (ob_get1 (n := 4) (m := ([1, (-1), 1, (-1)] : List Int)) (Value.int .i64) (0 : Int) Agg3 (fun _ hS => ⟨_, (hS.at_ 0 rfl).rd⟩) (fun _ hS => ((hS.at_ 0 rfl).len1)) (fun _ => hp6)) <| obs_nil
   refine ae [2, 5, 8] [pl 2 (pa g1 0), pl 5 (vi (geti ([4, 4, 60, 60] : List Int) n2)), pl 8 (vi (geti ([1, (-1), 1, (-1)] : List Int) n2))] hF rfl (fun hF => ?_)
   refine then_n ?_
   refine seq_cut (fun a w => Fr 75 [pl 5 (vi (geti ([4, 4, 60, 60] : List Int) n2)), pl 8 (vi (geti ([1, (-1), 1, (-1)] : List Int) n2))] a ∧ Sep w0 B w (fs) ∧ ((rf_castleTo_J5 n2)).bind some = some r) ?_ ?_
   ·rintro a w ⟨hF, hS, hm⟩
    unfold rf_castleTo_J5 at hm
    refine rg [] [] [4] [pl 4 (vi (w64 ((geti ([4, 4, 60, 60] : List Int) n2) + (w64 (2 * (geti ([1, (-1), 1, (-1)] : List Int) n2))))))] hF hS obs_nil (fun a w hF hS => ?_)
    refine wpIn_ret ?_
    have hm : some (w64 ((geti ([4, 4, 60, 60] : List Int) n2) + (w64 (2 * (geti ([1, (-1), 1, (-1)] : List Int) n2))))) = some r := hm
    obtain rfl := Option.some.inj hm
    exact retV (rs := [.tmp 4]) (vs := [vi (w64 ((geti ([4, 4, 60, 60] : List Int) n2) + (w64 (2 * (geti ([1, (-1), 1, (-1)] : List Int) n2)))))]) hF rfl rv1 rfl ⟨rfl, hS⟩
   ·refine rg [] [] [2, 5, 8, 9] [pl 2 (pa g1 0), pl 5 (vi (geti ([4, 4, 60, 60] : List Int) n2)), pl 8 (vi (geti ([1, (-1), 1, (-1)] : List Int) n2)), pl 9 (vi 0)] hF hS obs_nil (fun a w hF hS => ?_)
    refine wpIn_block ?_
    have hS := hS.pickN 2 [1] (by decide)
    refine wp_loop_model (S := Int) (R := (Fl Unit Int)) (rf_castleTo_L2 p1 p2 n2) (fun x => ((rf_castleTo_K2 n2) x).bind some) r (fun (x : Int) a w => Fr 75 [pl 2 (pa g1 0), pl 5 (vi (geti ([4, 4, 60, 60] : List Int) n2)), pl 8 (vi (geti ([1, (-1), 1, (-1)] : List Int) n2)), pl 9 (vi x)] a ∧ Sep w0 B w (blk g1 65 (ca A1 p1.length c1 p2 p3 p4 p5 p6) :: fs)) (assoc_b hm) ⟨hF.wk [2, 5, 8, 9], hS⟩ ?_
    clear hF hS hm
    rintro nn2 k1 a w ⟨hF, hS⟩ hm
    generalize hφ2 : stK (rf_castleTo_L2 p1 p2 n2) nn2 (fun x => ((rf_castleTo_K2 n2) x).bind some) = φ2 at hm
    unfold rf_castleTo_L2 at hm
    dsimp only at hm
    refine seq_cut (fun a w => Fr 75 [pl 2 (pa g1 0), pl 5 (vi (geti ([4, 4, 60, 60] : List Int) n2)), pl 8 (vi (geti ([1, (-1), 1, (-1)] : List Int) n2)), pl 9 (vi k1)] a ∧ Sep w0 B w (blk g1 65 (ca A1 p1.length c1 p2 p3 p4 p5 p6) :: fs) ∧ ((rf_castleTo_J6 p1 p2 n2 k1)).bind φ2 = some r) ?_ ?_
    ·rintro a w ⟨hF, hS, hm⟩
     unfold rf_castleTo_J6 at hm
     refine seq_cut (fun a w => Fr 75 [pl 2 (pa g1 0), pl 5 (vi (geti ([4, 4, 60, 60] : List Int) n2)), pl 8 (vi (geti ([1, (-1), 1, (-1)] : List Int) n2)), pl 9 (vi k1)] a ∧ Sep w0 B w (blk g1 65 (ca A1 p1.length c1 p2 p3 p4 p5 p6) :: fs) ∧ ((rf_castleTo_J7 k1)).bind φ2 = some r) ?_ ?_
     ·rintro a w ⟨hF, hS, hm⟩
      unfold rf_castleTo_J7 at hm
      refine rg1 [] [] [2, 5, 8, 9] [pl 2 (pa g1 0), pl 5 (vi (geti ([4, 4, 60, 60] : List Int) n2)), pl 8 (vi (geti ([1, (-1), 1, (-1)] : List Int) n2)), pl 9 (vi (w64 (k1 + 1)))] hF hS obs_nil (fun a w hF hS => ?_)
      refine then_n ?_
      rw [← hφ2] at hm
      exact ⟨(w64 (k1 + 1)), ⟨hF.wk [2, 5, 8, 9], hS⟩, hm⟩
     ·refine wpIn_block ?_
      refine seqR ?_
      obtain ⟨r1, hr1, hm⟩ := call_b hm
      refine ar 10 [⟨false, [], vS (Instr.loadAt 22 (pa g1 0)), .slice A1 p1.length c1⟩, ⟨false, [], vS (Instr.loadAt 3 (pa g1 1)), vi p2⟩] [none, some (.slice A1 p1.length c1), none, none, none, none, none, none, some (vi p2), none] [2, 5, 8, 9, 59, 64, 67] [pl 2 (pa g1 0), pl 5 (vi (geti ([4, 4, 60, 60] : List Int) n2)), pl 8 (vi (geti ([1, (-1), 1, (-1)] : List Int) n2)), pl 9 (vi k1), pl 59 (.slice A1 p1.length c1), pl 64 (vi (w64 ((geti ([4, 4, 60, 60] : List Int) n2) + (w64 (k1 * (geti ([1, (-1), 1, (-1)] : List Int) n2)))))), pl 67 (vi (w64 (1 - p2)))] hF hS ?_ (fun a w hF hS => ?_)
      ·exact obs_cons (ob_load Agg22 (fun _ _ hS => (hS.at_ 0 rfl).cell rfl)) <| obs_cons (ob_load Agg3 (fun _ _ hS => (hS.at_ 0 rfl).cell rfl)) <| obs_nil
      refine at_call (f := 116) (args := #[.slice A1 p1.length c1, vi (w64 ((geti ([4, 4, 60, 60] : List Int) n2) + (w64 (k1 * (geti ([1, (-1), 1, (-1)] : List Int) n2))))), vi (w64 (1 - p2))]) (d := 68) hF (by kernel_rfl) (by kernel_rfl) Try.func116 (by kernel_rfl) rfl (rf_AttackersOf_w hr1 hS (fun _ hS => (hr_p1 _ (hS.dropN 1))) _hc_p1 rfl) (fun v a w hR hF => ?_)
      clear hS
      obtain ⟨A2, c2, rfl, hS⟩ := hR
      have hS : Sep w0 B w (own 3 (.slice A2 r1.length c2) (vI r1) :: blk g1 65 (ca A1 p1.length c1 p2 p3 p4 p5 p6) :: fs) := hS
      refine ar 2 [] [] [2, 5, 8, 9, 70] [pl 2 (pa g1 0), pl 5 (vi (geti ([4, 4, 60, 60] : List Int) n2)), pl 8 (vi (geti ([1, (-1), 1, (-1)] : List Int) n2)), pl 9 (vi k1), pl 70 (.bool (decide ((0 : Int) < (r1.length : Int))))] hF hS obs_nil (fun a w hF hS => ?_)
      refine ae [2, 5, 8, 9, 70] [pl 2 (pa g1 0), pl 5 (vi (geti ([4, 4, 60, 60] : List Int) n2)), pl 8 (vi (geti ([1, (-1), 1, (-1)] : List Int) n2)), pl 9 (vi k1), pl 70 (.bool (decide ((0 : Int) < (r1.length : Int))))] hF rfl (fun hF => ?_)
      refine then_n ?_
      refine ce (t := 70) (b := decide ((0 : Int) < (r1.length : Int))) hF (fun hb => ?_) (fun hb => ?_)
      ·replace hm := if_t hm hb
       refine rg [] [] [4] [pl 4 (vi (-1))] hF hS obs_nil (fun a w hF hS => ?_)
       refine wpIn_ret ?_
       refine block_r (then_r (then_r (block_r (then_r ?_))))
       rw [← hφ2] at hm
       replace hm := done_b hm
       unfold rf_castleTo_K2 at hm
       try dsimp only at hm
       have hS := hS.pickN 2 [] (by decide)
       have hm : some (-1) = some r := hm
       obtain rfl := Option.some.inj hm
       exact retV (rs := [.tmp 4]) (vs := [vi (-1)]) hF rfl rv1 rfl ⟨rfl, hS⟩
      ·replace hm := if_f hm hb
       refine wpIn_skip ?_
       refine block_n ?_
       refine then_n ?_
       have hS := hS.pickN 2 [1] (by decide)
       exact ⟨hF.wk [2, 5, 8, 9], hS, hm⟩
    ·refine rg [] [] [2, 5, 8, 9, 55] [pl 2 (pa g1 0), pl 5 (vi (geti ([4, 4, 60, 60] : List Int) n2)), pl 8 (vi (geti ([1, (-1), 1, (-1)] : List Int) n2)), pl 9 (vi k1), pl 55 (.bool (decide (k1 ≤ 2)))] hF hS obs_nil (fun a w hF hS => ?_)
     refine ce (t := 55) (b := decide (k1 ≤ 2)) hF (fun hb => ?_) (fun hb => ?_)
     ·replace hm := if_t hm hb
      refine wpIn_skip ?_
      refine then_n ?_
      exact ⟨hF.wk [2, 5, 8, 9], hS, hm⟩
     ·replace hm := if_f hm hb
      refine wpIn_exit ?_
      refine then_e (then_e (block_e (then_n ?_)))
      have hS := hS.pickN 1 [] (by decide)
      rw [← hφ2] at hm
      replace hm := done_b hm
      unfold rf_castleTo_K2 at hm
      try dsimp only at hm
      have hm : ((rf_castleTo_J5 n2)).bind some = some r := hm
      exact ⟨hF.wk [5, 8], hS, hm⟩
  ·refine rg [] [] [1, 2, 5, 6, 7] [pl 1 (vi n2), pl 2 (pa g1 0), pl 5 (vi (geti ([4, 4, 60, 60] : List Int) n2)), pl 6 (.slice (hdA ([(g3, 2), (g4, 3), (g5, 2), (g6, 3)] : List Hd) n2) ((geti2 ([([5, 6] : List Int), ([1, 2, 3] : List Int), ([61, 62] : List Int), ([57, 58, 59] : List Int)] : List (List Int)) n2).length) (hdC ([(g3, 2), (g4, 3), (g5, 2), (g6, 3)] : List Hd) n2)), pl 7 (vi 0)] hF hS obs_nil (fun a w hF hS => ?_)
   refine wpIn_block ?_
   have hS := hS.pickN 7 [6, 0, 4, 3, 2, 1] (by decide)
   refine wp_loop_model (S := Int) (R := (Fl Unit Int)) (rf_castleTo_L1 p1 n2) (fun x => ((rf_castleTo_K1 p1 p2 n2) x).bind some) r (fun (x : Int) a w => Fr 75 [pl 1 (vi n2), pl 2 (pa g1 0), pl 5 (vi (geti ([4, 4, 60, 60] : List Int) n2)), pl 6 (.slice (hdA ([(g3, 2), (g4, 3), (g5, 2), (g6, 3)] : List Hd) n2) ((geti2 ([([5, 6] : List Int), ([1, 2, 3] : List Int), ([61, 62] : List Int), ([57, 58, 59] : List Int)] : List (List Int)) n2).length) (hdC ([(g3, 2), (g4, 3), (g5, 2), (g6, 3)] : List Hd) n2)), pl 7 (vi x)] a ∧ Sep w0 B w (blk g1 65 (ca A1 p1.length c1 p2 p3 p4 p5 p6) :: own 22 (.slice g7 4 4) [.slice g3 2 2, .slice g4 3 3, .slice g5 2 2, .slice g6 3 3] :: own 3 (.slice g3 2 2) (vI ([5, 6] : List Int)) :: own 3 (.slice g4 3 3) (vI ([1, 2, 3] : List Int)) :: own 3 (.slice g5 2 2) (vI ([61, 62] : List Int)) :: own 3 (.slice g6 3 3) (vI ([57, 58, 59] : List Int)) :: fs)) (assoc_b hm) ⟨hF.wk [1, 2, 5, 6, 7], hS⟩ ?_
   clear hF hS hm
   rintro nn1 i1 a w ⟨hF, hS⟩ hm
   generalize hφ1 : stK (rf_castleTo_L1 p1 n2) nn1 (fun x => ((rf_castleTo_K1 p1 p2 n2) x).bind some) = φ1 at hm
   unfold rf_castleTo_L1 at hm
   dsimp only at hm
   refine seq_cut (fun a w => Fr 75 [pl 1 (vi n2), pl 2 (pa g1 0), pl 5 (vi (geti ([4, 4, 60, 60] : List Int) n2)), pl 6 (.slice (hdA ([(g3, 2), (g4, 3), (g5, 2), (g6, 3)] : List Hd) n2) ((geti2 ([([5, 6] : List Int), ([1, 2, 3] : List Int), ([61, 62] : List Int), ([57, 58, 59] : List Int)] : List (List Int)) n2).length) (hdC ([(g3, 2), (g4, 3), (g5, 2), (g6, 3)] : List Hd) n2)), pl 7 (vi i1)] a ∧ Sep w0 B w (blk g1 65 (ca A1 p1.length c1 p2 p3 p4 p5 p6) :: own 22 (.slice g7 4 4) [.slice g3 2 2, .slice g4 3 3, .slice g5 2 2, .slice g6 3 3] :: own 3 (.slice g3 2 2) (vI ([5, 6] : List Int)) :: own 3 (.slice g4 3 3) (vI ([1, 2, 3] : List Int)) :: own 3 (.slice g5 2 2) (vI ([61, 62] : List Int)) :: own 3 (.slice g6 3 3) (vI ([57, 58, 59] : List Int)) :: fs) ∧ ((rf_castleTo_J3 p1 n2 i1)).bind φ1 = some r) ?_ ?_
   ·rintro a w ⟨hF, hS, hm⟩
    unfold rf_castleTo_J3 at hm
    refine seq_cut (fun a w => Fr 75 [pl 1 (vi n2), pl 2 (pa g1 0), pl 5 (vi (geti ([4, 4, 60, 60] : List Int) n2)), pl 6 (.slice (hdA ([(g3, 2), (g4, 3), (g5, 2), (g6, 3)] : List Hd) n2) ((geti2 ([([5, 6] : List Int), ([1, 2, 3] : List Int), ([61, 62] : List Int), ([57, 58, 59] : List Int)] : List (List Int)) n2).length) (hdC ([(g3, 2), (g4, 3), (g5, 2), (g6, 3)] : List Hd) n2)), pl 7 (vi i1)] a ∧ Sep w0 B w (blk g1 65 (ca A1 p1.length c1 p2 p3 p4 p5 p6) :: own 22 (.slice g7 4 4) [.slice g3 2 2, .slice g4 3 3, .slice g5 2 2, .slice g6 3 3] :: own 3 (.slice g3 2 2) (vI ([5, 6] : List Int)) :: own 3 (.slice g4 3 3) (vI ([1, 2, 3] : List Int)) :: own 3 (.slice g5 2 2) (vI ([61, 62] : List Int)) :: own 3 (.slice g6 3 3) (vI ([57, 58, 59] : List Int)) :: fs) ∧ ((rf_castleTo_J4 i1)).bind φ1 = some r) ?_ ?_
    ·rintro a w ⟨hF, hS, hm⟩
     unfold rf_castleTo_J4 at hm
     refine rg1 [] [] [1, 2, 5, 6, 7] [pl 1 (vi n2), pl 2 (pa g1 0), pl 5 (vi (geti ([4, 4, 60, 60] : List Int) n2)), pl 6 (.slice (hdA ([(g3, 2), (g4, 3), (g5, 2), (g6, 3)] : List Hd) n2) ((geti2 ([([5, 6] : List Int), ([1, 2, 3] : List Int), ([61, 62] : List Int), ([57, 58, 59] : List Int)] : List (List Int)) n2).length) (hdC ([(g3, 2), (g4, 3), (g5, 2), (g6, 3)] : List Hd) n2)), pl 7 (vi (w64 (i1 + 1)))] hF hS obs_nil (fun a w hF hS => ?_)
     refine then_n ?_
     rw [← hφ1] at hm
     exact ⟨(w64 (i1 + 1)), ⟨hF.wk [1, 2, 5, 6, 7], hS⟩, hm⟩
    ·refine wpIn_block ?_
     obtain ⟨hp4, hm⟩ := asrt_b hm
     obtain ⟨hp5, hm⟩ := asrt_b hm
     refine rg [⟨false, [], vS (Instr.loadAt 22 (pa g1 0)), .slice A1 p1.length c1⟩, ⟨true, [], vS (Instr.indexAt 22 (.slice (hdA ([(g3, 2), (g4, 3), (g5, 2), (g6, 3)] : List Hd) n2) ((geti2 ([([5, 6] : List Int), ([1, 2, 3] : List Int), ([61, 62] : List Int), ([57, 58, 59] : List Int)] : List (List Int)) n2).length) (hdC ([(g3, 2), (g4, 3), (g5, 2), (g6, 3)] : List Hd) n2)) (vi i1)), .pointer (some (sAddr (hdA ([(g3, 2), (g4, 3), (g5, 2), (g6, 3)] : List Hd) n2) i1))⟩, ⟨false, [], vS (Instr.loadAt 3 (.pointer (some (sAddr (hdA ([(g3, 2), (g4, 3), (g5, 2), (g6, 3)] : List Hd) n2) i1)))), vi (geti (geti2 ([([5, 6] : List Int), ([1, 2, 3] : List Int), ([61, 62] : List Int), ([57, 58, 59] : List Int)] : List (List Int)) n2) i1)⟩, ⟨true, [], vS (Instr.indexAt 22 (.slice A1 p1.length c1) (vi (geti (geti2 ([([5, 6] : List Int), ([1, 2, 3] : List Int), ([61, 62] : List Int), ([57, 58, 59] : List Int)] : List (List Int)) n2) i1))), .pointer (some (sAddr A1 (geti (geti2 ([([5, 6] : List Int), ([1, 2, 3] : List Int), ([61, 62] : List Int), ([57, 58, 59] : List Int)] : List (List Int)) n2) i1)))⟩, ⟨false, [], vS (Instr.loadAt 3 (.pointer (some (sAddr A1 (geti (geti2 ([([5, 6] : List Int), ([1, 2, 3] : List Int), ([61, 62] : List Int), ([57, 58, 59] : List Int)] : List (List Int)) n2) i1))))), vi (geti p1 (geti (geti2 ([([5, 6] : List Int), ([1, 2, 3] : List Int), ([61, 62] : List Int), ([57, 58, 59] : List Int)] : List (List Int)) n2) i1))⟩] [none, some (.slice A1 p1.length c1), none, none, some (.pointer (some (sAddr (hdA ([(g3, 2), (g4, 3), (g5, 2), (g6, 3)] : List Hd) n2) i1))), some (vi (geti (geti2 ([([5, 6] : List Int), ([1, 2, 3] : List Int), ([61, 62] : List Int), ([57, 58, 59] : List Int)] : List (List Int)) n2) i1)), some (.pointer (some (sAddr A1 (geti (geti2 ([([5, 6] : List Int), ([1, 2, 3] : List Int), ([61, 62] : List Int), ([57, 58, 59] : List Int)] : List (List Int)) n2) i1)))), some (vi (geti p1 (geti (geti2 ([([5, 6] : List Int), ([1, 2, 3] : List Int), ([61, 62] : List Int), ([57, 58, 59] : List Int)] : List (List Int)) n2) i1))), none] [1, 2, 5, 6, 7, 49] [pl 1 (vi n2), pl 2 (pa g1 0), pl 5 (vi (geti ([4, 4, 60, 60] : List Int) n2)), pl 6 (.slice (hdA ([(g3, 2), (g4, 3), (g5, 2), (g6, 3)] : List Hd) n2) ((geti2 ([([5, 6] : List Int), ([1, 2, 3] : List Int), ([61, 62] : List Int), ([57, 58, 59] : List Int)] : List (List Int)) n2).length) (hdC ([(g3, 2), (g4, 3), (g5, 2), (g6, 3)] : List Hd) n2)), pl 7 (vi i1), pl 49 (.bool ((geti p1 (geti (geti2 ([([5, 6] : List Int), ([1, 2, 3] : List Int), ([61, 62] : List Int), ([57, 58, 59] : List Int)] : List (List Int)) n2) i1)) != 0))] hF hS ?_ (fun a w hF hS => ?_)
     ·exact obs_cons (ob_load Agg22 (fun _ _ hS => (hS.at_ 0 rfl).cell rfl)) <| obs_cons (ob_ix1 (f := (Value.int .i64)) (m := (geti2 ([([5, 6] : List Int), ([1, 2, 3] : List Int), ([61, 62] : List Int), ([57, 58, 59] : List Int)] : List (List Int)) n2)) Und22 hi3 hs3 ((rdLit (hd := ([(g3, 2), (g4, 3), (g5, 2), (g6, 3)] : List Hd)) (m := ([([5, 6] : List Int), ([1, 2, 3] : List Int), ([61, 62] : List Int), ([57, 58, 59] : List Int)] : List (List Int))) hS 1 rfl ⟨⟨(hS.at_ 2 rfl).rd, ((hS.at_ 2 rfl).cap1)⟩, ⟨(hS.at_ 3 rfl).rd, ((hS.at_ 3 rfl).cap1)⟩, ⟨(hS.at_ 4 rfl).rd, ((hS.at_ 4 rfl).cap1)⟩, ⟨(hS.at_ 5 rfl).rd, ((hS.at_ 5 rfl).cap1)⟩, trivial⟩).row _ hp3).1 rfl (fun _ => hp4)) <| obs_cons (ob_get1 (n := (geti2 ([([5, 6] : List Int), ([1, 2, 3] : List Int), ([61, 62] : List Int), ([57, 58, 59] : List Int)] : List (List Int)) n2).length) (m := (geti2 ([([5, 6] : List Int), ([1, 2, 3] : List Int), ([61, 62] : List Int), ([57, 58, 59] : List Int)] : List (List Int)) n2)) (Value.int .i64) (0 : Int) Agg3 (fun _ hS => ⟨_, ((rdLit (hd := ([(g3, 2), (g4, 3), (g5, 2), (g6, 3)] : List Hd)) (m := ([([5, 6] : List Int), ([1, 2, 3] : List Int), ([61, 62] : List Int), ([57, 58, 59] : List Int)] : List (List Int))) hS 1 rfl ⟨⟨(hS.at_ 2 rfl).rd, ((hS.at_ 2 rfl).cap1)⟩, ⟨(hS.at_ 3 rfl).rd, ((hS.at_ 3 rfl).cap1)⟩, ⟨(hS.at_ 4 rfl).rd, ((hS.at_ 4 rfl).cap1)⟩, ⟨(hS.at_ 5 rfl).rd, ((hS.at_ 5 rfl).cap1)⟩, trivial⟩).row _ hp3).1⟩) (fun _ hS => rfl) (fun _ => hp4)) <| obs_cons (ob_ix1 (f := (Value.int .i64)) (m := p1) Und22 hi3 hs3 (hr_p1 _ (hS.dropN 6)) rfl (fun _ => hp5)) <| obs_cons (ob_get1 (n := p1.length) (m := p1) (Value.int .i64) (0 : Int) Agg3 (fun _ hS => ⟨_, (hr_p1 _ (hS.dropN 6))⟩) (fun _ hS => rfl) (fun _ => hp5)) <| obs_nil
     refine ce (t := 49) (b := ((geti p1 (geti (geti2 ([([5, 6] : List Int), ([1, 2, 3] : List Int), ([61, 62] : List Int), ([57, 58, 59] : List Int)] : List (List Int)) n2) i1)) != 0)) hF (fun hb => ?_) (fun hb => ?_)
     ·replace hm := if_t hm hb
      refine rg [] [] [4] [pl 4 (vi (-1))] hF hS obs_nil (fun a w hF hS => ?_)
      refine wpIn_ret ?_
      refine block_r (then_r (then_r (block_r (then_r ?_))))
      rw [← hφ1] at hm
      replace hm := done_b hm
      unfold rf_castleTo_K1 at hm
      try dsimp only at hm
      have hS := hS.pickN 6 [] (by decide)
      have hm : some (-1) = some r := hm
      obtain rfl := Option.some.inj hm
      exact retV (rs := [.tmp 4]) (vs := [vi (-1)]) hF rfl rv1 rfl ⟨rfl, hS⟩
     ·replace hm := if_f hm hb
      refine wpIn_skip ?_
      refine block_n ?_
      refine then_n ?_
      exact ⟨hF.wk [1, 2, 5, 6, 7], hS, hm⟩
   ·refine rg [] [] [1, 2, 5, 6, 7, 38] [pl 1 (vi n2), pl 2 (pa g1 0), pl 5 (vi (geti ([4, 4, 60, 60] : List Int) n2)), pl 6 (.slice (hdA ([(g3, 2), (g4, 3), (g5, 2), (g6, 3)] : List Hd) n2) ((geti2 ([([5, 6] : List Int), ([1, 2, 3] : List Int), ([61, 62] : List Int), ([57, 58, 59] : List Int)] : List (List Int)) n2).length) (hdC ([(g3, 2), (g4, 3), (g5, 2), (g6, 3)] : List Hd) n2)), pl 7 (vi i1), pl 38 (.bool (decide (i1 < (((geti2 ([([5, 6] : List Int), ([1, 2, 3] : List Int), ([61, 62] : List Int), ([57, 58, 59] : List Int)] : List (List Int)) n2).length : Nat) : Int))))] hF hS obs_nil (fun a w hF hS => ?_)
    refine ce (t := 38) (b := decide (i1 < (((geti2 ([([5, 6] : List Int), ([1, 2, 3] : List Int), ([61, 62] : List Int), ([57, 58, 59] : List Int)] : List (List Int)) n2).length : Nat) : Int))) hF (fun hb => ?_) (fun hb => ?_)
    ·replace hm := if_t hm hb
     refine wpIn_skip ?_
     refine then_n ?_
     exact ⟨hF.wk [1, 2, 5, 6, 7], hS, hm⟩
    ·replace hm := if_f hm hb
     refine wpIn_exit ?_
     refine then_e (then_e (block_e (then_n ?_)))
     have hS := hS.pickN 6 [0] (by decide)
     rw [← hφ1] at hm
     replace hm := done_b hm
     unfold rf_castleTo_K1 at hm
     try dsimp only at hm
     have hm : ((rf_castleTo_J2 p1 p2 n2)).bind some = some r := hm
     exact ⟨hF.wk [1, 2, 5], hS, hm⟩
 ·obtain ⟨hp1, hm⟩ := asrt_b hm
  refine rg [⟨false, [], vS (Instr.loadAt 3 (pa g1 2)), vi p3⟩, ⟨true, [], vS (Op.shift .shr .i64 p3 .i64 n2), vi (shrK .i64 p3 n2)⟩, ⟨false, [(((bAnd (shrK .i64 p3 n2) 1) == 0), false)], vS (Instr.loadAt 3 (pa g1 1)), vi p2⟩] [none, some (vi p3), none, some (vi (shrK .i64 p3 n2)), none, none, none, none, none, none, some (vi p2), none, none] [1, 2, 22] [pl 1 (vi n2), pl 2 (pa g1 0), pl 22 (.bool (((bAnd (shrK .i64 p3 n2) 1) == 0) || ((w64 (Int.tdiv n2 2)) != p2)))] hF hS ?_ (fun a w hF hS => ?_)
  ·exact obs_cons (ob_load Agg3 (fun _ _ hS => (hS.at_ 0 rfl).cell rfl)) <| obs_cons (ob_shr (fun _ => hp1)) <| obs_cons (ob_load Agg3 (fun _ _ hS => (hS.at_ 0 rfl).cell rfl)) <| obs_nil
  refine ce (t := 22) (b := ((bAnd (shrK .i64 p3 n2) 1) == 0) || ((w64 (Int.tdiv n2 2)) != p2)) hF (fun hb => ?_) (fun hb => ?_)
  ·replace hm := if_t hm hb
   refine rg [] [] [4] [pl 4 (vi (-1))] hF hS obs_nil (fun a w hF hS => ?_)
   refine wpIn_ret ?_
   refine then_r ?_
   have hS := hS.pickN 1 [] (by decide)
   have hm : some (-1) = some r := hm
   obtain rfl := Option.some.inj hm
   exact retV (rs := [.tmp 4]) (vs := [vi (-1)]) hF rfl rv1 rfl ⟨rfl, hS⟩
  ·replace hm := if_f hm hb
   refine wpIn_skip ?_
   refine then_n ?_
   exact ⟨hF.wk [1, 2], hS, hm⟩

def rf_MoveDone_J8  (n2 q7 : Int) : Option (St (Int × Int) Int) :=
 some (.next (q7, (w64 (n2 + 1))))

def rf_MoveDone_J7  (p1 : List Int) (p2 m1 : Int) (m2 q5 n2 : Int) : Option (St (Int × Int) Int) :=
 asrt (0 ≤ n2 ∧ n2 < 4) <| asrt ((m1 == (geti ([7, 0, 63, 56] : List Int) n2)) = false → 0 ≤ n2 ∧ n2 < 4) <| ((if (!((m1 == (geti ([7, 0, 63, 56] : List Int) n2)) || (m2 == (geti ([7, 0, 63, 56] : List Int) n2)))) then rf_size_m (geti p1 m1) else some 0)).bind fun r7 => asrt (((r7 == 6) && ((w64 (Int.tdiv n2 2)) == p2)) = true → ((m1 == (geti ([7, 0, 63, 56] : List Int) n2)) || (m2 == (geti ([7, 0, 63, 56] : List Int) n2))) = false → 0 ≤ n2 ∧ n2 < 4) <| asrt ((((m1 == (geti ([7, 0, 63, 56] : List Int) n2)) || (m2 == (geti ([7, 0, 63, 56] : List Int) n2))) || (((r7 == 6) && ((w64 (Int.tdiv n2 2)) == p2)) && (decide ((0 : Int) ≤ (geti ([4, 4, 60, 60] : List Int) n2))))) = true → (0 : Int) ≤ n2) <| if ((((m1 == (geti ([7, 0, 63, 56] : List Int) n2)) || (m2 == (geti ([7, 0, 63, 56] : List Int) n2))) || (((r7 == 6) && ((w64 (Int.tdiv n2 2)) == p2)) && (decide ((0 : Int) ≤ (geti ([4, 4, 60, 60] : List Int) n2))))) && ((bAnd (shrK .i64 q5 n2) 1) == 1)) then (asrt ((0 : Int) ≤ n2) <| (rf_MoveDone_J8 n2) (w64 (q5 - (shlK .i64 1 n2)))) else ((rf_MoveDone_J8 n2) q5)

def rf_MoveDone_L1  (p1 : List Int) (p2 m1 m2 : Int) : (Int × Int) → Option (St (Int × Int) Int) :=
 fun (x : (Int × Int)) => match x with | (q5, n2) => if (decide (n2 < 4)) then ((rf_MoveDone_J7 p1 p2 m1 m2 q5 n2)) else (some (.done q5))

def rf_MoveDone_J11  (p2 : Int) (q3 : List Int) (q4 q6 : Int) (q9 q10 : Int) : Option ChT :=
 some (q3, (w64 (1 - p2)), q6, q4, q9, q10)

def rf_MoveDone_J10  (p2 : Int) (r1 : ChT) (q3 : List Int) (q4 q6 q9 : Int) : Option ChT :=
 if ((p2 == 1) && (decide (r1.2.2.2.2.2 < 999))) then ((rf_MoveDone_J11 p2 q3 q4 q6 q9) (w64 (r1.2.2.2.2.2 + 1))) else ((rf_MoveDone_J11 p2 q3 q4 q6 q9) r1.2.2.2.2.2)

def rf_MoveDone_J9  (p1 : List Int) (p2 m2 : Int) (r1 : ChT) (r3 : Int) (q3 : List Int) (q4 q6 q8 : Int) : Option ChT :=
 asrt ((r3 == 1) = false → 0 ≤ m2 ∧ m2 < (p1.length : Int)) <| if ((r3 == 1) || ((geti p1 m2) != 0)) then ((rf_MoveDone_J10 p2 r1 q3 q4 q6) 0) else ((rf_MoveDone_J10 p2 r1 q3 q4 q6) q8)

def rf_MoveDone_J6  (p1 : List Int) (p2 m2 : Int) (r1 : ChT) (r3 : Int) (q3 : List Int) (q4 q6 : Int) : Option ChT :=
 if (decide ((999 : Int) < (w64 (r1.2.2.2.2.1 + 1)))) then ((rf_MoveDone_J9 p1 p2 m2 r1 r3 q3 q4 q6) 999) else ((rf_MoveDone_J9 p1 p2 m2 r1 r3 q3 q4 q6) (w64 (r1.2.2.2.2.1 + 1)))

def rf_MoveDone_K1  (p1 : List Int) (p2 m2 : Int) (r1 : ChT) (r3 : Int) (q3 : List Int) (q4 : Int) : Int → Option ChT :=
 fun (x : Int) => match x with | q6 => (rf_MoveDone_J6 p1 p2 m2 r1 r3 q3 q4) q6

def rf_MoveDone_J5  (p1 : List Int) (p2 m1 m2 : Int) (r1 : ChT) (r3 : Int) (q3 : List Int) (q4 : Int) : Option ChT :=
 (loop (rf_MoveDone_L1 p1 p2 m1 m2) (r1.2.2.1, 0)).bind (rf_MoveDone_K1 p1 p2 m2 r1 r3 q3 q4)

def rf_MoveDone_J3  (p1 : List Int) (p2 m1 m2 : Int) (r1 : ChT) (r3 : Int) (q3 : List Int) : Option ChT :=
 ((if (r3 == 1) then rf_size_m (w64 (m2 - m1)) else some 0)).bind fun r6 => if ((r3 == 1) && (r6 == 16)) then ((rf_MoveDone_J5 p1 p2 m1 m2 r1 r3 q3) (w64 (Int.tdiv (w64 (m1 + m2)) 2))) else ((rf_MoveDone_J5 p1 p2 m1 m2 r1 r3 q3) (-1))

def rf_MoveDone_J4  (p1 : List Int) (p2 m1 m2 : Int) (r1 : ChT) (r3 : Int) (q2 : List Int) (corner1 : Int) : Option ChT :=
 asrt (0 ≤ corner1 ∧ corner1 < (r1.1.length : Int)) <| asrt (0 ≤ (w64 (Int.tdiv (w64 (m1 + m2)) 2)) ∧ (w64 (Int.tdiv (w64 (m1 + m2)) 2)) < (r1.1.length : Int)) <| asrt (0 ≤ corner1 ∧ corner1 < (r1.1.length : Int)) <| (rf_MoveDone_J3 p1 p2 m1 m2 r1 r3) ((q2.set (Int.toNat (w64 (Int.tdiv (w64 (m1 + m2)) 2))) (geti q2 corner1)).set (Int.toNat corner1) 0)

def rf_MoveDone_J2  (p1 : List Int) (p2 m1 m2 : Int) (r1 : ChT) (r3 : Int) (q2 : List Int) : Option ChT :=
 (rf_size_m (geti p1 m1)).bind fun r4 => ((if (r4 == 6) then rf_size_m (w64 (m2 - m1)) else some 0)).bind fun r5 => if ((r4 == 6) && (r5 == 2)) then (if (decide (m2 < m1)) then ((rf_MoveDone_J4 p1 p2 m1 m2 r1 r3 q2) (w64 ((w64 (Int.tdiv m1 8)) * 8))) else ((rf_MoveDone_J4 p1 p2 m1 m2 r1 r3 q2) (w64 ((w64 ((w64 (Int.tdiv m1 8)) * 8)) + 7)))) else ((rf_MoveDone_J3 p1 p2 m1 m2 r1 r3) q2)

def rf_MoveDone_J1  (p1 : List Int) (p2 p4 : Int) (m1 m2 : Int) (r1 : ChT) (r2 r3 : Int) (q1 : List Int) : Option ChT :=
 if ((r3 == 1) && (m2 == p4)) then (asrt (0 ≤ (w64 (m2 - (w64 (8 * r2)))) ∧ (w64 (m2 - (w64 (8 * r2)))) < (r1.1.length : Int)) <| (rf_MoveDone_J2 p1 p2 m1 m2 r1 r3) (q1.set (Int.toNat (w64 (m2 - (w64 (8 * r2))))) 0)) else ((rf_MoveDone_J2 p1 p2 m1 m2 r1 r3) q1)

def rf_MoveDone_m  (p1 : List Int) (p2 p3 : Int) (p4 p5 : Int) (p6 m1 : Int) (m2 m3 : Int) : Option ChT :=
 (rf_ChessOf_m p1 p2 p3 p4 p5 p6).bind fun r1 => (rf_SideSign_m p2).bind fun r2 => asrt (0 ≤ m1 ∧ m1 < (p1.length : Int)) <| (rf_size_m (geti p1 m1)).bind fun r3 => asrt (0 ≤ m1 ∧ m1 < (r1.1.length : Int)) <| asrt (0 ≤ m2 ∧ m2 < (r1.1.length : Int)) <| if (decide ((0 : Int) < m3)) then (asrt (0 ≤ m2 ∧ m2 < (r1.1.length : Int)) <| (rf_MoveDone_J1 p1 p2 p4 m1 m2 r1 r2 r3) (((r1.1.set (Int.toNat m1) 0).set (Int.toNat m2) (geti p1 m1)).set (Int.toNat m2) (w64 (r2 * m3)))) else ((rf_MoveDone_J1 p1 p2 p4 m1 m2 r1 r2 r3) ((r1.1.set (Int.toNat m1) 0).set (Int.toNat m2) (geti p1 m1)))

theorem rf_MoveDone_w  {A1 : Option Addr} {c1 n1 : Nat} {p1 : List Int} {p2 p3 : Int} {p4 p5 : Int} {p6 m1 : Int} {m2 m3 : Int} {r : ChT} {w0 w : World} {B : Nat} {fs : List HP} (hm : rf_MoveDone_m p1 p2 p3 p4 p5 p6 m1 m2 m3 = some r) (hS : Sep w0 B w (fs)) (hr_p1 : RdF w0 B fs A1 (vI p1)) (_hc_p1 : p1.length ≤ c1) (_hn_p1 : n1 = p1.length) :
  Calls Try.prog 85 #[.agg (ca A1 n1 c1 p2 p3 p4 p5 p6), .agg #[vi m1, vi m2, vi m3]] w fun e w' => ∃ v, e = .returned v ∧ ∃ (A3 : Option Addr) (c3 : Nat), v = .agg (ca A3 r.1.length c3 r.2.1 r.2.2.1 r.2.2.2.1 r.2.2.2.2.1 r.2.2.2.2.2) ∧ Sep w0 B w' (own 3 (.slice A3 r.1.length c3) (vI r.1) :: fs) := by
 obtain ⟨i3, hi3, hz3, hs3, hb3⟩ := info_parts Info3
 obtain rfl := _hn_p1
 unfold rf_MoveDone_m at hm
 replace hm := start_b hm
 refine enter (l := [.agg (ca A1 p1.length c1 p2 p3 p4 p5 p6), .agg #[vi m1, vi m2, vi m3]]) (n := 221) Try.func85 rfl rfl (by simp) (fun a hF => ?_)
 refine seqR ?_
 refine at_do (d := 2) (s := vS (Instr.box 65 (.agg (ca A1 p1.length c1 p2 p3 p4 p5 p6)))) (v := pa w.heap.size 0) (w' := w.alloc (.cells (ca A1 p1.length c1 p2 p3 p4 p5 p6) 65)) hF (by kernel_rfl) (by kernel_rfl) (by kernel_rfl) (fun a hF => ?_)
 have hS : Sep w0 B (w.alloc (.cells (ca A1 p1.length c1 p2 p3 p4 p5 p6) 65)) (blk w.heap.size 65 (ca A1 p1.length c1 p2 p3 p4 p5 p6) :: (fs)) := hS.box 65 (ca A1 p1.length c1 p2 p3 p4 p5 p6)
 generalize w.heap.size = g1 at hF hS
 generalize w.alloc (.cells (ca A1 p1.length c1 p2 p3 p4 p5 p6) 65) = w at hS ⊢
 refine at_do (d := 3) (s := vS (Instr.box 126 (.agg #[vi m1, vi m2, vi m3]))) (v := pa w.heap.size 0) (w' := w.alloc (.cells #[vi m1, vi m2, vi m3] 126)) hF (by kernel_rfl) (by kernel_rfl) (by kernel_rfl) (fun a hF => ?_)
 have hS : Sep w0 B (w.alloc (.cells #[vi m1, vi m2, vi m3] 126)) (blk w.heap.size 126 #[vi m1, vi m2, vi m3] :: (blk g1 65 (ca A1 p1.length c1 p2 p3 p4 p5 p6) :: fs)) := hS.box 126 #[vi m1, vi m2, vi m3]
 generalize w.heap.size = g2 at hF hS
 generalize w.alloc (.cells #[vi m1, vi m2, vi m3] 126) = w at hS ⊢
 refine at_do (d := 4) (s := vS (Instr.alloc 65 true (.tuple #[]))) (v := pa w.heap.size 0) (w' := w.alloc (.cells (ca none 0 0 0 0 0 0 0) 65)) hF (by kernel_rfl) (by kernel_rfl) (by kernel_rfl) (fun a hF => ?_)
 have hS : Sep w0 B (w.alloc (.cells (ca none 0 0 0 0 0 0 0) 65)) (blk w.heap.size 65 (ca none 0 0 0 0 0 0 0) :: (blk g2 126 #[vi m1, vi m2, vi m3] :: blk g1 65 (ca A1 p1.length c1 p2 p3 p4 p5 p6) :: fs)) := hS.box 65 (ca none 0 0 0 0 0 0 0)
 generalize w.heap.size = g3 at hF hS
 generalize w.alloc (.cells (ca none 0 0 0 0 0 0 0) 65) = w at hS ⊢
 refine ae [2, 3, 4] [pl 2 (pa g1 0), pl 3 (pa g2 0), pl 4 (pa g3 0)] hF rfl (fun hF => ?_)
 refine then_n (seqR ?_)
 obtain ⟨r1, hr1, hm⟩ := call_b hm
 refine ar 1 [⟨false, [], vS (Instr.loadAt 65 (pa g1 0)), .agg (ca A1 p1.length c1 p2 p3 p4 p5 p6)⟩] [some (.agg (ca A1 p1.length c1 p2 p3 p4 p5 p6))] [2, 3, 4, 14] [pl 2 (pa g1 0), pl 3 (pa g2 0), pl 4 (pa g3 0), pl 14 (.agg (ca A1 p1.length c1 p2 p3 p4 p5 p6))] hF hS ?_ (fun a w hF hS => ?_)
 ·exact obs_cons (oA (cs := (ca A1 p1.length c1 p2 p3 p4 p5 p6)) (fun _ _ hS => (hS.at_ 2 rfl).cellsAt 0 (by rfl))) <| obs_nil
 refine at_call (f := 29) (args := #[.agg (ca A1 p1.length c1 p2 p3 p4 p5 p6)]) (d := 15) hF (by kernel_rfl) (by kernel_rfl) Try.func29 (by kernel_rfl) rfl (rf_ChessOf_w hr1 hS (fun _ hS => (hr_p1 _ (hS.dropN 3))) _hc_p1 rfl) (fun v a w hR hF => ?_)
 clear hS
 obtain ⟨A2, c2, rfl, hS⟩ := hR
 have hS : Sep w0 B w (own 3 (.slice A2 r1.1.length c2) (vI r1.1) :: blk g3 65 (ca none 0 0 0 0 0 0 0) :: blk g2 126 #[vi m1, vi m2, vi m3] :: blk g1 65 (ca A1 p1.length c1 p2 p3 p4 p5 p6) :: fs) := hS
 refine at_do (d := 5) (s := vS (Instr.alloc 65 true (.tuple #[]))) (v := pa w.heap.size 0) (w' := w.alloc (.cells (ca none 0 0 0 0 0 0 0) 65)) hF (by kernel_rfl) (by kernel_rfl) (by kernel_rfl) (fun a hF => ?_)
 have hS : Sep w0 B (w.alloc (.cells (ca none 0 0 0 0 0 0 0) 65)) (blk w.heap.size 65 (ca none 0 0 0 0 0 0 0) :: (own 3 (.slice A2 r1.1.length c2) (vI r1.1) :: blk g3 65 (ca none 0 0 0 0 0 0 0) :: blk g2 126 #[vi m1, vi m2, vi m3] :: blk g1 65 (ca A1 p1.length c1 p2 p3 p4 p5 p6) :: fs)) := hS.box 65 (ca none 0 0 0 0 0 0 0)
 generalize w.heap.size = g4 at hF hS
 generalize w.alloc (.cells (ca none 0 0 0 0 0 0 0) 65) = w at hS ⊢
 obtain ⟨w, hrun, hS⟩ := run_putA (P := Try.prog) (t := 65) (us := (ca A2 r1.1.length c2 r1.2.1 r1.2.2.1 r1.2.2.2.1 r1.2.2.2.2.1 r1.2.2.2.2.2)) (o := 0) (hS.at_ 0 rfl) (by kernel_rfl) (all_one (by kernel_rfl)) (Nat.le_of_ble_eq_true (by kernel_rfl))
 refine at_s hF hrun ?_
 have hS : Sep w0 B w (blk g4 65 (ca A2 r1.1.length c2 r1.2.1 r1.2.2.1 r1.2.2.2.1 r1.2.2.2.2.1 r1.2.2.2.2.2) :: own 3 (.slice A2 r1.1.length c2) (vI r1.1) :: blk g3 65 (ca none 0 0 0 0 0 0 0) :: blk g2 126 #[vi m1, vi m2, vi m3] :: blk g1 65 (ca A1 p1.length c1 p2 p3 p4 p5 p6) :: fs) := hS
 refine ae [2, 3, 4, 5] [pl 2 (pa g1 0), pl 3 (pa g2 0), pl 4 (pa g3 0), pl 5 (pa g4 0)] hF rfl (fun hF => ?_)
 refine then_n ?_
 obtain ⟨r2, hr2, hm⟩ := call_b hm
 refine rg [⟨false, [], vS (Instr.loadAt 3 (pa g1 1)), vi p2⟩, ⟨false, [], callFunc 120 #[vi p2], vi r2⟩] [none, some (vi p2), some (vi r2), none] [2, 3, 4, 5, 6] [pl 2 (pa g1 0), pl 3 (pa g2 0), pl 4 (pa g3 0), pl 5 (pa g4 0), pl 6 (vi r2)] hF hS ?_ (fun a w hF hS => ?_)
 ·exact obs_cons (ob_load Agg3 (fun _ _ hS => (hS.at_ 4 rfl).cell rfl)) <| obs_cons (ob_call Try.func120 (by kernel_rfl) rfl (fun _ _ hS => rf_SideSign_w hr2 hS )) <| obs_nil
 obtain ⟨hp1, hm⟩ := asrt_b hm
 refine rg [⟨false, [], vS (Instr.loadAt 22 (pa g1 0)), .slice A1 p1.length c1⟩, ⟨false, [], vS (Instr.loadAt 3 (pa g2 0)), vi m1⟩, ⟨true, [], vS (Instr.indexAt 22 (.slice A1 p1.length c1) (vi m1)), .pointer (some (sAddr A1 m1))⟩, ⟨false, [], vS (Instr.loadAt 3 (.pointer (some (sAddr A1 m1)))), vi (geti p1 m1)⟩] [none, some (.slice A1 p1.length c1), none, some (vi m1), some (.pointer (some (sAddr A1 m1))), some (vi (geti p1 m1)), none] [2, 3, 4, 5, 6, 7] [pl 2 (pa g1 0), pl 3 (pa g2 0), pl 4 (pa g3 0), pl 5 (pa g4 0), pl 6 (vi r2), pl 7 (vi (geti p1 m1))] hF hS ?_ (fun a w hF hS => ?_)
 ·exact obs_cons (ob_load Agg22 (fun _ _ hS => (hS.at_ 4 rfl).cell rfl)) <| obs_cons (ob_load Agg3 (fun _ _ hS => (hS.at_ 3 rfl).cell rfl)) <| obs_cons (ob_ix1 (f := (Value.int .i64)) (m := p1) Und22 hi3 hs3 (hr_p1 _ (hS.dropN 5)) rfl (fun _ => hp1)) <| obs_cons (ob_get1 (n := p1.length) (m := p1) (Value.int .i64) (0 : Int) Agg3 (fun _ hS => ⟨_, (hr_p1 _ (hS.dropN 5))⟩) (fun _ hS => rfl) (fun _ => hp1)) <| obs_nil
 obtain ⟨r3, hr3, hm⟩ := call_b hm
 refine rg [⟨false, [], callFunc 81 #[vi (geti p1 m1)], vi r3⟩] [none, some (vi r3), none, none] [2, 3, 4, 5, 6, 7, 8] [pl 2 (pa g1 0), pl 3 (pa g2 0), pl 4 (pa g3 0), pl 5 (pa g4 0), pl 6 (vi r2), pl 7 (vi (geti p1 m1)), pl 8 (.bool (r3 == 1))] hF hS ?_ (fun a w hF hS => ?_)
 ·exact obs_cons (ob_call Try.func81 (by kernel_rfl) rfl (fun _ _ hS => rf_size_w hr3 hS )) <| obs_nil
 refine seqR ?_
 obtain ⟨hp2, hm⟩ := asrt_b hm
 refine ar 5 [⟨false, [], vS (Instr.loadAt 22 (pa g4 0)), .slice A2 r1.1.length c2⟩, ⟨false, [], vS (Instr.loadAt 3 (pa g2 0)), vi m1⟩, ⟨true, [], vS (Instr.indexAt 22 (.slice A2 r1.1.length c2) (vi m1)), .pointer (some (sAddr A2 m1))⟩] [none, some (.slice A2 r1.1.length c2), none, some (vi m1), some (.pointer (some (sAddr A2 m1)))] [2, 3, 4, 5, 6, 7, 8, 32] [pl 2 (pa g1 0), pl 3 (pa g2 0), pl 4 (pa g3 0), pl 5 (pa g4 0), pl 6 (vi r2), pl 7 (vi (geti p1 m1)), pl 8 (.bool (r3 == 1)), pl 32 (.pointer (some (sAddr A2 m1)))] hF hS ?_ (fun a w hF hS => ?_)
 ·exact obs_cons (ob_load Agg22 (fun _ _ hS => (hS.at_ 0 rfl).cell rfl)) <| obs_cons (ob_load Agg3 (fun _ _ hS => (hS.at_ 3 rfl).cell rfl)) <| obs_cons (ob_ix1 (f := (Value.int .i64)) (m := r1.1) Und22 hi3 hs3 (hS.at_ 1 rfl).rd rfl (fun _ => hp2)) <| obs_nil
 obtain ⟨w, hrun, hS⟩ := run_set1 (P := Try.prog) (t := 3) (x := 0) (Value.int .i64) (hS.at_ 1 rfl) hi3 hs3 rfl rfl hp2
 refine at_s hF hrun ?_
 have hS : Sep w0 B w (blk g4 65 (ca A2 r1.1.length c2 r1.2.1 r1.2.2.1 r1.2.2.2.1 r1.2.2.2.2.1 r1.2.2.2.2.2) :: own 3 (.slice A2 r1.1.length c2) (vI (r1.1.set (Int.toNat m1) 0)) :: blk g3 65 (ca none 0 0 0 0 0 0 0) :: blk g2 126 #[vi m1, vi m2, vi m3] :: blk g1 65 (ca A1 p1.length c1 p2 p3 p4 p5 p6) :: fs) := hS
 refine ae [2, 3, 4, 5, 6, 7, 8] [pl 2 (pa g1 0), pl 3 (pa g2 0), pl 4 (pa g3 0), pl 5 (pa g4 0), pl 6 (vi r2), pl 7 (vi (geti p1 m1)), pl 8 (.bool (r3 == 1))] hF rfl (fun hF => ?_)
 refine then_n (seqR ?_)
 obtain ⟨hp3, hm⟩ := asrt_b hm
 refine ar 6 [⟨false, [], vS (Instr.loadAt 22 (pa g4 0)), .slice A2 r1.1.length c2⟩, ⟨false, [], vS (Instr.loadAt 3 (pa g2 1)), vi m2⟩, ⟨true, [], vS (Instr.indexAt 22 (.slice A2 r1.1.length c2) (vi m2)), .pointer (some (sAddr A2 m2))⟩] [none, some (.slice A2 r1.1.length c2), none, some (vi m2), none, some (.pointer (some (sAddr A2 m2)))] [2, 3, 4, 5, 6, 7, 8, 37, 38] [pl 2 (pa g1 0), pl 3 (pa g2 0), pl 4 (pa g3 0), pl 5 (pa g4 0), pl 6 (vi r2), pl 7 (vi (geti p1 m1)), pl 8 (.bool (r3 == 1)), pl 37 (vi (geti p1 m1)), pl 38 (.pointer (some (sAddr A2 m2)))] hF hS ?_ (fun a w hF hS => ?_)
 ·exact obs_cons (ob_load Agg22 (fun _ _ hS => (hS.at_ 0 rfl).cell rfl)) <| obs_cons (ob_load Agg3 (fun _ _ hS => (hS.at_ 3 rfl).cell rfl)) <| obs_cons (ob_ix1 (f := (Value.int .i64)) (m := (r1.1.set (Int.toNat m1) 0)) Und22 hi3 hs3 (hS.at_ 1 rfl).rd ((hS.at_ 1 rfl).len1) (fun _ => hp3)) <| obs_nil
 obtain ⟨w, hrun, hS⟩ := run_set1 (P := Try.prog) (t := 3) (x := (geti p1 m1)) (Value.int .i64) (hS.at_ 1 rfl) hi3 hs3 rfl rfl hp3
 refine at_s hF hrun ?_
 have hS : Sep w0 B w (blk g4 65 (ca A2 r1.1.length c2 r1.2.1 r1.2.2.1 r1.2.2.2.1 r1.2.2.2.2.1 r1.2.2.2.2.2) :: own 3 (.slice A2 r1.1.length c2) (vI ((r1.1.set (Int.toNat m1) 0).set (Int.toNat m2) (geti p1 m1))) :: blk g3 65 (ca none 0 0 0 0 0 0 0) :: blk g2 126 #[vi m1, vi m2, vi m3] :: blk g1 65 (ca A1 p1.length c1 p2 p3 p4 p5 p6) :: fs) := hS
 refine ae [2, 3, 4, 5, 6, 7, 8] [pl 2 (pa g1 0), pl 3 (pa g2 0), pl 4 (pa g3 0), pl 5 (pa g4 0), pl 6 (vi r2), pl 7 (vi (geti p1 m1)), pl 8 (.bool (r3 == 1))] hF rfl (fun hF => ?_)
 refine then_n ?_
 refine seq_cut (fun a w => ∃ (q1 : List Int), Fr 221 [pl 2 (pa g1 0), pl 3 (pa g2 0), pl 4 (pa g3 0), pl 5 (pa g4 0), pl 6 (vi r2), pl 7 (vi (geti p1 m1)), pl 8 (.bool (r3 == 1))] a ∧ Sep w0 B w (blk g1 65 (ca A1 p1.length c1 p2 p3 p4 p5 p6) :: blk g2 126 #[vi m1, vi m2, vi m3] :: blk g3 65 (ca none 0 0 0 0 0 0 0) :: blk g4 65 (ca A2 r1.1.length c2 r1.2.1 r1.2.2.1 r1.2.2.2.1 r1.2.2.2.2.1 r1.2.2.2.2.2) :: own 3 (.slice A2 r1.1.length c2) (vI q1) :: fs) ∧ ((rf_MoveDone_J1 p1 p2 p4 m1 m2 r1 r2 r3) q1).bind some = some r) ?_ ?_
 ·rintro a w ⟨q1, hF, hS, hm⟩
  unfold rf_MoveDone_J1 at hm
  refine seq_cut (fun a w => ∃ (q2 : List Int), Fr 221 [pl 2 (pa g1 0), pl 3 (pa g2 0), pl 4 (pa g3 0), pl 5 (pa g4 0), pl 7 (vi (geti p1 m1)), pl 8 (.bool (r3 == 1))] a ∧ Sep w0 B w (blk g1 65 (ca A1 p1.length c1 p2 p3 p4 p5 p6) :: blk g2 126 #[vi m1, vi m2, vi m3] :: blk g3 65 (ca none 0 0 0 0 0 0 0) :: blk g4 65 (ca A2 r1.1.length c2 r1.2.1 r1.2.2.1 r1.2.2.2.1 r1.2.2.2.2.1 r1.2.2.2.2.2) :: own 3 (.slice A2 r1.1.length c2) (vI q2) :: fs) ∧ ((rf_MoveDone_J2 p1 p2 m1 m2 r1 r3) q2).bind some = some r) ?_ ?_
  ·rintro a w ⟨q2, hF, hS, hm⟩
   unfold rf_MoveDone_J2 at hm
   refine seq_cut (fun a w => ∃ (q3 : List Int), Fr 221 [pl 2 (pa g1 0), pl 3 (pa g2 0), pl 4 (pa g3 0), pl 5 (pa g4 0), pl 7 (vi (geti p1 m1)), pl 8 (.bool (r3 == 1))] a ∧ Sep w0 B w (blk g1 65 (ca A1 p1.length c1 p2 p3 p4 p5 p6) :: blk g2 126 #[vi m1, vi m2, vi m3] :: blk g3 65 (ca none 0 0 0 0 0 0 0) :: blk g4 65 (ca A2 r1.1.length c2 r1.2.1 r1.2.2.1 r1.2.2.2.1 r1.2.2.2.2.1 r1.2.2.2.2.2) :: own 3 (.slice A2 r1.1.length c2) (vI q3) :: fs) ∧ ((rf_MoveDone_J3 p1 p2 m1 m2 r1 r3) q3).bind some = some r) ?_ ?_
   ·rintro a w ⟨q3, hF, hS, hm⟩
    unfold rf_MoveDone_J3 at hm
    refine seqR ?_
    refine ar 4 [⟨false, [], vS (Instr.loadAt 3 (pa g1 1)), vi p2⟩] [none, some (vi p2), none, none] [2, 3, 4, 5, 7, 8, 113, 114] [pl 2 (pa g1 0), pl 3 (pa g2 0), pl 4 (pa g3 0), pl 5 (pa g4 0), pl 7 (vi (geti p1 m1)), pl 8 (.bool (r3 == 1)), pl 113 (vi (w64 (1 - p2))), pl 114 (pa g4 1)] hF hS ?_ (fun a w hF hS => ?_)
    ·exact obs_cons (ob_load Agg3 (fun _ _ hS => (hS.at_ 0 rfl).cell rfl)) <| obs_nil
    obtain ⟨w, hrun, hS⟩ := run_put (P := Try.prog) (t := 3) (u := vi (w64 (1 - p2))) (i := 1) (hS.at_ 3 rfl) hi3 hs3 rfl (Nat.lt_of_lt_of_eq (Nat.lt_of_succ_le (Nat.le_of_ble_eq_true (by kernel_rfl))) rfl)
    refine at_s hF hrun ?_
    have hS : Sep w0 B w (blk g1 65 (ca A1 p1.length c1 p2 p3 p4 p5 p6) :: blk g2 126 #[vi m1, vi m2, vi m3] :: blk g3 65 (ca none 0 0 0 0 0 0 0) :: blk g4 65 #[.slice A2 r1.1.length c2, vi (w64 (1 - p2)), vi r1.2.2.1, vi r1.2.2.2.1, vi r1.2.2.2.2.1, vi r1.2.2.2.2.2] :: own 3 (.slice A2 r1.1.length c2) (vI q3) :: fs) := hS
    refine ae [2, 3, 4, 5, 7, 8] [pl 2 (pa g1 0), pl 3 (pa g2 0), pl 4 (pa g3 0), pl 5 (pa g4 0), pl 7 (vi (geti p1 m1)), pl 8 (.bool (r3 == 1))] hF rfl (fun hF => ?_)
    refine then_n (seqR ?_)
    refine ar 1 [] [] [2, 3, 4, 5, 7, 8, 115] [pl 2 (pa g1 0), pl 3 (pa g2 0), pl 4 (pa g3 0), pl 5 (pa g4 0), pl 7 (vi (geti p1 m1)), pl 8 (.bool (r3 == 1)), pl 115 (pa g4 3)] hF hS obs_nil (fun a w hF hS => ?_)
    obtain ⟨w, hrun, hS⟩ := run_put (P := Try.prog) (t := 3) (u := vi (-1)) (i := 3) (hS.at_ 3 rfl) hi3 hs3 rfl (Nat.lt_of_lt_of_eq (Nat.lt_of_succ_le (Nat.le_of_ble_eq_true (by kernel_rfl))) rfl)
    refine at_s hF hrun ?_
    have hS : Sep w0 B w (blk g1 65 (ca A1 p1.length c1 p2 p3 p4 p5 p6) :: blk g2 126 #[vi m1, vi m2, vi m3] :: blk g3 65 (ca none 0 0 0 0 0 0 0) :: blk g4 65 #[.slice A2 r1.1.length c2, vi (w64 (1 - p2)), vi r1.2.2.1, vi (-1), vi r1.2.2.2.2.1, vi r1.2.2.2.2.2] :: own 3 (.slice A2 r1.1.length c2) (vI q3) :: fs) := hS
    refine ae [2, 3, 4, 5, 7, 8] [pl 2 (pa g1 0), pl 3 (pa g2 0), pl 4 (pa g3 0), pl 5 (pa g4 0), pl 7 (vi (geti p1 m1)), pl 8 (.bool (r3 == 1))] hF rfl (fun hF => ?_)
    refine then_n ?_
    refine seq_cut (fun a w => ∃ (q4 : Int), Fr 221 [pl 2 (pa g1 0), pl 3 (pa g2 0), pl 4 (pa g3 0), pl 5 (pa g4 0), pl 7 (vi (geti p1 m1)), pl 8 (.bool (r3 == 1))] a ∧ Sep w0 B w (blk g1 65 (ca A1 p1.length c1 p2 p3 p4 p5 p6) :: blk g2 126 #[vi m1, vi m2, vi m3] :: blk g3 65 (ca none 0 0 0 0 0 0 0) :: blk g4 65 #[.slice A2 r1.1.length c2, vi (w64 (1 - p2)), vi r1.2.2.1, vi q4, vi r1.2.2.2.2.1, vi r1.2.2.2.2.2] :: own 3 (.slice A2 r1.1.length c2) (vI q3) :: fs) ∧ ((rf_MoveDone_J5 p1 p2 m1 m2 r1 r3 q3) q4).bind some = some r) ?_ ?_
    ·rintro a w ⟨q4, hF, hS, hm⟩
     unfold rf_MoveDone_J5 at hm
     refine seqR ?_
     refine at_do (d := 133) (s := vS (Instr.buildSlice 22 4 #[(0, vi 4), (1, vi 4), (2, vi 60), (3, vi 60)])) (v := .slice (some ⟨w.heap.size, 0, none⟩) 4 4) (w' := w.alloc (.cells #[vi 4, vi 4, vi 60, vi 60] 3)) hF (by kernel_rfl) (by kernel_rfl) (by kernel_rfl) (fun a hF => ?_)
     have hS : Sep w0 B (w.alloc (.cells #[vi 4, vi 4, vi 60, vi 60] 3)) (own 3 (.slice (some (⟨w.heap.size, 0, none⟩ : Addr)) 4 4) (vI ([4, 4, 60, 60] : List Int)) :: (blk g1 65 (ca A1 p1.length c1 p2 p3 p4 p5 p6) :: blk g2 126 #[vi m1, vi m2, vi m3] :: blk g3 65 (ca none 0 0 0 0 0 0 0) :: blk g4 65 #[.slice A2 r1.1.length c2, vi (w64 (1 - p2)), vi r1.2.2.1, vi q4, vi r1.2.2.2.2.1, vi r1.2.2.2.2.2] :: own 3 (.slice A2 r1.1.length c2) (vI q3) :: fs)) := hS.lit 3 #[vi 4, vi 4, vi 60, vi 60] 4 rfl (by omega)
     generalize (some (⟨w.heap.size, 0, none⟩ : Addr)) = g5 at hF hS
     generalize w.alloc (.cells #[vi 4, vi 4, vi 60, vi 60] 3) = w at hS ⊢
     refine at_do (d := 134) (s := vS (Instr.buildSlice 22 4 #[(0, vi 7), (1, vi 0), (2, vi 63), (3, vi 56)])) (v := .slice (some ⟨w.heap.size, 0, none⟩) 4 4) (w' := w.alloc (.cells #[vi 7, vi 0, vi 63, vi 56] 3)) hF (by kernel_rfl) (by kernel_rfl) (by kernel_rfl) (fun a hF => ?_)
     have hS : Sep w0 B (w.alloc (.cells #[vi 7, vi 0, vi 63, vi 56] 3)) (own 3 (.slice (some (⟨w.heap.size, 0, none⟩ : Addr)) 4 4) (vI ([7, 0, 63, 56] : List Int)) :: (own 3 (.slice g5 4 4) (vI ([4, 4, 60, 60] : List Int)) :: blk g1 65 (ca A1 p1.length c1 p2 p3 p4 p5 p6) :: blk g2 126 #[vi m1, vi m2, vi m3] :: blk g3 65 (ca none 0 0 0 0 0 0 0) :: blk g4 65 #[.slice A2 r1.1.length c2, vi (w64 (1 - p2)), vi r1.2.2.1, vi q4, vi r1.2.2.2.2.1, vi r1.2.2.2.2.2] :: own 3 (.slice A2 r1.1.length c2) (vI q3) :: fs)) := hS.lit 3 #[vi 7, vi 0, vi 63, vi 56] 4 rfl (by omega)
     generalize (some (⟨w.heap.size, 0, none⟩ : Addr)) = g6 at hF hS
     generalize w.alloc (.cells #[vi 7, vi 0, vi 63, vi 56] 3) = w at hS ⊢
     refine ar 2 [] [] [2, 3, 4, 5, 7, 8, 10, 11] [pl 2 (pa g1 0), pl 3 (pa g2 0), pl 4 (pa g3 0), pl 5 (pa g4 0), pl 7 (vi (geti p1 m1)), pl 8 (.bool (r3 == 1)), pl 10 (.slice g5 4 4), pl 11 (.slice g6 4 4)] hF hS obs_nil (fun a w hF hS => ?_)
     refine ae [2, 3, 4, 5, 7, 8, 10, 11] [pl 2 (pa g1 0), pl 3 (pa g2 0), pl 4 (pa g3 0), pl 5 (pa g4 0), pl 7 (vi (geti p1 m1)), pl 8 (.bool (r3 == 1)), pl 10 (.slice g5 4 4), pl 11 (.slice g6 4 4)] hF rfl (fun hF => ?_)
     refine then_n ?_
     refine seq_cut (fun a w => ∃ (q6 : Int), Fr 221 [pl 2 (pa g1 0), pl 3 (pa g2 0), pl 4 (pa g3 0), pl 5 (pa g4 0), pl 8 (.bool (r3 == 1))] a ∧ Sep w0 B w (blk g1 65 (ca A1 p1.length c1 p2 p3 p4 p5 p6) :: blk g2 126 #[vi m1, vi m2, vi m3] :: blk g3 65 (ca none 0 0 0 0 0 0 0) :: blk g4 65 #[.slice A2 r1.1.length c2, vi (w64 (1 - p2)), vi q6, vi q4, vi r1.2.2.2.2.1, vi r1.2.2.2.2.2] :: own 3 (.slice A2 r1.1.length c2) (vI q3) :: fs) ∧ ((rf_MoveDone_J6 p1 p2 m2 r1 r3 q3 q4) q6).bind some = some r) ?_ ?_
     ·rintro a w ⟨q6, hF, hS, hm⟩
      unfold rf_MoveDone_J6 at hm
      refine seqR ?_
      refine ar 4 [⟨false, [], vS (Instr.loadAt 3 (pa g4 4)), vi r1.2.2.2.2.1⟩] [none, some (vi r1.2.2.2.2.1), none, none] [2, 3, 4, 5, 8, 191, 192] [pl 2 (pa g1 0), pl 3 (pa g2 0), pl 4 (pa g3 0), pl 5 (pa g4 0), pl 8 (.bool (r3 == 1)), pl 191 (vi (w64 (r1.2.2.2.2.1 + 1))), pl 192 (pa g4 4)] hF hS ?_ (fun a w hF hS => ?_)
      ·exact obs_cons (ob_load Agg3 (fun _ _ hS => (hS.at_ 3 rfl).cell rfl)) <| obs_nil
      obtain ⟨w, hrun, hS⟩ := run_put (P := Try.prog) (t := 3) (u := vi (w64 (r1.2.2.2.2.1 + 1))) (i := 4) (hS.at_ 3 rfl) hi3 hs3 rfl (Nat.lt_of_lt_of_eq (Nat.lt_of_succ_le (Nat.le_of_ble_eq_true (by kernel_rfl))) rfl)
      refine at_s hF hrun ?_
      have hS : Sep w0 B w (blk g1 65 (ca A1 p1.length c1 p2 p3 p4 p5 p6) :: blk g2 126 #[vi m1, vi m2, vi m3] :: blk g3 65 (ca none 0 0 0 0 0 0 0) :: blk g4 65 #[.slice A2 r1.1.length c2, vi (w64 (1 - p2)), vi q6, vi q4, vi (w64 (r1.2.2.2.2.1 + 1)), vi r1.2.2.2.2.2] :: own 3 (.slice A2 r1.1.length c2) (vI q3) :: fs) := hS
      refine ae [2, 3, 4, 5, 8] [pl 2 (pa g1 0), pl 3 (pa g2 0), pl 4 (pa g3 0), pl 5 (pa g4 0), pl 8 (.bool (r3 == 1))] hF rfl (fun hF => ?_)
      refine then_n ?_
      refine seq_cut (fun a w => ∃ (q8 : Int), Fr 221 [pl 2 (pa g1 0), pl 3 (pa g2 0), pl 4 (pa g3 0), pl 5 (pa g4 0), pl 8 (.bool (r3 == 1))] a ∧ Sep w0 B w (blk g1 65 (ca A1 p1.length c1 p2 p3 p4 p5 p6) :: blk g2 126 #[vi m1, vi m2, vi m3] :: blk g3 65 (ca none 0 0 0 0 0 0 0) :: blk g4 65 #[.slice A2 r1.1.length c2, vi (w64 (1 - p2)), vi q6, vi q4, vi q8, vi r1.2.2.2.2.2] :: own 3 (.slice A2 r1.1.length c2) (vI q3) :: fs) ∧ ((rf_MoveDone_J9 p1 p2 m2 r1 r3 q3 q4 q6) q8).bind some = some r) ?_ ?_
      ·rintro a w ⟨q8, hF, hS, hm⟩
       unfold rf_MoveDone_J9 at hm
       refine seq_cut (fun a w => ∃ (q9 : Int), Fr 221 [pl 2 (pa g1 0), pl 4 (pa g3 0), pl 5 (pa g4 0)] a ∧ Sep w0 B w (blk g1 65 (ca A1 p1.length c1 p2 p3 p4 p5 p6) :: blk g3 65 (ca none 0 0 0 0 0 0 0) :: blk g4 65 #[.slice A2 r1.1.length c2, vi (w64 (1 - p2)), vi q6, vi q4, vi q9, vi r1.2.2.2.2.2] :: own 3 (.slice A2 r1.1.length c2) (vI q3) :: fs) ∧ ((rf_MoveDone_J10 p2 r1 q3 q4 q6) q9).bind some = some r) ?_ ?_
       ·rintro a w ⟨q9, hF, hS, hm⟩
        unfold rf_MoveDone_J10 at hm
        refine seq_cut (fun a w => ∃ (q10 : Int), Fr 221 [pl 4 (pa g3 0), pl 5 (pa g4 0)] a ∧ Sep w0 B w (blk g3 65 (ca none 0 0 0 0 0 0 0) :: blk g4 65 #[.slice A2 r1.1.length c2, vi (w64 (1 - p2)), vi q6, vi q4, vi q9, vi q10] :: own 3 (.slice A2 r1.1.length c2) (vI q3) :: fs) ∧ ((rf_MoveDone_J11 p2 q3 q4 q6 q9) q10).bind some = some r) ?_ ?_
        ·rintro a w ⟨q10, hF, hS, hm⟩
         unfold rf_MoveDone_J11 at hm
         refine seqR ?_
         refine ar 1 [⟨false, [], vS (Instr.loadAt 65 (pa g4 0)), .agg #[.slice A2 r1.1.length c2, vi (w64 (1 - p2)), vi q6, vi q4, vi q9, vi q10]⟩] [some (.agg #[.slice A2 r1.1.length c2, vi (w64 (1 - p2)), vi q6, vi q4, vi q9, vi q10])] [4, 220] [pl 4 (pa g3 0), pl 220 (.agg #[.slice A2 r1.1.length c2, vi (w64 (1 - p2)), vi q6, vi q4, vi q9, vi q10])] hF hS ?_ (fun a w hF hS => ?_)
         ·exact obs_cons (ob_loadA (cs := #[.slice A2 r1.1.length c2, vi (w64 (1 - p2)), vi q6, vi q4, vi q9, vi q10]) (by kernel_rfl) (by kernel_rfl) (fun _ _ hS => (hS.at_ 1 rfl).cellsAt 0 (by rfl))) <| obs_nil
         obtain ⟨w, hrun, hS⟩ := run_putA (P := Try.prog) (t := 65) (us := #[.slice A2 r1.1.length c2, vi (w64 (1 - p2)), vi q6, vi q4, vi q9, vi q10]) (o := 0) (hS.at_ 0 rfl) (by kernel_rfl) (all_one (by kernel_rfl)) (Nat.le_of_ble_eq_true (by kernel_rfl))
         refine at_s hF hrun ?_
         have hS : Sep w0 B w (blk g3 65 #[.slice A2 r1.1.length c2, vi (w64 (1 - p2)), vi q6, vi q4, vi q9, vi q10] :: blk g4 65 #[.slice A2 r1.1.length c2, vi (w64 (1 - p2)), vi q6, vi q4, vi q9, vi q10] :: own 3 (.slice A2 r1.1.length c2) (vI q3) :: fs) := hS
         refine ae [4] [pl 4 (pa g3 0)] hF rfl (fun hF => ?_)
         refine then_n (wpIn_ret ?_)
         have hl1 := (hS.at_ 2 rfl).len1
         have hS := (hS.at_ 2 rfl).reN hl1
         have hS := (hS.at_ 0 rfl).reBlk (congrArg (fun k9 => (#[.slice A2 k9 c2, vi (w64 (1 - p2)), vi q6, vi q4, vi q9, vi q10] : Array Value)) hl1)
         have hS := (hS.at_ 1 rfl).reBlk (congrArg (fun k9 => (#[.slice A2 k9 c2, vi (w64 (1 - p2)), vi q6, vi q4, vi q9, vi q10] : Array Value)) hl1)
         have hS : Sep w0 B w (blk g3 65 #[.slice A2 q3.length c2, vi (w64 (1 - p2)), vi q6, vi q4, vi q9, vi q10] :: blk g4 65 #[.slice A2 q3.length c2, vi (w64 (1 - p2)), vi q6, vi q4, vi q9, vi q10] :: own 3 (.slice A2 q3.length c2) (vI q3) :: fs) := hS
         have hld0 := run_loadVarA (P := Try.prog) (t := 65) (cs := #[.slice A2 q3.length c2, vi (w64 (1 - p2)), vi q6, vi q4, vi q9, vi q10]) (by kernel_rfl) (by kernel_rfl) ((hS.at_ 0 rfl).cellsAt 0 (by rfl))
         have hS := hS.pickN 3 [2] (by decide)
         have hm : some (q3, (w64 (1 - p2)), q6, q4, q9, q10) = some r := hm
         obtain rfl := Option.some.inj hm
         exact retV (rs := [.cell 4 65]) (vs := [.agg #[.slice A2 q3.length c2, vi (w64 (1 - p2)), vi q6, vi q4, vi q9, vi q10]]) hF rfl (rv_c (by kernel_rfl) hld0 <| rv_nil) rfl ⟨_, rfl, A2, c2, rfl, hS⟩
        ·refine rg [⟨false, [], vS (Instr.loadAt 3 (pa g1 1)), vi p2⟩, ⟨false, [((p2 == 1), true)], vS (Instr.loadAt 3 (pa g4 5)), vi r1.2.2.2.2.2⟩] [none, some (vi p2), none, none, none, some (vi r1.2.2.2.2.2), none, none] [4, 5, 215] [pl 4 (pa g3 0), pl 5 (pa g4 0), pl 215 (.bool ((p2 == 1) && (decide (r1.2.2.2.2.2 < 999))))] hF hS ?_ (fun a w hF hS => ?_)
         ·exact obs_cons (ob_load Agg3 (fun _ _ hS => (hS.at_ 0 rfl).cell rfl)) <| obs_cons (ob_load Agg3 (fun _ _ hS => (hS.at_ 2 rfl).cell rfl)) <| obs_nil
         refine ce (t := 215) (b := (p2 == 1) && (decide (r1.2.2.2.2.2 < 999))) hF (fun hb => ?_) (fun hb => ?_)
         ·replace hm := if_t hm hb
          refine oneR ?_
          refine ar 4 [⟨false, [], vS (Instr.loadAt 3 (pa g4 5)), vi r1.2.2.2.2.2⟩] [none, some (vi r1.2.2.2.2.2), none, none] [4, 5, 218, 219] [pl 4 (pa g3 0), pl 5 (pa g4 0), pl 218 (vi (w64 (r1.2.2.2.2.2 + 1))), pl 219 (pa g4 5)] hF hS ?_ (fun a w hF hS => ?_)
          ·exact obs_cons (ob_load Agg3 (fun _ _ hS => (hS.at_ 2 rfl).cell rfl)) <| obs_nil
          obtain ⟨w, hrun, hS⟩ := run_put (P := Try.prog) (t := 3) (u := vi (w64 (r1.2.2.2.2.2 + 1))) (i := 5) (hS.at_ 2 rfl) hi3 hs3 rfl (Nat.lt_of_lt_of_eq (Nat.lt_of_succ_le (Nat.le_of_ble_eq_true (by kernel_rfl))) rfl)
          refine at_s hF hrun ?_
          have hS : Sep w0 B w (blk g1 65 (ca A1 p1.length c1 p2 p3 p4 p5 p6) :: blk g3 65 (ca none 0 0 0 0 0 0 0) :: blk g4 65 #[.slice A2 r1.1.length c2, vi (w64 (1 - p2)), vi q6, vi q4, vi q9, vi (w64 (r1.2.2.2.2.2 + 1))] :: own 3 (.slice A2 r1.1.length c2) (vI q3) :: fs) := hS
          refine ae [4, 5] [pl 4 (pa g3 0), pl 5 (pa g4 0)] hF rfl (fun hF => ?_)
          refine then_n ?_
          have hS := hS.pickN 4 [1, 2, 3] (by decide)
          exact ⟨(w64 (r1.2.2.2.2.2 + 1)), hF.wk [4, 5], hS, hm⟩
         ·replace hm := if_f hm hb
          refine wpIn_skip ?_
          refine then_n ?_
          have hS := hS.pickN 4 [1, 2, 3] (by decide)
          exact ⟨r1.2.2.2.2.2, hF.wk [4, 5], hS, hm⟩
       ·obtain ⟨hp14, hm⟩ := asrt_b hm
        refine rg [⟨false, [((r3 == 1), false)], vS (Instr.loadAt 22 (pa g1 0)), .slice A1 p1.length c1⟩, ⟨false, [((r3 == 1), false)], vS (Instr.loadAt 3 (pa g2 1)), vi m2⟩, ⟨true, [((r3 == 1), false)], vS (Instr.indexAt 22 (.slice A1 p1.length c1) (vi m2)), .pointer (some (sAddr A1 m2))⟩, ⟨false, [((r3 == 1), false)], vS (Instr.loadAt 3 (.pointer (some (sAddr A1 m2)))), vi (geti p1 m2)⟩] [none, none, none, some (.slice A1 p1.length c1), none, some (vi m2), some (.pointer (some (sAddr A1 m2))), some (vi (geti p1 m2)), none, none] [2, 4, 5, 206] [pl 2 (pa g1 0), pl 4 (pa g3 0), pl 5 (pa g4 0), pl 206 (.bool ((r3 == 1) || ((geti p1 m2) != 0)))] hF hS ?_ (fun a w hF hS => ?_)
        ·exact obs_cons (ob_load Agg22 (fun _ _ hS => (hS.at_ 0 rfl).cell rfl)) <| obs_cons (ob_load Agg3 (fun _ _ hS => (hS.at_ 1 rfl).cell rfl)) <| obs_cons (ob_ix1 (f := (Value.int .i64)) (m := p1) Und22 hi3 hs3 (hr_p1 _ (hS.dropN 5)) rfl (fun hy => hp14 (hy ((r3 == 1), false) (by simp)))) <| obs_cons (ob_get1 (n := p1.length) (m := p1) (Value.int .i64) (0 : Int) Agg3 (fun _ hS => ⟨_, (hr_p1 _ (hS.dropN 5))⟩) (fun _ hS => rfl) (fun hy => hp14 (hy ((r3 == 1), false) (by simp)))) <| obs_nil
        refine ce (t := 206) (b := (r3 == 1) || ((geti p1 m2) != 0)) hF (fun hb => ?_) (fun hb => ?_)
        ·replace hm := if_t hm hb
         refine oneR ?_
         refine ar 1 [] [] [2, 4, 5, 207] [pl 2 (pa g1 0), pl 4 (pa g3 0), pl 5 (pa g4 0), pl 207 (pa g4 4)] hF hS obs_nil (fun a w hF hS => ?_)
         obtain ⟨w, hrun, hS⟩ := run_put (P := Try.prog) (t := 3) (u := vi 0) (i := 4) (hS.at_ 3 rfl) hi3 hs3 rfl (Nat.lt_of_lt_of_eq (Nat.lt_of_succ_le (Nat.le_of_ble_eq_true (by kernel_rfl))) rfl)
         refine at_s hF hrun ?_
         have hS : Sep w0 B w (blk g1 65 (ca A1 p1.length c1 p2 p3 p4 p5 p6) :: blk g2 126 #[vi m1, vi m2, vi m3] :: blk g3 65 (ca none 0 0 0 0 0 0 0) :: blk g4 65 #[.slice A2 r1.1.length c2, vi (w64 (1 - p2)), vi q6, vi q4, vi 0, vi r1.2.2.2.2.2] :: own 3 (.slice A2 r1.1.length c2) (vI q3) :: fs) := hS
         refine ae [2, 4, 5] [pl 2 (pa g1 0), pl 4 (pa g3 0), pl 5 (pa g4 0)] hF rfl (fun hF => ?_)
         refine then_n ?_
         have hS := hS.pickN 5 [0, 2, 3, 4] (by decide)
         exact ⟨0, hF.wk [2, 4, 5], hS, hm⟩
        ·replace hm := if_f hm hb
         refine wpIn_skip ?_
         refine then_n ?_
         have hS := hS.pickN 5 [0, 2, 3, 4] (by decide)
         exact ⟨q8, hF.wk [2, 4, 5], hS, hm⟩
      ·refine rg [⟨false, [], vS (Instr.loadAt 3 (pa g4 4)), vi (w64 (r1.2.2.2.2.1 + 1))⟩] [none, some (vi (w64 (r1.2.2.2.2.1 + 1))), none] [2, 3, 4, 5, 8, 195] [pl 2 (pa g1 0), pl 3 (pa g2 0), pl 4 (pa g3 0), pl 5 (pa g4 0), pl 8 (.bool (r3 == 1)), pl 195 (.bool (decide ((999 : Int) < (w64 (r1.2.2.2.2.1 + 1)))))] hF hS ?_ (fun a w hF hS => ?_)
       ·exact obs_cons (ob_load Agg3 (fun _ _ hS => (hS.at_ 3 rfl).cell rfl)) <| obs_nil
       refine ce (t := 195) (b := decide ((999 : Int) < (w64 (r1.2.2.2.2.1 + 1)))) hF (fun hb => ?_) (fun hb => ?_)
       ·replace hm := if_t hm hb
        refine oneR ?_
        refine ar 1 [] [] [2, 3, 4, 5, 8, 196] [pl 2 (pa g1 0), pl 3 (pa g2 0), pl 4 (pa g3 0), pl 5 (pa g4 0), pl 8 (.bool (r3 == 1)), pl 196 (pa g4 4)] hF hS obs_nil (fun a w hF hS => ?_)
        obtain ⟨w, hrun, hS⟩ := run_put (P := Try.prog) (t := 3) (u := vi 999) (i := 4) (hS.at_ 3 rfl) hi3 hs3 rfl (Nat.lt_of_lt_of_eq (Nat.lt_of_succ_le (Nat.le_of_ble_eq_true (by kernel_rfl))) rfl)
        refine at_s hF hrun ?_
        have hS : Sep w0 B w (blk g1 65 (ca A1 p1.length c1 p2 p3 p4 p5 p6) :: blk g2 126 #[vi m1, vi m2, vi m3] :: blk g3 65 (ca none 0 0 0 0 0 0 0) :: blk g4 65 #[.slice A2 r1.1.length c2, vi (w64 (1 - p2)), vi q6, vi q4, vi 999, vi r1.2.2.2.2.2] :: own 3 (.slice A2 r1.1.length c2) (vI q3) :: fs) := hS
        refine ae [2, 3, 4, 5, 8] [pl 2 (pa g1 0), pl 3 (pa g2 0), pl 4 (pa g3 0), pl 5 (pa g4 0), pl 8 (.bool (r3 == 1))] hF rfl (fun hF => ?_)
        refine then_n ?_
        exact ⟨999, hF.wk [2, 3, 4, 5, 8], hS, hm⟩
       ·replace hm := if_f hm hb
        refine wpIn_skip ?_
        refine then_n ?_
        exact ⟨(w64 (r1.2.2.2.2.1 + 1)), hF.wk [2, 3, 4, 5, 8], hS, hm⟩
     ·refine rg [] [] [2, 3, 4, 5, 7, 8, 10, 11, 12] [pl 2 (pa g1 0), pl 3 (pa g2 0), pl 4 (pa g3 0), pl 5 (pa g4 0), pl 7 (vi (geti p1 m1)), pl 8 (.bool (r3 == 1)), pl 10 (.slice g5 4 4), pl 11 (.slice g6 4 4), pl 12 (vi 0)] hF hS obs_nil (fun a w hF hS => ?_)
      refine wpIn_block ?_
      have hS := hS.pickN 7 [2, 3, 4, 5, 6, 1, 0] (by decide)
      refine wp_loop_model (S := (Int × Int)) (R := Int) (rf_MoveDone_L1 p1 p2 m1 m2) (fun x => ((rf_MoveDone_K1 p1 p2 m2 r1 r3 q3 q4) x).bind some) r (fun (x : (Int × Int)) a w => Fr 221 [pl 2 (pa g1 0), pl 3 (pa g2 0), pl 4 (pa g3 0), pl 5 (pa g4 0), pl 7 (vi (geti p1 m1)), pl 8 (.bool (r3 == 1)), pl 10 (.slice g5 4 4), pl 11 (.slice g6 4 4), pl 12 (vi x.2)] a ∧ Sep w0 B w (blk g1 65 (ca A1 p1.length c1 p2 p3 p4 p5 p6) :: blk g2 126 #[vi m1, vi m2, vi m3] :: blk g3 65 (ca none 0 0 0 0 0 0 0) :: blk g4 65 #[.slice A2 r1.1.length c2, vi (w64 (1 - p2)), vi x.1, vi q4, vi r1.2.2.2.2.1, vi r1.2.2.2.2.2] :: own 3 (.slice A2 r1.1.length c2) (vI q3) :: own 3 (.slice g5 4 4) (vI ([4, 4, 60, 60] : List Int)) :: own 3 (.slice g6 4 4) (vI ([7, 0, 63, 56] : List Int)) :: fs)) (assoc_b hm) ⟨hF.wk [2, 3, 4, 5, 7, 8, 10, 11, 12], hS⟩ ?_
      clear hF hS hm
      rintro nn1 ⟨q5, n2⟩ a w ⟨hF, hS⟩ hm
      generalize hφ1 : stK (rf_MoveDone_L1 p1 p2 m1 m2) nn1 (fun x => ((rf_MoveDone_K1 p1 p2 m2 r1 r3 q3 q4) x).bind some) = φ1 at hm
      unfold rf_MoveDone_L1 at hm
      dsimp only at hF hS hm
      refine seq_cut (fun a w => Fr 221 [pl 2 (pa g1 0), pl 3 (pa g2 0), pl 4 (pa g3 0), pl 5 (pa g4 0), pl 7 (vi (geti p1 m1)), pl 8 (.bool (r3 == 1)), pl 10 (.slice g5 4 4), pl 11 (.slice g6 4 4), pl 12 (vi n2)] a ∧ Sep w0 B w (blk g1 65 (ca A1 p1.length c1 p2 p3 p4 p5 p6) :: blk g2 126 #[vi m1, vi m2, vi m3] :: blk g3 65 (ca none 0 0 0 0 0 0 0) :: blk g4 65 #[.slice A2 r1.1.length c2, vi (w64 (1 - p2)), vi q5, vi q4, vi r1.2.2.2.2.1, vi r1.2.2.2.2.2] :: own 3 (.slice A2 r1.1.length c2) (vI q3) :: own 3 (.slice g5 4 4) (vI ([4, 4, 60, 60] : List Int)) :: own 3 (.slice g6 4 4) (vI ([7, 0, 63, 56] : List Int)) :: fs) ∧ ((rf_MoveDone_J7 p1 p2 m1 m2 q5 n2)).bind φ1 = some r) ?_ ?_
      ·rintro a w ⟨hF, hS, hm⟩
       unfold rf_MoveDone_J7 at hm
       refine seq_cut (fun a w => ∃ (q7 : Int), Fr 221 [pl 2 (pa g1 0), pl 3 (pa g2 0), pl 4 (pa g3 0), pl 5 (pa g4 0), pl 7 (vi (geti p1 m1)), pl 8 (.bool (r3 == 1)), pl 10 (.slice g5 4 4), pl 11 (.slice g6 4 4), pl 12 (vi n2)] a ∧ Sep w0 B w (blk g1 65 (ca A1 p1.length c1 p2 p3 p4 p5 p6) :: blk g2 126 #[vi m1, vi m2, vi m3] :: blk g3 65 (ca none 0 0 0 0 0 0 0) :: blk g4 65 #[.slice A2 r1.1.length c2, vi (w64 (1 - p2)), vi q7, vi q4, vi r1.2.2.2.2.1, vi r1.2.2.2.2.2] :: own 3 (.slice A2 r1.1.length c2) (vI q3) :: own 3 (.slice g5 4 4) (vI ([4, 4, 60, 60] : List Int)) :: own 3 (.slice g6 4 4) (vI ([7, 0, 63, 56] : List Int)) :: fs) ∧ ((rf_MoveDone_J8 n2) q7).bind φ1 = some r) ?_ ?_
       ·rintro a w ⟨q7, hF, hS, hm⟩
        unfold rf_MoveDone_J8 at hm
        refine rg1 [] [] [2, 3, 4, 5, 7, 8, 10, 11, 12] [pl 2 (pa g1 0), pl 3 (pa g2 0), pl 4 (pa g3 0), pl 5 (pa g4 0), pl 7 (vi (geti p1 m1)), pl 8 (.bool (r3 == 1)), pl 10 (.slice g5 4 4), pl 11 (.slice g6 4 4), pl 12 (vi (w64 (n2 + 1)))] hF hS obs_nil (fun a w hF hS => ?_)
        refine then_n ?_
        rw [← hφ1] at hm
        exact ⟨(q7, (w64 (n2 + 1))), ⟨hF.wk [2, 3, 4, 5, 7, 8, 10, 11, 12], hS⟩, hm⟩
       ·refine wpIn_block ?_
        obtain ⟨hp9, hm⟩ := asrt_b hm
        obtain ⟨hp10, hm⟩ := asrt_b hm
        obtain ⟨r7, hr7, hm⟩ := call_b hm
        obtain ⟨hp11, hm⟩ := asrt_b hm
        refine rg [⟨false, [], vS (Instr.loadAt 3 (pa g2 0)), vi m1⟩, ⟨true, [], vS (Instr.indexAt 22 (.slice g6 4 4) (vi n2)), .pointer (some (sAddr g6 n2))⟩, ⟨false, [], vS (Instr.loadAt 3 (.pointer (some (sAddr g6 n2)))), vi (geti ([7, 0, 63, 56] : List Int) n2)⟩, ⟨false, [((m1 == (geti ([7, 0, 63, 56] : List Int) n2)), false)], vS (Instr.loadAt 3 (pa g2 1)), vi m2⟩, ⟨true, [((m1 == (geti ([7, 0, 63, 56] : List Int) n2)), false)], vS (Instr.indexAt 22 (.slice g6 4 4) (vi n2)), .pointer (some (sAddr g6 n2))⟩, ⟨false, [((m1 == (geti ([7, 0, 63, 56] : List Int) n2)), false)], vS (Instr.loadAt 3 (.pointer (some (sAddr g6 n2)))), vi (geti ([7, 0, 63, 56] : List Int) n2)⟩, ⟨false, [((m1 == (geti ([7, 0, 63, 56] : List Int) n2)) || (m2 == (geti ([7, 0, 63, 56] : List Int) n2)), false)], callFunc 81 #[vi (geti p1 m1)], vi r7⟩, ⟨false, [((r7 == 6), true), ((m1 == (geti ([7, 0, 63, 56] : List Int) n2)) || (m2 == (geti ([7, 0, 63, 56] : List Int) n2)), false)], vS (Instr.loadAt 3 (pa g1 1)), vi p2⟩, ⟨true, [((r7 == 6) && ((w64 (Int.tdiv n2 2)) == p2), true), ((m1 == (geti ([7, 0, 63, 56] : List Int) n2)) || (m2 == (geti ([7, 0, 63, 56] : List Int) n2)), false)], vS (Instr.indexAt 22 (.slice g5 4 4) (vi n2)), .pointer (some (sAddr g5 n2))⟩, ⟨false, [((r7 == 6) && ((w64 (Int.tdiv n2 2)) == p2), true), ((m1 == (geti ([7, 0, 63, 56] : List Int) n2)) || (m2 == (geti ([7, 0, 63, 56] : List Int) n2)), false)], vS (Instr.loadAt 3 (.pointer (some (sAddr g5 n2)))), vi (geti ([4, 4, 60, 60] : List Int) n2)⟩] [none, some (vi m1), none, none, some (.pointer (some (sAddr g6 n2))), some (vi (geti ([7, 0, 63, 56] : List Int) n2)), none, none, none, some (vi m2), none, none, some (.pointer (some (sAddr g6 n2))), some (vi (geti ([7, 0, 63, 56] : List Int) n2)), none, none, none, none, some (vi r7), none, none, none, none, none, some (vi p2), none, none, none, none, none, some (.pointer (some (sAddr g5 n2))), some (vi (geti ([4, 4, 60, 60] : List Int) n2)), none, none, none, none] [2, 3, 4, 5, 7, 8, 10, 11, 12, 13] [pl 2 (pa g1 0), pl 3 (pa g2 0), pl 4 (pa g3 0), pl 5 (pa g4 0), pl 7 (vi (geti p1 m1)), pl 8 (.bool (r3 == 1)), pl 10 (.slice g5 4 4), pl 11 (.slice g6 4 4), pl 12 (vi n2), pl 13 (.bool (((m1 == (geti ([7, 0, 63, 56] : List Int) n2)) || (m2 == (geti ([7, 0, 63, 56] : List Int) n2))) || (((r7 == 6) && ((w64 (Int.tdiv n2 2)) == p2)) && (decide ((0 : Int) ≤ (geti ([4, 4, 60, 60] : List Int) n2))))))] hF hS ?_ (fun a w hF hS => ?_)
        ·exact obs_cons (ob_load Agg3 (fun _ _ hS => (hS.at_ 1 rfl).cell rfl)) <| obs_cons (ob_ix1 (f := (Value.int .i64)) (m := ([7, 0, 63, 56] : List Int)) Und22 hi3 hs3 (hS.at_ 6 rfl).rd ((hS.at_ 6 rfl).len1) (fun _ => hp9)) <| obs_cons (ob_get1 (n := 4) (m := ([7, 0, 63, 56] : List Int)) (Value.int .i64) (0 : Int) Agg3 (fun _ hS => ⟨_, (hS.at_ 6 rfl).rd⟩) (fun _ hS => ((hS.at_ 6 rfl).len1)) (fun _ => hp9)) <| obs_cons (ob_load Agg3 (fun _ _ hS => (hS.at_ 1 rfl).cell rfl)) <| obs_cons (ob_ix1 (f := (Value.int .i64)) (m := ([7, 0, 63, 56] : List Int)) Und22 hi3 hs3 (hS.at_ 6 rfl).rd ((hS.at_ 6 rfl).len1) (fun hy => hp10 (hy ((m1 == (geti ([7, 0, 63, 56] : List Int) n2)), false) (by simp)))) <| obs_cons (ob_get1 (n := 4) (m := ([7, 0, 63, 56] : List Int)) (Value.int .i64) (0 : Int) Agg3 (fun _ hS => ⟨_, (hS.at_ 6 rfl).rd⟩) (fun _ hS => ((hS.at_ 6 rfl).len1)) (fun hy => hp10 (hy ((m1 == (geti ([7, 0, 63, 56] : List Int) n2)), false) (by simp)))) <| obs_cons (ob_call Try.func81 (by kernel_rfl) rfl (fun hy _ hS => rf_size_w (ite_some hr7 (by rw [show ((m1 == (geti ([7, 0, 63, 56] : List Int) n2)) || (m2 == (geti ([7, 0, 63, 56] : List Int) n2))) = false from hy ((m1 == (geti ([7, 0, 63, 56] : List Int) n2)) || (m2 == (geti ([7, 0, 63, 56] : List Int) n2)), false) (by simp)]; try rfl)) hS )) <| obs_cons (ob_load Agg3 (fun _ _ hS => (hS.at_ 0 rfl).cell rfl)) <| obs_cons (ob_ix1 (f := (Value.int .i64)) (m := ([4, 4, 60, 60] : List Int)) Und22 hi3 hs3 (hS.at_ 5 rfl).rd ((hS.at_ 5 rfl).len1) (fun hy => hp11 (hy ((r7 == 6) && ((w64 (Int.tdiv n2 2)) == p2), true) (by simp)) (hy ((m1 == (geti ([7, 0, 63, 56] : List Int) n2)) || (m2 == (geti ([7, 0, 63, 56] : List Int) n2)), false) (by simp)))) <| obs_cons (ob_get1 (n := 4) (m := ([4, 4, 60, 60] : List Int)) (Value.int .i64) (0 : Int) Agg3 (fun _ hS => ⟨_, (hS.at_ 5 rfl).rd⟩) (fun _ hS => ((hS.at_ 5 rfl).len1)) (fun hy => hp11 (hy ((r7 == 6) && ((w64 (Int.tdiv n2 2)) == p2), true) (by simp)) (hy ((m1 == (geti ([7, 0, 63, 56] : List Int) n2)) || (m2 == (geti ([7, 0, 63, 56] : List Int) n2)), false) (by simp)))) <| obs_nil
        obtain ⟨hp12, hm⟩ := asrt_b hm
        refine rg [⟨false, [(((m1 == (geti ([7, 0, 63, 56] : List Int) n2)) || (m2 == (geti ([7, 0, 63, 56] : List Int) n2))) || (((r7 == 6) && ((w64 (Int.tdiv n2 2)) == p2)) && (decide ((0 : Int) ≤ (geti ([4, 4, 60, 60] : List Int) n2)))), true)], vS (Instr.loadAt 3 (pa g4 2)), vi q5⟩, ⟨true, [(((m1 == (geti ([7, 0, 63, 56] : List Int) n2)) || (m2 == (geti ([7, 0, 63, 56] : List Int) n2))) || (((r7 == 6) && ((w64 (Int.tdiv n2 2)) == p2)) && (decide ((0 : Int) ≤ (geti ([4, 4, 60, 60] : List Int) n2)))), true)], vS (Op.shift .shr .i64 q5 .i64 n2), vi (shrK .i64 q5 n2)⟩] [none, none, none, some (vi q5), none, some (vi (shrK .i64 q5 n2)), none, none, none] [2, 3, 4, 5, 7, 8, 10, 11, 12, 182] [pl 2 (pa g1 0), pl 3 (pa g2 0), pl 4 (pa g3 0), pl 5 (pa g4 0), pl 7 (vi (geti p1 m1)), pl 8 (.bool (r3 == 1)), pl 10 (.slice g5 4 4), pl 11 (.slice g6 4 4), pl 12 (vi n2), pl 182 (.bool ((((m1 == (geti ([7, 0, 63, 56] : List Int) n2)) || (m2 == (geti ([7, 0, 63, 56] : List Int) n2))) || (((r7 == 6) && ((w64 (Int.tdiv n2 2)) == p2)) && (decide ((0 : Int) ≤ (geti ([4, 4, 60, 60] : List Int) n2))))) && ((bAnd (shrK .i64 q5 n2) 1) == 1)))] hF hS ?_ (fun a w hF hS => ?_)
        ·exact obs_cons (ob_load Agg3 (fun _ _ hS => (hS.at_ 3 rfl).cell rfl)) <| obs_cons (ob_shr (fun hy => hp12 (hy (((m1 == (geti ([7, 0, 63, 56] : List Int) n2)) || (m2 == (geti ([7, 0, 63, 56] : List Int) n2))) || (((r7 == 6) && ((w64 (Int.tdiv n2 2)) == p2)) && (decide ((0 : Int) ≤ (geti ([4, 4, 60, 60] : List Int) n2)))), true) (by simp)))) <| obs_nil
        refine ce (t := 182) (b := (((m1 == (geti ([7, 0, 63, 56] : List Int) n2)) || (m2 == (geti ([7, 0, 63, 56] : List Int) n2))) || (((r7 == 6) && ((w64 (Int.tdiv n2 2)) == p2)) && (decide ((0 : Int) ≤ (geti ([4, 4, 60, 60] : List Int) n2))))) && ((bAnd (shrK .i64 q5 n2) 1) == 1)) hF (fun hb => ?_) (fun hb => ?_)
        ·replace hm := if_t hm hb
         obtain ⟨hp13, hm⟩ := asrt_b hm
         refine regMix4 [0, 1, 2, 3, 4, 5] [6] [⟨false, [], vS (Instr.loadAt 3 (pa g4 2)), vi q5⟩, ⟨true, [], vS (Op.shift .shl .i64 1 .i64 n2), vi (shlK .i64 1 n2)⟩] [none, some (vi q5), none, some (vi (shlK .i64 1 n2)), none, none] [2, 3, 4, 5, 7, 8, 10, 11, 12, 187, 188] [pl 2 (pa g1 0), pl 3 (pa g2 0), pl 4 (pa g3 0), pl 5 (pa g4 0), pl 7 (vi (geti p1 m1)), pl 8 (.bool (r3 == 1)), pl 10 (.slice g5 4 4), pl 11 (.slice g6 4 4), pl 12 (vi n2), pl 187 (vi (w64 (q5 - (shlK .i64 1 n2)))), pl 188 (pa g4 2)] hF hS Fol (by kernel_rfl) (by kernel_rfl) (by kernel_rfl) (by kernel_rfl) (by kernel_rfl) ?_ (fun a w hF hS => ?_)
         ·exact obs_cons (ob_load Agg3 (fun _ _ hS => (hS.at_ 3 rfl).cell rfl)) <| obs_cons (ob_shl (fun _ => hp13)) <| obs_nil
         obtain ⟨w, hrun, hS⟩ := run_put (P := Try.prog) (t := 3) (u := vi (w64 (q5 - (shlK .i64 1 n2)))) (i := 2) (hS.at_ 3 rfl) hi3 hs3 rfl (Nat.lt_of_lt_of_eq (Nat.lt_of_succ_le (Nat.le_of_ble_eq_true (by kernel_rfl))) rfl)
         refine at_s hF hrun ?_
         have hS : Sep w0 B w (blk g1 65 (ca A1 p1.length c1 p2 p3 p4 p5 p6) :: blk g2 126 #[vi m1, vi m2, vi m3] :: blk g3 65 (ca none 0 0 0 0 0 0 0) :: blk g4 65 #[.slice A2 r1.1.length c2, vi (w64 (1 - p2)), vi (w64 (q5 - (shlK .i64 1 n2))), vi q4, vi r1.2.2.2.2.1, vi r1.2.2.2.2.2] :: own 3 (.slice A2 r1.1.length c2) (vI q3) :: own 3 (.slice g5 4 4) (vI ([4, 4, 60, 60] : List Int)) :: own 3 (.slice g6 4 4) (vI ([7, 0, 63, 56] : List Int)) :: fs) := hS
         refine ae [2, 3, 4, 5, 7, 8, 10, 11, 12] [pl 2 (pa g1 0), pl 3 (pa g2 0), pl 4 (pa g3 0), pl 5 (pa g4 0), pl 7 (vi (geti p1 m1)), pl 8 (.bool (r3 == 1)), pl 10 (.slice g5 4 4), pl 11 (.slice g6 4 4), pl 12 (vi n2)] hF rfl (fun hF => ?_)
         refine np_n ?_
         refine block_n ?_
         refine then_n ?_
         exact ⟨(w64 (q5 - (shlK .i64 1 n2))), hF.wk [2, 3, 4, 5, 7, 8, 10, 11, 12], hS, hm⟩
        ·replace hm := if_f hm hb
         refine wpIn_skip ?_
         refine block_n ?_
         refine then_n ?_
         exact ⟨q5, hF.wk [2, 3, 4, 5, 7, 8, 10, 11, 12], hS, hm⟩
      ·refine rg [] [] [2, 3, 4, 5, 7, 8, 10, 11, 12, 136] [pl 2 (pa g1 0), pl 3 (pa g2 0), pl 4 (pa g3 0), pl 5 (pa g4 0), pl 7 (vi (geti p1 m1)), pl 8 (.bool (r3 == 1)), pl 10 (.slice g5 4 4), pl 11 (.slice g6 4 4), pl 12 (vi n2), pl 136 (.bool (decide (n2 < 4)))] hF hS obs_nil (fun a w hF hS => ?_)
       refine ce (t := 136) (b := decide (n2 < 4)) hF (fun hb => ?_) (fun hb => ?_)
       ·replace hm := if_t hm hb
        refine wpIn_skip ?_
        refine then_n ?_
        exact ⟨hF.wk [2, 3, 4, 5, 7, 8, 10, 11, 12], hS, hm⟩
       ·replace hm := if_f hm hb
        refine wpIn_exit ?_
        refine then_e (then_e (block_e (then_n ?_)))
        have hS := hS.pickN 7 [0, 1, 2, 3, 4] (by decide)
        rw [← hφ1] at hm
        replace hm := done_b hm
        unfold rf_MoveDone_K1 at hm
        try dsimp only at hm
        have hm : ((rf_MoveDone_J6 p1 p2 m2 r1 r3 q3 q4) q5).bind some = some r := hm
        exact ⟨q5, hF.wk [2, 3, 4, 5, 8], hS, hm⟩
    ·obtain ⟨r6, hr6, hm⟩ := call_b hm
     refine rg [⟨false, [((r3 == 1), true)], vS (Instr.loadAt 3 (pa g2 1)), vi m2⟩, ⟨false, [((r3 == 1), true)], vS (Instr.loadAt 3 (pa g2 0)), vi m1⟩, ⟨false, [((r3 == 1), true)], callFunc 81 #[vi (w64 (m2 - m1))], vi r6⟩] [none, none, none, some (vi m2), none, some (vi m1), none, some (vi r6), none, none] [2, 3, 4, 5, 7, 8, 125] [pl 2 (pa g1 0), pl 3 (pa g2 0), pl 4 (pa g3 0), pl 5 (pa g4 0), pl 7 (vi (geti p1 m1)), pl 8 (.bool (r3 == 1)), pl 125 (.bool ((r3 == 1) && (r6 == 16)))] hF hS ?_ (fun a w hF hS => ?_)
     ·exact obs_cons (ob_load Agg3 (fun _ _ hS => (hS.at_ 1 rfl).cell rfl)) <| obs_cons (ob_load Agg3 (fun _ _ hS => (hS.at_ 1 rfl).cell rfl)) <| obs_cons (ob_call Try.func81 (by kernel_rfl) rfl (fun hy _ hS => rf_size_w (ite_some hr6 (by rw [show (r3 == 1) = true from hy ((r3 == 1), true) (by simp)]; try rfl)) hS )) <| obs_nil
     refine ce (t := 125) (b := (r3 == 1) && (r6 == 16)) hF (fun hb => ?_) (fun hb => ?_)
     ·replace hm := if_t hm hb
      refine oneR ?_
      refine ar 7 [⟨false, [], vS (Instr.loadAt 3 (pa g2 0)), vi m1⟩, ⟨false, [], vS (Instr.loadAt 3 (pa g2 1)), vi m2⟩] [none, some (vi m1), none, some (vi m2), none, none, none] [2, 3, 4, 5, 7, 8, 131, 132] [pl 2 (pa g1 0), pl 3 (pa g2 0), pl 4 (pa g3 0), pl 5 (pa g4 0), pl 7 (vi (geti p1 m1)), pl 8 (.bool (r3 == 1)), pl 131 (vi (w64 (Int.tdiv (w64 (m1 + m2)) 2))), pl 132 (pa g4 3)] hF hS ?_ (fun a w hF hS => ?_)
      ·exact obs_cons (ob_load Agg3 (fun _ _ hS => (hS.at_ 1 rfl).cell rfl)) <| obs_cons (ob_load Agg3 (fun _ _ hS => (hS.at_ 1 rfl).cell rfl)) <| obs_nil
      obtain ⟨w, hrun, hS⟩ := run_put (P := Try.prog) (t := 3) (u := vi (w64 (Int.tdiv (w64 (m1 + m2)) 2))) (i := 3) (hS.at_ 3 rfl) hi3 hs3 rfl (Nat.lt_of_lt_of_eq (Nat.lt_of_succ_le (Nat.le_of_ble_eq_true (by kernel_rfl))) rfl)
      refine at_s hF hrun ?_
      have hS : Sep w0 B w (blk g1 65 (ca A1 p1.length c1 p2 p3 p4 p5 p6) :: blk g2 126 #[vi m1, vi m2, vi m3] :: blk g3 65 (ca none 0 0 0 0 0 0 0) :: blk g4 65 #[.slice A2 r1.1.length c2, vi (w64 (1 - p2)), vi r1.2.2.1, vi (w64 (Int.tdiv (w64 (m1 + m2)) 2)), vi r1.2.2.2.2.1, vi r1.2.2.2.2.2] :: own 3 (.slice A2 r1.1.length c2) (vI q3) :: fs) := hS
      refine ae [2, 3, 4, 5, 7, 8] [pl 2 (pa g1 0), pl 3 (pa g2 0), pl 4 (pa g3 0), pl 5 (pa g4 0), pl 7 (vi (geti p1 m1)), pl 8 (.bool (r3 == 1))] hF rfl (fun hF => ?_)
      refine then_n ?_
      exact ⟨(w64 (Int.tdiv (w64 (m1 + m2)) 2)), hF.wk [2, 3, 4, 5, 7, 8], hS, hm⟩
     ·replace hm := if_f hm hb
      refine wpIn_skip ?_
      refine then_n ?_
      exact ⟨(-1), hF.wk [2, 3, 4, 5, 7, 8], hS, hm⟩
   ·obtain ⟨r4, hr4, hm⟩ := call_b hm
    obtain ⟨r5, hr5, hm⟩ := call_b hm
    refine rg [⟨false, [], callFunc 81 #[vi (geti p1 m1)], vi r4⟩, ⟨false, [((r4 == 6), true)], vS (Instr.loadAt 3 (pa g2 1)), vi m2⟩, ⟨false, [((r4 == 6), true)], vS (Instr.loadAt 3 (pa g2 0)), vi m1⟩, ⟨false, [((r4 == 6), true)], callFunc 81 #[vi (w64 (m2 - m1))], vi r5⟩] [none, some (vi r4), none, none, none, some (vi m2), none, some (vi m1), none, some (vi r5), none, none] [2, 3, 4, 5, 7, 8, 78] [pl 2 (pa g1 0), pl 3 (pa g2 0), pl 4 (pa g3 0), pl 5 (pa g4 0), pl 7 (vi (geti p1 m1)), pl 8 (.bool (r3 == 1)), pl 78 (.bool ((r4 == 6) && (r5 == 2)))] hF hS ?_ (fun a w hF hS => ?_)
    ·exact obs_cons (ob_call Try.func81 (by kernel_rfl) rfl (fun _ _ hS => rf_size_w hr4 hS )) <| obs_cons (ob_load Agg3 (fun _ _ hS => (hS.at_ 1 rfl).cell rfl)) <| obs_cons (ob_load Agg3 (fun _ _ hS => (hS.at_ 1 rfl).cell rfl)) <| obs_cons (ob_call Try.func81 (by kernel_rfl) rfl (fun hy _ hS => rf_size_w (ite_some hr5 (by rw [show (r4 == 6) = true from hy ((r4 == 6), true) (by simp)]; try rfl)) hS )) <| obs_nil
    refine ce (t := 78) (b := (r4 == 6) && (r5 == 2)) hF (fun hb => ?_) (fun hb => ?_)
    ·replace hm := if_t hm hb
     refine rg [⟨false, [], vS (Instr.loadAt 3 (pa g2 0)), vi m1⟩] [none, some (vi m1), none, none, none, none] [2, 3, 4, 5, 7, 8, 9] [pl 2 (pa g1 0), pl 3 (pa g2 0), pl 4 (pa g3 0), pl 5 (pa g4 0), pl 7 (vi (geti p1 m1)), pl 8 (.bool (r3 == 1)), pl 9 (vi (w64 ((w64 ((w64 (Int.tdiv m1 8)) * 8)) + 7)))] hF hS ?_ (fun a w hF hS => ?_)
     ·exact obs_cons (ob_load Agg3 (fun _ _ hS => (hS.at_ 1 rfl).cell rfl)) <| obs_nil
     refine seq_cut (fun a w => ∃ (corner1 : Int), Fr 221 [pl 2 (pa g1 0), pl 3 (pa g2 0), pl 4 (pa g3 0), pl 5 (pa g4 0), pl 7 (vi (geti p1 m1)), pl 8 (.bool (r3 == 1)), pl 9 (vi corner1)] a ∧ Sep w0 B w (blk g1 65 (ca A1 p1.length c1 p2 p3 p4 p5 p6) :: blk g2 126 #[vi m1, vi m2, vi m3] :: blk g3 65 (ca none 0 0 0 0 0 0 0) :: blk g4 65 (ca A2 r1.1.length c2 r1.2.1 r1.2.2.1 r1.2.2.2.1 r1.2.2.2.2.1 r1.2.2.2.2.2) :: own 3 (.slice A2 r1.1.length c2) (vI q2) :: fs) ∧ ((rf_MoveDone_J4 p1 p2 m1 m2 r1 r3 q2) corner1).bind some = some r) ?_ ?_
     ·rintro a w ⟨corner1, hF, hS, hm⟩
      unfold rf_MoveDone_J4 at hm
      refine wpIn_seq ?_
      obtain ⟨hp6, hm⟩ := asrt_b hm
      obtain ⟨hp7, hm⟩ := asrt_b hm
      refine regMix4 [0, 1, 2, 3, 4, 5, 6, 7, 8, 9, 10, 11, 12, 13] [14] [⟨false, [], vS (Instr.loadAt 22 (pa g4 0)), .slice A2 r1.1.length c2⟩, ⟨false, [], vS (Instr.loadAt 3 (pa g2 0)), vi m1⟩, ⟨false, [], vS (Instr.loadAt 3 (pa g2 1)), vi m2⟩, ⟨false, [], vS (Instr.loadAt 22 (pa g4 0)), .slice A2 r1.1.length c2⟩, ⟨true, [], vS (Instr.indexAt 22 (.slice A2 r1.1.length c2) (vi corner1)), .pointer (some (sAddr A2 corner1))⟩, ⟨false, [], vS (Instr.loadAt 3 (.pointer (some (sAddr A2 corner1)))), vi (geti q2 corner1)⟩, ⟨true, [], vS (Instr.indexAt 22 (.slice A2 r1.1.length c2) (vi (w64 (Int.tdiv (w64 (m1 + m2)) 2)))), .pointer (some (sAddr A2 (w64 (Int.tdiv (w64 (m1 + m2)) 2))))⟩] [none, some (.slice A2 r1.1.length c2), none, some (vi m1), none, some (vi m2), none, none, none, some (.slice A2 r1.1.length c2), none, some (.pointer (some (sAddr A2 corner1))), some (vi (geti q2 corner1)), some (.pointer (some (sAddr A2 (w64 (Int.tdiv (w64 (m1 + m2)) 2)))))] [2, 3, 4, 5, 7, 8, 9, 105, 106] [pl 2 (pa g1 0), pl 3 (pa g2 0), pl 4 (pa g3 0), pl 5 (pa g4 0), pl 7 (vi (geti p1 m1)), pl 8 (.bool (r3 == 1)), pl 9 (vi corner1), pl 105 (vi (geti q2 corner1)), pl 106 (.pointer (some (sAddr A2 (w64 (Int.tdiv (w64 (m1 + m2)) 2)))))] hF hS Fol (by kernel_rfl) (by kernel_rfl) (by kernel_rfl) (by kernel_rfl) (by kernel_rfl) ?_ (fun a w hF hS => ?_)
      ·exact obs_cons (ob_load Agg22 (fun _ _ hS => (hS.at_ 3 rfl).cell rfl)) <| obs_cons (ob_load Agg3 (fun _ _ hS => (hS.at_ 1 rfl).cell rfl)) <| obs_cons (ob_load Agg3 (fun _ _ hS => (hS.at_ 1 rfl).cell rfl)) <| obs_cons (ob_load Agg22 (fun _ _ hS => (hS.at_ 3 rfl).cell rfl)) <| obs_cons (ob_ix1 (f := (Value.int .i64)) (m := q2) Und22 hi3 hs3 (hS.at_ 4 rfl).rd ((hS.at_ 4 rfl).len1) (fun _ => hp6)) <| obs_cons (ob_get1 (n := r1.1.length) (m := q2) (Value.int .i64) (0 : Int) Agg3 (fun _ hS => ⟨_, (hS.at_ 4 rfl).rd⟩) (fun _ hS => ((hS.at_ 4 rfl).len1)) (fun _ => hp6)) <| obs_cons (ob_ix1 (f := (Value.int .i64)) (m := q2) Und22 hi3 hs3 (hS.at_ 4 rfl).rd ((hS.at_ 4 rfl).len1) (fun _ => hp7)) <| obs_nil
      obtain ⟨w, hrun, hS⟩ := run_set1 (P := Try.prog) (t := 3) (x := (geti q2 corner1)) (Value.int .i64) (hS.at_ 4 rfl) hi3 hs3 rfl rfl hp7
      refine at_s hF hrun ?_
      have hS : Sep w0 B w (blk g1 65 (ca A1 p1.length c1 p2 p3 p4 p5 p6) :: blk g2 126 #[vi m1, vi m2, vi m3] :: blk g3 65 (ca none 0 0 0 0 0 0 0) :: blk g4 65 (ca A2 r1.1.length c2 r1.2.1 r1.2.2.1 r1.2.2.2.1 r1.2.2.2.2.1 r1.2.2.2.2.2) :: own 3 (.slice A2 r1.1.length c2) (vI (q2.set (Int.toNat (w64 (Int.tdiv (w64 (m1 + m2)) 2))) (geti q2 corner1))) :: fs) := hS
      refine ae [2, 3, 4, 5, 7, 8, 9] [pl 2 (pa g1 0), pl 3 (pa g2 0), pl 4 (pa g3 0), pl 5 (pa g4 0), pl 7 (vi (geti p1 m1)), pl 8 (.bool (r3 == 1)), pl 9 (vi corner1)] hF rfl (fun hF => ?_)
      refine np_n ?_
      refine then_n ?_
      refine oneR ?_
      obtain ⟨hp8, hm⟩ := asrt_b hm
      refine ar 4 [⟨false, [], vS (Instr.loadAt 22 (pa g4 0)), .slice A2 r1.1.length c2⟩, ⟨true, [], vS (Instr.indexAt 22 (.slice A2 r1.1.length c2) (vi corner1)), .pointer (some (sAddr A2 corner1))⟩] [none, some (.slice A2 r1.1.length c2), none, some (.pointer (some (sAddr A2 corner1)))] [2, 3, 4, 5, 7, 8, 110] [pl 2 (pa g1 0), pl 3 (pa g2 0), pl 4 (pa g3 0), pl 5 (pa g4 0), pl 7 (vi (geti p1 m1)), pl 8 (.bool (r3 == 1)), pl 110 (.pointer (some (sAddr A2 corner1)))] hF hS ?_ (fun a w hF hS => ?_)
      ·exact obs_cons (ob_load Agg22 (fun _ _ hS => (hS.at_ 3 rfl).cell rfl)) <| obs_cons (ob_ix1 (f := (Value.int .i64)) (m := (q2.set (Int.toNat (w64 (Int.tdiv (w64 (m1 + m2)) 2))) (geti q2 corner1))) Und22 hi3 hs3 (hS.at_ 4 rfl).rd ((hS.at_ 4 rfl).len1) (fun _ => hp8)) <| obs_nil
      obtain ⟨w, hrun, hS⟩ := run_set1 (P := Try.prog) (t := 3) (x := 0) (Value.int .i64) (hS.at_ 4 rfl) hi3 hs3 rfl rfl hp8
      refine at_s hF hrun ?_
      have hS : Sep w0 B w (blk g1 65 (ca A1 p1.length c1 p2 p3 p4 p5 p6) :: blk g2 126 #[vi m1, vi m2, vi m3] :: blk g3 65 (ca none 0 0 0 0 0 0 0) :: blk g4 65 (ca A2 r1.1.length c2 r1.2.1 r1.2.2.1 r1.2.2.2.1 r1.2.2.2.2.1 r1.2.2.2.2.2) :: own 3 (.slice A2 r1.1.length c2) (vI ((q2.set (Int.toNat (w64 (Int.tdiv (w64 (m1 + m2)) 2))) (geti q2 corner1)).set (Int.toNat corner1) 0)) :: fs) := hS
      refine ae [2, 3, 4, 5, 7, 8] [pl 2 (pa g1 0), pl 3 (pa g2 0), pl 4 (pa g3 0), pl 5 (pa g4 0), pl 7 (vi (geti p1 m1)), pl 8 (.bool (r3 == 1))] hF rfl (fun hF => ?_)
      refine then_n ?_
      exact ⟨((q2.set (Int.toNat (w64 (Int.tdiv (w64 (m1 + m2)) 2))) (geti q2 corner1)).set (Int.toNat corner1) 0), hF.wk [2, 3, 4, 5, 7, 8], hS, hm⟩
     ·refine rg [⟨false, [], vS (Instr.loadAt 3 (pa g2 1)), vi m2⟩, ⟨false, [], vS (Instr.loadAt 3 (pa g2 0)), vi m1⟩] [none, some (vi m2), none, some (vi m1), none] [2, 3, 4, 5, 7, 8, 9, 88] [pl 2 (pa g1 0), pl 3 (pa g2 0), pl 4 (pa g3 0), pl 5 (pa g4 0), pl 7 (vi (geti p1 m1)), pl 8 (.bool (r3 == 1)), pl 9 (vi (w64 ((w64 ((w64 (Int.tdiv m1 8)) * 8)) + 7))), pl 88 (.bool (decide (m2 < m1)))] hF hS ?_ (fun a w hF hS => ?_)
      ·exact obs_cons (ob_load Agg3 (fun _ _ hS => (hS.at_ 1 rfl).cell rfl)) <| obs_cons (ob_load Agg3 (fun _ _ hS => (hS.at_ 1 rfl).cell rfl)) <| obs_nil
      refine ce (t := 88) (b := decide (m2 < m1)) hF (fun hb => ?_) (fun hb => ?_)
      ·replace hm := if_t hm hb
       refine rg1 [⟨false, [], vS (Instr.loadAt 3 (pa g2 0)), vi m1⟩] [none, some (vi m1), none, none, none] [2, 3, 4, 5, 7, 8, 9] [pl 2 (pa g1 0), pl 3 (pa g2 0), pl 4 (pa g3 0), pl 5 (pa g4 0), pl 7 (vi (geti p1 m1)), pl 8 (.bool (r3 == 1)), pl 9 (vi (w64 ((w64 (Int.tdiv m1 8)) * 8)))] hF hS ?_ (fun a w hF hS => ?_)
       ·exact obs_cons (ob_load Agg3 (fun _ _ hS => (hS.at_ 1 rfl).cell rfl)) <| obs_nil
       refine then_n ?_
       exact ⟨(w64 ((w64 (Int.tdiv m1 8)) * 8)), hF.wk [2, 3, 4, 5, 7, 8, 9], hS, hm⟩
      ·replace hm := if_f hm hb
       refine wpIn_skip ?_
       refine then_n ?_
       exact ⟨(w64 ((w64 ((w64 (Int.tdiv m1 8)) * 8)) + 7)), hF.wk [2, 3, 4, 5, 7, 8, 9], hS, hm⟩
    ·replace hm := if_f hm hb
     refine wpIn_skip ?_
     refine then_n ?_
     exact ⟨q2, hF.wk [2, 3, 4, 5, 7, 8], hS, hm⟩
  ·refine rg [⟨false, [((r3 == 1), true)], vS (Instr.loadAt 3 (pa g2 1)), vi m2⟩, ⟨false, [((r3 == 1), true)], vS (Instr.loadAt 3 (pa g1 3)), vi p4⟩] [none, none, none, some (vi m2), none, some (vi p4), none, none] [2, 3, 4, 5, 6, 7, 8, 58] [pl 2 (pa g1 0), pl 3 (pa g2 0), pl 4 (pa g3 0), pl 5 (pa g4 0), pl 6 (vi r2), pl 7 (vi (geti p1 m1)), pl 8 (.bool (r3 == 1)), pl 58 (.bool ((r3 == 1) && (m2 == p4)))] hF hS ?_ (fun a w hF hS => ?_)
   ·exact obs_cons (ob_load Agg3 (fun _ _ hS => (hS.at_ 1 rfl).cell rfl)) <| obs_cons (ob_load Agg3 (fun _ _ hS => (hS.at_ 0 rfl).cell rfl)) <| obs_nil
   refine ce (t := 58) (b := (r3 == 1) && (m2 == p4)) hF (fun hb => ?_) (fun hb => ?_)
   ·replace hm := if_t hm hb
    refine oneR ?_
    obtain ⟨hp5, hm⟩ := asrt_b hm
    refine ar 8 [⟨false, [], vS (Instr.loadAt 22 (pa g4 0)), .slice A2 r1.1.length c2⟩, ⟨false, [], vS (Instr.loadAt 3 (pa g2 1)), vi m2⟩, ⟨true, [], vS (Instr.indexAt 22 (.slice A2 r1.1.length c2) (vi (w64 (m2 - (w64 (8 * r2)))))), .pointer (some (sAddr A2 (w64 (m2 - (w64 (8 * r2))))))⟩] [none, some (.slice A2 r1.1.length c2), none, some (vi m2), none, none, none, some (.pointer (some (sAddr A2 (w64 (m2 - (w64 (8 * r2)))))))] [2, 3, 4, 5, 7, 8, 66] [pl 2 (pa g1 0), pl 3 (pa g2 0), pl 4 (pa g3 0), pl 5 (pa g4 0), pl 7 (vi (geti p1 m1)), pl 8 (.bool (r3 == 1)), pl 66 (.pointer (some (sAddr A2 (w64 (m2 - (w64 (8 * r2)))))))] hF hS ?_ (fun a w hF hS => ?_)
    ·exact obs_cons (ob_load Agg22 (fun _ _ hS => (hS.at_ 3 rfl).cell rfl)) <| obs_cons (ob_load Agg3 (fun _ _ hS => (hS.at_ 1 rfl).cell rfl)) <| obs_cons (ob_ix1 (f := (Value.int .i64)) (m := q1) Und22 hi3 hs3 (hS.at_ 4 rfl).rd ((hS.at_ 4 rfl).len1) (fun _ => hp5)) <| obs_nil
    obtain ⟨w, hrun, hS⟩ := run_set1 (P := Try.prog) (t := 3) (x := 0) (Value.int .i64) (hS.at_ 4 rfl) hi3 hs3 rfl rfl hp5
    refine at_s hF hrun ?_
    have hS : Sep w0 B w (blk g1 65 (ca A1 p1.length c1 p2 p3 p4 p5 p6) :: blk g2 126 #[vi m1, vi m2, vi m3] :: blk g3 65 (ca none 0 0 0 0 0 0 0) :: blk g4 65 (ca A2 r1.1.length c2 r1.2.1 r1.2.2.1 r1.2.2.2.1 r1.2.2.2.2.1 r1.2.2.2.2.2) :: own 3 (.slice A2 r1.1.length c2) (vI (q1.set (Int.toNat (w64 (m2 - (w64 (8 * r2))))) 0)) :: fs) := hS
    refine ae [2, 3, 4, 5, 7, 8] [pl 2 (pa g1 0), pl 3 (pa g2 0), pl 4 (pa g3 0), pl 5 (pa g4 0), pl 7 (vi (geti p1 m1)), pl 8 (.bool (r3 == 1))] hF rfl (fun hF => ?_)
    refine then_n ?_
    exact ⟨(q1.set (Int.toNat (w64 (m2 - (w64 (8 * r2))))) 0), hF.wk [2, 3, 4, 5, 7, 8], hS, hm⟩
   ·replace hm := if_f hm hb
    refine wpIn_skip ?_
    refine then_n ?_
    exact ⟨q1, hF.wk [2, 3, 4, 5, 7, 8], hS, hm⟩
 ·refine rg [⟨false, [], vS (Instr.loadAt 3 (pa g2 2)), vi m3⟩] [none, some (vi m3), none] [2, 3, 4, 5, 6, 7, 8, 41] [pl 2 (pa g1 0), pl 3 (pa g2 0), pl 4 (pa g3 0), pl 5 (pa g4 0), pl 6 (vi r2), pl 7 (vi (geti p1 m1)), pl 8 (.bool (r3 == 1)), pl 41 (.bool (decide ((0 : Int) < m3)))] hF hS ?_ (fun a w hF hS => ?_)
  ·exact obs_cons (ob_load Agg3 (fun _ _ hS => (hS.at_ 3 rfl).cell rfl)) <| obs_nil
  refine ce (t := 41) (b := decide ((0 : Int) < m3)) hF (fun hb => ?_) (fun hb => ?_)
  ·replace hm := if_t hm hb
   refine oneR ?_
   obtain ⟨hp4, hm⟩ := asrt_b hm
   refine ar 9 [⟨false, [], vS (Instr.loadAt 22 (pa g4 0)), .slice A2 r1.1.length c2⟩, ⟨false, [], vS (Instr.loadAt 3 (pa g2 1)), vi m2⟩, ⟨false, [], vS (Instr.loadAt 3 (pa g2 2)), vi m3⟩, ⟨true, [], vS (Instr.indexAt 22 (.slice A2 r1.1.length c2) (vi m2)), .pointer (some (sAddr A2 m2))⟩] [none, some (.slice A2 r1.1.length c2), none, some (vi m2), none, none, some (vi m3), none, some (.pointer (some (sAddr A2 m2)))] [2, 3, 4, 5, 6, 7, 8, 49, 50] [pl 2 (pa g1 0), pl 3 (pa g2 0), pl 4 (pa g3 0), pl 5 (pa g4 0), pl 6 (vi r2), pl 7 (vi (geti p1 m1)), pl 8 (.bool (r3 == 1)), pl 49 (vi (w64 (r2 * m3))), pl 50 (.pointer (some (sAddr A2 m2)))] hF hS ?_ (fun a w hF hS => ?_)
   ·exact obs_cons (ob_load Agg22 (fun _ _ hS => (hS.at_ 0 rfl).cell rfl)) <| obs_cons (ob_load Agg3 (fun _ _ hS => (hS.at_ 3 rfl).cell rfl)) <| obs_cons (ob_load Agg3 (fun _ _ hS => (hS.at_ 3 rfl).cell rfl)) <| obs_cons (ob_ix1 (f := (Value.int .i64)) (m := ((r1.1.set (Int.toNat m1) 0).set (Int.toNat m2) (geti p1 m1))) Und22 hi3 hs3 (hS.at_ 1 rfl).rd ((hS.at_ 1 rfl).len1) (fun _ => hp4)) <| obs_nil
   obtain ⟨w, hrun, hS⟩ := run_set1 (P := Try.prog) (t := 3) (x := (w64 (r2 * m3))) (Value.int .i64) (hS.at_ 1 rfl) hi3 hs3 rfl rfl hp4
   refine at_s hF hrun ?_
   have hS : Sep w0 B w (blk g4 65 (ca A2 r1.1.length c2 r1.2.1 r1.2.2.1 r1.2.2.2.1 r1.2.2.2.2.1 r1.2.2.2.2.2) :: own 3 (.slice A2 r1.1.length c2) (vI (((r1.1.set (Int.toNat m1) 0).set (Int.toNat m2) (geti p1 m1)).set (Int.toNat m2) (w64 (r2 * m3)))) :: blk g3 65 (ca none 0 0 0 0 0 0 0) :: blk g2 126 #[vi m1, vi m2, vi m3] :: blk g1 65 (ca A1 p1.length c1 p2 p3 p4 p5 p6) :: fs) := hS
   refine ae [2, 3, 4, 5, 6, 7, 8] [pl 2 (pa g1 0), pl 3 (pa g2 0), pl 4 (pa g3 0), pl 5 (pa g4 0), pl 6 (vi r2), pl 7 (vi (geti p1 m1)), pl 8 (.bool (r3 == 1))] hF rfl (fun hF => ?_)
   refine then_n ?_
   have hS := hS.pickN 5 [4, 3, 2, 0, 1] (by decide)
   exact ⟨(((r1.1.set (Int.toNat m1) 0).set (Int.toNat m2) (geti p1 m1)).set (Int.toNat m2) (w64 (r2 * m3))), hF.wk [2, 3, 4, 5, 6, 7, 8], hS, hm⟩
  ·replace hm := if_f hm hb
   refine wpIn_skip ?_
   refine then_n ?_
   have hS := hS.pickN 5 [4, 3, 2, 0, 1] (by decide)
   exact ⟨((r1.1.set (Int.toNat m1) 0).set (Int.toNat m2) (geti p1 m1)), hF.wk [2, 3, 4, 5, 6, 7, 8], hS, hm⟩

def rf_MovesAll_J9  (n2 : Int) (ok3 : Bool) : Option (St (Bool × Int) Bool) :=
 some (.next (ok3, (w64 (n2 + 1))))

def rf_MovesAll_J8  (p1 : List Int) (p2 p3 : Int) (p4 p5 : Int) (p6 to1 : Int) (ok1 : Bool) (n2 : Int) : Option (St (Bool × Int) Bool) :=
 ((if (!ok1) then rf_castleTo_m p1 p2 p3 p4 p5 p6 n2 else some 0)).bind fun r4 => (rf_MovesAll_J9 n2) (ok1 || (r4 == to1))

def rf_MovesAll_J6  (to1 : Int) (l5 : List MvT) : Option (St (List MvT × Int) (List MvT)) :=
 some (.next (l5, (w64 (to1 + 1))))

def rf_MovesAll_J13  (into1 : Int) (l7 : List MvT) : Option (St (List MvT × Int) (List MvT)) :=
 some (.next (l7, (w64 (into1 + 1))))

def rf_MovesAll_J12  (from1 to1 : Int) (l6 : List MvT) (into1 : Int) : Option (St (List MvT × Int) (List MvT)) :=
 asrt ((l6.length : Int) + 1 ≤ bigT) <| (rf_MovesAll_J13 into1) (l6 ++ ([(from1, to1, into1)] : List MvT))

def rf_MovesAll_L4  (from1 to1 : Int) : (List MvT × Int) → Option (St (List MvT × Int) (List MvT)) :=
 fun (x : (List MvT × Int)) => match x with | (l6, into1) => if (decide (into1 ≤ 5)) then ((rf_MovesAll_J12 from1 to1 l6 into1)) else (some (.done l6))

def rf_MovesAll_K4  (to1 : Int) : (List MvT) → Option (St (List MvT × Int) (List MvT)) :=
 fun (x : (List MvT)) => match x with | l5 => (rf_MovesAll_J6 to1) l5

def rf_MovesAll_J10  (p1 : List Int) (from1 : Int) (l4 : List MvT) (to1 : Int) : Option (St (List MvT × Int) (List MvT)) :=
 asrt (0 ≤ from1 ∧ from1 < (p1.length : Int)) <| (rf_size_m (geti p1 from1)).bind fun r7 => if ((r7 == 1) && ((decide (to1 < 8)) || (decide ((55 : Int) < to1)))) then ((loop (rf_MovesAll_L4 from1 to1) (l4, 2)).bind (rf_MovesAll_K4 to1)) else (asrt ((l4.length : Int) + 1 ≤ bigT) <| (rf_MovesAll_J6 to1) (l4 ++ ([(from1, to1, 0)] : List MvT)))

def rf_MovesAll_J11  (p1 : List Int) (from1 : Int) (l4 : List MvT) (to1 : Int) (z1 : Bool) : Option (St (List MvT × Int) (List MvT)) :=
 if z1 then ((rf_MovesAll_J6 to1) l4) else ((rf_MovesAll_J10 p1 from1 l4 to1))

def rf_MovesAll_J7  (p1 : List Int) (p2 p3 : Int) (p4 p5 : Int) (p6 from1 : Int) (l4 : List MvT) (to1 : Int) (ok2 : Bool) : Option (St (List MvT × Int) (List MvT)) :=
 if (!ok2) then ((rf_MovesAll_J11 p1 from1 l4 to1) ((!ok2) || false)) else ((rf_MoveDone_m p1 p2 p3 p4 p5 p6 from1 to1 0).bind fun r5 => ((if (!(!ok2)) then rf_InCheck_m r5.1 p2 else some false)).bind fun r6 => (rf_MovesAll_J11 p1 from1 l4 to1) ((!ok2) || r6))

def rf_MovesAll_K3  (p1 : List Int) (p2 p3 : Int) (p4 p5 : Int) (p6 from1 : Int) (l4 : List MvT) (to1 : Int) : Bool → Option (St (List MvT × Int) (List MvT)) :=
 fun (x : Bool) => match x with | ok2 => (rf_MovesAll_J7 p1 p2 p3 p4 p5 p6 from1 l4 to1) ok2

def rf_MovesAll_L3  (p1 : List Int) (p2 p3 : Int) (p4 p5 : Int) (p6 from1 to1 : Int) : (Bool × Int) → Option (St (Bool × Int) Bool) :=
 fun (x : (Bool × Int)) => match x with | (ok1, n2) => asrt ((decide (n2 < 4)) = true → 0 ≤ from1 ∧ from1 < (p1.length : Int)) <| ((if (decide (n2 < 4)) then rf_size_m (geti p1 from1) else some 0)).bind fun r3 => if ((decide (n2 < 4)) && (r3 == 6)) then ((rf_MovesAll_J8 p1 p2 p3 p4 p5 p6 to1 ok1 n2)) else (some (.done ok1))

def rf_MovesAll_J5  (p1 : List Int) (p2 p3 : Int) (p4 p5 : Int) (p6 from1 : Int) (l4 : List MvT) (to1 : Int) : Option (St (List MvT × Int) (List MvT)) :=
 (rf_mayGo_m p1 p2 p3 p4 p5 p6 from1 to1).bind fun r2 => (loop (rf_MovesAll_L3 p1 p2 p3 p4 p5 p6 from1 to1) (r2, 0)).bind (rf_MovesAll_K3 p1 p2 p3 p4 p5 p6 from1 l4 to1)

def rf_MovesAll_J3  (from1 : Int) (l3 : List MvT) : Option (St (List MvT × Int) (List MvT)) :=
 some (.next (l3, (w64 (from1 + 1))))

def rf_MovesAll_K2  (from1 : Int) : (List MvT) → Option (St (List MvT × Int) (List MvT)) :=
 fun (x : (List MvT)) => match x with | l3 => (rf_MovesAll_J3 from1) l3

def rf_MovesAll_L2  (p1 : List Int) (p2 p3 : Int) (p4 p5 : Int) (p6 from1 : Int) : (List MvT × Int) → Option (St (List MvT × Int) (List MvT)) :=
 fun (x : (List MvT × Int)) => match x with | (l4, to1) => if (decide (to1 < 64)) then ((rf_MovesAll_J5 p1 p2 p3 p4 p5 p6 from1 l4 to1)) else (some (.done l4))

def rf_MovesAll_J4  (p1 : List Int) (p2 p3 : Int) (p4 p5 p6 : Int) (l1 : List MvT) (from1 : Int) : Option (St (List MvT × Int) (List MvT)) :=
 (loop (rf_MovesAll_L2 p1 p2 p3 p4 p5 p6 from1) (l1, 0)).bind (rf_MovesAll_K2 from1)

def rf_MovesAll_J2  (p1 : List Int) (p2 p3 : Int) (p4 p5 p6 : Int) (l1 : List MvT) (from1 : Int) : Option (St (List MvT × Int) (List MvT)) :=
 asrt (0 ≤ from1 ∧ from1 < (p1.length : Int)) <| (rf_pieceSide_m (geti p1 from1)).bind fun r1 => if (r1 != p2) then ((rf_MovesAll_J3 from1) l1) else ((rf_MovesAll_J4 p1 p2 p3 p4 p5 p6 l1 from1))

def rf_MovesAll_J1  (l2 : List MvT) : Option (List MvT) :=
 some l2

def rf_MovesAll_K1  : (List MvT) → Option (List MvT) :=
 fun (x : (List MvT)) => match x with | l2 => rf_MovesAll_J1 l2

def rf_MovesAll_L1  (p1 : List Int) (p2 p3 : Int) (p4 p5 p6 : Int) : (List MvT × Int) → Option (St (List MvT × Int) (List MvT)) :=
 fun (x : (List MvT × Int)) => match x with | (l1, from1) => if (decide (from1 < 64)) then ((rf_MovesAll_J2 p1 p2 p3 p4 p5 p6 l1 from1)) else (some (.done l1))
end Go.Proofs.Ytkpkkdpfcbnfdaa
