import Derived.Test.YtkpkkdpfcbnfdaaVI
import Derived.Test.YtkpkkdpfcbnfdaaFB
import Derived.Test.YtkpkkdpfcbnfdaaLibJ
import Derived.Test.YtkpkkdpfcbnfdaaLibD
import Derived.Test.YtkpkkdpfcbnfdaaLibMV
import Derived.Test.YtkpkkdpfcbnfdaaLibAP
import Derived.Test.YtkpkkdpfcbnfdaaFE
import Derived.Test.YtkpkkdpfcbnfdaaLibPl
import Derived.Test.YtkpkkdpfcbnfdaaLibAR
import Derived.Test.YtkpkkdpfcbnfdaaLibRF
import Derived.Test.YtkpkkdpfcbnfdaaFM
import Derived.Test.YtkpkkdpfcbnfdaaLibG
import Derived.Test.YtkpkkdpfcbnfdaaSF
noncomputable section
namespace Go.Proofs.Ytkpkkdpfcbnfdaa
open Go Go.GL Go.RowKit
set_option maxRecDepth 100000
set_option maxHeartbeats 4000000



def rf_Ints_m  (l1 : List Int) : Option (List Int) :=
 asrt ((0 : Int) + (l1.length : Int) ≤ bigN) <| some ([] ++ l1)

theorem rf_Ints_w  {A1 : Option Addr} {c1 n1 : Nat} {l1 : List Int} {r : (List Int)} {w0 w : World} {B : Nat} {fs : List HP} (hm : rf_Ints_m l1 = some r) (hS : Sep w0 B w (fs)) (hr_l1 : RdF w0 B fs A1 (vI l1)) (_hc_l1 : l1.length ≤ c1) (_hn_l1 : n1 = l1.length) :
  Calls Try.prog 49 #[.slice A1 n1 c1] w fun e w' => ∃ v, e = .returned v ∧ ∃ (A3 : Option Addr) (c3 : Nat), v = .slice A3 r.length c3 ∧ Sep w0 B w' (own 3 (.slice A3 r.length c3) (vI r) :: fs) := by
 obtain ⟨i3, hi3, hz3, hs3, hb3⟩ := info_parts Info3
 obtain rfl := _hn_l1
 unfold rf_Ints_m at hm
 replace hm := start_b hm
 refine enter (l := [.slice A1 l1.length c1]) (n := 5) Try.func49 rfl rfl (by simp) (fun a hF => ?_)
 refine rg [] [] [0] [pl 0 (.slice A1 l1.length c1)] hF hS obs_nil (fun a w hF hS => ?_)
 refine seqR ?_
 obtain ⟨hp1, hm⟩ := asrt_b hm
 refine ar 1 [] [] [3] [pl 3 (.slice A1 l1.length c1)] hF hS obs_nil (fun a w hF hS => ?_)
 have hS : Sep w0 B w (own 3 (.slice none 0 0) (vI ([] : List Int)) :: fs) := hS.nil 3
 obtain ⟨A2, c2, w, hrun, hS⟩ := run_app1 (P := Try.prog) (t := 22) (m := ([] : List Int)) (ys := l1) (A2 := A1) (m2 := l1.length) (c2 := c1) (Value.int .i64) (0 : Int) (hS.at_ 0 rfl) (hr_l1 _ (hS.dropN 1)) rfl 22 Und22 hi3 hz3 hs3 (by omega) rfl (fun _ => rfl) hp1
 have hS : Sep w0 B w (own 3 (.slice A2 (([] ++ l1).length) c2) (vI ([] ++ l1)) :: fs) := hS
 refine ad (d := 4) hF hrun (fun a hF => ?_)
 refine ar 1 [] [] [2] [pl 2 (.slice A2 (([] ++ l1).length) c2)] hF hS obs_nil (fun a w hF hS => ?_)
 refine ae [2] [pl 2 (.slice A2 (([] ++ l1).length) c2)] hF rfl (fun hF => ?_)
 refine then_n (wpIn_ret ?_)
 have hm : some ([] ++ l1) = some r := hm
 obtain rfl := Option.some.inj hm
 exact retV (rs := [.tmp 2]) (vs := [.slice A2 (([] ++ l1).length) c2]) hF rfl rv1 rfl ⟨_, rfl, A2, c2, rfl, hS⟩

def rf_ChessOf_m  (p1 : List Int) (p2 p3 : Int) (p4 p5 p6 : Int) : Option ChT :=
 (rf_Ints_m p1).bind fun r1 => some (r1, p2, p3, p4, p5, p6)

theorem rf_ChessOf_w  {A1 : Option Addr} {c1 n1 : Nat} {p1 : List Int} {p2 p3 : Int} {p4 p5 p6 : Int} {r : ChT} {w0 w : World} {B : Nat} {fs : List HP} (hm : rf_ChessOf_m p1 p2 p3 p4 p5 p6 = some r) (hS : Sep w0 B w (fs)) (hr_p1 : RdF w0 B fs A1 (vI p1)) (_hc_p1 : p1.length ≤ c1) (_hn_p1 : n1 = p1.length) :
  Calls Try.prog 29 #[.agg (ca A1 n1 c1 p2 p3 p4 p5 p6)] w fun e w' => ∃ v, e = .returned v ∧ ∃ (A3 : Option Addr) (c3 : Nat), v = .agg (ca A3 r.1.length c3 r.2.1 r.2.2.1 r.2.2.2.1 r.2.2.2.2.1 r.2.2.2.2.2) ∧ Sep w0 B w' (own 3 (.slice A3 r.1.length c3) (vI r.1) :: fs) := by
 obtain ⟨i3, hi3, hz3, hs3, hb3⟩ := info_parts Info3
 obtain ⟨i22, hi22, hz22, hs22, hb22⟩ := info_parts Info22
 obtain rfl := _hn_p1
 unfold rf_ChessOf_m at hm
 replace hm := start_b hm
 refine enter (l := [.agg (ca A1 p1.length c1 p2 p3 p4 p5 p6)]) (n := 8) Try.func29 rfl rfl (by simp) (fun a hF => ?_)
 refine seqR ?_
 refine at_do (d := 1) (s := vS (Instr.box 65 (.agg (ca A1 p1.length c1 p2 p3 p4 p5 p6)))) (v := pa w.heap.size 0) (w' := w.alloc (.cells (ca A1 p1.length c1 p2 p3 p4 p5 p6) 65)) hF (by kernel_rfl) (by kernel_rfl) (by kernel_rfl) (fun a hF => ?_)
 have hS : Sep w0 B (w.alloc (.cells (ca A1 p1.length c1 p2 p3 p4 p5 p6) 65)) (blk w.heap.size 65 (ca A1 p1.length c1 p2 p3 p4 p5 p6) :: (fs)) := hS.box 65 (ca A1 p1.length c1 p2 p3 p4 p5 p6)
 generalize w.heap.size = g1 at hF hS
 generalize w.alloc (.cells (ca A1 p1.length c1 p2 p3 p4 p5 p6) 65) = w at hS ⊢
 refine at_do (d := 2) (s := vS (Instr.alloc 65 true (.tuple #[]))) (v := pa w.heap.size 0) (w' := w.alloc (.cells (ca none 0 0 0 0 0 0 0) 65)) hF (by kernel_rfl) (by kernel_rfl) (by kernel_rfl) (fun a hF => ?_)
 have hS : Sep w0 B (w.alloc (.cells (ca none 0 0 0 0 0 0 0) 65)) (blk w.heap.size 65 (ca none 0 0 0 0 0 0 0) :: (blk g1 65 (ca A1 p1.length c1 p2 p3 p4 p5 p6) :: fs)) := hS.box 65 (ca none 0 0 0 0 0 0 0)
 generalize w.heap.size = g2 at hF hS
 generalize w.alloc (.cells (ca none 0 0 0 0 0 0 0) 65) = w at hS ⊢
 refine ae [1, 2] [pl 1 (pa g1 0), pl 2 (pa g2 0)] hF rfl (fun hF => ?_)
 refine then_n (seqR ?_)
 obtain ⟨r1, hr1, hm⟩ := call_b hm
 refine ar 2 [⟨false, [], vS (Instr.loadAt 22 (pa g1 0)), .slice A1 p1.length c1⟩] [none, some (.slice A1 p1.length c1)] [1, 2, 4] [pl 1 (pa g1 0), pl 2 (pa g2 0), pl 4 (.slice A1 p1.length c1)] hF hS ?_ (fun a w hF hS => ?_)
 ·exact obs_cons (ob_load Agg22 (fun _ _ hS => (hS.at_ 1 rfl).cell rfl)) <| obs_nil
 refine at_call (f := 49) (args := #[.slice A1 p1.length c1]) (d := 5) hF (by kernel_rfl) (by kernel_rfl) Try.func49 (by kernel_rfl) rfl (rf_Ints_w hr1 hS (fun _ hS => (hr_p1 _ (hS.dropN 2))) _hc_p1 rfl) (fun v a w hR hF => ?_)
 clear hS
 obtain ⟨A2, c2, rfl, hS⟩ := hR
 have hS : Sep w0 B w (own 3 (.slice A2 r1.length c2) (vI r1) :: blk g2 65 (ca none 0 0 0 0 0 0 0) :: blk g1 65 (ca A1 p1.length c1 p2 p3 p4 p5 p6) :: fs) := hS
 refine ar 1 [] [] [1, 2, 5, 6] [pl 1 (pa g1 0), pl 2 (pa g2 0), pl 5 (.slice A2 r1.length c2), pl 6 (pa g1 0)] hF hS obs_nil (fun a w hF hS => ?_)
 obtain ⟨w, hrun, hS⟩ := run_put (P := Try.prog) (t := 22) (u := .slice A2 r1.length c2) (i := 0) (hS.at_ 2 rfl) hi22 hs22 rfl (Nat.lt_of_lt_of_eq (Nat.lt_of_succ_le (Nat.le_of_ble_eq_true (by kernel_rfl))) rfl)
 refine at_s hF hrun ?_
 have hS : Sep w0 B w (own 3 (.slice A2 r1.length c2) (vI r1) :: blk g2 65 (ca none 0 0 0 0 0 0 0) :: blk g1 65 (ca A2 r1.length c2 p2 p3 p4 p5 p6) :: fs) := hS
 refine ae [1, 2] [pl 1 (pa g1 0), pl 2 (pa g2 0)] hF rfl (fun hF => ?_)
 refine then_n (seqR ?_)
 refine ar 1 [⟨false, [], vS (Instr.loadAt 65 (pa g1 0)), .agg (ca A2 r1.length c2 p2 p3 p4 p5 p6)⟩] [some (.agg (ca A2 r1.length c2 p2 p3 p4 p5 p6))] [2, 7] [pl 2 (pa g2 0), pl 7 (.agg (ca A2 r1.length c2 p2 p3 p4 p5 p6))] hF hS ?_ (fun a w hF hS => ?_)
 ·exact obs_cons (oA (cs := (ca A2 r1.length c2 p2 p3 p4 p5 p6)) (fun _ _ hS => (hS.at_ 2 rfl).cellsAt 0 (by rfl))) <| obs_nil
 obtain ⟨w, hrun, hS⟩ := run_putA (P := Try.prog) (t := 65) (us := (ca A2 r1.length c2 p2 p3 p4 p5 p6)) (o := 0) (hS.at_ 1 rfl) (by kernel_rfl) (all_one (by kernel_rfl)) (Nat.le_of_ble_eq_true (by kernel_rfl))
 refine at_s hF hrun ?_
 have hS : Sep w0 B w (own 3 (.slice A2 r1.length c2) (vI r1) :: blk g2 65 (ca A2 r1.length c2 p2 p3 p4 p5 p6) :: blk g1 65 (ca A2 r1.length c2 p2 p3 p4 p5 p6) :: fs) := hS
 refine ae [2] [pl 2 (pa g2 0)] hF rfl (fun hF => ?_)
 refine then_n (wpIn_ret ?_)
 have hld0 := run_loadVarA (P := Try.prog) (t := 65) (cs := (ca A2 r1.length c2 p2 p3 p4 p5 p6)) (by kernel_rfl) (by kernel_rfl) ((hS.at_ 1 rfl).cellsAt 0 (by rfl))
 have hS := hS.pickN 3 [0] (by decide)
 have hm : some (r1, p2, p3, p4, p5, p6) = some r := hm
 obtain rfl := Option.some.inj hm
 exact retV (rs := [.cell 2 65]) (vs := [.agg (ca A2 r1.length c2 p2 p3 p4 p5 p6)]) hF rfl (rv_c (by kernel_rfl) hld0 <| rv_nil) rfl ⟨_, rfl, A2, c2, rfl, hS⟩

def lw_list_m  (l1 : List MvT) : Option (List MvT) :=
 asrt ((0 : Int) + (l1.length : Int) ≤ bigT) <| some (([] : List MvT) ++ l1)

theorem lw_list_w  {A1 : Option Addr} {c1 n1 : Nat} {l1 : List MvT} {r : (List MvT)} {w0 w : World} {B : Nat} {fs : List HP} (hm : lw_list_m l1 = some r) (hS : Sep w0 B w (fs)) (hr_l1 : RdF w0 B fs A1 ((List.flatMap enc126 l1))) (_hc_l1 : l1.length ≤ c1) (_hn_l1 : n1 = l1.length) :
  Calls Try.prog 30 #[.slice A1 n1 c1] w fun e w' => ∃ v, e = .returned v ∧ ∃ (A3 : Option Addr) (c3 : Nat), v = .slice A3 r.length c3 ∧ Sep w0 B w' (ownK 126 3 A3 r.length c3 (List.flatMap enc126 r) :: fs) := by
 obtain ⟨i126, hi126, hz126, hs126, hb126⟩ := info_parts Info126
 obtain rfl := _hn_l1
 unfold lw_list_m at hm
 replace hm := start_b hm
 refine enter (l := [.slice A1 l1.length c1]) (n := 5) Try.func30 rfl rfl (by simp) (fun a hF => ?_)
 refine rg [] [] [0] [pl 0 (.slice A1 l1.length c1)] hF hS obs_nil (fun a w hF hS => ?_)
 refine seqR ?_
 obtain ⟨hp1, hm⟩ := asrt_b hm
 refine ar 1 [] [] [3] [pl 3 (.slice A1 l1.length c1)] hF hS obs_nil (fun a w hF hS => ?_)
 have hS : Sep w0 B w (ownK 126 3 none 0 0 (List.flatMap enc126 ([] : List MvT)) :: fs) := hS.nilK 126 3 enc126
 obtain ⟨A2, c2, w, hrun, hS⟩ := run_appK3 (P := Try.prog) (t := 66) (m := ([] : List MvT)) (ys := l1) (A2 := A1) (m2 := l1.length) (c2 := c1) encK126 (hS.at_ 0 rfl) (hr_l1 _ (hS.dropN 1)) rfl 66 Und66 hi126 hz126 hs126 rfl (by omega) hp1
 have hS : Sep w0 B w (ownK 126 3 A2 ((([] : List MvT) ++ l1).length) c2 (List.flatMap enc126 (([] : List MvT) ++ l1)) :: fs) := hS
 refine ad (d := 4) hF hrun (fun a hF => ?_)
 refine ar 1 [] [] [2] [pl 2 (.slice A2 ((([] : List MvT) ++ l1).length) c2)] hF hS obs_nil (fun a w hF hS => ?_)
 refine ae [2] [pl 2 (.slice A2 ((([] : List MvT) ++ l1).length) c2)] hF rfl (fun hF => ?_)
 refine then_n (wpIn_ret ?_)
 have hm : some (([] : List MvT) ++ l1) = some r := hm
 obtain rfl := Option.some.inj hm
 exact retV (rs := [.tmp 2]) (vs := [.slice A2 ((([] : List MvT) ++ l1).length) c2]) hF rfl rv1 rfl ⟨_, rfl, A2, c2, rfl, hS⟩

def board_Kind_m  (piece1 : Int) : Option Int :=
 some (maxI piece1 (w64 (0 - piece1)))

theorem board_Kind_w  {piece1 r : Int} {w0 w : World} {B : Nat} {fs : List HP} (hm : board_Kind_m piece1 = some r) (hS : Sep w0 B w (fs)) :
  Calls Try.prog 107 #[vi piece1] w fun e w' => e = .returned (vi r) ∧ Sep w0 B w' (fs) := by
 unfold board_Kind_m at hm
 replace hm := start_b hm
 refine enter (l := [vi piece1]) (n := 7) Try.func107 rfl rfl (by simp) (fun a hF => ?_)
 refine rg [] [] [0] [pl 0 (vi piece1)] hF hS obs_nil (fun a w hF hS => ?_)
 refine rg [⟨true, [], vS (Builtin.max_ #[3, 3] 3 #[vi piece1, vi (w64 (0 - piece1))]), vi (maxI piece1 (w64 (0 - piece1)))⟩] [none, none, none, some (vi (maxI piece1 (w64 (0 - piece1)))), none] [2] [pl 2 (vi (maxI piece1 (w64 (0 - piece1))))] hF hS ?_ (fun a w hF hS => ?_)
 ·exact obs_cons (ob_max rfl) <| obs_nil
 refine wpIn_ret ?_
 have hm : some (maxI piece1 (w64 (0 - piece1))) = some r := hm
 obtain rfl := Option.some.inj hm
 exact retV (rs := [.tmp 2]) (vs := [vi (maxI piece1 (w64 (0 - piece1)))]) hF rfl rv1 rfl ⟨rfl, hS⟩

def board_Side_J1  : Option Int :=
 some (-1)

def board_Side_m  (piece1 : Int) : Option Int :=
 if (decide ((0 : Int) < piece1)) then (some 0) else (if (decide (piece1 < 0)) then (some 1) else (board_Side_J1))

theorem board_Side_w  {piece1 r : Int} {w0 w : World} {B : Nat} {fs : List HP} (hm : board_Side_m piece1 = some r) (hS : Sep w0 B w (fs)) :
  Calls Try.prog 108 #[vi piece1] w fun e w' => e = .returned (vi r) ∧ Sep w0 B w' (fs) := by
 unfold board_Side_m at hm
 replace hm := start_b hm
 refine enter (l := [vi piece1]) (n := 9) Try.func108 rfl rfl (by simp) (fun a hF => ?_)
 refine rg [] [] [0] [pl 0 (vi piece1)] hF hS obs_nil (fun a w hF hS => ?_)
 refine seq_cut (fun a w => Fr 9 [] a ∧ Sep w0 B w (fs) ∧ (board_Side_J1).bind some = some r) ?_ ?_
 ·rintro a w ⟨hF, hS, hm⟩
  unfold board_Side_J1 at hm
  refine rg [] [] [2] [pl 2 (vi (-1))] hF hS obs_nil (fun a w hF hS => ?_)
  refine wpIn_ret ?_
  have hm : some (-1) = some r := hm
  obtain rfl := Option.some.inj hm
  exact retV (rs := [.tmp 2]) (vs := [vi (-1)]) hF rfl rv1 rfl ⟨rfl, hS⟩
 ·refine wpIn_block ?_
  refine rg [] [] [0, 3] [pl 0 (vi piece1), pl 3 (.bool (decide ((0 : Int) < piece1)))] hF hS obs_nil (fun a w hF hS => ?_)
  refine ce (t := 3) (b := decide ((0 : Int) < piece1)) hF (fun hb => ?_) (fun hb => ?_)
  ·replace hm := if_t hm hb
   refine rg [] [] [2] [pl 2 (vi 0)] hF hS obs_nil (fun a w hF hS => ?_)
   refine wpIn_ret ?_
   refine block_r (then_r ?_)
   have hm : some 0 = some r := hm
   obtain rfl := Option.some.inj hm
   exact retV (rs := [.tmp 2]) (vs := [vi 0]) hF rfl rv1 rfl ⟨rfl, hS⟩
  ·replace hm := if_f hm hb
   refine rg [] [] [6] [pl 6 (.bool (decide (piece1 < 0)))] hF hS obs_nil (fun a w hF hS => ?_)
   refine ce (t := 6) (b := decide (piece1 < 0)) hF (fun hb => ?_) (fun hb => ?_)
   ·replace hm := if_t hm hb
    refine rg [] [] [2] [pl 2 (vi 1)] hF hS obs_nil (fun a w hF hS => ?_)
    refine wpIn_ret ?_
    refine block_r (then_r ?_)
    have hm : some 1 = some r := hm
    obtain rfl := Option.some.inj hm
    exact retV (rs := [.tmp 2]) (vs := [vi 1]) hF rfl rv1 rfl ⟨rfl, hS⟩
   ·replace hm := if_f hm hb
    refine wpIn_skip ?_
    refine block_n ?_
    refine then_n ?_
    exact ⟨hF.wk [], hS, hm⟩

def board_forward_m  (side1 : Int) : Option Int :=
 some (w64 (1 - (w64 (2 * side1))))

theorem board_forward_w  {side1 r : Int} {w0 w : World} {B : Nat} {fs : List HP} (hm : board_forward_m side1 = some r) (hS : Sep w0 B w (fs)) :
  Calls Try.prog 111 #[vi side1] w fun e w' => e = .returned (vi r) ∧ Sep w0 B w' (fs) := by
 unfold board_forward_m at hm
 replace hm := start_b hm
 refine enter (l := [vi side1]) (n := 6) Try.func111 rfl rfl (by simp) (fun a hF => ?_)
 refine rg [] [] [0] [pl 0 (vi side1)] hF hS obs_nil (fun a w hF hS => ?_)
 refine rg [] [] [2] [pl 2 (vi (w64 (1 - (w64 (2 * side1)))))] hF hS obs_nil (fun a w hF hS => ?_)
 refine wpIn_ret ?_
 have hm : some (w64 (1 - (w64 (2 * side1)))) = some r := hm
 obtain rfl := Option.some.inj hm
 exact retV (rs := [.tmp 2]) (vs := [vi (w64 (1 - (w64 (2 * side1))))]) hF rfl rv1 rfl ⟨rfl, hS⟩

def slices_Index_J3  (z1 : Int) : Option (St Int (Fl Unit Int)) :=
 some (.next (w64 (z1 + 1)))

def slices_Index_J2  (s1 : List Int) (v1 z1 : Int) : Option (St Int (Fl Unit Int)) :=
 asrt (0 ≤ z1 ∧ z1 < (s1.length : Int)) <| if (v1 == (geti s1 z1)) then (some (.done (.ret z1))) else ((slices_Index_J3 z1))

def slices_Index_J1  : Option Int :=
 some (-1)

def slices_Index_K1  : (Fl Unit Int) → Option Int :=
 fun (x : (Fl Unit Int)) => match x with | .go _ => slices_Index_J1 | .ret x => some x

def slices_Index_L1  (s1 : List Int) (v1 : Int) : Int → Option (St Int (Fl Unit Int)) :=
 fun (x : Int) => match x with | z1 => if (decide (z1 < (s1.length : Int))) then ((slices_Index_J2 s1 v1 z1)) else (some (.done (.go ())))

def slices_Index_m  (s1 : List Int) (v1 : Int) : Option Int :=
 (loop (slices_Index_L1 s1 v1) 0).bind slices_Index_K1

theorem slices_Index_w  {A1 : Option Addr} {c1 n1 : Nat} {s1 : List Int} {v1 r : Int} {w0 w : World} {B : Nat} {fs : List HP} (hm : slices_Index_m s1 v1 = some r) (hS : Sep w0 B w (fs)) (hr_s1 : RdF w0 B fs A1 (vI s1)) (_hc_s1 : s1.length ≤ c1) (_hn_s1 : n1 = s1.length) :
  Calls Try.prog 40 #[.slice A1 n1 c1, vi v1] w fun e w' => e = .returned (vi r) ∧ Sep w0 B w' (fs) := by
 obtain ⟨i3, hi3, hz3, hs3, hb3⟩ := info_parts Info3
 obtain rfl := _hn_s1
 unfold slices_Index_m at hm
 replace hm := start_b hm
 refine enter (l := [.slice A1 s1.length c1, vi v1]) (n := 19) Try.func40 rfl rfl (by simp) (fun a hF => ?_)
 refine rg [] [] [0, 1] [pl 0 (.slice A1 s1.length c1), pl 1 (vi v1)] hF hS obs_nil (fun a w hF hS => ?_)
 refine seq_cut (fun a w => Fr 19 [] a ∧ Sep w0 B w (fs) ∧ (slices_Index_J1).bind some = some r) ?_ ?_
 ·rintro a w ⟨hF, hS, hm⟩
  unfold slices_Index_J1 at hm
  refine rg [] [] [4] [pl 4 (vi (-1))] hF hS obs_nil (fun a w hF hS => ?_)
  refine wpIn_ret ?_
  have hm : some (-1) = some r := hm
  obtain rfl := Option.some.inj hm
  exact retV (rs := [.tmp 4]) (vs := [vi (-1)]) hF rfl rv1 rfl ⟨rfl, hS⟩
 ·refine rg [] [] [0, 1, 7, 8] [pl 0 (.slice A1 s1.length c1), pl 1 (vi v1), pl 7 (vi (s1.length : Int)), pl 8 (vi 0)] hF hS obs_nil (fun a w hF hS => ?_)
  refine wpIn_block ?_
  refine wp_loop_model (S := Int) (R := (Fl Unit Int)) (slices_Index_L1 s1 v1) (fun x => (slices_Index_K1 x).bind some) r (fun (x : Int) a w => Fr 19 [pl 0 (.slice A1 s1.length c1), pl 1 (vi v1), pl 7 (vi (s1.length : Int)), pl 8 (vi x)] a ∧ Sep w0 B w (fs)) (assoc_b hm) ⟨hF.wk [0, 1, 7, 8], hS⟩ ?_
  clear hF hS hm
  rintro nn1 z1 a w ⟨hF, hS⟩ hm
  generalize hφ1 : stK (slices_Index_L1 s1 v1) nn1 (fun x => (slices_Index_K1 x).bind some) = φ1 at hm
  unfold slices_Index_L1 at hm
  dsimp only at hm
  refine rg [] [] [0, 1, 7, 8, 9] [pl 0 (.slice A1 s1.length c1), pl 1 (vi v1), pl 7 (vi (s1.length : Int)), pl 8 (vi z1), pl 9 (.bool (decide (z1 < (s1.length : Int))))] hF hS obs_nil (fun a w hF hS => ?_)
  refine seq_cut (fun a w => Fr 19 [pl 0 (.slice A1 s1.length c1), pl 1 (vi v1), pl 7 (vi (s1.length : Int)), pl 8 (vi z1)] a ∧ Sep w0 B w (fs) ∧ ((slices_Index_J2 s1 v1 z1)).bind φ1 = some r) ?_ ?_
  ·rintro a w ⟨hF, hS, hm⟩
   unfold slices_Index_J2 at hm
   refine seq_cut (fun a w => Fr 19 [pl 0 (.slice A1 s1.length c1), pl 1 (vi v1), pl 7 (vi (s1.length : Int)), pl 8 (vi z1)] a ∧ Sep w0 B w (fs) ∧ ((slices_Index_J3 z1)).bind φ1 = some r) ?_ ?_
   ·rintro a w ⟨hF, hS, hm⟩
    unfold slices_Index_J3 at hm
    refine rg1 [] [] [0, 1, 7, 8] [pl 0 (.slice A1 s1.length c1), pl 1 (vi v1), pl 7 (vi (s1.length : Int)), pl 8 (vi (w64 (z1 + 1)))] hF hS obs_nil (fun a w hF hS => ?_)
    refine then_n ?_
    rw [← hφ1] at hm
    exact ⟨(w64 (z1 + 1)), ⟨hF.wk [0, 1, 7, 8], hS⟩, hm⟩
   ·refine wpIn_block ?_
    refine rg [] [] [0, 1, 5, 7, 8] [pl 0 (.slice A1 s1.length c1), pl 1 (vi v1), pl 5 (vi z1), pl 7 (vi (s1.length : Int)), pl 8 (vi z1)] hF hS obs_nil (fun a w hF hS => ?_)
    obtain ⟨hp1, hm⟩ := asrt_b hm
    refine rg [⟨true, [], vS (Instr.indexAt 22 (.slice A1 s1.length c1) (vi z1)), .pointer (some (sAddr A1 z1))⟩, ⟨false, [], vS (Instr.loadAt 3 (.pointer (some (sAddr A1 z1)))), vi (geti s1 z1)⟩] [none, none, none, some (.pointer (some (sAddr A1 z1))), some (vi (geti s1 z1)), none] [0, 1, 5, 7, 8, 16] [pl 0 (.slice A1 s1.length c1), pl 1 (vi v1), pl 5 (vi z1), pl 7 (vi (s1.length : Int)), pl 8 (vi z1), pl 16 (.bool (v1 == (geti s1 z1)))] hF hS ?_ (fun a w hF hS => ?_)
    ·exact obs_cons (ob_ix1 (f := (Value.int .i64)) (m := s1) Und22 hi3 hs3 (hr_s1 _ (hS.dropN 0)) rfl (fun _ => hp1)) <| obs_cons (ob_get1 (n := s1.length) (m := s1) (Value.int .i64) (0 : Int) Agg3 (fun _ hS => ⟨_, (hr_s1 _ (hS.dropN 0))⟩) (fun _ hS => rfl) (fun _ => hp1)) <| obs_nil
    refine ce (t := 16) (b := (v1 == (geti s1 z1))) hF (fun hb => ?_) (fun hb => ?_)
    ·replace hm := if_t hm hb
     refine rg [] [] [4] [pl 4 (vi z1)] hF hS obs_nil (fun a w hF hS => ?_)
     refine wpIn_ret ?_
     refine block_r (then_r (then_r (block_r (then_r ?_))))
     rw [← hφ1] at hm
     replace hm := done_b hm
     unfold slices_Index_K1 at hm
     try dsimp only at hm
     have hm : some z1 = some r := hm
     obtain rfl := Option.some.inj hm
     exact retV (rs := [.tmp 4]) (vs := [vi z1]) hF rfl rv1 rfl ⟨rfl, hS⟩
    ·replace hm := if_f hm hb
     refine wpIn_skip ?_
     refine block_n ?_
     refine then_n ?_
     exact ⟨hF.wk [0, 1, 7, 8], hS, hm⟩
  ·refine ce (t := 9) (b := decide (z1 < (s1.length : Int))) hF (fun hb => ?_) (fun hb => ?_)
   ·replace hm := if_t hm hb
    refine wpIn_skip ?_
    refine then_n ?_
    exact ⟨hF.wk [0, 1, 7, 8], hS, hm⟩
   ·replace hm := if_f hm hb
    refine wpIn_exit ?_
    refine then_e (then_e (block_e (then_n ?_)))
    rw [← hφ1] at hm
    replace hm := done_b hm
    unfold slices_Index_K1 at hm
    try dsimp only at hm
    have hm : (slices_Index_J1).bind some = some r := hm
    exact ⟨hF.wk [], hS, hm⟩

def board_KingAt_m  (places1 : List Int) (side1 : Int) : Option Int :=
 (board_forward_m side1).bind fun r1 => (slices_Index_m places1 (w64 (6 * r1))).bind fun r2 => some r2

theorem board_KingAt_w  {A1 : Option Addr} {c1 n1 : Nat} {places1 : List Int} {side1 r : Int} {w0 w : World} {B : Nat} {fs : List HP} (hm : board_KingAt_m places1 side1 = some r) (hS : Sep w0 B w (fs)) (hr_places1 : RdF w0 B fs A1 (vI places1)) (_hc_places1 : places1.length ≤ c1) (_hn_places1 : n1 = places1.length) :
  Calls Try.prog 137 #[.slice A1 n1 c1, vi side1] w fun e w' => e = .returned (vi r) ∧ Sep w0 B w' (fs) := by
 obtain ⟨i3, hi3, hz3, hs3, hb3⟩ := info_parts Info3
 obtain rfl := _hn_places1
 unfold board_KingAt_m at hm
 replace hm := start_b hm
 refine enter (l := [.slice A1 places1.length c1, vi side1]) (n := 10) Try.func137 rfl rfl (by simp) (fun a hF => ?_)
 refine rg [] [] [0, 1] [pl 0 (.slice A1 places1.length c1), pl 1 (vi side1)] hF hS obs_nil (fun a w hF hS => ?_)
 obtain ⟨r1, hr1, hm⟩ := call_b hm
 obtain ⟨r2, hr2, hm⟩ := call_b hm
 refine rg [⟨false, [], callFunc 111 #[vi side1], vi r1⟩, ⟨false, [], callFunc 40 #[.slice A1 places1.length c1, vi (w64 (6 * r1))], vi r2⟩] [none, none, some (vi r1), none, some (vi r2), none] [4] [pl 4 (vi r2)] hF hS ?_ (fun a w hF hS => ?_)
 ·exact obs_cons (ob_call Try.func111 (by kernel_rfl) rfl (fun _ _ hS => board_forward_w hr1 hS )) <| obs_cons (ob_call Try.func40 (by kernel_rfl) rfl (fun _ _ hS => slices_Index_w hr2 hS (fun _ hS => (hr_places1 _ (hS.dropN 0))) _hc_places1 rfl)) <| obs_nil
 refine wpIn_ret ?_
 have hm : some r2 = some r := hm
 obtain rfl := Option.some.inj hm
 exact retV (rs := [.tmp 4]) (vs := [vi r2]) hF rfl rv1 rfl ⟨rfl, hS⟩

def board_Reach_m  (places1 : List Int) (at1 : Int) : Option Int :=
 some at1

theorem board_Reach_w  {A1 : Option Addr} {c1 n1 : Nat} {places1 : List Int} {at1 r : Int} {w0 w : World} {B : Nat} {fs : List HP} (hm : board_Reach_m places1 at1 = some r) (hS : Sep w0 B w (fs)) (hr_places1 : RdF w0 B fs A1 (vI places1)) (_hc_places1 : places1.length ≤ c1) (_hn_places1 : n1 = places1.length) :
  Calls Try.prog 142 #[.slice A1 n1 c1, vi at1] w fun e w' => ∃ v, e = .returned v ∧ ∃ (g3 g4 : Nat), v = .func (.func 155) #[] #[pa g3 0, pa g4 0] ∧ Sep w0 B w' (blk g3 22 #[.slice A1 n1 c1] :: blk g4 3 #[vi r] :: fs) := by
 obtain ⟨i3, hi3, hz3, hs3, hb3⟩ := info_parts Info3
 obtain rfl := _hn_places1
 unfold board_Reach_m at hm
 replace hm := start_b hm
 refine enter (l := [.slice A1 places1.length c1, vi at1]) (n := 6) Try.func142 rfl rfl (by simp) (fun a hF => ?_)
 refine seqR ?_
 refine at_do (d := 2) (s := vS (Instr.box 22 (.slice A1 places1.length c1))) (v := pa w.heap.size 0) (w' := w.alloc (.cells #[.slice A1 places1.length c1] 22)) hF (by kernel_rfl) (by kernel_rfl) (by kernel_rfl) (fun a hF => ?_)
 have hS : Sep w0 B (w.alloc (.cells #[.slice A1 places1.length c1] 22)) (blk w.heap.size 22 #[.slice A1 places1.length c1] :: (fs)) := hS.box 22 #[.slice A1 places1.length c1]
 generalize w.heap.size = g1 at hF hS
 generalize w.alloc (.cells #[.slice A1 places1.length c1] 22) = w at hS ⊢
 refine at_do (d := 3) (s := vS (Instr.box 3 (vi at1))) (v := pa w.heap.size 0) (w' := w.alloc (.cells #[vi at1] 3)) hF (by kernel_rfl) (by kernel_rfl) (by kernel_rfl) (fun a hF => ?_)
 have hS : Sep w0 B (w.alloc (.cells #[vi at1] 3)) (blk w.heap.size 3 #[vi at1] :: (blk g1 22 #[.slice A1 places1.length c1] :: fs)) := hS.box 3 #[vi at1]
 generalize w.heap.size = g2 at hF hS
 generalize w.alloc (.cells #[vi at1] 3) = w at hS ⊢
 refine ar 1 [] [] [2, 3] [pl 2 (pa g1 0), pl 3 (pa g2 0)] hF hS obs_nil (fun a w hF hS => ?_)
 refine ae [2, 3] [pl 2 (pa g1 0), pl 3 (pa g2 0)] hF rfl (fun hF => ?_)
 refine then_n ?_
 refine rg [] [] [4] [pl 4 (.func (.func 155) #[] #[pa g1 0, pa g2 0])] hF hS obs_nil (fun a w hF hS => ?_)
 refine wpIn_ret ?_
 have hS := hS.pickN 2 [1, 0] (by decide)
 have hm : some at1 = some r := hm
 obtain rfl := Option.some.inj hm
 exact retV (rs := [.tmp 4]) (vs := [.func (.func 155) #[] #[pa g1 0, pa g2 0]]) hF rfl rv1 rfl ⟨_, rfl, g1, g2, rfl, hS⟩

def board_moved_J1  (at1 s1 s2 : Int) : Option Int :=
 some (bOr (shlK .i64 (w64 ((shrK .i64 at1 3) + s2)) 3) (w64 ((bAnd at1 7) + s1)))

def board_moved_m  (at1 s1 s2 : Int) : Option Int :=
 if ((((decide ((w64 ((bAnd at1 7) + s1)) < 0)) || (decide ((7 : Int) < (w64 ((bAnd at1 7) + s1))))) || (decide ((w64 ((shrK .i64 at1 3) + s2)) < 0))) || (decide ((7 : Int) < (w64 ((shrK .i64 at1 3) + s2))))) then (some (-1)) else ((board_moved_J1 at1 s1 s2))

theorem board_moved_w  {at1 s1 : Int} {s2 r : Int} {w0 w : World} {B : Nat} {fs : List HP} (hm : board_moved_m at1 s1 s2 = some r) (hS : Sep w0 B w (fs)) :
  Calls Try.prog 156 #[vi at1, .agg #[vi s1, vi s2]] w fun e w' => e = .returned (vi r) ∧ Sep w0 B w' (fs) := by
 unfold board_moved_m at hm
 replace hm := start_b hm
 refine enter (l := [vi at1, .agg #[vi s1, vi s2]]) (n := 35) Try.func156 rfl rfl (by simp) (fun a hF => ?_)
 refine seqR ?_
 refine at_do (d := 3) (s := vS (Instr.box 178 (.agg #[vi s1, vi s2]))) (v := pa w.heap.size 0) (w' := w.alloc (.cells #[vi s1, vi s2] 178)) hF (by kernel_rfl) (by kernel_rfl) (by kernel_rfl) (fun a hF => ?_)
 have hS : Sep w0 B (w.alloc (.cells #[vi s1, vi s2] 178)) (blk w.heap.size 178 #[vi s1, vi s2] :: (fs)) := hS.box 178 #[vi s1, vi s2]
 generalize w.heap.size = g1 at hF hS
 generalize w.alloc (.cells #[vi s1, vi s2] 178) = w at hS ⊢
 refine ar 1 [] [] [0, 3] [pl 0 (vi at1), pl 3 (pa g1 0)] hF hS obs_nil (fun a w hF hS => ?_)
 refine ae [0, 3] [pl 0 (vi at1), pl 3 (pa g1 0)] hF rfl (fun hF => ?_)
 refine then_n ?_
 refine rg [⟨false, [], vS (Instr.loadAt 3 (pa g1 0)), vi s1⟩, ⟨true, [], vS (Op.shift .shr .i64 at1 .u64 3), vi (shrK .i64 at1 3)⟩, ⟨false, [], vS (Instr.loadAt 3 (pa g1 1)), vi s2⟩] [none, none, none, some (vi s1), none, none, some (vi (shrK .i64 at1 3)), none, some (vi s2), none, none, none] [5, 6] [pl 5 (vi (w64 ((bAnd at1 7) + s1))), pl 6 (vi (w64 ((shrK .i64 at1 3) + s2)))] hF hS ?_ (fun a w hF hS => ?_)
 ·exact obs_cons (ob_load Agg3 (fun _ _ hS => (hS.at_ 0 rfl).cell rfl)) <| obs_cons (ob_shr (fun _ => by decide)) <| obs_cons (ob_load Agg3 (fun _ _ hS => (hS.at_ 0 rfl).cell rfl)) <| obs_nil
 refine seq_cut (fun a w => Fr 35 [pl 5 (vi (w64 ((bAnd at1 7) + s1))), pl 6 (vi (w64 ((shrK .i64 at1 3) + s2)))] a ∧ Sep w0 B w (fs) ∧ ((board_moved_J1 at1 s1 s2)).bind some = some r) ?_ ?_
 ·rintro a w ⟨hF, hS, hm⟩
  unfold board_moved_J1 at hm
  refine rg [⟨true, [], vS (Op.shift .shl .i64 (w64 ((shrK .i64 at1 3) + s2)) .u64 3), vi (shlK .i64 (w64 ((shrK .i64 at1 3) + s2)) 3)⟩] [none, some (vi (shlK .i64 (w64 ((shrK .i64 at1 3) + s2)) 3)), none, none, none] [4] [pl 4 (vi (bOr (shlK .i64 (w64 ((shrK .i64 at1 3) + s2)) 3) (w64 ((bAnd at1 7) + s1))))] hF hS ?_ (fun a w hF hS => ?_)
  ·exact obs_cons (ob_shl (fun _ => by decide)) <| obs_nil
  refine wpIn_ret ?_
  have hm : some (bOr (shlK .i64 (w64 ((shrK .i64 at1 3) + s2)) 3) (w64 ((bAnd at1 7) + s1))) = some r := hm
  obtain rfl := Option.some.inj hm
  exact retV (rs := [.tmp 4]) (vs := [vi (bOr (shlK .i64 (w64 ((shrK .i64 at1 3) + s2)) 3) (w64 ((bAnd at1 7) + s1)))]) hF rfl rv1 rfl ⟨rfl, hS⟩
 ·refine rg [] [] [5, 6, 30] [pl 5 (vi (w64 ((bAnd at1 7) + s1))), pl 6 (vi (w64 ((shrK .i64 at1 3) + s2))), pl 30 (.bool ((((decide ((w64 ((bAnd at1 7) + s1)) < 0)) || (decide ((7 : Int) < (w64 ((bAnd at1 7) + s1))))) || (decide ((w64 ((shrK .i64 at1 3) + s2)) < 0))) || (decide ((7 : Int) < (w64 ((shrK .i64 at1 3) + s2))))))] hF hS obs_nil (fun a w hF hS => ?_)
  refine ce (t := 30) (b := (((decide ((w64 ((bAnd at1 7) + s1)) < 0)) || (decide ((7 : Int) < (w64 ((bAnd at1 7) + s1))))) || (decide ((w64 ((shrK .i64 at1 3) + s2)) < 0))) || (decide ((7 : Int) < (w64 ((shrK .i64 at1 3) + s2))))) hF (fun hb => ?_) (fun hb => ?_)
  ·replace hm := if_t hm hb
   refine rg [] [] [4] [pl 4 (vi (-1))] hF hS obs_nil (fun a w hF hS => ?_)
   refine wpIn_ret ?_
   refine then_r ?_
   have hS := hS.pickN 1 [] (by decide)
   have hm : some (-1) = some r := hm
   obtain rfl := Option.some.inj hm
   exact retV (rs := [.tmp 4]) (vs := [vi (-1)]) hF rfl rv1 rfl ⟨rfl, hS⟩
  ·replace hm := if_f hm hb
   refine wpIn_skip ?_
   refine then_n ?_
   have hS := hS.pickN 1 [] (by decide)
   exact ⟨hF.wk [5, 6], hS, hm⟩

def board_steps_J1  : Option (List (Int × Int)) :=
 asrt ((4 : Int) + 4 ≤ bigP) <| some (([(1, 1), (1, (-1)), ((-1), 1), ((-1), (-1))] : List (Int × Int)) ++ ([(1, 0), ((-1), 0), (0, 1), (0, (-1))] : List (Int × Int)))

def board_steps_m  (kind1 : Int) : Option (List (Int × Int)) :=
 if (kind1 == 2) then (some ([(1, 2), (2, 1), (2, (-1)), (1, (-2)), ((-1), (-2)), ((-2), (-1)), ((-2), 1), ((-1), 2)] : List (Int × Int))) else (if (kind1 == 3) then (some ([(1, 1), (1, (-1)), ((-1), 1), ((-1), (-1))] : List (Int × Int))) else (if (kind1 == 4) then (some ([(1, 0), ((-1), 0), (0, 1), (0, (-1))] : List (Int × Int))) else (board_steps_J1)))

theorem board_steps_w  {kind1 : Int} {r : (List (Int × Int))} {w0 w : World} {B : Nat} {fs : List HP} (hm : board_steps_m kind1 = some r) (hS : Sep w0 B w (fs)) :
  Calls Try.prog 157 #[vi kind1] w fun e w' => ∃ v, e = .returned v ∧ ∃ (A2 : Option Addr) (c2 : Nat), v = .slice A2 r.length c2 ∧ Sep w0 B w' (ownK 178 2 A2 r.length c2 (List.flatMap enc178 r) :: fs) := by
 obtain ⟨i178, hi178, hz178, hs178, hb178⟩ := info_parts Info178
 unfold board_steps_m at hm
 replace hm := start_b hm
 refine enter (l := [vi kind1]) (n := 36) Try.func157 rfl rfl (by simp) (fun a hF => ?_)
 refine rg [] [] [0] [pl 0 (vi kind1)] hF hS obs_nil (fun a w hF hS => ?_)
 refine seqR ?_
 refine ar 4 [] [] [0, 5, 6, 7, 8] [pl 0 (vi kind1), pl 5 (.agg #[vi 1, vi 1]), pl 6 (.agg #[vi 1, vi (-1)]), pl 7 (.agg #[vi (-1), vi 1]), pl 8 (.agg #[vi (-1), vi (-1)])] hF hS obs_nil (fun a w hF hS => ?_)
 refine at_do (d := 9) (s := vS (Instr.buildSlice 179 4 #[(0, .agg #[vi 1, vi 1]), (1, .agg #[vi 1, vi (-1)]), (2, .agg #[vi (-1), vi 1]), (3, .agg #[vi (-1), vi (-1)])])) (v := .slice (some ⟨w.heap.size, 0, none⟩) 4 4) (w' := w.alloc (.cells #[vi 1, vi 1, vi 1, vi (-1), vi (-1), vi 1, vi (-1), vi (-1)] 178)) hF (by kernel_rfl) (by kernel_rfl) (by kernel_rfl) (fun a hF => ?_)
 have hS : Sep w0 B (w.alloc (.cells #[vi 1, vi 1, vi 1, vi (-1), vi (-1), vi 1, vi (-1), vi (-1)] 178)) (ownK 178 2 (some (⟨w.heap.size, 0, none⟩ : Addr)) 4 4 (List.flatMap enc178 ([(1, 1), (1, (-1)), ((-1), 1), ((-1), (-1))] : List (Int × Int))) :: (fs)) := hS.litK 178 2 #[vi 1, vi 1, vi 1, vi (-1), vi (-1), vi 1, vi (-1), vi (-1)] 4 rfl (by omega)
 generalize (some (⟨w.heap.size, 0, none⟩ : Addr)) = g1 at hF hS
 generalize w.alloc (.cells #[vi 1, vi 1, vi 1, vi (-1), vi (-1), vi 1, vi (-1), vi (-1)] 178) = w at hS ⊢
 refine ar 1 [] [] [0, 3] [pl 0 (vi kind1), pl 3 (.slice g1 4 4)] hF hS obs_nil (fun a w hF hS => ?_)
 refine ae [0, 3] [pl 0 (vi kind1), pl 3 (.slice g1 4 4)] hF rfl (fun hF => ?_)
 refine then_n (seqR ?_)
 refine ar 4 [] [] [0, 3, 10, 11, 12, 13] [pl 0 (vi kind1), pl 3 (.slice g1 4 4), pl 10 (.agg #[vi 1, vi 0]), pl 11 (.agg #[vi (-1), vi 0]), pl 12 (.agg #[vi 0, vi 1]), pl 13 (.agg #[vi 0, vi (-1)])] hF hS obs_nil (fun a w hF hS => ?_)
 refine at_do (d := 14) (s := vS (Instr.buildSlice 179 4 #[(0, .agg #[vi 1, vi 0]), (1, .agg #[vi (-1), vi 0]), (2, .agg #[vi 0, vi 1]), (3, .agg #[vi 0, vi (-1)])])) (v := .slice (some ⟨w.heap.size, 0, none⟩) 4 4) (w' := w.alloc (.cells #[vi 1, vi 0, vi (-1), vi 0, vi 0, vi 1, vi 0, vi (-1)] 178)) hF (by kernel_rfl) (by kernel_rfl) (by kernel_rfl) (fun a hF => ?_)
 have hS : Sep w0 B (w.alloc (.cells #[vi 1, vi 0, vi (-1), vi 0, vi 0, vi 1, vi 0, vi (-1)] 178)) (ownK 178 2 (some (⟨w.heap.size, 0, none⟩ : Addr)) 4 4 (List.flatMap enc178 ([(1, 0), ((-1), 0), (0, 1), (0, (-1))] : List (Int × Int))) :: (ownK 178 2 g1 4 4 (List.flatMap enc178 ([(1, 1), (1, (-1)), ((-1), 1), ((-1), (-1))] : List (Int × Int))) :: fs)) := hS.litK 178 2 #[vi 1, vi 0, vi (-1), vi 0, vi 0, vi 1, vi 0, vi (-1)] 4 rfl (by omega)
 generalize (some (⟨w.heap.size, 0, none⟩ : Addr)) = g2 at hF hS
 generalize w.alloc (.cells #[vi 1, vi 0, vi (-1), vi 0, vi 0, vi 1, vi 0, vi (-1)] 178) = w at hS ⊢
 refine ar 1 [] [] [0, 3, 4] [pl 0 (vi kind1), pl 3 (.slice g1 4 4), pl 4 (.slice g2 4 4)] hF hS obs_nil (fun a w hF hS => ?_)
 refine ae [0, 3, 4] [pl 0 (vi kind1), pl 3 (.slice g1 4 4), pl 4 (.slice g2 4 4)] hF rfl (fun hF => ?_)
 refine then_n ?_
 refine seq_cut (fun a w => Fr 36 [pl 3 (.slice g1 4 4), pl 4 (.slice g2 4 4)] a ∧ Sep w0 B w (ownK 178 2 g1 4 4 (List.flatMap enc178 ([(1, 1), (1, (-1)), ((-1), 1), ((-1), (-1))] : List (Int × Int))) :: ownK 178 2 g2 4 4 (List.flatMap enc178 ([(1, 0), ((-1), 0), (0, 1), (0, (-1))] : List (Int × Int))) :: fs) ∧ (board_steps_J1).bind some = some r) ?_ ?_
 ·rintro a w ⟨hF, hS, hm⟩
  unfold board_steps_J1 at hm
  refine seqR ?_
  obtain ⟨hp1, hm⟩ := asrt_b hm
  refine ar 2 [] [] [33, 34] [pl 33 (.slice g1 4 4), pl 34 (.slice g2 4 4)] hF hS obs_nil (fun a w hF hS => ?_)
  obtain ⟨A1, c1, w, hrun, hS⟩ := run_appK2 (P := Try.prog) (t := 179) (m := ([(1, 1), (1, (-1)), ((-1), 1), ((-1), (-1))] : List (Int × Int))) (ys := ([(1, 0), ((-1), 0), (0, 1), (0, (-1))] : List (Int × Int))) (A2 := g2) (m2 := 4) (c2 := 4) encK178 (hS.at_ 0 rfl) (hS.at_ 1 rfl).rdK ((hS.at_ 1 rfl).lenK encK178) 179 Und179 hi178 hz178 hs178 rfl (by omega) hp1
  have hS : Sep w0 B w (ownK 178 2 A1 ((([(1, 1), (1, (-1)), ((-1), 1), ((-1), (-1))] : List (Int × Int)) ++ ([(1, 0), ((-1), 0), (0, 1), (0, (-1))] : List (Int × Int))).length) c1 (List.flatMap enc178 (([(1, 1), (1, (-1)), ((-1), 1), ((-1), (-1))] : List (Int × Int)) ++ ([(1, 0), ((-1), 0), (0, 1), (0, (-1))] : List (Int × Int)))) :: ownK 178 2 g2 4 4 (List.flatMap enc178 ([(1, 0), ((-1), 0), (0, 1), (0, (-1))] : List (Int × Int))) :: fs) := hS
  refine ad (d := 35) hF hrun (fun a hF => ?_)
  refine ar 1 [] [] [2] [pl 2 (.slice A1 ((([(1, 1), (1, (-1)), ((-1), 1), ((-1), (-1))] : List (Int × Int)) ++ ([(1, 0), ((-1), 0), (0, 1), (0, (-1))] : List (Int × Int))).length) c1)] hF hS obs_nil (fun a w hF hS => ?_)
  refine ae [2] [pl 2 (.slice A1 ((([(1, 1), (1, (-1)), ((-1), 1), ((-1), (-1))] : List (Int × Int)) ++ ([(1, 0), ((-1), 0), (0, 1), (0, (-1))] : List (Int × Int))).length) c1)] hF rfl (fun hF => ?_)
  refine then_n (wpIn_ret ?_)
  have hS := hS.pickN 2 [0] (by decide)
  have hm : some (([(1, 1), (1, (-1)), ((-1), 1), ((-1), (-1))] : List (Int × Int)) ++ ([(1, 0), ((-1), 0), (0, 1), (0, (-1))] : List (Int × Int))) = some r := hm
  obtain rfl := Option.some.inj hm
  exact retV (rs := [.tmp 2]) (vs := [.slice A1 ((([(1, 1), (1, (-1)), ((-1), 1), ((-1), (-1))] : List (Int × Int)) ++ ([(1, 0), ((-1), 0), (0, 1), (0, (-1))] : List (Int × Int))).length) c1]) hF rfl rv1 rfl ⟨_, rfl, A1, c1, rfl, hS⟩
 ·refine rg [] [] [3, 4, 15] [pl 3 (.slice g1 4 4), pl 4 (.slice g2 4 4), pl 15 (vi kind1)] hF hS obs_nil (fun a w hF hS => ?_)
  refine wpIn_block ?_
  refine rg [] [] [3, 4, 15, 16] [pl 3 (.slice g1 4 4), pl 4 (.slice g2 4 4), pl 15 (vi kind1), pl 16 (.bool (kind1 == 2))] hF hS obs_nil (fun a w hF hS => ?_)
  refine ce (t := 16) (b := (kind1 == 2)) hF (fun hb => ?_) (fun hb => ?_)
  ·replace hm := if_t hm hb
   refine seqR ?_
   refine ar 8 [] [] [18, 19, 20, 21, 22, 23, 24, 25] [pl 18 (.agg #[vi 1, vi 2]), pl 19 (.agg #[vi 2, vi 1]), pl 20 (.agg #[vi 2, vi (-1)]), pl 21 (.agg #[vi 1, vi (-2)]), pl 22 (.agg #[vi (-1), vi (-2)]), pl 23 (.agg #[vi (-2), vi (-1)]), pl 24 (.agg #[vi (-2), vi 1]), pl 25 (.agg #[vi (-1), vi 2])] hF hS obs_nil (fun a w hF hS => ?_)
   refine at_do (d := 26) (s := vS (Instr.buildSlice 179 8 #[(0, .agg #[vi 1, vi 2]), (1, .agg #[vi 2, vi 1]), (2, .agg #[vi 2, vi (-1)]), (3, .agg #[vi 1, vi (-2)]), (4, .agg #[vi (-1), vi (-2)]), (5, .agg #[vi (-2), vi (-1)]), (6, .agg #[vi (-2), vi 1]), (7, .agg #[vi (-1), vi 2])])) (v := .slice (some ⟨w.heap.size, 0, none⟩) 8 8) (w' := w.alloc (.cells #[vi 1, vi 2, vi 2, vi 1, vi 2, vi (-1), vi 1, vi (-2), vi (-1), vi (-2), vi (-2), vi (-1), vi (-2), vi 1, vi (-1), vi 2] 178)) hF (by kernel_rfl) (by kernel_rfl) (by kernel_rfl) (fun a hF => ?_)
   have hS : Sep w0 B (w.alloc (.cells #[vi 1, vi 2, vi 2, vi 1, vi 2, vi (-1), vi 1, vi (-2), vi (-1), vi (-2), vi (-2), vi (-1), vi (-2), vi 1, vi (-1), vi 2] 178)) (ownK 178 2 (some (⟨w.heap.size, 0, none⟩ : Addr)) 8 8 (List.flatMap enc178 ([(1, 2), (2, 1), (2, (-1)), (1, (-2)), ((-1), (-2)), ((-2), (-1)), ((-2), 1), ((-1), 2)] : List (Int × Int))) :: (ownK 178 2 g2 4 4 (List.flatMap enc178 ([(1, 0), ((-1), 0), (0, 1), (0, (-1))] : List (Int × Int))) :: ownK 178 2 g1 4 4 (List.flatMap enc178 ([(1, 1), (1, (-1)), ((-1), 1), ((-1), (-1))] : List (Int × Int))) :: fs)) := hS.litK 178 2 #[vi 1, vi 2, vi 2, vi 1, vi 2, vi (-1), vi 1, vi (-2), vi (-1), vi (-2), vi (-2), vi (-1), vi (-2), vi 1, vi (-1), vi 2] 8 rfl (by omega)
   generalize (some (⟨w.heap.size, 0, none⟩ : Addr)) = g3 at hF hS
   generalize w.alloc (.cells #[vi 1, vi 2, vi 2, vi 1, vi 2, vi (-1), vi 1, vi (-2), vi (-1), vi (-2), vi (-2), vi (-1), vi (-2), vi 1, vi (-1), vi 2] 178) = w at hS ⊢
   refine ar 1 [] [] [2] [pl 2 (.slice g3 8 8)] hF hS obs_nil (fun a w hF hS => ?_)
   refine ae [2] [pl 2 (.slice g3 8 8)] hF rfl (fun hF => ?_)
   refine then_n (wpIn_ret ?_)
   refine block_r (then_r ?_)
   have hl1 := (hS.at_ 0 rfl).lenK encK178
   have hS := (hS.at_ 0 rfl).reNK hl1
   have hS : Sep w0 B w (ownK 178 2 g3 (([(1, 2), (2, 1), (2, (-1)), (1, (-2)), ((-1), (-2)), ((-2), (-1)), ((-2), 1), ((-1), 2)] : List (Int × Int)).length) 8 (List.flatMap enc178 ([(1, 2), (2, 1), (2, (-1)), (1, (-2)), ((-1), (-2)), ((-2), (-1)), ((-2), 1), ((-1), 2)] : List (Int × Int))) :: ownK 178 2 g2 4 4 (List.flatMap enc178 ([(1, 0), ((-1), 0), (0, 1), (0, (-1))] : List (Int × Int))) :: ownK 178 2 g1 4 4 (List.flatMap enc178 ([(1, 1), (1, (-1)), ((-1), 1), ((-1), (-1))] : List (Int × Int))) :: fs) := hS
   have hF := hF.cast (t := 2) (v := .slice g3 8 8) (v' := .slice g3 (([(1, 2), (2, 1), (2, (-1)), (1, (-2)), ((-1), (-2)), ((-2), (-1)), ((-2), 1), ((-1), 2)] : List (Int × Int)).length) 8) rfl rfl (congrArg (fun k => Value.slice g3 k 8) hl1)
   have hS := hS.pickN 3 [0] (by decide)
   have hm : some ([(1, 2), (2, 1), (2, (-1)), (1, (-2)), ((-1), (-2)), ((-2), (-1)), ((-2), 1), ((-1), 2)] : List (Int × Int)) = some r := hm
   obtain rfl := Option.some.inj hm
   exact retV (rs := [.tmp 2]) (vs := [.slice g3 (([(1, 2), (2, 1), (2, (-1)), (1, (-2)), ((-1), (-2)), ((-2), (-1)), ((-2), 1), ((-1), 2)] : List (Int × Int)).length) 8]) hF rfl rv1 rfl ⟨_, rfl, g3, 8, rfl, hS⟩
  ·replace hm := if_f hm hb
   refine rg [] [] [3, 4, 15, 27] [pl 3 (.slice g1 4 4), pl 4 (.slice g2 4 4), pl 15 (vi kind1), pl 27 (.bool (kind1 == 3))] hF hS obs_nil (fun a w hF hS => ?_)
   refine ce (t := 27) (b := (kind1 == 3)) hF (fun hb => ?_) (fun hb => ?_)
   ·replace hm := if_t hm hb
    refine rg [] [] [2] [pl 2 (.slice g1 4 4)] hF hS obs_nil (fun a w hF hS => ?_)
    refine wpIn_ret ?_
    refine block_r (then_r ?_)
    have hl2 := (hS.at_ 1 rfl).lenK encK178
    have hS := (hS.at_ 1 rfl).reNK hl2
    have hS : Sep w0 B w (ownK 178 2 g2 4 4 (List.flatMap enc178 ([(1, 0), ((-1), 0), (0, 1), (0, (-1))] : List (Int × Int))) :: ownK 178 2 g1 (([(1, 1), (1, (-1)), ((-1), 1), ((-1), (-1))] : List (Int × Int)).length) 4 (List.flatMap enc178 ([(1, 1), (1, (-1)), ((-1), 1), ((-1), (-1))] : List (Int × Int))) :: fs) := hS
    have hF := hF.cast (t := 2) (v := .slice g1 4 4) (v' := .slice g1 (([(1, 1), (1, (-1)), ((-1), 1), ((-1), (-1))] : List (Int × Int)).length) 4) rfl rfl (congrArg (fun k => Value.slice g1 k 4) hl2)
    have hS := hS.pickN 2 [1] (by decide)
    have hm : some ([(1, 1), (1, (-1)), ((-1), 1), ((-1), (-1))] : List (Int × Int)) = some r := hm
    obtain rfl := Option.some.inj hm
    exact retV (rs := [.tmp 2]) (vs := [.slice g1 (([(1, 1), (1, (-1)), ((-1), 1), ((-1), (-1))] : List (Int × Int)).length) 4]) hF rfl rv1 rfl ⟨_, rfl, g1, 4, rfl, hS⟩
   ·replace hm := if_f hm hb
    refine rg [] [] [3, 4, 30] [pl 3 (.slice g1 4 4), pl 4 (.slice g2 4 4), pl 30 (.bool (kind1 == 4))] hF hS obs_nil (fun a w hF hS => ?_)
    refine ce (t := 30) (b := (kind1 == 4)) hF (fun hb => ?_) (fun hb => ?_)
    ·replace hm := if_t hm hb
     refine rg [] [] [2] [pl 2 (.slice g2 4 4)] hF hS obs_nil (fun a w hF hS => ?_)
     refine wpIn_ret ?_
     refine block_r (then_r ?_)
     have hl3 := (hS.at_ 0 rfl).lenK encK178
     have hS := (hS.at_ 0 rfl).reNK hl3
     have hS : Sep w0 B w (ownK 178 2 g2 (([(1, 0), ((-1), 0), (0, 1), (0, (-1))] : List (Int × Int)).length) 4 (List.flatMap enc178 ([(1, 0), ((-1), 0), (0, 1), (0, (-1))] : List (Int × Int))) :: ownK 178 2 g1 4 4 (List.flatMap enc178 ([(1, 1), (1, (-1)), ((-1), 1), ((-1), (-1))] : List (Int × Int))) :: fs) := hS
     have hF := hF.cast (t := 2) (v := .slice g2 4 4) (v' := .slice g2 (([(1, 0), ((-1), 0), (0, 1), (0, (-1))] : List (Int × Int)).length) 4) rfl rfl (congrArg (fun k => Value.slice g2 k 4) hl3)
     have hS := hS.pickN 2 [0] (by decide)
     have hm : some ([(1, 0), ((-1), 0), (0, 1), (0, (-1))] : List (Int × Int)) = some r := hm
     obtain rfl := Option.some.inj hm
     exact retV (rs := [.tmp 2]) (vs := [.slice g2 (([(1, 0), ((-1), 0), (0, 1), (0, (-1))] : List (Int × Int)).length) 4]) hF rfl rv1 rfl ⟨_, rfl, g2, 4, rfl, hS⟩
    ·replace hm := if_f hm hb
     refine wpIn_skip ?_
     refine block_n ?_
     refine then_n ?_
     have hS := hS.pickN 2 [1, 0] (by decide)
     exact ⟨hF.wk [3, 4], hS, hm⟩

def board_Reach_1_J3 {S : Type}  (z1 : Int) (yield3 : S) : Option (St (S × Int) (Fl S S)) :=
 some (.next (yield3, (w64 (z1 + 1))))

def board_Reach_1_J4 {S : Type}  (z1 : Int) (yield2 : S) (z2 : Bool) : Option (St (S × Int) (Fl S S)) :=
 if z2 then (some (.done (.ret yield2))) else ((board_Reach_1_J3 z1) yield2)

def board_Reach_1_J2 {S : Type}  (yd1 : Int → S → Option (S × Bool)) (p11 : List Int) (p21 : Int) (yield1 : S) (z1 : Int) : Option (St (S × Int) (Fl S S)) :=
 asrt (0 ≤ z1 ∧ z1 < 2) <| (board_Side_m (geti p11 p21)).bind fun r2 => (board_forward_m r2).bind fun r3 => (board_moved_m p21 (geti ([(-1), 1] : List Int) z1) r3).bind fun r4 => if (decide ((0 : Int) ≤ r4)) then ((yd1 r4 yield1).bind fun r5 => (board_Reach_1_J4 z1) r5.1 ((decide ((0 : Int) ≤ r4)) && (!r5.2))) else ((board_Reach_1_J4 z1) yield1 ((decide ((0 : Int) ≤ r4)) && true))

def board_Reach_1_J1 {S : Type}  (sv3 : S) : Option S :=
 some sv3

def board_Reach_1_K1 {S : Type}  : (Fl S S) → Option S :=
 fun (x : (Fl S S)) => match x with | .go sv3 => board_Reach_1_J1 sv3 | .ret x => some x

def board_Reach_1_L1 {S : Type}  (yd1 : Int → S → Option (S × Bool)) (p11 : List Int) (p21 : Int) : (S × Int) → Option (St (S × Int) (Fl S S)) :=
 fun (x : (S × Int)) => match x with | (yield1, z1) => if (decide (z1 < 2)) then ((board_Reach_1_J2 yd1 p11 p21 yield1 z1)) else (some (.done (.go yield1)))

def board_Reach_1_J8 {S : Type}  (r6 : (List (Int × Int))) (z3 to1 : Int) (yield8 : S) : Option (St (S × Int) (Fl S S)) :=
 (board_moved_m to1 ((getd ((0, 0) : (Int × Int)) r6 z3).1) ((getd ((0, 0) : (Int × Int)) r6 z3).2)).bind fun r9 => some (.next (yield8, r9))

def board_Reach_1_J9 {S : Type}  (p11 : List Int) (r1 : Int) (r6 : (List (Int × Int))) (z3 to1 : Int) (yield7 : S) : Option (St (S × Int) (Fl S S)) :=
 asrt (0 ≤ to1 ∧ to1 < (p11.length : Int)) <| if ((((geti p11 to1) != 0) || (r1 == 2)) || (r1 == 6)) then (some (.done (.go yield7))) else ((board_Reach_1_J8 r6 z3 to1) yield7)

def board_Reach_1_J7 {S : Type}  (yd1 : Int → S → Option (S × Bool)) (p11 : List Int) (r1 : Int) (r6 : (List (Int × Int))) (z3 : Int) (yield5 : S) (to1 : Int) : Option (St (S × Int) (Fl S S)) :=
 (yd1 to1 yield5).bind fun r8 => if (!r8.2) then (some (.done (.ret r8.1))) else ((board_Reach_1_J9 p11 r1 r6 z3 to1) r8.1)

def board_Reach_1_J6 {S : Type}  (z3 : Int) (yield6 : S) : Option (St (S × Int) (Fl S S)) :=
 some (.next (yield6, (w64 (z3 + 1))))

def board_Reach_1_K3 {S : Type}  (z3 : Int) : (Fl S S) → Option (St (S × Int) (Fl S S)) :=
 fun (x : (Fl S S)) => match x with | .go yield6 => (board_Reach_1_J6 z3) yield6 | .ret x => some (.done (.ret x))

def board_Reach_1_L3 {S : Type}  (yd1 : Int → S → Option (S × Bool)) (p11 : List Int) (r1 : Int) (r6 : (List (Int × Int))) (z3 : Int) : (S × Int) → Option (St (S × Int) (Fl S S)) :=
 fun (x : (S × Int)) => match x with | (yield5, to1) => if (decide ((0 : Int) ≤ to1)) then ((board_Reach_1_J7 yd1 p11 r1 r6 z3 yield5 to1)) else (some (.done (.go yield5)))

def board_Reach_1_J5 {S : Type}  (yd1 : Int → S → Option (S × Bool)) (p11 : List Int) (p21 r1 : Int) (r6 : (List (Int × Int))) (yield4 : S) (z3 : Int) : Option (St (S × Int) (Fl S S)) :=
 asrt (0 ≤ z3 ∧ z3 < (r6.length : Int)) <| (board_moved_m p21 ((getd ((0, 0) : (Int × Int)) r6 z3).1) ((getd ((0, 0) : (Int × Int)) r6 z3).2)).bind fun r7 => (loop (board_Reach_1_L3 yd1 p11 r1 r6 z3) (yield4, r7)).bind (board_Reach_1_K3 z3)

def board_Reach_1_K2 {S : Type}  : (Fl S S) → Option S :=
 fun (x : (Fl S S)) => match x with | .go sv3 => board_Reach_1_J1 sv3 | .ret x => some x

def board_Reach_1_L2 {S : Type}  (yd1 : Int → S → Option (S × Bool)) (p11 : List Int) (p21 r1 : Int) (r6 : (List (Int × Int))) : (S × Int) → Option (St (S × Int) (Fl S S)) :=
 fun (x : (S × Int)) => match x with | (yield4, z3) => if (decide (z3 < (r6.length : Int))) then ((board_Reach_1_J5 yd1 p11 p21 r1 r6 yield4 z3)) else (some (.done (.go yield4)))

def board_Reach_1_m {S : Type}  (yd1 : Int → S → Option (S × Bool)) (sv1 : S) (p11 : List Int) (p21 : Int) : Option S :=
 asrt (0 ≤ p21 ∧ p21 < (p11.length : Int)) <| (board_Kind_m (geti p11 p21)).bind fun r1 => if (r1 == 0) then (board_Reach_1_J1 sv1) else (if (r1 == 1) then ((loop (board_Reach_1_L1 yd1 p11 p21) (sv1, 0)).bind board_Reach_1_K1) else ((board_steps_m r1).bind fun r6 => (loop (board_Reach_1_L2 yd1 p11 p21 r1 r6) (sv1, 0)).bind board_Reach_1_K2))

theorem board_Reach_1_w {S : Type}  {l1 : Nat} {RS : S → List HP → Prop} {yd1 : Int → S → Option (S × Bool)} {sv1 : S} {g1 : Nat} {A1 : Option Addr} {c1 n1 : Nat} {p11 : List Int} {g2 : Nat} {p21 : Int} {r : S} {w0 w : World} {B : Nat} {fs : List HP} (hm : board_Reach_1_m yd1 sv1 p11 p21 = some r) (hS : Sep w0 B w (stateH RS sv1 :: blk g1 22 #[.slice A1 n1 c1] :: blk g2 3 #[vi p21] :: fs)) (hY : YieldC Try.prog w0 B l1 (fun (x : Int) => #[vi x]) RS yd1 (blk g1 22 #[.slice A1 n1 c1] :: blk g2 3 #[vi p21] :: fs)) (hr_p11 : RdF w0 B fs A1 (vI p11)) (_hc_p11 : p11.length ≤ c1) (_hn_p11 : n1 = p11.length) :
  Calls Try.prog 155 #[.func (.yield l1) #[] #[], pa g1 0, pa g2 0] w fun e w' => ∃ v, e = .returned v ∧ v = .tuple #[] ∧ Sep w0 B w' (stateH RS r :: blk g1 22 #[.slice A1 n1 c1] :: blk g2 3 #[vi p21] :: fs) := by
 obtain ⟨i3, hi3, hz3, hs3, hb3⟩ := info_parts Info3
 obtain ⟨i178, hi178, hz178, hs178, hb178⟩ := info_parts Info178
 obtain rfl := _hn_p11
 unfold board_Reach_1_m at hm
 replace hm := start_b hm
 refine enter (l := [.func (.yield l1) #[] #[], pa g1 0, pa g2 0]) (n := 76) Try.func155 rfl rfl (by simp) (fun a hF => ?_)
 refine end_cut (fun a w => ∃ (sv3 : S), Fr 76 [] a ∧ Sep w0 B w (stateH RS sv3 :: blk g1 22 #[.slice A1 p11.length c1] :: blk g2 3 #[vi p21] :: fs) ∧ (board_Reach_1_J1 sv3).bind some = some r) ?_ ?_
 ·rintro a w ⟨sv3, hF, hS, hm⟩
  unfold board_Reach_1_J1 at hm
  have hm : some sv3 = some r := hm
  obtain rfl := Option.some.inj hm
  exact endV (rs := []) (vs := []) hF rfl (rv_nil) rfl ⟨_, rfl, rfl, hS⟩ rfl
 ·obtain ⟨hp1, hm⟩ := asrt_b hm
  refine rg [⟨false, [], vS (Instr.loadAt 22 (pa g1 0)), .slice A1 p11.length c1⟩, ⟨false, [], vS (Instr.loadAt 3 (pa g2 0)), vi p21⟩, ⟨true, [], vS (Instr.indexAt 22 (.slice A1 p11.length c1) (vi p21)), .pointer (some (sAddr A1 p21))⟩, ⟨false, [], vS (Instr.loadAt 3 (.pointer (some (sAddr A1 p21)))), vi (geti p11 p21)⟩] [some (.slice A1 p11.length c1), some (vi p21), some (.pointer (some (sAddr A1 p21))), some (vi (geti p11 p21)), none] [0, 1, 2, 4] [pl 0 (.func (.yield l1) #[] #[]), pl 1 (pa g1 0), pl 2 (pa g2 0), pl 4 (vi (geti p11 p21))] hF hS ?_ (fun a w hF hS => ?_)
  ·exact obs_cons (ob_load Agg22 (fun _ _ hS => (hS.at_ 1 rfl).cell rfl)) <| obs_cons (ob_load Agg3 (fun _ _ hS => (hS.at_ 2 rfl).cell rfl)) <| obs_cons (ob_ix1 (f := (Value.int .i64)) (m := p11) Und22 hi3 hs3 (hr_p11 _ (hS.dropN 3)) rfl (fun _ => hp1)) <| obs_cons (ob_get1 (n := p11.length) (m := p11) (Value.int .i64) (0 : Int) Agg3 (fun _ hS => ⟨_, (hr_p11 _ (hS.dropN 3))⟩) (fun _ hS => rfl) (fun _ => hp1)) <| obs_nil
  obtain ⟨r1, hr1, hm⟩ := call_b hm
  refine rg [⟨false, [], callFunc 107 #[vi (geti p11 p21)], vi r1⟩] [none, some (vi r1), none] [0, 1, 2, 4, 5] [pl 0 (.func (.yield l1) #[] #[]), pl 1 (pa g1 0), pl 2 (pa g2 0), pl 4 (vi (geti p11 p21)), pl 5 (vi r1)] hF hS ?_ (fun a w hF hS => ?_)
  ·exact obs_cons (ob_call Try.func107 (by kernel_rfl) rfl (fun _ _ hS => board_Kind_w hr1 hS )) <| obs_nil
  refine rg [] [] [0, 1, 2, 4, 5, 18] [pl 0 (.func (.yield l1) #[] #[]), pl 1 (pa g1 0), pl 2 (pa g2 0), pl 4 (vi (geti p11 p21)), pl 5 (vi r1), pl 18 (vi r1)] hF hS obs_nil (fun a w hF hS => ?_)
  refine wpIn_block ?_
  refine rg [] [] [0, 1, 2, 4, 5, 18, 52] [pl 0 (.func (.yield l1) #[] #[]), pl 1 (pa g1 0), pl 2 (pa g2 0), pl 4 (vi (geti p11 p21)), pl 5 (vi r1), pl 18 (vi r1), pl 52 (.bool (r1 == 0))] hF hS obs_nil (fun a w hF hS => ?_)
  refine ce (t := 52) (b := (r1 == 0)) hF (fun hb => ?_) (fun hb => ?_)
  ·replace hm := if_t hm hb
   refine wpIn_skip ?_
   refine block_n ?_
   refine then_n ?_
   exact ⟨sv1, hF.wk [], hS, hm⟩
  ·replace hm := if_f hm hb
   refine rg [] [] [0, 1, 2, 4, 5, 54] [pl 0 (.func (.yield l1) #[] #[]), pl 1 (pa g1 0), pl 2 (pa g2 0), pl 4 (vi (geti p11 p21)), pl 5 (vi r1), pl 54 (.bool (r1 == 1))] hF hS obs_nil (fun a w hF hS => ?_)
   refine ce (t := 54) (b := (r1 == 1)) hF (fun hb => ?_) (fun hb => ?_)
   ·replace hm := if_t hm hb
    refine rg [] [] [0, 2, 4, 56, 57] [pl 0 (.func (.yield l1) #[] #[]), pl 2 (pa g2 0), pl 4 (vi (geti p11 p21)), pl 56 (.agg (List.toArray (([] : List Value) ++ (arr1 (Value.int .i64) (0 : Int) 2 ([(-1), 1] : List Int) ++ ([] : List Value))))), pl 57 (vi 0)] hF hS obs_nil (fun a w hF hS => ?_)
    refine wpIn_block ?_
    have hS := hS.pickN 3 [0, 2, 1] (by decide)
    refine wp_loop_model (S := (S × Int)) (R := (Fl S S)) (board_Reach_1_L1 yd1 p11 p21) (fun x => (board_Reach_1_K1 x).bind some) r (fun (x : (S × Int)) a w => Fr 76 [pl 0 (.func (.yield l1) #[] #[]), pl 2 (pa g2 0), pl 4 (vi (geti p11 p21)), pl 56 (.agg (List.toArray (([] : List Value) ++ (arr1 (Value.int .i64) (0 : Int) 2 ([(-1), 1] : List Int) ++ ([] : List Value))))), pl 57 (vi x.2)] a ∧ Sep w0 B w (stateH RS x.1 :: blk g2 3 #[vi p21] :: blk g1 22 #[.slice A1 p11.length c1] :: fs)) (assoc_b hm) ⟨hF.wk [0, 2, 4, 56, 57], hS⟩ ?_
    clear hF hS hm
    rintro nn1 ⟨yield1, z1⟩ a w ⟨hF, hS⟩ hm
    generalize hφ1 : stK (board_Reach_1_L1 yd1 p11 p21) nn1 (fun x => (board_Reach_1_K1 x).bind some) = φ1 at hm
    unfold board_Reach_1_L1 at hm
    dsimp only at hF hS hm
    refine rg [] [] [0, 2, 4, 56, 57, 58] [pl 0 (.func (.yield l1) #[] #[]), pl 2 (pa g2 0), pl 4 (vi (geti p11 p21)), pl 56 (.agg (List.toArray (([] : List Value) ++ (arr1 (Value.int .i64) (0 : Int) 2 ([(-1), 1] : List Int) ++ ([] : List Value))))), pl 57 (vi z1), pl 58 (.bool (decide (z1 < 2)))] hF hS obs_nil (fun a w hF hS => ?_)
    refine seq_cut (fun a w => Fr 76 [pl 0 (.func (.yield l1) #[] #[]), pl 2 (pa g2 0), pl 4 (vi (geti p11 p21)), pl 56 (.agg (List.toArray (([] : List Value) ++ (arr1 (Value.int .i64) (0 : Int) 2 ([(-1), 1] : List Int) ++ ([] : List Value))))), pl 57 (vi z1)] a ∧ Sep w0 B w (stateH RS yield1 :: blk g2 3 #[vi p21] :: blk g1 22 #[.slice A1 p11.length c1] :: fs) ∧ ((board_Reach_1_J2 yd1 p11 p21 yield1 z1)).bind φ1 = some r) ?_ ?_
    ·rintro a w ⟨hF, hS, hm⟩
     unfold board_Reach_1_J2 at hm
     refine seq_cut (fun a w => ∃ (yield3 : S), Fr 76 [pl 0 (.func (.yield l1) #[] #[]), pl 2 (pa g2 0), pl 4 (vi (geti p11 p21)), pl 56 (.agg (List.toArray (([] : List Value) ++ (arr1 (Value.int .i64) (0 : Int) 2 ([(-1), 1] : List Int) ++ ([] : List Value))))), pl 57 (vi z1)] a ∧ Sep w0 B w (stateH RS yield3 :: blk g2 3 #[vi p21] :: blk g1 22 #[.slice A1 p11.length c1] :: fs) ∧ ((board_Reach_1_J3 z1) yield3).bind φ1 = some r) ?_ ?_
     ·rintro a w ⟨yield3, hF, hS, hm⟩
      unfold board_Reach_1_J3 at hm
      refine rg1 [] [] [0, 2, 4, 56, 57] [pl 0 (.func (.yield l1) #[] #[]), pl 2 (pa g2 0), pl 4 (vi (geti p11 p21)), pl 56 (.agg (List.toArray (([] : List Value) ++ (arr1 (Value.int .i64) (0 : Int) 2 ([(-1), 1] : List Int) ++ ([] : List Value))))), pl 57 (vi (w64 (z1 + 1)))] hF hS obs_nil (fun a w hF hS => ?_)
      refine then_n ?_
      rw [← hφ1] at hm
      exact ⟨(yield3, (w64 (z1 + 1))), ⟨hF.wk [0, 2, 4, 56, 57], hS⟩, hm⟩
     ·refine wpIn_block ?_
      obtain ⟨hp2, hm⟩ := asrt_b hm
      refine rg [⟨true, [], vS (Instr.index 150 (.agg (List.toArray (([] : List Value) ++ (arr1 (Value.int .i64) (0 : Int) 2 ([(-1), 1] : List Int) ++ ([] : List Value))))) (vi z1)), vi (geti ([(-1), 1] : List Int) z1)⟩] [some (vi (geti ([(-1), 1] : List Int) z1)), none] [0, 2, 4, 7, 56, 57] [pl 0 (.func (.yield l1) #[] #[]), pl 2 (pa g2 0), pl 4 (vi (geti p11 p21)), pl 7 (vi (geti ([(-1), 1] : List Int) z1)), pl 56 (.agg (List.toArray (([] : List Value) ++ (arr1 (Value.int .i64) (0 : Int) 2 ([(-1), 1] : List Int) ++ ([] : List Value))))), pl 57 (vi z1)] hF hS ?_ (fun a w hF hS => ?_)
      ·exact obs_cons (ob_idx1 (f := (Value.int .i64)) (z := (0 : Int)) (m := ([(-1), 1] : List Int)) UndA150 (by kernel_rfl) (by kernel_rfl) (fun _ => hp2)) <| obs_nil
      obtain ⟨r2, hr2, hm⟩ := call_b hm
      obtain ⟨r3, hr3, hm⟩ := call_b hm
      obtain ⟨r4, hr4, hm⟩ := call_b hm
      refine rg [⟨false, [], vS (Instr.loadAt 3 (pa g2 0)), vi p21⟩, ⟨false, [], callFunc 108 #[vi (geti p11 p21)], vi r2⟩, ⟨false, [], callFunc 111 #[vi r2], vi r3⟩, ⟨false, [], callFunc 156 #[vi p21, .agg #[vi (geti ([(-1), 1] : List Int) z1), vi r3]], vi r4⟩] [some (vi p21), none, none, some (vi r2), some (vi r3), none, some (vi r4), none] [0, 2, 4, 8, 56, 57] [pl 0 (.func (.yield l1) #[] #[]), pl 2 (pa g2 0), pl 4 (vi (geti p11 p21)), pl 8 (vi r4), pl 56 (.agg (List.toArray (([] : List Value) ++ (arr1 (Value.int .i64) (0 : Int) 2 ([(-1), 1] : List Int) ++ ([] : List Value))))), pl 57 (vi z1)] hF hS ?_ (fun a w hF hS => ?_)
      ·exact obs_cons (ob_load Agg3 (fun _ _ hS => (hS.at_ 1 rfl).cell rfl)) <| obs_cons (ob_call Try.func108 (by kernel_rfl) rfl (fun _ _ hS => board_Side_w hr2 hS )) <| obs_cons (ob_call Try.func111 (by kernel_rfl) rfl (fun _ _ hS => board_forward_w hr3 hS )) <| obs_cons (ob_call Try.func156 (by kernel_rfl) rfl (fun _ _ hS => board_moved_w hr4 hS )) <| obs_nil
      refine seq_cut (fun a w => ∃ (yield2 : S) (z2 : Bool), Fr 76 [pl 0 (.func (.yield l1) #[] #[]), pl 2 (pa g2 0), pl 4 (vi (geti p11 p21)), pl 56 (.agg (List.toArray (([] : List Value) ++ (arr1 (Value.int .i64) (0 : Int) 2 ([(-1), 1] : List Int) ++ ([] : List Value))))), pl 57 (vi z1), pl 74 (.bool z2)] a ∧ Sep w0 B w (stateH RS yield2 :: blk g2 3 #[vi p21] :: blk g1 22 #[.slice A1 p11.length c1] :: fs) ∧ ((board_Reach_1_J4 z1) yield2 z2).bind φ1 = some r) ?_ ?_
      ·rintro a w ⟨yield2, z2, hF, hS, hm⟩
       unfold board_Reach_1_J4 at hm
       refine ce (t := 74) (b := z2) hF (fun hb => ?_) (fun hb => ?_)
       ·replace hm := if_t hm hb
        refine wpIn_ret ?_
        refine block_r (then_r (then_r (block_r (block_r (then_r ?_)))))
        rw [← hφ1] at hm
        replace hm := done_b hm
        unfold board_Reach_1_K1 at hm
        try dsimp only at hm
        have hS := hS.pickN 3 [0, 2, 1] (by decide)
        have hm : some yield2 = some r := hm
        obtain rfl := Option.some.inj hm
        exact retV (rs := []) (vs := []) hF rfl (rv_nil) rfl ⟨_, rfl, rfl, hS⟩
       ·replace hm := if_f hm hb
        refine wpIn_skip ?_
        refine block_n ?_
        refine then_n ?_
        exact ⟨yield2, hF.wk [0, 2, 4, 56, 57], hS, hm⟩
      ·refine oneR ?_
       refine ar 5 [] [] [0, 2, 4, 56, 57, 69, 70, 71] [pl 0 (.func (.yield l1) #[] #[]), pl 2 (pa g2 0), pl 4 (vi (geti p11 p21)), pl 56 (.agg (List.toArray (([] : List Value) ++ (arr1 (Value.int .i64) (0 : Int) 2 ([(-1), 1] : List Int) ++ ([] : List Value))))), pl 57 (vi z1), pl 69 (.bool (decide ((0 : Int) ≤ r4))), ⟨70, [(69, true)], .func (.yield l1) #[] #[]⟩, ⟨71, [(69, true)], vi r4⟩] hF hS obs_nil (fun a w hF hS => ?_)
       rcases Bool.eq_false_or_eq_true (decide ((0 : Int) ≤ r4)) with hg1 | hg1
       ·replace hm := if_t hm hg1
        obtain ⟨r5, hr5, hm⟩ := call_b hm
        have hS := hS.pickN 3 [0, 2, 1] (by decide)
        refine at_gyield (hs := [(decide ((0 : Int) ≤ r4), true)]) (fun y hy => by simp only [List.mem_cons, List.not_mem_nil, or_false] at hy; subst hy; first | exact hg1) (d := 72) hF (by kernel_rfl) (by kernel_rfl) (hY [] r4 yield1 _ _ hr5 (Sep.rot (us := []) hS)) (fun v a w hR hF => ?_)
        obtain ⟨rfl, hS⟩ := hR
        have hS : Sep w0 B w (stateH RS r5.1 :: blk g1 22 #[.slice A1 p11.length c1] :: blk g2 3 #[vi p21] :: fs) := Sep.unrot (us := []) hS
        refine ar 2 [] [] [0, 2, 4, 56, 57, 74] [pl 0 (.func (.yield l1) #[] #[]), pl 2 (pa g2 0), pl 4 (vi (geti p11 p21)), pl 56 (.agg (List.toArray (([] : List Value) ++ (arr1 (Value.int .i64) (0 : Int) 2 ([(-1), 1] : List Int) ++ ([] : List Value))))), pl 57 (vi z1), pl 74 (.bool ((decide ((0 : Int) ≤ r4)) && (!r5.2)))] hF hS obs_nil (fun a w hF hS => ?_)
        refine ae [0, 2, 4, 56, 57, 74] [pl 0 (.func (.yield l1) #[] #[]), pl 2 (pa g2 0), pl 4 (vi (geti p11 p21)), pl 56 (.agg (List.toArray (([] : List Value) ++ (arr1 (Value.int .i64) (0 : Int) 2 ([(-1), 1] : List Int) ++ ([] : List Value))))), pl 57 (vi z1), pl 74 (.bool ((decide ((0 : Int) ≤ r4)) && (!r5.2)))] hF rfl (fun hF => ?_)
        refine then_n ?_
        have hS := hS.pickN 3 [0, 2, 1] (by decide)
        exact ⟨r5.1, ((decide ((0 : Int) ≤ r4)) && (!r5.2)), hF.wk [0, 2, 4, 56, 57, 74], hS, hm⟩
       ·replace hm := if_f hm hg1
        refine at_gskip (d := 72) (v := .bool false) (hs := [(decide ((0 : Int) ≤ r4), true)]) (ctx := [(69, true)]) hF (by kernel_rfl) (by kernel_rfl) (fun h => absurd (h (decide ((0 : Int) ≤ r4), true) (by simp)) (by simp [hg1])) (fun a hF => ?_)
        refine ar 2 [] [] [0, 2, 4, 56, 57, 74] [pl 0 (.func (.yield l1) #[] #[]), pl 2 (pa g2 0), pl 4 (vi (geti p11 p21)), pl 56 (.agg (List.toArray (([] : List Value) ++ (arr1 (Value.int .i64) (0 : Int) 2 ([(-1), 1] : List Int) ++ ([] : List Value))))), pl 57 (vi z1), pl 74 (.bool ((decide ((0 : Int) ≤ r4)) && true))] hF hS obs_nil (fun a w hF hS => ?_)
        refine ae [0, 2, 4, 56, 57, 74] [pl 0 (.func (.yield l1) #[] #[]), pl 2 (pa g2 0), pl 4 (vi (geti p11 p21)), pl 56 (.agg (List.toArray (([] : List Value) ++ (arr1 (Value.int .i64) (0 : Int) 2 ([(-1), 1] : List Int) ++ ([] : List Value))))), pl 57 (vi z1), pl 74 (.bool ((decide ((0 : Int) ≤ r4)) && true))] hF rfl (fun hF => ?_)
        refine then_n ?_
        exact ⟨yield1, ((decide ((0 : Int) ≤ r4)) && true), hF.wk [0, 2, 4, 56, 57, 74], hS, hm⟩
    ·refine ce (t := 58) (b := decide (z1 < 2)) hF (fun hb => ?_) (fun hb => ?_)
     ·replace hm := if_t hm hb
      refine wpIn_skip ?_
      refine then_n ?_
      exact ⟨hF.wk [0, 2, 4, 56, 57], hS, hm⟩
     ·replace hm := if_f hm hb
      refine wpIn_exit ?_
      refine then_e (then_e (block_e (block_n (then_n ?_))))
      have hS := hS.pickN 3 [0, 2, 1] (by decide)
      rw [← hφ1] at hm
      replace hm := done_b hm
      unfold board_Reach_1_K1 at hm
      try dsimp only at hm
      have hm : (board_Reach_1_J1 yield1).bind some = some r := hm
      exact ⟨yield1, hF.wk [], hS, hm⟩
   ·replace hm := if_f hm hb
    refine seqR ?_
    obtain ⟨r6, hr6, hm⟩ := call_b hm
    refine ar 1 [] [] [0, 1, 2, 5, 19] [pl 0 (.func (.yield l1) #[] #[]), pl 1 (pa g1 0), pl 2 (pa g2 0), pl 5 (vi r1), pl 19 (vi r1)] hF hS obs_nil (fun a w hF hS => ?_)
    refine at_call (f := 157) (args := #[vi r1]) (d := 20) hF (by kernel_rfl) (by kernel_rfl) Try.func157 (by kernel_rfl) rfl (board_steps_w hr6 hS ) (fun v a w hR hF => ?_)
    clear hS
    obtain ⟨A2, c2, rfl, hS⟩ := hR
    have hS : Sep w0 B w (ownK 178 2 A2 r6.length c2 (List.flatMap enc178 r6) :: stateH RS sv1 :: blk g1 22 #[.slice A1 p11.length c1] :: blk g2 3 #[vi p21] :: fs) := hS
    refine ar 2 [] [] [0, 1, 2, 5, 20, 21, 22] [pl 0 (.func (.yield l1) #[] #[]), pl 1 (pa g1 0), pl 2 (pa g2 0), pl 5 (vi r1), pl 20 (.slice A2 r6.length c2), pl 21 (vi (r6.length : Int)), pl 22 (vi 0)] hF hS obs_nil (fun a w hF hS => ?_)
    refine ae [0, 1, 2, 5, 20, 21, 22] [pl 0 (.func (.yield l1) #[] #[]), pl 1 (pa g1 0), pl 2 (pa g2 0), pl 5 (vi r1), pl 20 (.slice A2 r6.length c2), pl 21 (vi (r6.length : Int)), pl 22 (vi 0)] hF rfl (fun hF => ?_)
    refine then_n ?_
    refine wpIn_block ?_
    have hS := hS.pickN 4 [1, 2, 3, 0] (by decide)
    refine wp_loop_model (S := (S × Int)) (R := (Fl S S)) (board_Reach_1_L2 yd1 p11 p21 r1 r6) (fun x => (board_Reach_1_K2 x).bind some) r (fun (x : (S × Int)) a w => Fr 76 [pl 0 (.func (.yield l1) #[] #[]), pl 1 (pa g1 0), pl 2 (pa g2 0), pl 5 (vi r1), pl 20 (.slice A2 r6.length c2), pl 21 (vi (r6.length : Int)), pl 22 (vi x.2)] a ∧ Sep w0 B w (stateH RS x.1 :: blk g1 22 #[.slice A1 p11.length c1] :: blk g2 3 #[vi p21] :: ownK 178 2 A2 r6.length c2 (List.flatMap enc178 r6) :: fs)) (assoc_b hm) ⟨hF.wk [0, 1, 2, 5, 20, 21, 22], hS⟩ ?_
    clear hF hS hm
    rintro nn2 ⟨yield4, z3⟩ a w ⟨hF, hS⟩ hm
    generalize hφ2 : stK (board_Reach_1_L2 yd1 p11 p21 r1 r6) nn2 (fun x => (board_Reach_1_K2 x).bind some) = φ2 at hm
    unfold board_Reach_1_L2 at hm
    dsimp only at hF hS hm
    refine rg [] [] [0, 1, 2, 5, 20, 21, 22, 23] [pl 0 (.func (.yield l1) #[] #[]), pl 1 (pa g1 0), pl 2 (pa g2 0), pl 5 (vi r1), pl 20 (.slice A2 r6.length c2), pl 21 (vi (r6.length : Int)), pl 22 (vi z3), pl 23 (.bool (decide (z3 < (r6.length : Int))))] hF hS obs_nil (fun a w hF hS => ?_)
    refine seq_cut (fun a w => Fr 76 [pl 0 (.func (.yield l1) #[] #[]), pl 1 (pa g1 0), pl 2 (pa g2 0), pl 5 (vi r1), pl 20 (.slice A2 r6.length c2), pl 21 (vi (r6.length : Int)), pl 22 (vi z3)] a ∧ Sep w0 B w (stateH RS yield4 :: blk g1 22 #[.slice A1 p11.length c1] :: blk g2 3 #[vi p21] :: ownK 178 2 A2 r6.length c2 (List.flatMap enc178 r6) :: fs) ∧ ((board_Reach_1_J5 yd1 p11 p21 r1 r6 yield4 z3)).bind φ2 = some r) ?_ ?_
    ·rintro a w ⟨hF, hS, hm⟩
     unfold board_Reach_1_J5 at hm
     refine seq_cut (fun a w => ∃ (yield6 : S), Fr 76 [pl 0 (.func (.yield l1) #[] #[]), pl 1 (pa g1 0), pl 2 (pa g2 0), pl 5 (vi r1), pl 20 (.slice A2 r6.length c2), pl 21 (vi (r6.length : Int)), pl 22 (vi z3)] a ∧ Sep w0 B w (stateH RS yield6 :: blk g1 22 #[.slice A1 p11.length c1] :: blk g2 3 #[vi p21] :: ownK 178 2 A2 r6.length c2 (List.flatMap enc178 r6) :: fs) ∧ ((board_Reach_1_J6 z3) yield6).bind φ2 = some r) ?_ ?_
     ·rintro a w ⟨yield6, hF, hS, hm⟩
      unfold board_Reach_1_J6 at hm
      refine rg1 [] [] [0, 1, 2, 5, 20, 21, 22] [pl 0 (.func (.yield l1) #[] #[]), pl 1 (pa g1 0), pl 2 (pa g2 0), pl 5 (vi r1), pl 20 (.slice A2 r6.length c2), pl 21 (vi (r6.length : Int)), pl 22 (vi (w64 (z3 + 1)))] hF hS obs_nil (fun a w hF hS => ?_)
      refine then_n ?_
      rw [← hφ2] at hm
      exact ⟨(yield6, (w64 (z3 + 1))), ⟨hF.wk [0, 1, 2, 5, 20, 21, 22], hS⟩, hm⟩
     ·refine wpIn_block ?_
      refine seqR ?_
      obtain ⟨hp3, hm⟩ := asrt_b hm
      refine ar 2 [⟨true, [], vS (Instr.indexAt 179 (.slice A2 r6.length c2) (vi z3)), .pointer (some (sAddrK A2 2 z3))⟩, ⟨false, [], vS (Instr.loadAt 178 (.pointer (some (sAddrK A2 2 z3)))), .agg #[vi ((getd ((0, 0) : (Int × Int)) r6 z3).1), vi ((getd ((0, 0) : (Int × Int)) r6 z3).2)]⟩] [some (.pointer (some (sAddrK A2 2 z3))), some (.agg #[vi ((getd ((0, 0) : (Int × Int)) r6 z3).1), vi ((getd ((0, 0) : (Int × Int)) r6 z3).2)])] [0, 1, 2, 5, 20, 21, 22, 25] [pl 0 (.func (.yield l1) #[] #[]), pl 1 (pa g1 0), pl 2 (pa g2 0), pl 5 (vi r1), pl 20 (.slice A2 r6.length c2), pl 21 (vi (r6.length : Int)), pl 22 (vi z3), pl 25 (.agg #[vi ((getd ((0, 0) : (Int × Int)) r6 z3).1), vi ((getd ((0, 0) : (Int × Int)) r6 z3).2)])] hF hS ?_ (fun a w hF hS => ?_)
      ·exact obs_cons (ob_ixK (m := r6) encK178 Und179 hi178 hs178 (hS.at_ 3 rfl).rdK rfl (fun _ => hp3)) <| obs_cons (ob_getK (n := r6.length) (m := r6) encK178 ((0, 0) : (Int × Int)) (by kernel_rfl) (by kernel_rfl) (fun _ hS => ⟨_, (hS.at_ 3 rfl).rdK⟩) (fun _ hS => rfl) (fun _ => hp3)) <| obs_nil
      refine at_do (d := 10) (s := vS (Instr.alloc 178 true (.tuple #[]))) (v := pa w.heap.size 0) (w' := w.alloc (.cells #[vi 0, vi 0] 178)) hF (by kernel_rfl) (by kernel_rfl) (by kernel_rfl) (fun a hF => ?_)
      have hS : Sep w0 B (w.alloc (.cells #[vi 0, vi 0] 178)) (blk w.heap.size 178 #[vi 0, vi 0] :: (stateH RS yield4 :: blk g1 22 #[.slice A1 p11.length c1] :: blk g2 3 #[vi p21] :: ownK 178 2 A2 r6.length c2 (List.flatMap enc178 r6) :: fs)) := hS.box 178 #[vi 0, vi 0]
      generalize w.heap.size = g3 at hF hS
      generalize w.alloc (.cells #[vi 0, vi 0] 178) = w at hS ⊢
      obtain ⟨w, hrun, hS⟩ := run_putA (P := Try.prog) (t := 178) (us := #[vi ((getd ((0, 0) : (Int × Int)) r6 z3).1), vi ((getd ((0, 0) : (Int × Int)) r6 z3).2)]) (o := 0) (hS.at_ 0 rfl) (by kernel_rfl) (all_one (by kernel_rfl)) (Nat.le_of_ble_eq_true (by kernel_rfl))
      refine at_s hF hrun ?_
      have hS : Sep w0 B w (blk g3 178 #[vi ((getd ((0, 0) : (Int × Int)) r6 z3).1), vi ((getd ((0, 0) : (Int × Int)) r6 z3).2)] :: stateH RS yield4 :: blk g1 22 #[.slice A1 p11.length c1] :: blk g2 3 #[vi p21] :: ownK 178 2 A2 r6.length c2 (List.flatMap enc178 r6) :: fs) := hS
      refine ae [0, 1, 2, 5, 10, 20, 21, 22] [pl 0 (.func (.yield l1) #[] #[]), pl 1 (pa g1 0), pl 2 (pa g2 0), pl 5 (vi r1), pl 10 (pa g3 0), pl 20 (.slice A2 r6.length c2), pl 21 (vi (r6.length : Int)), pl 22 (vi z3)] hF rfl (fun hF => ?_)
      refine then_n ?_
      obtain ⟨r7, hr7, hm⟩ := call_b hm
      refine rg [⟨false, [], vS (Instr.loadAt 3 (pa g2 0)), vi p21⟩, ⟨false, [], vS (Instr.loadAt 178 (pa g3 0)), .agg #[vi ((getd ((0, 0) : (Int × Int)) r6 z3).1), vi ((getd ((0, 0) : (Int × Int)) r6 z3).2)]⟩, ⟨false, [], callFunc 156 #[vi p21, .agg #[vi ((getd ((0, 0) : (Int × Int)) r6 z3).1), vi ((getd ((0, 0) : (Int × Int)) r6 z3).2)]], vi r7⟩] [some (vi p21), some (.agg #[vi ((getd ((0, 0) : (Int × Int)) r6 z3).1), vi ((getd ((0, 0) : (Int × Int)) r6 z3).2)]), some (vi r7), none] [0, 1, 2, 5, 10, 11, 20, 21, 22] [pl 0 (.func (.yield l1) #[] #[]), pl 1 (pa g1 0), pl 2 (pa g2 0), pl 5 (vi r1), pl 10 (pa g3 0), pl 11 (vi r7), pl 20 (.slice A2 r6.length c2), pl 21 (vi (r6.length : Int)), pl 22 (vi z3)] hF hS ?_ (fun a w hF hS => ?_)
      ·exact obs_cons (ob_load Agg3 (fun _ _ hS => (hS.at_ 3 rfl).cell rfl)) <| obs_cons (ob_loadA (cs := #[vi ((getd ((0, 0) : (Int × Int)) r6 z3).1), vi ((getd ((0, 0) : (Int × Int)) r6 z3).2)]) (by kernel_rfl) (by kernel_rfl) (fun _ _ hS => (hS.at_ 0 rfl).cellsAt 0 (by rfl))) <| obs_cons (ob_call Try.func156 (by kernel_rfl) rfl (fun _ _ hS => board_moved_w hr7 hS )) <| obs_nil
      refine wpIn_block ?_
      have hS := hS.pickN 5 [1, 2, 3, 0, 4] (by decide)
      refine wp_loop_model (S := (S × Int)) (R := (Fl S S)) (board_Reach_1_L3 yd1 p11 r1 r6 z3) (fun x => ((board_Reach_1_K3 z3) x).bind φ2) r (fun (x : (S × Int)) a w => Fr 76 [pl 0 (.func (.yield l1) #[] #[]), pl 1 (pa g1 0), pl 2 (pa g2 0), pl 5 (vi r1), pl 10 (pa g3 0), pl 11 (vi x.2), pl 20 (.slice A2 r6.length c2), pl 21 (vi (r6.length : Int)), pl 22 (vi z3)] a ∧ Sep w0 B w (stateH RS x.1 :: blk g1 22 #[.slice A1 p11.length c1] :: blk g2 3 #[vi p21] :: blk g3 178 #[vi ((getd ((0, 0) : (Int × Int)) r6 z3).1), vi ((getd ((0, 0) : (Int × Int)) r6 z3).2)] :: ownK 178 2 A2 r6.length c2 (List.flatMap enc178 r6) :: fs)) (assoc_b hm) ⟨hF.wk [0, 1, 2, 5, 10, 11, 20, 21, 22], hS⟩ ?_
      clear hF hS hm
      rintro nn3 ⟨yield5, to1⟩ a w ⟨hF, hS⟩ hm
      generalize hφ3 : stK (board_Reach_1_L3 yd1 p11 r1 r6 z3) nn3 (fun x => ((board_Reach_1_K3 z3) x).bind φ2) = φ3 at hm
      unfold board_Reach_1_L3 at hm
      dsimp only at hF hS hm
      refine seq_cut (fun a w => Fr 76 [pl 0 (.func (.yield l1) #[] #[]), pl 1 (pa g1 0), pl 2 (pa g2 0), pl 5 (vi r1), pl 10 (pa g3 0), pl 11 (vi to1), pl 20 (.slice A2 r6.length c2), pl 21 (vi (r6.length : Int)), pl 22 (vi z3)] a ∧ Sep w0 B w (stateH RS yield5 :: blk g1 22 #[.slice A1 p11.length c1] :: blk g2 3 #[vi p21] :: blk g3 178 #[vi ((getd ((0, 0) : (Int × Int)) r6 z3).1), vi ((getd ((0, 0) : (Int × Int)) r6 z3).2)] :: ownK 178 2 A2 r6.length c2 (List.flatMap enc178 r6) :: fs) ∧ ((board_Reach_1_J7 yd1 p11 r1 r6 z3 yield5 to1)).bind φ3 = some r) ?_ ?_
      ·rintro a w ⟨hF, hS, hm⟩
       unfold board_Reach_1_J7 at hm
       refine seq_cut (fun a w => ∃ (yield8 : S), Fr 76 [pl 0 (.func (.yield l1) #[] #[]), pl 1 (pa g1 0), pl 2 (pa g2 0), pl 5 (vi r1), pl 10 (pa g3 0), pl 11 (vi to1), pl 20 (.slice A2 r6.length c2), pl 21 (vi (r6.length : Int)), pl 22 (vi z3)] a ∧ Sep w0 B w (stateH RS yield8 :: blk g1 22 #[.slice A1 p11.length c1] :: blk g2 3 #[vi p21] :: blk g3 178 #[vi ((getd ((0, 0) : (Int × Int)) r6 z3).1), vi ((getd ((0, 0) : (Int × Int)) r6 z3).2)] :: ownK 178 2 A2 r6.length c2 (List.flatMap enc178 r6) :: fs) ∧ ((board_Reach_1_J8 r6 z3 to1) yield8).bind φ3 = some r) ?_ ?_
       ·rintro a w ⟨yield8, hF, hS, hm⟩
        unfold board_Reach_1_J8 at hm
        obtain ⟨r9, hr9, hm⟩ := call_b hm
        refine rg1 [⟨false, [], vS (Instr.loadAt 178 (pa g3 0)), .agg #[vi ((getd ((0, 0) : (Int × Int)) r6 z3).1), vi ((getd ((0, 0) : (Int × Int)) r6 z3).2)]⟩, ⟨false, [], callFunc 156 #[vi to1, .agg #[vi ((getd ((0, 0) : (Int × Int)) r6 z3).1), vi ((getd ((0, 0) : (Int × Int)) r6 z3).2)]], vi r9⟩] [none, some (.agg #[vi ((getd ((0, 0) : (Int × Int)) r6 z3).1), vi ((getd ((0, 0) : (Int × Int)) r6 z3).2)]), some (vi r9), none] [0, 1, 2, 5, 10, 11, 20, 21, 22] [pl 0 (.func (.yield l1) #[] #[]), pl 1 (pa g1 0), pl 2 (pa g2 0), pl 5 (vi r1), pl 10 (pa g3 0), pl 11 (vi r9), pl 20 (.slice A2 r6.length c2), pl 21 (vi (r6.length : Int)), pl 22 (vi z3)] hF hS ?_ (fun a w hF hS => ?_)
        ·exact obs_cons (ob_loadA (cs := #[vi ((getd ((0, 0) : (Int × Int)) r6 z3).1), vi ((getd ((0, 0) : (Int × Int)) r6 z3).2)]) (by kernel_rfl) (by kernel_rfl) (fun _ _ hS => (hS.at_ 3 rfl).cellsAt 0 (by rfl))) <| obs_cons (ob_call Try.func156 (by kernel_rfl) rfl (fun _ _ hS => board_moved_w hr9 hS )) <| obs_nil
        refine then_n ?_
        rw [← hφ3] at hm
        exact ⟨(yield8, r9), ⟨hF.wk [0, 1, 2, 5, 10, 11, 20, 21, 22], hS⟩, hm⟩
       ·refine wpIn_block ?_
        refine seq_cut (fun a w => ∃ (yield7 : S), Fr 76 [pl 0 (.func (.yield l1) #[] #[]), pl 1 (pa g1 0), pl 2 (pa g2 0), pl 5 (vi r1), pl 10 (pa g3 0), pl 11 (vi to1), pl 20 (.slice A2 r6.length c2), pl 21 (vi (r6.length : Int)), pl 22 (vi z3)] a ∧ Sep w0 B w (stateH RS yield7 :: blk g1 22 #[.slice A1 p11.length c1] :: blk g2 3 #[vi p21] :: blk g3 178 #[vi ((getd ((0, 0) : (Int × Int)) r6 z3).1), vi ((getd ((0, 0) : (Int × Int)) r6 z3).2)] :: ownK 178 2 A2 r6.length c2 (List.flatMap enc178 r6) :: fs) ∧ ((board_Reach_1_J9 p11 r1 r6 z3 to1) yield7).bind φ3 = some r) ?_ ?_
        ·rintro a w ⟨yield7, hF, hS, hm⟩
         unfold board_Reach_1_J9 at hm
         obtain ⟨hp4, hm⟩ := asrt_b hm
         refine rg [⟨false, [], vS (Instr.loadAt 22 (pa g1 0)), .slice A1 p11.length c1⟩, ⟨true, [], vS (Instr.indexAt 22 (.slice A1 p11.length c1) (vi to1)), .pointer (some (sAddr A1 to1))⟩, ⟨false, [], vS (Instr.loadAt 3 (.pointer (some (sAddr A1 to1)))), vi (geti p11 to1)⟩] [some (.slice A1 p11.length c1), none, some (.pointer (some (sAddr A1 to1))), some (vi (geti p11 to1)), none, none, none, none, none, none, none, none, none] [0, 1, 2, 5, 10, 11, 20, 21, 22, 50] [pl 0 (.func (.yield l1) #[] #[]), pl 1 (pa g1 0), pl 2 (pa g2 0), pl 5 (vi r1), pl 10 (pa g3 0), pl 11 (vi to1), pl 20 (.slice A2 r6.length c2), pl 21 (vi (r6.length : Int)), pl 22 (vi z3), pl 50 (.bool ((((geti p11 to1) != 0) || (r1 == 2)) || (r1 == 6)))] hF hS ?_ (fun a w hF hS => ?_)
         ·exact obs_cons (ob_load Agg22 (fun _ _ hS => (hS.at_ 1 rfl).cell rfl)) <| obs_cons (ob_ix1 (f := (Value.int .i64)) (m := p11) Und22 hi3 hs3 (hr_p11 _ (hS.dropN 5)) rfl (fun _ => hp4)) <| obs_cons (ob_get1 (n := p11.length) (m := p11) (Value.int .i64) (0 : Int) Agg3 (fun _ hS => ⟨_, (hr_p11 _ (hS.dropN 5))⟩) (fun _ hS => rfl) (fun _ => hp4)) <| obs_nil
         refine ce (t := 50) (b := (((geti p11 to1) != 0) || (r1 == 2)) || (r1 == 6)) hF (fun hb => ?_) (fun hb => ?_)
         ·replace hm := if_t hm hb
          refine wpIn_exit ?_
          refine block_o rfl (then_e (then_e (block_e (block_n (then_n ?_)))))
          have hS := hS.pickN 5 [0, 1, 2, 4] (by decide)
          rw [← hφ3] at hm
          replace hm := done_b hm
          unfold board_Reach_1_K3 at hm
          try dsimp only at hm
          have hm : ((board_Reach_1_J6 z3) yield7).bind φ2 = some r := hm
          exact ⟨yield7, hF.wk [0, 1, 2, 5, 20, 21, 22], hS, hm⟩
         ·replace hm := if_f hm hb
          refine wpIn_skip ?_
          refine block_n ?_
          refine then_n ?_
          exact ⟨yield7, hF.wk [0, 1, 2, 5, 10, 11, 20, 21, 22], hS, hm⟩
        ·refine seqR ?_
         obtain ⟨r8, hr8, hm⟩ := call_b hm
         refine ar 2 [] [] [0, 1, 2, 5, 10, 11, 20, 21, 22, 34, 35] [pl 0 (.func (.yield l1) #[] #[]), pl 1 (pa g1 0), pl 2 (pa g2 0), pl 5 (vi r1), pl 10 (pa g3 0), pl 11 (vi to1), pl 20 (.slice A2 r6.length c2), pl 21 (vi (r6.length : Int)), pl 22 (vi z3), pl 34 (.func (.yield l1) #[] #[]), pl 35 (vi to1)] hF hS obs_nil (fun a w hF hS => ?_)
         have hS := hS.pickN 5 [3, 4, 0, 1, 2] (by decide)
         refine at_yield (d := 36) hF (by kernel_rfl) (by kernel_rfl) (hY [blk g3 178 #[vi ((getd ((0, 0) : (Int × Int)) r6 z3).1), vi ((getd ((0, 0) : (Int × Int)) r6 z3).2)], ownK 178 2 A2 r6.length c2 (List.flatMap enc178 r6)] to1 yield5 _ _ hr8 (Sep.rot (us := [blk g3 178 #[vi ((getd ((0, 0) : (Int × Int)) r6 z3).1), vi ((getd ((0, 0) : (Int × Int)) r6 z3).2)], ownK 178 2 A2 r6.length c2 (List.flatMap enc178 r6)]) hS)) (fun v a w hR hF => ?_)
         obtain ⟨rfl, hS⟩ := hR
         have hS : Sep w0 B w (blk g3 178 #[vi ((getd ((0, 0) : (Int × Int)) r6 z3).1), vi ((getd ((0, 0) : (Int × Int)) r6 z3).2)] :: ownK 178 2 A2 r6.length c2 (List.flatMap enc178 r6) :: stateH RS r8.1 :: blk g1 22 #[.slice A1 p11.length c1] :: blk g2 3 #[vi p21] :: fs) := Sep.unrot (us := [blk g3 178 #[vi ((getd ((0, 0) : (Int × Int)) r6 z3).1), vi ((getd ((0, 0) : (Int × Int)) r6 z3).2)], ownK 178 2 A2 r6.length c2 (List.flatMap enc178 r6)]) hS
         refine ar 1 [] [] [0, 1, 2, 5, 10, 11, 20, 21, 22, 37] [pl 0 (.func (.yield l1) #[] #[]), pl 1 (pa g1 0), pl 2 (pa g2 0), pl 5 (vi r1), pl 10 (pa g3 0), pl 11 (vi to1), pl 20 (.slice A2 r6.length c2), pl 21 (vi (r6.length : Int)), pl 22 (vi z3), pl 37 (.bool (!r8.2))] hF hS obs_nil (fun a w hF hS => ?_)
         refine ae [0, 1, 2, 5, 10, 11, 20, 21, 22, 37] [pl 0 (.func (.yield l1) #[] #[]), pl 1 (pa g1 0), pl 2 (pa g2 0), pl 5 (vi r1), pl 10 (pa g3 0), pl 11 (vi to1), pl 20 (.slice A2 r6.length c2), pl 21 (vi (r6.length : Int)), pl 22 (vi z3), pl 37 (.bool (!r8.2))] hF rfl (fun hF => ?_)
         refine then_n ?_
         refine ce (t := 37) (b := !r8.2) hF (fun hb => ?_) (fun hb => ?_)
         ·replace hm := if_t hm hb
          refine wpIn_ret ?_
          refine then_r (block_r (then_r (then_r (block_r (block_r (then_r (then_r (block_r (block_r (then_r ?_))))))))))
          rw [← hφ3] at hm
          replace hm := done_b hm
          unfold board_Reach_1_K3 at hm
          try dsimp only at hm
          rw [← hφ2] at hm
          replace hm := done_b hm
          unfold board_Reach_1_K2 at hm
          try dsimp only at hm
          have hS := hS.pickN 5 [2, 3, 4] (by decide)
          have hm : some r8.1 = some r := hm
          obtain rfl := Option.some.inj hm
          exact retV (rs := []) (vs := []) hF rfl (rv_nil) rfl ⟨_, rfl, rfl, hS⟩
         ·replace hm := if_f hm hb
          refine wpIn_skip ?_
          refine then_n ?_
          have hS := hS.pickN 5 [2, 3, 4, 0, 1] (by decide)
          exact ⟨r8.1, hF.wk [0, 1, 2, 5, 10, 11, 20, 21, 22], hS, hm⟩
      ·refine rg [] [] [0, 1, 2, 5, 10, 11, 20, 21, 22, 30] [pl 0 (.func (.yield l1) #[] #[]), pl 1 (pa g1 0), pl 2 (pa g2 0), pl 5 (vi r1), pl 10 (pa g3 0), pl 11 (vi to1), pl 20 (.slice A2 r6.length c2), pl 21 (vi (r6.length : Int)), pl 22 (vi z3), pl 30 (.bool (decide ((0 : Int) ≤ to1)))] hF hS obs_nil (fun a w hF hS => ?_)
       refine ce (t := 30) (b := decide ((0 : Int) ≤ to1)) hF (fun hb => ?_) (fun hb => ?_)
       ·replace hm := if_t hm hb
        refine wpIn_skip ?_
        refine then_n ?_
        exact ⟨hF.wk [0, 1, 2, 5, 10, 11, 20, 21, 22], hS, hm⟩
       ·replace hm := if_f hm hb
        refine wpIn_exit ?_
        refine then_e (then_e (block_e (block_n (then_n ?_))))
        have hS := hS.pickN 5 [0, 1, 2, 4] (by decide)
        rw [← hφ3] at hm
        replace hm := done_b hm
        unfold board_Reach_1_K3 at hm
        try dsimp only at hm
        have hm : ((board_Reach_1_J6 z3) yield5).bind φ2 = some r := hm
        exact ⟨yield5, hF.wk [0, 1, 2, 5, 20, 21, 22], hS, hm⟩
    ·refine ce (t := 23) (b := decide (z3 < (r6.length : Int))) hF (fun hb => ?_) (fun hb => ?_)
     ·replace hm := if_t hm hb
      refine wpIn_skip ?_
      refine then_n ?_
      exact ⟨hF.wk [0, 1, 2, 5, 20, 21, 22], hS, hm⟩
     ·replace hm := if_f hm hb
      refine wpIn_exit ?_
      refine then_e (then_e (block_e (block_n (then_n ?_))))
      have hS := hS.pickN 4 [0, 1, 2] (by decide)
      rw [← hφ2] at hm
      replace hm := done_b hm
      unfold board_Reach_1_K2 at hm
      try dsimp only at hm
      have hm : (board_Reach_1_J1 yield4).bind some = some r := hm
      exact ⟨yield4, hF.wk [], hS, hm⟩

def board_Attackers_J3  (z1 : Int) (l3 : List Int) : Option (St (List Int × Int) (List Int)) :=
 some (.next (l3, (w64 (z1 + 1))))

def board_Attackers_K2  (z1 : Int) : (St (List Int) (List Int)) → Option (St (List Int × Int) (List Int)) :=
 fun (x : St (List Int) (List Int)) => match x with | .next l4 => (board_Attackers_J3 z1) l4 | .done l4 => (board_Attackers_J3 z1) l4

def board_Attackers_L2  (at1 z1 : Int) : (Int × (List Int)) → Option (St (List Int) (List Int)) :=
 fun (x : Int × (List Int)) => match x with | (x1, l4) => if (x1 == at1) then (asrt ((l4.length : Int) + 1 ≤ bigN) <| some (.done (l4 ++ ([z1] : List Int)))) else (some (.next l4))

def board_Attackers_J4  (places1 : List Int) (at1 : Int) (l1 : List Int) (z1 : Int) : Option (St (List Int × Int) (List Int)) :=
 (board_Reach_m places1 z1).bind fun r2 => (board_Reach_1_m (ydOf (fun x s => (board_Attackers_L2 at1 z1) (x, s))) (.next l1) places1 r2).bind (board_Attackers_K2 z1)

def board_Attackers_J2  (places1 : List Int) (at1 by1 : Int) (l1 : List Int) (z1 : Int) : Option (St (List Int × Int) (List Int)) :=
 asrt (0 ≤ z1 ∧ z1 < (places1.length : Int)) <| (board_Side_m (geti places1 z1)).bind fun r1 => if (r1 != by1) then ((board_Attackers_J3 z1) l1) else ((board_Attackers_J4 places1 at1 l1 z1))

def board_Attackers_J1  (l2 : List Int) : Option (List Int) :=
 some l2

def board_Attackers_K1  : (List Int) → Option (List Int) :=
 fun (x : (List Int)) => match x with | l2 => board_Attackers_J1 l2

def board_Attackers_L1  (places1 : List Int) (at1 by1 : Int) : (List Int × Int) → Option (St (List Int × Int) (List Int)) :=
 fun (x : (List Int × Int)) => match x with | (l1, z1) => if (decide (z1 < (places1.length : Int))) then ((board_Attackers_J2 places1 at1 by1 l1 z1)) else (some (.done l1))

def board_Attackers_m  (places1 : List Int) (at1 by1 : Int) : Option (List Int) :=
 (loop (board_Attackers_L1 places1 at1 by1) (([] : List Int), 0)).bind board_Attackers_K1

theorem board_Attackers_w  {A1 : Option Addr} {c1 n1 : Nat} {places1 : List Int} {at1 by1 : Int} {r : (List Int)} {w0 w : World} {B : Nat} {fs : List HP} (hm : board_Attackers_m places1 at1 by1 = some r) (hS : Sep w0 B w (fs)) (hr_places1 : RdF w0 B fs A1 (vI places1)) (_hc_places1 : places1.length ≤ c1) (_hn_places1 : n1 = places1.length) :
  Calls Try.prog 136 #[.slice A1 n1 c1, vi at1, vi by1] w fun e w' => ∃ v, e = .returned v ∧ ∃ (A7 : Option Addr) (c7 : Nat), v = .slice A7 r.length c7 ∧ Sep w0 B w' (own 3 (.slice A7 r.length c7) (vI r) :: fs) := by
 obtain ⟨i3, hi3, hz3, hs3, hb3⟩ := info_parts Info3
 obtain ⟨i22, hi22, hz22, hs22, hb22⟩ := info_parts Info22
 obtain rfl := _hn_places1
 unfold board_Attackers_m at hm
 replace hm := start_b hm
 refine enter (l := [.slice A1 places1.length c1, vi at1, vi by1]) (n := 35) Try.func136 rfl rfl (by simp) (fun a hF => ?_)
 have hS := hS.defs0
 refine seqR ?_
 refine at_do (d := 4) (s := vS (Instr.box 3 (vi at1))) (v := pa w.heap.size 0) (w' := w.alloc (.cells #[vi at1] 3)) hF (by kernel_rfl) (by kernel_rfl) (by kernel_rfl) (fun a hF => ?_)
 have hS : Sep w0 B (w.alloc (.cells #[vi at1] 3)) (blk w.heap.size 3 #[vi at1] :: (defsH ([]) :: fs)) := hS.box 3 #[vi at1]
 generalize w.heap.size = g1 at hF hS
 generalize w.alloc (.cells #[vi at1] 3) = w at hS ⊢
 refine ar 1 [] [] [0, 2, 4] [pl 0 (.slice A1 places1.length c1), pl 2 (vi by1), pl 4 (pa g1 0)] hF hS obs_nil (fun a w hF hS => ?_)
 refine ae [0, 2, 4] [pl 0 (.slice A1 places1.length c1), pl 2 (vi by1), pl 4 (pa g1 0)] hF rfl (fun hF => ?_)
 refine then_n (seqR ?_)
 refine at_do (d := 7) (s := vS (Instr.alloc 22 true (.tuple #[]))) (v := pa w.heap.size 0) (w' := w.alloc (.cells #[.slice none 0 0] 22)) hF (by kernel_rfl) (by kernel_rfl) (by kernel_rfl) (fun a hF => ?_)
 have hS : Sep w0 B (w.alloc (.cells #[.slice none 0 0] 22)) (blk w.heap.size 22 #[.slice none 0 0] :: (blk g1 3 #[vi at1] :: defsH ([]) :: fs)) := hS.box 22 #[.slice none 0 0]
 generalize w.heap.size = g2 at hF hS
 generalize w.alloc (.cells #[.slice none 0 0] 22) = w at hS ⊢
 refine ae [0, 2, 4, 7] [pl 0 (.slice A1 places1.length c1), pl 2 (vi by1), pl 4 (pa g1 0), pl 7 (pa g2 0)] hF rfl (fun hF => ?_)
 refine then_n ?_
 refine seq_cut (fun a w => ∃ (l2 : List Int) (A3 : Option Addr) (c3 : Nat) (Ds3 : List Nat), FrD Ds3 35 [pl 7 (pa g2 0)] a ∧ Sep w0 B w (blk g2 22 #[.slice A3 l2.length c3] :: own 3 (.slice A3 l2.length c3) (vI l2) :: defsH Ds3 :: fs) ∧ (board_Attackers_J1 l2).bind some = some r) ?_ ?_
 ·rintro a w ⟨l2, A3, c3, Ds3, hF, hS, hm⟩
  unfold board_Attackers_J1 at hm
  refine rg [⟨false, [], vS (Instr.loadAt 22 (pa g2 0)), .slice A3 l2.length c3⟩] [some (.slice A3 l2.length c3), none] [6] [pl 6 (.slice A3 l2.length c3)] hF hS ?_ (fun a w hF hS => ?_)
  ·exact obs_cons (ob_load Agg22 (fun _ _ hS => (hS.at_ 0 rfl).cell rfl)) <| obs_nil
  refine wpIn_ret ?_
  have hS := hS.pickN 3 [2, 0, 1] (by decide)
  have hm : some l2 = some r := hm
  obtain rfl := Option.some.inj hm
  exact retD (rs := [.tmp 6]) (vs := [.slice A3 l2.length c3]) hF hS rfl (fun w hS => by exact rv_t (by kernel_rfl) <| rv_nil) rfl (fun w hS => ⟨_, rfl, A3, c3, rfl, hS.pickN 2 [1] (by decide)⟩)
 ·refine rg [] [] [0, 2, 4, 7, 11, 12, 13] [pl 0 (.slice A1 places1.length c1), pl 2 (vi by1), pl 4 (pa g1 0), pl 7 (pa g2 0), pl 11 (.slice A1 places1.length c1), pl 12 (vi (places1.length : Int)), pl 13 (vi 0)] hF hS obs_nil (fun a w hF hS => ?_)
  refine wpIn_block ?_
  have hS : Sep w0 B w (own 3 (.slice none 0 0) (vI ([] : List Int)) :: blk g2 22 #[.slice none 0 0] :: blk g1 3 #[vi at1] :: defsH ([]) :: fs) := hS.nil 3
  have hS : Sep w0 B w (own 3 (.slice none 0 0) (vI ([] : List Int)) :: blk g2 22 #[.slice none 0 0] :: blk g1 3 #[vi at1] :: defsH ([]) :: fs) := hS
  have hl1 := (hS.at_ 0 rfl).len1
  have hS := (hS.at_ 0 rfl).reN hl1
  have hS := (hS.at_ 1 rfl).reBlk (congrArg (fun k9 => (#[.slice none k9 0] : Array Value)) hl1)
  have hS : Sep w0 B w (own 3 (.slice none (([] : List Int).length) 0) (vI ([] : List Int)) :: blk g2 22 #[.slice none (([] : List Int).length) 0] :: blk g1 3 #[vi at1] :: defsH ([]) :: fs) := hS
  have hS := hS.pickN 4 [2, 1, 0, 3] (by decide)
  refine wp_loop_model (S := (List Int × Int)) (R := (List Int)) (board_Attackers_L1 places1 at1 by1) (fun x => (board_Attackers_K1 x).bind some) r (fun (x : (List Int × Int)) a w => ∃ (A2 : Option Addr) (c2 : Nat) (Ds1 : List Nat), FrD Ds1 35 [pl 0 (.slice A1 places1.length c1), pl 2 (vi by1), pl 4 (pa g1 0), pl 7 (pa g2 0), pl 11 (.slice A1 places1.length c1), pl 12 (vi (places1.length : Int)), pl 13 (vi x.2)] a ∧ Sep w0 B w (blk g1 3 #[vi at1] :: blk g2 22 #[.slice A2 x.1.length c2] :: own 3 (.slice A2 x.1.length c2) (vI x.1) :: defsH Ds1 :: fs)) (assoc_b hm) ⟨none, 0, ([]), hF.wk [0, 2, 4, 7, 11, 12, 13], hS⟩ ?_
  clear hF hS hm
  rintro nn1 ⟨l1, z1⟩ a w ⟨A2, c2, Ds1, hF, hS⟩ hm
  generalize hφ1 : stK (board_Attackers_L1 places1 at1 by1) nn1 (fun x => (board_Attackers_K1 x).bind some) = φ1 at hm
  unfold board_Attackers_L1 at hm
  dsimp only at hF hS hm
  refine rg [] [] [0, 2, 4, 7, 11, 12, 13, 14] [pl 0 (.slice A1 places1.length c1), pl 2 (vi by1), pl 4 (pa g1 0), pl 7 (pa g2 0), pl 11 (.slice A1 places1.length c1), pl 12 (vi (places1.length : Int)), pl 13 (vi z1), pl 14 (.bool (decide (z1 < (places1.length : Int))))] hF hS obs_nil (fun a w hF hS => ?_)
  refine seq_cut (fun a w => ∃ (Ds2 : List Nat), FrD Ds2 35 [pl 0 (.slice A1 places1.length c1), pl 2 (vi by1), pl 4 (pa g1 0), pl 7 (pa g2 0), pl 11 (.slice A1 places1.length c1), pl 12 (vi (places1.length : Int)), pl 13 (vi z1)] a ∧ Sep w0 B w (blk g1 3 #[vi at1] :: blk g2 22 #[.slice A2 l1.length c2] :: own 3 (.slice A2 l1.length c2) (vI l1) :: defsH Ds2 :: fs) ∧ ((board_Attackers_J2 places1 at1 by1 l1 z1)).bind φ1 = some r) ?_ ?_
  ·rintro a w ⟨Ds2, hF, hS, hm⟩
   unfold board_Attackers_J2 at hm
   refine seq_cut (fun a w => ∃ (l3 : List Int) (A4 : Option Addr) (c4 : Nat) (Ds4 : List Nat), FrD Ds4 35 [pl 0 (.slice A1 places1.length c1), pl 2 (vi by1), pl 4 (pa g1 0), pl 7 (pa g2 0), pl 11 (.slice A1 places1.length c1), pl 12 (vi (places1.length : Int)), pl 13 (vi z1)] a ∧ Sep w0 B w (blk g1 3 #[vi at1] :: blk g2 22 #[.slice A4 l3.length c4] :: own 3 (.slice A4 l3.length c4) (vI l3) :: defsH Ds4 :: fs) ∧ ((board_Attackers_J3 z1) l3).bind φ1 = some r) ?_ ?_
   ·rintro a w ⟨l3, A4, c4, Ds4, hF, hS, hm⟩
    unfold board_Attackers_J3 at hm
    refine rg1 [] [] [0, 2, 4, 7, 11, 12, 13] [pl 0 (.slice A1 places1.length c1), pl 2 (vi by1), pl 4 (pa g1 0), pl 7 (pa g2 0), pl 11 (.slice A1 places1.length c1), pl 12 (vi (places1.length : Int)), pl 13 (vi (w64 (z1 + 1)))] hF hS obs_nil (fun a w hF hS => ?_)
    refine then_n ?_
    rw [← hφ1] at hm
    exact ⟨(l3, (w64 (z1 + 1))), ⟨A4, c4, Ds4, hF.wk [0, 2, 4, 7, 11, 12, 13], hS⟩, hm⟩
   ·refine wpIn_block ?_
    refine seqR ?_
    obtain ⟨hp1, hm⟩ := asrt_b hm
    refine ar 3 [⟨true, [], vS (Instr.indexAt 22 (.slice A1 places1.length c1) (vi z1)), .pointer (some (sAddr A1 z1))⟩, ⟨false, [], vS (Instr.loadAt 3 (.pointer (some (sAddr A1 z1)))), vi (geti places1 z1)⟩] [none, some (.pointer (some (sAddr A1 z1))), some (vi (geti places1 z1))] [0, 2, 4, 7, 11, 12, 13, 15, 17] [pl 0 (.slice A1 places1.length c1), pl 2 (vi by1), pl 4 (pa g1 0), pl 7 (pa g2 0), pl 11 (.slice A1 places1.length c1), pl 12 (vi (places1.length : Int)), pl 13 (vi z1), pl 15 (vi z1), pl 17 (vi (geti places1 z1))] hF hS ?_ (fun a w hF hS => ?_)
    ·exact obs_cons (ob_ix1 (f := (Value.int .i64)) (m := places1) Und22 hi3 hs3 (hr_places1 _ (hS.dropN 4)) rfl (fun _ => hp1)) <| obs_cons (ob_get1 (n := places1.length) (m := places1) (Value.int .i64) (0 : Int) Agg3 (fun _ hS => ⟨_, (hr_places1 _ (hS.dropN 4))⟩) (fun _ hS => rfl) (fun _ => hp1)) <| obs_nil
    refine at_do (d := 8) (s := vS (Instr.alloc 3 true (.tuple #[]))) (v := pa w.heap.size 0) (w' := w.alloc (.cells #[vi 0] 3)) hF (by kernel_rfl) (by kernel_rfl) (by kernel_rfl) (fun a hF => ?_)
    have hS : Sep w0 B (w.alloc (.cells #[vi 0] 3)) (blk w.heap.size 3 #[vi 0] :: (blk g1 3 #[vi at1] :: blk g2 22 #[.slice A2 l1.length c2] :: own 3 (.slice A2 l1.length c2) (vI l1) :: defsH Ds2 :: fs)) := hS.box 3 #[vi 0]
    generalize w.heap.size = g3 at hF hS
    generalize w.alloc (.cells #[vi 0] 3) = w at hS ⊢
    obtain ⟨w, hrun, hS⟩ := run_put (P := Try.prog) (t := 3) (u := vi z1) (i := 0) (hS.at_ 0 rfl) hi3 hs3 rfl (Nat.lt_of_lt_of_eq (Nat.lt_of_succ_le (Nat.le_of_ble_eq_true (by kernel_rfl))) rfl)
    refine at_s hF hrun ?_
    have hS : Sep w0 B w (blk g3 3 #[vi z1] :: blk g1 3 #[vi at1] :: blk g2 22 #[.slice A2 l1.length c2] :: own 3 (.slice A2 l1.length c2) (vI l1) :: defsH Ds2 :: fs) := hS
    refine ar 1 [] [] [0, 2, 4, 7, 8, 9, 11, 12, 13] [pl 0 (.slice A1 places1.length c1), pl 2 (vi by1), pl 4 (pa g1 0), pl 7 (pa g2 0), pl 8 (pa g3 0), pl 9 (vi (geti places1 z1)), pl 11 (.slice A1 places1.length c1), pl 12 (vi (places1.length : Int)), pl 13 (vi z1)] hF hS obs_nil (fun a w hF hS => ?_)
    refine ae [0, 2, 4, 7, 8, 9, 11, 12, 13] [pl 0 (.slice A1 places1.length c1), pl 2 (vi by1), pl 4 (pa g1 0), pl 7 (pa g2 0), pl 8 (pa g3 0), pl 9 (vi (geti places1 z1)), pl 11 (.slice A1 places1.length c1), pl 12 (vi (places1.length : Int)), pl 13 (vi z1)] hF rfl (fun hF => ?_)
    refine then_n ?_
    refine seq_cut (fun a w => ∃ (Ds5 : List Nat), FrD Ds5 35 [pl 0 (.slice A1 places1.length c1), pl 2 (vi by1), pl 4 (pa g1 0), pl 7 (pa g2 0), pl 8 (pa g3 0), pl 11 (.slice A1 places1.length c1), pl 12 (vi (places1.length : Int)), pl 13 (vi z1)] a ∧ Sep w0 B w (blk g1 3 #[vi at1] :: blk g2 22 #[.slice A2 l1.length c2] :: own 3 (.slice A2 l1.length c2) (vI l1) :: blk g3 3 #[vi z1] :: defsH Ds5 :: fs) ∧ ((board_Attackers_J4 places1 at1 l1 z1)).bind φ1 = some r) ?_ ?_
    ·rintro a w ⟨Ds5, hF, hS, hm⟩
     unfold board_Attackers_J4 at hm
     refine seqR ?_
     obtain ⟨r2, hr2, hm⟩ := call_b hm
     refine ar 2 [⟨false, [], vS (Instr.loadAt 3 (pa g3 0)), vi z1⟩] [none, some (vi z1)] [0, 2, 4, 7, 8, 11, 12, 13, 22, 23] [pl 0 (.slice A1 places1.length c1), pl 2 (vi by1), pl 4 (pa g1 0), pl 7 (pa g2 0), pl 8 (pa g3 0), pl 11 (.slice A1 places1.length c1), pl 12 (vi (places1.length : Int)), pl 13 (vi z1), pl 22 (.slice A1 places1.length c1), pl 23 (vi z1)] hF hS ?_ (fun a w hF hS => ?_)
     ·exact obs_cons (ob_load Agg3 (fun _ _ hS => (hS.at_ 3 rfl).cell rfl)) <| obs_nil
     refine at_call (f := 142) (args := #[.slice A1 places1.length c1, vi z1]) (d := 24) hF (by kernel_rfl) (by kernel_rfl) Try.func142 (by kernel_rfl) rfl (board_Reach_w hr2 hS (fun _ hS => (hr_places1 _ (hS.dropN 5))) _hc_places1 rfl) (fun v a w hR hF => ?_)
     clear hS
     obtain ⟨g4, g5, rfl, hS⟩ := hR
     have hS : Sep w0 B w (blk g4 22 #[.slice A1 places1.length c1] :: blk g5 3 #[vi r2] :: blk g1 3 #[vi at1] :: blk g2 22 #[.slice A2 l1.length c2] :: own 3 (.slice A2 l1.length c2) (vI l1) :: blk g3 3 #[vi z1] :: defsH Ds5 :: fs) := hS
     refine ae [0, 2, 4, 7, 8, 11, 12, 13, 24] [pl 0 (.slice A1 places1.length c1), pl 2 (vi by1), pl 4 (pa g1 0), pl 7 (pa g2 0), pl 8 (pa g3 0), pl 11 (.slice A1 places1.length c1), pl 12 (vi (places1.length : Int)), pl 13 (vi z1), pl 24 (.func (.func 155) #[] #[pa g4 0, pa g5 0])] hF rfl (fun hF => ?_)
     refine then_n ?_
     refine wpIn_block ?_
     have hS := hS.pickN 7 [3, 4, 6, 2, 5, 0, 1] (by decide)
     obtain ⟨y1, hy1, hm⟩ := call_b hm
     refine range_out (ρ := [pl 0 (.slice A1 places1.length c1), pl 2 (vi by1), pl 4 (pa g1 0), pl 7 (pa g2 0), pl 8 (pa g3 0), pl 11 (.slice A1 places1.length c1), pl 12 (vi (places1.length : Int)), pl 13 (vi z1), pl 24 (.func (.func 155) #[] #[pa g4 0, pa g5 0])]) (lb := [pa g4 0, pa g5 0]) (y := y1) (enc := (fun (x : Int) => #[vi x])) (qs := [blk g2 22 #[.slice A2 l1.length c2], own 3 (.slice A2 l1.length c2) (vI l1)]) (fun (x : Int) => [(25, vi x)]) (fun (s : (List Int)) qs => ∃ (A5 : Option Addr) (c5 : Nat), qs = [blk g2 22 #[.slice A5 s.length c5], own 3 (.slice A5 s.length c5) (vI s)]) (fun (x : (List Int)) c qs => c = .exit 2 ∧ (fun (s : (List Int)) qs => ∃ (A5 : Option Addr) (c5 : Nat), qs = [blk g2 22 #[.slice A5 s.length c5], own 3 (.slice A5 s.length c5) (vI s)]) x qs) (fun x s => (board_Attackers_L2 at1 z1) (x, s)) l1 (hF.wk [0, 2, 4, 7, 8, 11, 12, 13, 24]) hS (by kernel_rfl) Try.func155 (by kernel_rfl) rfl (by kernel_rfl) (by intro x; simp) (fun _ => rfl) (fun x p hp => ?_) ⟨A2, c2, rfl⟩ ?_ ?_ ?_ ?_
     ·simp only [List.mem_cons, List.not_mem_nil, or_false] at hp
      rcases hp with rfl <;> (dsimp only; decide)
     ·intro lr1 D1 RS w hY hS
      exact Calls.mono (board_Reach_1_w hy1 (hS.pickN 6 [0, 4, 5, 1, 2, 3] (by decide)) (YieldC.perm (blk g4 22 #[.slice A1 places1.length c1] :: blk g5 3 #[vi r2] :: defsH (D1 :: Ds5) :: blk g1 3 #[vi at1] :: blk g3 3 #[vi z1] :: fs) hY (fun hS => hS.pickN 6 [0, 3, 4, 5, 1, 2] (by decide)) (fun hS => hS.pickN 6 [0, 4, 5, 1, 2, 3] (by decide))) (fun _ hS => (hr_places1 _ (hS.dropN 3))) _hc_places1 rfl) (fun e w' h => by obtain ⟨_, rfl, _, hS⟩ := h; exact hS.pickN 6 [0, 3, 4, 5, 1, 2] (by decide))
     ·rintro lr1 D1 rr1 x1 l4 r qs us1 a w hrr1 hm hI hF hS
      obtain ⟨A5, c5, rfl⟩ := hI
      replace hm := start_b hm
      unfold board_Attackers_L2 at hm
      dsimp only at hm hF hS
      have hF : Fr 35 [pl 0 (.slice A1 places1.length c1), pl 2 (vi by1), pl 4 (pa g1 0), pl 7 (pa g2 0), pl 8 (pa g3 0), pl 11 (.slice A1 places1.length c1), pl 12 (vi (places1.length : Int)), pl 13 (vi z1), pl 24 (.func (.func 155) #[] #[pa g4 0, pa g5 0]), pl 25 (vi x1)] a := hF.wk [0, 2, 4, 7, 8, 11, 12, 13, 24, 25]
      have hS : Sep w0 B w (recH lr1 rr1 :: blk g2 22 #[.slice A5 l4.length c5] :: own 3 (.slice A5 l4.length c5) (vI l4) :: defsH (D1 :: Ds5) :: blk g1 3 #[vi at1] :: blk g3 3 #[vi z1] :: blk g4 22 #[.slice A1 places1.length c1] :: blk g5 3 #[vi r2] :: (fs ++ us1)) := hS
      refine rg1 [] [] [4, 7, 8, 10] [pl 4 (pa g1 0), pl 7 (pa g2 0), pl 8 (pa g3 0), pl 10 (vi x1)] hF hS obs_nil (fun a w hF hS => ?_)
      refine then_n ?_
      refine begin_r hS hrr1 (fun w hS => ?_)
      have hS : Sep w0 B w (recH lr1 { rr1 with state := .busy } :: blk g2 22 #[.slice A5 l4.length c5] :: own 3 (.slice A5 l4.length c5) (vI l4) :: defsH (D1 :: Ds5) :: blk g1 3 #[vi at1] :: blk g3 3 #[vi z1] :: blk g4 22 #[.slice A1 places1.length c1] :: blk g5 3 #[vi r2] :: (fs ++ us1)) := hS
      refine wpIn_block ?_
      refine rg [⟨false, [], vS (Instr.loadAt 3 (pa g1 0)), vi at1⟩] [none, some (vi at1), none] [7, 8, 28] [pl 7 (pa g2 0), pl 8 (pa g3 0), pl 28 (.bool (x1 == at1))] hF hS ?_ (fun a w hF hS => ?_)
      ·exact obs_cons (ob_load Agg3 (fun _ _ hS => (hS.at_ 4 rfl).cell rfl)) <| obs_nil
      refine ce (t := 28) (b := (x1 == at1)) hF (fun hb => ?_) (fun hb => ?_)
      ·replace hm := if_t hm hb
       refine seqR ?_
       obtain ⟨hp2, hm⟩ := asrt_b hm
       refine ar 2 [⟨false, [], vS (Instr.loadAt 22 (pa g2 0)), .slice A5 l4.length c5⟩, ⟨false, [], vS (Instr.loadAt 3 (pa g3 0)), vi z1⟩] [some (.slice A5 l4.length c5), some (vi z1)] [7, 29, 30] [pl 7 (pa g2 0), pl 29 (.slice A5 l4.length c5), pl 30 (vi z1)] hF hS ?_ (fun a w hF hS => ?_)
       ·exact obs_cons (ob_load Agg22 (fun _ _ hS => (hS.at_ 1 rfl).cell rfl)) <| obs_cons (ob_load Agg3 (fun _ _ hS => (hS.at_ 5 rfl).cell rfl)) <| obs_nil
       refine at_do (d := 31) (s := vS (Instr.buildSlice 22 1 #[(0, vi z1)])) (v := .slice (some ⟨w.heap.size, 0, none⟩) 1 1) (w' := w.alloc (.cells #[vi z1] 3)) hF (by kernel_rfl) (by kernel_rfl) (by kernel_rfl) (fun a hF => ?_)
       have hS : Sep w0 B (w.alloc (.cells #[vi z1] 3)) (own 3 (.slice (some (⟨w.heap.size, 0, none⟩ : Addr)) 1 1) (vI ([z1] : List Int)) :: (recH lr1 { rr1 with state := .busy } :: blk g2 22 #[.slice A5 l4.length c5] :: own 3 (.slice A5 l4.length c5) (vI l4) :: defsH (D1 :: Ds5) :: blk g1 3 #[vi at1] :: blk g3 3 #[vi z1] :: blk g4 22 #[.slice A1 places1.length c1] :: blk g5 3 #[vi r2] :: (fs ++ us1))) := hS.lit 3 #[vi z1] 1 rfl (by omega)
       generalize (some (⟨w.heap.size, 0, none⟩ : Addr)) = g6 at hF hS
       generalize w.alloc (.cells #[vi z1] 3) = w at hS ⊢
       obtain ⟨A6, c6, w, hrun, hS⟩ := run_app1 (P := Try.prog) (t := 22) (m := l4) (ys := ([z1] : List Int)) (A2 := g6) (m2 := 1) (c2 := 1) (Value.int .i64) (0 : Int) (hS.at_ 3 rfl) (hS.at_ 0 rfl).rd ((hS.at_ 0 rfl).len1) 22 Und22 hi3 hz3 hs3 (by omega) rfl (fun _ => rfl) hp2
       have hS : Sep w0 B w (own 3 (.slice g6 1 1) (vI ([z1] : List Int)) :: recH lr1 { rr1 with state := .busy } :: blk g2 22 #[.slice A5 l4.length c5] :: own 3 (.slice A6 ((l4 ++ ([z1] : List Int)).length) c6) (vI (l4 ++ ([z1] : List Int))) :: defsH (D1 :: Ds5) :: blk g1 3 #[vi at1] :: blk g3 3 #[vi z1] :: blk g4 22 #[.slice A1 places1.length c1] :: blk g5 3 #[vi r2] :: (fs ++ us1)) := hS
       refine ad (d := 32) hF hrun (fun a hF => ?_)
       obtain ⟨w, hrun, hS⟩ := run_put (P := Try.prog) (t := 22) (u := .slice A6 ((l4 ++ ([z1] : List Int)).length) c6) (i := 0) (hS.at_ 2 rfl) hi22 hs22 rfl (Nat.lt_of_lt_of_eq (Nat.lt_of_succ_le (Nat.le_of_ble_eq_true (by kernel_rfl))) rfl)
       refine at_s hF hrun ?_
       have hS : Sep w0 B w (own 3 (.slice g6 1 1) (vI ([z1] : List Int)) :: recH lr1 { rr1 with state := .busy } :: blk g2 22 #[.slice A6 ((l4 ++ ([z1] : List Int)).length) c6] :: own 3 (.slice A6 ((l4 ++ ([z1] : List Int)).length) c6) (vI (l4 ++ ([z1] : List Int))) :: defsH (D1 :: Ds5) :: blk g1 3 #[vi at1] :: blk g3 3 #[vi z1] :: blk g4 22 #[.slice A1 places1.length c1] :: blk g5 3 #[vi r2] :: (fs ++ us1)) := hS
       refine ae [] [] hF rfl (fun hF => ?_)
       refine then_n ?_
       refine wpIn_exit ?_
       refine block_o rfl ?_
       have hS := hS.pickN 9 [1, 2, 3, 4, 5, 6, 7, 8] (by decide)
       have hm : some (.done (l4 ++ ([z1] : List Int))) = some r := hm
       obtain rfl := Option.some.inj hm
       exact ⟨_, _, rfl, ⟨rfl, ⟨A6, c6, rfl⟩⟩, hS⟩
      ·replace hm := if_f hm hb
       refine wpIn_skip ?_
       refine block_n ?_
       have hm : some (.next l4) = some r := hm
       obtain rfl := Option.some.inj hm
       exact ⟨_, _, rfl, ⟨A5, c5, rfl⟩, hS⟩
     ·rintro l4 D1 qs a w hy1e hI hF hS
      obtain ⟨A5, c5, rfl⟩ := hI
      rw [hy1e] at hm
      unfold board_Attackers_K2 at hm
      dsimp only at hm hF hS
      have hF : FrD (D1 :: Ds5) 35 [pl 0 (.slice A1 places1.length c1), pl 2 (vi by1), pl 4 (pa g1 0), pl 7 (pa g2 0), pl 8 (pa g3 0), pl 11 (.slice A1 places1.length c1), pl 12 (vi (places1.length : Int)), pl 13 (vi z1), pl 24 (.func (.func 155) #[] #[pa g4 0, pa g5 0])] a := hF
      have hS : Sep w0 B w (blk g2 22 #[.slice A5 l4.length c5] :: own 3 (.slice A5 l4.length c5) (vI l4) :: defsH (D1 :: Ds5) :: blk g1 3 #[vi at1] :: blk g3 3 #[vi z1] :: blk g4 22 #[.slice A1 places1.length c1] :: blk g5 3 #[vi r2] :: fs) := hS
      refine block_n ?_
      refine block_n ?_
      refine then_n ?_
      have hS := hS.pickN 7 [3, 0, 1, 2] (by decide)
      exact ⟨l4, A5, c5, (D1 :: Ds5), hF.wk [0, 2, 4, 7, 11, 12, 13], hS, hm⟩
     ·rintro l4 c D1 qs a w hy1e hI hF hS
      obtain ⟨rfl, A5, c5, rfl⟩ := hI
      rw [hy1e] at hm
      unfold board_Attackers_K2 at hm
      dsimp only at hm hF hS
      have hF : FrD (D1 :: Ds5) 35 [pl 0 (.slice A1 places1.length c1), pl 2 (vi by1), pl 4 (pa g1 0), pl 7 (pa g2 0), pl 8 (pa g3 0), pl 11 (.slice A1 places1.length c1), pl 12 (vi (places1.length : Int)), pl 13 (vi z1), pl 24 (.func (.func 155) #[] #[pa g4 0, pa g5 0])] a := hF
      have hS : Sep w0 B w (blk g2 22 #[.slice A5 l4.length c5] :: own 3 (.slice A5 l4.length c5) (vI l4) :: defsH (D1 :: Ds5) :: blk g1 3 #[vi at1] :: blk g3 3 #[vi z1] :: blk g4 22 #[.slice A1 places1.length c1] :: blk g5 3 #[vi r2] :: fs) := hS
      refine wpIn_exit ?_
      refine block_e (block_n (then_n ?_))
      have hS := hS.pickN 7 [3, 0, 1, 2] (by decide)
      exact ⟨l4, A5, c5, (D1 :: Ds5), hF.wk [0, 2, 4, 7, 11, 12, 13], hS, hm⟩
    ·obtain ⟨r1, hr1, hm⟩ := call_b hm
     refine rg [⟨false, [], callFunc 108 #[vi (geti places1 z1)], vi r1⟩] [none, some (vi r1), none, none] [0, 2, 4, 7, 8, 11, 12, 13, 21] [pl 0 (.slice A1 places1.length c1), pl 2 (vi by1), pl 4 (pa g1 0), pl 7 (pa g2 0), pl 8 (pa g3 0), pl 11 (.slice A1 places1.length c1), pl 12 (vi (places1.length : Int)), pl 13 (vi z1), pl 21 (.bool (r1 != by1))] hF hS ?_ (fun a w hF hS => ?_)
     ·exact obs_cons (ob_call Try.func108 (by kernel_rfl) rfl (fun _ _ hS => board_Side_w hr1 hS )) <| obs_nil
     refine ce (t := 21) (b := (r1 != by1)) hF (fun hb => ?_) (fun hb => ?_)
     ·replace hm := if_t hm hb
      refine wpIn_exit ?_
      refine then_e (block_e (then_n ?_))
      have hS := hS.pickN 5 [1, 2, 3, 4] (by decide)
      exact ⟨l1, A2, c2, Ds2, hF.wk [0, 2, 4, 7, 11, 12, 13], hS, hm⟩
     ·replace hm := if_f hm hb
      refine wpIn_skip ?_
      refine then_n ?_
      have hS := hS.pickN 5 [1, 2, 3, 0, 4] (by decide)
      exact ⟨Ds2, hF.wk [0, 2, 4, 7, 8, 11, 12, 13], hS, hm⟩
  ·refine ce (t := 14) (b := decide (z1 < (places1.length : Int))) hF (fun hb => ?_) (fun hb => ?_)
   ·replace hm := if_t hm hb
    refine wpIn_skip ?_
    refine then_n ?_
    exact ⟨Ds1, hF.wk [0, 2, 4, 7, 11, 12, 13], hS, hm⟩
   ·replace hm := if_f hm hb
    refine wpIn_exit ?_
    refine then_e (then_e (block_e (then_n ?_)))
    have hS := hS.pickN 4 [1, 2, 3] (by decide)
    rw [← hφ1] at hm
    replace hm := done_b hm
    unfold board_Attackers_K1 at hm
    try dsimp only at hm
    have hm : (board_Attackers_J1 l1).bind some = some r := hm
    exact ⟨l1, A2, c2, Ds1, hF.wk [7], hS, hm⟩

def board_Checked_m  (places1 : List Int) (side1 : Int) : Option Bool :=
 (board_KingAt_m places1 side1).bind fun r1 => (board_Attackers_m places1 r1 (w64 (1 - side1))).bind fun r2 => some (decide ((0 : Int) < (r2.length : Int)))

theorem board_Checked_w  {A1 : Option Addr} {c1 n1 : Nat} {places1 : List Int} {side1 : Int} {r : Bool} {w0 w : World} {B : Nat} {fs : List HP} (hm : board_Checked_m places1 side1 = some r) (hS : Sep w0 B w (fs)) (hr_places1 : RdF w0 B fs A1 (vI places1)) (_hc_places1 : places1.length ≤ c1) (_hn_places1 : n1 = places1.length) :
  Calls Try.prog 109 #[.slice A1 n1 c1, vi side1] w fun e w' => e = .returned (.bool r) ∧ Sep w0 B w' (fs) := by
 obtain ⟨i3, hi3, hz3, hs3, hb3⟩ := info_parts Info3
 obtain rfl := _hn_places1
 unfold board_Checked_m at hm
 replace hm := start_b hm
 refine enter (l := [.slice A1 places1.length c1, vi side1]) (n := 14) Try.func109 rfl rfl (by simp) (fun a hF => ?_)
 refine rg [] [] [0, 1] [pl 0 (.slice A1 places1.length c1), pl 1 (vi side1)] hF hS obs_nil (fun a w hF hS => ?_)
 refine seqR ?_
 obtain ⟨r1, hr1, hm⟩ := call_b hm
 obtain ⟨r2, hr2, hm⟩ := call_b hm
 refine ar 6 [⟨false, [], callFunc 137 #[.slice A1 places1.length c1, vi side1], vi r1⟩] [none, none, none, some (vi r1), none, none] [5, 8, 10] [pl 5 (.slice A1 places1.length c1), pl 8 (vi r1), pl 10 (vi (w64 (1 - side1)))] hF hS ?_ (fun a w hF hS => ?_)
 ·exact obs_cons (ob_call Try.func137 (by kernel_rfl) rfl (fun _ _ hS => board_KingAt_w hr1 hS (fun _ hS => (hr_places1 _ (hS.dropN 0))) _hc_places1 rfl)) <| obs_nil
 refine at_call (f := 136) (args := #[.slice A1 places1.length c1, vi r1, vi (w64 (1 - side1))]) (d := 11) hF (by kernel_rfl) (by kernel_rfl) Try.func136 (by kernel_rfl) rfl (board_Attackers_w hr2 hS (fun _ hS => (hr_places1 _ (hS.dropN 0))) _hc_places1 rfl) (fun v a w hR hF => ?_)
 clear hS
 obtain ⟨A2, c2, rfl, hS⟩ := hR
 have hS : Sep w0 B w (own 3 (.slice A2 r2.length c2) (vI r2) :: fs) := hS
 refine ar 3 [] [] [4] [pl 4 (.bool (decide ((0 : Int) < (r2.length : Int))))] hF hS obs_nil (fun a w hF hS => ?_)
 refine ae [4] [pl 4 (.bool (decide ((0 : Int) < (r2.length : Int))))] hF rfl (fun hF => ?_)
 refine then_n (wpIn_ret ?_)
 have hS := hS.pickN 1 [] (by decide)
 have hm : some (decide ((0 : Int) < (r2.length : Int))) = some r := hm
 obtain rfl := Option.some.inj hm
 exact retV (rs := [.tmp 4]) (vs := [.bool (decide ((0 : Int) < (r2.length : Int)))]) hF rfl rv1 rfl ⟨rfl, hS⟩

def board_Right_m  (n1 : Int) : Option (Int × Int) :=
 some ((w64 ((w64 ((shrK .i64 n1 1) * 56)) + 4)), (w64 ((w64 ((w64 ((shrK .i64 n1 1) * 56)) + 7)) - (w64 (7 * (bAnd n1 1))))))

theorem board_Right_w  {n1 : Int} {r : (Int × Int)} {w0 w : World} {B : Nat} {fs : List HP} (hm : board_Right_m n1 = some r) (hS : Sep w0 B w (fs)) :
  Calls Try.prog 110 #[vi n1] w fun e w' => e = .returned (.tuple #[vi r.1, vi r.2]) ∧ Sep w0 B w' (fs) := by
 unfold board_Right_m at hm
 replace hm := start_b hm
 refine enter (l := [vi n1]) (n := 16) Try.func110 rfl rfl (by simp) (fun a hF => ?_)
 refine rg [] [] [0] [pl 0 (vi n1)] hF hS obs_nil (fun a w hF hS => ?_)
 refine rg [⟨true, [], vS (Op.shift .shr .i64 n1 .u64 1), vi (shrK .i64 n1 1)⟩] [none, some (vi (shrK .i64 n1 1)), none, none] [0, 4] [pl 0 (vi n1), pl 4 (vi (w64 ((shrK .i64 n1 1) * 56)))] hF hS ?_ (fun a w hF hS => ?_)
 ·exact obs_cons (ob_shr (fun _ => by decide)) <| obs_nil
 refine rg [] [] [2, 3] [pl 2 (vi (w64 ((w64 ((shrK .i64 n1 1) * 56)) + 4))), pl 3 (vi (w64 ((w64 ((w64 ((shrK .i64 n1 1) * 56)) + 7)) - (w64 (7 * (bAnd n1 1))))))] hF hS obs_nil (fun a w hF hS => ?_)
 refine wpIn_ret ?_
 have hm : some ((w64 ((w64 ((shrK .i64 n1 1) * 56)) + 4)), (w64 ((w64 ((w64 ((shrK .i64 n1 1) * 56)) + 7)) - (w64 (7 * (bAnd n1 1)))))) = some r := hm
 obtain rfl := Option.some.inj hm
 exact retV (rs := [.tmp 2, .tmp 3]) (vs := [vi (w64 ((w64 ((shrK .i64 n1 1) * 56)) + 4)), vi (w64 ((w64 ((w64 ((shrK .i64 n1 1) * 56)) + 7)) - (w64 (7 * (bAnd n1 1)))))]) hF rfl (rv_t (by kernel_rfl) <| rv_t (by kernel_rfl) <| rv_nil) rfl ⟨rfl, hS⟩

def board_passant_m  (p1 : List Int) (p2 p3 : Int) (p4 p5 p6 : Int) : Option Bool :=
 (board_forward_m p2).bind fun r1 => asrt ((((decide ((0 : Int) ≤ p4)) && (decide (p4 < 64))) && ((shrK .i64 p4 3) == (w64 (5 - (w64 (3 * p2)))))) = true → 0 ≤ p4 ∧ p4 < (p1.length : Int)) <| asrt (((((decide ((0 : Int) ≤ p4)) && (decide (p4 < 64))) && ((shrK .i64 p4 3) == (w64 (5 - (w64 (3 * p2)))))) && ((geti p1 p4) == 0)) = true → 0 ≤ (w64 (p4 - (w64 (8 * r1)))) ∧ (w64 (p4 - (w64 (8 * r1)))) < (p1.length : Int)) <| asrt ((((((decide ((0 : Int) ≤ p4)) && (decide (p4 < 64))) && ((shrK .i64 p4 3) == (w64 (5 - (w64 (3 * p2)))))) && ((geti p1 p4) == 0)) && ((geti p1 (w64 (p4 - (w64 (8 * r1))))) == (w64 ((w64 (0 - r1)) * 1)))) = true → 0 ≤ (w64 (p4 + (w64 (8 * r1)))) ∧ (w64 (p4 + (w64 (8 * r1)))) < (p1.length : Int)) <| some ((((((decide ((0 : Int) ≤ p4)) && (decide (p4 < 64))) && ((shrK .i64 p4 3) == (w64 (5 - (w64 (3 * p2)))))) && ((geti p1 p4) == 0)) && ((geti p1 (w64 (p4 - (w64 (8 * r1))))) == (w64 ((w64 (0 - r1)) * 1)))) && ((geti p1 (w64 (p4 + (w64 (8 * r1))))) == 0))

theorem board_passant_w  {A1 : Option Addr} {c1 n1 : Nat} {p1 : List Int} {p2 p3 : Int} {p4 p5 p6 : Int} {r : Bool} {w0 w : World} {B : Nat} {fs : List HP} (hm : board_passant_m p1 p2 p3 p4 p5 p6 = some r) (hS : Sep w0 B w (fs)) (hr_p1 : RdF w0 B fs A1 (vI p1)) (_hc_p1 : p1.length ≤ c1) (_hn_p1 : n1 = p1.length) :
  Calls Try.prog 112 #[.agg (ca A1 n1 c1 p2 p3 p4 p5 p6)] w fun e w' => e = .returned (.bool r) ∧ Sep w0 B w' (fs) := by
 obtain ⟨i3, hi3, hz3, hs3, hb3⟩ := info_parts Info3
 obtain rfl := _hn_p1
 unfold board_passant_m at hm
 replace hm := start_b hm
 refine enter (l := [.agg (ca A1 p1.length c1 p2 p3 p4 p5 p6)]) (n := 58) Try.func112 rfl rfl (by simp) (fun a hF => ?_)
 refine seqR ?_
 refine at_do (d := 1) (s := vS (Instr.box 65 (.agg (ca A1 p1.length c1 p2 p3 p4 p5 p6)))) (v := pa w.heap.size 0) (w' := w.alloc (.cells (ca A1 p1.length c1 p2 p3 p4 p5 p6) 65)) hF (by kernel_rfl) (by kernel_rfl) (by kernel_rfl) (fun a hF => ?_)
 have hS : Sep w0 B (w.alloc (.cells (ca A1 p1.length c1 p2 p3 p4 p5 p6) 65)) (blk w.heap.size 65 (ca A1 p1.length c1 p2 p3 p4 p5 p6) :: (fs)) := hS.box 65 (ca A1 p1.length c1 p2 p3 p4 p5 p6)
 generalize w.heap.size = g1 at hF hS
 generalize w.alloc (.cells (ca A1 p1.length c1 p2 p3 p4 p5 p6) 65) = w at hS ⊢
 refine ar 1 [] [] [1] [pl 1 (pa g1 0)] hF hS obs_nil (fun a w hF hS => ?_)
 refine ae [1] [pl 1 (pa g1 0)] hF rfl (fun hF => ?_)
 refine then_n ?_
 obtain ⟨r1, hr1, hm⟩ := call_b hm
 refine rg [⟨false, [], vS (Instr.loadAt 3 (pa g1 3)), vi p4⟩, ⟨false, [], vS (Instr.loadAt 3 (pa g1 1)), vi p2⟩, ⟨false, [], callFunc 111 #[vi p2], vi r1⟩] [none, some (vi p4), none, some (vi p2), some (vi r1), none, none] [1, 3, 4] [pl 1 (pa g1 0), pl 3 (vi p4), pl 4 (vi r1)] hF hS ?_ (fun a w hF hS => ?_)
 ·exact obs_cons (ob_load Agg3 (fun _ _ hS => (hS.at_ 0 rfl).cell rfl)) <| obs_cons (ob_load Agg3 (fun _ _ hS => (hS.at_ 0 rfl).cell rfl)) <| obs_cons (ob_call Try.func111 (by kernel_rfl) rfl (fun _ _ hS => board_forward_w hr1 hS )) <| obs_nil
 obtain ⟨hp1, hm⟩ := asrt_b hm
 obtain ⟨hp2, hm⟩ := asrt_b hm
 obtain ⟨hp3, hm⟩ := asrt_b hm
 refine rg [⟨true, [((decide ((0 : Int) ≤ p4)) && (decide (p4 < 64)), true)], vS (Op.shift .shr .i64 p4 .u64 3), vi (shrK .i64 p4 3)⟩, ⟨false, [((decide ((0 : Int) ≤ p4)) && (decide (p4 < 64)), true)], vS (Instr.loadAt 3 (pa g1 1)), vi p2⟩, ⟨false, [(((decide ((0 : Int) ≤ p4)) && (decide (p4 < 64))) && ((shrK .i64 p4 3) == (w64 (5 - (w64 (3 * p2))))), true)], vS (Instr.loadAt 22 (pa g1 0)), .slice A1 p1.length c1⟩, ⟨true, [(((decide ((0 : Int) ≤ p4)) && (decide (p4 < 64))) && ((shrK .i64 p4 3) == (w64 (5 - (w64 (3 * p2))))), true)], vS (Instr.indexAt 22 (.slice A1 p1.length c1) (vi p4)), .pointer (some (sAddr A1 p4))⟩, ⟨false, [(((decide ((0 : Int) ≤ p4)) && (decide (p4 < 64))) && ((shrK .i64 p4 3) == (w64 (5 - (w64 (3 * p2))))), true)], vS (Instr.loadAt 3 (.pointer (some (sAddr A1 p4)))), vi (geti p1 p4)⟩, ⟨false, [((((decide ((0 : Int) ≤ p4)) && (decide (p4 < 64))) && ((shrK .i64 p4 3) == (w64 (5 - (w64 (3 * p2)))))) && ((geti p1 p4) == 0), true)], vS (Instr.loadAt 22 (pa g1 0)), .slice A1 p1.length c1⟩, ⟨true, [((((decide ((0 : Int) ≤ p4)) && (decide (p4 < 64))) && ((shrK .i64 p4 3) == (w64 (5 - (w64 (3 * p2)))))) && ((geti p1 p4) == 0), true)], vS (Instr.indexAt 22 (.slice A1 p1.length c1) (vi (w64 (p4 - (w64 (8 * r1)))))), .pointer (some (sAddr A1 (w64 (p4 - (w64 (8 * r1))))))⟩, ⟨false, [((((decide ((0 : Int) ≤ p4)) && (decide (p4 < 64))) && ((shrK .i64 p4 3) == (w64 (5 - (w64 (3 * p2)))))) && ((geti p1 p4) == 0), true)], vS (Instr.loadAt 3 (.pointer (some (sAddr A1 (w64 (p4 - (w64 (8 * r1)))))))), vi (geti p1 (w64 (p4 - (w64 (8 * r1)))))⟩, ⟨false, [(((((decide ((0 : Int) ≤ p4)) && (decide (p4 < 64))) && ((shrK .i64 p4 3) == (w64 (5 - (w64 (3 * p2)))))) && ((geti p1 p4) == 0)) && ((geti p1 (w64 (p4 - (w64 (8 * r1))))) == (w64 ((w64 (0 - r1)) * 1))), true)], vS (Instr.loadAt 22 (pa g1 0)), .slice A1 p1.length c1⟩, ⟨true, [(((((decide ((0 : Int) ≤ p4)) && (decide (p4 < 64))) && ((shrK .i64 p4 3) == (w64 (5 - (w64 (3 * p2)))))) && ((geti p1 p4) == 0)) && ((geti p1 (w64 (p4 - (w64 (8 * r1))))) == (w64 ((w64 (0 - r1)) * 1))), true)], vS (Instr.indexAt 22 (.slice A1 p1.length c1) (vi (w64 (p4 + (w64 (8 * r1)))))), .pointer (some (sAddr A1 (w64 (p4 + (w64 (8 * r1))))))⟩, ⟨false, [(((((decide ((0 : Int) ≤ p4)) && (decide (p4 < 64))) && ((shrK .i64 p4 3) == (w64 (5 - (w64 (3 * p2)))))) && ((geti p1 p4) == 0)) && ((geti p1 (w64 (p4 - (w64 (8 * r1))))) == (w64 ((w64 (0 - r1)) * 1))), true)], vS (Instr.loadAt 3 (.pointer (some (sAddr A1 (w64 (p4 + (w64 (8 * r1)))))))), vi (geti p1 (w64 (p4 + (w64 (8 * r1)))))⟩] [none, none, none, none, none, none, none, none, some (vi (shrK .i64 p4 3)), none, some (vi p2), none, none, none, none, none, none, some (.slice A1 p1.length c1), none, some (.pointer (some (sAddr A1 p4))), some (vi (geti p1 p4)), none, none, none, none, some (.slice A1 p1.length c1), none, none, none, none, some (.pointer (some (sAddr A1 (w64 (p4 - (w64 (8 * r1))))))), some (vi (geti p1 (w64 (p4 - (w64 (8 * r1)))))), none, none, none, none, none, none, none, some (.slice A1 p1.length c1), none, none, none, none, some (.pointer (some (sAddr A1 (w64 (p4 + (w64 (8 * r1))))))), some (vi (geti p1 (w64 (p4 + (w64 (8 * r1)))))), none, none, none] [2] [pl 2 (.bool ((((((decide ((0 : Int) ≤ p4)) && (decide (p4 < 64))) && ((shrK .i64 p4 3) == (w64 (5 - (w64 (3 * p2)))))) && ((geti p1 p4) == 0)) && ((geti p1 (w64 (p4 - (w64 (8 * r1))))) == (w64 ((w64 (0 - r1)) * 1)))) && ((geti p1 (w64 (p4 + (w64 (8 * r1))))) == 0)))] hF hS ?_ (fun a w hF hS => ?_)
 ·exact obs_cons (ob_shr (fun _ => by decide)) <| obs_cons (ob_load Agg3 (fun _ _ hS => (hS.at_ 0 rfl).cell rfl)) <| obs_cons (ob_load Agg22 (fun _ _ hS => (hS.at_ 0 rfl).cell rfl)) <| obs_cons (ob_ix1 (f := (Value.int .i64)) (m := p1) Und22 hi3 hs3 (hr_p1 _ (hS.dropN 1)) rfl (fun hy => hp1 (hy (((decide ((0 : Int) ≤ p4)) && (decide (p4 < 64))) && ((shrK .i64 p4 3) == (w64 (5 - (w64 (3 * p2))))), true) (by simp)))) <| obs_cons (ob_get1 (n := p1.length) (m := p1) (Value.int .i64) (0 : Int) Agg3 (fun _ hS => ⟨_, (hr_p1 _ (hS.dropN 1))⟩) (fun _ hS => rfl) (fun hy => hp1 (hy (((decide ((0 : Int) ≤ p4)) && (decide (p4 < 64))) && ((shrK .i64 p4 3) == (w64 (5 - (w64 (3 * p2))))), true) (by simp)))) <| obs_cons (ob_load Agg22 (fun _ _ hS => (hS.at_ 0 rfl).cell rfl)) <| obs_cons (ob_ix1 (f := (Value.int .i64)) (m := p1) Und22 hi3 hs3 (hr_p1 _ (hS.dropN 1)) rfl (fun hy => hp2 (hy ((((decide ((0 : Int) ≤ p4)) && (decide (p4 < 64))) && ((shrK .i64 p4 3) == (w64 (5 - (w64 (3 * p2)))))) && ((geti p1 p4) == 0), true) (by simp)))) <| obs_cons (ob_get1 (n := p1.length) (m := p1) (Value.int .i64) (0 : Int) Agg3 (fun _ hS => ⟨_, (hr_p1 _ (hS.dropN 1))⟩) (fun _ hS => rfl) (fun hy => hp2 (hy ((((decide ((0 : Int) ≤ p4)) && (decide (p4 < 64))) && ((shrK .i64 p4 3) == (w64 (5 - (w64 (3 * p2)))))) && ((geti p1 p4) == 0), true) (by simp)))) <| obs_cons (ob_load Agg22 (fun _ _ hS => (hS.at_ 0 rfl).cell rfl)) <| obs_cons (ob_ix1 (f := (Value.int .i64)) (m := p1) Und22 hi3 hs3 (hr_p1 _ (hS.dropN 1)) rfl (fun hy => hp3 (hy (((((decide ((0 : Int) ≤ p4)) && (decide (p4 < 64))) && ((shrK .i64 p4 3) == (w64 (5 - (w64 (3 * p2)))))) && ((geti p1 p4) == 0)) && ((geti p1 (w64 (p4 - (w64 (8 * r1))))) == (w64 ((w64 (0 - r1)) * 1))), true) (by simp)))) <| obs_cons (ob_get1 (n := p1.length) (m := p1) (Value.int .i64) (0 : Int) Agg3 (fun _ hS => ⟨_, (hr_p1 _ (hS.dropN 1))⟩) (fun _ hS => rfl) (fun hy => hp3 (hy (((((decide ((0 : Int) ≤ p4)) && (decide (p4 < 64))) && ((shrK .i64 p4 3) == (w64 (5 - (w64 (3 * p2)))))) && ((geti p1 p4) == 0)) && ((geti p1 (w64 (p4 - (w64 (8 * r1))))) == (w64 ((w64 (0 - r1)) * 1))), true) (by simp)))) <| obs_nil
 refine wpIn_ret ?_
 have hS := hS.pickN 1 [] (by decide)
 have hm : some ((((((decide ((0 : Int) ≤ p4)) && (decide (p4 < 64))) && ((shrK .i64 p4 3) == (w64 (5 - (w64 (3 * p2)))))) && ((geti p1 p4) == 0)) && ((geti p1 (w64 (p4 - (w64 (8 * r1))))) == (w64 ((w64 (0 - r1)) * 1)))) && ((geti p1 (w64 (p4 + (w64 (8 * r1))))) == 0)) = some r := hm
 obtain rfl := Option.some.inj hm
 exact retV (rs := [.tmp 2]) (vs := [.bool ((((((decide ((0 : Int) ≤ p4)) && (decide (p4 < 64))) && ((shrK .i64 p4 3) == (w64 (5 - (w64 (3 * p2)))))) && ((geti p1 p4) == 0)) && ((geti p1 (w64 (p4 - (w64 (8 * r1))))) == (w64 ((w64 (0 - r1)) * 1)))) && ((geti p1 (w64 (p4 + (w64 (8 * r1))))) == 0))]) hF rfl rv1 rfl ⟨rfl, hS⟩

def board_May_J4  (z1 : Int) (kings3 : List Int) : Option (St (List Int × Int) (Fl (List Int) Bool)) :=
 some (.next (kings3, (w64 (z1 + 1))))

def board_May_J5  (p1 kings1 : List Int) (z1 r1 : Int) (z2 : Bool) : Option (St (List Int × Int) (Fl (List Int) Bool)) :=
 if z2 then ((board_May_J4 z1) kings1) else (if (r1 == 1) then (if ((decide (z1 < 8)) || (decide ((56 : Int) ≤ z1))) then (some (.done (.ret false))) else ((board_May_J4 z1) kings1)) else (if (r1 == 6) then ((board_Side_m (geti p1 z1)).bind fun r2 => asrt (0 ≤ r2 ∧ r2 < 2) <| asrt (0 ≤ r2 ∧ r2 < 2) <| asrt (r2 < (kings1.length : Int)) <| (board_May_J4 z1) (kings1.set (Int.toNat r2) (w64 ((geti kings1 r2) + 1)))) else (some (.done (.ret false)))))

def board_May_J3  (p1 kings1 : List Int) (z1 : Int) : Option (St (List Int × Int) (Fl (List Int) Bool)) :=
 asrt (0 ≤ z1 ∧ z1 < (p1.length : Int)) <| (board_Kind_m (geti p1 z1)).bind fun r1 => if (r1 == 0) then ((board_May_J5 p1 kings1 z1 r1) (r1 == 0)) else (if (r1 == 2) then ((board_May_J5 p1 kings1 z1 r1) (r1 == 2)) else (if (r1 == 3) then ((board_May_J5 p1 kings1 z1 r1) (r1 == 3)) else (if (r1 == 4) then ((board_May_J5 p1 kings1 z1 r1) (r1 == 4)) else ((board_May_J5 p1 kings1 z1 r1) (r1 == 5)))))

def board_May_J9  (z3 : Int) : Option (St Int (Fl Unit Bool)) :=
 some (.next (w64 (z3 + 1)))

def board_May_J8  (p1 : List Int) (p3 z3 : Int) : Option (St Int (Fl Unit Bool)) :=
 (board_Right_m z3).bind fun r4 => (board_forward_m (shrK .i64 z3 1)).bind fun r5 => asrt ((0 : Int) ≤ z3) <| asrt (((bAnd (shrK .i64 p3 z3) 1) == 1) = true → 0 ≤ r4.1 ∧ r4.1 < (p1.length : Int)) <| asrt (((geti p1 r4.1) != (w64 (6 * r5))) = false → ((bAnd (shrK .i64 p3 z3) 1) == 1) = true → 0 ≤ r4.2 ∧ r4.2 < (p1.length : Int)) <| if (((bAnd (shrK .i64 p3 z3) 1) == 1) && (((geti p1 r4.1) != (w64 (6 * r5))) || ((geti p1 r4.2) != (w64 (4 * r5))))) then (some (.done (.ret false))) else ((board_May_J9 z3))

def board_May_L2  (p1 : List Int) (p3 : Int) : Int → Option (St Int (Fl Unit Bool)) :=
 fun (x : Int) => match x with | z3 => if (decide (z3 < 4)) then ((board_May_J8 p1 p3 z3)) else (some (.done (.go ())))

def board_May_J7  (p1 : List Int) (p2 p3 : Int) (p4 p5 p6 : Int) : Option Bool :=
 ((if (!(p4 == (-1))) then board_passant_m p1 p2 p3 p4 p5 p6 else some false)).bind fun r6 => some ((p4 == (-1)) || r6)

def board_May_K2  (p1 : List Int) (p2 p3 : Int) (p4 p5 p6 : Int) : (Fl Unit Bool) → Option Bool :=
 fun (x : (Fl Unit Bool)) => match x with | .go _ => (board_May_J7 p1 p2 p3 p4 p5 p6) | .ret x => some x

def board_May_J6  (p1 : List Int) (p2 p3 : Int) (p4 p5 p6 : Int) : Option Bool :=
 (loop (board_May_L2 p1 p3) 0).bind (board_May_K2 p1 p2 p3 p4 p5 p6)

def board_May_J2  (p1 : List Int) (p2 p3 : Int) (p4 p5 p6 : Int) (kings2 : List Int) : Option Bool :=
 ((if (!(!(((geti kings2 0) == (geti ([1, 1] : List Int) 0)) && ((geti kings2 1) == (geti ([1, 1] : List Int) 1))))) then board_Checked_m p1 (w64 (1 - p2)) else some false)).bind fun r3 => if ((!(((geti kings2 0) == (geti ([1, 1] : List Int) 0)) && ((geti kings2 1) == (geti ([1, 1] : List Int) 1)))) || r3) then (some false) else ((board_May_J6 p1 p2 p3 p4 p5 p6))

def board_May_K1  (p1 : List Int) (p2 p3 : Int) (p4 p5 p6 : Int) : (Fl (List Int) Bool) → Option Bool :=
 fun (x : (Fl (List Int) Bool)) => match x with | .go kings2 => (board_May_J2 p1 p2 p3 p4 p5 p6) kings2 | .ret x => some x

def board_May_L1  (p1 : List Int) : (List Int × Int) → Option (St (List Int × Int) (Fl (List Int) Bool)) :=
 fun (x : (List Int × Int)) => match x with | (kings1, z1) => if (decide (z1 < (p1.length : Int))) then ((board_May_J3 p1 kings1 z1)) else (some (.done (.go kings1)))

def board_May_J1  (p1 : List Int) (p2 p3 : Int) (p4 p5 p6 : Int) : Option Bool :=
 (loop (board_May_L1 p1) ((List.replicate 2 (0 : Int)), 0)).bind (board_May_K1 p1 p2 p3 p4 p5 p6)

def board_May_m  (p1 : List Int) (p2 p3 : Int) (p4 p5 p6 : Int) : Option Bool :=
 if ((((((((((p1.length : Int) != 64) || (decide (p2 < 0))) || (decide ((1 : Int) < p2))) || (decide (p3 < 0))) || (decide ((15 : Int) < p3))) || (decide (p5 < 0))) || (decide ((999 : Int) < p5))) || (decide (p6 < 1))) || (decide ((999 : Int) < p6))) then (some false) else ((board_May_J1 p1 p2 p3 p4 p5 p6))

theorem board_May_w  {A1 : Option Addr} {c1 n1 : Nat} {p1 : List Int} {p2 p3 : Int} {p4 p5 p6 : Int} {r : Bool} {w0 w : World} {B : Nat} {fs : List HP} (hm : board_May_m p1 p2 p3 p4 p5 p6 = some r) (hS : Sep w0 B w (fs)) (hr_p1 : RdF w0 B fs A1 (vI p1)) (_hc_p1 : p1.length ≤ c1) (_hn_p1 : n1 = p1.length) :
  Calls Try.prog 77 #[.agg (ca A1 n1 c1 p2 p3 p4 p5 p6)] w fun e w' => e = .returned (.bool r) ∧ Sep w0 B w' (fs) := by
 obtain ⟨i3, hi3, hz3, hs3, hb3⟩ := info_parts Info3
 obtain rfl := _hn_p1
 unfold board_May_m at hm
 replace hm := start_b hm
 refine enter (l := [.agg (ca A1 p1.length c1 p2 p3 p4 p5 p6)]) (n := 143) Try.func77 rfl rfl (by simp) (fun a hF => ?_)
 refine seqR ?_
 refine at_do (d := 1) (s := vS (Instr.box 65 (.agg (ca A1 p1.length c1 p2 p3 p4 p5 p6)))) (v := pa w.heap.size 0) (w' := w.alloc (.cells (ca A1 p1.length c1 p2 p3 p4 p5 p6) 65)) hF (by kernel_rfl) (by kernel_rfl) (by kernel_rfl) (fun a hF => ?_)
 have hS : Sep w0 B (w.alloc (.cells (ca A1 p1.length c1 p2 p3 p4 p5 p6) 65)) (blk w.heap.size 65 (ca A1 p1.length c1 p2 p3 p4 p5 p6) :: (fs)) := hS.box 65 (ca A1 p1.length c1 p2 p3 p4 p5 p6)
 generalize w.heap.size = g1 at hF hS
 generalize w.alloc (.cells (ca A1 p1.length c1 p2 p3 p4 p5 p6) 65) = w at hS ⊢
 refine ar 1 [] [] [1] [pl 1 (pa g1 0)] hF hS obs_nil (fun a w hF hS => ?_)
 refine ae [1] [pl 1 (pa g1 0)] hF rfl (fun hF => ?_)
 refine then_n ?_
 refine seq_cut (fun a w => Fr 143 [pl 1 (pa g1 0)] a ∧ Sep w0 B w (blk g1 65 (ca A1 p1.length c1 p2 p3 p4 p5 p6) :: fs) ∧ ((board_May_J1 p1 p2 p3 p4 p5 p6)).bind some = some r) ?_ ?_
 ·rintro a w ⟨hF, hS, hm⟩
  unfold board_May_J1 at hm
  refine seqR ?_
  refine at_do (d := 3) (s := vS (Instr.alloc 150 true (.tuple #[]))) (v := pa w.heap.size 0) (w' := w.alloc (.cells (List.toArray (([] : List Value) ++ (arr1 (Value.int .i64) (0 : Int) 2 (List.replicate 2 (0 : Int)) ++ ([] : List Value)))) 150)) hF (by kernel_rfl) (by kernel_rfl) (by kernel_rfl) (fun a hF => ?_)
  have hS : Sep w0 B (w.alloc (.cells (List.toArray (([] : List Value) ++ (arr1 (Value.int .i64) (0 : Int) 2 (List.replicate 2 (0 : Int)) ++ ([] : List Value)))) 150)) (blk w.heap.size 150 (List.toArray (([] : List Value) ++ (arr1 (Value.int .i64) (0 : Int) 2 (List.replicate 2 (0 : Int)) ++ ([] : List Value)))) :: (blk g1 65 (ca A1 p1.length c1 p2 p3 p4 p5 p6) :: fs)) := hS.box 150 (List.toArray (([] : List Value) ++ (arr1 (Value.int .i64) (0 : Int) 2 (List.replicate 2 (0 : Int)) ++ ([] : List Value))))
  generalize w.heap.size = g2 at hF hS
  generalize w.alloc (.cells (List.toArray (([] : List Value) ++ (arr1 (Value.int .i64) (0 : Int) 2 (List.replicate 2 (0 : Int)) ++ ([] : List Value)))) 150) = w at hS ⊢
  refine ae [1, 3] [pl 1 (pa g1 0), pl 3 (pa g2 0)] hF rfl (fun hF => ?_)
  refine then_n ?_
  refine seq_cut (fun a w => ∃ (kings2 : List Int), Fr 143 [pl 1 (pa g1 0), pl 3 (pa g2 0)] a ∧ Sep w0 B w (blk g1 65 (ca A1 p1.length c1 p2 p3 p4 p5 p6) :: blk g2 150 (List.toArray (([] : List Value) ++ (arr1 (Value.int .i64) (0 : Int) 2 kings2 ++ ([] : List Value)))) :: fs) ∧ ((board_May_J2 p1 p2 p3 p4 p5 p6) kings2).bind some = some r) ?_ ?_
  ·rintro a w ⟨kings2, hF, hS, hm⟩
   unfold board_May_J2 at hm
   refine seq_cut (fun a w => Fr 143 [pl 1 (pa g1 0)] a ∧ Sep w0 B w (blk g1 65 (ca A1 p1.length c1 p2 p3 p4 p5 p6) :: fs) ∧ ((board_May_J6 p1 p2 p3 p4 p5 p6)).bind some = some r) ?_ ?_
   ·rintro a w ⟨hF, hS, hm⟩
    unfold board_May_J6 at hm
    refine seq_cut (fun a w => Fr 143 [pl 1 (pa g1 0)] a ∧ Sep w0 B w (blk g1 65 (ca A1 p1.length c1 p2 p3 p4 p5 p6) :: fs) ∧ ((board_May_J7 p1 p2 p3 p4 p5 p6)).bind some = some r) ?_ ?_
    ·rintro a w ⟨hF, hS, hm⟩
     unfold board_May_J7 at hm
     obtain ⟨r6, hr6, hm⟩ := call_b hm
     refine rg [⟨false, [], vS (Instr.loadAt 3 (pa g1 3)), vi p4⟩, ⟨false, [((p4 == (-1)), false)], vS (Instr.loadAt 65 (pa g1 0)), .agg (ca A1 p1.length c1 p2 p3 p4 p5 p6)⟩, ⟨false, [((p4 == (-1)), false)], callFunc 112 #[.agg (ca A1 p1.length c1 p2 p3 p4 p5 p6)], .bool r6⟩] [none, some (vi p4), none, none, some (.agg (ca A1 p1.length c1 p2 p3 p4 p5 p6)), some (.bool r6), none, none] [2] [pl 2 (.bool ((p4 == (-1)) || r6))] hF hS ?_ (fun a w hF hS => ?_)
     ·exact obs_cons (ob_load Agg3 (fun _ _ hS => (hS.at_ 0 rfl).cell rfl)) <| obs_cons (oA (cs := (ca A1 p1.length c1 p2 p3 p4 p5 p6)) (fun _ _ hS => (hS.at_ 0 rfl).cellsAt 0 (by rfl))) <| obs_cons (ob_call Try.func112 (by kernel_rfl) rfl (fun hy _ hS => board_passant_w (ite_some hr6 (by rw [show (p4 == (-1)) = false from hy ((p4 == (-1)), false) (by simp)]; try rfl)) hS (fun _ hS => (hr_p1 _ (hS.dropN 1))) _hc_p1 rfl)) <| obs_nil
     refine wpIn_ret ?_
     have hS := hS.pickN 1 [] (by decide)
     have hm : some ((p4 == (-1)) || r6) = some r := hm
     obtain rfl := Option.some.inj hm
     exact retV (rs := [.tmp 2]) (vs := [.bool ((p4 == (-1)) || r6)]) hF rfl rv1 rfl ⟨rfl, hS⟩
    ·refine rg [] [] [1, 98] [pl 1 (pa g1 0), pl 98 (vi 0)] hF hS obs_nil (fun a w hF hS => ?_)
     refine wpIn_block ?_
     refine wp_loop_model (S := Int) (R := (Fl Unit Bool)) (board_May_L2 p1 p3) (fun x => ((board_May_K2 p1 p2 p3 p4 p5 p6) x).bind some) r (fun (x : Int) a w => Fr 143 [pl 1 (pa g1 0), pl 98 (vi x)] a ∧ Sep w0 B w (blk g1 65 (ca A1 p1.length c1 p2 p3 p4 p5 p6) :: fs)) (assoc_b hm) ⟨hF.wk [1, 98], hS⟩ ?_
     clear hF hS hm
     rintro nn2 z3 a w ⟨hF, hS⟩ hm
     generalize hφ2 : stK (board_May_L2 p1 p3) nn2 (fun x => ((board_May_K2 p1 p2 p3 p4 p5 p6) x).bind some) = φ2 at hm
     unfold board_May_L2 at hm
     dsimp only at hm
     refine rg [] [] [1, 98, 99] [pl 1 (pa g1 0), pl 98 (vi z3), pl 99 (.bool (decide (z3 < 4)))] hF hS obs_nil (fun a w hF hS => ?_)
     refine seq_cut (fun a w => Fr 143 [pl 1 (pa g1 0), pl 98 (vi z3)] a ∧ Sep w0 B w (blk g1 65 (ca A1 p1.length c1 p2 p3 p4 p5 p6) :: fs) ∧ ((board_May_J8 p1 p3 z3)).bind φ2 = some r) ?_ ?_
     ·rintro a w ⟨hF, hS, hm⟩
      unfold board_May_J8 at hm
      refine seq_cut (fun a w => Fr 143 [pl 1 (pa g1 0), pl 98 (vi z3)] a ∧ Sep w0 B w (blk g1 65 (ca A1 p1.length c1 p2 p3 p4 p5 p6) :: fs) ∧ ((board_May_J9 z3)).bind φ2 = some r) ?_ ?_
      ·rintro a w ⟨hF, hS, hm⟩
       unfold board_May_J9 at hm
       refine rg1 [] [] [1, 98] [pl 1 (pa g1 0), pl 98 (vi (w64 (z3 + 1)))] hF hS obs_nil (fun a w hF hS => ?_)
       refine then_n ?_
       rw [← hφ2] at hm
       exact ⟨(w64 (z3 + 1)), ⟨hF.wk [1, 98], hS⟩, hm⟩
      ·refine wpIn_block ?_
       refine rg [] [] [1, 6, 98] [pl 1 (pa g1 0), pl 6 (vi z3), pl 98 (vi z3)] hF hS obs_nil (fun a w hF hS => ?_)
       obtain ⟨r4, hr4, hm⟩ := call_b hm
       refine rg [⟨false, [], callFunc 110 #[vi z3], .tuple #[vi r4.1, vi r4.2]⟩] [none, some (.tuple #[vi r4.1, vi r4.2]), none, none, none, none, none] [1, 6, 7, 8, 98] [pl 1 (pa g1 0), pl 6 (vi z3), pl 7 (vi r4.1), pl 8 (vi r4.2), pl 98 (vi z3)] hF hS ?_ (fun a w hF hS => ?_)
       ·exact obs_cons (ob_call Try.func110 (by kernel_rfl) rfl (fun _ _ hS => board_Right_w hr4 hS )) <| obs_nil
       obtain ⟨r5, hr5, hm⟩ := call_b hm
       refine rg [⟨true, [], vS (Op.shift .shr .i64 z3 .u64 1), vi (shrK .i64 z3 1)⟩, ⟨false, [], callFunc 111 #[vi (shrK .i64 z3 1)], vi r5⟩] [none, some (vi (shrK .i64 z3 1)), some (vi r5), none] [1, 6, 7, 8, 9, 98] [pl 1 (pa g1 0), pl 6 (vi z3), pl 7 (vi r4.1), pl 8 (vi r4.2), pl 9 (vi r5), pl 98 (vi z3)] hF hS ?_ (fun a w hF hS => ?_)
       ·exact obs_cons (ob_shr (fun _ => by decide)) <| obs_cons (ob_call Try.func111 (by kernel_rfl) rfl (fun _ _ hS => board_forward_w hr5 hS )) <| obs_nil
       obtain ⟨hp5, hm⟩ := asrt_b hm
       obtain ⟨hp6, hm⟩ := asrt_b hm
       obtain ⟨hp7, hm⟩ := asrt_b hm
       refine rg [⟨false, [], vS (Instr.loadAt 3 (pa g1 2)), vi p3⟩, ⟨true, [], vS (Op.shift .shr .i64 p3 .i64 z3), vi (shrK .i64 p3 z3)⟩, ⟨false, [(((bAnd (shrK .i64 p3 z3) 1) == 1), true)], vS (Instr.loadAt 22 (pa g1 0)), .slice A1 p1.length c1⟩, ⟨true, [(((bAnd (shrK .i64 p3 z3) 1) == 1), true)], vS (Instr.indexAt 22 (.slice A1 p1.length c1) (vi r4.1)), .pointer (some (sAddr A1 r4.1))⟩, ⟨false, [(((bAnd (shrK .i64 p3 z3) 1) == 1), true)], vS (Instr.loadAt 3 (.pointer (some (sAddr A1 r4.1)))), vi (geti p1 r4.1)⟩, ⟨false, [(((geti p1 r4.1) != (w64 (6 * r5))), false), (((bAnd (shrK .i64 p3 z3) 1) == 1), true)], vS (Instr.loadAt 22 (pa g1 0)), .slice A1 p1.length c1⟩, ⟨true, [(((geti p1 r4.1) != (w64 (6 * r5))), false), (((bAnd (shrK .i64 p3 z3) 1) == 1), true)], vS (Instr.indexAt 22 (.slice A1 p1.length c1) (vi r4.2)), .pointer (some (sAddr A1 r4.2))⟩, ⟨false, [(((geti p1 r4.1) != (w64 (6 * r5))), false), (((bAnd (shrK .i64 p3 z3) 1) == 1), true)], vS (Instr.loadAt 3 (.pointer (some (sAddr A1 r4.2)))), vi (geti p1 r4.2)⟩] [none, some (vi p3), none, some (vi (shrK .i64 p3 z3)), none, none, none, none, some (.slice A1 p1.length c1), none, some (.pointer (some (sAddr A1 r4.1))), some (vi (geti p1 r4.1)), none, none, none, none, none, some (.slice A1 p1.length c1), none, some (.pointer (some (sAddr A1 r4.2))), some (vi (geti p1 r4.2)), none, none, none, none, none] [1, 98, 134] [pl 1 (pa g1 0), pl 98 (vi z3), pl 134 (.bool (((bAnd (shrK .i64 p3 z3) 1) == 1) && (((geti p1 r4.1) != (w64 (6 * r5))) || ((geti p1 r4.2) != (w64 (4 * r5))))))] hF hS ?_ (fun a w hF hS => ?_)
       ·exact obs_cons (ob_load Agg3 (fun _ _ hS => (hS.at_ 0 rfl).cell rfl)) <| obs_cons (ob_shr (fun _ => hp5)) <| obs_cons (ob_load Agg22 (fun _ _ hS => (hS.at_ 0 rfl).cell rfl)) <| obs_cons (ob_ix1 (f := (Value.int .i64)) (m := p1) Und22 hi3 hs3 (hr_p1 _ (hS.dropN 1)) rfl (fun hy => hp6 (hy (((bAnd (shrK .i64 p3 z3) 1) == 1), true) (by simp)))) <| obs_cons (ob_get1 (n := p1.length) (m := p1) (Value.int .i64) (0 : Int) Agg3 (fun _ hS => ⟨_, (hr_p1 _ (hS.dropN 1))⟩) (fun _ hS => rfl) (fun hy => hp6 (hy (((bAnd (shrK .i64 p3 z3) 1) == 1), true) (by simp)))) <| obs_cons (ob_load Agg22 (fun _ _ hS => (hS.at_ 0 rfl).cell rfl)) <| obs_cons (ob_ix1 (f := (Value.int .i64)) (m := p1) Und22 hi3 hs3 (hr_p1 _ (hS.dropN 1)) rfl (fun hy => hp7 (hy (((geti p1 r4.1) != (w64 (6 * r5))), false) (by simp)) (hy (((bAnd (shrK .i64 p3 z3) 1) == 1), true) (by simp)))) <| obs_cons (ob_get1 (n := p1.length) (m := p1) (Value.int .i64) (0 : Int) Agg3 (fun _ hS => ⟨_, (hr_p1 _ (hS.dropN 1))⟩) (fun _ hS => rfl) (fun hy => hp7 (hy (((geti p1 r4.1) != (w64 (6 * r5))), false) (by simp)) (hy (((bAnd (shrK .i64 p3 z3) 1) == 1), true) (by simp)))) <| obs_nil
       refine ce (t := 134) (b := ((bAnd (shrK .i64 p3 z3) 1) == 1) && (((geti p1 r4.1) != (w64 (6 * r5))) || ((geti p1 r4.2) != (w64 (4 * r5))))) hF (fun hb => ?_) (fun hb => ?_)
       ·replace hm := if_t hm hb
        refine rg [] [] [2] [pl 2 (.bool false)] hF hS obs_nil (fun a w hF hS => ?_)
        refine wpIn_ret ?_
        refine block_r (then_r (then_r (block_r (then_r ?_))))
        rw [← hφ2] at hm
        replace hm := done_b hm
        unfold board_May_K2 at hm
        try dsimp only at hm
        have hS := hS.pickN 1 [] (by decide)
        have hm : some false = some r := hm
        obtain rfl := Option.some.inj hm
        exact retV (rs := [.tmp 2]) (vs := [.bool false]) hF rfl rv1 rfl ⟨rfl, hS⟩
       ·replace hm := if_f hm hb
        refine wpIn_skip ?_
        refine block_n ?_
        refine then_n ?_
        exact ⟨hF.wk [1, 98], hS, hm⟩
     ·refine ce (t := 99) (b := decide (z3 < 4)) hF (fun hb => ?_) (fun hb => ?_)
      ·replace hm := if_t hm hb
       refine wpIn_skip ?_
       refine then_n ?_
       exact ⟨hF.wk [1, 98], hS, hm⟩
      ·replace hm := if_f hm hb
       refine wpIn_exit ?_
       refine then_e (then_e (block_e (then_n ?_)))
       rw [← hφ2] at hm
       replace hm := done_b hm
       unfold board_May_K2 at hm
       try dsimp only at hm
       have hm : ((board_May_J7 p1 p2 p3 p4 p5 p6)).bind some = some r := hm
       exact ⟨hF.wk [1], hS, hm⟩
   ·obtain ⟨r3, hr3, hm⟩ := call_b hm
    refine rg [⟨false, [], vS (Instr.loadAt 150 (pa g2 0)), .agg (List.toArray (([] : List Value) ++ (arr1 (Value.int .i64) (0 : Int) 2 kings2 ++ ([] : List Value))))⟩, ⟨true, [], vS (do eqGuard .neq 150 (.tmp 87) (.tmp 88) (.agg (List.toArray (([] : List Value) ++ (arr1 (Value.int .i64) (0 : Int) 2 kings2 ++ ([] : List Value))))) (.agg (List.toArray (([] : List Value) ++ (arr1 (Value.int .i64) (0 : Int) 2 ([1, 1] : List Int) ++ ([] : List Value))))); binOp .neq 150 (.agg (List.toArray (([] : List Value) ++ (arr1 (Value.int .i64) (0 : Int) 2 kings2 ++ ([] : List Value))))) (.agg (List.toArray (([] : List Value) ++ (arr1 (Value.int .i64) (0 : Int) 2 ([1, 1] : List Int) ++ ([] : List Value)))))), .bool (!(((geti kings2 0) == (geti ([1, 1] : List Int) 0)) && ((geti kings2 1) == (geti ([1, 1] : List Int) 1))))⟩, ⟨false, [(!(((geti kings2 0) == (geti ([1, 1] : List Int) 0)) && ((geti kings2 1) == (geti ([1, 1] : List Int) 1))), false)], vS (Instr.loadAt 22 (pa g1 0)), .slice A1 p1.length c1⟩, ⟨false, [(!(((geti kings2 0) == (geti ([1, 1] : List Int) 0)) && ((geti kings2 1) == (geti ([1, 1] : List Int) 1))), false)], vS (Instr.loadAt 3 (pa g1 1)), vi p2⟩, ⟨false, [(!(((geti kings2 0) == (geti ([1, 1] : List Int) 0)) && ((geti kings2 1) == (geti ([1, 1] : List Int) 1))), false)], callFunc 109 #[.slice A1 p1.length c1, vi (w64 (1 - p2))], .bool r3⟩] [some (.agg (List.toArray (([] : List Value) ++ (arr1 (Value.int .i64) (0 : Int) 2 kings2 ++ ([] : List Value))))), none, some (.bool (!(((geti kings2 0) == (geti ([1, 1] : List Int) 0)) && ((geti kings2 1) == (geti ([1, 1] : List Int) 1))))), none, none, some (.slice A1 p1.length c1), none, some (vi p2), none, some (.bool r3), none] [1, 97] [pl 1 (pa g1 0), pl 97 (.bool ((!(((geti kings2 0) == (geti ([1, 1] : List Int) 0)) && ((geti kings2 1) == (geti ([1, 1] : List Int) 1)))) || r3))] hF hS ?_ (fun a w hF hS => ?_)
    ·exact obs_cons (ob_loadA (cs := (List.toArray (([] : List Value) ++ (arr1 (Value.int .i64) (0 : Int) 2 kings2 ++ ([] : List Value))))) (by kernel_rfl) (by kernel_rfl) (fun _ _ hS => (hS.at_ 1 rfl).cellsAt 0 (by rfl))) <| obs_cons (ob_neq rfl (by kernel_rfl) (fun w => Eql150 w)) <| obs_cons (ob_load Agg22 (fun _ _ hS => (hS.at_ 0 rfl).cell rfl)) <| obs_cons (ob_load Agg3 (fun _ _ hS => (hS.at_ 0 rfl).cell rfl)) <| obs_cons (ob_call Try.func109 (by kernel_rfl) rfl (fun hy _ hS => board_Checked_w (ite_some hr3 (by rw [show (!(((geti kings2 0) == (geti ([1, 1] : List Int) 0)) && ((geti kings2 1) == (geti ([1, 1] : List Int) 1)))) = false from hy (!(((geti kings2 0) == (geti ([1, 1] : List Int) 0)) && ((geti kings2 1) == (geti ([1, 1] : List Int) 1))), false) (by simp)]; try rfl)) hS (fun _ hS => (hr_p1 _ (hS.dropN 2))) _hc_p1 rfl)) <| obs_nil
    refine ce (t := 97) (b := (!(((geti kings2 0) == (geti ([1, 1] : List Int) 0)) && ((geti kings2 1) == (geti ([1, 1] : List Int) 1)))) || r3) hF (fun hb => ?_) (fun hb => ?_)
    ·replace hm := if_t hm hb
     refine rg [] [] [2] [pl 2 (.bool false)] hF hS obs_nil (fun a w hF hS => ?_)
     refine wpIn_ret ?_
     refine then_r ?_
     have hS := hS.pickN 2 [] (by decide)
     have hm : some false = some r := hm
     obtain rfl := Option.some.inj hm
     exact retV (rs := [.tmp 2]) (vs := [.bool false]) hF rfl rv1 rfl ⟨rfl, hS⟩
    ·replace hm := if_f hm hb
     refine wpIn_skip ?_
     refine then_n ?_
     have hS := hS.pickN 2 [0] (by decide)
     exact ⟨hF.wk [1], hS, hm⟩
  ·refine rg [⟨false, [], vS (Instr.loadAt 22 (pa g1 0)), .slice A1 p1.length c1⟩] [none, some (.slice A1 p1.length c1), none, none] [1, 3, 55, 56, 57] [pl 1 (pa g1 0), pl 3 (pa g2 0), pl 55 (.slice A1 p1.length c1), pl 56 (vi (p1.length : Int)), pl 57 (vi 0)] hF hS ?_ (fun a w hF hS => ?_)
   ·exact obs_cons (ob_load Agg22 (fun _ _ hS => (hS.at_ 1 rfl).cell rfl)) <| obs_nil
   refine wpIn_block ?_
   have hS := hS.pickN 2 [1, 0] (by decide)
   refine wp_loop_model (S := (List Int × Int)) (R := (Fl (List Int) Bool)) (board_May_L1 p1) (fun x => ((board_May_K1 p1 p2 p3 p4 p5 p6) x).bind some) r (fun (x : (List Int × Int)) a w => Fr 143 [pl 1 (pa g1 0), pl 3 (pa g2 0), pl 55 (.slice A1 p1.length c1), pl 56 (vi (p1.length : Int)), pl 57 (vi x.2)] a ∧ Sep w0 B w (blk g1 65 (ca A1 p1.length c1 p2 p3 p4 p5 p6) :: blk g2 150 (List.toArray (([] : List Value) ++ (arr1 (Value.int .i64) (0 : Int) 2 x.1 ++ ([] : List Value)))) :: fs)) (assoc_b hm) ⟨hF.wk [1, 3, 55, 56, 57], hS⟩ ?_
   clear hF hS hm
   rintro nn1 ⟨kings1, z1⟩ a w ⟨hF, hS⟩ hm
   generalize hφ1 : stK (board_May_L1 p1) nn1 (fun x => ((board_May_K1 p1 p2 p3 p4 p5 p6) x).bind some) = φ1 at hm
   unfold board_May_L1 at hm
   dsimp only at hF hS hm
   refine rg [] [] [1, 3, 55, 56, 57, 58] [pl 1 (pa g1 0), pl 3 (pa g2 0), pl 55 (.slice A1 p1.length c1), pl 56 (vi (p1.length : Int)), pl 57 (vi z1), pl 58 (.bool (decide (z1 < (p1.length : Int))))] hF hS obs_nil (fun a w hF hS => ?_)
   refine seq_cut (fun a w => Fr 143 [pl 1 (pa g1 0), pl 3 (pa g2 0), pl 55 (.slice A1 p1.length c1), pl 56 (vi (p1.length : Int)), pl 57 (vi z1)] a ∧ Sep w0 B w (blk g1 65 (ca A1 p1.length c1 p2 p3 p4 p5 p6) :: blk g2 150 (List.toArray (([] : List Value) ++ (arr1 (Value.int .i64) (0 : Int) 2 kings1 ++ ([] : List Value)))) :: fs) ∧ ((board_May_J3 p1 kings1 z1)).bind φ1 = some r) ?_ ?_
   ·rintro a w ⟨hF, hS, hm⟩
    unfold board_May_J3 at hm
    refine seq_cut (fun a w => ∃ (kings3 : List Int), Fr 143 [pl 1 (pa g1 0), pl 3 (pa g2 0), pl 55 (.slice A1 p1.length c1), pl 56 (vi (p1.length : Int)), pl 57 (vi z1)] a ∧ Sep w0 B w (blk g1 65 (ca A1 p1.length c1 p2 p3 p4 p5 p6) :: blk g2 150 (List.toArray (([] : List Value) ++ (arr1 (Value.int .i64) (0 : Int) 2 kings3 ++ ([] : List Value)))) :: fs) ∧ ((board_May_J4 z1) kings3).bind φ1 = some r) ?_ ?_
    ·rintro a w ⟨kings3, hF, hS, hm⟩
     unfold board_May_J4 at hm
     refine rg1 [] [] [1, 3, 55, 56, 57] [pl 1 (pa g1 0), pl 3 (pa g2 0), pl 55 (.slice A1 p1.length c1), pl 56 (vi (p1.length : Int)), pl 57 (vi (w64 (z1 + 1)))] hF hS obs_nil (fun a w hF hS => ?_)
     refine then_n ?_
     rw [← hφ1] at hm
     exact ⟨(kings3, (w64 (z1 + 1))), ⟨hF.wk [1, 3, 55, 56, 57], hS⟩, hm⟩
    ·refine wpIn_block ?_
     obtain ⟨hp1, hm⟩ := asrt_b hm
     refine rg [⟨true, [], vS (Instr.indexAt 22 (.slice A1 p1.length c1) (vi z1)), .pointer (some (sAddr A1 z1))⟩, ⟨false, [], vS (Instr.loadAt 3 (.pointer (some (sAddr A1 z1)))), vi (geti p1 z1)⟩] [none, some (.pointer (some (sAddr A1 z1))), some (vi (geti p1 z1)), none, none] [1, 3, 4, 5, 55, 56, 57] [pl 1 (pa g1 0), pl 3 (pa g2 0), pl 4 (vi z1), pl 5 (vi (geti p1 z1)), pl 55 (.slice A1 p1.length c1), pl 56 (vi (p1.length : Int)), pl 57 (vi z1)] hF hS ?_ (fun a w hF hS => ?_)
     ·exact obs_cons (ob_ix1 (f := (Value.int .i64)) (m := p1) Und22 hi3 hs3 (hr_p1 _ (hS.dropN 2)) rfl (fun _ => hp1)) <| obs_cons (ob_get1 (n := p1.length) (m := p1) (Value.int .i64) (0 : Int) Agg3 (fun _ hS => ⟨_, (hr_p1 _ (hS.dropN 2))⟩) (fun _ hS => rfl) (fun _ => hp1)) <| obs_nil
     obtain ⟨r1, hr1, hm⟩ := call_b hm
     refine rg [⟨false, [], callFunc 107 #[vi (geti p1 z1)], vi r1⟩] [none, some (vi r1)] [1, 3, 4, 5, 55, 56, 57, 63] [pl 1 (pa g1 0), pl 3 (pa g2 0), pl 4 (vi z1), pl 5 (vi (geti p1 z1)), pl 55 (.slice A1 p1.length c1), pl 56 (vi (p1.length : Int)), pl 57 (vi z1), pl 63 (vi r1)] hF hS ?_ (fun a w hF hS => ?_)
     ·exact obs_cons (ob_call Try.func107 (by kernel_rfl) rfl (fun _ _ hS => board_Kind_w hr1 hS )) <| obs_nil
     refine wpIn_block ?_
     refine seq_cut (fun a w => ∃ (z2 : Bool), Fr 143 [pl 1 (pa g1 0), pl 3 (pa g2 0), pl 4 (vi z1), pl 5 (vi (geti p1 z1)), pl 55 (.slice A1 p1.length c1), pl 56 (vi (p1.length : Int)), pl 57 (vi z1), pl 63 (vi r1), pl 64 (.bool z2)] a ∧ Sep w0 B w (blk g1 65 (ca A1 p1.length c1 p2 p3 p4 p5 p6) :: blk g2 150 (List.toArray (([] : List Value) ++ (arr1 (Value.int .i64) (0 : Int) 2 kings1 ++ ([] : List Value)))) :: fs) ∧ ((board_May_J5 p1 kings1 z1 r1) z2).bind φ1 = some r) ?_ ?_
     ·rintro a w ⟨z2, hF, hS, hm⟩
      unfold board_May_J5 at hm
      refine ce (t := 64) (b := z2) hF (fun hb => ?_) (fun hb => ?_)
      ·replace hm := if_t hm hb
       refine wpIn_skip ?_
       refine block_n ?_
       refine block_n ?_
       refine then_n ?_
       exact ⟨kings1, hF.wk [1, 3, 55, 56, 57], hS, hm⟩
      ·replace hm := if_f hm hb
       refine rg [] [] [1, 3, 4, 5, 55, 56, 57, 63, 70] [pl 1 (pa g1 0), pl 3 (pa g2 0), pl 4 (vi z1), pl 5 (vi (geti p1 z1)), pl 55 (.slice A1 p1.length c1), pl 56 (vi (p1.length : Int)), pl 57 (vi z1), pl 63 (vi r1), pl 70 (.bool (r1 == 1))] hF hS obs_nil (fun a w hF hS => ?_)
       refine ce (t := 70) (b := (r1 == 1)) hF (fun hb => ?_) (fun hb => ?_)
       ·replace hm := if_t hm hb
        refine rg [] [] [1, 3, 55, 56, 57, 77] [pl 1 (pa g1 0), pl 3 (pa g2 0), pl 55 (.slice A1 p1.length c1), pl 56 (vi (p1.length : Int)), pl 57 (vi z1), pl 77 (.bool ((decide (z1 < 8)) || (decide ((56 : Int) ≤ z1))))] hF hS obs_nil (fun a w hF hS => ?_)
        refine ce (t := 77) (b := (decide (z1 < 8)) || (decide ((56 : Int) ≤ z1))) hF (fun hb => ?_) (fun hb => ?_)
        ·replace hm := if_t hm hb
         refine rg [] [] [2] [pl 2 (.bool false)] hF hS obs_nil (fun a w hF hS => ?_)
         refine wpIn_ret ?_
         refine block_r (block_r (then_r (then_r (block_r (then_r ?_)))))
         rw [← hφ1] at hm
         replace hm := done_b hm
         unfold board_May_K1 at hm
         try dsimp only at hm
         have hS := hS.pickN 2 [] (by decide)
         have hm : some false = some r := hm
         obtain rfl := Option.some.inj hm
         exact retV (rs := [.tmp 2]) (vs := [.bool false]) hF rfl rv1 rfl ⟨rfl, hS⟩
        ·replace hm := if_f hm hb
         refine wpIn_skip ?_
         refine block_n ?_
         refine block_n ?_
         refine then_n ?_
         exact ⟨kings1, hF.wk [1, 3, 55, 56, 57], hS, hm⟩
       ·replace hm := if_f hm hb
        refine rg [] [] [1, 3, 5, 55, 56, 57, 78] [pl 1 (pa g1 0), pl 3 (pa g2 0), pl 5 (vi (geti p1 z1)), pl 55 (.slice A1 p1.length c1), pl 56 (vi (p1.length : Int)), pl 57 (vi z1), pl 78 (.bool (r1 == 6))] hF hS obs_nil (fun a w hF hS => ?_)
        refine ce (t := 78) (b := (r1 == 6)) hF (fun hb => ?_) (fun hb => ?_)
        ·replace hm := if_t hm hb
         refine oneR ?_
         obtain ⟨r2, hr2, hm⟩ := call_b hm
         obtain ⟨hp2, hm⟩ := asrt_b hm
         obtain ⟨hp3, hm⟩ := asrt_b hm
         obtain ⟨hp4, hm⟩ := asrt_b hm
         refine ar 6 [⟨false, [], callFunc 108 #[vi (geti p1 z1)], vi r2⟩, ⟨true, [], vS (Instr.indexAt 150 (pa g2 0) (vi r2)), .pointer (some ((⟨g2, 0, none⟩ : Addr).add (Int.toNat r2 * 1)))⟩, ⟨false, [], vS (Instr.loadAt 3 (.pointer (some ((⟨g2, 0, none⟩ : Addr).add (Int.toNat r2 * 1))))), vi (geti kings1 r2)⟩, ⟨true, [], vS (Instr.indexAt 150 (pa g2 0) (vi r2)), .pointer (some ((⟨g2, 0, none⟩ : Addr).add (Int.toNat r2 * 1)))⟩] [none, some (vi r2), some (.pointer (some ((⟨g2, 0, none⟩ : Addr).add (Int.toNat r2 * 1)))), some (vi (geti kings1 r2)), none, some (.pointer (some ((⟨g2, 0, none⟩ : Addr).add (Int.toNat r2 * 1))))] [1, 3, 55, 56, 57, 84, 85] [pl 1 (pa g1 0), pl 3 (pa g2 0), pl 55 (.slice A1 p1.length c1), pl 56 (vi (p1.length : Int)), pl 57 (vi z1), pl 84 (vi (w64 ((geti kings1 r2) + 1))), pl 85 (.pointer (some ((⟨g2, 0, none⟩ : Addr).add (Int.toNat r2 * 1))))] hF hS ?_ (fun a w hF hS => ?_)
         ·exact obs_cons (ob_call Try.func108 (by kernel_rfl) rfl (fun _ _ hS => board_Side_w hr2 hS )) <| obs_cons (ob_ixA UndA150 hi3 hs3 (fun _ => hp2)) <| obs_cons (ob_getA (m := kings1) (Value.int .i64) (0 : Int) 2 ([] : List Value) ([] : List Value) r2 Agg3 rfl (fun _ hS => ⟨_, _, _, _, _, hS.at_ 1 rfl⟩) (fun hy => by have h0 := hp2; omega)) <| obs_cons (ob_ixA UndA150 hi3 hs3 (fun _ => hp3)) <| obs_nil
         obtain ⟨w, hrun, hS⟩ := run_setA (P := Try.prog) (t := 3) (x := (w64 ((geti kings1 r2) + 1))) (i := r2) (m := kings1) (d := Int.toNat r2 * 1) (Value.int .i64) (0 : Int) 2 ([] : List Value) ([] : List Value) (hS.at_ 1 rfl) rfl hi3 hs3 rfl (by have h0 := hp3; omega) (by have h0 := hp3; have h9 := hp4; omega)
         refine at_s hF hrun ?_
         have hS : Sep w0 B w (blk g1 65 (ca A1 p1.length c1 p2 p3 p4 p5 p6) :: blk g2 150 (List.toArray (([] : List Value) ++ (arr1 (Value.int .i64) (0 : Int) 2 (kings1.set (Int.toNat r2) (w64 ((geti kings1 r2) + 1))) ++ ([] : List Value)))) :: fs) := hS
         refine ae [1, 3, 55, 56, 57] [pl 1 (pa g1 0), pl 3 (pa g2 0), pl 55 (.slice A1 p1.length c1), pl 56 (vi (p1.length : Int)), pl 57 (vi z1)] hF rfl (fun hF => ?_)
         refine block_n ?_
         refine block_n ?_
         refine then_n ?_
         exact ⟨(kings1.set (Int.toNat r2) (w64 ((geti kings1 r2) + 1))), hF.wk [1, 3, 55, 56, 57], hS, hm⟩
        ·replace hm := if_f hm hb
         refine rg [] [] [2] [pl 2 (.bool false)] hF hS obs_nil (fun a w hF hS => ?_)
         refine wpIn_ret ?_
         refine block_r (block_r (then_r (then_r (block_r (then_r ?_)))))
         rw [← hφ1] at hm
         replace hm := done_b hm
         unfold board_May_K1 at hm
         try dsimp only at hm
         have hS := hS.pickN 2 [] (by decide)
         have hm : some false = some r := hm
         obtain rfl := Option.some.inj hm
         exact retV (rs := [.tmp 2]) (vs := [.bool false]) hF rfl rv1 rfl ⟨rfl, hS⟩
     ·refine rg [] [] [1, 3, 4, 5, 55, 56, 57, 63, 64] [pl 1 (pa g1 0), pl 3 (pa g2 0), pl 4 (vi z1), pl 5 (vi (geti p1 z1)), pl 55 (.slice A1 p1.length c1), pl 56 (vi (p1.length : Int)), pl 57 (vi z1), pl 63 (vi r1), pl 64 (.bool (r1 == 0))] hF hS obs_nil (fun a w hF hS => ?_)
      refine ce (t := 64) (b := (r1 == 0)) hF (fun hb => ?_) (fun hb => ?_)
      ·replace hm := if_t hm hb
       refine wpIn_skip ?_
       refine then_n ?_
       exact ⟨(r1 == 0), hF.wk [1, 3, 4, 5, 55, 56, 57, 63, 64], hS, hm⟩
      ·replace hm := if_f hm hb
       refine rg [] [] [1, 3, 4, 5, 55, 56, 57, 63, 64] [pl 1 (pa g1 0), pl 3 (pa g2 0), pl 4 (vi z1), pl 5 (vi (geti p1 z1)), pl 55 (.slice A1 p1.length c1), pl 56 (vi (p1.length : Int)), pl 57 (vi z1), pl 63 (vi r1), pl 64 (.bool (r1 == 2))] hF hS obs_nil (fun a w hF hS => ?_)
       refine ce (t := 64) (b := (r1 == 2)) hF (fun hb => ?_) (fun hb => ?_)
       ·replace hm := if_t hm hb
        refine wpIn_skip ?_
        refine then_n ?_
        exact ⟨(r1 == 2), hF.wk [1, 3, 4, 5, 55, 56, 57, 63, 64], hS, hm⟩
       ·replace hm := if_f hm hb
        refine rg [] [] [1, 3, 4, 5, 55, 56, 57, 63, 64] [pl 1 (pa g1 0), pl 3 (pa g2 0), pl 4 (vi z1), pl 5 (vi (geti p1 z1)), pl 55 (.slice A1 p1.length c1), pl 56 (vi (p1.length : Int)), pl 57 (vi z1), pl 63 (vi r1), pl 64 (.bool (r1 == 3))] hF hS obs_nil (fun a w hF hS => ?_)
        refine ce (t := 64) (b := (r1 == 3)) hF (fun hb => ?_) (fun hb => ?_)
        ·replace hm := if_t hm hb
         refine wpIn_skip ?_
         refine then_n ?_
         exact ⟨(r1 == 3), hF.wk [1, 3, 4, 5, 55, 56, 57, 63, 64], hS, hm⟩
        ·replace hm := if_f hm hb
         refine rg [] [] [1, 3, 4, 5, 55, 56, 57, 63, 64] [pl 1 (pa g1 0), pl 3 (pa g2 0), pl 4 (vi z1), pl 5 (vi (geti p1 z1)), pl 55 (.slice A1 p1.length c1), pl 56 (vi (p1.length : Int)), pl 57 (vi z1), pl 63 (vi r1), pl 64 (.bool (r1 == 4))] hF hS obs_nil (fun a w hF hS => ?_)
         refine ce (t := 64) (b := (r1 == 4)) hF (fun hb => ?_) (fun hb => ?_)
         ·replace hm := if_t hm hb
          refine wpIn_skip ?_
          refine then_n ?_
          exact ⟨(r1 == 4), hF.wk [1, 3, 4, 5, 55, 56, 57, 63, 64], hS, hm⟩
         ·replace hm := if_f hm hb
          refine rg1 [] [] [1, 3, 4, 5, 55, 56, 57, 63, 64] [pl 1 (pa g1 0), pl 3 (pa g2 0), pl 4 (vi z1), pl 5 (vi (geti p1 z1)), pl 55 (.slice A1 p1.length c1), pl 56 (vi (p1.length : Int)), pl 57 (vi z1), pl 63 (vi r1), pl 64 (.bool (r1 == 5))] hF hS obs_nil (fun a w hF hS => ?_)
          refine then_n ?_
          exact ⟨(r1 == 5), hF.wk [1, 3, 4, 5, 55, 56, 57, 63, 64], hS, hm⟩
   ·refine ce (t := 58) (b := decide (z1 < (p1.length : Int))) hF (fun hb => ?_) (fun hb => ?_)
    ·replace hm := if_t hm hb
     refine wpIn_skip ?_
     refine then_n ?_
     exact ⟨hF.wk [1, 3, 55, 56, 57], hS, hm⟩
    ·replace hm := if_f hm hb
     refine wpIn_exit ?_
     refine then_e (then_e (block_e (then_n ?_)))
     rw [← hφ1] at hm
     replace hm := done_b hm
     unfold board_May_K1 at hm
     try dsimp only at hm
     have hm : ((board_May_J2 p1 p2 p3 p4 p5 p6) kings1).bind some = some r := hm
     exact ⟨kings1, hF.wk [1, 3], hS, hm⟩
 ·refine rg [⟨false, [], vS (Instr.loadAt 22 (pa g1 0)), .slice A1 p1.length c1⟩, ⟨false, [(((p1.length : Int) != 64), false)], vS (Instr.loadAt 3 (pa g1 1)), vi p2⟩, ⟨false, [(((p1.length : Int) != 64) || (decide (p2 < 0)), false)], vS (Instr.loadAt 3 (pa g1 1)), vi p2⟩, ⟨false, [((((p1.length : Int) != 64) || (decide (p2 < 0))) || (decide ((1 : Int) < p2)), false)], vS (Instr.loadAt 3 (pa g1 2)), vi p3⟩, ⟨false, [(((((p1.length : Int) != 64) || (decide (p2 < 0))) || (decide ((1 : Int) < p2))) || (decide (p3 < 0)), false)], vS (Instr.loadAt 3 (pa g1 2)), vi p3⟩, ⟨false, [((((((p1.length : Int) != 64) || (decide (p2 < 0))) || (decide ((1 : Int) < p2))) || (decide (p3 < 0))) || (decide ((15 : Int) < p3)), false)], vS (Instr.loadAt 3 (pa g1 4)), vi p5⟩, ⟨false, [(((((((p1.length : Int) != 64) || (decide (p2 < 0))) || (decide ((1 : Int) < p2))) || (decide (p3 < 0))) || (decide ((15 : Int) < p3))) || (decide (p5 < 0)), false)], vS (Instr.loadAt 3 (pa g1 4)), vi p5⟩, ⟨false, [((((((((p1.length : Int) != 64) || (decide (p2 < 0))) || (decide ((1 : Int) < p2))) || (decide (p3 < 0))) || (decide ((15 : Int) < p3))) || (decide (p5 < 0))) || (decide ((999 : Int) < p5)), false)], vS (Instr.loadAt 3 (pa g1 5)), vi p6⟩, ⟨false, [(((((((((p1.length : Int) != 64) || (decide (p2 < 0))) || (decide ((1 : Int) < p2))) || (decide (p3 < 0))) || (decide ((15 : Int) < p3))) || (decide (p5 < 0))) || (decide ((999 : Int) < p5))) || (decide (p6 < 1)), false)], vS (Instr.loadAt 3 (pa g1 5)), vi p6⟩] [none, some (.slice A1 p1.length c1), none, none, none, none, some (vi p2), none, none, none, none, some (vi p2), none, none, none, none, some (vi p3), none, none, none, none, some (vi p3), none, none, none, none, some (vi p5), none, none, none, none, some (vi p5), none, none, none, none, some (vi p6), none, none, none, none, some (vi p6), none, none] [1, 53] [pl 1 (pa g1 0), pl 53 (.bool ((((((((((p1.length : Int) != 64) || (decide (p2 < 0))) || (decide ((1 : Int) < p2))) || (decide (p3 < 0))) || (decide ((15 : Int) < p3))) || (decide (p5 < 0))) || (decide ((999 : Int) < p5))) || (decide (p6 < 1))) || (decide ((999 : Int) < p6))))] hF hS ?_ (fun a w hF hS => ?_)
  ·exact obs_cons (ob_load Agg22 (fun _ _ hS => (hS.at_ 0 rfl).cell rfl)) <| obs_cons (ob_load Agg3 (fun _ _ hS => (hS.at_ 0 rfl).cell rfl)) <| obs_cons (ob_load Agg3 (fun _ _ hS => (hS.at_ 0 rfl).cell rfl)) <| obs_cons (ob_load Agg3 (fun _ _ hS => (hS.at_ 0 rfl).cell rfl)) <| obs_cons (ob_load Agg3 (fun _ _ hS => (hS.at_ 0 rfl).cell rfl)) <| obs_cons (ob_load Agg3 (fun _ _ hS => (hS.at_ 0 rfl).cell rfl)) <| obs_cons (ob_load Agg3 (fun _ _ hS => (hS.at_ 0 rfl).cell rfl)) <| obs_cons (ob_load Agg3 (fun _ _ hS => (hS.at_ 0 rfl).cell rfl)) <| obs_cons (ob_load Agg3 (fun _ _ hS => (hS.at_ 0 rfl).cell rfl)) <| obs_nil
  refine ce (t := 53) (b := (((((((((p1.length : Int) != 64) || (decide (p2 < 0))) || (decide ((1 : Int) < p2))) || (decide (p3 < 0))) || (decide ((15 : Int) < p3))) || (decide (p5 < 0))) || (decide ((999 : Int) < p5))) || (decide (p6 < 1))) || (decide ((999 : Int) < p6))) hF (fun hb => ?_) (fun hb => ?_)
  ·replace hm := if_t hm hb
   refine rg [] [] [2] [pl 2 (.bool false)] hF hS obs_nil (fun a w hF hS => ?_)
   refine wpIn_ret ?_
   refine then_r ?_
   have hS := hS.pickN 1 [] (by decide)
   have hm : some false = some r := hm
   obtain rfl := Option.some.inj hm
   exact retV (rs := [.tmp 2]) (vs := [.bool false]) hF rfl rv1 rfl ⟨rfl, hS⟩
  ·replace hm := if_f hm hb
   refine wpIn_skip ?_
   refine then_n ?_
   exact ⟨hF.wk [1], hS, hm⟩

def slices_Clone_J1  (s1 : List Int) : Option (List Int) :=
 asrt ((0 : Int) + (s1.length : Int) ≤ bigN) <| some (([] : List Int) ++ s1)

def slices_Clone_m  (s1 : List Int) : Option (List Int) :=
 (slices_Clone_J1 s1)

theorem slices_Clone_w  {A1 : Option Addr} {c1 n1 : Nat} {s1 : List Int} {r : (List Int)} {w0 w : World} {B : Nat} {fs : List HP} (hm : slices_Clone_m s1 = some r) (hS : Sep w0 B w (fs)) (hr_s1 : RdF w0 B fs A1 (vI s1)) (_hc_s1 : s1.length ≤ c1) (_hn_s1 : n1 = s1.length) :
  Calls Try.prog 78 #[.slice A1 n1 c1] w fun e w' => ∃ v, e = .returned v ∧ ∃ (A3 : Option Addr) (c3 : Nat), v = .slice A3 r.length c3 ∧ Sep w0 B w' (own 3 (.slice A3 r.length c3) (vI r) :: fs) := by
 obtain ⟨i3, hi3, hz3, hs3, hb3⟩ := info_parts Info3
 obtain rfl := _hn_s1
 unfold slices_Clone_m at hm
 replace hm := start_b hm
 refine enter (l := [.slice A1 s1.length c1]) (n := 8) Try.func78 rfl rfl (by simp) (fun a hF => ?_)
 refine rg [] [] [0] [pl 0 (.slice A1 s1.length c1)] hF hS obs_nil (fun a w hF hS => ?_)
 refine seq_cut (fun a w => Fr 8 [pl 0 (.slice A1 s1.length c1)] a ∧ Sep w0 B w (fs) ∧ ((slices_Clone_J1 s1)).bind some = some r) ?_ ?_
 ·rintro a w ⟨hF, hS, hm⟩
  unfold slices_Clone_J1 at hm
  refine seqR ?_
  obtain ⟨hp1, hm⟩ := asrt_b hm
  refine at_do (d := 5) (s := vS (Instr.buildSlice 22 0 #[])) (v := .slice (some ⟨w.heap.size, 0, none⟩) 0 0) (w' := w.alloc (.cells #[] 3)) hF (by kernel_rfl) (by kernel_rfl) (by kernel_rfl) (fun a hF => ?_)
  have hS : Sep w0 B (w.alloc (.cells #[] 3)) (own 3 (.slice (some (⟨w.heap.size, 0, none⟩ : Addr)) 0 0) (vI ([] : List Int)) :: (fs)) := hS.lit 3 #[] 0 rfl (by omega)
  generalize (some (⟨w.heap.size, 0, none⟩ : Addr)) = g1 at hF hS
  generalize w.alloc (.cells #[] 3) = w at hS ⊢
  refine ar 1 [] [] [5, 6] [pl 5 (.slice g1 0 0), pl 6 (.slice A1 s1.length c1)] hF hS obs_nil (fun a w hF hS => ?_)
  obtain ⟨A2, c2, w, hrun, hS⟩ := run_app1 (P := Try.prog) (t := 22) (m := ([] : List Int)) (ys := s1) (A2 := A1) (m2 := s1.length) (c2 := c1) (Value.int .i64) (0 : Int) (hS.at_ 0 rfl) (hr_s1 _ (hS.dropN 1)) rfl 22 Und22 hi3 hz3 hs3 (by omega) rfl (fun _ => rfl) hp1
  have hS : Sep w0 B w (own 3 (.slice A2 ((([] : List Int) ++ s1).length) c2) (vI (([] : List Int) ++ s1)) :: fs) := hS
  refine ad (d := 7) hF hrun (fun a hF => ?_)
  refine ar 1 [] [] [2] [pl 2 (.slice A2 ((([] : List Int) ++ s1).length) c2)] hF hS obs_nil (fun a w hF hS => ?_)
  refine ae [2] [pl 2 (.slice A2 ((([] : List Int) ++ s1).length) c2)] hF rfl (fun hF => ?_)
  refine then_n (wpIn_ret ?_)
  have hm : some (([] : List Int) ++ s1) = some r := hm
  obtain rfl := Option.some.inj hm
  exact retV (rs := [.tmp 2]) (vs := [.slice A2 ((([] : List Int) ++ s1).length) c2]) hF rfl rv1 rfl ⟨_, rfl, A2, c2, rfl, hS⟩
 ·refine rg [⟨true, [], vS (binOp .eql 22 (.slice A1 s1.length c1) (.slice none 0 0)), .bool A1.isNone⟩] [none, some (.bool A1.isNone)] [0, 4] [pl 0 (.slice A1 s1.length c1), pl 4 (.bool A1.isNone)] hF hS ?_ (fun a w hF hS => ?_)
  ·exact obs_cons (ob_isnil Und22 rfl) <| obs_nil
  refine ce (t := 4) (b := A1.isNone) hF (fun hb => ?_) (fun hb => ?_)
  ·have hA9 := Option.isNone_iff_eq_none.1 hb
   have hnil9 : s1 = [] := by have h9 := (hr_s1 _ (hS.dropN 0)); rw [hA9] at h9; exact h9.none_nil
   have hm : (some ([] : List Int)).bind some = some r := by rw [hnil9] at hm; simpa [asrt, bigN, slices_Clone_J1] using hm
   refine rg [] [] [2] [pl 2 (.slice none 0 0)] hF hS obs_nil (fun a w hF hS => ?_)
   refine wpIn_ret ?_
   refine then_r ?_
   have hS : Sep w0 B w (own 3 (.slice none 0 0) (vI ([] : List Int)) :: fs) := hS.nil 3
   have hl1 := (hS.at_ 0 rfl).len1
   have hS := (hS.at_ 0 rfl).reN hl1
   have hS : Sep w0 B w (own 3 (.slice none (([] : List Int).length) 0) (vI ([] : List Int)) :: fs) := hS
   have hm : some ([] : List Int) = some r := hm
   obtain rfl := Option.some.inj hm
   exact retV (rs := [.tmp 2]) (vs := [.slice none (([] : List Int).length) 0]) hF rfl rv1 rfl ⟨_, rfl, none, 0, rfl, hS⟩
  ·refine wpIn_skip ?_
   refine then_n ?_
   exact ⟨hF.wk [0], hS, hm⟩

def board_After_J9  (z1 out10 : Int) : Option (St (Int × Int) Int) :=
 some (.next (out10, (w64 (z1 + 1))))

def board_After_J8  (m1 m2 : Int) (out8 z1 : Int) : Option (St (Int × Int) Int) :=
 (board_Right_m z1).bind fun r4 => if ((m1 == r4.2) || (m2 == r4.2)) then (asrt ((0 : Int) ≤ z1) <| (board_After_J9 z1) (bAndN out8 (shlK .i64 1 z1))) else ((board_After_J9 z1) out8)

def board_After_L1  (m1 m2 : Int) : (Int × Int) → Option (St (Int × Int) Int) :=
 fun (x : (Int × Int)) => match x with | (out8, z1) => if (decide (z1 < 4)) then ((board_After_J8 m1 m2 out8 z1)) else (some (.done out8))

def board_After_J7  (p2 p6 : Int) (out2 : List Int) (out4 out7 out9 : Int) : Option ChT :=
 some (out2, (w64 (1 - p2)), out9, out4, out7, (minI (w64 (p6 + p2)) 999))

def board_After_K1  (p2 p6 : Int) (out2 : List Int) (out4 out7 : Int) : Int → Option ChT :=
 fun (x : Int) => match x with | out9 => (board_After_J7 p2 p6 out2 out4 out7) out9

def board_After_J6  (p2 p6 : Int) (m1 m2 : Int) (out2 : List Int) (out3 out4 out7 : Int) : Option ChT :=
 (loop (board_After_L1 m1 m2) (out3, 0)).bind (board_After_K1 p2 p6 out2 out4 out7)

def board_After_J3  (p1 : List Int) (p2 p6 : Int) (m1 m2 : Int) (out2 : List Int) (out3 out4 out5 : Int) : Option ChT :=
 if ((geti p1 m2) != 0) then ((board_After_J6 p2 p6 m1 m2 out2 out3 out4) 0) else ((board_After_J6 p2 p6 m1 m2 out2 out3 out4) out5)

def board_After_J4  (p1 : List Int) (p2 p3 : Int) (p5 p6 : Int) (m1 m2 : Int) (out6 : List Int) : Option ChT :=
 asrt ((0 : Int) ≤ (w64 (2 * p2))) <| (board_After_J3 p1 p2 p6 m1 m2) out6 (bAndN p3 (shlK .i64 3 (w64 (2 * p2)))) (-1) (minI (w64 (p5 + 1)) 999)

def board_After_J5  (p1 : List Int) (p2 p3 : Int) (p5 p6 : Int) (m1 m2 : Int) (out1 : List Int) (rook1 : Int) : Option ChT :=
 asrt (0 ≤ rook1 ∧ rook1 < (out1.length : Int)) <| asrt (0 ≤ (w64 (m1 + (w64 (Int.tdiv (w64 (m2 - m1)) 2)))) ∧ (w64 (m1 + (w64 (Int.tdiv (w64 (m2 - m1)) 2)))) < (out1.length : Int)) <| asrt (0 ≤ rook1 ∧ rook1 < (out1.length : Int)) <| (board_After_J4 p1 p2 p3 p5 p6 m1 m2) ((((out1.set (Int.toNat m1) 0).set (Int.toNat m2) (geti p1 m1)).set (Int.toNat (w64 (m1 + (w64 (Int.tdiv (w64 (m2 - m1)) 2))))) (geti ((out1.set (Int.toNat m1) 0).set (Int.toNat m2) (geti p1 m1)) rook1)).set (Int.toNat rook1) 0)

def board_After_J2  (p1 : List Int) (p2 p3 : Int) (p4 p5 : Int) (p6 m1 : Int) (m2 m3 r1 : Int) (out1 : List Int) : Option ChT :=
 (board_Kind_m (geti p1 m1)).bind fun r3 => if (r3 == 1) then (if (m2 == p4) then (asrt (0 ≤ (w64 (m2 - (w64 (8 * r1)))) ∧ (w64 (m2 - (w64 (8 * r1)))) < (out1.length : Int)) <| (board_After_J3 p1 p2 p6 m1 m2) (((out1.set (Int.toNat m1) 0).set (Int.toNat m2) (geti p1 m1)).set (Int.toNat (w64 (m2 - (w64 (8 * r1))))) 0) p3 (-1) 0) else (if ((w64 (m2 - m1)) == (w64 (16 * r1))) then ((board_After_J3 p1 p2 p6 m1 m2) ((out1.set (Int.toNat m1) 0).set (Int.toNat m2) (geti p1 m1)) p3 (w64 (m1 + (w64 (8 * r1)))) 0) else (if (decide ((0 : Int) < m3)) then (asrt (0 ≤ m2 ∧ m2 < (out1.length : Int)) <| (board_After_J3 p1 p2 p6 m1 m2) (((out1.set (Int.toNat m1) 0).set (Int.toNat m2) (geti p1 m1)).set (Int.toNat m2) (w64 (m3 * r1))) p3 (-1) 0) else ((board_After_J3 p1 p2 p6 m1 m2) ((out1.set (Int.toNat m1) 0).set (Int.toNat m2) (geti p1 m1)) p3 (-1) 0)))) else (if (r3 == 6) then (if (((w64 (m2 - m1)) == 2) || ((w64 (m2 - m1)) == (-2))) then (if (decide ((w64 (m2 - m1)) < 0)) then ((board_After_J5 p1 p2 p3 p5 p6 m1 m2 out1) (w64 (m1 - 4))) else ((board_After_J5 p1 p2 p3 p5 p6 m1 m2 out1) (w64 (m1 + 3)))) else ((board_After_J4 p1 p2 p3 p5 p6 m1 m2) ((out1.set (Int.toNat m1) 0).set (Int.toNat m2) (geti p1 m1)))) else ((board_After_J3 p1 p2 p6 m1 m2) ((out1.set (Int.toNat m1) 0).set (Int.toNat m2) (geti p1 m1)) p3 (-1) (minI (w64 (p5 + 1)) 999)))

def board_After_J1  (p1 : List Int) (p2 p3 : Int) (p4 p5 : Int) (p6 m1 : Int) (m2 m3 r1 : Int) (out1 : List Int) : Option ChT :=
 asrt (0 ≤ m1 ∧ m1 < (out1.length : Int)) <| asrt (0 ≤ m2 ∧ m2 < (out1.length : Int)) <| (board_After_J2 p1 p2 p3 p4 p5 p6 m1 m2 m3 r1 out1)

def board_After_m  (p1 : List Int) (p2 p3 : Int) (p4 p5 : Int) (p6 m1 : Int) (m2 m3 : Int) : Option ChT :=
 (board_forward_m p2).bind fun r1 => asrt (0 ≤ m1 ∧ m1 < (p1.length : Int)) <| asrt (0 ≤ m2 ∧ m2 < (p1.length : Int)) <| (slices_Clone_m p1).bind fun r2 => (board_After_J1 p1 p2 p3 p4 p5 p6 m1 m2 m3 r1) r2

theorem board_After_w  {A1 : Option Addr} {c1 n1 : Nat} {p1 : List Int} {p2 p3 : Int} {p4 p5 : Int} {p6 m1 : Int} {m2 m3 : Int} {r : ChT} {w0 w : World} {B : Nat} {fs : List HP} (hm : board_After_m p1 p2 p3 p4 p5 p6 m1 m2 m3 = some r) (hS : Sep w0 B w (fs)) (hr_p1 : RdF w0 B fs A1 (vI p1)) (_hc_p1 : p1.length ≤ c1) (_hn_p1 : n1 = p1.length) :
  Calls Try.prog 115 #[.agg (ca A1 n1 c1 p2 p3 p4 p5 p6), .agg #[vi m1, vi m2, vi m3]] w fun e w' => ∃ v, e = .returned v ∧ ∃ (A6 : Option Addr) (c6 : Nat), v = .agg (ca A6 r.1.length c6 r.2.1 r.2.2.1 r.2.2.2.1 r.2.2.2.2.1 r.2.2.2.2.2) ∧ Sep w0 B w' (own 3 (.slice A6 r.1.length c6) (vI r.1) :: fs) := by
 obtain ⟨i3, hi3, hz3, hs3, hb3⟩ := info_parts Info3
 obtain rfl := _hn_p1
 unfold board_After_m at hm
 replace hm := start_b hm
 refine enter (l := [.agg (ca A1 p1.length c1 p2 p3 p4 p5 p6), .agg #[vi m1, vi m2, vi m3]]) (n := 181) Try.func115 rfl rfl (by simp) (fun a hF => ?_)
 refine seqR ?_
 refine at_do (d := 2) (s := vS (Instr.box 65 (.agg (ca A1 p1.length c1 p2 p3 p4 p5 p6)))) (v := pa w.heap.size 0) (w' := w.alloc (.cells (ca A1 p1.length c1 p2 p3 p4 p5 p6) 65)) hF (by kernel_rfl) (by kernel_rfl) (by kernel_rfl) (fun a hF => ?_)
 have hS : Sep w0 B (w.alloc (.cells (ca A1 p1.length c1 p2 p3 p4 p5 p6) 65)) (blk w.heap.size 65 (ca A1 p1.length c1 p2 p3 p4 p5 p6) :: (fs)) := hS.box 65 (ca A1 p1.length c1 p2 p3 p4 p5 p6)
 generalize w.heap.size = g1 at hF hS
 generalize w.alloc (.cells (ca A1 p1.length c1 p2 p3 p4 p5 p6) 65) = w at hS ⊢
 refine at_do (d := 3) (s := vS (Instr.box 126 (.agg #[vi m1, vi m2, vi m3]))) (v := pa w.heap.size 0) (w' := w.alloc (.cells #[vi m1, vi m2, vi m3] 126)) hF (by kernel_rfl) (by kernel_rfl) (by kernel_rfl) (fun a hF => ?_)
 have hS : Sep w0 B (w.alloc (.cells #[vi m1, vi m2, vi m3] 126)) (blk w.heap.size 126 #[vi m1, vi m2, vi m3] :: (blk g1 65 (ca A1 p1.length c1 p2 p3 p4 p5 p6) :: fs)) := hS.box 126 #[vi m1, vi m2, vi m3]
 generalize w.heap.size = g2 at hF hS
 generalize w.alloc (.cells #[vi m1, vi m2, vi m3] 126) = w at hS ⊢
 refine at_do (d := 4) (s := vS (Instr.alloc 65 true (.tuple #[]))) (v := pa w.heap.size 0) (w' := w.alloc (.cells (ca none 0 0 0 0 0 0 0) 65)) hF (by kernel_rfl) (by kernel_rfl) (by kernel_rfl) (fun a hF => ?_)
 have hS : Sep w0 B (w.alloc (.cells (ca none 0 0 0 0 0 0 0) 65)) (blk w.heap.size 65 (ca none 0 0 0 0 0 0 0) :: (blk g2 126 #[vi m1, vi m2, vi m3] :: blk g1 65 (ca A1 p1.length c1 p2 p3 p4 p5 p6) :: fs)) := hS.box 65 (ca none 0 0 0 0 0 0 0)
 generalize w.heap.size = g3 at hF hS
 generalize w.alloc (.cells (ca none 0 0 0 0 0 0 0) 65) = w at hS ⊢
 refine ae [2, 3, 4] [pl 2 (pa g1 0), pl 3 (pa g2 0), pl 4 (pa g3 0)] hF rfl (fun hF => ?_)
 refine then_n ?_
 obtain ⟨r1, hr1, hm⟩ := call_b hm
 refine rg [⟨false, [], vS (Instr.loadAt 3 (pa g1 1)), vi p2⟩, ⟨false, [], callFunc 111 #[vi p2], vi r1⟩] [none, some (vi p2), some (vi r1), none] [2, 3, 4, 5] [pl 2 (pa g1 0), pl 3 (pa g2 0), pl 4 (pa g3 0), pl 5 (vi r1)] hF hS ?_ (fun a w hF hS => ?_)
 ·exact obs_cons (ob_load Agg3 (fun _ _ hS => (hS.at_ 2 rfl).cell rfl)) <| obs_cons (ob_call Try.func111 (by kernel_rfl) rfl (fun _ _ hS => board_forward_w hr1 hS )) <| obs_nil
 obtain ⟨hp1, hm⟩ := asrt_b hm
 obtain ⟨hp2, hm⟩ := asrt_b hm
 refine rg [⟨false, [], vS (Instr.loadAt 22 (pa g1 0)), .slice A1 p1.length c1⟩, ⟨false, [], vS (Instr.loadAt 3 (pa g2 0)), vi m1⟩, ⟨true, [], vS (Instr.indexAt 22 (.slice A1 p1.length c1) (vi m1)), .pointer (some (sAddr A1 m1))⟩, ⟨false, [], vS (Instr.loadAt 3 (.pointer (some (sAddr A1 m1)))), vi (geti p1 m1)⟩, ⟨false, [], vS (Instr.loadAt 22 (pa g1 0)), .slice A1 p1.length c1⟩, ⟨false, [], vS (Instr.loadAt 3 (pa g2 1)), vi m2⟩, ⟨true, [], vS (Instr.indexAt 22 (.slice A1 p1.length c1) (vi m2)), .pointer (some (sAddr A1 m2))⟩, ⟨false, [], vS (Instr.loadAt 3 (.pointer (some (sAddr A1 m2)))), vi (geti p1 m2)⟩] [none, some (.slice A1 p1.length c1), none, some (vi m1), some (.pointer (some (sAddr A1 m1))), some (vi (geti p1 m1)), none, some (.slice A1 p1.length c1), none, some (vi m2), some (.pointer (some (sAddr A1 m2))), some (vi (geti p1 m2)), none, none] [2, 3, 4, 5, 6, 7] [pl 2 (pa g1 0), pl 3 (pa g2 0), pl 4 (pa g3 0), pl 5 (vi r1), pl 6 (vi (geti p1 m1)), pl 7 (vi (geti p1 m2))] hF hS ?_ (fun a w hF hS => ?_)
 ·exact obs_cons (ob_load Agg22 (fun _ _ hS => (hS.at_ 2 rfl).cell rfl)) <| obs_cons (ob_load Agg3 (fun _ _ hS => (hS.at_ 1 rfl).cell rfl)) <| obs_cons (ob_ix1 (f := (Value.int .i64)) (m := p1) Und22 hi3 hs3 (hr_p1 _ (hS.dropN 3)) rfl (fun _ => hp1)) <| obs_cons (ob_get1 (n := p1.length) (m := p1) (Value.int .i64) (0 : Int) Agg3 (fun _ hS => ⟨_, (hr_p1 _ (hS.dropN 3))⟩) (fun _ hS => rfl) (fun _ => hp1)) <| obs_cons (ob_load Agg22 (fun _ _ hS => (hS.at_ 2 rfl).cell rfl)) <| obs_cons (ob_load Agg3 (fun _ _ hS => (hS.at_ 1 rfl).cell rfl)) <| obs_cons (ob_ix1 (f := (Value.int .i64)) (m := p1) Und22 hi3 hs3 (hr_p1 _ (hS.dropN 3)) rfl (fun _ => hp2)) <| obs_cons (ob_get1 (n := p1.length) (m := p1) (Value.int .i64) (0 : Int) Agg3 (fun _ hS => ⟨_, (hr_p1 _ (hS.dropN 3))⟩) (fun _ hS => rfl) (fun _ => hp2)) <| obs_nil
 refine seq_cut (fun a w => ∃ (out1 : List Int) (g5 : Nat) (A4 : Option Addr) (c4 : Nat), Fr 181 [pl 2 (pa g1 0), pl 3 (pa g2 0), pl 4 (pa g3 0), pl 5 (vi r1), pl 6 (vi (geti p1 m1)), pl 7 (vi (geti p1 m2)), pl 8 (pa g5 0)] a ∧ Sep w0 B w (blk g1 65 (ca A1 p1.length c1 p2 p3 p4 p5 p6) :: blk g2 126 #[vi m1, vi m2, vi m3] :: blk g3 65 (ca none 0 0 0 0 0 0 0) :: blk g5 65 #[.slice A4 out1.length c4, vi (w64 (1 - p2)), vi p3, vi (-1), vi (minI (w64 (p5 + 1)) 999), vi (minI (w64 (p6 + p2)) 999)] :: own 3 (.slice A4 out1.length c4) (vI out1) :: fs) ∧ ((board_After_J1 p1 p2 p3 p4 p5 p6 m1 m2 m3 r1) out1).bind some = some r) ?_ ?_
 ·rintro a w ⟨out1, g5, A4, c4, hF, hS, hm⟩
  unfold board_After_J1 at hm
  refine seq_cut (fun a w => Fr 181 [pl 2 (pa g1 0), pl 3 (pa g2 0), pl 4 (pa g3 0), pl 5 (vi r1), pl 6 (vi (geti p1 m1)), pl 7 (vi (geti p1 m2)), pl 8 (pa g5 0)] a ∧ Sep w0 B w (blk g1 65 (ca A1 p1.length c1 p2 p3 p4 p5 p6) :: blk g2 126 #[vi m1, vi m2, vi m3] :: blk g3 65 (ca none 0 0 0 0 0 0 0) :: blk g5 65 #[.slice A4 out1.length c4, vi (w64 (1 - p2)), vi p3, vi (-1), vi (minI (w64 (p5 + 1)) 999), vi (minI (w64 (p6 + p2)) 999)] :: own 3 (.slice A4 out1.length c4) (vI ((out1.set (Int.toNat m1) 0).set (Int.toNat m2) (geti p1 m1))) :: fs) ∧ ((board_After_J2 p1 p2 p3 p4 p5 p6 m1 m2 m3 r1 out1)).bind some = some r) ?_ ?_
  ·rintro a w ⟨hF, hS, hm⟩
   unfold board_After_J2 at hm
   refine seq_cut (fun a w => ∃ (out2 : List Int) (out3 out4 out5 : Int), Fr 181 [pl 3 (pa g2 0), pl 4 (pa g3 0), pl 7 (vi (geti p1 m2)), pl 8 (pa g5 0)] a ∧ Sep w0 B w (blk g2 126 #[vi m1, vi m2, vi m3] :: blk g3 65 (ca none 0 0 0 0 0 0 0) :: blk g5 65 #[.slice A4 out1.length c4, vi (w64 (1 - p2)), vi out3, vi out4, vi out5, vi (minI (w64 (p6 + p2)) 999)] :: own 3 (.slice A4 out1.length c4) (vI out2) :: fs) ∧ ((board_After_J3 p1 p2 p6 m1 m2) out2 out3 out4 out5).bind some = some r) ?_ ?_
   ·rintro a w ⟨out2, out3, out4, out5, hF, hS, hm⟩
    unfold board_After_J3 at hm
    refine seq_cut (fun a w => ∃ (out7 : Int), Fr 181 [pl 3 (pa g2 0), pl 4 (pa g3 0), pl 8 (pa g5 0)] a ∧ Sep w0 B w (blk g2 126 #[vi m1, vi m2, vi m3] :: blk g3 65 (ca none 0 0 0 0 0 0 0) :: blk g5 65 #[.slice A4 out1.length c4, vi (w64 (1 - p2)), vi out3, vi out4, vi out7, vi (minI (w64 (p6 + p2)) 999)] :: own 3 (.slice A4 out1.length c4) (vI out2) :: fs) ∧ ((board_After_J6 p2 p6 m1 m2 out2 out3 out4) out7).bind some = some r) ?_ ?_
    ·rintro a w ⟨out7, hF, hS, hm⟩
     unfold board_After_J6 at hm
     refine seq_cut (fun a w => ∃ (out9 : Int), Fr 181 [pl 4 (pa g3 0), pl 8 (pa g5 0)] a ∧ Sep w0 B w (blk g3 65 (ca none 0 0 0 0 0 0 0) :: blk g5 65 #[.slice A4 out1.length c4, vi (w64 (1 - p2)), vi out9, vi out4, vi out7, vi (minI (w64 (p6 + p2)) 999)] :: own 3 (.slice A4 out1.length c4) (vI out2) :: fs) ∧ ((board_After_J7 p2 p6 out2 out4 out7) out9).bind some = some r) ?_ ?_
     ·rintro a w ⟨out9, hF, hS, hm⟩
      unfold board_After_J7 at hm
      refine seqR ?_
      refine ar 1 [⟨false, [], vS (Instr.loadAt 65 (pa g5 0)), .agg #[.slice A4 out1.length c4, vi (w64 (1 - p2)), vi out9, vi out4, vi out7, vi (minI (w64 (p6 + p2)) 999)]⟩] [some (.agg #[.slice A4 out1.length c4, vi (w64 (1 - p2)), vi out9, vi out4, vi out7, vi (minI (w64 (p6 + p2)) 999)])] [4, 180] [pl 4 (pa g3 0), pl 180 (.agg #[.slice A4 out1.length c4, vi (w64 (1 - p2)), vi out9, vi out4, vi out7, vi (minI (w64 (p6 + p2)) 999)])] hF hS ?_ (fun a w hF hS => ?_)
      ·exact obs_cons (ob_loadA (cs := #[.slice A4 out1.length c4, vi (w64 (1 - p2)), vi out9, vi out4, vi out7, vi (minI (w64 (p6 + p2)) 999)]) (by kernel_rfl) (by kernel_rfl) (fun _ _ hS => (hS.at_ 1 rfl).cellsAt 0 (by rfl))) <| obs_nil
      obtain ⟨w, hrun, hS⟩ := run_putA (P := Try.prog) (t := 65) (us := #[.slice A4 out1.length c4, vi (w64 (1 - p2)), vi out9, vi out4, vi out7, vi (minI (w64 (p6 + p2)) 999)]) (o := 0) (hS.at_ 0 rfl) (by kernel_rfl) (all_one (by kernel_rfl)) (Nat.le_of_ble_eq_true (by kernel_rfl))
      refine at_s hF hrun ?_
      have hS : Sep w0 B w (blk g3 65 #[.slice A4 out1.length c4, vi (w64 (1 - p2)), vi out9, vi out4, vi out7, vi (minI (w64 (p6 + p2)) 999)] :: blk g5 65 #[.slice A4 out1.length c4, vi (w64 (1 - p2)), vi out9, vi out4, vi out7, vi (minI (w64 (p6 + p2)) 999)] :: own 3 (.slice A4 out1.length c4) (vI out2) :: fs) := hS
      refine ae [4] [pl 4 (pa g3 0)] hF rfl (fun hF => ?_)
      refine then_n (wpIn_ret ?_)
      have hl1 := (hS.at_ 2 rfl).len1
      have hS := (hS.at_ 2 rfl).reN hl1
      have hS := (hS.at_ 0 rfl).reBlk (congrArg (fun k9 => (#[.slice A4 k9 c4, vi (w64 (1 - p2)), vi out9, vi out4, vi out7, vi (minI (w64 (p6 + p2)) 999)] : Array Value)) hl1)
      have hS := (hS.at_ 1 rfl).reBlk (congrArg (fun k9 => (#[.slice A4 k9 c4, vi (w64 (1 - p2)), vi out9, vi out4, vi out7, vi (minI (w64 (p6 + p2)) 999)] : Array Value)) hl1)
      have hS : Sep w0 B w (blk g3 65 #[.slice A4 out2.length c4, vi (w64 (1 - p2)), vi out9, vi out4, vi out7, vi (minI (w64 (p6 + p2)) 999)] :: blk g5 65 #[.slice A4 out2.length c4, vi (w64 (1 - p2)), vi out9, vi out4, vi out7, vi (minI (w64 (p6 + p2)) 999)] :: own 3 (.slice A4 out2.length c4) (vI out2) :: fs) := hS
      have hld0 := run_loadVarA (P := Try.prog) (t := 65) (cs := #[.slice A4 out2.length c4, vi (w64 (1 - p2)), vi out9, vi out4, vi out7, vi (minI (w64 (p6 + p2)) 999)]) (by kernel_rfl) (by kernel_rfl) ((hS.at_ 0 rfl).cellsAt 0 (by rfl))
      have hS := hS.pickN 3 [2] (by decide)
      have hm : some (out2, (w64 (1 - p2)), out9, out4, out7, (minI (w64 (p6 + p2)) 999)) = some r := hm
      obtain rfl := Option.some.inj hm
      exact retV (rs := [.cell 4 65]) (vs := [.agg #[.slice A4 out2.length c4, vi (w64 (1 - p2)), vi out9, vi out4, vi out7, vi (minI (w64 (p6 + p2)) 999)]]) hF rfl (rv_c (by kernel_rfl) hld0 <| rv_nil) rfl ⟨_, rfl, A4, c4, rfl, hS⟩
     ·refine rg [] [] [3, 4, 8, 155] [pl 3 (pa g2 0), pl 4 (pa g3 0), pl 8 (pa g5 0), pl 155 (vi 0)] hF hS obs_nil (fun a w hF hS => ?_)
      refine wpIn_block ?_
      refine wp_loop_model (S := (Int × Int)) (R := Int) (board_After_L1 m1 m2) (fun x => ((board_After_K1 p2 p6 out2 out4 out7) x).bind some) r (fun (x : (Int × Int)) a w => Fr 181 [pl 3 (pa g2 0), pl 4 (pa g3 0), pl 8 (pa g5 0), pl 155 (vi x.2)] a ∧ Sep w0 B w (blk g2 126 #[vi m1, vi m2, vi m3] :: blk g3 65 (ca none 0 0 0 0 0 0 0) :: blk g5 65 #[.slice A4 out1.length c4, vi (w64 (1 - p2)), vi x.1, vi out4, vi out7, vi (minI (w64 (p6 + p2)) 999)] :: own 3 (.slice A4 out1.length c4) (vI out2) :: fs)) (assoc_b hm) ⟨hF.wk [3, 4, 8, 155], hS⟩ ?_
      clear hF hS hm
      rintro nn1 ⟨out8, z1⟩ a w ⟨hF, hS⟩ hm
      generalize hφ1 : stK (board_After_L1 m1 m2) nn1 (fun x => ((board_After_K1 p2 p6 out2 out4 out7) x).bind some) = φ1 at hm
      unfold board_After_L1 at hm
      dsimp only at hF hS hm
      refine rg [] [] [3, 4, 8, 155, 156] [pl 3 (pa g2 0), pl 4 (pa g3 0), pl 8 (pa g5 0), pl 155 (vi z1), pl 156 (.bool (decide (z1 < 4)))] hF hS obs_nil (fun a w hF hS => ?_)
      refine seq_cut (fun a w => Fr 181 [pl 3 (pa g2 0), pl 4 (pa g3 0), pl 8 (pa g5 0), pl 155 (vi z1)] a ∧ Sep w0 B w (blk g2 126 #[vi m1, vi m2, vi m3] :: blk g3 65 (ca none 0 0 0 0 0 0 0) :: blk g5 65 #[.slice A4 out1.length c4, vi (w64 (1 - p2)), vi out8, vi out4, vi out7, vi (minI (w64 (p6 + p2)) 999)] :: own 3 (.slice A4 out1.length c4) (vI out2) :: fs) ∧ ((board_After_J8 m1 m2 out8 z1)).bind φ1 = some r) ?_ ?_
      ·rintro a w ⟨hF, hS, hm⟩
       unfold board_After_J8 at hm
       refine seq_cut (fun a w => ∃ (out10 : Int), Fr 181 [pl 3 (pa g2 0), pl 4 (pa g3 0), pl 8 (pa g5 0), pl 155 (vi z1)] a ∧ Sep w0 B w (blk g2 126 #[vi m1, vi m2, vi m3] :: blk g3 65 (ca none 0 0 0 0 0 0 0) :: blk g5 65 #[.slice A4 out1.length c4, vi (w64 (1 - p2)), vi out10, vi out4, vi out7, vi (minI (w64 (p6 + p2)) 999)] :: own 3 (.slice A4 out1.length c4) (vI out2) :: fs) ∧ ((board_After_J9 z1) out10).bind φ1 = some r) ?_ ?_
       ·rintro a w ⟨out10, hF, hS, hm⟩
        unfold board_After_J9 at hm
        refine rg1 [] [] [3, 4, 8, 155] [pl 3 (pa g2 0), pl 4 (pa g3 0), pl 8 (pa g5 0), pl 155 (vi (w64 (z1 + 1)))] hF hS obs_nil (fun a w hF hS => ?_)
        refine then_n ?_
        rw [← hφ1] at hm
        exact ⟨(out10, (w64 (z1 + 1))), ⟨hF.wk [3, 4, 8, 155], hS⟩, hm⟩
       ·refine wpIn_block ?_
        refine rg [] [] [3, 4, 8, 11, 155] [pl 3 (pa g2 0), pl 4 (pa g3 0), pl 8 (pa g5 0), pl 11 (vi z1), pl 155 (vi z1)] hF hS obs_nil (fun a w hF hS => ?_)
        obtain ⟨r4, hr4, hm⟩ := call_b hm
        refine rg [⟨false, [], callFunc 110 #[vi z1], .tuple #[vi r4.1, vi r4.2]⟩] [none, some (.tuple #[vi r4.1, vi r4.2]), none, none, none, none, none] [3, 4, 8, 11, 13, 155] [pl 3 (pa g2 0), pl 4 (pa g3 0), pl 8 (pa g5 0), pl 11 (vi z1), pl 13 (vi r4.2), pl 155 (vi z1)] hF hS ?_ (fun a w hF hS => ?_)
        ·exact obs_cons (ob_call Try.func110 (by kernel_rfl) rfl (fun _ _ hS => board_Right_w hr4 hS )) <| obs_nil
        refine rg [⟨false, [], vS (Instr.loadAt 3 (pa g2 0)), vi m1⟩, ⟨false, [((m1 == r4.2), false)], vS (Instr.loadAt 3 (pa g2 1)), vi m2⟩] [none, some (vi m1), none, none, none, none, some (vi m2), none, none, none] [3, 4, 8, 11, 155, 172] [pl 3 (pa g2 0), pl 4 (pa g3 0), pl 8 (pa g5 0), pl 11 (vi z1), pl 155 (vi z1), pl 172 (.bool ((m1 == r4.2) || (m2 == r4.2)))] hF hS ?_ (fun a w hF hS => ?_)
        ·exact obs_cons (ob_load Agg3 (fun _ _ hS => (hS.at_ 0 rfl).cell rfl)) <| obs_cons (ob_load Agg3 (fun _ _ hS => (hS.at_ 0 rfl).cell rfl)) <| obs_nil
        refine ce (t := 172) (b := (m1 == r4.2) || (m2 == r4.2)) hF (fun hb => ?_) (fun hb => ?_)
        ·replace hm := if_t hm hb
         obtain ⟨hp11, hm⟩ := asrt_b hm
         refine regMix4 [0, 1, 2, 3, 4, 5] [6] [⟨false, [], vS (Instr.loadAt 3 (pa g5 2)), vi out8⟩, ⟨true, [], vS (Op.shift .shl .i64 1 .i64 z1), vi (shlK .i64 1 z1)⟩] [none, some (vi out8), none, some (vi (shlK .i64 1 z1)), none, none] [3, 4, 8, 155, 177, 178] [pl 3 (pa g2 0), pl 4 (pa g3 0), pl 8 (pa g5 0), pl 155 (vi z1), pl 177 (vi (bAndN out8 (shlK .i64 1 z1))), pl 178 (pa g5 2)] hF hS Fol (by kernel_rfl) (by kernel_rfl) (by kernel_rfl) (by kernel_rfl) (by kernel_rfl) ?_ (fun a w hF hS => ?_)
         ·exact obs_cons (ob_load Agg3 (fun _ _ hS => (hS.at_ 2 rfl).cell rfl)) <| obs_cons (ob_shl (fun _ => hp11)) <| obs_nil
         obtain ⟨w, hrun, hS⟩ := run_put (P := Try.prog) (t := 3) (u := vi (bAndN out8 (shlK .i64 1 z1))) (i := 2) (hS.at_ 2 rfl) hi3 hs3 rfl (Nat.lt_of_lt_of_eq (Nat.lt_of_succ_le (Nat.le_of_ble_eq_true (by kernel_rfl))) rfl)
         refine at_s hF hrun ?_
         have hS : Sep w0 B w (blk g2 126 #[vi m1, vi m2, vi m3] :: blk g3 65 (ca none 0 0 0 0 0 0 0) :: blk g5 65 #[.slice A4 out1.length c4, vi (w64 (1 - p2)), vi (bAndN out8 (shlK .i64 1 z1)), vi out4, vi out7, vi (minI (w64 (p6 + p2)) 999)] :: own 3 (.slice A4 out1.length c4) (vI out2) :: fs) := hS
         refine ae [3, 4, 8, 155] [pl 3 (pa g2 0), pl 4 (pa g3 0), pl 8 (pa g5 0), pl 155 (vi z1)] hF rfl (fun hF => ?_)
         refine np_n ?_
         refine block_n ?_
         refine then_n ?_
         exact ⟨(bAndN out8 (shlK .i64 1 z1)), hF.wk [3, 4, 8, 155], hS, hm⟩
        ·replace hm := if_f hm hb
         refine wpIn_skip ?_
         refine block_n ?_
         refine then_n ?_
         exact ⟨out8, hF.wk [3, 4, 8, 155], hS, hm⟩
      ·refine ce (t := 156) (b := decide (z1 < 4)) hF (fun hb => ?_) (fun hb => ?_)
       ·replace hm := if_t hm hb
        refine wpIn_skip ?_
        refine then_n ?_
        exact ⟨hF.wk [3, 4, 8, 155], hS, hm⟩
       ·replace hm := if_f hm hb
        refine wpIn_exit ?_
        refine then_e (then_e (block_e (then_n ?_)))
        have hS := hS.pickN 4 [1, 2, 3] (by decide)
        rw [← hφ1] at hm
        replace hm := done_b hm
        unfold board_After_K1 at hm
        try dsimp only at hm
        have hm : ((board_After_J7 p2 p6 out2 out4 out7) out8).bind some = some r := hm
        exact ⟨out8, hF.wk [4, 8], hS, hm⟩
    ·refine rg [] [] [3, 4, 8, 153] [pl 3 (pa g2 0), pl 4 (pa g3 0), pl 8 (pa g5 0), pl 153 (.bool ((geti p1 m2) != 0))] hF hS obs_nil (fun a w hF hS => ?_)
     refine ce (t := 153) (b := ((geti p1 m2) != 0)) hF (fun hb => ?_) (fun hb => ?_)
     ·replace hm := if_t hm hb
      refine oneR ?_
      refine ar 1 [] [] [3, 4, 8, 154] [pl 3 (pa g2 0), pl 4 (pa g3 0), pl 8 (pa g5 0), pl 154 (pa g5 4)] hF hS obs_nil (fun a w hF hS => ?_)
      obtain ⟨w, hrun, hS⟩ := run_put (P := Try.prog) (t := 3) (u := vi 0) (i := 4) (hS.at_ 2 rfl) hi3 hs3 rfl (Nat.lt_of_lt_of_eq (Nat.lt_of_succ_le (Nat.le_of_ble_eq_true (by kernel_rfl))) rfl)
      refine at_s hF hrun ?_
      have hS : Sep w0 B w (blk g2 126 #[vi m1, vi m2, vi m3] :: blk g3 65 (ca none 0 0 0 0 0 0 0) :: blk g5 65 #[.slice A4 out1.length c4, vi (w64 (1 - p2)), vi out3, vi out4, vi 0, vi (minI (w64 (p6 + p2)) 999)] :: own 3 (.slice A4 out1.length c4) (vI out2) :: fs) := hS
      refine ae [3, 4, 8] [pl 3 (pa g2 0), pl 4 (pa g3 0), pl 8 (pa g5 0)] hF rfl (fun hF => ?_)
      refine then_n ?_
      exact ⟨0, hF.wk [3, 4, 8], hS, hm⟩
     ·replace hm := if_f hm hb
      refine wpIn_skip ?_
      refine then_n ?_
      exact ⟨out5, hF.wk [3, 4, 8], hS, hm⟩
   ·obtain ⟨r3, hr3, hm⟩ := call_b hm
    refine rg [⟨false, [], callFunc 107 #[vi (geti p1 m1)], vi r3⟩] [none, some (vi r3)] [2, 3, 4, 5, 7, 8, 60] [pl 2 (pa g1 0), pl 3 (pa g2 0), pl 4 (pa g3 0), pl 5 (vi r1), pl 7 (vi (geti p1 m2)), pl 8 (pa g5 0), pl 60 (vi r3)] hF hS ?_ (fun a w hF hS => ?_)
    ·exact obs_cons (ob_call Try.func107 (by kernel_rfl) rfl (fun _ _ hS => board_Kind_w hr3 hS )) <| obs_nil
    refine wpIn_block ?_
    refine rg [] [] [2, 3, 4, 5, 7, 8, 60, 61] [pl 2 (pa g1 0), pl 3 (pa g2 0), pl 4 (pa g3 0), pl 5 (vi r1), pl 7 (vi (geti p1 m2)), pl 8 (pa g5 0), pl 60 (vi r3), pl 61 (.bool (r3 == 1))] hF hS obs_nil (fun a w hF hS => ?_)
    refine ce (t := 61) (b := (r3 == 1)) hF (fun hb => ?_) (fun hb => ?_)
    ·replace hm := if_t hm hb
     refine seqR ?_
     refine ar 1 [] [] [2, 3, 4, 5, 7, 8, 63] [pl 2 (pa g1 0), pl 3 (pa g2 0), pl 4 (pa g3 0), pl 5 (vi r1), pl 7 (vi (geti p1 m2)), pl 8 (pa g5 0), pl 63 (pa g5 4)] hF hS obs_nil (fun a w hF hS => ?_)
     obtain ⟨w, hrun, hS⟩ := run_put (P := Try.prog) (t := 3) (u := vi 0) (i := 4) (hS.at_ 3 rfl) hi3 hs3 rfl (Nat.lt_of_lt_of_eq (Nat.lt_of_succ_le (Nat.le_of_ble_eq_true (by kernel_rfl))) rfl)
     refine at_s hF hrun ?_
     have hS : Sep w0 B w (blk g1 65 (ca A1 p1.length c1 p2 p3 p4 p5 p6) :: blk g2 126 #[vi m1, vi m2, vi m3] :: blk g3 65 (ca none 0 0 0 0 0 0 0) :: blk g5 65 #[.slice A4 out1.length c4, vi (w64 (1 - p2)), vi p3, vi (-1), vi 0, vi (minI (w64 (p6 + p2)) 999)] :: own 3 (.slice A4 out1.length c4) (vI ((out1.set (Int.toNat m1) 0).set (Int.toNat m2) (geti p1 m1))) :: fs) := hS
     refine ae [2, 3, 4, 5, 7, 8] [pl 2 (pa g1 0), pl 3 (pa g2 0), pl 4 (pa g3 0), pl 5 (vi r1), pl 7 (vi (geti p1 m2)), pl 8 (pa g5 0)] hF rfl (fun hF => ?_)
     refine then_n ?_
     refine wpIn_block ?_
     refine rg [⟨false, [], vS (Instr.loadAt 3 (pa g2 1)), vi m2⟩, ⟨false, [], vS (Instr.loadAt 3 (pa g1 3)), vi p4⟩] [none, some (vi m2), none, some (vi p4), none, none] [3, 4, 5, 7, 8, 64] [pl 3 (pa g2 0), pl 4 (pa g3 0), pl 5 (vi r1), pl 7 (vi (geti p1 m2)), pl 8 (pa g5 0), pl 64 (.bool (m2 == p4))] hF hS ?_ (fun a w hF hS => ?_)
     ·exact obs_cons (ob_load Agg3 (fun _ _ hS => (hS.at_ 1 rfl).cell rfl)) <| obs_cons (ob_load Agg3 (fun _ _ hS => (hS.at_ 0 rfl).cell rfl)) <| obs_nil
     refine ce (t := 64) (b := (m2 == p4)) hF (fun hb => ?_) (fun hb => ?_)
     ·replace hm := if_t hm hb
      refine oneR ?_
      obtain ⟨hp5, hm⟩ := asrt_b hm
      refine ar 8 [⟨false, [], vS (Instr.loadAt 22 (pa g5 0)), .slice A4 out1.length c4⟩, ⟨false, [], vS (Instr.loadAt 3 (pa g2 1)), vi m2⟩, ⟨true, [], vS (Instr.indexAt 22 (.slice A4 out1.length c4) (vi (w64 (m2 - (w64 (8 * r1)))))), .pointer (some (sAddr A4 (w64 (m2 - (w64 (8 * r1))))))⟩] [none, some (.slice A4 out1.length c4), none, some (vi m2), none, none, none, some (.pointer (some (sAddr A4 (w64 (m2 - (w64 (8 * r1)))))))] [3, 4, 7, 8, 77] [pl 3 (pa g2 0), pl 4 (pa g3 0), pl 7 (vi (geti p1 m2)), pl 8 (pa g5 0), pl 77 (.pointer (some (sAddr A4 (w64 (m2 - (w64 (8 * r1)))))))] hF hS ?_ (fun a w hF hS => ?_)
      ·exact obs_cons (ob_load Agg22 (fun _ _ hS => (hS.at_ 3 rfl).cell rfl)) <| obs_cons (ob_load Agg3 (fun _ _ hS => (hS.at_ 1 rfl).cell rfl)) <| obs_cons (ob_ix1 (f := (Value.int .i64)) (m := ((out1.set (Int.toNat m1) 0).set (Int.toNat m2) (geti p1 m1))) Und22 hi3 hs3 (hS.at_ 4 rfl).rd ((hS.at_ 4 rfl).len1) (fun _ => hp5)) <| obs_nil
      obtain ⟨w, hrun, hS⟩ := run_set1 (P := Try.prog) (t := 3) (x := 0) (Value.int .i64) (hS.at_ 4 rfl) hi3 hs3 rfl rfl hp5
      refine at_s hF hrun ?_
      have hS : Sep w0 B w (blk g1 65 (ca A1 p1.length c1 p2 p3 p4 p5 p6) :: blk g2 126 #[vi m1, vi m2, vi m3] :: blk g3 65 (ca none 0 0 0 0 0 0 0) :: blk g5 65 #[.slice A4 out1.length c4, vi (w64 (1 - p2)), vi p3, vi (-1), vi 0, vi (minI (w64 (p6 + p2)) 999)] :: own 3 (.slice A4 out1.length c4) (vI (((out1.set (Int.toNat m1) 0).set (Int.toNat m2) (geti p1 m1)).set (Int.toNat (w64 (m2 - (w64 (8 * r1))))) 0)) :: fs) := hS
      refine ae [3, 4, 7, 8] [pl 3 (pa g2 0), pl 4 (pa g3 0), pl 7 (vi (geti p1 m2)), pl 8 (pa g5 0)] hF rfl (fun hF => ?_)
      refine block_n ?_
      refine block_n ?_
      refine then_n ?_
      have hS := hS.pickN 5 [1, 2, 3, 4] (by decide)
      exact ⟨(((out1.set (Int.toNat m1) 0).set (Int.toNat m2) (geti p1 m1)).set (Int.toNat (w64 (m2 - (w64 (8 * r1))))) 0), p3, (-1), 0, hF.wk [3, 4, 7, 8], hS, hm⟩
     ·replace hm := if_f hm hb
      refine rg [⟨false, [], vS (Instr.loadAt 3 (pa g2 1)), vi m2⟩, ⟨false, [], vS (Instr.loadAt 3 (pa g2 0)), vi m1⟩] [none, some (vi m2), none, some (vi m1), none, none, none, none, none] [3, 4, 5, 7, 8, 78] [pl 3 (pa g2 0), pl 4 (pa g3 0), pl 5 (vi r1), pl 7 (vi (geti p1 m2)), pl 8 (pa g5 0), pl 78 (.bool ((w64 (m2 - m1)) == (w64 (16 * r1))))] hF hS ?_ (fun a w hF hS => ?_)
      ·exact obs_cons (ob_load Agg3 (fun _ _ hS => (hS.at_ 1 rfl).cell rfl)) <| obs_cons (ob_load Agg3 (fun _ _ hS => (hS.at_ 1 rfl).cell rfl)) <| obs_nil
      refine ce (t := 78) (b := ((w64 (m2 - m1)) == (w64 (16 * r1)))) hF (fun hb => ?_) (fun hb => ?_)
      ·replace hm := if_t hm hb
       refine oneR ?_
       refine ar 6 [⟨false, [], vS (Instr.loadAt 3 (pa g2 0)), vi m1⟩] [none, some (vi m1), none, none, none, none] [3, 4, 7, 8, 91, 92] [pl 3 (pa g2 0), pl 4 (pa g3 0), pl 7 (vi (geti p1 m2)), pl 8 (pa g5 0), pl 91 (vi (w64 (m1 + (w64 (8 * r1))))), pl 92 (pa g5 3)] hF hS ?_ (fun a w hF hS => ?_)
       ·exact obs_cons (ob_load Agg3 (fun _ _ hS => (hS.at_ 1 rfl).cell rfl)) <| obs_nil
       obtain ⟨w, hrun, hS⟩ := run_put (P := Try.prog) (t := 3) (u := vi (w64 (m1 + (w64 (8 * r1))))) (i := 3) (hS.at_ 3 rfl) hi3 hs3 rfl (Nat.lt_of_lt_of_eq (Nat.lt_of_succ_le (Nat.le_of_ble_eq_true (by kernel_rfl))) rfl)
       refine at_s hF hrun ?_
       have hS : Sep w0 B w (blk g1 65 (ca A1 p1.length c1 p2 p3 p4 p5 p6) :: blk g2 126 #[vi m1, vi m2, vi m3] :: blk g3 65 (ca none 0 0 0 0 0 0 0) :: blk g5 65 #[.slice A4 out1.length c4, vi (w64 (1 - p2)), vi p3, vi (w64 (m1 + (w64 (8 * r1)))), vi 0, vi (minI (w64 (p6 + p2)) 999)] :: own 3 (.slice A4 out1.length c4) (vI ((out1.set (Int.toNat m1) 0).set (Int.toNat m2) (geti p1 m1))) :: fs) := hS
       refine ae [3, 4, 7, 8] [pl 3 (pa g2 0), pl 4 (pa g3 0), pl 7 (vi (geti p1 m2)), pl 8 (pa g5 0)] hF rfl (fun hF => ?_)
       refine block_n ?_
       refine block_n ?_
       refine then_n ?_
       have hS := hS.pickN 5 [1, 2, 3, 4] (by decide)
       exact ⟨((out1.set (Int.toNat m1) 0).set (Int.toNat m2) (geti p1 m1)), p3, (w64 (m1 + (w64 (8 * r1)))), 0, hF.wk [3, 4, 7, 8], hS, hm⟩
      ·replace hm := if_f hm hb
       refine rg [⟨false, [], vS (Instr.loadAt 3 (pa g2 2)), vi m3⟩] [none, some (vi m3), none, none] [3, 4, 5, 7, 8, 93] [pl 3 (pa g2 0), pl 4 (pa g3 0), pl 5 (vi r1), pl 7 (vi (geti p1 m2)), pl 8 (pa g5 0), pl 93 (.bool (decide ((0 : Int) < m3)))] hF hS ?_ (fun a w hF hS => ?_)
       ·exact obs_cons (ob_load Agg3 (fun _ _ hS => (hS.at_ 1 rfl).cell rfl)) <| obs_nil
       refine ce (t := 93) (b := decide ((0 : Int) < m3)) hF (fun hb => ?_) (fun hb => ?_)
       ·replace hm := if_t hm hb
        refine oneR ?_
        obtain ⟨hp6, hm⟩ := asrt_b hm
        refine ar 9 [⟨false, [], vS (Instr.loadAt 22 (pa g5 0)), .slice A4 out1.length c4⟩, ⟨false, [], vS (Instr.loadAt 3 (pa g2 1)), vi m2⟩, ⟨false, [], vS (Instr.loadAt 3 (pa g2 2)), vi m3⟩, ⟨true, [], vS (Instr.indexAt 22 (.slice A4 out1.length c4) (vi m2)), .pointer (some (sAddr A4 m2))⟩] [none, some (.slice A4 out1.length c4), none, some (vi m2), none, some (vi m3), none, none, some (.pointer (some (sAddr A4 m2)))] [3, 4, 7, 8, 104, 105] [pl 3 (pa g2 0), pl 4 (pa g3 0), pl 7 (vi (geti p1 m2)), pl 8 (pa g5 0), pl 104 (vi (w64 (m3 * r1))), pl 105 (.pointer (some (sAddr A4 m2)))] hF hS ?_ (fun a w hF hS => ?_)
        ·exact obs_cons (ob_load Agg22 (fun _ _ hS => (hS.at_ 3 rfl).cell rfl)) <| obs_cons (ob_load Agg3 (fun _ _ hS => (hS.at_ 1 rfl).cell rfl)) <| obs_cons (ob_load Agg3 (fun _ _ hS => (hS.at_ 1 rfl).cell rfl)) <| obs_cons (ob_ix1 (f := (Value.int .i64)) (m := ((out1.set (Int.toNat m1) 0).set (Int.toNat m2) (geti p1 m1))) Und22 hi3 hs3 (hS.at_ 4 rfl).rd ((hS.at_ 4 rfl).len1) (fun _ => hp6)) <| obs_nil
        obtain ⟨w, hrun, hS⟩ := run_set1 (P := Try.prog) (t := 3) (x := (w64 (m3 * r1))) (Value.int .i64) (hS.at_ 4 rfl) hi3 hs3 rfl rfl hp6
        refine at_s hF hrun ?_
        have hS : Sep w0 B w (blk g1 65 (ca A1 p1.length c1 p2 p3 p4 p5 p6) :: blk g2 126 #[vi m1, vi m2, vi m3] :: blk g3 65 (ca none 0 0 0 0 0 0 0) :: blk g5 65 #[.slice A4 out1.length c4, vi (w64 (1 - p2)), vi p3, vi (-1), vi 0, vi (minI (w64 (p6 + p2)) 999)] :: own 3 (.slice A4 out1.length c4) (vI (((out1.set (Int.toNat m1) 0).set (Int.toNat m2) (geti p1 m1)).set (Int.toNat m2) (w64 (m3 * r1)))) :: fs) := hS
        refine ae [3, 4, 7, 8] [pl 3 (pa g2 0), pl 4 (pa g3 0), pl 7 (vi (geti p1 m2)), pl 8 (pa g5 0)] hF rfl (fun hF => ?_)
        refine block_n ?_
        refine block_n ?_
        refine then_n ?_
        have hS := hS.pickN 5 [1, 2, 3, 4] (by decide)
        exact ⟨(((out1.set (Int.toNat m1) 0).set (Int.toNat m2) (geti p1 m1)).set (Int.toNat m2) (w64 (m3 * r1))), p3, (-1), 0, hF.wk [3, 4, 7, 8], hS, hm⟩
       ·replace hm := if_f hm hb
        refine wpIn_skip ?_
        refine block_n ?_
        refine block_n ?_
        refine then_n ?_
        have hS := hS.pickN 5 [1, 2, 3, 4] (by decide)
        exact ⟨((out1.set (Int.toNat m1) 0).set (Int.toNat m2) (geti p1 m1)), p3, (-1), 0, hF.wk [3, 4, 7, 8], hS, hm⟩
    ·replace hm := if_f hm hb
     refine rg [] [] [2, 3, 4, 7, 8, 106] [pl 2 (pa g1 0), pl 3 (pa g2 0), pl 4 (pa g3 0), pl 7 (vi (geti p1 m2)), pl 8 (pa g5 0), pl 106 (.bool (r3 == 6))] hF hS obs_nil (fun a w hF hS => ?_)
     refine ce (t := 106) (b := (r3 == 6)) hF (fun hb => ?_) (fun hb => ?_)
     ·replace hm := if_t hm hb
      refine seq_cut (fun a w => ∃ (out6 : List Int), Fr 181 [pl 2 (pa g1 0), pl 3 (pa g2 0), pl 4 (pa g3 0), pl 7 (vi (geti p1 m2)), pl 8 (pa g5 0)] a ∧ Sep w0 B w (blk g1 65 (ca A1 p1.length c1 p2 p3 p4 p5 p6) :: blk g2 126 #[vi m1, vi m2, vi m3] :: blk g3 65 (ca none 0 0 0 0 0 0 0) :: blk g5 65 #[.slice A4 out1.length c4, vi (w64 (1 - p2)), vi p3, vi (-1), vi (minI (w64 (p5 + 1)) 999), vi (minI (w64 (p6 + p2)) 999)] :: own 3 (.slice A4 out1.length c4) (vI out6) :: fs) ∧ ((board_After_J4 p1 p2 p3 p5 p6 m1 m2) out6).bind some = some r) ?_ ?_
      ·rintro a w ⟨out6, hF, hS, hm⟩
       unfold board_After_J4 at hm
       obtain ⟨hp10, hm⟩ := asrt_b hm
       refine regMix4 [0, 1, 2, 3, 4, 5, 6, 7] [8] [⟨false, [], vS (Instr.loadAt 3 (pa g5 2)), vi p3⟩, ⟨false, [], vS (Instr.loadAt 3 (pa g1 1)), vi p2⟩, ⟨true, [], vS (Op.shift .shl .i64 3 .i64 (w64 (2 * p2))), vi (shlK .i64 3 (w64 (2 * p2)))⟩] [none, some (vi p3), none, some (vi p2), none, some (vi (shlK .i64 3 (w64 (2 * p2)))), none, none] [3, 4, 7, 8, 150, 151] [pl 3 (pa g2 0), pl 4 (pa g3 0), pl 7 (vi (geti p1 m2)), pl 8 (pa g5 0), pl 150 (vi (bAndN p3 (shlK .i64 3 (w64 (2 * p2))))), pl 151 (pa g5 2)] hF hS Fol (by kernel_rfl) (by kernel_rfl) (by kernel_rfl) (by kernel_rfl) (by kernel_rfl) ?_ (fun a w hF hS => ?_)
       ·exact obs_cons (ob_load Agg3 (fun _ _ hS => (hS.at_ 3 rfl).cell rfl)) <| obs_cons (ob_load Agg3 (fun _ _ hS => (hS.at_ 0 rfl).cell rfl)) <| obs_cons (ob_shl (fun _ => hp10)) <| obs_nil
       obtain ⟨w, hrun, hS⟩ := run_put (P := Try.prog) (t := 3) (u := vi (bAndN p3 (shlK .i64 3 (w64 (2 * p2))))) (i := 2) (hS.at_ 3 rfl) hi3 hs3 rfl (Nat.lt_of_lt_of_eq (Nat.lt_of_succ_le (Nat.le_of_ble_eq_true (by kernel_rfl))) rfl)
       refine at_s hF hrun ?_
       have hS : Sep w0 B w (blk g1 65 (ca A1 p1.length c1 p2 p3 p4 p5 p6) :: blk g2 126 #[vi m1, vi m2, vi m3] :: blk g3 65 (ca none 0 0 0 0 0 0 0) :: blk g5 65 #[.slice A4 out1.length c4, vi (w64 (1 - p2)), vi (bAndN p3 (shlK .i64 3 (w64 (2 * p2)))), vi (-1), vi (minI (w64 (p5 + 1)) 999), vi (minI (w64 (p6 + p2)) 999)] :: own 3 (.slice A4 out1.length c4) (vI out6) :: fs) := hS
       refine ae [3, 4, 7, 8] [pl 3 (pa g2 0), pl 4 (pa g3 0), pl 7 (vi (geti p1 m2)), pl 8 (pa g5 0)] hF rfl (fun hF => ?_)
       refine np_n ?_
       refine block_n ?_
       refine then_n ?_
       have hS := hS.pickN 5 [1, 2, 3, 4] (by decide)
       exact ⟨out6, (bAndN p3 (shlK .i64 3 (w64 (2 * p2)))), (-1), (minI (w64 (p5 + 1)) 999), hF.wk [3, 4, 7, 8], hS, hm⟩
      ·refine rg [⟨false, [], vS (Instr.loadAt 3 (pa g2 1)), vi m2⟩, ⟨false, [], vS (Instr.loadAt 3 (pa g2 0)), vi m1⟩] [none, some (vi m2), none, some (vi m1), none, none] [2, 3, 4, 7, 8, 9] [pl 2 (pa g1 0), pl 3 (pa g2 0), pl 4 (pa g3 0), pl 7 (vi (geti p1 m2)), pl 8 (pa g5 0), pl 9 (vi (w64 (m2 - m1)))] hF hS ?_ (fun a w hF hS => ?_)
       ·exact obs_cons (ob_load Agg3 (fun _ _ hS => (hS.at_ 1 rfl).cell rfl)) <| obs_cons (ob_load Agg3 (fun _ _ hS => (hS.at_ 1 rfl).cell rfl)) <| obs_nil
       refine rg [] [] [2, 3, 4, 7, 8, 9, 118] [pl 2 (pa g1 0), pl 3 (pa g2 0), pl 4 (pa g3 0), pl 7 (vi (geti p1 m2)), pl 8 (pa g5 0), pl 9 (vi (w64 (m2 - m1))), pl 118 (.bool (((w64 (m2 - m1)) == 2) || ((w64 (m2 - m1)) == (-2))))] hF hS obs_nil (fun a w hF hS => ?_)
       refine ce (t := 118) (b := ((w64 (m2 - m1)) == 2) || ((w64 (m2 - m1)) == (-2))) hF (fun hb => ?_) (fun hb => ?_)
       ·replace hm := if_t hm hb
        refine rg [⟨false, [], vS (Instr.loadAt 3 (pa g2 0)), vi m1⟩] [none, some (vi m1), none, none] [2, 3, 4, 7, 8, 9, 10] [pl 2 (pa g1 0), pl 3 (pa g2 0), pl 4 (pa g3 0), pl 7 (vi (geti p1 m2)), pl 8 (pa g5 0), pl 9 (vi (w64 (m2 - m1))), pl 10 (vi (w64 (m1 + 3)))] hF hS ?_ (fun a w hF hS => ?_)
        ·exact obs_cons (ob_load Agg3 (fun _ _ hS => (hS.at_ 1 rfl).cell rfl)) <| obs_nil
        refine seq_cut (fun a w => ∃ (rook1 : Int), Fr 181 [pl 2 (pa g1 0), pl 3 (pa g2 0), pl 4 (pa g3 0), pl 7 (vi (geti p1 m2)), pl 8 (pa g5 0), pl 9 (vi (w64 (m2 - m1))), pl 10 (vi rook1)] a ∧ Sep w0 B w (blk g1 65 (ca A1 p1.length c1 p2 p3 p4 p5 p6) :: blk g2 126 #[vi m1, vi m2, vi m3] :: blk g3 65 (ca none 0 0 0 0 0 0 0) :: blk g5 65 #[.slice A4 out1.length c4, vi (w64 (1 - p2)), vi p3, vi (-1), vi (minI (w64 (p5 + 1)) 999), vi (minI (w64 (p6 + p2)) 999)] :: own 3 (.slice A4 out1.length c4) (vI ((out1.set (Int.toNat m1) 0).set (Int.toNat m2) (geti p1 m1))) :: fs) ∧ ((board_After_J5 p1 p2 p3 p5 p6 m1 m2 out1) rook1).bind some = some r) ?_ ?_
        ·rintro a w ⟨rook1, hF, hS, hm⟩
         unfold board_After_J5 at hm
         obtain ⟨hp7, hm⟩ := asrt_b hm
         obtain ⟨hp8, hm⟩ := asrt_b hm
         obtain ⟨hp9, hm⟩ := asrt_b hm
         refine regMix5 [0, 1, 2, 3, 4, 5, 6, 7, 9, 10, 11, 12, 13, 14, 15] [16, 18] 4 #[true, true, true, true, true, true, true, true, false, true, true, true, true, true, true, true, false, false, false] [⟨false, [], vS (Instr.loadAt 22 (pa g5 0)), .slice A4 out1.length c4⟩, ⟨false, [], vS (Instr.loadAt 3 (pa g2 0)), vi m1⟩, ⟨false, [], vS (Instr.loadAt 22 (pa g5 0)), .slice A4 out1.length c4⟩, ⟨true, [], vS (Instr.indexAt 22 (.slice A4 out1.length c4) (vi rook1)), .pointer (some (sAddr A4 rook1))⟩, ⟨false, [], vS (Instr.loadAt 3 (.pointer (some (sAddr A4 rook1)))), vi (geti ((out1.set (Int.toNat m1) 0).set (Int.toNat m2) (geti p1 m1)) rook1)⟩, ⟨true, [], vS (Instr.indexAt 22 (.slice A4 out1.length c4) (vi (w64 (m1 + (w64 (Int.tdiv (w64 (m2 - m1)) 2)))))), .pointer (some (sAddr A4 (w64 (m1 + (w64 (Int.tdiv (w64 (m2 - m1)) 2))))))⟩] [none, some (.slice A4 out1.length c4), none, some (vi m1), none, none, none, none, none, none, some (.slice A4 out1.length c4), none, some (.pointer (some (sAddr A4 rook1))), some (vi (geti ((out1.set (Int.toNat m1) 0).set (Int.toNat m2) (geti p1 m1)) rook1)), some (.pointer (some (sAddr A4 (w64 (m1 + (w64 (Int.tdiv (w64 (m2 - m1)) 2)))))))] [2, 3, 4, 7, 8, 134, 136, 141, 142] [pl 2 (pa g1 0), pl 3 (pa g2 0), pl 4 (pa g3 0), pl 7 (vi (geti p1 m2)), pl 8 (pa g5 0), pl 134 (pa g5 0), pl 136 (vi rook1), pl 141 (vi (geti ((out1.set (Int.toNat m1) 0).set (Int.toNat m2) (geti p1 m1)) rook1)), pl 142 (.pointer (some (sAddr A4 (w64 (m1 + (w64 (Int.tdiv (w64 (m2 - m1)) 2)))))))] hF hS Fol (by kernel_rfl) (by kernel_rfl) (by kernel_rfl) (by kernel_rfl) ?_ (fun a w hF hS => ?_)
         ·exact obs_cons (ob_load Agg22 (fun _ _ hS => (hS.at_ 3 rfl).cell rfl)) <| obs_cons (ob_load Agg3 (fun _ _ hS => (hS.at_ 1 rfl).cell rfl)) <| obs_cons (ob_load Agg22 (fun _ _ hS => (hS.at_ 3 rfl).cell rfl)) <| obs_cons (ob_ix1 (f := (Value.int .i64)) (m := ((out1.set (Int.toNat m1) 0).set (Int.toNat m2) (geti p1 m1))) Und22 hi3 hs3 (hS.at_ 4 rfl).rd ((hS.at_ 4 rfl).len1) (fun _ => hp7)) <| obs_cons (ob_get1 (n := out1.length) (m := ((out1.set (Int.toNat m1) 0).set (Int.toNat m2) (geti p1 m1))) (Value.int .i64) (0 : Int) Agg3 (fun _ hS => ⟨_, (hS.at_ 4 rfl).rd⟩) (fun _ hS => ((hS.at_ 4 rfl).len1)) (fun _ => hp7)) <| obs_cons (ob_ix1 (f := (Value.int .i64)) (m := ((out1.set (Int.toNat m1) 0).set (Int.toNat m2) (geti p1 m1))) Und22 hi3 hs3 (hS.at_ 4 rfl).rd ((hS.at_ 4 rfl).len1) (fun _ => hp8)) <| obs_nil
         refine any_share 2 #[true, true, true, true, true, true, true, true, true, true, true, true, true, true, true, true, true, false, false] (fun a w => Fr 181 [pl 2 (pa g1 0), pl 3 (pa g2 0), pl 4 (pa g3 0), pl 7 (vi (geti p1 m2)), pl 8 (pa g5 0), pl 135 (.slice A4 out1.length c4), pl 136 (vi rook1)] a ∧ Sep w0 B w (blk g1 65 (ca A1 p1.length c1 p2 p3 p4 p5 p6) :: blk g2 126 #[vi m1, vi m2, vi m3] :: blk g3 65 (ca none 0 0 0 0 0 0 0) :: blk g5 65 #[.slice A4 out1.length c4, vi (w64 (1 - p2)), vi p3, vi (-1), vi (minI (w64 (p5 + 1)) 999), vi (minI (w64 (p6 + p2)) 999)] :: own 3 (.slice A4 out1.length c4) (vI (((out1.set (Int.toNat m1) 0).set (Int.toNat m2) (geti p1 m1)).set (Int.toNat (w64 (m1 + (w64 (Int.tdiv (w64 (m2 - m1)) 2))))) (geti ((out1.set (Int.toNat m1) 0).set (Int.toNat m2) (geti p1 m1)) rook1))) :: fs)) (fun a w hI => ?_) (fun sh7 => ?_)
         ·obtain ⟨hF, hS⟩ := hI
          refine aq [17] (all_cons ?_ all_nil)
          refine ao (listed' := #[true, true, true, true, true, true, true, true, true, true, true, true, true, true, true, true, true, true, false]) ?_
          refine aw 1 [⟨true, [], vS (Instr.indexAt 22 (.slice A4 out1.length c4) (vi rook1)), .pointer (some (sAddr A4 rook1))⟩] [some (.pointer (some (sAddr A4 rook1)))] [2, 3, 4, 7, 8, 143] [pl 2 (pa g1 0), pl 3 (pa g2 0), pl 4 (pa g3 0), pl 7 (vi (geti p1 m2)), pl 8 (pa g5 0), pl 143 (.pointer (some (sAddr A4 rook1)))] hF hS ?_ (fun a hF => ?_)
          ·exact obs_cons (ob_ix1 (f := (Value.int .i64)) (m := (((out1.set (Int.toNat m1) 0).set (Int.toNat m2) (geti p1 m1)).set (Int.toNat (w64 (m1 + (w64 (Int.tdiv (w64 (m2 - m1)) 2))))) (geti ((out1.set (Int.toNat m1) 0).set (Int.toNat m2) (geti p1 m1)) rook1))) Und22 hi3 hs3 (hS.at_ 4 rfl).rd ((hS.at_ 4 rfl).len1) (fun _ => hp9)) <| obs_nil
          refine any_finI rfl (fun h => h) ?_
          refine aq [18] (all_cons ?_ all_nil)
          refine ao (listed' := #[true, true, true, true, true, true, true, true, true, true, true, true, true, true, true, true, true, true, true]) ?_
          obtain ⟨w, hrun, hS⟩ := run_set1 (P := Try.prog) (t := 3) (x := 0) (Value.int .i64) (hS.at_ 4 rfl) hi3 hs3 rfl rfl hp9
          refine at_s hF hrun ?_
          have hS : Sep w0 B w (blk g1 65 (ca A1 p1.length c1 p2 p3 p4 p5 p6) :: blk g2 126 #[vi m1, vi m2, vi m3] :: blk g3 65 (ca none 0 0 0 0 0 0 0) :: blk g5 65 #[.slice A4 out1.length c4, vi (w64 (1 - p2)), vi p3, vi (-1), vi (minI (w64 (p5 + 1)) 999), vi (minI (w64 (p6 + p2)) 999)] :: own 3 (.slice A4 out1.length c4) (vI ((((out1.set (Int.toNat m1) 0).set (Int.toNat m2) (geti p1 m1)).set (Int.toNat (w64 (m1 + (w64 (Int.tdiv (w64 (m2 - m1)) 2))))) (geti ((out1.set (Int.toNat m1) 0).set (Int.toNat m2) (geti p1 m1)) rook1)).set (Int.toNat rook1) 0)) :: fs) := hS
          refine any_finE rfl (by decide) ?_
          refine any_end (by kernel_rfl) (np_n (then_n ?_))
          exact ⟨((((out1.set (Int.toNat m1) 0).set (Int.toNat m2) (geti p1 m1)).set (Int.toNat (w64 (m1 + (w64 (Int.tdiv (w64 (m2 - m1)) 2))))) (geti ((out1.set (Int.toNat m1) 0).set (Int.toNat m2) (geti p1 m1)) rook1)).set (Int.toNat rook1) 0), hF.wk [2, 3, 4, 7, 8], hS, hm⟩
         refine aq [8, 16] ?_
         refine (all_cons ?_ (all_cons ?_ all_nil))
         ·refine ao (listed' := #[true, true, true, true, true, true, true, true, true, true, true, true, true, true, true, true, false, false, false]) ?_
          refine aw 1 [⟨false, [], vS (Instr.loadAt 22 (pa g5 0)), .slice A4 out1.length c4⟩] [some (.slice A4 out1.length c4)] [2, 3, 4, 7, 8, 135, 136, 141, 142] [pl 2 (pa g1 0), pl 3 (pa g2 0), pl 4 (pa g3 0), pl 7 (vi (geti p1 m2)), pl 8 (pa g5 0), pl 135 (.slice A4 out1.length c4), pl 136 (vi rook1), pl 141 (vi (geti ((out1.set (Int.toNat m1) 0).set (Int.toNat m2) (geti p1 m1)) rook1)), pl 142 (.pointer (some (sAddr A4 (w64 (m1 + (w64 (Int.tdiv (w64 (m2 - m1)) 2)))))))] hF hS ?_ (fun a hF => ?_)
          ·exact obs_cons (ob_load Agg22 (fun _ _ hS => (hS.at_ 3 rfl).cell rfl)) <| obs_nil
          refine any_finI rfl (fun h => h) ?_
          refine aq [16] (all_cons ?_ all_nil)
          refine ao (listed' := #[true, true, true, true, true, true, true, true, true, true, true, true, true, true, true, true, true, false, false]) ?_
          obtain ⟨w, hrun, hS⟩ := run_set1 (P := Try.prog) (t := 3) (x := (geti ((out1.set (Int.toNat m1) 0).set (Int.toNat m2) (geti p1 m1)) rook1)) (Value.int .i64) (hS.at_ 4 rfl) hi3 hs3 rfl rfl hp8
          refine at_s hF hrun ?_
          have hS : Sep w0 B w (blk g1 65 (ca A1 p1.length c1 p2 p3 p4 p5 p6) :: blk g2 126 #[vi m1, vi m2, vi m3] :: blk g3 65 (ca none 0 0 0 0 0 0 0) :: blk g5 65 #[.slice A4 out1.length c4, vi (w64 (1 - p2)), vi p3, vi (-1), vi (minI (w64 (p5 + 1)) 999), vi (minI (w64 (p6 + p2)) 999)] :: own 3 (.slice A4 out1.length c4) (vI (((out1.set (Int.toNat m1) 0).set (Int.toNat m2) (geti p1 m1)).set (Int.toNat (w64 (m1 + (w64 (Int.tdiv (w64 (m2 - m1)) 2))))) (geti ((out1.set (Int.toNat m1) 0).set (Int.toNat m2) (geti p1 m1)) rook1))) :: fs) := hS
          refine any_finE rfl (by decide) ?_
          exact sh7 _ _ ⟨hF.wk [2, 3, 4, 7, 8, 135, 136], hS⟩
         ·refine ao (listed' := #[true, true, true, true, true, true, true, true, false, true, true, true, true, true, true, true, true, false, false]) ?_
          obtain ⟨w, hrun, hS⟩ := run_set1 (P := Try.prog) (t := 3) (x := (geti ((out1.set (Int.toNat m1) 0).set (Int.toNat m2) (geti p1 m1)) rook1)) (Value.int .i64) (hS.at_ 4 rfl) hi3 hs3 rfl rfl hp8
          refine at_s hF hrun ?_
          have hS : Sep w0 B w (blk g1 65 (ca A1 p1.length c1 p2 p3 p4 p5 p6) :: blk g2 126 #[vi m1, vi m2, vi m3] :: blk g3 65 (ca none 0 0 0 0 0 0 0) :: blk g5 65 #[.slice A4 out1.length c4, vi (w64 (1 - p2)), vi p3, vi (-1), vi (minI (w64 (p5 + 1)) 999), vi (minI (w64 (p6 + p2)) 999)] :: own 3 (.slice A4 out1.length c4) (vI (((out1.set (Int.toNat m1) 0).set (Int.toNat m2) (geti p1 m1)).set (Int.toNat (w64 (m1 + (w64 (Int.tdiv (w64 (m2 - m1)) 2))))) (geti ((out1.set (Int.toNat m1) 0).set (Int.toNat m2) (geti p1 m1)) rook1))) :: fs) := hS
          refine any_finE rfl (by decide) ?_
          refine aq [8] (all_cons ?_ all_nil)
          refine ao (listed' := #[true, true, true, true, true, true, true, true, true, true, true, true, true, true, true, true, true, false, false]) ?_
          refine aw 1 [⟨false, [], vS (Instr.loadAt 22 (pa g5 0)), .slice A4 out1.length c4⟩] [some (.slice A4 out1.length c4)] [2, 3, 4, 7, 8, 135, 136] [pl 2 (pa g1 0), pl 3 (pa g2 0), pl 4 (pa g3 0), pl 7 (vi (geti p1 m2)), pl 8 (pa g5 0), pl 135 (.slice A4 out1.length c4), pl 136 (vi rook1)] hF hS ?_ (fun a hF => ?_)
          ·exact obs_cons (ob_load Agg22 (fun _ _ hS => (hS.at_ 3 rfl).cell rfl)) <| obs_nil
          refine any_finI rfl (fun h => h) ?_
          exact sh7 _ _ ⟨hF.wk [2, 3, 4, 7, 8, 135, 136], hS⟩
        ·refine rg [] [] [2, 3, 4, 7, 8, 9, 10, 123] [pl 2 (pa g1 0), pl 3 (pa g2 0), pl 4 (pa g3 0), pl 7 (vi (geti p1 m2)), pl 8 (pa g5 0), pl 9 (vi (w64 (m2 - m1))), pl 10 (vi (w64 (m1 + 3))), pl 123 (.bool (decide ((w64 (m2 - m1)) < 0)))] hF hS obs_nil (fun a w hF hS => ?_)
         refine ce (t := 123) (b := decide ((w64 (m2 - m1)) < 0)) hF (fun hb => ?_) (fun hb => ?_)
         ·replace hm := if_t hm hb
          refine rg1 [⟨false, [], vS (Instr.loadAt 3 (pa g2 0)), vi m1⟩] [none, some (vi m1), none, none] [2, 3, 4, 7, 8, 9, 10] [pl 2 (pa g1 0), pl 3 (pa g2 0), pl 4 (pa g3 0), pl 7 (vi (geti p1 m2)), pl 8 (pa g5 0), pl 9 (vi (w64 (m2 - m1))), pl 10 (vi (w64 (m1 - 4)))] hF hS ?_ (fun a w hF hS => ?_)
          ·exact obs_cons (ob_load Agg3 (fun _ _ hS => (hS.at_ 1 rfl).cell rfl)) <| obs_nil
          refine then_n ?_
          exact ⟨(w64 (m1 - 4)), hF.wk [2, 3, 4, 7, 8, 9, 10], hS, hm⟩
         ·replace hm := if_f hm hb
          refine wpIn_skip ?_
          refine then_n ?_
          exact ⟨(w64 (m1 + 3)), hF.wk [2, 3, 4, 7, 8, 9, 10], hS, hm⟩
       ·replace hm := if_f hm hb
        refine wpIn_skip ?_
        refine then_n ?_
        exact ⟨((out1.set (Int.toNat m1) 0).set (Int.toNat m2) (geti p1 m1)), hF.wk [2, 3, 4, 7, 8], hS, hm⟩
     ·replace hm := if_f hm hb
      refine wpIn_skip ?_
      refine block_n ?_
      refine then_n ?_
      have hS := hS.pickN 5 [1, 2, 3, 4] (by decide)
      exact ⟨((out1.set (Int.toNat m1) 0).set (Int.toNat m2) (geti p1 m1)), p3, (-1), (minI (w64 (p5 + 1)) 999), hF.wk [3, 4, 7, 8], hS, hm⟩
  ·obtain ⟨hp3, hm⟩ := asrt_b hm
   obtain ⟨hp4, hm⟩ := asrt_b hm
   refine regMix5 [0, 1, 2, 3, 4, 6, 8, 9] [10, 12] 5 #[true, true, true, true, true, false, true, false, true, true, false, false, false] [⟨false, [], vS (Instr.loadAt 22 (pa g5 0)), .slice A4 out1.length c4⟩, ⟨false, [], vS (Instr.loadAt 3 (pa g2 0)), vi m1⟩, ⟨true, [], vS (Instr.indexAt 22 (.slice A4 out1.length c4) (vi m1)), .pointer (some (sAddr A4 m1))⟩] [none, some (.slice A4 out1.length c4), none, some (vi m1), none, none, none, some (.pointer (some (sAddr A4 m1)))] [2, 3, 4, 5, 6, 7, 8, 52, 54, 56, 57] [pl 2 (pa g1 0), pl 3 (pa g2 0), pl 4 (pa g3 0), pl 5 (vi r1), pl 6 (vi (geti p1 m1)), pl 7 (vi (geti p1 m2)), pl 8 (pa g5 0), pl 52 (pa g5 0), pl 54 (pa g2 1), pl 56 (vi (geti p1 m1)), pl 57 (.pointer (some (sAddr A4 m1)))] hF hS Fol (by kernel_rfl) (by kernel_rfl) (by kernel_rfl) (by kernel_rfl) ?_ (fun a w hF hS => ?_)
   ·exact obs_cons (ob_load Agg22 (fun _ _ hS => (hS.at_ 3 rfl).cell rfl)) <| obs_cons (ob_load Agg3 (fun _ _ hS => (hS.at_ 1 rfl).cell rfl)) <| obs_cons (ob_ix1 (f := (Value.int .i64)) (m := out1) Und22 hi3 hs3 (hS.at_ 4 rfl).rd rfl (fun _ => hp3)) <| obs_nil
   refine any_share 2 #[true, true, true, true, true, true, true, true, true, true, true, false, false] (fun a w => Fr 181 [pl 2 (pa g1 0), pl 3 (pa g2 0), pl 4 (pa g3 0), pl 5 (vi r1), pl 6 (vi (geti p1 m1)), pl 7 (vi (geti p1 m2)), pl 8 (pa g5 0), pl 53 (.slice A4 out1.length c4), pl 55 (vi m2), pl 56 (vi (geti p1 m1))] a ∧ Sep w0 B w (blk g1 65 (ca A1 p1.length c1 p2 p3 p4 p5 p6) :: blk g2 126 #[vi m1, vi m2, vi m3] :: blk g3 65 (ca none 0 0 0 0 0 0 0) :: blk g5 65 #[.slice A4 out1.length c4, vi (w64 (1 - p2)), vi p3, vi (-1), vi (minI (w64 (p5 + 1)) 999), vi (minI (w64 (p6 + p2)) 999)] :: own 3 (.slice A4 out1.length c4) (vI (out1.set (Int.toNat m1) 0)) :: fs)) (fun a w hI => ?_) (fun sh3 => ?_)
   ·obtain ⟨hF, hS⟩ := hI
    refine aq [11] (all_cons ?_ all_nil)
    refine ao (listed' := #[true, true, true, true, true, true, true, true, true, true, true, true, false]) ?_
    refine aw 1 [⟨true, [], vS (Instr.indexAt 22 (.slice A4 out1.length c4) (vi m2)), .pointer (some (sAddr A4 m2))⟩] [some (.pointer (some (sAddr A4 m2)))] [2, 3, 4, 5, 6, 7, 8, 56, 58] [pl 2 (pa g1 0), pl 3 (pa g2 0), pl 4 (pa g3 0), pl 5 (vi r1), pl 6 (vi (geti p1 m1)), pl 7 (vi (geti p1 m2)), pl 8 (pa g5 0), pl 56 (vi (geti p1 m1)), pl 58 (.pointer (some (sAddr A4 m2)))] hF hS ?_ (fun a hF => ?_)
    ·exact obs_cons (ob_ix1 (f := (Value.int .i64)) (m := (out1.set (Int.toNat m1) 0)) Und22 hi3 hs3 (hS.at_ 4 rfl).rd ((hS.at_ 4 rfl).len1) (fun _ => hp4)) <| obs_nil
    refine any_finI rfl (fun h => h) ?_
    refine aq [12] (all_cons ?_ all_nil)
    refine ao (listed' := #[true, true, true, true, true, true, true, true, true, true, true, true, true]) ?_
    obtain ⟨w, hrun, hS⟩ := run_set1 (P := Try.prog) (t := 3) (x := (geti p1 m1)) (Value.int .i64) (hS.at_ 4 rfl) hi3 hs3 rfl rfl hp4
    refine at_s hF hrun ?_
    have hS : Sep w0 B w (blk g1 65 (ca A1 p1.length c1 p2 p3 p4 p5 p6) :: blk g2 126 #[vi m1, vi m2, vi m3] :: blk g3 65 (ca none 0 0 0 0 0 0 0) :: blk g5 65 #[.slice A4 out1.length c4, vi (w64 (1 - p2)), vi p3, vi (-1), vi (minI (w64 (p5 + 1)) 999), vi (minI (w64 (p6 + p2)) 999)] :: own 3 (.slice A4 out1.length c4) (vI ((out1.set (Int.toNat m1) 0).set (Int.toNat m2) (geti p1 m1))) :: fs) := hS
    refine any_finE rfl (by decide) ?_
    refine any_end (by kernel_rfl) (np_n (then_n ?_))
    exact ⟨hF.wk [2, 3, 4, 5, 6, 7, 8], hS, hm⟩
   refine any_share 3 #[true, true, true, true, true, true, true, true, true, true, false, false, false] (fun a w => Fr 181 [pl 2 (pa g1 0), pl 3 (pa g2 0), pl 4 (pa g3 0), pl 5 (vi r1), pl 6 (vi (geti p1 m1)), pl 7 (vi (geti p1 m2)), pl 8 (pa g5 0), pl 53 (.slice A4 out1.length c4), pl 55 (vi m2), pl 56 (vi (geti p1 m1)), pl 57 (.pointer (some (sAddr A4 m1)))] a ∧ Sep w0 B w (blk g1 65 (ca A1 p1.length c1 p2 p3 p4 p5 p6) :: blk g2 126 #[vi m1, vi m2, vi m3] :: blk g3 65 (ca none 0 0 0 0 0 0 0) :: blk g5 65 #[.slice A4 out1.length c4, vi (w64 (1 - p2)), vi p3, vi (-1), vi (minI (w64 (p5 + 1)) 999), vi (minI (w64 (p6 + p2)) 999)] :: own 3 (.slice A4 out1.length c4) (vI out1) :: fs)) (fun a w hI => ?_) (fun sh4 => ?_)
   ·obtain ⟨hF, hS⟩ := hI
    refine aq [10] (all_cons ?_ all_nil)
    refine ao (listed' := #[true, true, true, true, true, true, true, true, true, true, true, false, false]) ?_
    obtain ⟨w, hrun, hS⟩ := run_set1 (P := Try.prog) (t := 3) (x := 0) (Value.int .i64) (hS.at_ 4 rfl) hi3 hs3 rfl rfl hp3
    refine at_s hF hrun ?_
    have hS : Sep w0 B w (blk g1 65 (ca A1 p1.length c1 p2 p3 p4 p5 p6) :: blk g2 126 #[vi m1, vi m2, vi m3] :: blk g3 65 (ca none 0 0 0 0 0 0 0) :: blk g5 65 #[.slice A4 out1.length c4, vi (w64 (1 - p2)), vi p3, vi (-1), vi (minI (w64 (p5 + 1)) 999), vi (minI (w64 (p6 + p2)) 999)] :: own 3 (.slice A4 out1.length c4) (vI (out1.set (Int.toNat m1) 0)) :: fs) := hS
    refine any_finE rfl (by decide) ?_
    exact sh3 _ _ ⟨hF.wk [2, 3, 4, 5, 6, 7, 8, 53, 55, 56], hS⟩
   refine any_share 3 #[true, true, true, true, true, true, true, false, true, true, true, false, false] (fun a w => Fr 181 [pl 2 (pa g1 0), pl 3 (pa g2 0), pl 4 (pa g3 0), pl 5 (vi r1), pl 6 (vi (geti p1 m1)), pl 7 (vi (geti p1 m2)), pl 8 (pa g5 0), pl 53 (.slice A4 out1.length c4), pl 54 (pa g2 1), pl 56 (vi (geti p1 m1))] a ∧ Sep w0 B w (blk g1 65 (ca A1 p1.length c1 p2 p3 p4 p5 p6) :: blk g2 126 #[vi m1, vi m2, vi m3] :: blk g3 65 (ca none 0 0 0 0 0 0 0) :: blk g5 65 #[.slice A4 out1.length c4, vi (w64 (1 - p2)), vi p3, vi (-1), vi (minI (w64 (p5 + 1)) 999), vi (minI (w64 (p6 + p2)) 999)] :: own 3 (.slice A4 out1.length c4) (vI (out1.set (Int.toNat m1) 0)) :: fs)) (fun a w hI => ?_) (fun sh5 => ?_)
   ·obtain ⟨hF, hS⟩ := hI
    refine aq [7] (all_cons ?_ all_nil)
    refine ao (listed' := #[true, true, true, true, true, true, true, true, true, true, true, false, false]) ?_
    refine aw 1 [⟨false, [], vS (Instr.loadAt 3 (pa g2 1)), vi m2⟩] [some (vi m2)] [2, 3, 4, 5, 6, 7, 8, 53, 55, 56] [pl 2 (pa g1 0), pl 3 (pa g2 0), pl 4 (pa g3 0), pl 5 (vi r1), pl 6 (vi (geti p1 m1)), pl 7 (vi (geti p1 m2)), pl 8 (pa g5 0), pl 53 (.slice A4 out1.length c4), pl 55 (vi m2), pl 56 (vi (geti p1 m1))] hF hS ?_ (fun a hF => ?_)
    ·exact obs_cons (ob_load Agg3 (fun _ _ hS => (hS.at_ 1 rfl).cell rfl)) <| obs_nil
    refine any_finI rfl (fun h => h) ?_
    exact sh3 _ _ ⟨hF.wk [2, 3, 4, 5, 6, 7, 8, 53, 55, 56], hS⟩
   refine any_share 3 #[true, true, true, true, true, false, true, true, true, true, true, false, false] (fun a w => Fr 181 [pl 2 (pa g1 0), pl 3 (pa g2 0), pl 4 (pa g3 0), pl 5 (vi r1), pl 6 (vi (geti p1 m1)), pl 7 (vi (geti p1 m2)), pl 8 (pa g5 0), pl 52 (pa g5 0), pl 55 (vi m2), pl 56 (vi (geti p1 m1))] a ∧ Sep w0 B w (blk g1 65 (ca A1 p1.length c1 p2 p3 p4 p5 p6) :: blk g2 126 #[vi m1, vi m2, vi m3] :: blk g3 65 (ca none 0 0 0 0 0 0 0) :: blk g5 65 #[.slice A4 out1.length c4, vi (w64 (1 - p2)), vi p3, vi (-1), vi (minI (w64 (p5 + 1)) 999), vi (minI (w64 (p6 + p2)) 999)] :: own 3 (.slice A4 out1.length c4) (vI (out1.set (Int.toNat m1) 0)) :: fs)) (fun a w hI => ?_) (fun sh6 => ?_)
   ·obtain ⟨hF, hS⟩ := hI
    refine aq [5] (all_cons ?_ all_nil)
    refine ao (listed' := #[true, true, true, true, true, true, true, true, true, true, true, false, false]) ?_
    refine aw 1 [⟨false, [], vS (Instr.loadAt 22 (pa g5 0)), .slice A4 out1.length c4⟩] [some (.slice A4 out1.length c4)] [2, 3, 4, 5, 6, 7, 8, 53, 55, 56] [pl 2 (pa g1 0), pl 3 (pa g2 0), pl 4 (pa g3 0), pl 5 (vi r1), pl 6 (vi (geti p1 m1)), pl 7 (vi (geti p1 m2)), pl 8 (pa g5 0), pl 53 (.slice A4 out1.length c4), pl 55 (vi m2), pl 56 (vi (geti p1 m1))] hF hS ?_ (fun a hF => ?_)
    ·exact obs_cons (ob_load Agg22 (fun _ _ hS => (hS.at_ 3 rfl).cell rfl)) <| obs_nil
    refine any_finI rfl (fun h => h) ?_
    exact sh3 _ _ ⟨hF.wk [2, 3, 4, 5, 6, 7, 8, 53, 55, 56], hS⟩
   refine aq [5, 7, 10] ?_
   refine (all_cons ?_ (all_cons ?_ (all_cons ?_ all_nil)))
   ·refine ao (listed' := #[true, true, true, true, true, true, true, false, true, true, false, false, false]) ?_
    refine aw 1 [⟨false, [], vS (Instr.loadAt 22 (pa g5 0)), .slice A4 out1.length c4⟩] [some (.slice A4 out1.length c4)] [2, 3, 4, 5, 6, 7, 8, 53, 54, 56, 57] [pl 2 (pa g1 0), pl 3 (pa g2 0), pl 4 (pa g3 0), pl 5 (vi r1), pl 6 (vi (geti p1 m1)), pl 7 (vi (geti p1 m2)), pl 8 (pa g5 0), pl 53 (.slice A4 out1.length c4), pl 54 (pa g2 1), pl 56 (vi (geti p1 m1)), pl 57 (.pointer (some (sAddr A4 m1)))] hF hS ?_ (fun a hF => ?_)
    ·exact obs_cons (ob_load Agg22 (fun _ _ hS => (hS.at_ 3 rfl).cell rfl)) <| obs_nil
    refine any_finI rfl (fun h => h) ?_
    refine aq [7, 10] ?_
    refine (all_cons ?_ (all_cons ?_ all_nil))
    ·refine ao (listed' := #[true, true, true, true, true, true, true, true, true, true, false, false, false]) ?_
     refine aw 1 [⟨false, [], vS (Instr.loadAt 3 (pa g2 1)), vi m2⟩] [some (vi m2)] [2, 3, 4, 5, 6, 7, 8, 53, 55, 56, 57] [pl 2 (pa g1 0), pl 3 (pa g2 0), pl 4 (pa g3 0), pl 5 (vi r1), pl 6 (vi (geti p1 m1)), pl 7 (vi (geti p1 m2)), pl 8 (pa g5 0), pl 53 (.slice A4 out1.length c4), pl 55 (vi m2), pl 56 (vi (geti p1 m1)), pl 57 (.pointer (some (sAddr A4 m1)))] hF hS ?_ (fun a hF => ?_)
     ·exact obs_cons (ob_load Agg3 (fun _ _ hS => (hS.at_ 1 rfl).cell rfl)) <| obs_nil
     refine any_finI rfl (fun h => h) ?_
     exact sh4 _ _ ⟨hF.wk [2, 3, 4, 5, 6, 7, 8, 53, 55, 56, 57], hS⟩
    ·refine ao (listed' := #[true, true, true, true, true, true, true, false, true, true, true, false, false]) ?_
     obtain ⟨w, hrun, hS⟩ := run_set1 (P := Try.prog) (t := 3) (x := 0) (Value.int .i64) (hS.at_ 4 rfl) hi3 hs3 rfl rfl hp3
     refine at_s hF hrun ?_
     have hS : Sep w0 B w (blk g1 65 (ca A1 p1.length c1 p2 p3 p4 p5 p6) :: blk g2 126 #[vi m1, vi m2, vi m3] :: blk g3 65 (ca none 0 0 0 0 0 0 0) :: blk g5 65 #[.slice A4 out1.length c4, vi (w64 (1 - p2)), vi p3, vi (-1), vi (minI (w64 (p5 + 1)) 999), vi (minI (w64 (p6 + p2)) 999)] :: own 3 (.slice A4 out1.length c4) (vI (out1.set (Int.toNat m1) 0)) :: fs) := hS
     refine any_finE rfl (by decide) ?_
     exact sh5 _ _ ⟨hF.wk [2, 3, 4, 5, 6, 7, 8, 53, 54, 56], hS⟩
   ·refine ao (listed' := #[true, true, true, true, true, false, true, true, true, true, false, false, false]) ?_
    refine aw 1 [⟨false, [], vS (Instr.loadAt 3 (pa g2 1)), vi m2⟩] [some (vi m2)] [2, 3, 4, 5, 6, 7, 8, 52, 55, 56, 57] [pl 2 (pa g1 0), pl 3 (pa g2 0), pl 4 (pa g3 0), pl 5 (vi r1), pl 6 (vi (geti p1 m1)), pl 7 (vi (geti p1 m2)), pl 8 (pa g5 0), pl 52 (pa g5 0), pl 55 (vi m2), pl 56 (vi (geti p1 m1)), pl 57 (.pointer (some (sAddr A4 m1)))] hF hS ?_ (fun a hF => ?_)
    ·exact obs_cons (ob_load Agg3 (fun _ _ hS => (hS.at_ 1 rfl).cell rfl)) <| obs_nil
    refine any_finI rfl (fun h => h) ?_
    refine aq [5, 10] ?_
    refine (all_cons ?_ (all_cons ?_ all_nil))
    ·refine ao (listed' := #[true, true, true, true, true, true, true, true, true, true, false, false, false]) ?_
     refine aw 1 [⟨false, [], vS (Instr.loadAt 22 (pa g5 0)), .slice A4 out1.length c4⟩] [some (.slice A4 out1.length c4)] [2, 3, 4, 5, 6, 7, 8, 53, 55, 56, 57] [pl 2 (pa g1 0), pl 3 (pa g2 0), pl 4 (pa g3 0), pl 5 (vi r1), pl 6 (vi (geti p1 m1)), pl 7 (vi (geti p1 m2)), pl 8 (pa g5 0), pl 53 (.slice A4 out1.length c4), pl 55 (vi m2), pl 56 (vi (geti p1 m1)), pl 57 (.pointer (some (sAddr A4 m1)))] hF hS ?_ (fun a hF => ?_)
     ·exact obs_cons (ob_load Agg22 (fun _ _ hS => (hS.at_ 3 rfl).cell rfl)) <| obs_nil
     refine any_finI rfl (fun h => h) ?_
     exact sh4 _ _ ⟨hF.wk [2, 3, 4, 5, 6, 7, 8, 53, 55, 56, 57], hS⟩
    ·refine ao (listed' := #[true, true, true, true, true, false, true, true, true, true, true, false, false]) ?_
     obtain ⟨w, hrun, hS⟩ := run_set1 (P := Try.prog) (t := 3) (x := 0) (Value.int .i64) (hS.at_ 4 rfl) hi3 hs3 rfl rfl hp3
     refine at_s hF hrun ?_
     have hS : Sep w0 B w (blk g1 65 (ca A1 p1.length c1 p2 p3 p4 p5 p6) :: blk g2 126 #[vi m1, vi m2, vi m3] :: blk g3 65 (ca none 0 0 0 0 0 0 0) :: blk g5 65 #[.slice A4 out1.length c4, vi (w64 (1 - p2)), vi p3, vi (-1), vi (minI (w64 (p5 + 1)) 999), vi (minI (w64 (p6 + p2)) 999)] :: own 3 (.slice A4 out1.length c4) (vI (out1.set (Int.toNat m1) 0)) :: fs) := hS
     refine any_finE rfl (by decide) ?_
     exact sh6 _ _ ⟨hF.wk [2, 3, 4, 5, 6, 7, 8, 52, 55, 56], hS⟩
   ·refine ao (listed' := #[true, true, true, true, true, false, true, false, true, true, true, false, false]) ?_
    obtain ⟨w, hrun, hS⟩ := run_set1 (P := Try.prog) (t := 3) (x := 0) (Value.int .i64) (hS.at_ 4 rfl) hi3 hs3 rfl rfl hp3
    refine at_s hF hrun ?_
    have hS : Sep w0 B w (blk g1 65 (ca A1 p1.length c1 p2 p3 p4 p5 p6) :: blk g2 126 #[vi m1, vi m2, vi m3] :: blk g3 65 (ca none 0 0 0 0 0 0 0) :: blk g5 65 #[.slice A4 out1.length c4, vi (w64 (1 - p2)), vi p3, vi (-1), vi (minI (w64 (p5 + 1)) 999), vi (minI (w64 (p6 + p2)) 999)] :: own 3 (.slice A4 out1.length c4) (vI (out1.set (Int.toNat m1) 0)) :: fs) := hS
    refine any_finE rfl (by decide) ?_
    refine aq [5, 7] ?_
    refine (all_cons ?_ (all_cons ?_ all_nil))
    ·refine ao (listed' := #[true, true, true, true, true, true, true, false, true, true, true, false, false]) ?_
     refine aw 1 [⟨false, [], vS (Instr.loadAt 22 (pa g5 0)), .slice A4 out1.length c4⟩] [some (.slice A4 out1.length c4)] [2, 3, 4, 5, 6, 7, 8, 53, 54, 56] [pl 2 (pa g1 0), pl 3 (pa g2 0), pl 4 (pa g3 0), pl 5 (vi r1), pl 6 (vi (geti p1 m1)), pl 7 (vi (geti p1 m2)), pl 8 (pa g5 0), pl 53 (.slice A4 out1.length c4), pl 54 (pa g2 1), pl 56 (vi (geti p1 m1))] hF hS ?_ (fun a hF => ?_)
     ·exact obs_cons (ob_load Agg22 (fun _ _ hS => (hS.at_ 3 rfl).cell rfl)) <| obs_nil
     refine any_finI rfl (fun h => h) ?_
     exact sh5 _ _ ⟨hF.wk [2, 3, 4, 5, 6, 7, 8, 53, 54, 56], hS⟩
    ·refine ao (listed' := #[true, true, true, true, true, false, true, true, true, true, true, false, false]) ?_
     refine aw 1 [⟨false, [], vS (Instr.loadAt 3 (pa g2 1)), vi m2⟩] [some (vi m2)] [2, 3, 4, 5, 6, 7, 8, 52, 55, 56] [pl 2 (pa g1 0), pl 3 (pa g2 0), pl 4 (pa g3 0), pl 5 (vi r1), pl 6 (vi (geti p1 m1)), pl 7 (vi (geti p1 m2)), pl 8 (pa g5 0), pl 52 (pa g5 0), pl 55 (vi m2), pl 56 (vi (geti p1 m1))] hF hS ?_ (fun a hF => ?_)
     ·exact obs_cons (ob_load Agg3 (fun _ _ hS => (hS.at_ 1 rfl).cell rfl)) <| obs_nil
     refine any_finI rfl (fun h => h) ?_
     exact sh6 _ _ ⟨hF.wk [2, 3, 4, 5, 6, 7, 8, 52, 55, 56], hS⟩
 ·obtain ⟨r2, hr2, hm⟩ := call_b hm
  refine regMix5 [0, 1, 3, 4, 5, 6, 7, 8, 9, 10, 11, 12, 13, 14, 15, 16, 17] [] 4 #[true, true, false, true, true, true, true, true, true, true, true, true, true, true, true, true, true, true, false, false, false] [⟨false, [], vS (Instr.loadAt 22 (pa g1 0)), .slice A1 p1.length c1⟩, ⟨false, [], vS (Instr.loadAt 3 (pa g1 1)), vi p2⟩, ⟨false, [], vS (Instr.loadAt 3 (pa g1 2)), vi p3⟩, ⟨false, [], vS (Instr.loadAt 3 (pa g1 4)), vi p5⟩, ⟨true, [], vS (Builtin.min_ #[3, 3] 3 #[vi (w64 (p5 + 1)), vi 999]), vi (minI (w64 (p5 + 1)) 999)⟩, ⟨false, [], vS (Instr.loadAt 3 (pa g1 5)), vi p6⟩, ⟨false, [], vS (Instr.loadAt 3 (pa g1 1)), vi p2⟩, ⟨true, [], vS (Builtin.min_ #[3, 3] 3 #[vi (w64 (p6 + p2)), vi 999]), vi (minI (w64 (p6 + p2)) 999)⟩] [none, some (.slice A1 p1.length c1), none, some (vi p2), none, none, some (vi p3), none, some (vi p5), none, some (vi (minI (w64 (p5 + 1)) 999)), none, some (vi p6), none, some (vi p2), none, some (vi (minI (w64 (p6 + p2)) 999))] [2, 3, 4, 5, 6, 7, 30, 34, 36, 40, 46] [pl 2 (pa g1 0), pl 3 (pa g2 0), pl 4 (pa g3 0), pl 5 (vi r1), pl 6 (vi (geti p1 m1)), pl 7 (vi (geti p1 m2)), pl 30 (.slice A1 p1.length c1), pl 34 (vi (w64 (1 - p2))), pl 36 (vi p3), pl 40 (vi (minI (w64 (p5 + 1)) 999)), pl 46 (vi (minI (w64 (p6 + p2)) 999))] hF hS Fol (by kernel_rfl) (by kernel_rfl) (by kernel_rfl) (by kernel_rfl) ?_ (fun a w hF hS => ?_)
  ·exact obs_cons (ob_load Agg22 (fun _ _ hS => (hS.at_ 2 rfl).cell rfl)) <| obs_cons (ob_load Agg3 (fun _ _ hS => (hS.at_ 2 rfl).cell rfl)) <| obs_cons (ob_load Agg3 (fun _ _ hS => (hS.at_ 2 rfl).cell rfl)) <| obs_cons (ob_load Agg3 (fun _ _ hS => (hS.at_ 2 rfl).cell rfl)) <| obs_cons (ob_min rfl) <| obs_cons (ob_load Agg3 (fun _ _ hS => (hS.at_ 2 rfl).cell rfl)) <| obs_cons (ob_load Agg3 (fun _ _ hS => (hS.at_ 2 rfl).cell rfl)) <| obs_cons (ob_min rfl) <| obs_nil
  refine any_share 1 #[true, true, true, true, true, true, true, true, true, true, true, true, true, true, true, true, true, true, true, true, false] (fun a w => ∃ g4 A3 c3, Fr 181 [pl 2 (pa g1 0), pl 3 (pa g2 0), pl 4 (pa g3 0), pl 5 (vi r1), pl 6 (vi (geti p1 m1)), pl 7 (vi (geti p1 m2)), pl 8 (pa g4 0), pl 47 (.agg #[.slice A3 r2.length c3, vi (w64 (1 - p2)), vi p3, vi (-1), vi (minI (w64 (p5 + 1)) 999), vi (minI (w64 (p6 + p2)) 999)])] a ∧ Sep w0 B w (blk g4 65 (ca none 0 0 0 0 0 0 0) :: own 3 (.slice A3 r2.length c3) (vI r2) :: blk g3 65 (ca none 0 0 0 0 0 0 0) :: blk g2 126 #[vi m1, vi m2, vi m3] :: blk g1 65 (ca A1 p1.length c1 p2 p3 p4 p5 p6) :: fs)) (fun a w hI => ?_) (fun sh1 => ?_)
  ·obtain ⟨g4, A3, c3, hF, hS⟩ := hI
   refine aq [20] (all_cons ?_ all_nil)
   refine ao (listed' := #[true, true, true, true, true, true, true, true, true, true, true, true, true, true, true, true, true, true, true, true, true]) ?_
   obtain ⟨w, hrun, hS⟩ := run_putA (P := Try.prog) (t := 65) (us := #[.slice A3 r2.length c3, vi (w64 (1 - p2)), vi p3, vi (-1), vi (minI (w64 (p5 + 1)) 999), vi (minI (w64 (p6 + p2)) 999)]) (o := 0) (hS.at_ 0 rfl) (by kernel_rfl) (all_one (by kernel_rfl)) (Nat.le_of_ble_eq_true (by kernel_rfl))
   refine at_s hF hrun ?_
   have hS : Sep w0 B w (blk g4 65 #[.slice A3 r2.length c3, vi (w64 (1 - p2)), vi p3, vi (-1), vi (minI (w64 (p5 + 1)) 999), vi (minI (w64 (p6 + p2)) 999)] :: own 3 (.slice A3 r2.length c3) (vI r2) :: blk g3 65 (ca none 0 0 0 0 0 0 0) :: blk g2 126 #[vi m1, vi m2, vi m3] :: blk g1 65 (ca A1 p1.length c1 p2 p3 p4 p5 p6) :: fs) := hS
   refine any_fin rfl (hS.pickN 5 [2, 3, 4] (by decide)) ?_
   refine any_end (by kernel_rfl) (np_n (then_n ?_))
   have hS := hS.pickN 5 [4, 3, 2, 0, 1] (by decide)
   exact ⟨r2, g4, A3, c3, hF.wk [2, 3, 4, 5, 6, 7, 8], hS, hm⟩
  refine any_share 2 #[true, true, true, true, true, true, true, true, true, true, true, true, true, true, true, true, true, true, false, true, false] (fun a w => ∃ g4 A3 c3, Fr 181 [pl 2 (pa g1 0), pl 3 (pa g2 0), pl 4 (pa g3 0), pl 5 (vi r1), pl 6 (vi (geti p1 m1)), pl 7 (vi (geti p1 m2)), pl 8 (pa g4 0), pl 31 (.slice A3 r2.length c3), pl 34 (vi (w64 (1 - p2))), pl 36 (vi p3), pl 40 (vi (minI (w64 (p5 + 1)) 999)), pl 46 (vi (minI (w64 (p6 + p2)) 999))] a ∧ Sep w0 B w (blk g4 65 (ca none 0 0 0 0 0 0 0) :: own 3 (.slice A3 r2.length c3) (vI r2) :: blk g3 65 (ca none 0 0 0 0 0 0 0) :: blk g2 126 #[vi m1, vi m2, vi m3] :: blk g1 65 (ca A1 p1.length c1 p2 p3 p4 p5 p6) :: fs)) (fun a w hI => ?_) (fun sh2 => ?_)
  ·obtain ⟨g4, A3, c3, hF, hS⟩ := hI
   refine aq [18] (all_cons ?_ all_nil)
   refine ao (listed' := #[true, true, true, true, true, true, true, true, true, true, true, true, true, true, true, true, true, true, true, true, false]) ?_
   refine aw 1 [] [] [2, 3, 4, 5, 6, 7, 8, 47] [pl 2 (pa g1 0), pl 3 (pa g2 0), pl 4 (pa g3 0), pl 5 (vi r1), pl 6 (vi (geti p1 m1)), pl 7 (vi (geti p1 m2)), pl 8 (pa g4 0), pl 47 (.agg #[.slice A3 r2.length c3, vi (w64 (1 - p2)), vi p3, vi (-1), vi (minI (w64 (p5 + 1)) 999), vi (minI (w64 (p6 + p2)) 999)])] hF hS obs_nil (fun a hF => ?_)
   refine any_finI rfl (fun h => h) ?_
   exact sh1 _ _ ⟨g4, A3, c3, hF.wk [2, 3, 4, 5, 6, 7, 8, 47], hS⟩
  refine aq [2, 19] ?_
  refine (all_cons ?_ (all_cons ?_ all_nil))
  ·refine ao (listed' := #[true, true, true, true, true, true, true, true, true, true, true, true, true, true, true, true, true, true, false, false, false]) ?_
   refine at_call (f := 78) (args := #[.slice A1 p1.length c1]) (d := 31) hF (by kernel_rfl) (by kernel_rfl) Try.func78 (by kernel_rfl) rfl (slices_Clone_w hr2 hS (fun _ hS => (hr_p1 _ (hS.dropN 3))) _hc_p1 rfl) (fun v a w hR hF => ?_)
   clear hS
   obtain ⟨A3, c3, rfl, hS⟩ := hR
   have hS : Sep w0 B w (own 3 (.slice A3 r2.length c3) (vI r2) :: blk g3 65 (ca none 0 0 0 0 0 0 0) :: blk g2 126 #[vi m1, vi m2, vi m3] :: blk g1 65 (ca A1 p1.length c1 p2 p3 p4 p5 p6) :: fs) := hS
   refine any_fin rfl (hS.pickN 4 [1, 2, 3] (by decide)) ?_
   refine aq [18, 19] ?_
   refine (all_cons ?_ (all_cons ?_ all_nil))
   ·refine ao (listed' := #[true, true, true, true, true, true, true, true, true, true, true, true, true, true, true, true, true, true, true, false, false]) ?_
    refine aw 1 [] [] [2, 3, 4, 5, 6, 7, 47] [pl 2 (pa g1 0), pl 3 (pa g2 0), pl 4 (pa g3 0), pl 5 (vi r1), pl 6 (vi (geti p1 m1)), pl 7 (vi (geti p1 m2)), pl 47 (.agg #[.slice A3 r2.length c3, vi (w64 (1 - p2)), vi p3, vi (-1), vi (minI (w64 (p5 + 1)) 999), vi (minI (w64 (p6 + p2)) 999)])] hF hS obs_nil (fun a hF => ?_)
    refine any_finI rfl (fun h => h) ?_
    refine aq [19] (all_cons ?_ all_nil)
    refine ao (listed' := #[true, true, true, true, true, true, true, true, true, true, true, true, true, true, true, true, true, true, true, true, false]) ?_
    refine at_do (d := 8) (s := vS (Instr.alloc 65 true (.tuple #[]))) (v := pa w.heap.size 0) (w' := w.alloc (.cells (ca none 0 0 0 0 0 0 0) 65)) hF (by kernel_rfl) (by kernel_rfl) (by kernel_rfl) (fun a hF => ?_)
    have hS : Sep w0 B (w.alloc (.cells (ca none 0 0 0 0 0 0 0) 65)) (blk w.heap.size 65 (ca none 0 0 0 0 0 0 0) :: (own 3 (.slice A3 r2.length c3) (vI r2) :: blk g3 65 (ca none 0 0 0 0 0 0 0) :: blk g2 126 #[vi m1, vi m2, vi m3] :: blk g1 65 (ca A1 p1.length c1 p2 p3 p4 p5 p6) :: fs)) := hS.box 65 (ca none 0 0 0 0 0 0 0)
    generalize w.heap.size = g4 at hF hS
    generalize w.alloc (.cells (ca none 0 0 0 0 0 0 0) 65) = w at hS ⊢
    refine any_fin rfl (hS.pickN 5 [2, 3, 4] (by decide)) ?_
    exact sh1 _ _ ⟨g4, A3, c3, hF.wk [2, 3, 4, 5, 6, 7, 8, 47], hS⟩
   ·refine ao (listed' := #[true, true, true, true, true, true, true, true, true, true, true, true, true, true, true, true, true, true, false, true, false]) ?_
    refine at_do (d := 8) (s := vS (Instr.alloc 65 true (.tuple #[]))) (v := pa w.heap.size 0) (w' := w.alloc (.cells (ca none 0 0 0 0 0 0 0) 65)) hF (by kernel_rfl) (by kernel_rfl) (by kernel_rfl) (fun a hF => ?_)
    have hS : Sep w0 B (w.alloc (.cells (ca none 0 0 0 0 0 0 0) 65)) (blk w.heap.size 65 (ca none 0 0 0 0 0 0 0) :: (own 3 (.slice A3 r2.length c3) (vI r2) :: blk g3 65 (ca none 0 0 0 0 0 0 0) :: blk g2 126 #[vi m1, vi m2, vi m3] :: blk g1 65 (ca A1 p1.length c1 p2 p3 p4 p5 p6) :: fs)) := hS.box 65 (ca none 0 0 0 0 0 0 0)
    generalize w.heap.size = g4 at hF hS
    generalize w.alloc (.cells (ca none 0 0 0 0 0 0 0) 65) = w at hS ⊢
    refine any_fin rfl (hS.pickN 5 [2, 3, 4] (by decide)) ?_
    exact sh2 _ _ ⟨g4, A3, c3, hF.wk [2, 3, 4, 5, 6, 7, 8, 31, 34, 36, 40, 46], hS⟩
  ·refine ao (listed' := #[true, true, false, true, true, true, true, true, true, true, true, true, true, true, true, true, true, true, false, true, false]) ?_
   refine at_do (d := 8) (s := vS (Instr.alloc 65 true (.tuple #[]))) (v := pa w.heap.size 0) (w' := w.alloc (.cells (ca none 0 0 0 0 0 0 0) 65)) hF (by kernel_rfl) (by kernel_rfl) (by kernel_rfl) (fun a hF => ?_)
   have hS : Sep w0 B (w.alloc (.cells (ca none 0 0 0 0 0 0 0) 65)) (blk w.heap.size 65 (ca none 0 0 0 0 0 0 0) :: (blk g3 65 (ca none 0 0 0 0 0 0 0) :: blk g2 126 #[vi m1, vi m2, vi m3] :: blk g1 65 (ca A1 p1.length c1 p2 p3 p4 p5 p6) :: fs)) := hS.box 65 (ca none 0 0 0 0 0 0 0)
   generalize w.heap.size = g4 at hF hS
   generalize w.alloc (.cells (ca none 0 0 0 0 0 0 0) 65) = w at hS ⊢
   refine any_fin rfl (hS.pickN 4 [1, 2, 3] (by decide)) ?_
   refine aq [2] (all_cons ?_ all_nil)
   refine ao (listed' := #[true, true, true, true, true, true, true, true, true, true, true, true, true, true, true, true, true, true, false, true, false]) ?_
   refine at_call (f := 78) (args := #[.slice A1 p1.length c1]) (d := 31) hF (by kernel_rfl) (by kernel_rfl) Try.func78 (by kernel_rfl) rfl (slices_Clone_w hr2 hS (fun _ hS => (hr_p1 _ (hS.dropN 4))) _hc_p1 rfl) (fun v a w hR hF => ?_)
   clear hS
   obtain ⟨A5, c5, rfl, hS⟩ := hR
   have hS : Sep w0 B w (own 3 (.slice A5 r2.length c5) (vI r2) :: blk g4 65 (ca none 0 0 0 0 0 0 0) :: blk g3 65 (ca none 0 0 0 0 0 0 0) :: blk g2 126 #[vi m1, vi m2, vi m3] :: blk g1 65 (ca A1 p1.length c1 p2 p3 p4 p5 p6) :: fs) := hS
   refine any_fin rfl (hS.pickN 5 [2, 3, 4] (by decide)) ?_
   refine aq [18] (all_cons ?_ all_nil)
   refine ao (listed' := #[true, true, true, true, true, true, true, true, true, true, true, true, true, true, true, true, true, true, true, true, false]) ?_
   refine aw 1 [] [] [2, 3, 4, 5, 6, 7, 8, 47] [pl 2 (pa g1 0), pl 3 (pa g2 0), pl 4 (pa g3 0), pl 5 (vi r1), pl 6 (vi (geti p1 m1)), pl 7 (vi (geti p1 m2)), pl 8 (pa g4 0), pl 47 (.agg #[.slice A5 r2.length c5, vi (w64 (1 - p2)), vi p3, vi (-1), vi (minI (w64 (p5 + 1)) 999), vi (minI (w64 (p6 + p2)) 999)])] hF hS obs_nil (fun a hF => ?_)
   refine any_finI rfl (fun h => h) ?_
   refine aq [20] (all_cons ?_ all_nil)
   refine ao (listed' := #[true, true, true, true, true, true, true, true, true, true, true, true, true, true, true, true, true, true, true, true, true]) ?_
   obtain ⟨w, hrun, hS⟩ := run_putA (P := Try.prog) (t := 65) (us := #[.slice A5 r2.length c5, vi (w64 (1 - p2)), vi p3, vi (-1), vi (minI (w64 (p5 + 1)) 999), vi (minI (w64 (p6 + p2)) 999)]) (o := 0) (hS.at_ 1 rfl) (by kernel_rfl) (all_one (by kernel_rfl)) (Nat.le_of_ble_eq_true (by kernel_rfl))
   refine at_s hF hrun ?_
   have hS : Sep w0 B w (own 3 (.slice A5 r2.length c5) (vI r2) :: blk g4 65 #[.slice A5 r2.length c5, vi (w64 (1 - p2)), vi p3, vi (-1), vi (minI (w64 (p5 + 1)) 999), vi (minI (w64 (p6 + p2)) 999)] :: blk g3 65 (ca none 0 0 0 0 0 0 0) :: blk g2 126 #[vi m1, vi m2, vi m3] :: blk g1 65 (ca A1 p1.length c1 p2 p3 p4 p5 p6) :: fs) := hS
   refine any_fin rfl (hS.pickN 5 [2, 3, 4] (by decide)) ?_
   refine any_end (by kernel_rfl) (np_n (then_n ?_))
   have hS := hS.pickN 5 [4, 3, 2, 1, 0] (by decide)
   exact ⟨r2, g4, A5, c5, hF.wk [2, 3, 4, 5, 6, 7, 8], hS, hm⟩

def board_Moves_1_J1  (p23 : List MvT) : Option (Bool × List MvT) :=
 some (true, p23)

def board_Moves_1_J2  (m1 m2 m3 : Int) (p21 : List MvT) (z1 : Bool) : Option (Bool × List MvT) :=
 if z1 then (asrt ((p21.length : Int) + 1 ≤ bigT) <| board_Moves_1_J1 (p21 ++ ([(m1, m2, m3)] : List MvT))) else (board_Moves_1_J1 p21)
end Go.Proofs.Ytkpkkdpfcbnfdaa
