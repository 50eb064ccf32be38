import Derived.Test.YtfmmlmiakkjaiaaVI
import Derived.Test.YtfmmlmiakkjaiaaFB
import Derived.Test.YtfmmlmiakkjaiaaNMC
noncomputable section
namespace Go.Proofs.Ytfmmlmiakkjaiaa
open Go Go.GL Go.RowKit
set_option maxRecDepth 100000
set_option maxHeartbeats 4000000



def problems_Rows_1_J2  : Option Int :=
 some 0

def problems_Rows_1_J5  (z1 n4 : Int) : Option (St (Int × Int) Int) :=
 some (.next (n4, (w64 (z1 + 1))))

def problems_Rows_1_J4  (rec_problems_Rows_1 : List Int → Int → Int → Int → Int → Int → Int → Int → Option Int) (p1 : List Int) (p2 p3 : Int) (p4 p5 : Int) (p6 left1 p21 : Int) (r1 : (List MvT)) (n2 z1 : Int) : Option (St (Int × Int) Int) :=
 asrt (0 ≤ z1 ∧ z1 < (r1.length : Int)) <| (board_After_m p1 p2 p3 p4 p5 p6 ((getd ((0, 0, 0) : MvT) r1 z1).1) ((getd ((0, 0, 0) : MvT) r1 z1).2.1) ((getd ((0, 0, 0) : MvT) r1 z1).2.2)).bind fun r3 => (rec_problems_Rows_1 r3.1 r3.2.1 r3.2.2.1 r3.2.2.2.1 r3.2.2.2.2.1 r3.2.2.2.2.2 (w64 (left1 - 1)) p21).bind fun r4 => (problems_Rows_1_J5 z1) (w64 (n2 + r4))

def problems_Rows_1_J3  (n3 : Int) : Option Int :=
 some n3

def problems_Rows_1_K1  : Int → Option Int :=
 fun (x : Int) => match x with | n3 => problems_Rows_1_J3 n3

def problems_Rows_1_L1  (rec_problems_Rows_1 : List Int → Int → Int → Int → Int → Int → Int → Int → Option Int) (p1 : List Int) (p2 p3 : Int) (p4 p5 : Int) (p6 left1 p21 : Int) (r1 : (List MvT)) : (Int × Int) → Option (St (Int × Int) Int) :=
 fun (x : (Int × Int)) => match x with | (n2, z1) => if (decide (z1 < (r1.length : Int))) then ((problems_Rows_1_J4 rec_problems_Rows_1 p1 p2 p3 p4 p5 p6 left1 p21 r1 n2 z1)) else (some (.done n2))

def problems_Rows_1_J1  (rec_problems_Rows_1 : List Int → Int → Int → Int → Int → Int → Int → Int → Option Int) (p1 : List Int) (p2 p3 : Int) (p4 p5 : Int) (p6 left1 p21 : Int) (r1 : (List MvT)) : Option Int :=
 (loop (problems_Rows_1_L1 rec_problems_Rows_1 p1 p2 p3 p4 p5 p6 left1 p21 r1) (0, 0)).bind problems_Rows_1_K1

def problems_Rows_1_B (rec_problems_Rows_1 : List Int → Int → Int → Int → Int → Int → Int → Int → Option Int) (p1 : List Int) (p2 p3 : Int) (p4 p5 : Int) (p6 left1 p21 : Int) : Option Int :=
 (board_Moves_m p1 p2 p3 p4 p5 p6).bind fun r1 => if (left1 == 0) then (((if ((r1.length : Int) == 0) then board_Checked_m p1 p2 else some false)).bind fun r2 => if (((r1.length : Int) == 0) && (r2 == (p21 == 1))) then (some 1) else (problems_Rows_1_J2)) else ((problems_Rows_1_J1 rec_problems_Rows_1 p1 p2 p3 p4 p5 p6 left1 p21 r1))

def problems_Rows_1_mF : Nat → List Int → Int → Int → Int → Int → Int → Int → Int → Option Int
 | 0 => fun _ _ _ _ _ _ _ _ => none
 | n + 1 => fun p1 p2 p3 p4 p5 p6 left1 p21 => problems_Rows_1_B (problems_Rows_1_mF n) p1 p2 p3 p4 p5 p6 left1 p21

def problems_Rows_1_m (p1 : List Int) (p2 p3 : Int) (p4 p5 : Int) (p6 left1 p21 : Int) : Option Int :=
 recM fun n => problems_Rows_1_mF n p1 p2 p3 p4 p5 p6 left1 p21

theorem problems_Rows_1_wB {rec_problems_Rows_1 : List Int → Int → Int → Int → Int → Int → Int → Int → Option Int} (ih_problems_Rows_1 : ∀ {A1 : Option Addr} {c1 n1 : Nat} {p1 : List Int} {p2 p3 : Int} {p4 p5 : Int} {p6 left1 : Int} {g1 : Nat} {p21 : Int} {g2 : Nat} {r : Int} {w0 w : World} {B : Nat} {fs : List HP} (_ : rec_problems_Rows_1 p1 p2 p3 p4 p5 p6 left1 p21 = some r) (_ : Sep w0 B w (blk g1 3 #[vi p21] :: blk g2 79 #[.func (.func 148) #[] #[pa g1 0, pa g2 0]] :: fs)) (hr_p1 : RdF w0 B fs A1 (vI p1)) (_hc_p1 : p1.length ≤ c1) (_hn_p1 : n1 = p1.length), Calls Try.prog 148 #[.agg (ca A1 n1 c1 p2 p3 p4 p5 p6), vi left1, pa g1 0, pa g2 0] w fun e w' => e = .returned (vi r) ∧ Sep w0 B w' (blk g1 3 #[vi p21] :: blk g2 79 #[.func (.func 148) #[] #[pa g1 0, pa g2 0]] :: fs)) {A1 : Option Addr} {c1 n1 : Nat} {p1 : List Int} {p2 p3 : Int} {p4 p5 : Int} {p6 left1 : Int} {g1 : Nat} {p21 : Int} {g2 : Nat} {r : Int} {w0 w : World} {B : Nat} {fs : List HP} (hm : problems_Rows_1_B rec_problems_Rows_1 p1 p2 p3 p4 p5 p6 left1 p21 = some r) (hS : Sep w0 B w (blk g1 3 #[vi p21] :: blk g2 79 #[.func (.func 148) #[] #[pa g1 0, pa g2 0]] :: fs)) (hr_p1 : RdF w0 B fs A1 (vI p1)) (_hc_p1 : p1.length ≤ c1) (_hn_p1 : n1 = p1.length) :
  Calls Try.prog 148 #[.agg (ca A1 n1 c1 p2 p3 p4 p5 p6), vi left1, pa g1 0, pa g2 0] w fun e w' => e = .returned (vi r) ∧ Sep w0 B w' (blk g1 3 #[vi p21] :: blk g2 79 #[.func (.func 148) #[] #[pa g1 0, pa g2 0]] :: fs) := by
 obtain ⟨i3, hi3, hz3, hs3, hb3⟩ := info_parts Info3
 obtain ⟨i88, hi88, hz88, hs88, hb88⟩ := info_parts Info88
 obtain rfl := _hn_p1
 unfold problems_Rows_1_B at hm
 replace hm := start_b hm
 refine enter (l := [.agg (ca A1 p1.length c1 p2 p3 p4 p5 p6), vi left1, pa g1 0, pa g2 0]) (n := 45) Try.func148 rfl rfl (by simp) (fun a hF => ?_)
 refine seqR ?_
 refine at_do (d := 4) (s := vS (Instr.box 75 (.agg (ca A1 p1.length c1 p2 p3 p4 p5 p6)))) (v := pa w.heap.size 0) (w' := w.alloc (.cells (ca A1 p1.length c1 p2 p3 p4 p5 p6) 75)) hF (by kernel_rfl) (by kernel_rfl) (by kernel_rfl) (fun a hF => ?_)
 have hS : Sep w0 B (w.alloc (.cells (ca A1 p1.length c1 p2 p3 p4 p5 p6) 75)) (blk w.heap.size 75 (ca A1 p1.length c1 p2 p3 p4 p5 p6) :: (blk g1 3 #[vi p21] :: blk g2 79 #[.func (.func 148) #[] #[pa g1 0, pa g2 0]] :: fs)) := hS.box 75 (ca A1 p1.length c1 p2 p3 p4 p5 p6)
 generalize w.heap.size = g3 at hF hS
 generalize w.alloc (.cells (ca A1 p1.length c1 p2 p3 p4 p5 p6) 75) = w at hS ⊢
 refine ar 1 [] [] [1, 2, 3, 4] [pl 1 (vi left1), pl 2 (pa g1 0), pl 3 (pa g2 0), pl 4 (pa g3 0)] hF hS obs_nil (fun a w hF hS => ?_)
 refine ae [1, 2, 3, 4] [pl 1 (vi left1), pl 2 (pa g1 0), pl 3 (pa g2 0), pl 4 (pa g3 0)] hF rfl (fun hF => ?_)
 refine then_n (seqR ?_)
 obtain ⟨r1, hr1, hm⟩ := call_b hm
 refine ar 1 [⟨false, [], vS (Instr.loadAt 75 (pa g3 0)), .agg (ca A1 p1.length c1 p2 p3 p4 p5 p6)⟩] [some (.agg (ca A1 p1.length c1 p2 p3 p4 p5 p6))] [1, 2, 3, 4, 11] [pl 1 (vi left1), pl 2 (pa g1 0), pl 3 (pa g2 0), pl 4 (pa g3 0), pl 11 (.agg (ca A1 p1.length c1 p2 p3 p4 p5 p6))] hF hS ?_ (fun a w hF hS => ?_)
 ·exact obs_cons (oA (cs := (ca A1 p1.length c1 p2 p3 p4 p5 p6)) (fun _ _ hS => (hS.at_ 0 rfl).cellsAt 0 (by rfl))) <| obs_nil
 refine at_call (f := 133) (args := #[.agg (ca A1 p1.length c1 p2 p3 p4 p5 p6)]) (d := 12) hF (by kernel_rfl) (by kernel_rfl) Try.func133 (by kernel_rfl) rfl (board_Moves_w hr1 hS (fun _ hS => (hr_p1 _ (hS.dropN 3))) _hc_p1 rfl) (fun v a w hR hF => ?_)
 clear hS
 obtain ⟨A2, c2, rfl, hS⟩ := hR
 have hS : Sep w0 B w (ownK 88 3 A2 r1.length c2 (List.flatMap enc88 r1) :: blk g3 75 (ca A1 p1.length c1 p2 p3 p4 p5 p6) :: blk g1 3 #[vi p21] :: blk g2 79 #[.func (.func 148) #[] #[pa g1 0, pa g2 0]] :: fs) := hS
 refine ar 1 [] [] [1, 2, 3, 4, 7] [pl 1 (vi left1), pl 2 (pa g1 0), pl 3 (pa g2 0), pl 4 (pa g3 0), pl 7 (.slice A2 r1.length c2)] hF hS obs_nil (fun a w hF hS => ?_)
 refine ae [1, 2, 3, 4, 7] [pl 1 (vi left1), pl 2 (pa g1 0), pl 3 (pa g2 0), pl 4 (pa g3 0), pl 7 (.slice A2 r1.length c2)] hF rfl (fun hF => ?_)
 refine then_n ?_
 refine seq_cut (fun a w => Fr 45 [pl 1 (vi left1), pl 3 (pa g2 0), pl 4 (pa g3 0), pl 7 (.slice A2 r1.length c2)] a ∧ Sep w0 B w (blk g2 79 #[.func (.func 148) #[] #[pa g1 0, pa g2 0]] :: blk g1 3 #[vi p21] :: blk g3 75 (ca A1 p1.length c1 p2 p3 p4 p5 p6) :: ownK 88 3 A2 r1.length c2 (List.flatMap enc88 r1) :: fs) ∧ ((problems_Rows_1_J1 rec_problems_Rows_1 p1 p2 p3 p4 p5 p6 left1 p21 r1)).bind some = some r) ?_ ?_
 ·rintro a w ⟨hF, hS, hm⟩
  unfold problems_Rows_1_J1 at hm
  refine rg [] [] [1, 3, 4, 7, 8] [pl 1 (vi left1), pl 3 (pa g2 0), pl 4 (pa g3 0), pl 7 (.slice A2 r1.length c2), pl 8 (vi 0)] hF hS obs_nil (fun a w hF hS => ?_)
  refine seq_cut (fun a w => ∃ (n3 : Int), Fr 45 [pl 8 (vi n3)] a ∧ Sep w0 B w (blk g1 3 #[vi p21] :: blk g2 79 #[.func (.func 148) #[] #[pa g1 0, pa g2 0]] :: fs) ∧ (problems_Rows_1_J3 n3).bind some = some r) ?_ ?_
  ·rintro a w ⟨n3, hF, hS, hm⟩
   unfold problems_Rows_1_J3 at hm
   refine rg [] [] [6] [pl 6 (vi n3)] hF hS obs_nil (fun a w hF hS => ?_)
   refine wpIn_ret ?_
   have hm : some n3 = some r := hm
   obtain rfl := Option.some.inj hm
   exact retV (rs := [.tmp 6]) (vs := [vi n3]) hF rfl rv1 rfl ⟨rfl, hS⟩
  ·refine rg [] [] [1, 3, 4, 8, 28, 29, 30] [pl 1 (vi left1), pl 3 (pa g2 0), pl 4 (pa g3 0), pl 8 (vi 0), pl 28 (.slice A2 r1.length c2), pl 29 (vi (r1.length : Int)), pl 30 (vi 0)] hF hS obs_nil (fun a w hF hS => ?_)
   refine wpIn_block ?_
   refine wp_loop_model (S := (Int × Int)) (R := Int) (problems_Rows_1_L1 rec_problems_Rows_1 p1 p2 p3 p4 p5 p6 left1 p21 r1) (fun x => (problems_Rows_1_K1 x).bind some) r (fun (x : (Int × Int)) a w => Fr 45 [pl 1 (vi left1), pl 3 (pa g2 0), pl 4 (pa g3 0), pl 8 (vi x.1), pl 28 (.slice A2 r1.length c2), pl 29 (vi (r1.length : Int)), pl 30 (vi x.2)] a ∧ Sep w0 B w (blk g2 79 #[.func (.func 148) #[] #[pa g1 0, pa g2 0]] :: blk g1 3 #[vi p21] :: blk g3 75 (ca A1 p1.length c1 p2 p3 p4 p5 p6) :: ownK 88 3 A2 r1.length c2 (List.flatMap enc88 r1) :: fs)) (assoc_b hm) ⟨hF.wk [1, 3, 4, 8, 28, 29, 30], hS⟩ ?_
   clear hF hS hm
   rintro nn1 ⟨n2, z1⟩ a w ⟨hF, hS⟩ hm
   generalize hφ1 : stK (problems_Rows_1_L1 rec_problems_Rows_1 p1 p2 p3 p4 p5 p6 left1 p21 r1) nn1 (fun x => (problems_Rows_1_K1 x).bind some) = φ1 at hm
   unfold problems_Rows_1_L1 at hm
   dsimp only at hF hS hm
   refine rg [] [] [1, 3, 4, 8, 28, 29, 30, 31] [pl 1 (vi left1), pl 3 (pa g2 0), pl 4 (pa g3 0), pl 8 (vi n2), pl 28 (.slice A2 r1.length c2), pl 29 (vi (r1.length : Int)), pl 30 (vi z1), pl 31 (.bool (decide (z1 < (r1.length : Int))))] hF hS obs_nil (fun a w hF hS => ?_)
   refine seq_cut (fun a w => Fr 45 [pl 1 (vi left1), pl 3 (pa g2 0), pl 4 (pa g3 0), pl 8 (vi n2), pl 28 (.slice A2 r1.length c2), pl 29 (vi (r1.length : Int)), pl 30 (vi z1)] a ∧ Sep w0 B w (blk g2 79 #[.func (.func 148) #[] #[pa g1 0, pa g2 0]] :: blk g1 3 #[vi p21] :: blk g3 75 (ca A1 p1.length c1 p2 p3 p4 p5 p6) :: ownK 88 3 A2 r1.length c2 (List.flatMap enc88 r1) :: fs) ∧ ((problems_Rows_1_J4 rec_problems_Rows_1 p1 p2 p3 p4 p5 p6 left1 p21 r1 n2 z1)).bind φ1 = some r) ?_ ?_
   ·rintro a w ⟨hF, hS, hm⟩
    unfold problems_Rows_1_J4 at hm
    refine seq_cut (fun a w => ∃ (n4 : Int), Fr 45 [pl 1 (vi left1), pl 3 (pa g2 0), pl 4 (pa g3 0), pl 8 (vi n4), pl 28 (.slice A2 r1.length c2), pl 29 (vi (r1.length : Int)), pl 30 (vi z1)] a ∧ Sep w0 B w (blk g2 79 #[.func (.func 148) #[] #[pa g1 0, pa g2 0]] :: blk g1 3 #[vi p21] :: blk g3 75 (ca A1 p1.length c1 p2 p3 p4 p5 p6) :: ownK 88 3 A2 r1.length c2 (List.flatMap enc88 r1) :: fs) ∧ ((problems_Rows_1_J5 z1) n4).bind φ1 = some r) ?_ ?_
    ·rintro a w ⟨n4, hF, hS, hm⟩
     unfold problems_Rows_1_J5 at hm
     refine rg1 [] [] [1, 3, 4, 8, 28, 29, 30] [pl 1 (vi left1), pl 3 (pa g2 0), pl 4 (pa g3 0), pl 8 (vi n4), pl 28 (.slice A2 r1.length c2), pl 29 (vi (r1.length : Int)), pl 30 (vi (w64 (z1 + 1)))] hF hS obs_nil (fun a w hF hS => ?_)
     refine then_n ?_
     rw [← hφ1] at hm
     exact ⟨(n4, (w64 (z1 + 1))), ⟨hF.wk [1, 3, 4, 8, 28, 29, 30], hS⟩, hm⟩
    ·refine wpIn_block ?_
     refine seqR ?_
     obtain ⟨hp1, hm⟩ := asrt_b hm
     refine ar 2 [⟨true, [], vS (Instr.indexAt 81 (.slice A2 r1.length c2) (vi z1)), .pointer (some (sAddrK A2 3 z1))⟩, ⟨false, [], vS (Instr.loadAt 88 (.pointer (some (sAddrK A2 3 z1)))), .agg #[vi ((getd ((0, 0, 0) : MvT) r1 z1).1), vi ((getd ((0, 0, 0) : MvT) r1 z1).2.1), vi ((getd ((0, 0, 0) : MvT) r1 z1).2.2)]⟩] [some (.pointer (some (sAddrK A2 3 z1))), some (.agg #[vi ((getd ((0, 0, 0) : MvT) r1 z1).1), vi ((getd ((0, 0, 0) : MvT) r1 z1).2.1), vi ((getd ((0, 0, 0) : MvT) r1 z1).2.2)])] [1, 3, 4, 8, 28, 29, 30, 33] [pl 1 (vi left1), pl 3 (pa g2 0), pl 4 (pa g3 0), pl 8 (vi n2), pl 28 (.slice A2 r1.length c2), pl 29 (vi (r1.length : Int)), pl 30 (vi z1), pl 33 (.agg #[vi ((getd ((0, 0, 0) : MvT) r1 z1).1), vi ((getd ((0, 0, 0) : MvT) r1 z1).2.1), vi ((getd ((0, 0, 0) : MvT) r1 z1).2.2)])] hF hS ?_ (fun a w hF hS => ?_)
     ·exact obs_cons (ob_ixK (m := r1) encK88 Und81 hi88 hs88 (hS.at_ 3 rfl).rdK rfl (fun _ => hp1)) <| obs_cons (ob_getK (n := r1.length) (m := r1) encK88 ((0, 0, 0) : MvT) (by kernel_rfl) (by kernel_rfl) (fun _ hS => ⟨_, (hS.at_ 3 rfl).rdK⟩) (fun _ hS => rfl) (fun _ => hp1)) <| obs_nil
     refine at_do (d := 10) (s := vS (Instr.alloc 88 true (.tuple #[]))) (v := pa w.heap.size 0) (w' := w.alloc (.cells #[vi 0, vi 0, vi 0] 88)) hF (by kernel_rfl) (by kernel_rfl) (by kernel_rfl) (fun a hF => ?_)
     have hS : Sep w0 B (w.alloc (.cells #[vi 0, vi 0, vi 0] 88)) (blk w.heap.size 88 #[vi 0, vi 0, vi 0] :: (blk g2 79 #[.func (.func 148) #[] #[pa g1 0, pa g2 0]] :: blk g1 3 #[vi p21] :: blk g3 75 (ca A1 p1.length c1 p2 p3 p4 p5 p6) :: ownK 88 3 A2 r1.length c2 (List.flatMap enc88 r1) :: fs)) := hS.box 88 #[vi 0, vi 0, vi 0]
     generalize w.heap.size = g4 at hF hS
     generalize w.alloc (.cells #[vi 0, vi 0, vi 0] 88) = w at hS ⊢
     obtain ⟨w, hrun, hS⟩ := run_putA (P := Try.prog) (t := 88) (us := #[vi ((getd ((0, 0, 0) : MvT) r1 z1).1), vi ((getd ((0, 0, 0) : MvT) r1 z1).2.1), vi ((getd ((0, 0, 0) : MvT) r1 z1).2.2)]) (o := 0) (hS.at_ 0 rfl) (by kernel_rfl) (all_one (by kernel_rfl)) (Nat.le_of_ble_eq_true (by kernel_rfl))
     refine at_s hF hrun ?_
     have hS : Sep w0 B w (blk g4 88 #[vi ((getd ((0, 0, 0) : MvT) r1 z1).1), vi ((getd ((0, 0, 0) : MvT) r1 z1).2.1), vi ((getd ((0, 0, 0) : MvT) r1 z1).2.2)] :: blk g2 79 #[.func (.func 148) #[] #[pa g1 0, pa g2 0]] :: blk g1 3 #[vi p21] :: blk g3 75 (ca A1 p1.length c1 p2 p3 p4 p5 p6) :: ownK 88 3 A2 r1.length c2 (List.flatMap enc88 r1) :: fs) := hS
     refine ae [1, 3, 4, 8, 10, 28, 29, 30] [pl 1 (vi left1), pl 3 (pa g2 0), pl 4 (pa g3 0), pl 8 (vi n2), pl 10 (pa g4 0), pl 28 (.slice A2 r1.length c2), pl 29 (vi (r1.length : Int)), pl 30 (vi z1)] hF rfl (fun hF => ?_)
     refine then_n ?_
     obtain ⟨r3, hr3, hm⟩ := call_b hm
     obtain ⟨r4, hr4, hm⟩ := call_b hm
     refine regMix5 [0, 1, 2, 3, 5, 6] [] 4 #[true, true, true, true, false, true, true, false, false, false] [⟨false, [], vS (Instr.loadAt 79 (pa g2 0)), .func (.func 148) #[] #[pa g1 0, pa g2 0]⟩, ⟨false, [], vS (Instr.loadAt 75 (pa g3 0)), .agg (ca A1 p1.length c1 p2 p3 p4 p5 p6)⟩, ⟨false, [], vS (Instr.loadAt 88 (pa g4 0)), .agg #[vi ((getd ((0, 0, 0) : MvT) r1 z1).1), vi ((getd ((0, 0, 0) : MvT) r1 z1).2.1), vi ((getd ((0, 0, 0) : MvT) r1 z1).2.2)]⟩] [none, some (.func (.func 148) #[] #[pa g1 0, pa g2 0]), some (.agg (ca A1 p1.length c1 p2 p3 p4 p5 p6)), some (.agg #[vi ((getd ((0, 0, 0) : MvT) r1 z1).1), vi ((getd ((0, 0, 0) : MvT) r1 z1).2.1), vi ((getd ((0, 0, 0) : MvT) r1 z1).2.2)]), none, none] [1, 3, 4, 28, 29, 30, 34, 35, 36, 37, 40] [pl 1 (vi left1), pl 3 (pa g2 0), pl 4 (pa g3 0), pl 28 (.slice A2 r1.length c2), pl 29 (vi (r1.length : Int)), pl 30 (vi z1), pl 34 (vi n2), pl 35 (.func (.func 148) #[] #[pa g1 0, pa g2 0]), pl 36 (.agg (ca A1 p1.length c1 p2 p3 p4 p5 p6)), pl 37 (.agg #[vi ((getd ((0, 0, 0) : MvT) r1 z1).1), vi ((getd ((0, 0, 0) : MvT) r1 z1).2.1), vi ((getd ((0, 0, 0) : MvT) r1 z1).2.2)]), pl 40 (vi (w64 (left1 - 1)))] hF hS Fol (by kernel_rfl) (by kernel_rfl) (by kernel_rfl) (by kernel_rfl) ?_ (fun a w hF hS => ?_)
     ·exact obs_cons (ob_load Agg79 (fun _ _ hS => (hS.at_ 1 rfl).cell rfl)) <| obs_cons (oA (cs := (ca A1 p1.length c1 p2 p3 p4 p5 p6)) (fun _ _ hS => (hS.at_ 3 rfl).cellsAt 0 (by rfl))) <| obs_cons (ob_loadA (cs := #[vi ((getd ((0, 0, 0) : MvT) r1 z1).1), vi ((getd ((0, 0, 0) : MvT) r1 z1).2.1), vi ((getd ((0, 0, 0) : MvT) r1 z1).2.2)]) (by kernel_rfl) (by kernel_rfl) (fun _ _ hS => (hS.at_ 0 rfl).cellsAt 0 (by rfl))) <| obs_nil
     refine aq [4] (all_cons ?_ all_nil)
     refine ao (listed' := #[true, true, true, true, true, true, true, false, false, false]) ?_
     refine at_call (f := 135) (args := #[.agg (ca A1 p1.length c1 p2 p3 p4 p5 p6), .agg #[vi ((getd ((0, 0, 0) : MvT) r1 z1).1), vi ((getd ((0, 0, 0) : MvT) r1 z1).2.1), vi ((getd ((0, 0, 0) : MvT) r1 z1).2.2)]]) (d := 38) hF (by kernel_rfl) (by kernel_rfl) Try.func135 (by kernel_rfl) rfl (board_After_w hr3 hS (fun _ hS => (hr_p1 _ (hS.dropN 5))) _hc_p1 rfl) (fun v a w hR hF => ?_)
     clear hS
     obtain ⟨A4, c4, rfl, hS⟩ := hR
     have hS : Sep w0 B w (own 3 (.slice A4 r3.1.length c4) (vI r3.1) :: blk g4 88 #[vi ((getd ((0, 0, 0) : MvT) r1 z1).1), vi ((getd ((0, 0, 0) : MvT) r1 z1).2.1), vi ((getd ((0, 0, 0) : MvT) r1 z1).2.2)] :: blk g2 79 #[.func (.func 148) #[] #[pa g1 0, pa g2 0]] :: blk g1 3 #[vi p21] :: blk g3 75 (ca A1 p1.length c1 p2 p3 p4 p5 p6) :: ownK 88 3 A2 r1.length c2 (List.flatMap enc88 r1) :: fs) := hS
     refine any_fin rfl (hS.pickN 6 [1, 2, 3, 4, 5] (by decide)) ?_
     refine aq [7] (all_cons ?_ all_nil)
     refine ao (listed' := #[true, true, true, true, true, true, true, true, false, false]) ?_
     refine ar 1 [⟨false, [], callFunc 148 #[.agg (ca A4 r3.1.length c4 r3.2.1 r3.2.2.1 r3.2.2.2.1 r3.2.2.2.2.1 r3.2.2.2.2.2), vi (w64 (left1 - 1)), pa g1 0, pa g2 0], vi r4⟩] [some (vi r4)] [1, 3, 4, 28, 29, 30, 34, 41] [pl 1 (vi left1), pl 3 (pa g2 0), pl 4 (pa g3 0), pl 28 (.slice A2 r1.length c2), pl 29 (vi (r1.length : Int)), pl 30 (vi z1), pl 34 (vi n2), pl 41 (vi r4)] hF hS ?_ (fun a w hF hS => ?_)
     ·exact obs_cons (ob_call Try.func148 (by kernel_rfl) rfl (fun _ _ hS => quiet_pick hS 6 [3, 2, 0, 1, 4, 5] (by decide) [2, 3, 1, 0, 4, 5] (by decide) (qs := (blk g1 3 #[vi p21] :: blk g2 79 #[.func (.func 148) #[] #[pa g1 0, pa g2 0]] :: own 3 (.slice A4 r3.1.length c4) (vI r3.1) :: blk g4 88 #[vi ((getd ((0, 0, 0) : MvT) r1 z1).1), vi ((getd ((0, 0, 0) : MvT) r1 z1).2.1), vi ((getd ((0, 0, 0) : MvT) r1 z1).2.2)] :: blk g3 75 (ca A1 p1.length c1 p2 p3 p4 p5 p6) :: ownK 88 3 A2 r1.length c2 (List.flatMap enc88 r1) :: fs)) rfl (fun hS => ih_problems_Rows_1 hr4 hS (fun _ hS => (hS.at_ 0 rfl).rd) (((hS.dropN 2).at_ 0 rfl).cap1) rfl) 6 rfl)) <| obs_nil
     refine any_fin rfl (hS.pickN 6 [1, 2, 3, 4, 5] (by decide)) ?_
     refine aq [8] (all_cons ?_ all_nil)
     refine ao (listed' := #[true, true, true, true, true, true, true, true, true, false]) ?_
     refine aw 1 [] [] [1, 3, 4, 28, 29, 30, 42] [pl 1 (vi left1), pl 3 (pa g2 0), pl 4 (pa g3 0), pl 28 (.slice A2 r1.length c2), pl 29 (vi (r1.length : Int)), pl 30 (vi z1), pl 42 (vi (w64 (n2 + r4)))] hF hS obs_nil (fun a hF => ?_)
     refine any_finI rfl (fun h => h) ?_
     refine aq [9] (all_cons ?_ all_nil)
     refine ao (listed' := #[true, true, true, true, true, true, true, true, true, true]) ?_
     refine aw 1 [] [] [1, 3, 4, 8, 28, 29, 30] [pl 1 (vi left1), pl 3 (pa g2 0), pl 4 (pa g3 0), pl 8 (vi (w64 (n2 + r4))), pl 28 (.slice A2 r1.length c2), pl 29 (vi (r1.length : Int)), pl 30 (vi z1)] hF hS obs_nil (fun a hF => ?_)
     refine any_finI rfl (fun h => h) ?_
     refine any_end (by kernel_rfl) ?_
     refine np_n ?_
     refine block_n ?_
     refine then_n ?_
     have hS := hS.pickN 6 [2, 3, 4, 5] (by decide)
     exact ⟨(w64 (n2 + r4)), hF.wk [1, 3, 4, 8, 28, 29, 30], hS, hm⟩
   ·refine ce (t := 31) (b := decide (z1 < (r1.length : Int))) hF (fun hb => ?_) (fun hb => ?_)
    ·replace hm := if_t hm hb
     refine wpIn_skip ?_
     refine then_n ?_
     exact ⟨hF.wk [1, 3, 4, 8, 28, 29, 30], hS, hm⟩
    ·replace hm := if_f hm hb
     refine wpIn_exit ?_
     refine then_e (then_e (block_e (then_n ?_)))
     have hS := hS.pickN 4 [1, 0] (by decide)
     rw [← hφ1] at hm
     replace hm := done_b hm
     unfold problems_Rows_1_K1 at hm
     try dsimp only at hm
     have hm : (problems_Rows_1_J3 n2).bind some = some r := hm
     exact ⟨n2, hF.wk [8], hS, hm⟩
 ·refine rg [] [] [1, 2, 3, 4, 7, 14] [pl 1 (vi left1), pl 2 (pa g1 0), pl 3 (pa g2 0), pl 4 (pa g3 0), pl 7 (.slice A2 r1.length c2), pl 14 (.bool (left1 == 0))] hF hS obs_nil (fun a w hF hS => ?_)
  refine ce (t := 14) (b := (left1 == 0)) hF (fun hb => ?_) (fun hb => ?_)
  ·replace hm := if_t hm hb
   refine seq_cut (fun a w => Fr 45 [] a ∧ Sep w0 B w (blk g1 3 #[vi p21] :: blk g2 79 #[.func (.func 148) #[] #[pa g1 0, pa g2 0]] :: fs) ∧ (problems_Rows_1_J2).bind some = some r) ?_ ?_
   ·rintro a w ⟨hF, hS, hm⟩
    unfold problems_Rows_1_J2 at hm
    refine rg [] [] [6] [pl 6 (vi 0)] hF hS obs_nil (fun a w hF hS => ?_)
    refine wpIn_ret ?_
    refine then_r ?_
    have hm : some 0 = some r := hm
    obtain rfl := Option.some.inj hm
    exact retV (rs := [.tmp 6]) (vs := [vi 0]) hF rfl rv1 rfl ⟨rfl, hS⟩
   ·obtain ⟨r2, hr2, hm⟩ := call_b hm
    refine rg [⟨false, [(((r1.length : Int) == 0), true)], vS (Instr.loadAt 27 (pa g3 0)), .slice A1 p1.length c1⟩, ⟨false, [(((r1.length : Int) == 0), true)], vS (Instr.loadAt 3 (pa g3 1)), vi p2⟩, ⟨false, [(((r1.length : Int) == 0), true)], callFunc 137 #[.slice A1 p1.length c1, vi p2], .bool r2⟩, ⟨false, [(((r1.length : Int) == 0), true)], vS (Instr.loadAt 3 (pa g1 0)), vi p21⟩] [none, none, none, none, none, some (.slice A1 p1.length c1), none, some (vi p2), some (.bool r2), some (vi p21), none, none, none] [27] [pl 27 (.bool (((r1.length : Int) == 0) && (r2 == (p21 == 1))))] hF hS ?_ (fun a w hF hS => ?_)
    ·exact obs_cons (ob_load Agg27 (fun _ _ hS => (hS.at_ 1 rfl).cell rfl)) <| obs_cons (ob_load Agg3 (fun _ _ hS => (hS.at_ 1 rfl).cell rfl)) <| obs_cons (ob_call Try.func137 (by kernel_rfl) rfl (fun hy _ hS => board_Checked_w (ite_some hr2 (by rw [show ((r1.length : Int) == 0) = true from hy (((r1.length : Int) == 0), true) (by simp)]; try rfl)) hS (fun _ hS => (hr_p1 _ (hS.dropN 4))) _hc_p1 rfl)) <| obs_cons (ob_load Agg3 (fun _ _ hS => (hS.at_ 2 rfl).cell rfl)) <| obs_nil
    refine ce (t := 27) (b := ((r1.length : Int) == 0) && (r2 == (p21 == 1))) hF (fun hb => ?_) (fun hb => ?_)
    ·replace hm := if_t hm hb
     refine rg [] [] [6] [pl 6 (vi 1)] hF hS obs_nil (fun a w hF hS => ?_)
     refine wpIn_ret ?_
     refine then_r (then_r ?_)
     have hS := hS.pickN 4 [2, 3] (by decide)
     have hm : some 1 = some r := hm
     obtain rfl := Option.some.inj hm
     exact retV (rs := [.tmp 6]) (vs := [vi 1]) hF rfl rv1 rfl ⟨rfl, hS⟩
    ·replace hm := if_f hm hb
     refine wpIn_skip ?_
     refine then_n ?_
     have hS := hS.pickN 4 [2, 3] (by decide)
     exact ⟨hF.wk [], hS, hm⟩
  ·replace hm := if_f hm hb
   refine wpIn_skip ?_
   refine then_n ?_
   have hS := hS.pickN 4 [3, 2, 1, 0] (by decide)
   exact ⟨hF.wk [1, 3, 4, 7], hS, hm⟩

theorem problems_Rows_1_w {A1 : Option Addr} {c1 n1 : Nat} {p1 : List Int} {p2 p3 : Int} {p4 p5 : Int} {p6 left1 : Int} {g1 : Nat} {p21 : Int} {g2 : Nat} {r : Int} {w0 w : World} {B : Nat} {fs : List HP} (hm : problems_Rows_1_m p1 p2 p3 p4 p5 p6 left1 p21 = some r) (hS : Sep w0 B w (blk g1 3 #[vi p21] :: blk g2 79 #[.func (.func 148) #[] #[pa g1 0, pa g2 0]] :: fs)) (hr_p1 : RdF w0 B fs A1 (vI p1)) (_hc_p1 : p1.length ≤ c1) (_hn_p1 : n1 = p1.length) :
  Calls Try.prog 148 #[.agg (ca A1 n1 c1 p2 p3 p4 p5 p6), vi left1, pa g1 0, pa g2 0] w fun e w' => e = .returned (vi r) ∧ Sep w0 B w' (blk g1 3 #[vi p21] :: blk g2 79 #[.func (.func 148) #[] #[pa g1 0, pa g2 0]] :: fs) := by
 have key : ∀ (n : Nat) {A1 : Option Addr} {c1 n1 : Nat} {p1 : List Int} {p2 p3 : Int} {p4 p5 : Int} {p6 left1 : Int} {g1 : Nat} {p21 : Int} {g2 : Nat} {r : Int} {w0 w : World} {B : Nat} {fs : List HP} (_ : problems_Rows_1_mF n p1 p2 p3 p4 p5 p6 left1 p21 = some r) (_ : Sep w0 B w (blk g1 3 #[vi p21] :: blk g2 79 #[.func (.func 148) #[] #[pa g1 0, pa g2 0]] :: fs)) (hr_p1 : RdF w0 B fs A1 (vI p1)) (_hc_p1 : p1.length ≤ c1) (_hn_p1 : n1 = p1.length), Calls Try.prog 148 #[.agg (ca A1 n1 c1 p2 p3 p4 p5 p6), vi left1, pa g1 0, pa g2 0] w fun e w' => e = .returned (vi r) ∧ Sep w0 B w' (blk g1 3 #[vi p21] :: blk g2 79 #[.func (.func 148) #[] #[pa g1 0, pa g2 0]] :: fs) := by
  intro n
  induction n with
  | zero => intros; rename_i hm0 _ _ _ _; cases hm0
  | succ n ih => intros; rename_i hm0 hS0 h0 h1 h2; exact problems_Rows_1_wB (rec_problems_Rows_1 := problems_Rows_1_mF n) (fun hm hS h0 h1 h2 => ih hm hS h0 h1 h2) hm0 hS0 h0 h1 h2
 obtain ⟨n, hn⟩ := recM_some hm
 exact key n hn hS hr_p1 _hc_p1 _hn_p1

set_option maxRecDepth 100000 in
theorem problems_Rows_1_J4_le_problems_Rows_1 {rec_problems_Rows_11 rec_problems_Rows_12 : List Int → Int → Int → Int → Int → Int → Int → Int → Option Int} (h_rec_problems_Rows_1 : ∀ a0 a1 a2 a3 a4 a5 a6 a7, Le (rec_problems_Rows_11 a0 a1 a2 a3 a4 a5 a6 a7) (rec_problems_Rows_12 a0 a1 a2 a3 a4 a5 a6 a7)) (p1 : List Int) (p2 p3 : Int) (p4 p5 : Int) (p6 left1 p21 : Int) (r1 : (List MvT)) (n2 z1 : Int) : Le (problems_Rows_1_J4 rec_problems_Rows_11 p1 p2 p3 p4 p5 p6 left1 p21 r1 n2 z1) (problems_Rows_1_J4 rec_problems_Rows_12 p1 p2 p3 p4 p5 p6 left1 p21 r1 n2 z1) := by
 unfold problems_Rows_1_J4
 repeat' (first | with_reducible exact Le.refl _ | with_reducible exact h_rec_problems_Rows_1 _ _ _ _ _ _ _ _ | with_reducible refine Le.asrt ?_ | with_reducible refine Le.ite ?_ ?_ | refine Le.bind ?_ (fun _ => ?_) | refine Le.loop2 (fun _ => ?_) | refine Le.elim2 (fun _ => ?_) (fun _ => ?_))

set_option maxRecDepth 100000 in
theorem problems_Rows_1_L1_le_problems_Rows_1 {rec_problems_Rows_11 rec_problems_Rows_12 : List Int → Int → Int → Int → Int → Int → Int → Int → Option Int} (h_rec_problems_Rows_1 : ∀ a0 a1 a2 a3 a4 a5 a6 a7, Le (rec_problems_Rows_11 a0 a1 a2 a3 a4 a5 a6 a7) (rec_problems_Rows_12 a0 a1 a2 a3 a4 a5 a6 a7)) (p1 : List Int) (p2 p3 : Int) (p4 p5 : Int) (p6 left1 p21 : Int) (r1 : (List MvT)) (x : (Int × Int)) : Le (problems_Rows_1_L1 rec_problems_Rows_11 p1 p2 p3 p4 p5 p6 left1 p21 r1 x) (problems_Rows_1_L1 rec_problems_Rows_12 p1 p2 p3 p4 p5 p6 left1 p21 r1 x) := by
 rcases x with ⟨n2, z1⟩
 all_goals
  unfold problems_Rows_1_L1
  try dsimp only
  repeat' (first | with_reducible exact Le.refl _ | with_reducible exact h_rec_problems_Rows_1 _ _ _ _ _ _ _ _ | with_reducible exact problems_Rows_1_J4_le_problems_Rows_1 h_rec_problems_Rows_1 _ _ _ _ _ _ _ _ _ _ _ | with_reducible refine Le.asrt ?_ | with_reducible refine Le.ite ?_ ?_ | refine Le.bind ?_ (fun _ => ?_) | refine Le.loop2 (fun _ => ?_) | refine Le.elim2 (fun _ => ?_) (fun _ => ?_))

set_option maxRecDepth 100000 in
theorem problems_Rows_1_J1_le_problems_Rows_1 {rec_problems_Rows_11 rec_problems_Rows_12 : List Int → Int → Int → Int → Int → Int → Int → Int → Option Int} (h_rec_problems_Rows_1 : ∀ a0 a1 a2 a3 a4 a5 a6 a7, Le (rec_problems_Rows_11 a0 a1 a2 a3 a4 a5 a6 a7) (rec_problems_Rows_12 a0 a1 a2 a3 a4 a5 a6 a7)) (p1 : List Int) (p2 p3 : Int) (p4 p5 : Int) (p6 left1 p21 : Int) (r1 : (List MvT)) : Le (problems_Rows_1_J1 rec_problems_Rows_11 p1 p2 p3 p4 p5 p6 left1 p21 r1) (problems_Rows_1_J1 rec_problems_Rows_12 p1 p2 p3 p4 p5 p6 left1 p21 r1) := by
 unfold problems_Rows_1_J1
 repeat' (first | with_reducible exact Le.refl _ | with_reducible exact h_rec_problems_Rows_1 _ _ _ _ _ _ _ _ | with_reducible exact problems_Rows_1_L1_le_problems_Rows_1 h_rec_problems_Rows_1 _ _ _ _ _ _ _ _ _ _ | with_reducible refine Le.asrt ?_ | with_reducible refine Le.ite ?_ ?_ | refine Le.bind ?_ (fun _ => ?_) | refine Le.loop2 (fun _ => ?_) | refine Le.elim2 (fun _ => ?_) (fun _ => ?_))

set_option maxRecDepth 100000 in
theorem problems_Rows_1_B_le {rec_problems_Rows_11 rec_problems_Rows_12 : List Int → Int → Int → Int → Int → Int → Int → Int → Option Int} (h_rec_problems_Rows_1 : ∀ a0 a1 a2 a3 a4 a5 a6 a7, Le (rec_problems_Rows_11 a0 a1 a2 a3 a4 a5 a6 a7) (rec_problems_Rows_12 a0 a1 a2 a3 a4 a5 a6 a7)) (p1 : List Int) (p2 p3 : Int) (p4 p5 : Int) (p6 left1 p21 : Int) : Le (problems_Rows_1_B rec_problems_Rows_11 p1 p2 p3 p4 p5 p6 left1 p21) (problems_Rows_1_B rec_problems_Rows_12 p1 p2 p3 p4 p5 p6 left1 p21) := by
 unfold problems_Rows_1_B
 repeat' (first | with_reducible exact Le.refl _ | with_reducible exact h_rec_problems_Rows_1 _ _ _ _ _ _ _ _ | with_reducible exact problems_Rows_1_J1_le_problems_Rows_1 h_rec_problems_Rows_1 _ _ _ _ _ _ _ _ _ | with_reducible refine Le.asrt ?_ | with_reducible refine Le.ite ?_ ?_ | refine Le.bind ?_ (fun _ => ?_) | refine Le.loop2 (fun _ => ?_) | refine Le.elim2 (fun _ => ?_) (fun _ => ?_))

set_option maxRecDepth 100000 in
theorem problems_Rows_1_mF_le : ∀ (n : Nat) (p1 : List Int) (p2 p3 : Int) (p4 p5 : Int) (p6 left1 p21 : Int), Le (problems_Rows_1_mF n p1 p2 p3 p4 p5 p6 left1 p21) (problems_Rows_1_mF (n + 1) p1 p2 p3 p4 p5 p6 left1 p21)
 | 0, _, _, _, _, _, _, _, _ => fun _ h => by cases h
 | n + 1, _, _, _, _, _, _, _, _ => problems_Rows_1_B_le (fun a0 a1 a2 a3 a4 a5 a6 a7 => problems_Rows_1_mF_le n a0 a1 a2 a3 a4 a5 a6 a7) _ _ _ _ _ _ _ _

set_option maxRecDepth 100000 in
theorem problems_Rows_1_m_of (N : Nat) (p1 : List Int) (p2 p3 : Int) (p4 p5 : Int) (p6 left1 p21 : Int) {r : Int} (h : problems_Rows_1_mF N p1 p2 p3 p4 p5 p6 left1 p21 = some r) : problems_Rows_1_m p1 p2 p3 p4 p5 p6 left1 p21 = some r :=
 recM_mono (fun n => problems_Rows_1_mF_le n _ _ _ _ _ _ _ _) h

def problems_Rows_J1  (p1 : List Int) (p2 p3 : Int) (p4 p5 : Int) (p6 plies1 result1 : Int) : Option (Int × Int) :=
 (problems_Rows_1_m p1 p2 p3 p4 p5 p6 plies1 result1).bind fun r2 => some (r2, 0)

def problems_Rows_m  (p1 : List Int) (p2 p3 : Int) (p4 p5 : Int) (p6 plies1 result1 : Int) : Option (Int × Int) :=
 (board_May_m p1 p2 p3 p4 p5 p6).bind fun r1 => if (!r1) then (some (0, 12)) else (if ((decide (plies1 < 0)) || (decide ((3 : Int) < plies1))) then (some (0, 3)) else (if ((result1 != 1) && (result1 != 2)) then (some (0, 4)) else ((problems_Rows_J1 p1 p2 p3 p4 p5 p6 plies1 result1))))

theorem problems_Rows_w {A1 : Option Addr} {c1 n1 : Nat} {p1 : List Int} {p2 p3 : Int} {p4 p5 : Int} {p6 plies1 result1 : Int} {r : (Int × Int)} {w0 w : World} {B : Nat} {fs : List HP} (hm : problems_Rows_m p1 p2 p3 p4 p5 p6 plies1 result1 = some r) (hS : Sep w0 B w (fs)) (hr_p1 : RdF w0 B fs A1 (vI p1)) (_hc_p1 : p1.length ≤ c1) (_hn_p1 : n1 = p1.length) :
  Calls Try.prog 67 #[.agg (ca A1 n1 c1 p2 p3 p4 p5 p6), vi plies1, vi result1] w fun e w' => e = .returned (.tuple #[vi r.1, vi r.2]) ∧ Sep w0 B w' (fs) := by
 obtain ⟨i3, hi3, hz3, hs3, hb3⟩ := info_parts Info3
 obtain ⟨i79, hi79, hz79, hs79, hb79⟩ := info_parts Info79
 obtain rfl := _hn_p1
 unfold problems_Rows_m at hm
 replace hm := start_b hm
 refine enter (l := [.agg (ca A1 p1.length c1 p2 p3 p4 p5 p6), vi plies1, vi result1]) (n := 32) Try.func67 rfl rfl (by simp) (fun a hF => ?_)
 refine seqR ?_
 refine at_do (d := 3) (s := vS (Instr.box 75 (.agg (ca A1 p1.length c1 p2 p3 p4 p5 p6)))) (v := pa w.heap.size 0) (w' := w.alloc (.cells (ca A1 p1.length c1 p2 p3 p4 p5 p6) 75)) hF (by kernel_rfl) (by kernel_rfl) (by kernel_rfl) (fun a hF => ?_)
 have hS : Sep w0 B (w.alloc (.cells (ca A1 p1.length c1 p2 p3 p4 p5 p6) 75)) (blk w.heap.size 75 (ca A1 p1.length c1 p2 p3 p4 p5 p6) :: (fs)) := hS.box 75 (ca A1 p1.length c1 p2 p3 p4 p5 p6)
 generalize w.heap.size = g1 at hF hS
 generalize w.alloc (.cells (ca A1 p1.length c1 p2 p3 p4 p5 p6) 75) = w at hS ⊢
 refine at_do (d := 5) (s := vS (Instr.box 3 (vi result1))) (v := pa w.heap.size 0) (w' := w.alloc (.cells #[vi result1] 3)) hF (by kernel_rfl) (by kernel_rfl) (by kernel_rfl) (fun a hF => ?_)
 have hS : Sep w0 B (w.alloc (.cells #[vi result1] 3)) (blk w.heap.size 3 #[vi result1] :: (blk g1 75 (ca A1 p1.length c1 p2 p3 p4 p5 p6) :: fs)) := hS.box 3 #[vi result1]
 generalize w.heap.size = g2 at hF hS
 generalize w.alloc (.cells #[vi result1] 3) = w at hS ⊢
 refine ar 2 [] [] [1, 3, 5] [pl 1 (vi plies1), pl 3 (pa g1 0), pl 5 (pa g2 0)] hF hS obs_nil (fun a w hF hS => ?_)
 refine ae [1, 3, 5] [pl 1 (vi plies1), pl 3 (pa g1 0), pl 5 (pa g2 0)] hF rfl (fun hF => ?_)
 refine then_n ?_
 refine seq_cut (fun a w => Fr 32 [pl 1 (vi plies1), pl 3 (pa g1 0), pl 5 (pa g2 0)] a ∧ Sep w0 B w (blk g1 75 (ca A1 p1.length c1 p2 p3 p4 p5 p6) :: blk g2 3 #[vi result1] :: fs) ∧ ((problems_Rows_J1 p1 p2 p3 p4 p5 p6 plies1 result1)).bind some = some r) ?_ ?_
 ·rintro a w ⟨hF, hS, hm⟩
  unfold problems_Rows_J1 at hm
  refine seqR ?_
  refine at_do (d := 8) (s := vS (Instr.alloc 79 true (.tuple #[]))) (v := pa w.heap.size 0) (w' := w.alloc (.cells #[.nilFunc] 79)) hF (by kernel_rfl) (by kernel_rfl) (by kernel_rfl) (fun a hF => ?_)
  have hS : Sep w0 B (w.alloc (.cells #[.nilFunc] 79)) (blk w.heap.size 79 #[.nilFunc] :: (blk g1 75 (ca A1 p1.length c1 p2 p3 p4 p5 p6) :: blk g2 3 #[vi result1] :: fs)) := hS.box 79 #[.nilFunc]
  generalize w.heap.size = g3 at hF hS
  generalize w.alloc (.cells #[.nilFunc] 79) = w at hS ⊢
  refine ae [1, 3, 5, 8] [pl 1 (vi plies1), pl 3 (pa g1 0), pl 5 (pa g2 0), pl 8 (pa g3 0)] hF rfl (fun hF => ?_)
  refine then_n (seqR ?_)
  refine ar 1 [] [] [1, 3, 8, 27] [pl 1 (vi plies1), pl 3 (pa g1 0), pl 8 (pa g3 0), pl 27 (.func (.func 148) #[] #[pa g2 0, pa g3 0])] hF hS obs_nil (fun a w hF hS => ?_)
  obtain ⟨w, hrun, hS⟩ := run_put (P := Try.prog) (t := 79) (u := .func (.func 148) #[] #[pa g2 0, pa g3 0]) (i := 0) (hS.at_ 0 rfl) hi79 hs79 rfl (Nat.lt_of_lt_of_eq (Nat.lt_of_succ_le (Nat.le_of_ble_eq_true (by kernel_rfl))) rfl)
  refine at_s hF hrun ?_
  have hS : Sep w0 B w (blk g3 79 #[.func (.func 148) #[] #[pa g2 0, pa g3 0]] :: blk g1 75 (ca A1 p1.length c1 p2 p3 p4 p5 p6) :: blk g2 3 #[vi result1] :: fs) := hS
  refine ae [1, 3, 8] [pl 1 (vi plies1), pl 3 (pa g1 0), pl 8 (pa g3 0)] hF rfl (fun hF => ?_)
  refine then_n (seqR ?_)
  obtain ⟨r2, hr2, hm⟩ := call_b hm
  refine ar 6 [⟨false, [], vS (Instr.loadAt 79 (pa g3 0)), .func (.func 148) #[] #[pa g2 0, pa g3 0]⟩, ⟨false, [], vS (Instr.loadAt 75 (pa g1 0)), .agg (ca A1 p1.length c1 p2 p3 p4 p5 p6)⟩, ⟨false, [], callFunc 148 #[.agg (ca A1 p1.length c1 p2 p3 p4 p5 p6), vi plies1, pa g2 0, pa g3 0], vi r2⟩] [some (.func (.func 148) #[] #[pa g2 0, pa g3 0]), some (.agg (ca A1 p1.length c1 p2 p3 p4 p5 p6)), none, some (vi r2), none, none] [6, 7] [pl 6 (vi r2), pl 7 (vi 0)] hF hS ?_ (fun a w hF hS => ?_)
  ·exact obs_cons (ob_load Agg79 (fun _ _ hS => (hS.at_ 0 rfl).cell rfl)) <| obs_cons (oA (cs := (ca A1 p1.length c1 p2 p3 p4 p5 p6)) (fun _ _ hS => (hS.at_ 1 rfl).cellsAt 0 (by rfl))) <| obs_cons (ob_call Try.func148 (by kernel_rfl) rfl (fun _ _ hS => quiet_pick hS 3 [2, 0, 1] (by decide) [1, 2, 0] (by decide) (qs := (blk g2 3 #[vi result1] :: blk g3 79 #[.func (.func 148) #[] #[pa g2 0, pa g3 0]] :: blk g1 75 (ca A1 p1.length c1 p2 p3 p4 p5 p6) :: fs)) rfl (fun hS => problems_Rows_1_w hr2 hS (fun _ hS => (hr_p1 _ (hS.dropN 1))) _hc_p1 rfl) 3 rfl)) <| obs_nil
  refine ae [6, 7] [pl 6 (vi r2), pl 7 (vi 0)] hF rfl (fun hF => ?_)
  refine then_n (wpIn_ret ?_)
  have hS := hS.pickN 3 [] (by decide)
  have hm : some (r2, 0) = some r := hm
  obtain rfl := Option.some.inj hm
  exact retV (rs := [.tmp 6, .tmp 7]) (vs := [vi r2, vi 0]) hF rfl (rv_t (by kernel_rfl) <| rv_t (by kernel_rfl) <| rv_nil) rfl ⟨rfl, hS⟩
 ·refine wpIn_block ?_
  obtain ⟨r1, hr1, hm⟩ := call_b hm
  refine rg [⟨false, [], vS (Instr.loadAt 75 (pa g1 0)), .agg (ca A1 p1.length c1 p2 p3 p4 p5 p6)⟩, ⟨false, [], callFunc 127 #[.agg (ca A1 p1.length c1 p2 p3 p4 p5 p6)], .bool r1⟩] [some (.agg (ca A1 p1.length c1 p2 p3 p4 p5 p6)), some (.bool r1), none, none] [1, 3, 5, 9] [pl 1 (vi plies1), pl 3 (pa g1 0), pl 5 (pa g2 0), pl 9 (.bool (!r1))] hF hS ?_ (fun a w hF hS => ?_)
  ·exact obs_cons (oA (cs := (ca A1 p1.length c1 p2 p3 p4 p5 p6)) (fun _ _ hS => (hS.at_ 1 rfl).cellsAt 0 (by rfl))) <| obs_cons (ob_call Try.func127 (by kernel_rfl) rfl (fun _ _ hS => board_May_w hr1 hS (fun _ hS => (hr_p1 _ (hS.dropN 2))) _hc_p1 rfl)) <| obs_nil
  refine ce (t := 9) (b := !r1) hF (fun hb => ?_) (fun hb => ?_)
  ·replace hm := if_t hm hb
   refine rg [] [] [6, 7] [pl 6 (vi 0), pl 7 (vi 12)] hF hS obs_nil (fun a w hF hS => ?_)
   refine wpIn_ret ?_
   refine block_r (then_r ?_)
   have hS := hS.pickN 2 [] (by decide)
   have hm : some (0, 12) = some r := hm
   obtain rfl := Option.some.inj hm
   exact retV (rs := [.tmp 6, .tmp 7]) (vs := [vi 0, vi 12]) hF rfl (rv_t (by kernel_rfl) <| rv_t (by kernel_rfl) <| rv_nil) rfl ⟨rfl, hS⟩
  ·replace hm := if_f hm hb
   refine rg [] [] [1, 3, 5, 13] [pl 1 (vi plies1), pl 3 (pa g1 0), pl 5 (pa g2 0), pl 13 (.bool ((decide (plies1 < 0)) || (decide ((3 : Int) < plies1))))] hF hS obs_nil (fun a w hF hS => ?_)
   refine ce (t := 13) (b := (decide (plies1 < 0)) || (decide ((3 : Int) < plies1))) hF (fun hb => ?_) (fun hb => ?_)
   ·replace hm := if_t hm hb
    refine rg [] [] [6, 7] [pl 6 (vi 0), pl 7 (vi 3)] hF hS obs_nil (fun a w hF hS => ?_)
    refine wpIn_ret ?_
    refine block_r (then_r ?_)
    have hS := hS.pickN 2 [] (by decide)
    have hm : some (0, 3) = some r := hm
    obtain rfl := Option.some.inj hm
    exact retV (rs := [.tmp 6, .tmp 7]) (vs := [vi 0, vi 3]) hF rfl (rv_t (by kernel_rfl) <| rv_t (by kernel_rfl) <| rv_nil) rfl ⟨rfl, hS⟩
   ·replace hm := if_f hm hb
    refine rg [⟨false, [], vS (Instr.loadAt 3 (pa g2 0)), vi result1⟩, ⟨false, [((result1 != 1), true)], vS (Instr.loadAt 3 (pa g2 0)), vi result1⟩] [some (vi result1), none, none, some (vi result1), none, none, none] [1, 3, 5, 20] [pl 1 (vi plies1), pl 3 (pa g1 0), pl 5 (pa g2 0), pl 20 (.bool ((result1 != 1) && (result1 != 2)))] hF hS ?_ (fun a w hF hS => ?_)
    ·exact obs_cons (ob_load Agg3 (fun _ _ hS => (hS.at_ 0 rfl).cell rfl)) <| obs_cons (ob_load Agg3 (fun _ _ hS => (hS.at_ 0 rfl).cell rfl)) <| obs_nil
    refine ce (t := 20) (b := (result1 != 1) && (result1 != 2)) hF (fun hb => ?_) (fun hb => ?_)
    ·replace hm := if_t hm hb
     refine rg [] [] [6, 7] [pl 6 (vi 0), pl 7 (vi 4)] hF hS obs_nil (fun a w hF hS => ?_)
     refine wpIn_ret ?_
     refine block_r (then_r ?_)
     have hS := hS.pickN 2 [] (by decide)
     have hm : some (0, 4) = some r := hm
     obtain rfl := Option.some.inj hm
     exact retV (rs := [.tmp 6, .tmp 7]) (vs := [vi 0, vi 4]) hF rfl (rv_t (by kernel_rfl) <| rv_t (by kernel_rfl) <| rv_nil) rfl ⟨rfl, hS⟩
    ·replace hm := if_f hm hb
     refine wpIn_skip ?_
     refine block_n ?_
     refine then_n ?_
     have hS := hS.pickN 2 [1, 0] (by decide)
     exact ⟨hF.wk [1, 3, 5], hS, hm⟩

def chess_May_m  (p1 : List Int) (p2 p3 : Int) (p4 p5 p6 : Int) : Option Bool :=
 (board_May_m p1 p2 p3 p4 p5 p6).bind fun r1 => some r1

theorem chess_May_w {A1 : Option Addr} {c1 n1 : Nat} {p1 : List Int} {p2 p3 : Int} {p4 p5 p6 : Int} {r : Bool} {w0 w : World} {B : Nat} {fs : List HP} (hm : chess_May_m p1 p2 p3 p4 p5 p6 = some r) (hS : Sep w0 B w (fs)) (hr_p1 : RdF w0 B fs A1 (vI p1)) (_hc_p1 : p1.length ≤ c1) (_hn_p1 : n1 = p1.length) :
  Calls Try.prog 204 #[.agg (ca A1 n1 c1 p2 p3 p4 p5 p6)] w fun e w' => e = .returned (.bool r) ∧ Sep w0 B w' (fs) := by
 obtain ⟨i3, hi3, hz3, hs3, hb3⟩ := info_parts Info3
 obtain rfl := _hn_p1
 unfold chess_May_m at hm
 replace hm := start_b hm
 refine enter (l := [.agg (ca A1 p1.length c1 p2 p3 p4 p5 p6)]) (n := 5) Try.func204 rfl rfl (by simp) (fun a hF => ?_)
 refine seqR ?_
 refine at_do (d := 1) (s := vS (Instr.box 75 (.agg (ca A1 p1.length c1 p2 p3 p4 p5 p6)))) (v := pa w.heap.size 0) (w' := w.alloc (.cells (ca A1 p1.length c1 p2 p3 p4 p5 p6) 75)) hF (by kernel_rfl) (by kernel_rfl) (by kernel_rfl) (fun a hF => ?_)
 have hS : Sep w0 B (w.alloc (.cells (ca A1 p1.length c1 p2 p3 p4 p5 p6) 75)) (blk w.heap.size 75 (ca A1 p1.length c1 p2 p3 p4 p5 p6) :: (fs)) := hS.box 75 (ca A1 p1.length c1 p2 p3 p4 p5 p6)
 generalize w.heap.size = g1 at hF hS
 generalize w.alloc (.cells (ca A1 p1.length c1 p2 p3 p4 p5 p6) 75) = w at hS ⊢
 refine ar 1 [] [] [1] [pl 1 (pa g1 0)] hF hS obs_nil (fun a w hF hS => ?_)
 refine ae [1] [pl 1 (pa g1 0)] hF rfl (fun hF => ?_)
 refine then_n ?_
 obtain ⟨r1, hr1, hm⟩ := call_b hm
 refine rg [⟨false, [], vS (Instr.loadAt 75 (pa g1 0)), .agg (ca A1 p1.length c1 p2 p3 p4 p5 p6)⟩, ⟨false, [], callFunc 127 #[.agg (ca A1 p1.length c1 p2 p3 p4 p5 p6)], .bool r1⟩] [some (.agg (ca A1 p1.length c1 p2 p3 p4 p5 p6)), some (.bool r1), none] [2] [pl 2 (.bool r1)] hF hS ?_ (fun a w hF hS => ?_)
 ·exact obs_cons (oA (cs := (ca A1 p1.length c1 p2 p3 p4 p5 p6)) (fun _ _ hS => (hS.at_ 0 rfl).cellsAt 0 (by rfl))) <| obs_cons (ob_call Try.func127 (by kernel_rfl) rfl (fun _ _ hS => board_May_w hr1 hS (fun _ hS => (hr_p1 _ (hS.dropN 1))) _hc_p1 rfl)) <| obs_nil
 refine wpIn_ret ?_
 have hS := hS.pickN 1 [] (by decide)
 have hm : some r1 = some r := hm
 obtain rfl := Option.some.inj hm
 exact retV (rs := [.tmp 2]) (vs := [.bool r1]) hF rfl rv1 rfl ⟨rfl, hS⟩

def chess_Material_J4  (z1 sum4 : Int) (great3 knights3 : Int) (bishops3 : List Int) : Option (St (Int × Int × Int × List Int × Int) (Int × Int × Int × List Int)) :=
 some (.next (sum4, great3, knights3, bishops3, (w64 (z1 + 1))))

def chess_Material_J6  (great1 knights1 : Int) (bishops1 : List Int) (z1 r2 sum3 : Int) (z2 : Bool) : Option (St (Int × Int × Int × List Int × Int) (Int × Int × Int × List Int)) :=
 if z2 then ((chess_Material_J4 z1) sum3 (w64 (great1 + 1)) knights1 bishops1) else (if (r2 == 2) then ((chess_Material_J4 z1) sum3 great1 (w64 (knights1 + 1)) bishops1) else (if (r2 == 3) then (asrt (0 ≤ (bAnd (w64 ((bAnd z1 7) + (shrK .i64 z1 3))) 1) ∧ (bAnd (w64 ((bAnd z1 7) + (shrK .i64 z1 3))) 1) < 2) <| asrt (0 ≤ (bAnd (w64 ((bAnd z1 7) + (shrK .i64 z1 3))) 1) ∧ (bAnd (w64 ((bAnd z1 7) + (shrK .i64 z1 3))) 1) < 2) <| asrt ((bAnd (w64 ((bAnd z1 7) + (shrK .i64 z1 3))) 1) < (bishops1.length : Int)) <| (chess_Material_J4 z1) sum3 great1 knights1 (bishops1.set (Int.toNat (bAnd (w64 ((bAnd z1 7) + (shrK .i64 z1 3))) 1)) (w64 ((geti bishops1 (bAnd (w64 ((bAnd z1 7) + (shrK .i64 z1 3))) 1)) + 1)))) else ((chess_Material_J4 z1) sum3 great1 knights1 bishops1)))

def chess_Material_J5  (great1 knights1 : Int) (bishops1 : List Int) (z1 r2 sum3 : Int) : Option (St (Int × Int × Int × List Int × Int) (Int × Int × Int × List Int)) :=
 if (r2 == 1) then ((chess_Material_J6 great1 knights1 bishops1 z1 r2 sum3) (r2 == 1)) else (if (r2 == 4) then ((chess_Material_J6 great1 knights1 bishops1 z1 r2 sum3) (r2 == 4)) else ((chess_Material_J6 great1 knights1 bishops1 z1 r2 sum3) (r2 == 5)))

def chess_Material_J3  (p1 : List Int) (sum1 great1 knights1 : Int) (bishops1 : List Int) (z1 : Int) : Option (St (Int × Int × Int × List Int × Int) (Int × Int × Int × List Int)) :=
 asrt (0 ≤ z1 ∧ z1 < (p1.length : Int)) <| (board_Kind_m (geti p1 z1)).bind fun r2 => if (decide ((0 : Int) < (geti p1 z1))) then (asrt (0 ≤ r2 ∧ r2 < 7) <| (chess_Material_J5 great1 knights1 bishops1 z1 r2) (w64 (sum1 + (geti ([0, 1, 3, 3, 5, 9, 0] : List Int) r2)))) else (asrt (0 ≤ r2 ∧ r2 < 7) <| (chess_Material_J5 great1 knights1 bishops1 z1 r2) (w64 (sum1 - (geti ([0, 1, 3, 3, 5, 9, 0] : List Int) r2))))

def chess_Material_J2  (sum2 great2 knights2 : Int) (bishops2 : List Int) : Option (Int × Bool × Int) :=
 asrt (0 ≤ (0 : Int) ∧ (0 : Int) < 2) <| asrt (0 ≤ (1 : Int) ∧ (1 : Int) < 2) <| asrt ((knights2 == 0) = true → (decide ((w64 ((w64 (knights2 + (geti bishops2 0))) + (geti bishops2 1))) ≤ 1)) = false → 0 ≤ (0 : Int) ∧ (0 : Int) < 2) <| asrt ((knights2 == 0) = true → (decide ((w64 ((w64 (knights2 + (geti bishops2 0))) + (geti bishops2 1))) ≤ 1)) = false → 0 ≤ (1 : Int) ∧ (1 : Int) < 2) <| some (sum2, ((great2 == 0) && ((decide ((w64 ((w64 (knights2 + (geti bishops2 0))) + (geti bishops2 1))) ≤ 1)) || ((knights2 == 0) && ((minI (geti bishops2 0) (geti bishops2 1)) == 0)))), 0)

def chess_Material_K1  : (Int × Int × Int × List Int) → Option (Int × Bool × Int) :=
 fun (x : (Int × Int × Int × List Int)) => match x with | (sum2, great2, knights2, bishops2) => chess_Material_J2 sum2 great2 knights2 bishops2

def chess_Material_L1  (p1 : List Int) : (Int × Int × Int × List Int × Int) → Option (St (Int × Int × Int × List Int × Int) (Int × Int × Int × List Int)) :=
 fun (x : (Int × Int × Int × List Int × Int)) => match x with | (sum1, great1, knights1, bishops1, z1) => if (decide (z1 < (p1.length : Int))) then ((chess_Material_J3 p1 sum1 great1 knights1 bishops1 z1)) else (some (.done (sum1, great1, knights1, bishops1)))

def chess_Material_J1  (p1 : List Int) : Option (Int × Bool × Int) :=
 (loop (chess_Material_L1 p1) (0, 0, 0, (List.replicate 2 (0 : Int)), 0)).bind chess_Material_K1

def chess_Material_m  (p1 : List Int) (p2 p3 : Int) (p4 p5 p6 : Int) : Option (Int × Bool × Int) :=
 (chess_May_m p1 p2 p3 p4 p5 p6).bind fun r1 => if (!r1) then (some (0, false, 12)) else ((chess_Material_J1 p1))

theorem chess_Material_w {A1 : Option Addr} {c1 n1 : Nat} {p1 : List Int} {p2 p3 : Int} {p4 p5 p6 : Int} {r : (Int × Bool × Int)} {w0 w : World} {B : Nat} {fs : List HP} (hm : chess_Material_m p1 p2 p3 p4 p5 p6 = some r) (hS : Sep w0 B w (fs)) (hr_p1 : RdF w0 B fs A1 (vI p1)) (_hc_p1 : p1.length ≤ c1) (_hn_p1 : n1 = p1.length) :
  Calls Try.prog 136 #[.agg (ca A1 n1 c1 p2 p3 p4 p5 p6)] w fun e w' => e = .returned (.tuple #[vi r.1, .bool r.2.1, vi r.2.2]) ∧ Sep w0 B w' (fs) := by
 obtain ⟨i3, hi3, hz3, hs3, hb3⟩ := info_parts Info3
 obtain rfl := _hn_p1
 unfold chess_Material_m at hm
 replace hm := start_b hm
 refine enter (l := [.agg (ca A1 p1.length c1 p2 p3 p4 p5 p6)]) (n := 90) Try.func136 rfl rfl (by simp) (fun a hF => ?_)
 refine seqR ?_
 refine at_do (d := 1) (s := vS (Instr.box 75 (.agg (ca A1 p1.length c1 p2 p3 p4 p5 p6)))) (v := pa w.heap.size 0) (w' := w.alloc (.cells (ca A1 p1.length c1 p2 p3 p4 p5 p6) 75)) hF (by kernel_rfl) (by kernel_rfl) (by kernel_rfl) (fun a hF => ?_)
 have hS : Sep w0 B (w.alloc (.cells (ca A1 p1.length c1 p2 p3 p4 p5 p6) 75)) (blk w.heap.size 75 (ca A1 p1.length c1 p2 p3 p4 p5 p6) :: (fs)) := hS.box 75 (ca A1 p1.length c1 p2 p3 p4 p5 p6)
 generalize w.heap.size = g1 at hF hS
 generalize w.alloc (.cells (ca A1 p1.length c1 p2 p3 p4 p5 p6) 75) = w at hS ⊢
 refine ar 3 [] [] [1] [pl 1 (pa g1 0)] hF hS obs_nil (fun a w hF hS => ?_)
 refine ae [1] [pl 1 (pa g1 0)] hF rfl (fun hF => ?_)
 refine then_n ?_
 refine seq_cut (fun a w => Fr 90 [pl 1 (pa g1 0)] a ∧ Sep w0 B w (blk g1 75 (ca A1 p1.length c1 p2 p3 p4 p5 p6) :: fs) ∧ ((chess_Material_J1 p1)).bind some = some r) ?_ ?_
 ·rintro a w ⟨hF, hS, hm⟩
  unfold chess_Material_J1 at hm
  refine seqR ?_
  refine ar 1 [] [] [1, 17] [pl 1 (pa g1 0), pl 17 (.agg (List.toArray (([] : List Value) ++ (arr1 (Value.int .i64) (0 : Int) 7 ([0, 1, 3, 3, 5, 9, 0] : List Int) ++ ([] : List Value)))))] hF hS obs_nil (fun a w hF hS => ?_)
  refine at_do (d := 5) (s := vS (Instr.alloc 221 true (.tuple #[]))) (v := pa w.heap.size 0) (w' := w.alloc (.cells (List.toArray (([] : List Value) ++ (arr1 (Value.int .i64) (0 : Int) 7 (List.replicate 7 (0 : Int)) ++ ([] : List Value)))) 221)) hF (by kernel_rfl) (by kernel_rfl) (by kernel_rfl) (fun a hF => ?_)
  have hS : Sep w0 B (w.alloc (.cells (List.toArray (([] : List Value) ++ (arr1 (Value.int .i64) (0 : Int) 7 (List.replicate 7 (0 : Int)) ++ ([] : List Value)))) 221)) (blk w.heap.size 221 (List.toArray (([] : List Value) ++ (arr1 (Value.int .i64) (0 : Int) 7 (List.replicate 7 (0 : Int)) ++ ([] : List Value)))) :: (blk g1 75 (ca A1 p1.length c1 p2 p3 p4 p5 p6) :: fs)) := hS.box 221 (List.toArray (([] : List Value) ++ (arr1 (Value.int .i64) (0 : Int) 7 (List.replicate 7 (0 : Int)) ++ ([] : List Value))))
  generalize w.heap.size = g2 at hF hS
  generalize w.alloc (.cells (List.toArray (([] : List Value) ++ (arr1 (Value.int .i64) (0 : Int) 7 (List.replicate 7 (0 : Int)) ++ ([] : List Value)))) 221) = w at hS ⊢
  obtain ⟨w, hrun, hS⟩ := run_putA (P := Try.prog) (t := 221) (us := (List.toArray (([] : List Value) ++ (arr1 (Value.int .i64) (0 : Int) 7 ([0, 1, 3, 3, 5, 9, 0] : List Int) ++ ([] : List Value))))) (o := 0) (hS.at_ 0 rfl) (by kernel_rfl) (all_one (by kernel_rfl)) (Nat.le_of_ble_eq_true (by kernel_rfl))
  refine at_s hF hrun ?_
  have hS : Sep w0 B w (blk g2 221 (List.toArray (([] : List Value) ++ (arr1 (Value.int .i64) (0 : Int) 7 ([0, 1, 3, 3, 5, 9, 0] : List Int) ++ ([] : List Value)))) :: blk g1 75 (ca A1 p1.length c1 p2 p3 p4 p5 p6) :: fs) := hS
  refine ae [1, 5] [pl 1 (pa g1 0), pl 5 (pa g2 0)] hF rfl (fun hF => ?_)
  refine then_n ?_
  refine rg [] [] [1, 5, 6, 7, 8] [pl 1 (pa g1 0), pl 5 (pa g2 0), pl 6 (vi 0), pl 7 (vi 0), pl 8 (vi 0)] hF hS obs_nil (fun a w hF hS => ?_)
  refine seqR ?_
  refine at_do (d := 9) (s := vS (Instr.alloc 212 true (.tuple #[]))) (v := pa w.heap.size 0) (w' := w.alloc (.cells (List.toArray (([] : List Value) ++ (arr1 (Value.int .i64) (0 : Int) 2 (List.replicate 2 (0 : Int)) ++ ([] : List Value)))) 212)) hF (by kernel_rfl) (by kernel_rfl) (by kernel_rfl) (fun a hF => ?_)
  have hS : Sep w0 B (w.alloc (.cells (List.toArray (([] : List Value) ++ (arr1 (Value.int .i64) (0 : Int) 2 (List.replicate 2 (0 : Int)) ++ ([] : List Value)))) 212)) (blk w.heap.size 212 (List.toArray (([] : List Value) ++ (arr1 (Value.int .i64) (0 : Int) 2 (List.replicate 2 (0 : Int)) ++ ([] : List Value)))) :: (blk g2 221 (List.toArray (([] : List Value) ++ (arr1 (Value.int .i64) (0 : Int) 7 ([0, 1, 3, 3, 5, 9, 0] : List Int) ++ ([] : List Value)))) :: blk g1 75 (ca A1 p1.length c1 p2 p3 p4 p5 p6) :: fs)) := hS.box 212 (List.toArray (([] : List Value) ++ (arr1 (Value.int .i64) (0 : Int) 2 (List.replicate 2 (0 : Int)) ++ ([] : List Value))))
  generalize w.heap.size = g3 at hF hS
  generalize w.alloc (.cells (List.toArray (([] : List Value) ++ (arr1 (Value.int .i64) (0 : Int) 2 (List.replicate 2 (0 : Int)) ++ ([] : List Value)))) 212) = w at hS ⊢
  refine ae [1, 5, 6, 7, 8, 9] [pl 1 (pa g1 0), pl 5 (pa g2 0), pl 6 (vi 0), pl 7 (vi 0), pl 8 (vi 0), pl 9 (pa g3 0)] hF rfl (fun hF => ?_)
  refine then_n ?_
  refine seq_cut (fun a w => ∃ (sum2 great2 knights2 : Int) (bishops2 : List Int), Fr 90 [pl 6 (vi sum2), pl 7 (vi great2), pl 8 (vi knights2), pl 9 (pa g3 0)] a ∧ Sep w0 B w (blk g3 212 (List.toArray (([] : List Value) ++ (arr1 (Value.int .i64) (0 : Int) 2 bishops2 ++ ([] : List Value)))) :: fs) ∧ (chess_Material_J2 sum2 great2 knights2 bishops2).bind some = some r) ?_ ?_
  ·rintro a w ⟨sum2, great2, knights2, bishops2, hF, hS, hm⟩
   unfold chess_Material_J2 at hm
   obtain ⟨hp7, hm⟩ := asrt_b hm
   obtain ⟨hp8, hm⟩ := asrt_b hm
   obtain ⟨hp9, hm⟩ := asrt_b hm
   obtain ⟨hp10, hm⟩ := asrt_b hm
   refine rg [⟨true, [], vS (Instr.indexAt 212 (pa g3 0) (vi 0)), .pointer (some ((⟨g3, 0, none⟩ : Addr).add (Int.toNat 0 * 1)))⟩, ⟨false, [], vS (Instr.loadAt 3 (.pointer (some ((⟨g3, 0, none⟩ : Addr).add (Int.toNat 0 * 1))))), vi (geti bishops2 0)⟩, ⟨true, [], vS (Instr.indexAt 212 (pa g3 0) (vi 1)), .pointer (some ((⟨g3, 0, none⟩ : Addr).add (Int.toNat 1 * 1)))⟩, ⟨false, [], vS (Instr.loadAt 3 (.pointer (some ((⟨g3, 0, none⟩ : Addr).add (Int.toNat 1 * 1))))), vi (geti bishops2 1)⟩, ⟨true, [((knights2 == 0), true), (decide ((w64 ((w64 (knights2 + (geti bishops2 0))) + (geti bishops2 1))) ≤ 1), false)], vS (Instr.indexAt 212 (pa g3 0) (vi 0)), .pointer (some ((⟨g3, 0, none⟩ : Addr).add (Int.toNat 0 * 1)))⟩, ⟨false, [((knights2 == 0), true), (decide ((w64 ((w64 (knights2 + (geti bishops2 0))) + (geti bishops2 1))) ≤ 1), false)], vS (Instr.loadAt 3 (.pointer (some ((⟨g3, 0, none⟩ : Addr).add (Int.toNat 0 * 1))))), vi (geti bishops2 0)⟩, ⟨true, [((knights2 == 0), true), (decide ((w64 ((w64 (knights2 + (geti bishops2 0))) + (geti bishops2 1))) ≤ 1), false)], vS (Instr.indexAt 212 (pa g3 0) (vi 1)), .pointer (some ((⟨g3, 0, none⟩ : Addr).add (Int.toNat 1 * 1)))⟩, ⟨false, [((knights2 == 0), true), (decide ((w64 ((w64 (knights2 + (geti bishops2 0))) + (geti bishops2 1))) ≤ 1), false)], vS (Instr.loadAt 3 (.pointer (some ((⟨g3, 0, none⟩ : Addr).add (Int.toNat 1 * 1))))), vi (geti bishops2 1)⟩, ⟨true, [((knights2 == 0), true), (decide ((w64 ((w64 (knights2 + (geti bishops2 0))) + (geti bishops2 1))) ≤ 1), false)], vS (Builtin.min_ #[3, 3] 3 #[vi (geti bishops2 0), vi (geti bishops2 1)]), vi (minI (geti bishops2 0) (geti bishops2 1))⟩] [none, some (.pointer (some ((⟨g3, 0, none⟩ : Addr).add (Int.toNat 0 * 1)))), some (vi (geti bishops2 0)), none, some (.pointer (some ((⟨g3, 0, none⟩ : Addr).add (Int.toNat 1 * 1)))), some (vi (geti bishops2 1)), none, none, none, none, none, none, some (.pointer (some ((⟨g3, 0, none⟩ : Addr).add (Int.toNat 0 * 1)))), some (vi (geti bishops2 0)), some (.pointer (some ((⟨g3, 0, none⟩ : Addr).add (Int.toNat 1 * 1)))), some (vi (geti bishops2 1)), some (vi (minI (geti bishops2 0) (geti bishops2 1))), none, none, none, none] [6, 7, 13] [pl 6 (vi sum2), pl 7 (vi great2), pl 13 (.bool ((decide ((w64 ((w64 (knights2 + (geti bishops2 0))) + (geti bishops2 1))) ≤ 1)) || ((knights2 == 0) && ((minI (geti bishops2 0) (geti bishops2 1)) == 0))))] hF hS ?_ (fun a w hF hS => ?_)
   ·exact obs_cons (ob_ixA UndA212 hi3 hs3 (fun _ => hp7)) <| obs_cons (ob_getA (m := bishops2) (Value.int .i64) (0 : Int) 2 ([] : List Value) ([] : List Value) 0 Agg3 rfl (fun _ hS => ⟨_, _, _, _, _, hS.at_ 0 rfl⟩) (fun hy => by have h0 := hp7; omega)) <| obs_cons (ob_ixA UndA212 hi3 hs3 (fun _ => hp8)) <| obs_cons (ob_getA (m := bishops2) (Value.int .i64) (0 : Int) 2 ([] : List Value) ([] : List Value) 1 Agg3 rfl (fun _ hS => ⟨_, _, _, _, _, hS.at_ 0 rfl⟩) (fun hy => by have h0 := hp8; omega)) <| obs_cons (ob_ixA UndA212 hi3 hs3 (fun hy => hp9 (hy ((knights2 == 0), true) (by simp)) (hy (decide ((w64 ((w64 (knights2 + (geti bishops2 0))) + (geti bishops2 1))) ≤ 1), false) (by simp)))) <| obs_cons (ob_getA (m := bishops2) (Value.int .i64) (0 : Int) 2 ([] : List Value) ([] : List Value) 0 Agg3 rfl (fun _ hS => ⟨_, _, _, _, _, hS.at_ 0 rfl⟩) (fun hy => by have h0 := hp9 (hy ((knights2 == 0), true) (by simp)) (hy (decide ((w64 ((w64 (knights2 + (geti bishops2 0))) + (geti bishops2 1))) ≤ 1), false) (by simp)); omega)) <| obs_cons (ob_ixA UndA212 hi3 hs3 (fun hy => hp10 (hy ((knights2 == 0), true) (by simp)) (hy (decide ((w64 ((w64 (knights2 + (geti bishops2 0))) + (geti bishops2 1))) ≤ 1), false) (by simp)))) <| obs_cons (ob_getA (m := bishops2) (Value.int .i64) (0 : Int) 2 ([] : List Value) ([] : List Value) 1 Agg3 rfl (fun _ hS => ⟨_, _, _, _, _, hS.at_ 0 rfl⟩) (fun hy => by have h0 := hp10 (hy ((knights2 == 0), true) (by simp)) (hy (decide ((w64 ((w64 (knights2 + (geti bishops2 0))) + (geti bishops2 1))) ≤ 1), false) (by simp)); omega)) <| obs_cons (ob_min rfl) <| obs_nil
   refine rg [] [] [2, 3, 4] [pl 2 (vi sum2), pl 3 (.bool ((great2 == 0) && ((decide ((w64 ((w64 (knights2 + (geti bishops2 0))) + (geti bishops2 1))) ≤ 1)) || ((knights2 == 0) && ((minI (geti bishops2 0) (geti bishops2 1)) == 0))))), pl 4 (vi 0)] hF hS obs_nil (fun a w hF hS => ?_)
   refine wpIn_ret ?_
   have hS := hS.pickN 1 [] (by decide)
   have hm : some (sum2, ((great2 == 0) && ((decide ((w64 ((w64 (knights2 + (geti bishops2 0))) + (geti bishops2 1))) ≤ 1)) || ((knights2 == 0) && ((minI (geti bishops2 0) (geti bishops2 1)) == 0)))), 0) = some r := hm
   obtain rfl := Option.some.inj hm
   exact retV (rs := [.tmp 2, .tmp 3, .tmp 4]) (vs := [vi sum2, .bool ((great2 == 0) && ((decide ((w64 ((w64 (knights2 + (geti bishops2 0))) + (geti bishops2 1))) ≤ 1)) || ((knights2 == 0) && ((minI (geti bishops2 0) (geti bishops2 1)) == 0)))), vi 0]) hF rfl (rv_t (by kernel_rfl) <| rv_t (by kernel_rfl) <| rv_t (by kernel_rfl) <| rv_nil) rfl ⟨rfl, hS⟩
  ·refine rg [⟨false, [], vS (Instr.loadAt 27 (pa g1 0)), .slice A1 p1.length c1⟩] [none, some (.slice A1 p1.length c1), none, none] [5, 6, 7, 8, 9, 19, 20, 21] [pl 5 (pa g2 0), pl 6 (vi 0), pl 7 (vi 0), pl 8 (vi 0), pl 9 (pa g3 0), pl 19 (.slice A1 p1.length c1), pl 20 (vi (p1.length : Int)), pl 21 (vi 0)] hF hS ?_ (fun a w hF hS => ?_)
   ·exact obs_cons (ob_load Agg27 (fun _ _ hS => (hS.at_ 2 rfl).cell rfl)) <| obs_nil
   refine wpIn_block ?_
   have hS := hS.pickN 3 [1, 0] (by decide)
   refine wp_loop_model (S := (Int × Int × Int × List Int × Int)) (R := (Int × Int × Int × List Int)) (chess_Material_L1 p1) (fun x => (chess_Material_K1 x).bind some) r (fun (x : (Int × Int × Int × List Int × Int)) a w => Fr 90 [pl 5 (pa g2 0), pl 6 (vi x.1), pl 7 (vi x.2.1), pl 8 (vi x.2.2.1), pl 9 (pa g3 0), pl 19 (.slice A1 p1.length c1), pl 20 (vi (p1.length : Int)), pl 21 (vi x.2.2.2.2)] a ∧ Sep w0 B w (blk g2 221 (List.toArray (([] : List Value) ++ (arr1 (Value.int .i64) (0 : Int) 7 ([0, 1, 3, 3, 5, 9, 0] : List Int) ++ ([] : List Value)))) :: blk g3 212 (List.toArray (([] : List Value) ++ (arr1 (Value.int .i64) (0 : Int) 2 x.2.2.2.1 ++ ([] : List Value)))) :: fs)) (assoc_b hm) ⟨hF.wk [5, 6, 7, 8, 9, 19, 20, 21], hS⟩ ?_
   clear hF hS hm
   rintro nn1 ⟨sum1, great1, knights1, bishops1, z1⟩ a w ⟨hF, hS⟩ hm
   generalize hφ1 : stK (chess_Material_L1 p1) nn1 (fun x => (chess_Material_K1 x).bind some) = φ1 at hm
   unfold chess_Material_L1 at hm
   dsimp only at hF hS hm
   refine rg [] [] [5, 6, 7, 8, 9, 19, 20, 21, 22] [pl 5 (pa g2 0), pl 6 (vi sum1), pl 7 (vi great1), pl 8 (vi knights1), pl 9 (pa g3 0), pl 19 (.slice A1 p1.length c1), pl 20 (vi (p1.length : Int)), pl 21 (vi z1), pl 22 (.bool (decide (z1 < (p1.length : Int))))] hF hS obs_nil (fun a w hF hS => ?_)
   refine seq_cut (fun a w => Fr 90 [pl 5 (pa g2 0), pl 6 (vi sum1), pl 7 (vi great1), pl 8 (vi knights1), pl 9 (pa g3 0), pl 19 (.slice A1 p1.length c1), pl 20 (vi (p1.length : Int)), pl 21 (vi z1)] a ∧ Sep w0 B w (blk g2 221 (List.toArray (([] : List Value) ++ (arr1 (Value.int .i64) (0 : Int) 7 ([0, 1, 3, 3, 5, 9, 0] : List Int) ++ ([] : List Value)))) :: blk g3 212 (List.toArray (([] : List Value) ++ (arr1 (Value.int .i64) (0 : Int) 2 bishops1 ++ ([] : List Value)))) :: fs) ∧ ((chess_Material_J3 p1 sum1 great1 knights1 bishops1 z1)).bind φ1 = some r) ?_ ?_
   ·rintro a w ⟨hF, hS, hm⟩
    unfold chess_Material_J3 at hm
    refine seq_cut (fun a w => ∃ (sum4 great3 knights3 : Int) (bishops3 : List Int), Fr 90 [pl 5 (pa g2 0), pl 6 (vi sum4), pl 7 (vi great3), pl 8 (vi knights3), pl 9 (pa g3 0), pl 19 (.slice A1 p1.length c1), pl 20 (vi (p1.length : Int)), pl 21 (vi z1)] a ∧ Sep w0 B w (blk g2 221 (List.toArray (([] : List Value) ++ (arr1 (Value.int .i64) (0 : Int) 7 ([0, 1, 3, 3, 5, 9, 0] : List Int) ++ ([] : List Value)))) :: blk g3 212 (List.toArray (([] : List Value) ++ (arr1 (Value.int .i64) (0 : Int) 2 bishops3 ++ ([] : List Value)))) :: fs) ∧ ((chess_Material_J4 z1) sum4 great3 knights3 bishops3).bind φ1 = some r) ?_ ?_
    ·rintro a w ⟨sum4, great3, knights3, bishops3, hF, hS, hm⟩
     unfold chess_Material_J4 at hm
     refine rg1 [] [] [5, 6, 7, 8, 9, 19, 20, 21] [pl 5 (pa g2 0), pl 6 (vi sum4), pl 7 (vi great3), pl 8 (vi knights3), pl 9 (pa g3 0), pl 19 (.slice A1 p1.length c1), pl 20 (vi (p1.length : Int)), pl 21 (vi (w64 (z1 + 1)))] hF hS obs_nil (fun a w hF hS => ?_)
     refine then_n ?_
     rw [← hφ1] at hm
     exact ⟨(sum4, great3, knights3, bishops3, (w64 (z1 + 1))), ⟨hF.wk [5, 6, 7, 8, 9, 19, 20, 21], hS⟩, hm⟩
    ·refine wpIn_block ?_
     obtain ⟨hp1, hm⟩ := asrt_b hm
     refine rg [⟨true, [], vS (Instr.indexAt 27 (.slice A1 p1.length c1) (vi z1)), .pointer (some (sAddr A1 z1))⟩, ⟨false, [], vS (Instr.loadAt 3 (.pointer (some (sAddr A1 z1)))), vi (geti p1 z1)⟩] [none, some (.pointer (some (sAddr A1 z1))), some (vi (geti p1 z1)), none, none] [5, 6, 7, 8, 9, 10, 11, 19, 20, 21] [pl 5 (pa g2 0), pl 6 (vi sum1), pl 7 (vi great1), pl 8 (vi knights1), pl 9 (pa g3 0), pl 10 (vi z1), pl 11 (vi (geti p1 z1)), pl 19 (.slice A1 p1.length c1), pl 20 (vi (p1.length : Int)), pl 21 (vi z1)] hF hS ?_ (fun a w hF hS => ?_)
     ·exact obs_cons (ob_ix1 (f := (Value.int .i64)) (m := p1) Und27 hi3 hs3 (hr_p1 _ (hS.dropN 2)) rfl (fun _ => hp1)) <| obs_cons (ob_get1 (n := p1.length) (m := p1) (Value.int .i64) (0 : Int) Agg3 (fun _ hS => ⟨_, (hr_p1 _ (hS.dropN 2))⟩) (fun _ hS => rfl) (fun _ => hp1)) <| obs_nil
     obtain ⟨r2, hr2, hm⟩ := call_b hm
     refine rg [⟨false, [], callFunc 190 #[vi (geti p1 z1)], vi r2⟩] [none, some (vi r2), none] [5, 6, 7, 8, 9, 10, 11, 12, 19, 20, 21] [pl 5 (pa g2 0), pl 6 (vi sum1), pl 7 (vi great1), pl 8 (vi knights1), pl 9 (pa g3 0), pl 10 (vi z1), pl 11 (vi (geti p1 z1)), pl 12 (vi r2), pl 19 (.slice A1 p1.length c1), pl 20 (vi (p1.length : Int)), pl 21 (vi z1)] hF hS ?_ (fun a w hF hS => ?_)
     ·exact obs_cons (ob_call Try.func190 (by kernel_rfl) rfl (fun _ _ hS => board_Kind_w hr2 hS )) <| obs_nil
     refine seq_cut (fun a w => ∃ (sum3 : Int), Fr 90 [pl 5 (pa g2 0), pl 6 (vi sum3), pl 7 (vi great1), pl 8 (vi knights1), pl 9 (pa g3 0), pl 10 (vi z1), pl 12 (vi r2), pl 19 (.slice A1 p1.length c1), pl 20 (vi (p1.length : Int)), pl 21 (vi z1)] a ∧ Sep w0 B w (blk g2 221 (List.toArray (([] : List Value) ++ (arr1 (Value.int .i64) (0 : Int) 7 ([0, 1, 3, 3, 5, 9, 0] : List Int) ++ ([] : List Value)))) :: blk g3 212 (List.toArray (([] : List Value) ++ (arr1 (Value.int .i64) (0 : Int) 2 bishops1 ++ ([] : List Value)))) :: fs) ∧ ((chess_Material_J5 great1 knights1 bishops1 z1 r2) sum3).bind φ1 = some r) ?_ ?_
     ·rintro a w ⟨sum3, hF, hS, hm⟩
      unfold chess_Material_J5 at hm
      refine rg [] [] [5, 6, 7, 8, 9, 10, 19, 20, 21, 40] [pl 5 (pa g2 0), pl 6 (vi sum3), pl 7 (vi great1), pl 8 (vi knights1), pl 9 (pa g3 0), pl 10 (vi z1), pl 19 (.slice A1 p1.length c1), pl 20 (vi (p1.length : Int)), pl 21 (vi z1), pl 40 (vi r2)] hF hS obs_nil (fun a w hF hS => ?_)
      refine wpIn_block ?_
      refine seq_cut (fun a w => ∃ (z2 : Bool), Fr 90 [pl 5 (pa g2 0), pl 6 (vi sum3), pl 7 (vi great1), pl 8 (vi knights1), pl 9 (pa g3 0), pl 10 (vi z1), pl 19 (.slice A1 p1.length c1), pl 20 (vi (p1.length : Int)), pl 21 (vi z1), pl 40 (vi r2), pl 41 (.bool z2)] a ∧ Sep w0 B w (blk g2 221 (List.toArray (([] : List Value) ++ (arr1 (Value.int .i64) (0 : Int) 7 ([0, 1, 3, 3, 5, 9, 0] : List Int) ++ ([] : List Value)))) :: blk g3 212 (List.toArray (([] : List Value) ++ (arr1 (Value.int .i64) (0 : Int) 2 bishops1 ++ ([] : List Value)))) :: fs) ∧ ((chess_Material_J6 great1 knights1 bishops1 z1 r2 sum3) z2).bind φ1 = some r) ?_ ?_
      ·rintro a w ⟨z2, hF, hS, hm⟩
       unfold chess_Material_J6 at hm
       refine ce (t := 41) (b := z2) hF (fun hb => ?_) (fun hb => ?_)
       ·replace hm := if_t hm hb
        refine rg1 [] [] [5, 6, 7, 8, 9, 19, 20, 21] [pl 5 (pa g2 0), pl 6 (vi sum3), pl 7 (vi (w64 (great1 + 1))), pl 8 (vi knights1), pl 9 (pa g3 0), pl 19 (.slice A1 p1.length c1), pl 20 (vi (p1.length : Int)), pl 21 (vi z1)] hF hS obs_nil (fun a w hF hS => ?_)
        refine block_n ?_
        refine block_n ?_
        refine then_n ?_
        exact ⟨sum3, (w64 (great1 + 1)), knights1, bishops1, hF.wk [5, 6, 7, 8, 9, 19, 20, 21], hS, hm⟩
       ·replace hm := if_f hm hb
        refine rg [] [] [5, 6, 7, 8, 9, 10, 19, 20, 21, 40, 47] [pl 5 (pa g2 0), pl 6 (vi sum3), pl 7 (vi great1), pl 8 (vi knights1), pl 9 (pa g3 0), pl 10 (vi z1), pl 19 (.slice A1 p1.length c1), pl 20 (vi (p1.length : Int)), pl 21 (vi z1), pl 40 (vi r2), pl 47 (.bool (r2 == 2))] hF hS obs_nil (fun a w hF hS => ?_)
        refine ce (t := 47) (b := (r2 == 2)) hF (fun hb => ?_) (fun hb => ?_)
        ·replace hm := if_t hm hb
         refine rg1 [] [] [5, 6, 7, 8, 9, 19, 20, 21] [pl 5 (pa g2 0), pl 6 (vi sum3), pl 7 (vi great1), pl 8 (vi (w64 (knights1 + 1))), pl 9 (pa g3 0), pl 19 (.slice A1 p1.length c1), pl 20 (vi (p1.length : Int)), pl 21 (vi z1)] hF hS obs_nil (fun a w hF hS => ?_)
         refine block_n ?_
         refine block_n ?_
         refine then_n ?_
         exact ⟨sum3, great1, (w64 (knights1 + 1)), bishops1, hF.wk [5, 6, 7, 8, 9, 19, 20, 21], hS, hm⟩
        ·replace hm := if_f hm hb
         refine rg [] [] [5, 6, 7, 8, 9, 10, 19, 20, 21, 51] [pl 5 (pa g2 0), pl 6 (vi sum3), pl 7 (vi great1), pl 8 (vi knights1), pl 9 (pa g3 0), pl 10 (vi z1), pl 19 (.slice A1 p1.length c1), pl 20 (vi (p1.length : Int)), pl 21 (vi z1), pl 51 (.bool (r2 == 3))] hF hS obs_nil (fun a w hF hS => ?_)
         refine ce (t := 51) (b := (r2 == 3)) hF (fun hb => ?_) (fun hb => ?_)
         ·replace hm := if_t hm hb
          refine oneR ?_
          obtain ⟨hp4, hm⟩ := asrt_b hm
          obtain ⟨hp5, hm⟩ := asrt_b hm
          obtain ⟨hp6, hm⟩ := asrt_b hm
          refine ar 10 [⟨true, [], vS (Op.shift .shr .i64 z1 .u64 3), vi (shrK .i64 z1 3)⟩, ⟨true, [], vS (Instr.indexAt 212 (pa g3 0) (vi (bAnd (w64 ((bAnd z1 7) + (shrK .i64 z1 3))) 1))), .pointer (some ((⟨g3, 0, none⟩ : Addr).add (Int.toNat (bAnd (w64 ((bAnd z1 7) + (shrK .i64 z1 3))) 1) * 1)))⟩, ⟨false, [], vS (Instr.loadAt 3 (.pointer (some ((⟨g3, 0, none⟩ : Addr).add (Int.toNat (bAnd (w64 ((bAnd z1 7) + (shrK .i64 z1 3))) 1) * 1))))), vi (geti bishops1 (bAnd (w64 ((bAnd z1 7) + (shrK .i64 z1 3))) 1))⟩, ⟨true, [], vS (Instr.indexAt 212 (pa g3 0) (vi (bAnd (w64 ((bAnd z1 7) + (shrK .i64 z1 3))) 1))), .pointer (some ((⟨g3, 0, none⟩ : Addr).add (Int.toNat (bAnd (w64 ((bAnd z1 7) + (shrK .i64 z1 3))) 1) * 1)))⟩] [none, none, none, some (vi (shrK .i64 z1 3)), none, none, some (.pointer (some ((⟨g3, 0, none⟩ : Addr).add (Int.toNat (bAnd (w64 ((bAnd z1 7) + (shrK .i64 z1 3))) 1) * 1)))), some (vi (geti bishops1 (bAnd (w64 ((bAnd z1 7) + (shrK .i64 z1 3))) 1))), none, some (.pointer (some ((⟨g3, 0, none⟩ : Addr).add (Int.toNat (bAnd (w64 ((bAnd z1 7) + (shrK .i64 z1 3))) 1) * 1))))] [5, 6, 7, 8, 9, 19, 20, 21, 61, 62] [pl 5 (pa g2 0), pl 6 (vi sum3), pl 7 (vi great1), pl 8 (vi knights1), pl 9 (pa g3 0), pl 19 (.slice A1 p1.length c1), pl 20 (vi (p1.length : Int)), pl 21 (vi z1), pl 61 (vi (w64 ((geti bishops1 (bAnd (w64 ((bAnd z1 7) + (shrK .i64 z1 3))) 1)) + 1))), pl 62 (.pointer (some ((⟨g3, 0, none⟩ : Addr).add (Int.toNat (bAnd (w64 ((bAnd z1 7) + (shrK .i64 z1 3))) 1) * 1))))] hF hS ?_ (fun a w hF hS => ?_)
          ·exact obs_cons (ob_shr (fun _ => by decide)) <| obs_cons (ob_ixA UndA212 hi3 hs3 (fun _ => hp4)) <| obs_cons (ob_getA (m := bishops1) (Value.int .i64) (0 : Int) 2 ([] : List Value) ([] : List Value) (bAnd (w64 ((bAnd z1 7) + (shrK .i64 z1 3))) 1) Agg3 rfl (fun _ hS => ⟨_, _, _, _, _, hS.at_ 1 rfl⟩) (fun hy => by have h0 := hp4; omega)) <| obs_cons (ob_ixA UndA212 hi3 hs3 (fun _ => hp5)) <| obs_nil
          obtain ⟨w, hrun, hS⟩ := run_setA (P := Try.prog) (t := 3) (x := (w64 ((geti bishops1 (bAnd (w64 ((bAnd z1 7) + (shrK .i64 z1 3))) 1)) + 1))) (i := (bAnd (w64 ((bAnd z1 7) + (shrK .i64 z1 3))) 1)) (m := bishops1) (d := Int.toNat (bAnd (w64 ((bAnd z1 7) + (shrK .i64 z1 3))) 1) * 1) (Value.int .i64) (0 : Int) 2 ([] : List Value) ([] : List Value) (hS.at_ 1 rfl) rfl hi3 hs3 rfl (by have h0 := hp5; omega) (by have h0 := hp5; have h9 := hp6; omega)
          refine at_s hF hrun ?_
          have hS : Sep w0 B w (blk g2 221 (List.toArray (([] : List Value) ++ (arr1 (Value.int .i64) (0 : Int) 7 ([0, 1, 3, 3, 5, 9, 0] : List Int) ++ ([] : List Value)))) :: blk g3 212 (List.toArray (([] : List Value) ++ (arr1 (Value.int .i64) (0 : Int) 2 (bishops1.set (Int.toNat (bAnd (w64 ((bAnd z1 7) + (shrK .i64 z1 3))) 1)) (w64 ((geti bishops1 (bAnd (w64 ((bAnd z1 7) + (shrK .i64 z1 3))) 1)) + 1))) ++ ([] : List Value)))) :: fs) := hS
          refine ae [5, 6, 7, 8, 9, 19, 20, 21] [pl 5 (pa g2 0), pl 6 (vi sum3), pl 7 (vi great1), pl 8 (vi knights1), pl 9 (pa g3 0), pl 19 (.slice A1 p1.length c1), pl 20 (vi (p1.length : Int)), pl 21 (vi z1)] hF rfl (fun hF => ?_)
          refine block_n ?_
          refine block_n ?_
          refine then_n ?_
          exact ⟨sum3, great1, knights1, (bishops1.set (Int.toNat (bAnd (w64 ((bAnd z1 7) + (shrK .i64 z1 3))) 1)) (w64 ((geti bishops1 (bAnd (w64 ((bAnd z1 7) + (shrK .i64 z1 3))) 1)) + 1))), hF.wk [5, 6, 7, 8, 9, 19, 20, 21], hS, hm⟩
         ·replace hm := if_f hm hb
          refine wpIn_skip ?_
          refine block_n ?_
          refine block_n ?_
          refine then_n ?_
          exact ⟨sum3, great1, knights1, bishops1, hF.wk [5, 6, 7, 8, 9, 19, 20, 21], hS, hm⟩
      ·refine rg [] [] [5, 6, 7, 8, 9, 10, 19, 20, 21, 40, 41] [pl 5 (pa g2 0), pl 6 (vi sum3), pl 7 (vi great1), pl 8 (vi knights1), pl 9 (pa g3 0), pl 10 (vi z1), pl 19 (.slice A1 p1.length c1), pl 20 (vi (p1.length : Int)), pl 21 (vi z1), pl 40 (vi r2), pl 41 (.bool (r2 == 1))] hF hS obs_nil (fun a w hF hS => ?_)
       refine ce (t := 41) (b := (r2 == 1)) hF (fun hb => ?_) (fun hb => ?_)
       ·replace hm := if_t hm hb
        refine wpIn_skip ?_
        refine then_n ?_
        exact ⟨(r2 == 1), hF.wk [5, 6, 7, 8, 9, 10, 19, 20, 21, 40, 41], hS, hm⟩
       ·replace hm := if_f hm hb
        refine rg [] [] [5, 6, 7, 8, 9, 10, 19, 20, 21, 40, 41] [pl 5 (pa g2 0), pl 6 (vi sum3), pl 7 (vi great1), pl 8 (vi knights1), pl 9 (pa g3 0), pl 10 (vi z1), pl 19 (.slice A1 p1.length c1), pl 20 (vi (p1.length : Int)), pl 21 (vi z1), pl 40 (vi r2), pl 41 (.bool (r2 == 4))] hF hS obs_nil (fun a w hF hS => ?_)
        refine ce (t := 41) (b := (r2 == 4)) hF (fun hb => ?_) (fun hb => ?_)
        ·replace hm := if_t hm hb
         refine wpIn_skip ?_
         refine then_n ?_
         exact ⟨(r2 == 4), hF.wk [5, 6, 7, 8, 9, 10, 19, 20, 21, 40, 41], hS, hm⟩
        ·replace hm := if_f hm hb
         refine rg1 [] [] [5, 6, 7, 8, 9, 10, 19, 20, 21, 40, 41] [pl 5 (pa g2 0), pl 6 (vi sum3), pl 7 (vi great1), pl 8 (vi knights1), pl 9 (pa g3 0), pl 10 (vi z1), pl 19 (.slice A1 p1.length c1), pl 20 (vi (p1.length : Int)), pl 21 (vi z1), pl 40 (vi r2), pl 41 (.bool (r2 == 5))] hF hS obs_nil (fun a w hF hS => ?_)
         refine then_n ?_
         exact ⟨(r2 == 5), hF.wk [5, 6, 7, 8, 9, 10, 19, 20, 21, 40, 41], hS, hm⟩
     ·refine rg [] [] [5, 6, 7, 8, 9, 10, 12, 19, 20, 21, 29] [pl 5 (pa g2 0), pl 6 (vi sum1), pl 7 (vi great1), pl 8 (vi knights1), pl 9 (pa g3 0), pl 10 (vi z1), pl 12 (vi r2), pl 19 (.slice A1 p1.length c1), pl 20 (vi (p1.length : Int)), pl 21 (vi z1), pl 29 (.bool (decide ((0 : Int) < (geti p1 z1))))] hF hS obs_nil (fun a w hF hS => ?_)
      refine ce (t := 29) (b := decide ((0 : Int) < (geti p1 z1))) hF (fun hb => ?_) (fun hb => ?_)
      ·replace hm := if_t hm hb
       obtain ⟨hp2, hm⟩ := asrt_b hm
       refine rg1 [⟨true, [], vS (Instr.indexAt 221 (pa g2 0) (vi r2)), .pointer (some ((⟨g2, 0, none⟩ : Addr).add (Int.toNat r2 * 1)))⟩, ⟨false, [], vS (Instr.loadAt 3 (.pointer (some ((⟨g2, 0, none⟩ : Addr).add (Int.toNat r2 * 1))))), vi (geti ([0, 1, 3, 3, 5, 9, 0] : List Int) r2)⟩] [none, none, some (.pointer (some ((⟨g2, 0, none⟩ : Addr).add (Int.toNat r2 * 1)))), some (vi (geti ([0, 1, 3, 3, 5, 9, 0] : List Int) r2)), none, none] [5, 6, 7, 8, 9, 10, 12, 19, 20, 21] [pl 5 (pa g2 0), pl 6 (vi (w64 (sum1 + (geti ([0, 1, 3, 3, 5, 9, 0] : List Int) r2)))), pl 7 (vi great1), pl 8 (vi knights1), pl 9 (pa g3 0), pl 10 (vi z1), pl 12 (vi r2), pl 19 (.slice A1 p1.length c1), pl 20 (vi (p1.length : Int)), pl 21 (vi z1)] hF hS ?_ (fun a w hF hS => ?_)
       ·exact obs_cons (ob_ixA UndA221 hi3 hs3 (fun _ => hp2)) <| obs_cons (ob_getA (m := ([0, 1, 3, 3, 5, 9, 0] : List Int)) (Value.int .i64) (0 : Int) 7 ([] : List Value) ([] : List Value) r2 Agg3 rfl (fun _ hS => ⟨_, _, _, _, _, hS.at_ 0 rfl⟩) (fun hy => by have h0 := hp2; omega)) <| obs_nil
       refine then_n ?_
       exact ⟨(w64 (sum1 + (geti ([0, 1, 3, 3, 5, 9, 0] : List Int) r2))), hF.wk [5, 6, 7, 8, 9, 10, 12, 19, 20, 21], hS, hm⟩
      ·replace hm := if_f hm hb
       obtain ⟨hp3, hm⟩ := asrt_b hm
       refine rg1 [⟨true, [], vS (Instr.indexAt 221 (pa g2 0) (vi r2)), .pointer (some ((⟨g2, 0, none⟩ : Addr).add (Int.toNat r2 * 1)))⟩, ⟨false, [], vS (Instr.loadAt 3 (.pointer (some ((⟨g2, 0, none⟩ : Addr).add (Int.toNat r2 * 1))))), vi (geti ([0, 1, 3, 3, 5, 9, 0] : List Int) r2)⟩] [none, none, some (.pointer (some ((⟨g2, 0, none⟩ : Addr).add (Int.toNat r2 * 1)))), some (vi (geti ([0, 1, 3, 3, 5, 9, 0] : List Int) r2)), none, none] [5, 6, 7, 8, 9, 10, 12, 19, 20, 21] [pl 5 (pa g2 0), pl 6 (vi (w64 (sum1 - (geti ([0, 1, 3, 3, 5, 9, 0] : List Int) r2)))), pl 7 (vi great1), pl 8 (vi knights1), pl 9 (pa g3 0), pl 10 (vi z1), pl 12 (vi r2), pl 19 (.slice A1 p1.length c1), pl 20 (vi (p1.length : Int)), pl 21 (vi z1)] hF hS ?_ (fun a w hF hS => ?_)
       ·exact obs_cons (ob_ixA UndA221 hi3 hs3 (fun _ => hp3)) <| obs_cons (ob_getA (m := ([0, 1, 3, 3, 5, 9, 0] : List Int)) (Value.int .i64) (0 : Int) 7 ([] : List Value) ([] : List Value) r2 Agg3 rfl (fun _ hS => ⟨_, _, _, _, _, hS.at_ 0 rfl⟩) (fun hy => by have h0 := hp3; omega)) <| obs_nil
       refine then_n ?_
       exact ⟨(w64 (sum1 - (geti ([0, 1, 3, 3, 5, 9, 0] : List Int) r2))), hF.wk [5, 6, 7, 8, 9, 10, 12, 19, 20, 21], hS, hm⟩
   ·refine ce (t := 22) (b := decide (z1 < (p1.length : Int))) hF (fun hb => ?_) (fun hb => ?_)
    ·replace hm := if_t hm hb
     refine wpIn_skip ?_
     refine then_n ?_
     exact ⟨hF.wk [5, 6, 7, 8, 9, 19, 20, 21], hS, hm⟩
    ·replace hm := if_f hm hb
     refine wpIn_exit ?_
     refine then_e (then_e (block_e (then_n ?_)))
     have hS := hS.pickN 2 [1] (by decide)
     rw [← hφ1] at hm
     replace hm := done_b hm
     unfold chess_Material_K1 at hm
     try dsimp only at hm
     have hm : (chess_Material_J2 sum1 great1 knights1 bishops1).bind some = some r := hm
     exact ⟨sum1, great1, knights1, bishops1, hF.wk [6, 7, 8, 9], hS, hm⟩
 ·obtain ⟨r1, hr1, hm⟩ := call_b hm
  refine rg [⟨false, [], vS (Instr.loadAt 75 (pa g1 0)), .agg (ca A1 p1.length c1 p2 p3 p4 p5 p6)⟩, ⟨false, [], callFunc 204 #[.agg (ca A1 p1.length c1 p2 p3 p4 p5 p6)], .bool r1⟩] [some (.agg (ca A1 p1.length c1 p2 p3 p4 p5 p6)), some (.bool r1), none] [1, 16] [pl 1 (pa g1 0), pl 16 (.bool (!r1))] hF hS ?_ (fun a w hF hS => ?_)
  ·exact obs_cons (oA (cs := (ca A1 p1.length c1 p2 p3 p4 p5 p6)) (fun _ _ hS => (hS.at_ 0 rfl).cellsAt 0 (by rfl))) <| obs_cons (ob_call Try.func204 (by kernel_rfl) rfl (fun _ _ hS => chess_May_w hr1 hS (fun _ hS => (hr_p1 _ (hS.dropN 1))) _hc_p1 rfl)) <| obs_nil
  refine ce (t := 16) (b := !r1) hF (fun hb => ?_) (fun hb => ?_)
  ·replace hm := if_t hm hb
   refine rg [] [] [2, 3, 4] [pl 2 (vi 0), pl 3 (.bool false), pl 4 (vi 12)] hF hS obs_nil (fun a w hF hS => ?_)
   refine wpIn_ret ?_
   refine then_r ?_
   have hS := hS.pickN 1 [] (by decide)
   have hm : some (0, false, 12) = some r := hm
   obtain rfl := Option.some.inj hm
   exact retV (rs := [.tmp 2, .tmp 3, .tmp 4]) (vs := [vi 0, .bool false, vi 12]) hF rfl (rv_t (by kernel_rfl) <| rv_t (by kernel_rfl) <| rv_t (by kernel_rfl) <| rv_nil) rfl ⟨rfl, hS⟩
  ·replace hm := if_f hm hb
   refine wpIn_skip ?_
   refine then_n ?_
   exact ⟨hF.wk [1], hS, hm⟩

def board_Forward_m  (side1 : Int) : Option Int :=
 (board_forward_m side1).bind fun r1 => some r1

theorem board_Forward_w {side1 r : Int} {w0 w : World} {B : Nat} {fs : List HP} (hm : board_Forward_m side1 = some r) (hS : Sep w0 B w (fs)) :
  Calls Try.prog 216 #[vi side1] w fun e w' => e = .returned (vi r) ∧ Sep w0 B w' (fs) := by
 unfold board_Forward_m at hm
 replace hm := start_b hm
 refine enter (l := [vi side1]) (n := 5) Try.func216 rfl rfl (by simp) (fun a hF => ?_)
 refine rg [] [] [0] [pl 0 (vi side1)] hF hS obs_nil (fun a w hF hS => ?_)
 obtain ⟨r1, hr1, hm⟩ := call_b hm
 refine rg [⟨false, [], callFunc 192 #[vi side1], vi r1⟩] [none, some (vi r1), none] [2] [pl 2 (vi r1)] hF hS ?_ (fun a w hF hS => ?_)
 ·exact obs_cons (ob_call Try.func192 (by kernel_rfl) rfl (fun _ _ hS => board_forward_w hr1 hS )) <| obs_nil
 refine wpIn_ret ?_
 have hm : some r1 = some r := hm
 obtain rfl := Option.some.inj hm
 exact retV (rs := [.tmp 2]) (vs := [vi r1]) hF rfl rv1 rfl ⟨rfl, hS⟩

def problems_seek_J4  (z1 best4 : Int) (who10 who11 who12 : Int) : Option (St (Int × Int × Int × Int × Int) (Int × Int × Int × Int)) :=
 some (.next (best4, who10, who11, who12, (w64 (z1 + 1))))

def problems_seek_J5  (high1 z1 : Int) (best3 who7 : Int) (who8 who9 : Int) : Option (St (Int × Int × Int × Int × Int) (Int × Int × Int × Int)) :=
 if (decide (high1 ≤ best3)) then (some (.done (best3, who7, who8, who9))) else ((problems_seek_J4 z1) best3 who7 who8 who9)

def problems_seek_J3  (rec_problems_seek : List Int → Int → Int → Int → Int → Int → Int → Int → Int → Int → Option (Int × Int × Int × Int)) (p1 : List Int) (p2 p3 : Int) (p4 p5 : Int) (p6 ply1 : Int) (deep1 low1 high1 : Int) (r1 : (List MvT)) (best1 who1 : Int) (who2 who3 z1 : Int) : Option (St (Int × Int × Int × Int × Int) (Int × Int × Int × Int)) :=
 asrt (0 ≤ z1 ∧ z1 < (r1.length : Int)) <| (board_After_m p1 p2 p3 p4 p5 p6 ((getd ((0, 0, 0) : MvT) r1 z1).1) ((getd ((0, 0, 0) : MvT) r1 z1).2.1) ((getd ((0, 0, 0) : MvT) r1 z1).2.2)).bind fun r5 => (rec_problems_seek r5.1 r5.2.1 r5.2.2.1 r5.2.2.2.1 r5.2.2.2.2.1 r5.2.2.2.2.2 (w64 (ply1 + 1)) deep1 (w64 (0 - high1)) (w64 (0 - (maxI low1 best1)))).bind fun r6 => if (decide (best1 < (w64 (0 - r6.1)))) then ((problems_seek_J5 high1 z1) (w64 (0 - r6.1)) ((getd ((0, 0, 0) : MvT) r1 z1).1) ((getd ((0, 0, 0) : MvT) r1 z1).2.1) ((getd ((0, 0, 0) : MvT) r1 z1).2.2)) else ((problems_seek_J5 high1 z1) best1 who1 who2 who3)

def problems_seek_J2  (best2 who4 : Int) (who5 who6 : Int) : Option (Int × Int × Int × Int) :=
 some (best2, who4, who5, who6)

def problems_seek_K1  : (Int × Int × Int × Int) → Option (Int × Int × Int × Int) :=
 fun (x : (Int × Int × Int × Int)) => match x with | (best2, who4, who5, who6) => problems_seek_J2 best2 who4 who5 who6

def problems_seek_L1  (rec_problems_seek : List Int → Int → Int → Int → Int → Int → Int → Int → Int → Int → Option (Int × Int × Int × Int)) (p1 : List Int) (p2 p3 : Int) (p4 p5 : Int) (p6 ply1 : Int) (deep1 low1 high1 : Int) (r1 : (List MvT)) : (Int × Int × Int × Int × Int) → Option (St (Int × Int × Int × Int × Int) (Int × Int × Int × Int)) :=
 fun (x : (Int × Int × Int × Int × Int)) => match x with | (best1, who1, who2, who3, z1) => if (decide (z1 < (r1.length : Int))) then ((problems_seek_J3 rec_problems_seek p1 p2 p3 p4 p5 p6 ply1 deep1 low1 high1 r1 best1 who1 who2 who3 z1)) else (some (.done (best1, who1, who2, who3)))

def problems_seek_J1  (rec_problems_seek : List Int → Int → Int → Int → Int → Int → Int → Int → Int → Int → Option (Int × Int × Int × Int)) (p1 : List Int) (p2 p3 : Int) (p4 p5 : Int) (p6 ply1 : Int) (deep1 low1 high1 : Int) (r1 : (List MvT)) : Option (Int × Int × Int × Int) :=
 (loop (problems_seek_L1 rec_problems_seek p1 p2 p3 p4 p5 p6 ply1 deep1 low1 high1 r1) ((-10000), 0, 0, 0, 0)).bind problems_seek_K1

def problems_seek_B (rec_problems_seek : List Int → Int → Int → Int → Int → Int → Int → Int → Int → Int → Option (Int × Int × Int × Int)) (p1 : List Int) (p2 p3 : Int) (p4 p5 : Int) (p6 ply1 : Int) (deep1 low1 high1 : Int) : Option (Int × Int × Int × Int) :=
 (board_Moves_m p1 p2 p3 p4 p5 p6).bind fun r1 => ((if ((r1.length : Int) == 0) then board_Checked_m p1 p2 else some false)).bind fun r2 => if (((r1.length : Int) == 0) && r2) then (some ((w64 (ply1 - 1000)), 0, 0, 0)) else (if ((r1.length : Int) == 0) then (some (0, 0, 0, 0)) else (if (ply1 == deep1) then ((chess_Material_m p1 p2 p3 p4 p5 p6).bind fun r3 => (board_Forward_m p2).bind fun r4 => some ((w64 (r3.1 * r4)), 0, 0, 0)) else ((problems_seek_J1 rec_problems_seek p1 p2 p3 p4 p5 p6 ply1 deep1 low1 high1 r1))))

def problems_seek_mF : Nat → List Int → Int → Int → Int → Int → Int → Int → Int → Int → Int → Option (Int × Int × Int × Int)
 | 0 => fun _ _ _ _ _ _ _ _ _ _ => none
 | n + 1 => fun p1 p2 p3 p4 p5 p6 ply1 deep1 low1 high1 => problems_seek_B (problems_seek_mF n) p1 p2 p3 p4 p5 p6 ply1 deep1 low1 high1

def problems_seek_m (p1 : List Int) (p2 p3 : Int) (p4 p5 : Int) (p6 ply1 : Int) (deep1 low1 high1 : Int) : Option (Int × Int × Int × Int) :=
 recM fun n => problems_seek_mF n p1 p2 p3 p4 p5 p6 ply1 deep1 low1 high1

theorem problems_seek_wB {rec_problems_seek : List Int → Int → Int → Int → Int → Int → Int → Int → Int → Int → Option (Int × Int × Int × Int)} (ih_problems_seek : ∀ {A1 : Option Addr} {c1 n1 : Nat} {p1 : List Int} {p2 p3 : Int} {p4 p5 : Int} {p6 ply1 : Int} {deep1 low1 high1 : Int} {r : (Int × Int × Int × Int)} {w0 w : World} {B : Nat} {fs : List HP} (_ : rec_problems_seek p1 p2 p3 p4 p5 p6 ply1 deep1 low1 high1 = some r) (_ : Sep w0 B w (fs)) (hr_p1 : RdF w0 B fs A1 (vI p1)) (_hc_p1 : p1.length ≤ c1) (_hn_p1 : n1 = p1.length), Calls Try.prog 149 #[.agg (ca A1 n1 c1 p2 p3 p4 p5 p6), vi ply1, vi deep1, vi low1, vi high1] w fun e w' => e = .returned (.tuple #[vi r.1, .agg #[vi r.2.1, vi r.2.2.1, vi r.2.2.2]]) ∧ Sep w0 B w' (fs)) {A1 : Option Addr} {c1 n1 : Nat} {p1 : List Int} {p2 p3 : Int} {p4 p5 : Int} {p6 ply1 : Int} {deep1 low1 high1 : Int} {r : (Int × Int × Int × Int)} {w0 w : World} {B : Nat} {fs : List HP} (hm : problems_seek_B rec_problems_seek p1 p2 p3 p4 p5 p6 ply1 deep1 low1 high1 = some r) (hS : Sep w0 B w (fs)) (hr_p1 : RdF w0 B fs A1 (vI p1)) (_hc_p1 : p1.length ≤ c1) (_hn_p1 : n1 = p1.length) :
  Calls Try.prog 149 #[.agg (ca A1 n1 c1 p2 p3 p4 p5 p6), vi ply1, vi deep1, vi low1, vi high1] w fun e w' => e = .returned (.tuple #[vi r.1, .agg #[vi r.2.1, vi r.2.2.1, vi r.2.2.2]]) ∧ Sep w0 B w' (fs) := by
 obtain ⟨i3, hi3, hz3, hs3, hb3⟩ := info_parts Info3
 obtain ⟨i88, hi88, hz88, hs88, hb88⟩ := info_parts Info88
 obtain rfl := _hn_p1
 unfold problems_seek_B at hm
 replace hm := start_b hm
 refine enter (l := [.agg (ca A1 p1.length c1 p2 p3 p4 p5 p6), vi ply1, vi deep1, vi low1, vi high1]) (n := 94) Try.func149 rfl rfl (by simp) (fun a hF => ?_)
 refine seqR ?_
 refine at_do (d := 5) (s := vS (Instr.box 75 (.agg (ca A1 p1.length c1 p2 p3 p4 p5 p6)))) (v := pa w.heap.size 0) (w' := w.alloc (.cells (ca A1 p1.length c1 p2 p3 p4 p5 p6) 75)) hF (by kernel_rfl) (by kernel_rfl) (by kernel_rfl) (fun a hF => ?_)
 have hS : Sep w0 B (w.alloc (.cells (ca A1 p1.length c1 p2 p3 p4 p5 p6) 75)) (blk w.heap.size 75 (ca A1 p1.length c1 p2 p3 p4 p5 p6) :: (fs)) := hS.box 75 (ca A1 p1.length c1 p2 p3 p4 p5 p6)
 generalize w.heap.size = g1 at hF hS
 generalize w.alloc (.cells (ca A1 p1.length c1 p2 p3 p4 p5 p6) 75) = w at hS ⊢
 refine ar 1 [] [] [1, 2, 3, 4, 5] [pl 1 (vi ply1), pl 2 (vi deep1), pl 3 (vi low1), pl 4 (vi high1), pl 5 (pa g1 0)] hF hS obs_nil (fun a w hF hS => ?_)
 refine at_do (d := 11) (s := vS (Instr.alloc 88 true (.tuple #[]))) (v := pa w.heap.size 0) (w' := w.alloc (.cells #[vi 0, vi 0, vi 0] 88)) hF (by kernel_rfl) (by kernel_rfl) (by kernel_rfl) (fun a hF => ?_)
 have hS : Sep w0 B (w.alloc (.cells #[vi 0, vi 0, vi 0] 88)) (blk w.heap.size 88 #[vi 0, vi 0, vi 0] :: (blk g1 75 (ca A1 p1.length c1 p2 p3 p4 p5 p6) :: fs)) := hS.box 88 #[vi 0, vi 0, vi 0]
 generalize w.heap.size = g2 at hF hS
 generalize w.alloc (.cells #[vi 0, vi 0, vi 0] 88) = w at hS ⊢
 refine ae [1, 2, 3, 4, 5, 11] [pl 1 (vi ply1), pl 2 (vi deep1), pl 3 (vi low1), pl 4 (vi high1), pl 5 (pa g1 0), pl 11 (pa g2 0)] hF rfl (fun hF => ?_)
 refine then_n (seqR ?_)
 obtain ⟨r1, hr1, hm⟩ := call_b hm
 refine ar 1 [⟨false, [], vS (Instr.loadAt 75 (pa g1 0)), .agg (ca A1 p1.length c1 p2 p3 p4 p5 p6)⟩] [some (.agg (ca A1 p1.length c1 p2 p3 p4 p5 p6))] [1, 2, 3, 4, 5, 11, 22] [pl 1 (vi ply1), pl 2 (vi deep1), pl 3 (vi low1), pl 4 (vi high1), pl 5 (pa g1 0), pl 11 (pa g2 0), pl 22 (.agg (ca A1 p1.length c1 p2 p3 p4 p5 p6))] hF hS ?_ (fun a w hF hS => ?_)
 ·exact obs_cons (oA (cs := (ca A1 p1.length c1 p2 p3 p4 p5 p6)) (fun _ _ hS => (hS.at_ 1 rfl).cellsAt 0 (by rfl))) <| obs_nil
 refine at_call (f := 133) (args := #[.agg (ca A1 p1.length c1 p2 p3 p4 p5 p6)]) (d := 23) hF (by kernel_rfl) (by kernel_rfl) Try.func133 (by kernel_rfl) rfl (board_Moves_w hr1 hS (fun _ hS => (hr_p1 _ (hS.dropN 2))) _hc_p1 rfl) (fun v a w hR hF => ?_)
 clear hS
 obtain ⟨A2, c2, rfl, hS⟩ := hR
 have hS : Sep w0 B w (ownK 88 3 A2 r1.length c2 (List.flatMap enc88 r1) :: blk g2 88 #[vi 0, vi 0, vi 0] :: blk g1 75 (ca A1 p1.length c1 p2 p3 p4 p5 p6) :: fs) := hS
 refine ar 1 [] [] [1, 2, 3, 4, 5, 11, 12] [pl 1 (vi ply1), pl 2 (vi deep1), pl 3 (vi low1), pl 4 (vi high1), pl 5 (pa g1 0), pl 11 (pa g2 0), pl 12 (.slice A2 r1.length c2)] hF hS obs_nil (fun a w hF hS => ?_)
 refine ae [1, 2, 3, 4, 5, 11, 12] [pl 1 (vi ply1), pl 2 (vi deep1), pl 3 (vi low1), pl 4 (vi high1), pl 5 (pa g1 0), pl 11 (pa g2 0), pl 12 (.slice A2 r1.length c2)] hF rfl (fun hF => ?_)
 refine then_n ?_
 refine seq_cut (fun a w => Fr 94 [pl 1 (vi ply1), pl 2 (vi deep1), pl 3 (vi low1), pl 4 (vi high1), pl 5 (pa g1 0), pl 11 (pa g2 0), pl 12 (.slice A2 r1.length c2)] a ∧ Sep w0 B w (blk g1 75 (ca A1 p1.length c1 p2 p3 p4 p5 p6) :: blk g2 88 #[vi 0, vi 0, vi 0] :: ownK 88 3 A2 r1.length c2 (List.flatMap enc88 r1) :: fs) ∧ ((problems_seek_J1 rec_problems_seek p1 p2 p3 p4 p5 p6 ply1 deep1 low1 high1 r1)).bind some = some r) ?_ ?_
 ·rintro a w ⟨hF, hS, hm⟩
  unfold problems_seek_J1 at hm
  refine rg [] [] [1, 2, 3, 4, 5, 11, 12, 16] [pl 1 (vi ply1), pl 2 (vi deep1), pl 3 (vi low1), pl 4 (vi high1), pl 5 (pa g1 0), pl 11 (pa g2 0), pl 12 (.slice A2 r1.length c2), pl 16 (vi (-10000))] hF hS obs_nil (fun a w hF hS => ?_)
  refine seqR ?_
  refine at_do (d := 17) (s := vS (Instr.alloc 88 true (.tuple #[]))) (v := pa w.heap.size 0) (w' := w.alloc (.cells #[vi 0, vi 0, vi 0] 88)) hF (by kernel_rfl) (by kernel_rfl) (by kernel_rfl) (fun a hF => ?_)
  have hS : Sep w0 B (w.alloc (.cells #[vi 0, vi 0, vi 0] 88)) (blk w.heap.size 88 #[vi 0, vi 0, vi 0] :: (blk g1 75 (ca A1 p1.length c1 p2 p3 p4 p5 p6) :: blk g2 88 #[vi 0, vi 0, vi 0] :: ownK 88 3 A2 r1.length c2 (List.flatMap enc88 r1) :: fs)) := hS.box 88 #[vi 0, vi 0, vi 0]
  generalize w.heap.size = g3 at hF hS
  generalize w.alloc (.cells #[vi 0, vi 0, vi 0] 88) = w at hS ⊢
  refine ae [1, 2, 3, 4, 5, 11, 12, 16, 17] [pl 1 (vi ply1), pl 2 (vi deep1), pl 3 (vi low1), pl 4 (vi high1), pl 5 (pa g1 0), pl 11 (pa g2 0), pl 12 (.slice A2 r1.length c2), pl 16 (vi (-10000)), pl 17 (pa g3 0)] hF rfl (fun hF => ?_)
  refine then_n ?_
  refine seq_cut (fun a w => ∃ (best2 who4 : Int) (who5 who6 : Int), Fr 94 [pl 11 (pa g2 0), pl 16 (vi best2), pl 17 (pa g3 0)] a ∧ Sep w0 B w (blk g2 88 #[vi 0, vi 0, vi 0] :: blk g3 88 #[vi who4, vi who5, vi who6] :: fs) ∧ (problems_seek_J2 best2 who4 who5 who6).bind some = some r) ?_ ?_
  ·rintro a w ⟨best2, who4, who5, who6, hF, hS, hm⟩
   unfold problems_seek_J2 at hm
   refine wpIn_seq ?_
   refine regMix4 [0, 1, 2] [3] [⟨false, [], vS (Instr.loadAt 88 (pa g3 0)), .agg #[vi who4, vi who5, vi who6]⟩] [none, some (.agg #[vi who4, vi who5, vi who6]), none] [10, 11, 93] [pl 10 (vi best2), pl 11 (pa g2 0), pl 93 (.agg #[vi who4, vi who5, vi who6])] hF hS Fol (by kernel_rfl) (by kernel_rfl) (by kernel_rfl) (by kernel_rfl) (by kernel_rfl) ?_ (fun a w hF hS => ?_)
   ·exact obs_cons (oA (cs := #[vi who4, vi who5, vi who6]) (fun _ _ hS => (hS.at_ 1 rfl).cellsAt 0 (by rfl))) <| obs_nil
   obtain ⟨w, hrun, hS⟩ := run_putA (P := Try.prog) (t := 88) (us := #[vi who4, vi who5, vi who6]) (o := 0) (hS.at_ 0 rfl) (by kernel_rfl) (all_one (by kernel_rfl)) (Nat.le_of_ble_eq_true (by kernel_rfl))
   refine at_s hF hrun ?_
   have hS : Sep w0 B w (blk g2 88 #[vi who4, vi who5, vi who6] :: blk g3 88 #[vi who4, vi who5, vi who6] :: fs) := hS
   refine ae [10, 11] [pl 10 (vi best2), pl 11 (pa g2 0)] hF rfl (fun hF => ?_)
   refine np_n ?_
   refine then_n (wpIn_ret ?_)
   have hld1 := run_loadVarA (P := Try.prog) (t := 88) (cs := #[vi who4, vi who5, vi who6]) (by kernel_rfl) (by kernel_rfl) ((hS.at_ 0 rfl).cellsAt 0 (by rfl))
   have hS := hS.pickN 2 [] (by decide)
   have hm : some (best2, who4, who5, who6) = some r := hm
   obtain rfl := Option.some.inj hm
   exact retV (rs := [.tmp 10, .cell 11 88]) (vs := [vi best2, .agg #[vi who4, vi who5, vi who6]]) hF rfl (rv_t (by kernel_rfl) <| rv_c (by kernel_rfl) hld1 <| rv_nil) rfl ⟨rfl, hS⟩
  ·refine rg [] [] [1, 2, 3, 4, 5, 11, 16, 17, 59, 60, 61] [pl 1 (vi ply1), pl 2 (vi deep1), pl 3 (vi low1), pl 4 (vi high1), pl 5 (pa g1 0), pl 11 (pa g2 0), pl 16 (vi (-10000)), pl 17 (pa g3 0), pl 59 (.slice A2 r1.length c2), pl 60 (vi (r1.length : Int)), pl 61 (vi 0)] hF hS obs_nil (fun a w hF hS => ?_)
   refine wpIn_block ?_
   have hS := hS.pickN 4 [1, 2, 0, 3] (by decide)
   refine wp_loop_model (S := (Int × Int × Int × Int × Int)) (R := (Int × Int × Int × Int)) (problems_seek_L1 rec_problems_seek p1 p2 p3 p4 p5 p6 ply1 deep1 low1 high1 r1) (fun x => (problems_seek_K1 x).bind some) r (fun (x : (Int × Int × Int × Int × Int)) a w => Fr 94 [pl 1 (vi ply1), pl 2 (vi deep1), pl 3 (vi low1), pl 4 (vi high1), pl 5 (pa g1 0), pl 11 (pa g2 0), pl 16 (vi x.1), pl 17 (pa g3 0), pl 59 (.slice A2 r1.length c2), pl 60 (vi (r1.length : Int)), pl 61 (vi x.2.2.2.2)] a ∧ Sep w0 B w (blk g1 75 (ca A1 p1.length c1 p2 p3 p4 p5 p6) :: blk g2 88 #[vi 0, vi 0, vi 0] :: blk g3 88 #[vi x.2.1, vi x.2.2.1, vi x.2.2.2.1] :: ownK 88 3 A2 r1.length c2 (List.flatMap enc88 r1) :: fs)) (assoc_b hm) ⟨hF.wk [1, 2, 3, 4, 5, 11, 16, 17, 59, 60, 61], hS⟩ ?_
   clear hF hS hm
   rintro nn1 ⟨best1, who1, who2, who3, z1⟩ a w ⟨hF, hS⟩ hm
   generalize hφ1 : stK (problems_seek_L1 rec_problems_seek p1 p2 p3 p4 p5 p6 ply1 deep1 low1 high1 r1) nn1 (fun x => (problems_seek_K1 x).bind some) = φ1 at hm
   unfold problems_seek_L1 at hm
   dsimp only at hF hS hm
   refine rg [] [] [1, 2, 3, 4, 5, 11, 16, 17, 59, 60, 61, 62] [pl 1 (vi ply1), pl 2 (vi deep1), pl 3 (vi low1), pl 4 (vi high1), pl 5 (pa g1 0), pl 11 (pa g2 0), pl 16 (vi best1), pl 17 (pa g3 0), pl 59 (.slice A2 r1.length c2), pl 60 (vi (r1.length : Int)), pl 61 (vi z1), pl 62 (.bool (decide (z1 < (r1.length : Int))))] hF hS obs_nil (fun a w hF hS => ?_)
   refine seq_cut (fun a w => Fr 94 [pl 1 (vi ply1), pl 2 (vi deep1), pl 3 (vi low1), pl 4 (vi high1), pl 5 (pa g1 0), pl 11 (pa g2 0), pl 16 (vi best1), pl 17 (pa g3 0), pl 59 (.slice A2 r1.length c2), pl 60 (vi (r1.length : Int)), pl 61 (vi z1)] a ∧ Sep w0 B w (blk g1 75 (ca A1 p1.length c1 p2 p3 p4 p5 p6) :: blk g2 88 #[vi 0, vi 0, vi 0] :: blk g3 88 #[vi who1, vi who2, vi who3] :: ownK 88 3 A2 r1.length c2 (List.flatMap enc88 r1) :: fs) ∧ ((problems_seek_J3 rec_problems_seek p1 p2 p3 p4 p5 p6 ply1 deep1 low1 high1 r1 best1 who1 who2 who3 z1)).bind φ1 = some r) ?_ ?_
   ·rintro a w ⟨hF, hS, hm⟩
    unfold problems_seek_J3 at hm
    refine seq_cut (fun a w => ∃ (best4 who10 : Int) (who11 who12 : Int), Fr 94 [pl 1 (vi ply1), pl 2 (vi deep1), pl 3 (vi low1), pl 4 (vi high1), pl 5 (pa g1 0), pl 11 (pa g2 0), pl 16 (vi best4), pl 17 (pa g3 0), pl 59 (.slice A2 r1.length c2), pl 60 (vi (r1.length : Int)), pl 61 (vi z1)] a ∧ Sep w0 B w (blk g1 75 (ca A1 p1.length c1 p2 p3 p4 p5 p6) :: blk g2 88 #[vi 0, vi 0, vi 0] :: blk g3 88 #[vi who10, vi who11, vi who12] :: ownK 88 3 A2 r1.length c2 (List.flatMap enc88 r1) :: fs) ∧ ((problems_seek_J4 z1) best4 who10 who11 who12).bind φ1 = some r) ?_ ?_
    ·rintro a w ⟨best4, who10, who11, who12, hF, hS, hm⟩
     unfold problems_seek_J4 at hm
     refine rg1 [] [] [1, 2, 3, 4, 5, 11, 16, 17, 59, 60, 61] [pl 1 (vi ply1), pl 2 (vi deep1), pl 3 (vi low1), pl 4 (vi high1), pl 5 (pa g1 0), pl 11 (pa g2 0), pl 16 (vi best4), pl 17 (pa g3 0), pl 59 (.slice A2 r1.length c2), pl 60 (vi (r1.length : Int)), pl 61 (vi (w64 (z1 + 1)))] hF hS obs_nil (fun a w hF hS => ?_)
     refine then_n ?_
     rw [← hφ1] at hm
     exact ⟨(best4, who10, who11, who12, (w64 (z1 + 1))), ⟨hF.wk [1, 2, 3, 4, 5, 11, 16, 17, 59, 60, 61], hS⟩, hm⟩
    ·refine wpIn_block ?_
     refine seqR ?_
     obtain ⟨hp1, hm⟩ := asrt_b hm
     refine ar 2 [⟨true, [], vS (Instr.indexAt 81 (.slice A2 r1.length c2) (vi z1)), .pointer (some (sAddrK A2 3 z1))⟩, ⟨false, [], vS (Instr.loadAt 88 (.pointer (some (sAddrK A2 3 z1)))), .agg #[vi ((getd ((0, 0, 0) : MvT) r1 z1).1), vi ((getd ((0, 0, 0) : MvT) r1 z1).2.1), vi ((getd ((0, 0, 0) : MvT) r1 z1).2.2)]⟩] [some (.pointer (some (sAddrK A2 3 z1))), some (.agg #[vi ((getd ((0, 0, 0) : MvT) r1 z1).1), vi ((getd ((0, 0, 0) : MvT) r1 z1).2.1), vi ((getd ((0, 0, 0) : MvT) r1 z1).2.2)])] [1, 2, 3, 4, 5, 11, 16, 17, 59, 60, 61, 64] [pl 1 (vi ply1), pl 2 (vi deep1), pl 3 (vi low1), pl 4 (vi high1), pl 5 (pa g1 0), pl 11 (pa g2 0), pl 16 (vi best1), pl 17 (pa g3 0), pl 59 (.slice A2 r1.length c2), pl 60 (vi (r1.length : Int)), pl 61 (vi z1), pl 64 (.agg #[vi ((getd ((0, 0, 0) : MvT) r1 z1).1), vi ((getd ((0, 0, 0) : MvT) r1 z1).2.1), vi ((getd ((0, 0, 0) : MvT) r1 z1).2.2)])] hF hS ?_ (fun a w hF hS => ?_)
     ·exact obs_cons (ob_ixK (m := r1) encK88 Und81 hi88 hs88 (hS.at_ 3 rfl).rdK rfl (fun _ => hp1)) <| obs_cons (ob_getK (n := r1.length) (m := r1) encK88 ((0, 0, 0) : MvT) (by kernel_rfl) (by kernel_rfl) (fun _ hS => ⟨_, (hS.at_ 3 rfl).rdK⟩) (fun _ hS => rfl) (fun _ => hp1)) <| obs_nil
     refine at_do (d := 19) (s := vS (Instr.alloc 88 true (.tuple #[]))) (v := pa w.heap.size 0) (w' := w.alloc (.cells #[vi 0, vi 0, vi 0] 88)) hF (by kernel_rfl) (by kernel_rfl) (by kernel_rfl) (fun a hF => ?_)
     have hS : Sep w0 B (w.alloc (.cells #[vi 0, vi 0, vi 0] 88)) (blk w.heap.size 88 #[vi 0, vi 0, vi 0] :: (blk g1 75 (ca A1 p1.length c1 p2 p3 p4 p5 p6) :: blk g2 88 #[vi 0, vi 0, vi 0] :: blk g3 88 #[vi who1, vi who2, vi who3] :: ownK 88 3 A2 r1.length c2 (List.flatMap enc88 r1) :: fs)) := hS.box 88 #[vi 0, vi 0, vi 0]
     generalize w.heap.size = g4 at hF hS
     generalize w.alloc (.cells #[vi 0, vi 0, vi 0] 88) = w at hS ⊢
     obtain ⟨w, hrun, hS⟩ := run_putA (P := Try.prog) (t := 88) (us := #[vi ((getd ((0, 0, 0) : MvT) r1 z1).1), vi ((getd ((0, 0, 0) : MvT) r1 z1).2.1), vi ((getd ((0, 0, 0) : MvT) r1 z1).2.2)]) (o := 0) (hS.at_ 0 rfl) (by kernel_rfl) (all_one (by kernel_rfl)) (Nat.le_of_ble_eq_true (by kernel_rfl))
     refine at_s hF hrun ?_
     have hS : Sep w0 B w (blk g4 88 #[vi ((getd ((0, 0, 0) : MvT) r1 z1).1), vi ((getd ((0, 0, 0) : MvT) r1 z1).2.1), vi ((getd ((0, 0, 0) : MvT) r1 z1).2.2)] :: blk g1 75 (ca A1 p1.length c1 p2 p3 p4 p5 p6) :: blk g2 88 #[vi 0, vi 0, vi 0] :: blk g3 88 #[vi who1, vi who2, vi who3] :: ownK 88 3 A2 r1.length c2 (List.flatMap enc88 r1) :: fs) := hS
     refine ae [1, 2, 3, 4, 5, 11, 16, 17, 19, 59, 60, 61] [pl 1 (vi ply1), pl 2 (vi deep1), pl 3 (vi low1), pl 4 (vi high1), pl 5 (pa g1 0), pl 11 (pa g2 0), pl 16 (vi best1), pl 17 (pa g3 0), pl 19 (pa g4 0), pl 59 (.slice A2 r1.length c2), pl 60 (vi (r1.length : Int)), pl 61 (vi z1)] hF rfl (fun hF => ?_)
     refine then_n (seqR ?_)
     obtain ⟨r5, hr5, hm⟩ := call_b hm
     obtain ⟨r6, hr6, hm⟩ := call_b hm
     refine ar 2 [⟨false, [], vS (Instr.loadAt 75 (pa g1 0)), .agg (ca A1 p1.length c1 p2 p3 p4 p5 p6)⟩, ⟨false, [], vS (Instr.loadAt 88 (pa g4 0)), .agg #[vi ((getd ((0, 0, 0) : MvT) r1 z1).1), vi ((getd ((0, 0, 0) : MvT) r1 z1).2.1), vi ((getd ((0, 0, 0) : MvT) r1 z1).2.2)]⟩] [some (.agg (ca A1 p1.length c1 p2 p3 p4 p5 p6)), some (.agg #[vi ((getd ((0, 0, 0) : MvT) r1 z1).1), vi ((getd ((0, 0, 0) : MvT) r1 z1).2.1), vi ((getd ((0, 0, 0) : MvT) r1 z1).2.2)])] [1, 2, 3, 4, 5, 11, 16, 17, 19, 59, 60, 61, 66, 67] [pl 1 (vi ply1), pl 2 (vi deep1), pl 3 (vi low1), pl 4 (vi high1), pl 5 (pa g1 0), pl 11 (pa g2 0), pl 16 (vi best1), pl 17 (pa g3 0), pl 19 (pa g4 0), pl 59 (.slice A2 r1.length c2), pl 60 (vi (r1.length : Int)), pl 61 (vi z1), pl 66 (.agg (ca A1 p1.length c1 p2 p3 p4 p5 p6)), pl 67 (.agg #[vi ((getd ((0, 0, 0) : MvT) r1 z1).1), vi ((getd ((0, 0, 0) : MvT) r1 z1).2.1), vi ((getd ((0, 0, 0) : MvT) r1 z1).2.2)])] hF hS ?_ (fun a w hF hS => ?_)
     ·exact obs_cons (oA (cs := (ca A1 p1.length c1 p2 p3 p4 p5 p6)) (fun _ _ hS => (hS.at_ 1 rfl).cellsAt 0 (by rfl))) <| obs_cons (ob_loadA (cs := #[vi ((getd ((0, 0, 0) : MvT) r1 z1).1), vi ((getd ((0, 0, 0) : MvT) r1 z1).2.1), vi ((getd ((0, 0, 0) : MvT) r1 z1).2.2)]) (by kernel_rfl) (by kernel_rfl) (fun _ _ hS => (hS.at_ 0 rfl).cellsAt 0 (by rfl))) <| obs_nil
     refine at_call (f := 135) (args := #[.agg (ca A1 p1.length c1 p2 p3 p4 p5 p6), .agg #[vi ((getd ((0, 0, 0) : MvT) r1 z1).1), vi ((getd ((0, 0, 0) : MvT) r1 z1).2.1), vi ((getd ((0, 0, 0) : MvT) r1 z1).2.2)]]) (d := 68) hF (by kernel_rfl) (by kernel_rfl) Try.func135 (by kernel_rfl) rfl (board_After_w hr5 hS (fun _ hS => (hr_p1 _ (hS.dropN 5))) _hc_p1 rfl) (fun v a w hR hF => ?_)
     clear hS
     obtain ⟨A3, c3, rfl, hS⟩ := hR
     have hS : Sep w0 B w (own 3 (.slice A3 r5.1.length c3) (vI r5.1) :: blk g4 88 #[vi ((getd ((0, 0, 0) : MvT) r1 z1).1), vi ((getd ((0, 0, 0) : MvT) r1 z1).2.1), vi ((getd ((0, 0, 0) : MvT) r1 z1).2.2)] :: blk g1 75 (ca A1 p1.length c1 p2 p3 p4 p5 p6) :: blk g2 88 #[vi 0, vi 0, vi 0] :: blk g3 88 #[vi who1, vi who2, vi who3] :: ownK 88 3 A2 r1.length c2 (List.flatMap enc88 r1) :: fs) := hS
     refine ar 13 [⟨true, [], vS (Builtin.max_ #[3, 3] 3 #[vi low1, vi best1]), vi (maxI low1 best1)⟩, ⟨false, [], callFunc 149 #[.agg (ca A3 r5.1.length c3 r5.2.1 r5.2.2.1 r5.2.2.2.1 r5.2.2.2.2.1 r5.2.2.2.2.2), vi (w64 (ply1 + 1)), vi deep1, vi (w64 (0 - high1)), vi (w64 (0 - (maxI low1 best1)))], .tuple #[vi r6.1, .agg #[vi r6.2.1, vi r6.2.2.1, vi r6.2.2.2]]⟩] [none, none, none, none, none, none, none, some (vi (maxI low1 best1)), none, some (.tuple #[vi r6.1, .agg #[vi r6.2.1, vi r6.2.2.1, vi r6.2.2.2]]), none, none, none] [1, 2, 3, 4, 5, 11, 16, 17, 19, 59, 60, 61, 79, 80] [pl 1 (vi ply1), pl 2 (vi deep1), pl 3 (vi low1), pl 4 (vi high1), pl 5 (pa g1 0), pl 11 (pa g2 0), pl 16 (vi best1), pl 17 (pa g3 0), pl 19 (pa g4 0), pl 59 (.slice A2 r1.length c2), pl 60 (vi (r1.length : Int)), pl 61 (vi z1), pl 79 (vi r6.1), pl 80 (.agg #[vi r6.2.1, vi r6.2.2.1, vi r6.2.2.2])] hF hS ?_ (fun a w hF hS => ?_)
     ·exact obs_cons (ob_max rfl) <| obs_cons (ob_call Try.func149 (by kernel_rfl) rfl (fun _ _ hS => ih_problems_seek hr6 hS (fun _ hS => (hS.at_ 0 rfl).rd) ((hS.at_ 0 rfl).cap1) rfl)) <| obs_nil
     refine at_do (d := 21) (s := vS (Instr.alloc 88 true (.tuple #[]))) (v := pa w.heap.size 0) (w' := w.alloc (.cells #[vi 0, vi 0, vi 0] 88)) hF (by kernel_rfl) (by kernel_rfl) (by kernel_rfl) (fun a hF => ?_)
     have hS : Sep w0 B (w.alloc (.cells #[vi 0, vi 0, vi 0] 88)) (blk w.heap.size 88 #[vi 0, vi 0, vi 0] :: (own 3 (.slice A3 r5.1.length c3) (vI r5.1) :: blk g4 88 #[vi ((getd ((0, 0, 0) : MvT) r1 z1).1), vi ((getd ((0, 0, 0) : MvT) r1 z1).2.1), vi ((getd ((0, 0, 0) : MvT) r1 z1).2.2)] :: blk g1 75 (ca A1 p1.length c1 p2 p3 p4 p5 p6) :: blk g2 88 #[vi 0, vi 0, vi 0] :: blk g3 88 #[vi who1, vi who2, vi who3] :: ownK 88 3 A2 r1.length c2 (List.flatMap enc88 r1) :: fs)) := hS.box 88 #[vi 0, vi 0, vi 0]
     generalize w.heap.size = g5 at hF hS
     generalize w.alloc (.cells #[vi 0, vi 0, vi 0] 88) = w at hS ⊢
     refine ar 1 [] [] [1, 2, 3, 4, 5, 11, 16, 17, 19, 20, 21, 59, 60, 61, 80] [pl 1 (vi ply1), pl 2 (vi deep1), pl 3 (vi low1), pl 4 (vi high1), pl 5 (pa g1 0), pl 11 (pa g2 0), pl 16 (vi best1), pl 17 (pa g3 0), pl 19 (pa g4 0), pl 20 (vi r6.1), pl 21 (pa g5 0), pl 59 (.slice A2 r1.length c2), pl 60 (vi (r1.length : Int)), pl 61 (vi z1), pl 80 (.agg #[vi r6.2.1, vi r6.2.2.1, vi r6.2.2.2])] hF hS obs_nil (fun a w hF hS => ?_)
     obtain ⟨w, hrun, hS⟩ := run_putA (P := Try.prog) (t := 88) (us := #[vi r6.2.1, vi r6.2.2.1, vi r6.2.2.2]) (o := 0) (hS.at_ 0 rfl) (by kernel_rfl) (all_one (by kernel_rfl)) (Nat.le_of_ble_eq_true (by kernel_rfl))
     refine at_s hF hrun ?_
     have hS : Sep w0 B w (blk g5 88 #[vi r6.2.1, vi r6.2.2.1, vi r6.2.2.2] :: own 3 (.slice A3 r5.1.length c3) (vI r5.1) :: blk g4 88 #[vi ((getd ((0, 0, 0) : MvT) r1 z1).1), vi ((getd ((0, 0, 0) : MvT) r1 z1).2.1), vi ((getd ((0, 0, 0) : MvT) r1 z1).2.2)] :: blk g1 75 (ca A1 p1.length c1 p2 p3 p4 p5 p6) :: blk g2 88 #[vi 0, vi 0, vi 0] :: blk g3 88 #[vi who1, vi who2, vi who3] :: ownK 88 3 A2 r1.length c2 (List.flatMap enc88 r1) :: fs) := hS
     refine ae [1, 2, 3, 4, 5, 11, 16, 17, 19, 20, 59, 60, 61] [pl 1 (vi ply1), pl 2 (vi deep1), pl 3 (vi low1), pl 4 (vi high1), pl 5 (pa g1 0), pl 11 (pa g2 0), pl 16 (vi best1), pl 17 (pa g3 0), pl 19 (pa g4 0), pl 20 (vi r6.1), pl 59 (.slice A2 r1.length c2), pl 60 (vi (r1.length : Int)), pl 61 (vi z1)] hF rfl (fun hF => ?_)
     refine then_n ?_
     refine seq_cut (fun a w => ∃ (best3 who7 : Int) (who8 who9 : Int), Fr 94 [pl 1 (vi ply1), pl 2 (vi deep1), pl 3 (vi low1), pl 4 (vi high1), pl 5 (pa g1 0), pl 11 (pa g2 0), pl 16 (vi best3), pl 17 (pa g3 0), pl 59 (.slice A2 r1.length c2), pl 60 (vi (r1.length : Int)), pl 61 (vi z1)] a ∧ Sep w0 B w (blk g1 75 (ca A1 p1.length c1 p2 p3 p4 p5 p6) :: blk g2 88 #[vi 0, vi 0, vi 0] :: blk g3 88 #[vi who7, vi who8, vi who9] :: ownK 88 3 A2 r1.length c2 (List.flatMap enc88 r1) :: fs) ∧ ((problems_seek_J5 high1 z1) best3 who7 who8 who9).bind φ1 = some r) ?_ ?_
     ·rintro a w ⟨best3, who7, who8, who9, hF, hS, hm⟩
      unfold problems_seek_J5 at hm
      refine rg [] [] [1, 2, 3, 4, 5, 11, 16, 17, 59, 60, 61, 90] [pl 1 (vi ply1), pl 2 (vi deep1), pl 3 (vi low1), pl 4 (vi high1), pl 5 (pa g1 0), pl 11 (pa g2 0), pl 16 (vi best3), pl 17 (pa g3 0), pl 59 (.slice A2 r1.length c2), pl 60 (vi (r1.length : Int)), pl 61 (vi z1), pl 90 (.bool (decide (high1 ≤ best3)))] hF hS obs_nil (fun a w hF hS => ?_)
      refine ce (t := 90) (b := decide (high1 ≤ best3)) hF (fun hb => ?_) (fun hb => ?_)
      ·replace hm := if_t hm hb
       refine wpIn_exit ?_
       refine block_o rfl (then_e (then_e (block_e (then_n ?_))))
       have hS := hS.pickN 4 [1, 2] (by decide)
       rw [← hφ1] at hm
       replace hm := done_b hm
       unfold problems_seek_K1 at hm
       try dsimp only at hm
       have hm : (problems_seek_J2 best3 who7 who8 who9).bind some = some r := hm
       exact ⟨best3, who7, who8, who9, hF.wk [11, 16, 17], hS, hm⟩
      ·replace hm := if_f hm hb
       refine wpIn_skip ?_
       refine block_n ?_
       refine then_n ?_
       exact ⟨best3, who7, who8, who9, hF.wk [1, 2, 3, 4, 5, 11, 16, 17, 59, 60, 61], hS, hm⟩
     ·refine rg [] [] [1, 2, 3, 4, 5, 11, 16, 17, 19, 20, 59, 60, 61, 84] [pl 1 (vi ply1), pl 2 (vi deep1), pl 3 (vi low1), pl 4 (vi high1), pl 5 (pa g1 0), pl 11 (pa g2 0), pl 16 (vi best1), pl 17 (pa g3 0), pl 19 (pa g4 0), pl 20 (vi r6.1), pl 59 (.slice A2 r1.length c2), pl 60 (vi (r1.length : Int)), pl 61 (vi z1), pl 84 (.bool (decide (best1 < (w64 (0 - r6.1)))))] hF hS obs_nil (fun a w hF hS => ?_)
      refine ce (t := 84) (b := decide (best1 < (w64 (0 - r6.1)))) hF (fun hb => ?_) (fun hb => ?_)
      ·replace hm := if_t hm hb
       refine regMix4 [0, 1, 2, 3] [4] [⟨false, [], vS (Instr.loadAt 88 (pa g4 0)), .agg #[vi ((getd ((0, 0, 0) : MvT) r1 z1).1), vi ((getd ((0, 0, 0) : MvT) r1 z1).2.1), vi ((getd ((0, 0, 0) : MvT) r1 z1).2.2)]⟩] [none, none, some (.agg #[vi ((getd ((0, 0, 0) : MvT) r1 z1).1), vi ((getd ((0, 0, 0) : MvT) r1 z1).2.1), vi ((getd ((0, 0, 0) : MvT) r1 z1).2.2)]), none] [1, 2, 3, 4, 5, 11, 16, 17, 59, 60, 61, 87] [pl 1 (vi ply1), pl 2 (vi deep1), pl 3 (vi low1), pl 4 (vi high1), pl 5 (pa g1 0), pl 11 (pa g2 0), pl 16 (vi (w64 (0 - r6.1))), pl 17 (pa g3 0), pl 59 (.slice A2 r1.length c2), pl 60 (vi (r1.length : Int)), pl 61 (vi z1), pl 87 (.agg #[vi ((getd ((0, 0, 0) : MvT) r1 z1).1), vi ((getd ((0, 0, 0) : MvT) r1 z1).2.1), vi ((getd ((0, 0, 0) : MvT) r1 z1).2.2)])] hF hS Fol (by kernel_rfl) (by kernel_rfl) (by kernel_rfl) (by kernel_rfl) (by kernel_rfl) ?_ (fun a w hF hS => ?_)
       ·exact obs_cons (ob_loadA (cs := #[vi ((getd ((0, 0, 0) : MvT) r1 z1).1), vi ((getd ((0, 0, 0) : MvT) r1 z1).2.1), vi ((getd ((0, 0, 0) : MvT) r1 z1).2.2)]) (by kernel_rfl) (by kernel_rfl) (fun _ _ hS => (hS.at_ 2 rfl).cellsAt 0 (by rfl))) <| obs_nil
       obtain ⟨w, hrun, hS⟩ := run_putA (P := Try.prog) (t := 88) (us := #[vi ((getd ((0, 0, 0) : MvT) r1 z1).1), vi ((getd ((0, 0, 0) : MvT) r1 z1).2.1), vi ((getd ((0, 0, 0) : MvT) r1 z1).2.2)]) (o := 0) (hS.at_ 5 rfl) (by kernel_rfl) (all_one (by kernel_rfl)) (Nat.le_of_ble_eq_true (by kernel_rfl))
       refine at_s hF hrun ?_
       have hS : Sep w0 B w (blk g5 88 #[vi r6.2.1, vi r6.2.2.1, vi r6.2.2.2] :: own 3 (.slice A3 r5.1.length c3) (vI r5.1) :: blk g4 88 #[vi ((getd ((0, 0, 0) : MvT) r1 z1).1), vi ((getd ((0, 0, 0) : MvT) r1 z1).2.1), vi ((getd ((0, 0, 0) : MvT) r1 z1).2.2)] :: blk g1 75 (ca A1 p1.length c1 p2 p3 p4 p5 p6) :: blk g2 88 #[vi 0, vi 0, vi 0] :: blk g3 88 #[vi ((getd ((0, 0, 0) : MvT) r1 z1).1), vi ((getd ((0, 0, 0) : MvT) r1 z1).2.1), vi ((getd ((0, 0, 0) : MvT) r1 z1).2.2)] :: ownK 88 3 A2 r1.length c2 (List.flatMap enc88 r1) :: fs) := hS
       refine ae [1, 2, 3, 4, 5, 11, 16, 17, 59, 60, 61] [pl 1 (vi ply1), pl 2 (vi deep1), pl 3 (vi low1), pl 4 (vi high1), pl 5 (pa g1 0), pl 11 (pa g2 0), pl 16 (vi (w64 (0 - r6.1))), pl 17 (pa g3 0), pl 59 (.slice A2 r1.length c2), pl 60 (vi (r1.length : Int)), pl 61 (vi z1)] hF rfl (fun hF => ?_)
       refine np_n ?_
       refine then_n ?_
       have hS := hS.pickN 7 [3, 4, 5, 6] (by decide)
       exact ⟨(w64 (0 - r6.1)), ((getd ((0, 0, 0) : MvT) r1 z1).1), ((getd ((0, 0, 0) : MvT) r1 z1).2.1), ((getd ((0, 0, 0) : MvT) r1 z1).2.2), hF.wk [1, 2, 3, 4, 5, 11, 16, 17, 59, 60, 61], hS, hm⟩
      ·replace hm := if_f hm hb
       refine wpIn_skip ?_
       refine then_n ?_
       have hS := hS.pickN 7 [3, 4, 5, 6] (by decide)
       exact ⟨best1, who1, who2, who3, hF.wk [1, 2, 3, 4, 5, 11, 16, 17, 59, 60, 61], hS, hm⟩
   ·refine ce (t := 62) (b := decide (z1 < (r1.length : Int))) hF (fun hb => ?_) (fun hb => ?_)
    ·replace hm := if_t hm hb
     refine wpIn_skip ?_
     refine then_n ?_
     exact ⟨hF.wk [1, 2, 3, 4, 5, 11, 16, 17, 59, 60, 61], hS, hm⟩
    ·replace hm := if_f hm hb
     refine wpIn_exit ?_
     refine then_e (then_e (block_e (then_n ?_)))
     have hS := hS.pickN 4 [1, 2] (by decide)
     rw [← hφ1] at hm
     replace hm := done_b hm
     unfold problems_seek_K1 at hm
     try dsimp only at hm
     have hm : (problems_seek_J2 best1 who1 who2 who3).bind some = some r := hm
     exact ⟨best1, who1, who2, who3, hF.wk [11, 16, 17], hS, hm⟩
 ·refine wpIn_block ?_
  obtain ⟨r2, hr2, hm⟩ := call_b hm
  refine rg [⟨false, [(((r1.length : Int) == 0), true)], vS (Instr.loadAt 27 (pa g1 0)), .slice A1 p1.length c1⟩, ⟨false, [(((r1.length : Int) == 0), true)], vS (Instr.loadAt 3 (pa g1 1)), vi p2⟩, ⟨false, [(((r1.length : Int) == 0), true)], callFunc 137 #[.slice A1 p1.length c1, vi p2], .bool r2⟩] [none, none, none, none, none, some (.slice A1 p1.length c1), none, some (vi p2), some (.bool r2), none, none] [1, 2, 3, 4, 5, 11, 12, 24] [pl 1 (vi ply1), pl 2 (vi deep1), pl 3 (vi low1), pl 4 (vi high1), pl 5 (pa g1 0), pl 11 (pa g2 0), pl 12 (.slice A2 r1.length c2), pl 24 (.bool (((r1.length : Int) == 0) && r2))] hF hS ?_ (fun a w hF hS => ?_)
  ·exact obs_cons (ob_load Agg27 (fun _ _ hS => (hS.at_ 2 rfl).cell rfl)) <| obs_cons (ob_load Agg3 (fun _ _ hS => (hS.at_ 2 rfl).cell rfl)) <| obs_cons (ob_call Try.func137 (by kernel_rfl) rfl (fun hy _ hS => board_Checked_w (ite_some hr2 (by rw [show ((r1.length : Int) == 0) = true from hy (((r1.length : Int) == 0), true) (by simp)]; try rfl)) hS (fun _ hS => (hr_p1 _ (hS.dropN 3))) _hc_p1 rfl)) <| obs_nil
  refine ce (t := 24) (b := ((r1.length : Int) == 0) && r2) hF (fun hb => ?_) (fun hb => ?_)
  ·replace hm := if_t hm hb
   refine seqR ?_
   refine ar 4 [] [] [10, 11, 37] [pl 10 (vi (w64 (ply1 - 1000))), pl 11 (pa g2 0), pl 37 (.agg #[vi 0, vi 0, vi 0])] hF hS obs_nil (fun a w hF hS => ?_)
   obtain ⟨w, hrun, hS⟩ := run_putA (P := Try.prog) (t := 88) (us := #[vi 0, vi 0, vi 0]) (o := 0) (hS.at_ 1 rfl) (by kernel_rfl) (all_one (by kernel_rfl)) (Nat.le_of_ble_eq_true (by kernel_rfl))
   refine at_s hF hrun ?_
   have hS : Sep w0 B w (ownK 88 3 A2 r1.length c2 (List.flatMap enc88 r1) :: blk g2 88 #[vi 0, vi 0, vi 0] :: blk g1 75 (ca A1 p1.length c1 p2 p3 p4 p5 p6) :: fs) := hS
   refine ae [10, 11] [pl 10 (vi (w64 (ply1 - 1000))), pl 11 (pa g2 0)] hF rfl (fun hF => ?_)
   refine then_n (wpIn_ret ?_)
   refine block_r (then_r ?_)
   have hld1 := run_loadVarA (P := Try.prog) (t := 88) (cs := #[vi 0, vi 0, vi 0]) (by kernel_rfl) (by kernel_rfl) ((hS.at_ 1 rfl).cellsAt 0 (by rfl))
   have hS := hS.pickN 3 [] (by decide)
   have hm : some ((w64 (ply1 - 1000)), 0, 0, 0) = some r := hm
   obtain rfl := Option.some.inj hm
   exact retV (rs := [.tmp 10, .cell 11 88]) (vs := [vi (w64 (ply1 - 1000)), .agg #[vi 0, vi 0, vi 0]]) hF rfl (rv_t (by kernel_rfl) <| rv_c (by kernel_rfl) hld1 <| rv_nil) rfl ⟨rfl, hS⟩
  ·replace hm := if_f hm hb
   refine rg [] [] [1, 2, 3, 4, 5, 11, 12, 38] [pl 1 (vi ply1), pl 2 (vi deep1), pl 3 (vi low1), pl 4 (vi high1), pl 5 (pa g1 0), pl 11 (pa g2 0), pl 12 (.slice A2 r1.length c2), pl 38 (.bool ((r1.length : Int) == 0))] hF hS obs_nil (fun a w hF hS => ?_)
   refine ce (t := 38) (b := ((r1.length : Int) == 0)) hF (fun hb => ?_) (fun hb => ?_)
   ·replace hm := if_t hm hb
    refine seqR ?_
    refine ar 2 [] [] [10, 11, 42] [pl 10 (vi 0), pl 11 (pa g2 0), pl 42 (.agg #[vi 0, vi 0, vi 0])] hF hS obs_nil (fun a w hF hS => ?_)
    obtain ⟨w, hrun, hS⟩ := run_putA (P := Try.prog) (t := 88) (us := #[vi 0, vi 0, vi 0]) (o := 0) (hS.at_ 1 rfl) (by kernel_rfl) (all_one (by kernel_rfl)) (Nat.le_of_ble_eq_true (by kernel_rfl))
    refine at_s hF hrun ?_
    have hS : Sep w0 B w (ownK 88 3 A2 r1.length c2 (List.flatMap enc88 r1) :: blk g2 88 #[vi 0, vi 0, vi 0] :: blk g1 75 (ca A1 p1.length c1 p2 p3 p4 p5 p6) :: fs) := hS
    refine ae [10, 11] [pl 10 (vi 0), pl 11 (pa g2 0)] hF rfl (fun hF => ?_)
    refine then_n (wpIn_ret ?_)
    refine block_r (then_r ?_)
    have hld1 := run_loadVarA (P := Try.prog) (t := 88) (cs := #[vi 0, vi 0, vi 0]) (by kernel_rfl) (by kernel_rfl) ((hS.at_ 1 rfl).cellsAt 0 (by rfl))
    have hS := hS.pickN 3 [] (by decide)
    have hm : some (0, 0, 0, 0) = some r := hm
    obtain rfl := Option.some.inj hm
    exact retV (rs := [.tmp 10, .cell 11 88]) (vs := [vi 0, .agg #[vi 0, vi 0, vi 0]]) hF rfl (rv_t (by kernel_rfl) <| rv_c (by kernel_rfl) hld1 <| rv_nil) rfl ⟨rfl, hS⟩
   ·replace hm := if_f hm hb
    refine rg [] [] [1, 2, 3, 4, 5, 11, 12, 43] [pl 1 (vi ply1), pl 2 (vi deep1), pl 3 (vi low1), pl 4 (vi high1), pl 5 (pa g1 0), pl 11 (pa g2 0), pl 12 (.slice A2 r1.length c2), pl 43 (.bool (ply1 == deep1))] hF hS obs_nil (fun a w hF hS => ?_)
    refine ce (t := 43) (b := (ply1 == deep1)) hF (fun hb => ?_) (fun hb => ?_)
    ·replace hm := if_t hm hb
     obtain ⟨r3, hr3, hm⟩ := call_b hm
     refine rg [⟨false, [], vS (Instr.loadAt 75 (pa g1 0)), .agg (ca A1 p1.length c1 p2 p3 p4 p5 p6)⟩, ⟨false, [], callFunc 136 #[.agg (ca A1 p1.length c1 p2 p3 p4 p5 p6)], .tuple #[vi r3.1, .bool r3.2.1, vi r3.2.2]⟩] [some (.agg (ca A1 p1.length c1 p2 p3 p4 p5 p6)), some (.tuple #[vi r3.1, .bool r3.2.1, vi r3.2.2]), none, none, none, none, none, none, none] [5, 11, 13] [pl 5 (pa g1 0), pl 11 (pa g2 0), pl 13 (vi r3.1)] hF hS ?_ (fun a w hF hS => ?_)
     ·exact obs_cons (oA (cs := (ca A1 p1.length c1 p2 p3 p4 p5 p6)) (fun _ _ hS => (hS.at_ 2 rfl).cellsAt 0 (by rfl))) <| obs_cons (ob_call Try.func136 (by kernel_rfl) rfl (fun _ _ hS => chess_Material_w hr3 hS (fun _ hS => (hr_p1 _ (hS.dropN 3))) _hc_p1 rfl)) <| obs_nil
     refine seqR ?_
     obtain ⟨r4, hr4, hm⟩ := call_b hm
     refine ar 7 [⟨false, [], vS (Instr.loadAt 3 (pa g1 1)), vi p2⟩, ⟨false, [], callFunc 216 #[vi p2], vi r4⟩] [none, none, some (vi p2), some (vi r4), none, none, none] [10, 11, 58] [pl 10 (vi (w64 (r3.1 * r4))), pl 11 (pa g2 0), pl 58 (.agg #[vi 0, vi 0, vi 0])] hF hS ?_ (fun a w hF hS => ?_)
     ·exact obs_cons (ob_load Agg3 (fun _ _ hS => (hS.at_ 2 rfl).cell rfl)) <| obs_cons (ob_call Try.func216 (by kernel_rfl) rfl (fun _ _ hS => board_Forward_w hr4 hS )) <| obs_nil
     obtain ⟨w, hrun, hS⟩ := run_putA (P := Try.prog) (t := 88) (us := #[vi 0, vi 0, vi 0]) (o := 0) (hS.at_ 1 rfl) (by kernel_rfl) (all_one (by kernel_rfl)) (Nat.le_of_ble_eq_true (by kernel_rfl))
     refine at_s hF hrun ?_
     have hS : Sep w0 B w (ownK 88 3 A2 r1.length c2 (List.flatMap enc88 r1) :: blk g2 88 #[vi 0, vi 0, vi 0] :: blk g1 75 (ca A1 p1.length c1 p2 p3 p4 p5 p6) :: fs) := hS
     refine ae [10, 11] [pl 10 (vi (w64 (r3.1 * r4))), pl 11 (pa g2 0)] hF rfl (fun hF => ?_)
     refine then_n (wpIn_ret ?_)
     refine block_r (then_r ?_)
     have hld1 := run_loadVarA (P := Try.prog) (t := 88) (cs := #[vi 0, vi 0, vi 0]) (by kernel_rfl) (by kernel_rfl) ((hS.at_ 1 rfl).cellsAt 0 (by rfl))
     have hS := hS.pickN 3 [] (by decide)
     have hm : some ((w64 (r3.1 * r4)), 0, 0, 0) = some r := hm
     obtain rfl := Option.some.inj hm
     exact retV (rs := [.tmp 10, .cell 11 88]) (vs := [vi (w64 (r3.1 * r4)), .agg #[vi 0, vi 0, vi 0]]) hF rfl (rv_t (by kernel_rfl) <| rv_c (by kernel_rfl) hld1 <| rv_nil) rfl ⟨rfl, hS⟩
    ·replace hm := if_f hm hb
     refine wpIn_skip ?_
     refine block_n ?_
     refine then_n ?_
     have hS := hS.pickN 3 [2, 1, 0] (by decide)
     exact ⟨hF.wk [1, 2, 3, 4, 5, 11, 12], hS, hm⟩

theorem problems_seek_w {A1 : Option Addr} {c1 n1 : Nat} {p1 : List Int} {p2 p3 : Int} {p4 p5 : Int} {p6 ply1 : Int} {deep1 low1 high1 : Int} {r : (Int × Int × Int × Int)} {w0 w : World} {B : Nat} {fs : List HP} (hm : problems_seek_m p1 p2 p3 p4 p5 p6 ply1 deep1 low1 high1 = some r) (hS : Sep w0 B w (fs)) (hr_p1 : RdF w0 B fs A1 (vI p1)) (_hc_p1 : p1.length ≤ c1) (_hn_p1 : n1 = p1.length) :
  Calls Try.prog 149 #[.agg (ca A1 n1 c1 p2 p3 p4 p5 p6), vi ply1, vi deep1, vi low1, vi high1] w fun e w' => e = .returned (.tuple #[vi r.1, .agg #[vi r.2.1, vi r.2.2.1, vi r.2.2.2]]) ∧ Sep w0 B w' (fs) := by
 have key : ∀ (n : Nat) {A1 : Option Addr} {c1 n1 : Nat} {p1 : List Int} {p2 p3 : Int} {p4 p5 : Int} {p6 ply1 : Int} {deep1 low1 high1 : Int} {r : (Int × Int × Int × Int)} {w0 w : World} {B : Nat} {fs : List HP} (_ : problems_seek_mF n p1 p2 p3 p4 p5 p6 ply1 deep1 low1 high1 = some r) (_ : Sep w0 B w (fs)) (hr_p1 : RdF w0 B fs A1 (vI p1)) (_hc_p1 : p1.length ≤ c1) (_hn_p1 : n1 = p1.length), Calls Try.prog 149 #[.agg (ca A1 n1 c1 p2 p3 p4 p5 p6), vi ply1, vi deep1, vi low1, vi high1] w fun e w' => e = .returned (.tuple #[vi r.1, .agg #[vi r.2.1, vi r.2.2.1, vi r.2.2.2]]) ∧ Sep w0 B w' (fs) := by
  intro n
  induction n with
  | zero => intros; rename_i hm0 _ _ _ _; cases hm0
  | succ n ih => intros; rename_i hm0 hS0 h0 h1 h2; exact problems_seek_wB (rec_problems_seek := problems_seek_mF n) (fun hm hS h0 h1 h2 => ih hm hS h0 h1 h2) hm0 hS0 h0 h1 h2
 obtain ⟨n, hn⟩ := recM_some hm
 exact key n hn hS hr_p1 _hc_p1 _hn_p1

set_option maxRecDepth 100000 in
theorem problems_seek_J3_le_problems_seek {rec_problems_seek1 rec_problems_seek2 : List Int → Int → Int → Int → Int → Int → Int → Int → Int → Int → Option (Int × Int × Int × Int)} (h_rec_problems_seek : ∀ a0 a1 a2 a3 a4 a5 a6 a7 a8 a9, Le (rec_problems_seek1 a0 a1 a2 a3 a4 a5 a6 a7 a8 a9) (rec_problems_seek2 a0 a1 a2 a3 a4 a5 a6 a7 a8 a9)) (p1 : List Int) (p2 p3 : Int) (p4 p5 : Int) (p6 ply1 : Int) (deep1 low1 high1 : Int) (r1 : (List MvT)) (best1 who1 : Int) (who2 who3 z1 : Int) : Le (problems_seek_J3 rec_problems_seek1 p1 p2 p3 p4 p5 p6 ply1 deep1 low1 high1 r1 best1 who1 who2 who3 z1) (problems_seek_J3 rec_problems_seek2 p1 p2 p3 p4 p5 p6 ply1 deep1 low1 high1 r1 best1 who1 who2 who3 z1) := by
 unfold problems_seek_J3
 repeat' (first | with_reducible exact Le.refl _ | with_reducible exact h_rec_problems_seek _ _ _ _ _ _ _ _ _ _ | with_reducible refine Le.asrt ?_ | with_reducible refine Le.ite ?_ ?_ | refine Le.bind ?_ (fun _ => ?_) | refine Le.loop2 (fun _ => ?_) | refine Le.elim2 (fun _ => ?_) (fun _ => ?_))

set_option maxRecDepth 100000 in
theorem problems_seek_L1_le_problems_seek {rec_problems_seek1 rec_problems_seek2 : List Int → Int → Int → Int → Int → Int → Int → Int → Int → Int → Option (Int × Int × Int × Int)} (h_rec_problems_seek : ∀ a0 a1 a2 a3 a4 a5 a6 a7 a8 a9, Le (rec_problems_seek1 a0 a1 a2 a3 a4 a5 a6 a7 a8 a9) (rec_problems_seek2 a0 a1 a2 a3 a4 a5 a6 a7 a8 a9)) (p1 : List Int) (p2 p3 : Int) (p4 p5 : Int) (p6 ply1 : Int) (deep1 low1 high1 : Int) (r1 : (List MvT)) (x : (Int × Int × Int × Int × Int)) : Le (problems_seek_L1 rec_problems_seek1 p1 p2 p3 p4 p5 p6 ply1 deep1 low1 high1 r1 x) (problems_seek_L1 rec_problems_seek2 p1 p2 p3 p4 p5 p6 ply1 deep1 low1 high1 r1 x) := by
 rcases x with ⟨best1, who1, who2, who3, z1⟩
 all_goals
  unfold problems_seek_L1
  try dsimp only
  repeat' (first | with_reducible exact Le.refl _ | with_reducible exact h_rec_problems_seek _ _ _ _ _ _ _ _ _ _ | with_reducible exact problems_seek_J3_le_problems_seek h_rec_problems_seek _ _ _ _ _ _ _ _ _ _ _ _ _ _ _ _ | with_reducible refine Le.asrt ?_ | with_reducible refine Le.ite ?_ ?_ | refine Le.bind ?_ (fun _ => ?_) | refine Le.loop2 (fun _ => ?_) | refine Le.elim2 (fun _ => ?_) (fun _ => ?_))

set_option maxRecDepth 100000 in
theorem problems_seek_J1_le_problems_seek {rec_problems_seek1 rec_problems_seek2 : List Int → Int → Int → Int → Int → Int → Int → Int → Int → Int → Option (Int × Int × Int × Int)} (h_rec_problems_seek : ∀ a0 a1 a2 a3 a4 a5 a6 a7 a8 a9, Le (rec_problems_seek1 a0 a1 a2 a3 a4 a5 a6 a7 a8 a9) (rec_problems_seek2 a0 a1 a2 a3 a4 a5 a6 a7 a8 a9)) (p1 : List Int) (p2 p3 : Int) (p4 p5 : Int) (p6 ply1 : Int) (deep1 low1 high1 : Int) (r1 : (List MvT)) : Le (problems_seek_J1 rec_problems_seek1 p1 p2 p3 p4 p5 p6 ply1 deep1 low1 high1 r1) (problems_seek_J1 rec_problems_seek2 p1 p2 p3 p4 p5 p6 ply1 deep1 low1 high1 r1) := by
 unfold problems_seek_J1
 repeat' (first | with_reducible exact Le.refl _ | with_reducible exact h_rec_problems_seek _ _ _ _ _ _ _ _ _ _ | with_reducible exact problems_seek_L1_le_problems_seek h_rec_problems_seek _ _ _ _ _ _ _ _ _ _ _ _ | with_reducible refine Le.asrt ?_ | with_reducible refine Le.ite ?_ ?_ | refine Le.bind ?_ (fun _ => ?_) | refine Le.loop2 (fun _ => ?_) | refine Le.elim2 (fun _ => ?_) (fun _ => ?_))

set_option maxRecDepth 100000 in
theorem problems_seek_B_le {rec_problems_seek1 rec_problems_seek2 : List Int → Int → Int → Int → Int → Int → Int → Int → Int → Int → Option (Int × Int × Int × Int)} (h_rec_problems_seek : ∀ a0 a1 a2 a3 a4 a5 a6 a7 a8 a9, Le (rec_problems_seek1 a0 a1 a2 a3 a4 a5 a6 a7 a8 a9) (rec_problems_seek2 a0 a1 a2 a3 a4 a5 a6 a7 a8 a9)) (p1 : List Int) (p2 p3 : Int) (p4 p5 : Int) (p6 ply1 : Int) (deep1 low1 high1 : Int) : Le (problems_seek_B rec_problems_seek1 p1 p2 p3 p4 p5 p6 ply1 deep1 low1 high1) (problems_seek_B rec_problems_seek2 p1 p2 p3 p4 p5 p6 ply1 deep1 low1 high1) := by
 unfold problems_seek_B
 repeat' (first | with_reducible exact Le.refl _ | with_reducible exact h_rec_problems_seek _ _ _ _ _ _ _ _ _ _ | with_reducible exact problems_seek_J1_le_problems_seek h_rec_problems_seek _ _ _ _ _ _ _ _ _ _ _ | with_reducible refine Le.asrt ?_ | with_reducible refine Le.ite ?_ ?_ | refine Le.bind ?_ (fun _ => ?_) | refine Le.loop2 (fun _ => ?_) | refine Le.elim2 (fun _ => ?_) (fun _ => ?_))

set_option maxRecDepth 100000 in
theorem problems_seek_mF_le : ∀ (n : Nat) (p1 : List Int) (p2 p3 : Int) (p4 p5 : Int) (p6 ply1 : Int) (deep1 low1 high1 : Int), Le (problems_seek_mF n p1 p2 p3 p4 p5 p6 ply1 deep1 low1 high1) (problems_seek_mF (n + 1) p1 p2 p3 p4 p5 p6 ply1 deep1 low1 high1)
 | 0, _, _, _, _, _, _, _, _, _, _ => fun _ h => by cases h
 | n + 1, _, _, _, _, _, _, _, _, _, _ => problems_seek_B_le (fun a0 a1 a2 a3 a4 a5 a6 a7 a8 a9 => problems_seek_mF_le n a0 a1 a2 a3 a4 a5 a6 a7 a8 a9) _ _ _ _ _ _ _ _ _ _

set_option maxRecDepth 100000 in
theorem problems_seek_m_of (N : Nat) (p1 : List Int) (p2 p3 : Int) (p4 p5 : Int) (p6 ply1 : Int) (deep1 low1 high1 : Int) {r : (Int × Int × Int × Int)} (h : problems_seek_mF N p1 p2 p3 p4 p5 p6 ply1 deep1 low1 high1 = some r) : problems_seek_m p1 p2 p3 p4 p5 p6 ply1 deep1 low1 high1 = some r :=
 recM_mono (fun n => problems_seek_mF_le n _ _ _ _ _ _ _ _ _ _) h

def problems_Best_J1  (p1 : List Int) (p2 p3 : Int) (p4 p5 : Int) (p6 deep1 : Int) : Option (Int × Int × Int × Int × Int) :=
 (problems_seek_m p1 p2 p3 p4 p5 p6 0 deep1 (-10000) 10000).bind fun r2 => some (r2.1, r2.2.1, r2.2.2.1, r2.2.2.2, 0)

def problems_Best_m  (p1 : List Int) (p2 p3 : Int) (p4 p5 : Int) (p6 deep1 : Int) : Option (Int × Int × Int × Int × Int) :=
 (board_May_m p1 p2 p3 p4 p5 p6).bind fun r1 => if (!r1) then (some (0, 0, 0, 0, 12)) else (if ((decide (deep1 < 0)) || (decide ((2 : Int) < deep1))) then (some (0, 0, 0, 0, 3)) else ((problems_Best_J1 p1 p2 p3 p4 p5 p6 deep1)))

theorem problems_Best_w {A1 : Option Addr} {c1 n1 : Nat} {p1 : List Int} {p2 p3 : Int} {p4 p5 : Int} {p6 deep1 : Int} {r : (Int × Int × Int × Int × Int)} {w0 w : World} {B : Nat} {fs : List HP} (hm : problems_Best_m p1 p2 p3 p4 p5 p6 deep1 = some r) (hS : Sep w0 B w (fs)) (hr_p1 : RdF w0 B fs A1 (vI p1)) (_hc_p1 : p1.length ≤ c1) (_hn_p1 : n1 = p1.length) :
  Calls Try.prog 68 #[.agg (ca A1 n1 c1 p2 p3 p4 p5 p6), vi deep1] w fun e w' => e = .returned (.tuple #[vi r.1, .agg #[vi r.2.1, vi r.2.2.1, vi r.2.2.2.1], vi r.2.2.2.2]) ∧ Sep w0 B w' (fs) := by
 obtain ⟨i3, hi3, hz3, hs3, hb3⟩ := info_parts Info3
 obtain rfl := _hn_p1
 unfold problems_Best_m at hm
 replace hm := start_b hm
 refine enter (l := [.agg (ca A1 p1.length c1 p2 p3 p4 p5 p6), vi deep1]) (n := 30) Try.func68 rfl rfl (by simp) (fun a hF => ?_)
 refine seqR ?_
 refine at_do (d := 2) (s := vS (Instr.box 75 (.agg (ca A1 p1.length c1 p2 p3 p4 p5 p6)))) (v := pa w.heap.size 0) (w' := w.alloc (.cells (ca A1 p1.length c1 p2 p3 p4 p5 p6) 75)) hF (by kernel_rfl) (by kernel_rfl) (by kernel_rfl) (fun a hF => ?_)
 have hS : Sep w0 B (w.alloc (.cells (ca A1 p1.length c1 p2 p3 p4 p5 p6) 75)) (blk w.heap.size 75 (ca A1 p1.length c1 p2 p3 p4 p5 p6) :: (fs)) := hS.box 75 (ca A1 p1.length c1 p2 p3 p4 p5 p6)
 generalize w.heap.size = g1 at hF hS
 generalize w.alloc (.cells (ca A1 p1.length c1 p2 p3 p4 p5 p6) 75) = w at hS ⊢
 refine ar 1 [] [] [1, 2] [pl 1 (vi deep1), pl 2 (pa g1 0)] hF hS obs_nil (fun a w hF hS => ?_)
 refine at_do (d := 5) (s := vS (Instr.alloc 88 true (.tuple #[]))) (v := pa w.heap.size 0) (w' := w.alloc (.cells #[vi 0, vi 0, vi 0] 88)) hF (by kernel_rfl) (by kernel_rfl) (by kernel_rfl) (fun a hF => ?_)
 have hS : Sep w0 B (w.alloc (.cells #[vi 0, vi 0, vi 0] 88)) (blk w.heap.size 88 #[vi 0, vi 0, vi 0] :: (blk g1 75 (ca A1 p1.length c1 p2 p3 p4 p5 p6) :: fs)) := hS.box 88 #[vi 0, vi 0, vi 0]
 generalize w.heap.size = g2 at hF hS
 generalize w.alloc (.cells #[vi 0, vi 0, vi 0] 88) = w at hS ⊢
 refine ar 1 [] [] [1, 2, 5] [pl 1 (vi deep1), pl 2 (pa g1 0), pl 5 (pa g2 0)] hF hS obs_nil (fun a w hF hS => ?_)
 refine ae [1, 2, 5] [pl 1 (vi deep1), pl 2 (pa g1 0), pl 5 (pa g2 0)] hF rfl (fun hF => ?_)
 refine then_n ?_
 refine seq_cut (fun a w => Fr 30 [pl 1 (vi deep1), pl 2 (pa g1 0), pl 5 (pa g2 0)] a ∧ Sep w0 B w (blk g1 75 (ca A1 p1.length c1 p2 p3 p4 p5 p6) :: blk g2 88 #[vi 0, vi 0, vi 0] :: fs) ∧ ((problems_Best_J1 p1 p2 p3 p4 p5 p6 deep1)).bind some = some r) ?_ ?_
 ·rintro a w ⟨hF, hS, hm⟩
  unfold problems_Best_J1 at hm
  refine seqR ?_
  obtain ⟨r2, hr2, hm⟩ := call_b hm
  refine ar 6 [⟨false, [], vS (Instr.loadAt 75 (pa g1 0)), .agg (ca A1 p1.length c1 p2 p3 p4 p5 p6)⟩, ⟨false, [], callFunc 149 #[.agg (ca A1 p1.length c1 p2 p3 p4 p5 p6), vi 0, vi deep1, vi (-10000), vi 10000], .tuple #[vi r2.1, .agg #[vi r2.2.1, vi r2.2.2.1, vi r2.2.2.2]]⟩] [some (.agg (ca A1 p1.length c1 p2 p3 p4 p5 p6)), none, some (.tuple #[vi r2.1, .agg #[vi r2.2.1, vi r2.2.2.1, vi r2.2.2.2]]), none, none, none] [5, 26, 27] [pl 5 (pa g2 0), pl 26 (vi r2.1), pl 27 (.agg #[vi r2.2.1, vi r2.2.2.1, vi r2.2.2.2])] hF hS ?_ (fun a w hF hS => ?_)
  ·exact obs_cons (oA (cs := (ca A1 p1.length c1 p2 p3 p4 p5 p6)) (fun _ _ hS => (hS.at_ 0 rfl).cellsAt 0 (by rfl))) <| obs_cons (ob_call Try.func149 (by kernel_rfl) rfl (fun _ _ hS => problems_seek_w hr2 hS (fun _ hS => (hr_p1 _ (hS.dropN 2))) _hc_p1 rfl)) <| obs_nil
  refine at_do (d := 8) (s := vS (Instr.alloc 88 true (.tuple #[]))) (v := pa w.heap.size 0) (w' := w.alloc (.cells #[vi 0, vi 0, vi 0] 88)) hF (by kernel_rfl) (by kernel_rfl) (by kernel_rfl) (fun a hF => ?_)
  have hS : Sep w0 B (w.alloc (.cells #[vi 0, vi 0, vi 0] 88)) (blk w.heap.size 88 #[vi 0, vi 0, vi 0] :: (blk g1 75 (ca A1 p1.length c1 p2 p3 p4 p5 p6) :: blk g2 88 #[vi 0, vi 0, vi 0] :: fs)) := hS.box 88 #[vi 0, vi 0, vi 0]
  generalize w.heap.size = g3 at hF hS
  generalize w.alloc (.cells #[vi 0, vi 0, vi 0] 88) = w at hS ⊢
  refine ar 1 [] [] [5, 7, 8, 27] [pl 5 (pa g2 0), pl 7 (vi r2.1), pl 8 (pa g3 0), pl 27 (.agg #[vi r2.2.1, vi r2.2.2.1, vi r2.2.2.2])] hF hS obs_nil (fun a w hF hS => ?_)
  obtain ⟨w, hrun, hS⟩ := run_putA (P := Try.prog) (t := 88) (us := #[vi r2.2.1, vi r2.2.2.1, vi r2.2.2.2]) (o := 0) (hS.at_ 0 rfl) (by kernel_rfl) (all_one (by kernel_rfl)) (Nat.le_of_ble_eq_true (by kernel_rfl))
  refine at_s hF hrun ?_
  have hS : Sep w0 B w (blk g3 88 #[vi r2.2.1, vi r2.2.2.1, vi r2.2.2.2] :: blk g1 75 (ca A1 p1.length c1 p2 p3 p4 p5 p6) :: blk g2 88 #[vi 0, vi 0, vi 0] :: fs) := hS
  refine ae [5, 7, 8] [pl 5 (pa g2 0), pl 7 (vi r2.1), pl 8 (pa g3 0)] hF rfl (fun hF => ?_)
  refine then_n ?_
  refine wpIn_seq ?_
  refine regMix4 [0, 1, 2] [3, 4] [⟨false, [], vS (Instr.loadAt 88 (pa g3 0)), .agg #[vi r2.2.1, vi r2.2.2.1, vi r2.2.2.2]⟩] [none, some (.agg #[vi r2.2.1, vi r2.2.2.1, vi r2.2.2.2]), none] [4, 5, 29] [pl 4 (vi r2.1), pl 5 (pa g2 0), pl 29 (.agg #[vi r2.2.1, vi r2.2.2.1, vi r2.2.2.2])] hF hS Fol (by kernel_rfl) (by kernel_rfl) (by kernel_rfl) (by kernel_rfl) (by kernel_rfl) ?_ (fun a w hF hS => ?_)
  ·exact obs_cons (oA (cs := #[vi r2.2.1, vi r2.2.2.1, vi r2.2.2.2]) (fun _ _ hS => (hS.at_ 0 rfl).cellsAt 0 (by rfl))) <| obs_nil
  obtain ⟨w, hrun, hS⟩ := run_putA (P := Try.prog) (t := 88) (us := #[vi r2.2.1, vi r2.2.2.1, vi r2.2.2.2]) (o := 0) (hS.at_ 2 rfl) (by kernel_rfl) (all_one (by kernel_rfl)) (Nat.le_of_ble_eq_true (by kernel_rfl))
  refine at_s hF hrun ?_
  have hS : Sep w0 B w (blk g3 88 #[vi r2.2.1, vi r2.2.2.1, vi r2.2.2.2] :: blk g1 75 (ca A1 p1.length c1 p2 p3 p4 p5 p6) :: blk g2 88 #[vi r2.2.1, vi r2.2.2.1, vi r2.2.2.2] :: fs) := hS
  refine ar 1 [] [] [4, 5, 6] [pl 4 (vi r2.1), pl 5 (pa g2 0), pl 6 (vi 0)] hF hS obs_nil (fun a w hF hS => ?_)
  refine ae [4, 5, 6] [pl 4 (vi r2.1), pl 5 (pa g2 0), pl 6 (vi 0)] hF rfl (fun hF => ?_)
  refine np_n ?_
  refine then_n (wpIn_ret ?_)
  have hld1 := run_loadVarA (P := Try.prog) (t := 88) (cs := #[vi r2.2.1, vi r2.2.2.1, vi r2.2.2.2]) (by kernel_rfl) (by kernel_rfl) ((hS.at_ 2 rfl).cellsAt 0 (by rfl))
  have hS := hS.pickN 3 [] (by decide)
  have hm : some (r2.1, r2.2.1, r2.2.2.1, r2.2.2.2, 0) = some r := hm
  obtain rfl := Option.some.inj hm
  exact retV (rs := [.tmp 4, .cell 5 88, .tmp 6]) (vs := [vi r2.1, .agg #[vi r2.2.1, vi r2.2.2.1, vi r2.2.2.2], vi 0]) hF rfl (rv_t (by kernel_rfl) <| rv_c (by kernel_rfl) hld1 <| rv_t (by kernel_rfl) <| rv_nil) rfl ⟨rfl, hS⟩
 ·refine wpIn_block ?_
  obtain ⟨r1, hr1, hm⟩ := call_b hm
  refine rg [⟨false, [], vS (Instr.loadAt 75 (pa g1 0)), .agg (ca A1 p1.length c1 p2 p3 p4 p5 p6)⟩, ⟨false, [], callFunc 127 #[.agg (ca A1 p1.length c1 p2 p3 p4 p5 p6)], .bool r1⟩] [some (.agg (ca A1 p1.length c1 p2 p3 p4 p5 p6)), some (.bool r1), none, none] [1, 2, 5, 9] [pl 1 (vi deep1), pl 2 (pa g1 0), pl 5 (pa g2 0), pl 9 (.bool (!r1))] hF hS ?_ (fun a w hF hS => ?_)
  ·exact obs_cons (oA (cs := (ca A1 p1.length c1 p2 p3 p4 p5 p6)) (fun _ _ hS => (hS.at_ 1 rfl).cellsAt 0 (by rfl))) <| obs_cons (ob_call Try.func127 (by kernel_rfl) rfl (fun _ _ hS => board_May_w hr1 hS (fun _ hS => (hr_p1 _ (hS.dropN 2))) _hc_p1 rfl)) <| obs_nil
  refine ce (t := 9) (b := !r1) hF (fun hb => ?_) (fun hb => ?_)
  ·replace hm := if_t hm hb
   refine seqR ?_
   refine ar 2 [] [] [4, 5, 13] [pl 4 (vi 0), pl 5 (pa g2 0), pl 13 (.agg #[vi 0, vi 0, vi 0])] hF hS obs_nil (fun a w hF hS => ?_)
   obtain ⟨w, hrun, hS⟩ := run_putA (P := Try.prog) (t := 88) (us := #[vi 0, vi 0, vi 0]) (o := 0) (hS.at_ 0 rfl) (by kernel_rfl) (all_one (by kernel_rfl)) (Nat.le_of_ble_eq_true (by kernel_rfl))
   refine at_s hF hrun ?_
   have hS : Sep w0 B w (blk g2 88 #[vi 0, vi 0, vi 0] :: blk g1 75 (ca A1 p1.length c1 p2 p3 p4 p5 p6) :: fs) := hS
   refine ar 1 [] [] [4, 5, 6] [pl 4 (vi 0), pl 5 (pa g2 0), pl 6 (vi 12)] hF hS obs_nil (fun a w hF hS => ?_)
   refine ae [4, 5, 6] [pl 4 (vi 0), pl 5 (pa g2 0), pl 6 (vi 12)] hF rfl (fun hF => ?_)
   refine then_n (wpIn_ret ?_)
   refine block_r (then_r ?_)
   have hld1 := run_loadVarA (P := Try.prog) (t := 88) (cs := #[vi 0, vi 0, vi 0]) (by kernel_rfl) (by kernel_rfl) ((hS.at_ 0 rfl).cellsAt 0 (by rfl))
   have hS := hS.pickN 2 [] (by decide)
   have hm : some (0, 0, 0, 0, 12) = some r := hm
   obtain rfl := Option.some.inj hm
   exact retV (rs := [.tmp 4, .cell 5 88, .tmp 6]) (vs := [vi 0, .agg #[vi 0, vi 0, vi 0], vi 12]) hF rfl (rv_t (by kernel_rfl) <| rv_c (by kernel_rfl) hld1 <| rv_t (by kernel_rfl) <| rv_nil) rfl ⟨rfl, hS⟩
  ·replace hm := if_f hm hb
   refine rg [] [] [1, 2, 5, 14] [pl 1 (vi deep1), pl 2 (pa g1 0), pl 5 (pa g2 0), pl 14 (.bool ((decide (deep1 < 0)) || (decide ((2 : Int) < deep1))))] hF hS obs_nil (fun a w hF hS => ?_)
   refine ce (t := 14) (b := (decide (deep1 < 0)) || (decide ((2 : Int) < deep1))) hF (fun hb => ?_) (fun hb => ?_)
   ·replace hm := if_t hm hb
    refine seqR ?_
    refine ar 2 [] [] [4, 5, 21] [pl 4 (vi 0), pl 5 (pa g2 0), pl 21 (.agg #[vi 0, vi 0, vi 0])] hF hS obs_nil (fun a w hF hS => ?_)
    obtain ⟨w, hrun, hS⟩ := run_putA (P := Try.prog) (t := 88) (us := #[vi 0, vi 0, vi 0]) (o := 0) (hS.at_ 0 rfl) (by kernel_rfl) (all_one (by kernel_rfl)) (Nat.le_of_ble_eq_true (by kernel_rfl))
    refine at_s hF hrun ?_
    have hS : Sep w0 B w (blk g2 88 #[vi 0, vi 0, vi 0] :: blk g1 75 (ca A1 p1.length c1 p2 p3 p4 p5 p6) :: fs) := hS
    refine ar 1 [] [] [4, 5, 6] [pl 4 (vi 0), pl 5 (pa g2 0), pl 6 (vi 3)] hF hS obs_nil (fun a w hF hS => ?_)
    refine ae [4, 5, 6] [pl 4 (vi 0), pl 5 (pa g2 0), pl 6 (vi 3)] hF rfl (fun hF => ?_)
    refine then_n (wpIn_ret ?_)
    refine block_r (then_r ?_)
    have hld1 := run_loadVarA (P := Try.prog) (t := 88) (cs := #[vi 0, vi 0, vi 0]) (by kernel_rfl) (by kernel_rfl) ((hS.at_ 0 rfl).cellsAt 0 (by rfl))
    have hS := hS.pickN 2 [] (by decide)
    have hm : some (0, 0, 0, 0, 3) = some r := hm
    obtain rfl := Option.some.inj hm
    exact retV (rs := [.tmp 4, .cell 5 88, .tmp 6]) (vs := [vi 0, .agg #[vi 0, vi 0, vi 0], vi 3]) hF rfl (rv_t (by kernel_rfl) <| rv_c (by kernel_rfl) hld1 <| rv_t (by kernel_rfl) <| rv_nil) rfl ⟨rfl, hS⟩
   ·replace hm := if_f hm hb
    refine wpIn_skip ?_
    refine block_n ?_
    refine then_n ?_
    have hS := hS.pickN 2 [1, 0] (by decide)
    exact ⟨hF.wk [1, 2, 5], hS, hm⟩

def rf_MaterialOf_J3  (i1 sum3 : Int) (minor3 knights3 : Int) (light3 dark3 : Int) (dead3 : Bool) : Option (St (Int × Int × Int × Int × Int × Bool × Int) (Int × Int × Int × Int × Int × Bool)) :=
 some (.next (sum3, minor3, knights3, light3, dark3, dead3, (w64 (i1 + 1))))

def rf_MaterialOf_J4  (sum1 minor1 : Int) (knights1 light1 dark1 : Int) (dead1 : Bool) (i1 r1 : Int) (r2 r3 : Int) (z1 : Bool) : Option (St (Int × Int × Int × Int × Int × Bool × Int) (Int × Int × Int × Int × Int × Bool)) :=
 if z1 then ((rf_MaterialOf_J3 i1) (w64 (sum1 + (w64 (r1 * (geti ([0, 1, 3, 3, 5, 9, 0] : List Int) r2))))) minor1 knights1 light1 dark1 false) else (if (r3 == 2) then ((rf_MaterialOf_J3 i1) (w64 (sum1 + (w64 (r1 * (geti ([0, 1, 3, 3, 5, 9, 0] : List Int) r2))))) (w64 (minor1 + 1)) (w64 (knights1 + 1)) light1 dark1 dead1) else (if (r3 == 3) then (if ((Int.tmod (w64 ((Int.tmod i1 8) + (w64 (Int.tdiv i1 8)))) 2) == 0) then ((rf_MaterialOf_J3 i1) (w64 (sum1 + (w64 (r1 * (geti ([0, 1, 3, 3, 5, 9, 0] : List Int) r2))))) (w64 (minor1 + 1)) knights1 light1 (w64 (dark1 + 1)) dead1) else ((rf_MaterialOf_J3 i1) (w64 (sum1 + (w64 (r1 * (geti ([0, 1, 3, 3, 5, 9, 0] : List Int) r2))))) (w64 (minor1 + 1)) knights1 (w64 (light1 + 1)) dark1 dead1)) else ((rf_MaterialOf_J3 i1) (w64 (sum1 + (w64 (r1 * (geti ([0, 1, 3, 3, 5, 9, 0] : List Int) r2))))) minor1 knights1 light1 dark1 dead1)))

def rf_MaterialOf_J2  (p1 : List Int) (sum1 minor1 : Int) (knights1 light1 dark1 : Int) (dead1 : Bool) (i1 : Int) : Option (St (Int × Int × Int × Int × Int × Bool × Int) (Int × Int × Int × Int × Int × Bool)) :=
 asrt (0 ≤ i1 ∧ i1 < (p1.length : Int)) <| (rf_signOf_m (geti p1 i1)).bind fun r1 => (rf_size_m (geti p1 i1)).bind fun r2 => asrt (0 ≤ r2 ∧ r2 < 7) <| (rf_size_m (geti p1 i1)).bind fun r3 => if (r3 == 1) then ((rf_MaterialOf_J4 sum1 minor1 knights1 light1 dark1 dead1 i1 r1 r2 r3) (r3 == 1)) else (if (r3 == 4) then ((rf_MaterialOf_J4 sum1 minor1 knights1 light1 dark1 dead1 i1 r1 r2 r3) (r3 == 4)) else ((rf_MaterialOf_J4 sum1 minor1 knights1 light1 dark1 dead1 i1 r1 r2 r3) (r3 == 5)))

def rf_MaterialOf_J1  (sum2 minor2 : Int) (knights2 light2 dark2 : Int) (dead2 : Bool) : Option (Int × Bool) :=
 some (sum2, (dead2 && ((decide (minor2 ≤ 1)) || ((knights2 == 0) && ((light2 == 0) || (dark2 == 0))))))

def rf_MaterialOf_K1  : (Int × Int × Int × Int × Int × Bool) → Option (Int × Bool) :=
 fun (x : (Int × Int × Int × Int × Int × Bool)) => match x with | (sum2, minor2, knights2, light2, dark2, dead2) => rf_MaterialOf_J1 sum2 minor2 knights2 light2 dark2 dead2

def rf_MaterialOf_L1  (p1 : List Int) : (Int × Int × Int × Int × Int × Bool × Int) → Option (St (Int × Int × Int × Int × Int × Bool × Int) (Int × Int × Int × Int × Int × Bool)) :=
 fun (x : (Int × Int × Int × Int × Int × Bool × Int)) => match x with | (sum1, minor1, knights1, light1, dark1, dead1, i1) => if (decide (i1 < 64)) then ((rf_MaterialOf_J2 p1 sum1 minor1 knights1 light1 dark1 dead1 i1)) else (some (.done (sum1, minor1, knights1, light1, dark1, dead1)))

def rf_MaterialOf_m  (p1 : List Int) (p2 p3 : Int) (p4 p5 p6 : Int) : Option (Int × Bool) :=
 (loop (rf_MaterialOf_L1 p1) (0, 0, 0, 0, 0, true, 0)).bind rf_MaterialOf_K1

theorem rf_MaterialOf_w {A1 : Option Addr} {c1 n1 : Nat} {p1 : List Int} {p2 p3 : Int} {p4 p5 p6 : Int} {r : (Int × Bool)} {w0 w : World} {B : Nat} {fs : List HP} (hm : rf_MaterialOf_m p1 p2 p3 p4 p5 p6 = some r) (hS : Sep w0 B w (fs)) (hr_p1 : RdF w0 B fs A1 (vI p1)) (_hc_p1 : p1.length ≤ c1) (_hn_p1 : n1 = p1.length) :
  Calls Try.prog 141 #[.agg (ca A1 n1 c1 p2 p3 p4 p5 p6)] w fun e w' => e = .returned (.tuple #[vi r.1, .bool r.2]) ∧ Sep w0 B w' (fs) := by
 obtain ⟨i3, hi3, hz3, hs3, hb3⟩ := info_parts Info3
 obtain rfl := _hn_p1
 unfold rf_MaterialOf_m at hm
 replace hm := start_b hm
 refine enter (l := [.agg (ca A1 p1.length c1 p2 p3 p4 p5 p6)]) (n := 76) Try.func141 rfl rfl (by simp) (fun a hF => ?_)
 refine seqR ?_
 refine at_do (d := 1) (s := vS (Instr.box 75 (.agg (ca A1 p1.length c1 p2 p3 p4 p5 p6)))) (v := pa w.heap.size 0) (w' := w.alloc (.cells (ca A1 p1.length c1 p2 p3 p4 p5 p6) 75)) hF (by kernel_rfl) (by kernel_rfl) (by kernel_rfl) (fun a hF => ?_)
 have hS : Sep w0 B (w.alloc (.cells (ca A1 p1.length c1 p2 p3 p4 p5 p6) 75)) (blk w.heap.size 75 (ca A1 p1.length c1 p2 p3 p4 p5 p6) :: (fs)) := hS.box 75 (ca A1 p1.length c1 p2 p3 p4 p5 p6)
 generalize w.heap.size = g1 at hF hS
 generalize w.alloc (.cells (ca A1 p1.length c1 p2 p3 p4 p5 p6) 75) = w at hS ⊢
 refine ar 2 [] [] [1] [pl 1 (pa g1 0)] hF hS obs_nil (fun a w hF hS => ?_)
 refine ae [1] [pl 1 (pa g1 0)] hF rfl (fun hF => ?_)
 refine then_n ?_
 refine rg [] [] [1, 4, 5, 6, 7, 8] [pl 1 (pa g1 0), pl 4 (vi 0), pl 5 (vi 0), pl 6 (vi 0), pl 7 (vi 0), pl 8 (vi 0)] hF hS obs_nil (fun a w hF hS => ?_)
 refine rg [] [] [1, 4, 5, 6, 7, 8, 9] [pl 1 (pa g1 0), pl 4 (vi 0), pl 5 (vi 0), pl 6 (vi 0), pl 7 (vi 0), pl 8 (vi 0), pl 9 (.bool true)] hF hS obs_nil (fun a w hF hS => ?_)
 refine seq_cut (fun a w => ∃ (sum2 minor2 : Int) (knights2 light2 dark2 : Int) (dead2 : Bool), Fr 76 [pl 4 (vi sum2), pl 5 (vi minor2), pl 6 (vi knights2), pl 7 (vi light2), pl 8 (vi dark2), pl 9 (.bool dead2)] a ∧ Sep w0 B w (fs) ∧ (rf_MaterialOf_J1 sum2 minor2 knights2 light2 dark2 dead2).bind some = some r) ?_ ?_
 ·rintro a w ⟨sum2, minor2, knights2, light2, dark2, dead2, hF, hS, hm⟩
  unfold rf_MaterialOf_J1 at hm
  refine rg [] [] [2, 3] [pl 2 (vi sum2), pl 3 (.bool (dead2 && ((decide (minor2 ≤ 1)) || ((knights2 == 0) && ((light2 == 0) || (dark2 == 0))))))] hF hS obs_nil (fun a w hF hS => ?_)
  refine wpIn_ret ?_
  have hm : some (sum2, (dead2 && ((decide (minor2 ≤ 1)) || ((knights2 == 0) && ((light2 == 0) || (dark2 == 0)))))) = some r := hm
  obtain rfl := Option.some.inj hm
  exact retV (rs := [.tmp 2, .tmp 3]) (vs := [vi sum2, .bool (dead2 && ((decide (minor2 ≤ 1)) || ((knights2 == 0) && ((light2 == 0) || (dark2 == 0)))))]) hF rfl (rv_t (by kernel_rfl) <| rv_t (by kernel_rfl) <| rv_nil) rfl ⟨rfl, hS⟩
 ·refine rg [] [] [1, 4, 5, 6, 7, 8, 9, 10] [pl 1 (pa g1 0), pl 4 (vi 0), pl 5 (vi 0), pl 6 (vi 0), pl 7 (vi 0), pl 8 (vi 0), pl 9 (.bool true), pl 10 (vi 0)] hF hS obs_nil (fun a w hF hS => ?_)
  refine wpIn_block ?_
  refine wp_loop_model (S := (Int × Int × Int × Int × Int × Bool × Int)) (R := (Int × Int × Int × Int × Int × Bool)) (rf_MaterialOf_L1 p1) (fun x => (rf_MaterialOf_K1 x).bind some) r (fun (x : (Int × Int × Int × Int × Int × Bool × Int)) a w => Fr 76 [pl 1 (pa g1 0), pl 4 (vi x.1), pl 5 (vi x.2.1), pl 6 (vi x.2.2.1), pl 7 (vi x.2.2.2.1), pl 8 (vi x.2.2.2.2.1), pl 9 (.bool x.2.2.2.2.2.1), pl 10 (vi x.2.2.2.2.2.2)] a ∧ Sep w0 B w (blk g1 75 (ca A1 p1.length c1 p2 p3 p4 p5 p6) :: fs)) (assoc_b hm) ⟨hF.wk [1, 4, 5, 6, 7, 8, 9, 10], hS⟩ ?_
  clear hF hS hm
  rintro nn1 ⟨sum1, minor1, knights1, light1, dark1, dead1, i1⟩ a w ⟨hF, hS⟩ hm
  generalize hφ1 : stK (rf_MaterialOf_L1 p1) nn1 (fun x => (rf_MaterialOf_K1 x).bind some) = φ1 at hm
  unfold rf_MaterialOf_L1 at hm
  dsimp only at hF hS hm
  refine seq_cut (fun a w => Fr 76 [pl 1 (pa g1 0), pl 4 (vi sum1), pl 5 (vi minor1), pl 6 (vi knights1), pl 7 (vi light1), pl 8 (vi dark1), pl 9 (.bool dead1), pl 10 (vi i1)] a ∧ Sep w0 B w (blk g1 75 (ca A1 p1.length c1 p2 p3 p4 p5 p6) :: fs) ∧ ((rf_MaterialOf_J2 p1 sum1 minor1 knights1 light1 dark1 dead1 i1)).bind φ1 = some r) ?_ ?_
  ·rintro a w ⟨hF, hS, hm⟩
   unfold rf_MaterialOf_J2 at hm
   refine seq_cut (fun a w => ∃ (sum3 minor3 : Int) (knights3 light3 dark3 : Int) (dead3 : Bool), Fr 76 [pl 1 (pa g1 0), pl 4 (vi sum3), pl 5 (vi minor3), pl 6 (vi knights3), pl 7 (vi light3), pl 8 (vi dark3), pl 9 (.bool dead3), pl 10 (vi i1)] a ∧ Sep w0 B w (blk g1 75 (ca A1 p1.length c1 p2 p3 p4 p5 p6) :: fs) ∧ ((rf_MaterialOf_J3 i1) sum3 minor3 knights3 light3 dark3 dead3).bind φ1 = some r) ?_ ?_
   ·rintro a w ⟨sum3, minor3, knights3, light3, dark3, dead3, hF, hS, hm⟩
    unfold rf_MaterialOf_J3 at hm
    refine rg1 [] [] [1, 4, 5, 6, 7, 8, 9, 10] [pl 1 (pa g1 0), pl 4 (vi sum3), pl 5 (vi minor3), pl 6 (vi knights3), pl 7 (vi light3), pl 8 (vi dark3), pl 9 (.bool dead3), pl 10 (vi (w64 (i1 + 1)))] hF hS obs_nil (fun a w hF hS => ?_)
    refine then_n ?_
    rw [← hφ1] at hm
    exact ⟨(sum3, minor3, knights3, light3, dark3, dead3, (w64 (i1 + 1))), ⟨hF.wk [1, 4, 5, 6, 7, 8, 9, 10], hS⟩, hm⟩
   ·refine wpIn_block ?_
    obtain ⟨hp1, hm⟩ := asrt_b hm
    refine rg [⟨false, [], vS (Instr.loadAt 27 (pa g1 0)), .slice A1 p1.length c1⟩, ⟨true, [], vS (Instr.indexAt 27 (.slice A1 p1.length c1) (vi i1)), .pointer (some (sAddr A1 i1))⟩, ⟨false, [], vS (Instr.loadAt 3 (.pointer (some (sAddr A1 i1)))), vi (geti p1 i1)⟩] [none, some (.slice A1 p1.length c1), none, some (.pointer (some (sAddr A1 i1))), some (vi (geti p1 i1)), none] [1, 4, 5, 6, 7, 8, 9, 10, 11] [pl 1 (pa g1 0), pl 4 (vi sum1), pl 5 (vi minor1), pl 6 (vi knights1), pl 7 (vi light1), pl 8 (vi dark1), pl 9 (.bool dead1), pl 10 (vi i1), pl 11 (vi (geti p1 i1))] hF hS ?_ (fun a w hF hS => ?_)
    ·exact obs_cons (ob_load Agg27 (fun _ _ hS => (hS.at_ 0 rfl).cell rfl)) <| obs_cons (ob_ix1 (f := (Value.int .i64)) (m := p1) Und27 hi3 hs3 (hr_p1 _ (hS.dropN 1)) rfl (fun _ => hp1)) <| obs_cons (ob_get1 (n := p1.length) (m := p1) (Value.int .i64) (0 : Int) Agg3 (fun _ hS => ⟨_, (hr_p1 _ (hS.dropN 1))⟩) (fun _ hS => rfl) (fun _ => hp1)) <| obs_nil
    refine seqR ?_
    obtain ⟨r1, hr1, hm⟩ := call_b hm
    obtain ⟨r2, hr2, hm⟩ := call_b hm
    obtain ⟨hp2, hm⟩ := asrt_b hm
    refine ar 3 [⟨false, [], callFunc 208 #[vi (geti p1 i1)], vi r1⟩] [none, none, some (vi r1)] [1, 5, 6, 7, 8, 9, 10, 11, 21, 23] [pl 1 (pa g1 0), pl 5 (vi minor1), pl 6 (vi knights1), pl 7 (vi light1), pl 8 (vi dark1), pl 9 (.bool dead1), pl 10 (vi i1), pl 11 (vi (geti p1 i1)), pl 21 (vi sum1), pl 23 (vi r1)] hF hS ?_ (fun a w hF hS => ?_)
    ·exact obs_cons (ob_call Try.func208 (by kernel_rfl) rfl (fun _ _ hS => rf_signOf_w hr1 hS )) <| obs_nil
    refine at_do (d := 24) (s := vS (Instr.buildSlice 27 7 #[(0, vi 0), (1, vi 1), (2, vi 3), (3, vi 3), (4, vi 5), (5, vi 9), (6, vi 0)])) (v := .slice (some ⟨w.heap.size, 0, none⟩) 7 7) (w' := w.alloc (.cells #[vi 0, vi 1, vi 3, vi 3, vi 5, vi 9, vi 0] 3)) hF (by kernel_rfl) (by kernel_rfl) (by kernel_rfl) (fun a hF => ?_)
    have hS : Sep w0 B (w.alloc (.cells #[vi 0, vi 1, vi 3, vi 3, vi 5, vi 9, vi 0] 3)) (own 3 (.slice (some (⟨w.heap.size, 0, none⟩ : Addr)) 7 7) (vI ([0, 1, 3, 3, 5, 9, 0] : List Int)) :: (blk g1 75 (ca A1 p1.length c1 p2 p3 p4 p5 p6) :: fs)) := hS.lit 3 #[vi 0, vi 1, vi 3, vi 3, vi 5, vi 9, vi 0] 7 rfl (by omega)
    generalize (some (⟨w.heap.size, 0, none⟩ : Addr)) = g2 at hF hS
    generalize w.alloc (.cells #[vi 0, vi 1, vi 3, vi 3, vi 5, vi 9, vi 0] 3) = w at hS ⊢
    refine ar 7 [⟨false, [], callFunc 129 #[vi (geti p1 i1)], vi r2⟩, ⟨true, [], vS (Instr.indexAt 27 (.slice g2 7 7) (vi r2)), .pointer (some (sAddr g2 r2))⟩, ⟨false, [], vS (Instr.loadAt 3 (.pointer (some (sAddr g2 r2)))), vi (geti ([0, 1, 3, 3, 5, 9, 0] : List Int) r2)⟩] [none, some (vi r2), some (.pointer (some (sAddr g2 r2))), some (vi (geti ([0, 1, 3, 3, 5, 9, 0] : List Int) r2)), none, none, none] [1, 4, 5, 6, 7, 8, 9, 10, 11] [pl 1 (pa g1 0), pl 4 (vi (w64 (sum1 + (w64 (r1 * (geti ([0, 1, 3, 3, 5, 9, 0] : List Int) r2)))))), pl 5 (vi minor1), pl 6 (vi knights1), pl 7 (vi light1), pl 8 (vi dark1), pl 9 (.bool dead1), pl 10 (vi i1), pl 11 (vi (geti p1 i1))] hF hS ?_ (fun a w hF hS => ?_)
    ·exact obs_cons (ob_call Try.func129 (by kernel_rfl) rfl (fun _ _ hS => rf_size_w hr2 hS )) <| obs_cons (ob_ix1 (f := (Value.int .i64)) (m := ([0, 1, 3, 3, 5, 9, 0] : List Int)) Und27 hi3 hs3 (hS.at_ 0 rfl).rd ((hS.at_ 0 rfl).len1) (fun _ => hp2)) <| obs_cons (ob_get1 (n := 7) (m := ([0, 1, 3, 3, 5, 9, 0] : List Int)) (Value.int .i64) (0 : Int) Agg3 (fun _ hS => ⟨_, (hS.at_ 0 rfl).rd⟩) (fun _ hS => ((hS.at_ 0 rfl).len1)) (fun _ => hp2)) <| obs_nil
    refine ae [1, 4, 5, 6, 7, 8, 9, 10, 11] [pl 1 (pa g1 0), pl 4 (vi (w64 (sum1 + (w64 (r1 * (geti ([0, 1, 3, 3, 5, 9, 0] : List Int) r2)))))), pl 5 (vi minor1), pl 6 (vi knights1), pl 7 (vi light1), pl 8 (vi dark1), pl 9 (.bool dead1), pl 10 (vi i1), pl 11 (vi (geti p1 i1))] hF rfl (fun hF => ?_)
    refine then_n ?_
    obtain ⟨r3, hr3, hm⟩ := call_b hm
    refine rg [⟨false, [], callFunc 129 #[vi (geti p1 i1)], vi r3⟩] [none, some (vi r3)] [1, 4, 5, 6, 7, 8, 9, 10, 32] [pl 1 (pa g1 0), pl 4 (vi (w64 (sum1 + (w64 (r1 * (geti ([0, 1, 3, 3, 5, 9, 0] : List Int) r2)))))), pl 5 (vi minor1), pl 6 (vi knights1), pl 7 (vi light1), pl 8 (vi dark1), pl 9 (.bool dead1), pl 10 (vi i1), pl 32 (vi r3)] hF hS ?_ (fun a w hF hS => ?_)
    ·exact obs_cons (ob_call Try.func129 (by kernel_rfl) rfl (fun _ _ hS => rf_size_w hr3 hS )) <| obs_nil
    refine wpIn_block ?_
    refine seq_cut (fun a w => ∃ (z1 : Bool), Fr 76 [pl 1 (pa g1 0), pl 4 (vi (w64 (sum1 + (w64 (r1 * (geti ([0, 1, 3, 3, 5, 9, 0] : List Int) r2)))))), pl 5 (vi minor1), pl 6 (vi knights1), pl 7 (vi light1), pl 8 (vi dark1), pl 9 (.bool dead1), pl 10 (vi i1), pl 32 (vi r3), pl 33 (.bool z1)] a ∧ Sep w0 B w (blk g1 75 (ca A1 p1.length c1 p2 p3 p4 p5 p6) :: fs) ∧ ((rf_MaterialOf_J4 sum1 minor1 knights1 light1 dark1 dead1 i1 r1 r2 r3) z1).bind φ1 = some r) ?_ ?_
    ·rintro a w ⟨z1, hF, hS, hm⟩
     unfold rf_MaterialOf_J4 at hm
     refine ce (t := 33) (b := z1) hF (fun hb => ?_) (fun hb => ?_)
     ·replace hm := if_t hm hb
      refine rg1 [] [] [1, 4, 5, 6, 7, 8, 9, 10] [pl 1 (pa g1 0), pl 4 (vi (w64 (sum1 + (w64 (r1 * (geti ([0, 1, 3, 3, 5, 9, 0] : List Int) r2)))))), pl 5 (vi minor1), pl 6 (vi knights1), pl 7 (vi light1), pl 8 (vi dark1), pl 9 (.bool false), pl 10 (vi i1)] hF hS obs_nil (fun a w hF hS => ?_)
      refine block_n ?_
      refine block_n ?_
      refine then_n ?_
      exact ⟨(w64 (sum1 + (w64 (r1 * (geti ([0, 1, 3, 3, 5, 9, 0] : List Int) r2))))), minor1, knights1, light1, dark1, false, hF.wk [1, 4, 5, 6, 7, 8, 9, 10], hS, hm⟩
     ·replace hm := if_f hm hb
      refine rg [] [] [1, 4, 5, 6, 7, 8, 9, 10, 32, 37] [pl 1 (pa g1 0), pl 4 (vi (w64 (sum1 + (w64 (r1 * (geti ([0, 1, 3, 3, 5, 9, 0] : List Int) r2)))))), pl 5 (vi minor1), pl 6 (vi knights1), pl 7 (vi light1), pl 8 (vi dark1), pl 9 (.bool dead1), pl 10 (vi i1), pl 32 (vi r3), pl 37 (.bool (r3 == 2))] hF hS obs_nil (fun a w hF hS => ?_)
      refine ce (t := 37) (b := (r3 == 2)) hF (fun hb => ?_) (fun hb => ?_)
      ·replace hm := if_t hm hb
       refine rg [] [] [1, 4, 5, 6, 7, 8, 9, 10] [pl 1 (pa g1 0), pl 4 (vi (w64 (sum1 + (w64 (r1 * (geti ([0, 1, 3, 3, 5, 9, 0] : List Int) r2)))))), pl 5 (vi minor1), pl 6 (vi (w64 (knights1 + 1))), pl 7 (vi light1), pl 8 (vi dark1), pl 9 (.bool dead1), pl 10 (vi i1)] hF hS obs_nil (fun a w hF hS => ?_)
       refine rg1 [] [] [1, 4, 5, 6, 7, 8, 9, 10] [pl 1 (pa g1 0), pl 4 (vi (w64 (sum1 + (w64 (r1 * (geti ([0, 1, 3, 3, 5, 9, 0] : List Int) r2)))))), pl 5 (vi (w64 (minor1 + 1))), pl 6 (vi (w64 (knights1 + 1))), pl 7 (vi light1), pl 8 (vi dark1), pl 9 (.bool dead1), pl 10 (vi i1)] hF hS obs_nil (fun a w hF hS => ?_)
       refine block_n ?_
       refine block_n ?_
       refine then_n ?_
       exact ⟨(w64 (sum1 + (w64 (r1 * (geti ([0, 1, 3, 3, 5, 9, 0] : List Int) r2))))), (w64 (minor1 + 1)), (w64 (knights1 + 1)), light1, dark1, dead1, hF.wk [1, 4, 5, 6, 7, 8, 9, 10], hS, hm⟩
      ·replace hm := if_f hm hb
       refine rg [] [] [1, 4, 5, 6, 7, 8, 9, 10, 43] [pl 1 (pa g1 0), pl 4 (vi (w64 (sum1 + (w64 (r1 * (geti ([0, 1, 3, 3, 5, 9, 0] : List Int) r2)))))), pl 5 (vi minor1), pl 6 (vi knights1), pl 7 (vi light1), pl 8 (vi dark1), pl 9 (.bool dead1), pl 10 (vi i1), pl 43 (.bool (r3 == 3))] hF hS obs_nil (fun a w hF hS => ?_)
       refine ce (t := 43) (b := (r3 == 3)) hF (fun hb => ?_) (fun hb => ?_)
       ·replace hm := if_t hm hb
        refine rg [] [] [1, 4, 5, 6, 7, 8, 9, 10] [pl 1 (pa g1 0), pl 4 (vi (w64 (sum1 + (w64 (r1 * (geti ([0, 1, 3, 3, 5, 9, 0] : List Int) r2)))))), pl 5 (vi (w64 (minor1 + 1))), pl 6 (vi knights1), pl 7 (vi light1), pl 8 (vi dark1), pl 9 (.bool dead1), pl 10 (vi i1)] hF hS obs_nil (fun a w hF hS => ?_)
        refine rg [] [] [1, 4, 5, 6, 7, 8, 9, 10, 53] [pl 1 (pa g1 0), pl 4 (vi (w64 (sum1 + (w64 (r1 * (geti ([0, 1, 3, 3, 5, 9, 0] : List Int) r2)))))), pl 5 (vi (w64 (minor1 + 1))), pl 6 (vi knights1), pl 7 (vi light1), pl 8 (vi dark1), pl 9 (.bool dead1), pl 10 (vi i1), pl 53 (.bool ((Int.tmod (w64 ((Int.tmod i1 8) + (w64 (Int.tdiv i1 8)))) 2) == 0))] hF hS obs_nil (fun a w hF hS => ?_)
        refine ce (t := 53) (b := ((Int.tmod (w64 ((Int.tmod i1 8) + (w64 (Int.tdiv i1 8)))) 2) == 0)) hF (fun hb => ?_) (fun hb => ?_)
        ·replace hm := if_t hm hb
         refine rg1 [] [] [1, 4, 5, 6, 7, 8, 9, 10] [pl 1 (pa g1 0), pl 4 (vi (w64 (sum1 + (w64 (r1 * (geti ([0, 1, 3, 3, 5, 9, 0] : List Int) r2)))))), pl 5 (vi (w64 (minor1 + 1))), pl 6 (vi knights1), pl 7 (vi light1), pl 8 (vi (w64 (dark1 + 1))), pl 9 (.bool dead1), pl 10 (vi i1)] hF hS obs_nil (fun a w hF hS => ?_)
         refine block_n ?_
         refine block_n ?_
         refine then_n ?_
         exact ⟨(w64 (sum1 + (w64 (r1 * (geti ([0, 1, 3, 3, 5, 9, 0] : List Int) r2))))), (w64 (minor1 + 1)), knights1, light1, (w64 (dark1 + 1)), dead1, hF.wk [1, 4, 5, 6, 7, 8, 9, 10], hS, hm⟩
        ·replace hm := if_f hm hb
         refine rg1 [] [] [1, 4, 5, 6, 7, 8, 9, 10] [pl 1 (pa g1 0), pl 4 (vi (w64 (sum1 + (w64 (r1 * (geti ([0, 1, 3, 3, 5, 9, 0] : List Int) r2)))))), pl 5 (vi (w64 (minor1 + 1))), pl 6 (vi knights1), pl 7 (vi (w64 (light1 + 1))), pl 8 (vi dark1), pl 9 (.bool dead1), pl 10 (vi i1)] hF hS obs_nil (fun a w hF hS => ?_)
         refine block_n ?_
         refine block_n ?_
         refine then_n ?_
         exact ⟨(w64 (sum1 + (w64 (r1 * (geti ([0, 1, 3, 3, 5, 9, 0] : List Int) r2))))), (w64 (minor1 + 1)), knights1, (w64 (light1 + 1)), dark1, dead1, hF.wk [1, 4, 5, 6, 7, 8, 9, 10], hS, hm⟩
       ·replace hm := if_f hm hb
        refine wpIn_skip ?_
        refine block_n ?_
        refine block_n ?_
        refine then_n ?_
        exact ⟨(w64 (sum1 + (w64 (r1 * (geti ([0, 1, 3, 3, 5, 9, 0] : List Int) r2))))), minor1, knights1, light1, dark1, dead1, hF.wk [1, 4, 5, 6, 7, 8, 9, 10], hS, hm⟩
    ·refine rg [] [] [1, 4, 5, 6, 7, 8, 9, 10, 32, 33] [pl 1 (pa g1 0), pl 4 (vi (w64 (sum1 + (w64 (r1 * (geti ([0, 1, 3, 3, 5, 9, 0] : List Int) r2)))))), pl 5 (vi minor1), pl 6 (vi knights1), pl 7 (vi light1), pl 8 (vi dark1), pl 9 (.bool dead1), pl 10 (vi i1), pl 32 (vi r3), pl 33 (.bool (r3 == 1))] hF hS obs_nil (fun a w hF hS => ?_)
     refine ce (t := 33) (b := (r3 == 1)) hF (fun hb => ?_) (fun hb => ?_)
     ·replace hm := if_t hm hb
      refine wpIn_skip ?_
      refine then_n ?_
      have hS := hS.pickN 2 [1] (by decide)
      exact ⟨(r3 == 1), hF.wk [1, 4, 5, 6, 7, 8, 9, 10, 32, 33], hS, hm⟩
     ·replace hm := if_f hm hb
      refine rg [] [] [1, 4, 5, 6, 7, 8, 9, 10, 32, 33] [pl 1 (pa g1 0), pl 4 (vi (w64 (sum1 + (w64 (r1 * (geti ([0, 1, 3, 3, 5, 9, 0] : List Int) r2)))))), pl 5 (vi minor1), pl 6 (vi knights1), pl 7 (vi light1), pl 8 (vi dark1), pl 9 (.bool dead1), pl 10 (vi i1), pl 32 (vi r3), pl 33 (.bool (r3 == 4))] hF hS obs_nil (fun a w hF hS => ?_)
      refine ce (t := 33) (b := (r3 == 4)) hF (fun hb => ?_) (fun hb => ?_)
      ·replace hm := if_t hm hb
       refine wpIn_skip ?_
       refine then_n ?_
       have hS := hS.pickN 2 [1] (by decide)
       exact ⟨(r3 == 4), hF.wk [1, 4, 5, 6, 7, 8, 9, 10, 32, 33], hS, hm⟩
      ·replace hm := if_f hm hb
       refine rg1 [] [] [1, 4, 5, 6, 7, 8, 9, 10, 32, 33] [pl 1 (pa g1 0), pl 4 (vi (w64 (sum1 + (w64 (r1 * (geti ([0, 1, 3, 3, 5, 9, 0] : List Int) r2)))))), pl 5 (vi minor1), pl 6 (vi knights1), pl 7 (vi light1), pl 8 (vi dark1), pl 9 (.bool dead1), pl 10 (vi i1), pl 32 (vi r3), pl 33 (.bool (r3 == 5))] hF hS obs_nil (fun a w hF hS => ?_)
       refine then_n ?_
       have hS := hS.pickN 2 [1] (by decide)
       exact ⟨(r3 == 5), hF.wk [1, 4, 5, 6, 7, 8, 9, 10, 32, 33], hS, hm⟩
  ·refine rg [] [] [1, 4, 5, 6, 7, 8, 9, 10, 13] [pl 1 (pa g1 0), pl 4 (vi sum1), pl 5 (vi minor1), pl 6 (vi knights1), pl 7 (vi light1), pl 8 (vi dark1), pl 9 (.bool dead1), pl 10 (vi i1), pl 13 (.bool (decide (i1 < 64)))] hF hS obs_nil (fun a w hF hS => ?_)
   refine ce (t := 13) (b := decide (i1 < 64)) hF (fun hb => ?_) (fun hb => ?_)
   ·replace hm := if_t hm hb
    refine wpIn_skip ?_
    refine then_n ?_
    exact ⟨hF.wk [1, 4, 5, 6, 7, 8, 9, 10], hS, hm⟩
   ·replace hm := if_f hm hb
    refine wpIn_exit ?_
    refine then_e (then_e (block_e (then_n ?_)))
    have hS := hS.pickN 1 [] (by decide)
    rw [← hφ1] at hm
    replace hm := done_b hm
    unfold rf_MaterialOf_K1 at hm
    try dsimp only at hm
    have hm : (rf_MaterialOf_J1 sum1 minor1 knights1 light1 dark1 dead1).bind some = some r := hm
    exact ⟨sum1, minor1, knights1, light1, dark1, dead1, hF.wk [4, 5, 6, 7, 8, 9], hS, hm⟩

def rf_BestOf18_J6  (i1 best3 : Int) (who7 who8 who9 : Int) : Option (St (Int × Int × Int × Int × Int) (Int × Int × Int × Int)) :=
 some (.next (best3, who7, who8, who9, (w64 (i1 + 1))))

def rf_BestOf18_J7  (r1 : (List MvT)) (best1 who1 : Int) (who2 who3 : Int) (i1 n2 : Int) : Option (St (Int × Int × Int × Int × Int) (Int × Int × Int × Int)) :=
 if (decide (best1 < (w64 (0 - n2)))) then (asrt (0 ≤ i1 ∧ i1 < (r1.length : Int)) <| (rf_BestOf18_J6 i1) (w64 (0 - n2)) ((getd ((0, 0, 0) : MvT) r1 i1).1) ((getd ((0, 0, 0) : MvT) r1 i1).2.1) ((getd ((0, 0, 0) : MvT) r1 i1).2.2)) else ((rf_BestOf18_J6 i1) best1 who1 who2 who3)

def rf_BestOf18_J5  (rec_rf_BestOf18 : List Int → Int → Int → Int → Int → Int → Int → Int → Option (Int × Int × Int × Int)) (p1 : List Int) (p2 p3 : Int) (p4 p5 : Int) (p6 deep1 ply1 : Int) (r1 : (List MvT)) (best1 who1 : Int) (who2 who3 i1 : Int) : Option (St (Int × Int × Int × Int × Int) (Int × Int × Int × Int)) :=
 asrt (0 ≤ i1 ∧ i1 < (r1.length : Int)) <| (rf_MoveDone_m p1 p2 p3 p4 p5 p6 ((getd ((0, 0, 0) : MvT) r1 i1).1) ((getd ((0, 0, 0) : MvT) r1 i1).2.1) ((getd ((0, 0, 0) : MvT) r1 i1).2.2)).bind fun r5 => (rec_rf_BestOf18 r5.1 r5.2.1 r5.2.2.1 r5.2.2.2.1 r5.2.2.2.2.1 r5.2.2.2.2.2 deep1 (w64 (ply1 + 1))).bind fun r6 => (rf_BestOf18_J7 r1 best1 who1 who2 who3 i1) r6.1

def rf_BestOf18_J4  (best2 who4 : Int) (who5 who6 : Int) : Option (Int × Int × Int × Int) :=
 some (best2, who4, who5, who6)

def rf_BestOf18_K1  : (Int × Int × Int × Int) → Option (Int × Int × Int × Int) :=
 fun (x : (Int × Int × Int × Int)) => match x with | (best2, who4, who5, who6) => rf_BestOf18_J4 best2 who4 who5 who6

def rf_BestOf18_L1  (rec_rf_BestOf18 : List Int → Int → Int → Int → Int → Int → Int → Int → Option (Int × Int × Int × Int)) (p1 : List Int) (p2 p3 : Int) (p4 p5 : Int) (p6 deep1 ply1 : Int) (r1 : (List MvT)) : (Int × Int × Int × Int × Int) → Option (St (Int × Int × Int × Int × Int) (Int × Int × Int × Int)) :=
 fun (x : (Int × Int × Int × Int × Int)) => match x with | (best1, who1, who2, who3, i1) => if (decide (i1 < (r1.length : Int))) then ((rf_BestOf18_J5 rec_rf_BestOf18 p1 p2 p3 p4 p5 p6 deep1 ply1 r1 best1 who1 who2 who3 i1)) else (some (.done (best1, who1, who2, who3)))

def rf_BestOf18_J3  (rec_rf_BestOf18 : List Int → Int → Int → Int → Int → Int → Int → Int → Option (Int × Int × Int × Int)) (p1 : List Int) (p2 p3 : Int) (p4 p5 : Int) (p6 deep1 ply1 : Int) (r1 : (List MvT)) : Option (Int × Int × Int × Int) :=
 (loop (rf_BestOf18_L1 rec_rf_BestOf18 p1 p2 p3 p4 p5 p6 deep1 ply1 r1) ((-5000), 0, 0, 0, 0)).bind rf_BestOf18_K1

def rf_BestOf18_J2  (rec_rf_BestOf18 : List Int → Int → Int → Int → Int → Int → Int → Int → Option (Int × Int × Int × Int)) (p1 : List Int) (p2 p3 : Int) (p4 p5 : Int) (p6 deep1 ply1 : Int) (r1 : (List MvT)) : Option (Int × Int × Int × Int) :=
 if (ply1 == deep1) then ((rf_MaterialOf_m p1 p2 p3 p4 p5 p6).bind fun r3 => (rf_SideSign_m p2).bind fun r4 => some ((w64 (r3.1 * r4)), 0, 0, 0)) else ((rf_BestOf18_J3 rec_rf_BestOf18 p1 p2 p3 p4 p5 p6 deep1 ply1 r1))

def rf_BestOf18_J1  (rec_rf_BestOf18 : List Int → Int → Int → Int → Int → Int → Int → Int → Option (Int × Int × Int × Int)) (p1 : List Int) (p2 p3 : Int) (p4 p5 : Int) (p6 deep1 ply1 : Int) (r1 : (List MvT)) : Option (Int × Int × Int × Int) :=
 if ((r1.length : Int) == 0) then (some (0, 0, 0, 0)) else ((rf_BestOf18_J2 rec_rf_BestOf18 p1 p2 p3 p4 p5 p6 deep1 ply1 r1))

def rf_BestOf18_B (rec_rf_BestOf18 : List Int → Int → Int → Int → Int → Int → Int → Int → Option (Int × Int × Int × Int)) (p1 : List Int) (p2 p3 : Int) (p4 p5 : Int) (p6 deep1 ply1 : Int) : Option (Int × Int × Int × Int) :=
 (rf_MovesAll_m p1 p2 p3 p4 p5 p6).bind fun r1 => ((if ((r1.length : Int) == 0) then rf_InCheck_m p1 p2 else some false)).bind fun r2 => if (((r1.length : Int) == 0) && r2) then (some ((w64 (ply1 - 1000)), 0, 0, 0)) else ((rf_BestOf18_J1 rec_rf_BestOf18 p1 p2 p3 p4 p5 p6 deep1 ply1 r1))

def rf_BestOf18_mF : Nat → List Int → Int → Int → Int → Int → Int → Int → Int → Option (Int × Int × Int × Int)
 | 0 => fun _ _ _ _ _ _ _ _ => none
 | n + 1 => fun p1 p2 p3 p4 p5 p6 deep1 ply1 => rf_BestOf18_B (rf_BestOf18_mF n) p1 p2 p3 p4 p5 p6 deep1 ply1
end Go.Proofs.Ytfmmlmiakkjaiaa
