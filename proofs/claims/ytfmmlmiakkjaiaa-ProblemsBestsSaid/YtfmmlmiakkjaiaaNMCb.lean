import Derived.Test.YtfmmlmiakkjaiaaVI
import Derived.Test.YtfmmlmiakkjaiaaFB
import Derived.Test.YtfmmlmiakkjaiaaLibAP
import Derived.Test.YtfmmlmiakkjaiaaLibRF
import Derived.Test.YtfmmlmiakkjaiaaSF
import Derived.Test.YtfmmlmiakkjaiaaNMCa
noncomputable section
namespace Go.Proofs.Ytfmmlmiakkjaiaa
open Go Go.GL Go.RowKit
set_option maxRecDepth 100000
set_option maxHeartbeats 4000000

def board_Moves_1_m  (m1 m2 m3 : Int) (p1_Places1 : List Int) (p1_Turn1 p1_Castle1 : Int) (p1_EnPassant1 p1_Half1 p1_Full1 : Int) (p21 : List MvT) : Option (Bool × List MvT) :=
 (board_After_m p1_Places1 p1_Turn1 p1_Castle1 p1_EnPassant1 p1_Half1 p1_Full1 m1 m2 m3).bind fun r1 => (board_Checked_m r1.1 p1_Turn1).bind fun r2 => (board_Moves_1_J2 m1 m2 m3 p21) (!r2)

theorem board_Moves_1_w {m1 m2 m3 : Int} {g1 : Nat} {A1 : Option Addr} {c1 n1 : Nat} {p1_Places1 : List Int} {p1_Turn1 p1_Castle1 : Int} {p1_EnPassant1 p1_Half1 p1_Full1 : Int} {g2 : Nat} {A2 : Option Addr} {c2 n2 : Nat} {p21 : List MvT} {r : (Bool × List MvT)} {w0 w : World} {B : Nat} {fs : List HP} (hm : board_Moves_1_m m1 m2 m3 p1_Places1 p1_Turn1 p1_Castle1 p1_EnPassant1 p1_Half1 p1_Full1 p21 = some r) (hS : Sep w0 B w (blk g1 75 (ca A1 n1 c1 p1_Turn1 p1_Castle1 p1_EnPassant1 p1_Half1 p1_Full1) :: blk g2 81 #[.slice A2 n2 c2] :: ownK 88 3 A2 n2 c2 (List.flatMap enc88 p21) :: fs)) (hr_p1_Places1 : RdF w0 B fs A1 (vI p1_Places1)) (_hc_p1_Places1 : p1_Places1.length ≤ c1) (_hn_p1_Places1 : n1 = p1_Places1.length) :
  Calls Try.prog 195 #[.agg #[vi m1, vi m2, vi m3], pa g1 0, pa g2 0] w fun e w' => ∃ v, e = .returned v ∧ ∃ (A3 : Option Addr) (c3 : Nat), v = .bool r.1 ∧ Sep w0 B w' (blk g1 75 (ca A1 n1 c1 p1_Turn1 p1_Castle1 p1_EnPassant1 p1_Half1 p1_Full1) :: blk g2 81 #[.slice A3 r.2.length c3] :: ownK 88 3 A3 r.2.length c3 (List.flatMap enc88 r.2) :: fs) := by
 obtain ⟨i3, hi3, hz3, hs3, hb3⟩ := info_parts Info3
 obtain ⟨i81, hi81, hz81, hs81, hb81⟩ := info_parts Info81
 obtain ⟨i88, hi88, hz88, hs88, hb88⟩ := info_parts Info88
 obtain rfl := (hS.at_ 2 rfl).lenK encK88
 obtain rfl := _hn_p1_Places1
 unfold board_Moves_1_m at hm
 replace hm := start_b hm
 refine enter (l := [.agg #[vi m1, vi m2, vi m3], pa g1 0, pa g2 0]) (n := 17) Try.func195 rfl rfl (by simp) (fun a hF => ?_)
 refine seqR ?_
 refine at_do (d := 3) (s := vS (Instr.box 88 (.agg #[vi m1, vi m2, vi m3]))) (v := pa w.heap.size 0) (w' := w.alloc (.cells #[vi m1, vi m2, vi m3] 88)) hF (by kernel_rfl) (by kernel_rfl) (by kernel_rfl) (fun a hF => ?_)
 have hS : Sep w0 B (w.alloc (.cells #[vi m1, vi m2, vi m3] 88)) (blk w.heap.size 88 #[vi m1, vi m2, vi m3] :: (blk g1 75 (ca A1 p1_Places1.length c1 p1_Turn1 p1_Castle1 p1_EnPassant1 p1_Half1 p1_Full1) :: blk g2 81 #[.slice A2 p21.length c2] :: ownK 88 3 A2 p21.length c2 (List.flatMap enc88 p21) :: fs)) := hS.box 88 #[vi m1, vi m2, vi m3]
 generalize w.heap.size = g3 at hF hS
 generalize w.alloc (.cells #[vi m1, vi m2, vi m3] 88) = w at hS ⊢
 refine ar 1 [] [] [1, 2, 3] [pl 1 (pa g1 0), pl 2 (pa g2 0), pl 3 (pa g3 0)] hF hS obs_nil (fun a w hF hS => ?_)
 refine ae [1, 2, 3] [pl 1 (pa g1 0), pl 2 (pa g2 0), pl 3 (pa g3 0)] hF rfl (fun hF => ?_)
 refine then_n ?_
 refine seq_cut (fun a w => ∃ (p23 : List MvT) (A7 : Option Addr) (c7 : Nat), Fr 17 [] a ∧ Sep w0 B w (blk g1 75 (ca A1 p1_Places1.length c1 p1_Turn1 p1_Castle1 p1_EnPassant1 p1_Half1 p1_Full1) :: blk g2 81 #[.slice A7 p23.length c7] :: ownK 88 3 A7 p23.length c7 (List.flatMap enc88 p23) :: fs) ∧ (board_Moves_1_J1 p23).bind some = some r) ?_ ?_
 ·rintro a w ⟨p23, A7, c7, hF, hS, hm⟩
  unfold board_Moves_1_J1 at hm
  refine rg [] [] [4] [pl 4 (.bool true)] hF hS obs_nil (fun a w hF hS => ?_)
  refine wpIn_ret ?_
  have hm : some (true, p23) = some r := hm
  obtain rfl := Option.some.inj hm
  exact retV (rs := [.tmp 4]) (vs := [.bool true]) hF rfl rv1 rfl ⟨_, rfl, A7, c7, rfl, hS⟩
 ·refine seq_cut (fun a w => ∃ (z1 : Bool), Fr 17 [pl 2 (pa g2 0), pl 3 (pa g3 0), pl 12 (.bool z1)] a ∧ Sep w0 B w (blk g2 81 #[.slice A2 p21.length c2] :: ownK 88 3 A2 p21.length c2 (List.flatMap enc88 p21) :: blk g3 88 #[vi m1, vi m2, vi m3] :: blk g1 75 (ca A1 p1_Places1.length c1 p1_Turn1 p1_Castle1 p1_EnPassant1 p1_Half1 p1_Full1) :: fs) ∧ ((board_Moves_1_J2 m1 m2 m3 p21) z1).bind some = some r) ?_ ?_
  ·rintro a w ⟨z1, hF, hS, hm⟩
   unfold board_Moves_1_J2 at hm
   refine ce (t := 12) (b := z1) hF (fun hb => ?_) (fun hb => ?_)
   ·replace hm := if_t hm hb
    refine oneR ?_
    obtain ⟨hp1, hm⟩ := asrt_b hm
    refine ar 2 [⟨false, [], vS (Instr.loadAt 81 (pa g2 0)), .slice A2 p21.length c2⟩, ⟨false, [], vS (Instr.loadAt 88 (pa g3 0)), .agg #[vi m1, vi m2, vi m3]⟩] [some (.slice A2 p21.length c2), some (.agg #[vi m1, vi m2, vi m3])] [2, 13, 14] [pl 2 (pa g2 0), pl 13 (.slice A2 p21.length c2), pl 14 (.agg #[vi m1, vi m2, vi m3])] hF hS ?_ (fun a w hF hS => ?_)
    ·exact obs_cons (ob_load Agg81 (fun _ _ hS => (hS.at_ 0 rfl).cell rfl)) <| obs_cons (oA (cs := #[vi m1, vi m2, vi m3]) (fun _ _ hS => (hS.at_ 2 rfl).cellsAt 0 (by rfl))) <| obs_nil
    refine at_do (d := 15) (s := vS (Instr.buildSlice 81 1 #[(0, .agg #[vi m1, vi m2, vi m3])])) (v := .slice (some ⟨w.heap.size, 0, none⟩) 1 1) (w' := w.alloc (.cells #[vi m1, vi m2, vi m3] 88)) hF (by kernel_rfl) (by kernel_rfl) (by kernel_rfl) (fun a hF => ?_)
    have hS : Sep w0 B (w.alloc (.cells #[vi m1, vi m2, vi m3] 88)) (ownK 88 3 (some (⟨w.heap.size, 0, none⟩ : Addr)) 1 1 (List.flatMap enc88 ([(m1, m2, m3)] : List MvT)) :: (blk g2 81 #[.slice A2 p21.length c2] :: ownK 88 3 A2 p21.length c2 (List.flatMap enc88 p21) :: blk g3 88 #[vi m1, vi m2, vi m3] :: blk g1 75 (ca A1 p1_Places1.length c1 p1_Turn1 p1_Castle1 p1_EnPassant1 p1_Half1 p1_Full1) :: fs)) := hS.litK 88 3 #[vi m1, vi m2, vi m3] 1 rfl (by omega)
    generalize (some (⟨w.heap.size, 0, none⟩ : Addr)) = g4 at hF hS
    generalize w.alloc (.cells #[vi m1, vi m2, vi m3] 88) = w at hS ⊢
    obtain ⟨A6, c6, w, hrun, hS⟩ := run_appK (P := Try.prog) (t := 81) (m := p21) (ys := ([(m1, m2, m3)] : List MvT)) (A2 := g4) (m2 := 1) (c2 := 1) encK88 (hS.at_ 2 rfl) (hS.at_ 0 rfl).rdK ((hS.at_ 0 rfl).lenK encK88) 81 Und81 hi88 hz88 hs88 rfl (by omega) hp1
    have hS : Sep w0 B w (ownK 88 3 g4 1 1 (List.flatMap enc88 ([(m1, m2, m3)] : List MvT)) :: blk g2 81 #[.slice A2 p21.length c2] :: ownK 88 3 A6 ((p21 ++ ([(m1, m2, m3)] : List MvT)).length) c6 (List.flatMap enc88 (p21 ++ ([(m1, m2, m3)] : List MvT))) :: blk g3 88 #[vi m1, vi m2, vi m3] :: blk g1 75 (ca A1 p1_Places1.length c1 p1_Turn1 p1_Castle1 p1_EnPassant1 p1_Half1 p1_Full1) :: fs) := hS
    refine ad (d := 16) hF hrun (fun a hF => ?_)
    obtain ⟨w, hrun, hS⟩ := run_put (P := Try.prog) (t := 81) (u := .slice A6 ((p21 ++ ([(m1, m2, m3)] : List MvT)).length) c6) (i := 0) (hS.at_ 1 rfl) hi81 hs81 rfl (Nat.lt_of_lt_of_eq (Nat.lt_of_succ_le (Nat.le_of_ble_eq_true (by kernel_rfl))) rfl)
    refine at_s hF hrun ?_
    have hS : Sep w0 B w (ownK 88 3 g4 1 1 (List.flatMap enc88 ([(m1, m2, m3)] : List MvT)) :: blk g2 81 #[.slice A6 ((p21 ++ ([(m1, m2, m3)] : List MvT)).length) c6] :: ownK 88 3 A6 ((p21 ++ ([(m1, m2, m3)] : List MvT)).length) c6 (List.flatMap enc88 (p21 ++ ([(m1, m2, m3)] : List MvT))) :: blk g3 88 #[vi m1, vi m2, vi m3] :: blk g1 75 (ca A1 p1_Places1.length c1 p1_Turn1 p1_Castle1 p1_EnPassant1 p1_Half1 p1_Full1) :: fs) := hS
    refine ae [] [] hF rfl (fun hF => ?_)
    refine then_n ?_
    have hS := hS.pickN 5 [4, 1, 2] (by decide)
    exact ⟨(p21 ++ ([(m1, m2, m3)] : List MvT)), A6, c6, hF.wk [], hS, hm⟩
   ·replace hm := if_f hm hb
    refine wpIn_skip ?_
    refine then_n ?_
    have hS := hS.pickN 4 [3, 0, 1] (by decide)
    exact ⟨p21, A2, c2, hF.wk [], hS, hm⟩
  ·obtain ⟨r1, hr1, hm⟩ := call_b hm
   obtain ⟨r2, hr2, hm⟩ := call_b hm
   refine regMix5 [0, 1, 4, 5] [] 4 #[true, true, false, false, true, true, false, false] [⟨false, [], vS (Instr.loadAt 75 (pa g1 0)), .agg (ca A1 p1_Places1.length c1 p1_Turn1 p1_Castle1 p1_EnPassant1 p1_Half1 p1_Full1)⟩, ⟨false, [], vS (Instr.loadAt 88 (pa g3 0)), .agg #[vi m1, vi m2, vi m3]⟩, ⟨false, [], vS (Instr.loadAt 3 (pa g1 1)), vi p1_Turn1⟩] [some (.agg (ca A1 p1_Places1.length c1 p1_Turn1 p1_Castle1 p1_EnPassant1 p1_Half1 p1_Full1)), some (.agg #[vi m1, vi m2, vi m3]), none, some (vi p1_Turn1)] [2, 3, 5, 6, 10] [pl 2 (pa g2 0), pl 3 (pa g3 0), pl 5 (.agg (ca A1 p1_Places1.length c1 p1_Turn1 p1_Castle1 p1_EnPassant1 p1_Half1 p1_Full1)), pl 6 (.agg #[vi m1, vi m2, vi m3]), pl 10 (vi p1_Turn1)] hF hS Fol (by kernel_rfl) (by kernel_rfl) (by kernel_rfl) (by kernel_rfl) ?_ (fun a w hF hS => ?_)
   ·exact obs_cons (oA (cs := (ca A1 p1_Places1.length c1 p1_Turn1 p1_Castle1 p1_EnPassant1 p1_Half1 p1_Full1)) (fun _ _ hS => (hS.at_ 1 rfl).cellsAt 0 (by rfl))) <| obs_cons (oA (cs := #[vi m1, vi m2, vi m3]) (fun _ _ hS => (hS.at_ 0 rfl).cellsAt 0 (by rfl))) <| obs_cons (ob_load Agg3 (fun _ _ hS => (hS.at_ 1 rfl).cell rfl)) <| obs_nil
   refine aq [2] (all_cons ?_ all_nil)
   refine ao (listed' := #[true, true, true, false, true, true, false, false]) ?_
   refine at_call (f := 135) (args := #[.agg (ca A1 p1_Places1.length c1 p1_Turn1 p1_Castle1 p1_EnPassant1 p1_Half1 p1_Full1), .agg #[vi m1, vi m2, vi m3]]) (d := 7) hF (by kernel_rfl) (by kernel_rfl) Try.func135 (by kernel_rfl) rfl (board_After_w hr1 hS (fun _ hS => (hr_p1_Places1 _ (hS.dropN 4))) _hc_p1_Places1 rfl) (fun v a w hR hF => ?_)
   clear hS
   obtain ⟨A5, c5, rfl, hS⟩ := hR
   have hS : Sep w0 B w (own 3 (.slice A5 r1.1.length c5) (vI r1.1) :: blk g3 88 #[vi m1, vi m2, vi m3] :: blk g1 75 (ca A1 p1_Places1.length c1 p1_Turn1 p1_Castle1 p1_EnPassant1 p1_Half1 p1_Full1) :: blk g2 81 #[.slice A2 p21.length c2] :: ownK 88 3 A2 p21.length c2 (List.flatMap enc88 p21) :: fs) := hS
   refine any_fin rfl (hS.pickN 5 [1, 2, 3, 4] (by decide)) ?_
   refine aq [3] (all_cons ?_ all_nil)
   refine ao (listed' := #[true, true, true, true, true, true, false, false]) ?_
   refine aw 1 [] [] [2, 3, 8, 10] [pl 2 (pa g2 0), pl 3 (pa g3 0), pl 8 (.slice A5 r1.1.length c5), pl 10 (vi p1_Turn1)] hF hS obs_nil (fun a hF => ?_)
   refine any_finI rfl (fun h => h) ?_
   refine aq [6] (all_cons ?_ all_nil)
   refine ao (listed' := #[true, true, true, true, true, true, true, false]) ?_
   refine ar 1 [⟨false, [], callFunc 137 #[.slice A5 r1.1.length c5, vi p1_Turn1], .bool r2⟩] [some (.bool r2)] [2, 3, 11] [pl 2 (pa g2 0), pl 3 (pa g3 0), pl 11 (.bool r2)] hF hS ?_ (fun a w hF hS => ?_)
   ·exact obs_cons (ob_call Try.func137 (by kernel_rfl) rfl (fun _ _ hS => board_Checked_w hr2 hS (fun _ hS => (hS.at_ 0 rfl).rd) ((hS.at_ 0 rfl).cap1) rfl)) <| obs_nil
   refine any_fin rfl (hS.pickN 5 [1, 2, 3, 4] (by decide)) ?_
   refine aq [7] (all_cons ?_ all_nil)
   refine ao (listed' := #[true, true, true, true, true, true, true, true]) ?_
   refine aw 1 [] [] [2, 3, 12] [pl 2 (pa g2 0), pl 3 (pa g3 0), pl 12 (.bool (!r2))] hF hS obs_nil (fun a hF => ?_)
   refine any_finI rfl (fun h => h) ?_
   refine any_end (by kernel_rfl) (np_n (then_n ?_))
   have hS := hS.pickN 5 [3, 4, 1, 2] (by decide)
   exact ⟨(!r2), hF.wk [2, 3, 12], hS, hm⟩

def board_crown_J4  (into1 : Int) (yield2 : List MvT) : Option (St (List MvT × Int) (Fl (List MvT) (Bool × List MvT))) :=
 some (.next (yield2, (w64 (into1 + 1))))

def board_crown_J3  (from1 to1 : Int) (v_Places1 : List Int) (v_Turn1 v_Castle1 : Int) (v_EnPassant1 v_Half1 v_Full1 : Int) (yield1 : List MvT) (into1 : Int) : Option (St (List MvT × Int) (Fl (List MvT) (Bool × List MvT))) :=
 (board_Moves_1_m from1 to1 into1 v_Places1 v_Turn1 v_Castle1 v_EnPassant1 v_Half1 v_Full1 yield1).bind fun r2 => if (!r2.1) then (some (.done (.ret (false, r2.2)))) else ((board_crown_J4 into1) r2.2)

def board_crown_J2  (v3 : List MvT) : Option (Bool × List MvT) :=
 some (true, v3)

def board_crown_K1  : (Fl (List MvT) (Bool × List MvT)) → Option (Bool × List MvT) :=
 fun (x : (Fl (List MvT) (Bool × List MvT))) => match x with | .go v3 => board_crown_J2 v3 | .ret x => some x

def board_crown_L1  (from1 to1 : Int) (v_Places1 : List Int) (v_Turn1 v_Castle1 : Int) (v_EnPassant1 v_Half1 v_Full1 : Int) : (List MvT × Int) → Option (St (List MvT × Int) (Fl (List MvT) (Bool × List MvT))) :=
 fun (x : (List MvT × Int)) => match x with | (yield1, into1) => if (decide (into1 ≤ 5)) then ((board_crown_J3 from1 to1 v_Places1 v_Turn1 v_Castle1 v_EnPassant1 v_Half1 v_Full1 yield1 into1)) else (some (.done (.go yield1)))

def board_crown_J1  (from1 to1 : Int) (v_Places1 : List Int) (v_Turn1 v_Castle1 : Int) (v_EnPassant1 v_Half1 v_Full1 : Int) (v1 : List MvT) : Option (Bool × List MvT) :=
 (loop (board_crown_L1 from1 to1 v_Places1 v_Turn1 v_Castle1 v_EnPassant1 v_Half1 v_Full1) (v1, 2)).bind board_crown_K1

def board_crown_m  (from1 to1 : Int) (v_Places1 : List Int) (v_Turn1 v_Castle1 : Int) (v_EnPassant1 v_Half1 v_Full1 : Int) (v1 : List MvT) : Option (Bool × List MvT) :=
 if ((decide ((8 : Int) ≤ to1)) && (decide (to1 < 56))) then ((board_Moves_1_m from1 to1 0 v_Places1 v_Turn1 v_Castle1 v_EnPassant1 v_Half1 v_Full1 v1).bind fun r1 => some (r1.1, r1.2)) else ((board_crown_J1 from1 to1 v_Places1 v_Turn1 v_Castle1 v_EnPassant1 v_Half1 v_Full1 v1))

theorem board_crown_w {from1 to1 : Int} {g1 : Nat} {A1 : Option Addr} {c1 n1 : Nat} {v_Places1 : List Int} {v_Turn1 v_Castle1 : Int} {v_EnPassant1 v_Half1 v_Full1 : Int} {g2 : Nat} {A2 : Option Addr} {c2 n2 : Nat} {v1 : List MvT} {r : (Bool × List MvT)} {w0 w : World} {B : Nat} {fs : List HP} (hm : board_crown_m from1 to1 v_Places1 v_Turn1 v_Castle1 v_EnPassant1 v_Half1 v_Full1 v1 = some r) (hS : Sep w0 B w (blk g1 75 (ca A1 n1 c1 v_Turn1 v_Castle1 v_EnPassant1 v_Half1 v_Full1) :: blk g2 81 #[.slice A2 n2 c2] :: ownK 88 3 A2 n2 c2 (List.flatMap enc88 v1) :: fs)) (hr_v_Places1 : RdF w0 B fs A1 (vI v_Places1)) (_hc_v_Places1 : v_Places1.length ≤ c1) (_hn_v_Places1 : n1 = v_Places1.length) :
  Calls Try.prog 198 #[vi from1, vi to1, .func (.func 195) #[] #[pa g1 0, pa g2 0]] w fun e w' => ∃ v, e = .returned v ∧ ∃ (A3 : Option Addr) (c3 : Nat), v = .bool r.1 ∧ Sep w0 B w' (blk g1 75 (ca A1 n1 c1 v_Turn1 v_Castle1 v_EnPassant1 v_Half1 v_Full1) :: blk g2 81 #[.slice A3 r.2.length c3] :: ownK 88 3 A3 r.2.length c3 (List.flatMap enc88 r.2) :: fs) := by
 obtain ⟨i3, hi3, hz3, hs3, hb3⟩ := info_parts Info3
 obtain ⟨i88, hi88, hz88, hs88, hb88⟩ := info_parts Info88
 obtain rfl := (hS.at_ 2 rfl).lenK encK88
 obtain rfl := _hn_v_Places1
 unfold board_crown_m at hm
 replace hm := start_b hm
 refine enter (l := [vi from1, vi to1, .func (.func 195) #[] #[pa g1 0, pa g2 0]]) (n := 30) Try.func198 rfl rfl (by simp) (fun a hF => ?_)
 refine rg [] [] [0, 1, 2] [pl 0 (vi from1), pl 1 (vi to1), pl 2 (.func (.func 195) #[] #[pa g1 0, pa g2 0])] hF hS obs_nil (fun a w hF hS => ?_)
 refine seq_cut (fun a w => Fr 30 [pl 0 (vi from1), pl 1 (vi to1), pl 2 (.func (.func 195) #[] #[pa g1 0, pa g2 0])] a ∧ Sep w0 B w (blk g1 75 (ca A1 v_Places1.length c1 v_Turn1 v_Castle1 v_EnPassant1 v_Half1 v_Full1) :: blk g2 81 #[.slice A2 v1.length c2] :: ownK 88 3 A2 v1.length c2 (List.flatMap enc88 v1) :: fs) ∧ ((board_crown_J1 from1 to1 v_Places1 v_Turn1 v_Castle1 v_EnPassant1 v_Half1 v_Full1 v1)).bind some = some r) ?_ ?_
 ·rintro a w ⟨hF, hS, hm⟩
  unfold board_crown_J1 at hm
  refine seq_cut (fun a w => ∃ (v3 : List MvT) (A6 : Option Addr) (c6 : Nat), Fr 30 [] a ∧ Sep w0 B w (blk g1 75 (ca A1 v_Places1.length c1 v_Turn1 v_Castle1 v_EnPassant1 v_Half1 v_Full1) :: blk g2 81 #[.slice A6 v3.length c6] :: ownK 88 3 A6 v3.length c6 (List.flatMap enc88 v3) :: fs) ∧ (board_crown_J2 v3).bind some = some r) ?_ ?_
  ·rintro a w ⟨v3, A6, c6, hF, hS, hm⟩
   unfold board_crown_J2 at hm
   refine rg [] [] [6] [pl 6 (.bool true)] hF hS obs_nil (fun a w hF hS => ?_)
   refine wpIn_ret ?_
   have hm : some (true, v3) = some r := hm
   obtain rfl := Option.some.inj hm
   exact retV (rs := [.tmp 6]) (vs := [.bool true]) hF rfl rv1 rfl ⟨_, rfl, A6, c6, rfl, hS⟩
  ·refine rg [] [] [0, 1, 2, 7] [pl 0 (vi from1), pl 1 (vi to1), pl 2 (.func (.func 195) #[] #[pa g1 0, pa g2 0]), pl 7 (vi 2)] hF hS obs_nil (fun a w hF hS => ?_)
   refine wpIn_block ?_
   refine wp_loop_model (S := (List MvT × Int)) (R := (Fl (List MvT) (Bool × List MvT))) (board_crown_L1 from1 to1 v_Places1 v_Turn1 v_Castle1 v_EnPassant1 v_Half1 v_Full1) (fun x => (board_crown_K1 x).bind some) r (fun (x : (List MvT × Int)) a w => ∃ (A5 : Option Addr) (c5 : Nat), Fr 30 [pl 0 (vi from1), pl 1 (vi to1), pl 2 (.func (.func 195) #[] #[pa g1 0, pa g2 0]), pl 7 (vi x.2)] a ∧ Sep w0 B w (blk g1 75 (ca A1 v_Places1.length c1 v_Turn1 v_Castle1 v_EnPassant1 v_Half1 v_Full1) :: blk g2 81 #[.slice A5 x.1.length c5] :: ownK 88 3 A5 x.1.length c5 (List.flatMap enc88 x.1) :: fs)) (assoc_b hm) ⟨A2, c2, hF.wk [0, 1, 2, 7], hS⟩ ?_
   clear hF hS hm
   rintro nn1 ⟨yield1, into1⟩ a w ⟨A5, c5, hF, hS⟩ hm
   generalize hφ1 : stK (board_crown_L1 from1 to1 v_Places1 v_Turn1 v_Castle1 v_EnPassant1 v_Half1 v_Full1) nn1 (fun x => (board_crown_K1 x).bind some) = φ1 at hm
   unfold board_crown_L1 at hm
   dsimp only at hF hS hm
   refine seq_cut (fun a w => Fr 30 [pl 0 (vi from1), pl 1 (vi to1), pl 2 (.func (.func 195) #[] #[pa g1 0, pa g2 0]), pl 7 (vi into1)] a ∧ Sep w0 B w (blk g1 75 (ca A1 v_Places1.length c1 v_Turn1 v_Castle1 v_EnPassant1 v_Half1 v_Full1) :: blk g2 81 #[.slice A5 yield1.length c5] :: ownK 88 3 A5 yield1.length c5 (List.flatMap enc88 yield1) :: fs) ∧ ((board_crown_J3 from1 to1 v_Places1 v_Turn1 v_Castle1 v_EnPassant1 v_Half1 v_Full1 yield1 into1)).bind φ1 = some r) ?_ ?_
   ·rintro a w ⟨hF, hS, hm⟩
    unfold board_crown_J3 at hm
    refine seq_cut (fun a w => ∃ (yield2 : List MvT) (A8 : Option Addr) (c8 : Nat), Fr 30 [pl 0 (vi from1), pl 1 (vi to1), pl 2 (.func (.func 195) #[] #[pa g1 0, pa g2 0]), pl 7 (vi into1)] a ∧ Sep w0 B w (blk g1 75 (ca A1 v_Places1.length c1 v_Turn1 v_Castle1 v_EnPassant1 v_Half1 v_Full1) :: blk g2 81 #[.slice A8 yield2.length c8] :: ownK 88 3 A8 yield2.length c8 (List.flatMap enc88 yield2) :: fs) ∧ ((board_crown_J4 into1) yield2).bind φ1 = some r) ?_ ?_
    ·rintro a w ⟨yield2, A8, c8, hF, hS, hm⟩
     unfold board_crown_J4 at hm
     refine rg1 [] [] [0, 1, 2, 7] [pl 0 (vi from1), pl 1 (vi to1), pl 2 (.func (.func 195) #[] #[pa g1 0, pa g2 0]), pl 7 (vi (w64 (into1 + 1)))] hF hS obs_nil (fun a w hF hS => ?_)
     refine then_n ?_
     rw [← hφ1] at hm
     exact ⟨(yield2, (w64 (into1 + 1))), ⟨A8, c8, hF.wk [0, 1, 2, 7], hS⟩, hm⟩
    ·refine wpIn_block ?_
     refine seqR ?_
     obtain ⟨r2, hr2, hm⟩ := call_b hm
     refine ar 5 [] [] [0, 1, 2, 7, 23, 27] [pl 0 (vi from1), pl 1 (vi to1), pl 2 (.func (.func 195) #[] #[pa g1 0, pa g2 0]), pl 7 (vi into1), pl 23 (.func (.func 195) #[] #[pa g1 0, pa g2 0]), pl 27 (.agg #[vi from1, vi to1, vi into1])] hF hS obs_nil (fun a w hF hS => ?_)
     refine at_call (f := 195) (args := #[.agg #[vi from1, vi to1, vi into1], pa g1 0, pa g2 0]) (d := 28) hF (by kernel_rfl) (by kernel_rfl) Try.func195 (by kernel_rfl) rfl (board_Moves_1_w hr2 hS (fun _ hS => (hr_v_Places1 _ (hS.dropN 0))) _hc_v_Places1 rfl) (fun v a w hR hF => ?_)
     clear hS
     obtain ⟨A7, c7, rfl, hS⟩ := hR
     have hS : Sep w0 B w (blk g1 75 (ca A1 v_Places1.length c1 v_Turn1 v_Castle1 v_EnPassant1 v_Half1 v_Full1) :: blk g2 81 #[.slice A7 r2.2.length c7] :: ownK 88 3 A7 r2.2.length c7 (List.flatMap enc88 r2.2) :: fs) := hS
     refine ar 1 [] [] [0, 1, 2, 7, 29] [pl 0 (vi from1), pl 1 (vi to1), pl 2 (.func (.func 195) #[] #[pa g1 0, pa g2 0]), pl 7 (vi into1), pl 29 (.bool (!r2.1))] hF hS obs_nil (fun a w hF hS => ?_)
     refine ae [0, 1, 2, 7, 29] [pl 0 (vi from1), pl 1 (vi to1), pl 2 (.func (.func 195) #[] #[pa g1 0, pa g2 0]), pl 7 (vi into1), pl 29 (.bool (!r2.1))] hF rfl (fun hF => ?_)
     refine then_n ?_
     refine ce (t := 29) (b := !r2.1) hF (fun hb => ?_) (fun hb => ?_)
     ·replace hm := if_t hm hb
      refine rg [] [] [6] [pl 6 (.bool false)] hF hS obs_nil (fun a w hF hS => ?_)
      refine wpIn_ret ?_
      refine block_r (then_r (then_r (block_r (then_r ?_))))
      rw [← hφ1] at hm
      replace hm := done_b hm
      unfold board_crown_K1 at hm
      try dsimp only at hm
      have hm : some (false, r2.2) = some r := hm
      obtain rfl := Option.some.inj hm
      exact retV (rs := [.tmp 6]) (vs := [.bool false]) hF rfl rv1 rfl ⟨_, rfl, A7, c7, rfl, hS⟩
     ·replace hm := if_f hm hb
      refine wpIn_skip ?_
      refine block_n ?_
      refine then_n ?_
      exact ⟨r2.2, A7, c7, hF.wk [0, 1, 2, 7], hS, hm⟩
   ·refine rg [] [] [0, 1, 2, 7, 20] [pl 0 (vi from1), pl 1 (vi to1), pl 2 (.func (.func 195) #[] #[pa g1 0, pa g2 0]), pl 7 (vi into1), pl 20 (.bool (decide (into1 ≤ 5)))] hF hS obs_nil (fun a w hF hS => ?_)
    refine ce (t := 20) (b := decide (into1 ≤ 5)) hF (fun hb => ?_) (fun hb => ?_)
    ·replace hm := if_t hm hb
     refine wpIn_skip ?_
     refine then_n ?_
     exact ⟨hF.wk [0, 1, 2, 7], hS, hm⟩
    ·replace hm := if_f hm hb
     refine wpIn_exit ?_
     refine then_e (then_e (block_e (then_n ?_)))
     rw [← hφ1] at hm
     replace hm := done_b hm
     unfold board_crown_K1 at hm
     try dsimp only at hm
     have hm : (board_crown_J2 yield1).bind some = some r := hm
     exact ⟨yield1, A5, c5, hF.wk [], hS, hm⟩
 ·refine rg [] [] [0, 1, 2, 13] [pl 0 (vi from1), pl 1 (vi to1), pl 2 (.func (.func 195) #[] #[pa g1 0, pa g2 0]), pl 13 (.bool ((decide ((8 : Int) ≤ to1)) && (decide (to1 < 56))))] hF hS obs_nil (fun a w hF hS => ?_)
  refine ce (t := 13) (b := (decide ((8 : Int) ≤ to1)) && (decide (to1 < 56))) hF (fun hb => ?_) (fun hb => ?_)
  ·replace hm := if_t hm hb
   refine seqR ?_
   obtain ⟨r1, hr1, hm⟩ := call_b hm
   refine ar 4 [] [] [14, 17] [pl 14 (.func (.func 195) #[] #[pa g1 0, pa g2 0]), pl 17 (.agg #[vi from1, vi to1, vi 0])] hF hS obs_nil (fun a w hF hS => ?_)
   refine at_call (f := 195) (args := #[.agg #[vi from1, vi to1, vi 0], pa g1 0, pa g2 0]) (d := 18) hF (by kernel_rfl) (by kernel_rfl) Try.func195 (by kernel_rfl) rfl (board_Moves_1_w hr1 hS (fun _ hS => (hr_v_Places1 _ (hS.dropN 0))) _hc_v_Places1 rfl) (fun v a w hR hF => ?_)
   clear hS
   obtain ⟨A4, c4, rfl, hS⟩ := hR
   have hS : Sep w0 B w (blk g1 75 (ca A1 v_Places1.length c1 v_Turn1 v_Castle1 v_EnPassant1 v_Half1 v_Full1) :: blk g2 81 #[.slice A4 r1.2.length c4] :: ownK 88 3 A4 r1.2.length c4 (List.flatMap enc88 r1.2) :: fs) := hS
   refine ar 1 [] [] [6] [pl 6 (.bool r1.1)] hF hS obs_nil (fun a w hF hS => ?_)
   refine ae [6] [pl 6 (.bool r1.1)] hF rfl (fun hF => ?_)
   refine then_n (wpIn_ret ?_)
   refine then_r ?_
   have hm : some (r1.1, r1.2) = some r := hm
   obtain rfl := Option.some.inj hm
   exact retV (rs := [.tmp 6]) (vs := [.bool r1.1]) hF rfl rv1 rfl ⟨_, rfl, A4, c4, rfl, hS⟩
  ·replace hm := if_f hm hb
   refine wpIn_skip ?_
   refine then_n ?_
   exact ⟨hF.wk [0, 1, 2], hS, hm⟩

def board_Moves_2_J1  (p22 : List MvT) : Option (List MvT) :=
 some p22

def board_Moves_2_m  (to1 p11 : Int) (v_Places1 : List Int) (v_Turn1 v_Castle1 : Int) (v_EnPassant1 v_Half1 v_Full1 : Int) (v1 : List MvT) : Option (List MvT) :=
 (board_crown_m p11 to1 v_Places1 v_Turn1 v_Castle1 v_EnPassant1 v_Half1 v_Full1 v1).bind fun r1 => board_Moves_2_J1 r1.2

theorem board_Moves_2_w {to1 : Int} {g1 : Nat} {p11 : Int} {g2 g3 : Nat} {A1 : Option Addr} {c1 n1 : Nat} {v_Places1 : List Int} {v_Turn1 v_Castle1 : Int} {v_EnPassant1 v_Half1 v_Full1 : Int} {g4 : Nat} {A2 : Option Addr} {c2 n2 : Nat} {v1 : List MvT} {r : (List MvT)} {w0 w : World} {B : Nat} {fs : List HP} (hm : board_Moves_2_m to1 p11 v_Places1 v_Turn1 v_Castle1 v_EnPassant1 v_Half1 v_Full1 v1 = some r) (hS : Sep w0 B w (blk g1 3 #[vi p11] :: blk g2 214 #[.func (.func 195) #[] #[pa g3 0, pa g4 0]] :: blk g3 75 (ca A1 n1 c1 v_Turn1 v_Castle1 v_EnPassant1 v_Half1 v_Full1) :: blk g4 81 #[.slice A2 n2 c2] :: ownK 88 3 A2 n2 c2 (List.flatMap enc88 v1) :: fs)) (hr_v_Places1 : RdF w0 B fs A1 (vI v_Places1)) (_hc_v_Places1 : v_Places1.length ≤ c1) (_hn_v_Places1 : n1 = v_Places1.length) :
  Calls Try.prog 197 #[vi to1, pa g1 0, pa g2 0] w fun e w' => ∃ v, e = .returned v ∧ ∃ (A3 : Option Addr) (c3 : Nat), v = .tuple #[] ∧ Sep w0 B w' (blk g1 3 #[vi p11] :: blk g2 214 #[.func (.func 195) #[] #[pa g3 0, pa g4 0]] :: blk g3 75 (ca A1 n1 c1 v_Turn1 v_Castle1 v_EnPassant1 v_Half1 v_Full1) :: blk g4 81 #[.slice A3 r.length c3] :: ownK 88 3 A3 r.length c3 (List.flatMap enc88 r) :: fs) := by
 obtain ⟨i3, hi3, hz3, hs3, hb3⟩ := info_parts Info3
 obtain ⟨i88, hi88, hz88, hs88, hb88⟩ := info_parts Info88
 obtain rfl := (hS.at_ 4 rfl).lenK encK88
 obtain rfl := _hn_v_Places1
 unfold board_Moves_2_m at hm
 replace hm := start_b hm
 refine enter (l := [vi to1, pa g1 0, pa g2 0]) (n := 8) Try.func197 rfl rfl (by simp) (fun a hF => ?_)
 refine end_cut (fun a w => ∃ (p22 : List MvT) (A5 : Option Addr) (c5 : Nat), Fr 8 [] a ∧ Sep w0 B w (blk g1 3 #[vi p11] :: blk g2 214 #[.func (.func 195) #[] #[pa g3 0, pa g4 0]] :: blk g3 75 (ca A1 v_Places1.length c1 v_Turn1 v_Castle1 v_EnPassant1 v_Half1 v_Full1) :: blk g4 81 #[.slice A5 p22.length c5] :: ownK 88 3 A5 p22.length c5 (List.flatMap enc88 p22) :: fs) ∧ (board_Moves_2_J1 p22).bind some = some r) ?_ ?_
 ·rintro a w ⟨p22, A5, c5, hF, hS, hm⟩
  unfold board_Moves_2_J1 at hm
  have hm : some p22 = some r := hm
  obtain rfl := Option.some.inj hm
  exact endV (rs := []) (vs := []) hF rfl (rv_nil) rfl ⟨_, rfl, A5, c5, rfl, hS⟩ rfl
 ·refine oneR ?_
  obtain ⟨r1, hr1, hm⟩ := call_b hm
  refine ar 3 [⟨false, [], vS (Instr.loadAt 3 (pa g1 0)), vi p11⟩, ⟨false, [], vS (Instr.loadAt 214 (pa g2 0)), .func (.func 195) #[] #[pa g3 0, pa g4 0]⟩] [some (vi p11), none, some (.func (.func 195) #[] #[pa g3 0, pa g4 0])] [4, 5, 6] [pl 4 (vi p11), pl 5 (vi to1), pl 6 (.func (.func 195) #[] #[pa g3 0, pa g4 0])] hF hS ?_ (fun a w hF hS => ?_)
  ·exact obs_cons (ob_load Agg3 (fun _ _ hS => (hS.at_ 0 rfl).cell rfl)) <| obs_cons (ob_load Agg214 (fun _ _ hS => (hS.at_ 1 rfl).cell rfl)) <| obs_nil
  have hS : Sep w0 B w (blk g3 75 (ca A1 v_Places1.length c1 v_Turn1 v_Castle1 v_EnPassant1 v_Half1 v_Full1) :: blk g4 81 #[.slice A2 v1.length c2] :: ownK 88 3 A2 v1.length c2 (List.flatMap enc88 v1) :: blk g1 3 #[vi p11] :: blk g2 214 #[.func (.func 195) #[] #[pa g3 0, pa g4 0]] :: fs) := hS.pickN 5 [2, 3, 4, 0, 1] (by decide)
  refine at_call (f := 198) (args := #[vi p11, vi to1, .func (.func 195) #[] #[pa g3 0, pa g4 0]]) (d := 7) hF (by kernel_rfl) (by kernel_rfl) Try.func198 (by kernel_rfl) rfl (board_crown_w hr1 hS (fun _ hS => (hr_v_Places1 _ (hS.dropN 2))) _hc_v_Places1 rfl) (fun v a w hR hF => ?_)
  clear hS
  obtain ⟨A4, c4, rfl, hS⟩ := hR
  have hS : Sep w0 B w (blk g3 75 (ca A1 v_Places1.length c1 v_Turn1 v_Castle1 v_EnPassant1 v_Half1 v_Full1) :: blk g4 81 #[.slice A4 r1.2.length c4] :: ownK 88 3 A4 r1.2.length c4 (List.flatMap enc88 r1.2) :: blk g1 3 #[vi p11] :: blk g2 214 #[.func (.func 195) #[] #[pa g3 0, pa g4 0]] :: fs) := hS
  refine ae [] [] hF rfl (fun hF => ?_)
  refine then_n ?_
  have hS := hS.pickN 5 [3, 4, 0, 1, 2] (by decide)
  exact ⟨r1.2, A4, c4, hF.wk [], hS, hm⟩

def board_pawn_J1  (v4 : List MvT) : Option (List MvT) :=
 some v4

def board_pawn_J3  (p1 : List Int) (p2 from1 v1 : Int) (v_Places1 : List Int) (v_Turn1 v_Castle1 : Int) (v_EnPassant1 v_Half1 : Int) (v_Full1 r1 : Int) (tell2 : List MvT) : Option (List MvT) :=
 (board_Moves_2_m (w64 (from1 + (w64 (8 * r1)))) v1 v_Places1 v_Turn1 v_Castle1 v_EnPassant1 v_Half1 v_Full1 tell2).bind fun r5 => asrt (((shrK .i64 from1 3) == (w64 (1 + (w64 (5 * p2))))) = true → 0 ≤ (w64 (from1 + (w64 (2 * (w64 (8 * r1)))))) ∧ (w64 (from1 + (w64 (2 * (w64 (8 * r1)))))) < (p1.length : Int)) <| if (((shrK .i64 from1 3) == (w64 (1 + (w64 (5 * p2))))) && ((geti p1 (w64 (from1 + (w64 (2 * (w64 (8 * r1))))))) == 0)) then ((board_Moves_2_m (w64 (from1 + (w64 (2 * (w64 (8 * r1)))))) v1 v_Places1 v_Turn1 v_Castle1 v_EnPassant1 v_Half1 v_Full1 r5).bind fun r6 => board_pawn_J1 r6) else (board_pawn_J1 r5)

def board_pawn_J2  (p1 : List Int) (p2 from1 v1 : Int) (v_Places1 : List Int) (v_Turn1 v_Castle1 : Int) (v_EnPassant1 v_Half1 : Int) (v_Full1 r1 : Int) (tell2 : List MvT) : Option (List MvT) :=
 asrt (0 ≤ (w64 (from1 + (w64 (8 * r1)))) ∧ (w64 (from1 + (w64 (8 * r1)))) < (p1.length : Int)) <| if ((geti p1 (w64 (from1 + (w64 (8 * r1))))) != 0) then (some tell2) else ((board_pawn_J3 p1 p2 from1 v1 v_Places1 v_Turn1 v_Castle1 v_EnPassant1 v_Half1 v_Full1 r1 tell2))

def board_pawn_K1  (p1 : List Int) (p2 from1 v1 : Int) (v_Places1 : List Int) (v_Turn1 v_Castle1 : Int) (v_EnPassant1 v_Half1 : Int) (v_Full1 r1 : Int) : (St (List MvT) Unit) → Option (List MvT) :=
 fun (x : St (List MvT) Unit) => match x with | .next tell1 => (board_pawn_J2 p1 p2 from1 v1 v_Places1 v_Turn1 v_Castle1 v_EnPassant1 v_Half1 v_Full1 r1) tell1 | .done _ => none

def board_pawn_L1  (p1 : List Int) (p2 p4 v1 : Int) (v_Places1 : List Int) (v_Turn1 v_Castle1 : Int) (v_EnPassant1 v_Half1 v_Full1 : Int) : (Int × (List MvT)) → Option (St (List MvT) Unit) :=
 fun (x : Int × (List MvT)) => match x with | (x1, tell1) => asrt (0 ≤ x1 ∧ x1 < (p1.length : Int)) <| (board_Side_m (geti p1 x1)).bind fun r3 => if ((r3 == (w64 (1 - p2))) || (x1 == p4)) then ((board_Moves_2_m x1 v1 v_Places1 v_Turn1 v_Castle1 v_EnPassant1 v_Half1 v_Full1 tell1).bind fun r4 => some (.next r4)) else (some (.next tell1))

def board_pawn_m  (p1 : List Int) (p2 p3 : Int) (p4 p5 : Int) (p6 from1 v1 : Int) (v_Places1 : List Int) (v_Turn1 v_Castle1 : Int) (v_EnPassant1 v_Half1 v_Full1 : Int) (v2 : List MvT) : Option (List MvT) :=
 (board_forward_m p2).bind fun r1 => (board_Reach_m p1 from1).bind fun r2 => (board_Reach_1_m (ydOf (fun x s => (board_pawn_L1 p1 p2 p4 v1 v_Places1 v_Turn1 v_Castle1 v_EnPassant1 v_Half1 v_Full1) (x, s))) (.next v2) p1 r2).bind (board_pawn_K1 p1 p2 from1 v1 v_Places1 v_Turn1 v_Castle1 v_EnPassant1 v_Half1 v_Full1 r1)

theorem board_pawn_w {A1 : Option Addr} {c1 n1 : Nat} {p1 : List Int} {p2 p3 : Int} {p4 p5 : Int} {p6 from1 : Int} {g1 : Nat} {v1 : Int} {g2 g3 : Nat} {A2 : Option Addr} {c2 n2 : Nat} {v_Places1 : List Int} {v_Turn1 v_Castle1 : Int} {v_EnPassant1 v_Half1 v_Full1 : Int} {g4 : Nat} {A3 : Option Addr} {c3 n3 : Nat} {v2 : List MvT} {r : (List MvT)} {w0 w : World} {B : Nat} {fs : List HP} (hm : board_pawn_m p1 p2 p3 p4 p5 p6 from1 v1 v_Places1 v_Turn1 v_Castle1 v_EnPassant1 v_Half1 v_Full1 v2 = some r) (hS : Sep w0 B w (blk g1 3 #[vi v1] :: blk g2 214 #[.func (.func 195) #[] #[pa g3 0, pa g4 0]] :: blk g3 75 (ca A2 n2 c2 v_Turn1 v_Castle1 v_EnPassant1 v_Half1 v_Full1) :: blk g4 81 #[.slice A3 n3 c3] :: ownK 88 3 A3 n3 c3 (List.flatMap enc88 v2) :: fs)) (hr_p1 : RdF w0 B fs A1 (vI p1)) (_hc_p1 : p1.length ≤ c1) (_hn_p1 : n1 = p1.length) (hr_v_Places1 : RdF w0 B fs A2 (vI v_Places1)) (_hc_v_Places1 : v_Places1.length ≤ c2) (_hn_v_Places1 : n2 = v_Places1.length) :
  Calls Try.prog 196 #[.agg (ca A1 n1 c1 p2 p3 p4 p5 p6), vi from1, .func (.func 197) #[] #[pa g1 0, pa g2 0]] w fun e w' => ∃ v, e = .returned v ∧ ∃ (A4 : Option Addr) (c4 : Nat), v = .tuple #[] ∧ Sep w0 B w' (blk g1 3 #[vi v1] :: blk g2 214 #[.func (.func 195) #[] #[pa g3 0, pa g4 0]] :: blk g3 75 (ca A2 n2 c2 v_Turn1 v_Castle1 v_EnPassant1 v_Half1 v_Full1) :: blk g4 81 #[.slice A4 r.length c4] :: ownK 88 3 A4 r.length c4 (List.flatMap enc88 r) :: fs) := by
 obtain ⟨i3, hi3, hz3, hs3, hb3⟩ := info_parts Info3
 obtain ⟨i88, hi88, hz88, hs88, hb88⟩ := info_parts Info88
 obtain rfl := (hS.at_ 4 rfl).lenK encK88
 obtain rfl := _hn_p1
 obtain rfl := _hn_v_Places1
 unfold board_pawn_m at hm
 replace hm := start_b hm
 refine enter (l := [.agg (ca A1 p1.length c1 p2 p3 p4 p5 p6), vi from1, .func (.func 197) #[] #[pa g1 0, pa g2 0]]) (n := 73) Try.func196 rfl rfl (by simp) (fun a hF => ?_)
 have hS := hS.defs0
 refine end_cut (fun a w => ∃ (v4 : List MvT) (A10 : Option Addr) (c10 : Nat) (Ds4 : List Nat), FrD Ds4 73 [] a ∧ Sep w0 B w (blk g1 3 #[vi v1] :: blk g2 214 #[.func (.func 195) #[] #[pa g3 0, pa g4 0]] :: blk g3 75 (ca A2 v_Places1.length c2 v_Turn1 v_Castle1 v_EnPassant1 v_Half1 v_Full1) :: blk g4 81 #[.slice A10 v4.length c10] :: ownK 88 3 A10 v4.length c10 (List.flatMap enc88 v4) :: defsH Ds4 :: fs) ∧ (board_pawn_J1 v4).bind some = some r) ?_ ?_
 ·rintro a w ⟨v4, A10, c10, Ds4, hF, hS, hm⟩
  unfold board_pawn_J1 at hm
  have hS := hS.pickN 6 [5, 0, 1, 2, 3, 4] (by decide)
  have hm : some v4 = some r := hm
  obtain rfl := Option.some.inj hm
  exact endD (rs := []) (vs := []) hF hS rfl (fun w hS => by exact rv_nil) rfl (fun w hS => ⟨_, rfl, A10, c10, rfl, hS⟩)
 ·refine seqR ?_
  refine at_do (d := 3) (s := vS (Instr.box 75 (.agg (ca A1 p1.length c1 p2 p3 p4 p5 p6)))) (v := pa w.heap.size 0) (w' := w.alloc (.cells (ca A1 p1.length c1 p2 p3 p4 p5 p6) 75)) hF (by kernel_rfl) (by kernel_rfl) (by kernel_rfl) (fun a hF => ?_)
  have hS : Sep w0 B (w.alloc (.cells (ca A1 p1.length c1 p2 p3 p4 p5 p6) 75)) (blk w.heap.size 75 (ca A1 p1.length c1 p2 p3 p4 p5 p6) :: (defsH ([]) :: blk g1 3 #[vi v1] :: blk g2 214 #[.func (.func 195) #[] #[pa g3 0, pa g4 0]] :: blk g3 75 (ca A2 v_Places1.length c2 v_Turn1 v_Castle1 v_EnPassant1 v_Half1 v_Full1) :: blk g4 81 #[.slice A3 v2.length c3] :: ownK 88 3 A3 v2.length c3 (List.flatMap enc88 v2) :: fs)) := hS.box 75 (ca A1 p1.length c1 p2 p3 p4 p5 p6)
  generalize w.heap.size = g5 at hF hS
  generalize w.alloc (.cells (ca A1 p1.length c1 p2 p3 p4 p5 p6) 75) = w at hS ⊢
  refine at_do (d := 5) (s := vS (Instr.box 207 (.func (.func 197) #[] #[pa g1 0, pa g2 0]))) (v := pa w.heap.size 0) (w' := w.alloc (.cells #[.func (.func 197) #[] #[pa g1 0, pa g2 0]] 207)) hF (by kernel_rfl) (by kernel_rfl) (by kernel_rfl) (fun a hF => ?_)
  have hS : Sep w0 B (w.alloc (.cells #[.func (.func 197) #[] #[pa g1 0, pa g2 0]] 207)) (blk w.heap.size 207 #[.func (.func 197) #[] #[pa g1 0, pa g2 0]] :: (blk g5 75 (ca A1 p1.length c1 p2 p3 p4 p5 p6) :: defsH ([]) :: blk g1 3 #[vi v1] :: blk g2 214 #[.func (.func 195) #[] #[pa g3 0, pa g4 0]] :: blk g3 75 (ca A2 v_Places1.length c2 v_Turn1 v_Castle1 v_EnPassant1 v_Half1 v_Full1) :: blk g4 81 #[.slice A3 v2.length c3] :: ownK 88 3 A3 v2.length c3 (List.flatMap enc88 v2) :: fs)) := hS.box 207 #[.func (.func 197) #[] #[pa g1 0, pa g2 0]]
  generalize w.heap.size = g6 at hF hS
  generalize w.alloc (.cells #[.func (.func 197) #[] #[pa g1 0, pa g2 0]] 207) = w at hS ⊢
  refine ae [1, 3, 5] [pl 1 (vi from1), pl 3 (pa g5 0), pl 5 (pa g6 0)] hF rfl (fun hF => ?_)
  refine then_n ?_
  obtain ⟨r1, hr1, hm⟩ := call_b hm
  refine rg [⟨false, [], vS (Instr.loadAt 3 (pa g5 1)), vi p2⟩, ⟨false, [], callFunc 192 #[vi p2], vi r1⟩] [none, some (vi p2), some (vi r1), none, none] [1, 3, 5, 6] [pl 1 (vi from1), pl 3 (pa g5 0), pl 5 (pa g6 0), pl 6 (vi (w64 (8 * r1)))] hF hS ?_ (fun a w hF hS => ?_)
  ·exact obs_cons (ob_load Agg3 (fun _ _ hS => (hS.at_ 1 rfl).cell rfl)) <| obs_cons (ob_call Try.func192 (by kernel_rfl) rfl (fun _ _ hS => board_forward_w hr1 hS )) <| obs_nil
  refine seq_cut (fun a w => ∃ (tell2 : List MvT) (A7 : Option Addr) (c7 : Nat) (Ds2 : List Nat), FrD Ds2 73 [pl 1 (vi from1), pl 3 (pa g5 0), pl 5 (pa g6 0), pl 6 (vi (w64 (8 * r1)))] a ∧ Sep w0 B w (blk g5 75 (ca A1 p1.length c1 p2 p3 p4 p5 p6) :: blk g6 207 #[.func (.func 197) #[] #[pa g1 0, pa g2 0]] :: blk g1 3 #[vi v1] :: blk g2 214 #[.func (.func 195) #[] #[pa g3 0, pa g4 0]] :: blk g3 75 (ca A2 v_Places1.length c2 v_Turn1 v_Castle1 v_EnPassant1 v_Half1 v_Full1) :: blk g4 81 #[.slice A7 tell2.length c7] :: ownK 88 3 A7 tell2.length c7 (List.flatMap enc88 tell2) :: defsH Ds2 :: fs) ∧ ((board_pawn_J2 p1 p2 from1 v1 v_Places1 v_Turn1 v_Castle1 v_EnPassant1 v_Half1 v_Full1 r1) tell2).bind some = some r) ?_ ?_
  ·rintro a w ⟨tell2, A7, c7, Ds2, hF, hS, hm⟩
   unfold board_pawn_J2 at hm
   refine seq_cut (fun a w => ∃ (Ds3 : List Nat), FrD Ds3 73 [pl 1 (vi from1), pl 3 (pa g5 0), pl 5 (pa g6 0), pl 6 (vi (w64 (8 * r1)))] a ∧ Sep w0 B w (blk g5 75 (ca A1 p1.length c1 p2 p3 p4 p5 p6) :: blk g6 207 #[.func (.func 197) #[] #[pa g1 0, pa g2 0]] :: blk g1 3 #[vi v1] :: blk g2 214 #[.func (.func 195) #[] #[pa g3 0, pa g4 0]] :: blk g3 75 (ca A2 v_Places1.length c2 v_Turn1 v_Castle1 v_EnPassant1 v_Half1 v_Full1) :: blk g4 81 #[.slice A7 tell2.length c7] :: ownK 88 3 A7 tell2.length c7 (List.flatMap enc88 tell2) :: defsH Ds3 :: fs) ∧ ((board_pawn_J3 p1 p2 from1 v1 v_Places1 v_Turn1 v_Castle1 v_EnPassant1 v_Half1 v_Full1 r1 tell2)).bind some = some r) ?_ ?_
   ·rintro a w ⟨Ds3, hF, hS, hm⟩
    unfold board_pawn_J3 at hm
    refine seqR ?_
    obtain ⟨r5, hr5, hm⟩ := call_b hm
    refine ar 4 [⟨false, [], vS (Instr.loadAt 207 (pa g6 0)), .func (.func 197) #[] #[pa g1 0, pa g2 0]⟩] [some (.func (.func 197) #[] #[pa g1 0, pa g2 0]), none, none, none] [1, 3, 5, 6, 44, 47] [pl 1 (vi from1), pl 3 (pa g5 0), pl 5 (pa g6 0), pl 6 (vi (w64 (8 * r1))), pl 44 (.func (.func 197) #[] #[pa g1 0, pa g2 0]), pl 47 (vi (w64 (from1 + (w64 (8 * r1)))))] hF hS ?_ (fun a w hF hS => ?_)
    ·exact obs_cons (ob_load Agg207 (fun _ _ hS => (hS.at_ 1 rfl).cell rfl)) <| obs_nil
    have hS : Sep w0 B w (blk g1 3 #[vi v1] :: blk g2 214 #[.func (.func 195) #[] #[pa g3 0, pa g4 0]] :: blk g3 75 (ca A2 v_Places1.length c2 v_Turn1 v_Castle1 v_EnPassant1 v_Half1 v_Full1) :: blk g4 81 #[.slice A7 tell2.length c7] :: ownK 88 3 A7 tell2.length c7 (List.flatMap enc88 tell2) :: blk g5 75 (ca A1 p1.length c1 p2 p3 p4 p5 p6) :: blk g6 207 #[.func (.func 197) #[] #[pa g1 0, pa g2 0]] :: defsH Ds3 :: fs) := hS.pickN 8 [2, 3, 4, 5, 6, 0, 1, 7] (by decide)
    refine at_call (f := 197) (args := #[vi (w64 (from1 + (w64 (8 * r1)))), pa g1 0, pa g2 0]) (d := 48) hF (by kernel_rfl) (by kernel_rfl) Try.func197 (by kernel_rfl) rfl (board_Moves_2_w hr5 hS (fun _ hS => (hr_v_Places1 _ (hS.dropN 3))) _hc_v_Places1 rfl) (fun v a w hR hF => ?_)
    clear hS
    obtain ⟨A8, c8, rfl, hS⟩ := hR
    have hS : Sep w0 B w (blk g1 3 #[vi v1] :: blk g2 214 #[.func (.func 195) #[] #[pa g3 0, pa g4 0]] :: blk g3 75 (ca A2 v_Places1.length c2 v_Turn1 v_Castle1 v_EnPassant1 v_Half1 v_Full1) :: blk g4 81 #[.slice A8 r5.length c8] :: ownK 88 3 A8 r5.length c8 (List.flatMap enc88 r5) :: blk g5 75 (ca A1 p1.length c1 p2 p3 p4 p5 p6) :: blk g6 207 #[.func (.func 197) #[] #[pa g1 0, pa g2 0]] :: defsH Ds3 :: fs) := hS
    refine ae [1, 3, 5, 6] [pl 1 (vi from1), pl 3 (pa g5 0), pl 5 (pa g6 0), pl 6 (vi (w64 (8 * r1)))] hF rfl (fun hF => ?_)
    refine then_n ?_
    obtain ⟨hp3, hm⟩ := asrt_b hm
    refine rg [⟨true, [], vS (Op.shift .shr .i64 from1 .u64 3), vi (shrK .i64 from1 3)⟩, ⟨false, [], vS (Instr.loadAt 3 (pa g5 1)), vi p2⟩, ⟨false, [(((shrK .i64 from1 3) == (w64 (1 + (w64 (5 * p2))))), true)], vS (Instr.loadAt 27 (pa g5 0)), .slice A1 p1.length c1⟩, ⟨true, [(((shrK .i64 from1 3) == (w64 (1 + (w64 (5 * p2))))), true)], vS (Instr.indexAt 27 (.slice A1 p1.length c1) (vi (w64 (from1 + (w64 (2 * (w64 (8 * r1)))))))), .pointer (some (sAddr A1 (w64 (from1 + (w64 (2 * (w64 (8 * r1))))))))⟩, ⟨false, [(((shrK .i64 from1 3) == (w64 (1 + (w64 (5 * p2))))), true)], vS (Instr.loadAt 3 (.pointer (some (sAddr A1 (w64 (from1 + (w64 (2 * (w64 (8 * r1)))))))))), vi (geti p1 (w64 (from1 + (w64 (2 * (w64 (8 * r1)))))))⟩] [none, some (vi (shrK .i64 from1 3)), none, some (vi p2), none, none, none, none, none, some (.slice A1 p1.length c1), none, none, none, none, some (.pointer (some (sAddr A1 (w64 (from1 + (w64 (2 * (w64 (8 * r1))))))))), some (vi (geti p1 (w64 (from1 + (w64 (2 * (w64 (8 * r1)))))))), none, none] [1, 5, 6, 66] [pl 1 (vi from1), pl 5 (pa g6 0), pl 6 (vi (w64 (8 * r1))), pl 66 (.bool (((shrK .i64 from1 3) == (w64 (1 + (w64 (5 * p2))))) && ((geti p1 (w64 (from1 + (w64 (2 * (w64 (8 * r1))))))) == 0)))] hF hS ?_ (fun a w hF hS => ?_)
    ·exact obs_cons (ob_shr (fun _ => by decide)) <| obs_cons (ob_load Agg3 (fun _ _ hS => (hS.at_ 5 rfl).cell rfl)) <| obs_cons (ob_load Agg27 (fun _ _ hS => (hS.at_ 5 rfl).cell rfl)) <| obs_cons (ob_ix1 (f := (Value.int .i64)) (m := p1) Und27 hi3 hs3 (hr_p1 _ (hS.dropN 8)) rfl (fun hy => hp3 (hy (((shrK .i64 from1 3) == (w64 (1 + (w64 (5 * p2))))), true) (by simp)))) <| obs_cons (ob_get1 (n := p1.length) (m := p1) (Value.int .i64) (0 : Int) Agg3 (fun _ hS => ⟨_, (hr_p1 _ (hS.dropN 8))⟩) (fun _ hS => rfl) (fun hy => hp3 (hy (((shrK .i64 from1 3) == (w64 (1 + (w64 (5 * p2))))), true) (by simp)))) <| obs_nil
    refine ce (t := 66) (b := ((shrK .i64 from1 3) == (w64 (1 + (w64 (5 * p2))))) && ((geti p1 (w64 (from1 + (w64 (2 * (w64 (8 * r1))))))) == 0)) hF (fun hb => ?_) (fun hb => ?_)
    ·replace hm := if_t hm hb
     refine oneR ?_
     obtain ⟨r6, hr6, hm⟩ := call_b hm
     refine ar 5 [⟨false, [], vS (Instr.loadAt 207 (pa g6 0)), .func (.func 197) #[] #[pa g1 0, pa g2 0]⟩] [some (.func (.func 197) #[] #[pa g1 0, pa g2 0]), none, none, none, none] [67, 71] [pl 67 (.func (.func 197) #[] #[pa g1 0, pa g2 0]), pl 71 (vi (w64 (from1 + (w64 (2 * (w64 (8 * r1)))))))] hF hS ?_ (fun a w hF hS => ?_)
     ·exact obs_cons (ob_load Agg207 (fun _ _ hS => (hS.at_ 6 rfl).cell rfl)) <| obs_nil
     refine at_call (f := 197) (args := #[vi (w64 (from1 + (w64 (2 * (w64 (8 * r1)))))), pa g1 0, pa g2 0]) (d := 72) hF (by kernel_rfl) (by kernel_rfl) Try.func197 (by kernel_rfl) rfl (board_Moves_2_w hr6 hS (fun _ hS => (hr_v_Places1 _ (hS.dropN 3))) _hc_v_Places1 rfl) (fun v a w hR hF => ?_)
     clear hS
     obtain ⟨A9, c9, rfl, hS⟩ := hR
     have hS : Sep w0 B w (blk g1 3 #[vi v1] :: blk g2 214 #[.func (.func 195) #[] #[pa g3 0, pa g4 0]] :: blk g3 75 (ca A2 v_Places1.length c2 v_Turn1 v_Castle1 v_EnPassant1 v_Half1 v_Full1) :: blk g4 81 #[.slice A9 r6.length c9] :: ownK 88 3 A9 r6.length c9 (List.flatMap enc88 r6) :: blk g5 75 (ca A1 p1.length c1 p2 p3 p4 p5 p6) :: blk g6 207 #[.func (.func 197) #[] #[pa g1 0, pa g2 0]] :: defsH Ds3 :: fs) := hS
     refine ae [] [] hF rfl (fun hF => ?_)
     refine then_n ?_
     have hS := hS.pickN 8 [0, 1, 2, 3, 4, 7] (by decide)
     exact ⟨r6, A9, c9, Ds3, hF.wk [], hS, hm⟩
    ·replace hm := if_f hm hb
     refine wpIn_skip ?_
     refine then_n ?_
     have hS := hS.pickN 8 [0, 1, 2, 3, 4, 7] (by decide)
     exact ⟨r5, A8, c8, Ds3, hF.wk [], hS, hm⟩
   ·obtain ⟨hp2, hm⟩ := asrt_b hm
    refine rg [⟨false, [], vS (Instr.loadAt 27 (pa g5 0)), .slice A1 p1.length c1⟩, ⟨true, [], vS (Instr.indexAt 27 (.slice A1 p1.length c1) (vi (w64 (from1 + (w64 (8 * r1)))))), .pointer (some (sAddr A1 (w64 (from1 + (w64 (8 * r1))))))⟩, ⟨false, [], vS (Instr.loadAt 3 (.pointer (some (sAddr A1 (w64 (from1 + (w64 (8 * r1)))))))), vi (geti p1 (w64 (from1 + (w64 (8 * r1)))))⟩] [none, some (.slice A1 p1.length c1), none, none, none, some (.pointer (some (sAddr A1 (w64 (from1 + (w64 (8 * r1))))))), some (vi (geti p1 (w64 (from1 + (w64 (8 * r1)))))), none] [1, 3, 5, 6, 43] [pl 1 (vi from1), pl 3 (pa g5 0), pl 5 (pa g6 0), pl 6 (vi (w64 (8 * r1))), pl 43 (.bool ((geti p1 (w64 (from1 + (w64 (8 * r1))))) != 0))] hF hS ?_ (fun a w hF hS => ?_)
    ·exact obs_cons (ob_load Agg27 (fun _ _ hS => (hS.at_ 0 rfl).cell rfl)) <| obs_cons (ob_ix1 (f := (Value.int .i64)) (m := p1) Und27 hi3 hs3 (hr_p1 _ (hS.dropN 8)) rfl (fun _ => hp2)) <| obs_cons (ob_get1 (n := p1.length) (m := p1) (Value.int .i64) (0 : Int) Agg3 (fun _ hS => ⟨_, (hr_p1 _ (hS.dropN 8))⟩) (fun _ hS => rfl) (fun _ => hp2)) <| obs_nil
    refine ce (t := 43) (b := ((geti p1 (w64 (from1 + (w64 (8 * r1))))) != 0)) hF (fun hb => ?_) (fun hb => ?_)
    ·replace hm := if_t hm hb
     refine wpIn_ret ?_
     refine then_r (then_r ?_)
     have hS := hS.pickN 8 [7, 0, 1, 2, 3, 4, 5, 6] (by decide)
     have hm : some tell2 = some r := hm
     obtain rfl := Option.some.inj hm
     exact retD (rs := []) (vs := []) hF hS rfl (fun w hS => by exact rv_nil) rfl (fun w hS => ⟨_, rfl, A7, c7, rfl, hS.pickN 7 [2, 3, 4, 5, 6] (by decide)⟩)
    ·replace hm := if_f hm hb
     refine wpIn_skip ?_
     refine then_n ?_
     exact ⟨Ds2, hF.wk [1, 3, 5, 6], hS, hm⟩
  ·refine seqR ?_
   obtain ⟨r2, hr2, hm⟩ := call_b hm
   refine ar 3 [⟨false, [], vS (Instr.loadAt 27 (pa g5 0)), .slice A1 p1.length c1⟩] [none, some (.slice A1 p1.length c1), none] [1, 3, 5, 6, 13, 14] [pl 1 (vi from1), pl 3 (pa g5 0), pl 5 (pa g6 0), pl 6 (vi (w64 (8 * r1))), pl 13 (.slice A1 p1.length c1), pl 14 (vi from1)] hF hS ?_ (fun a w hF hS => ?_)
   ·exact obs_cons (ob_load Agg27 (fun _ _ hS => (hS.at_ 1 rfl).cell rfl)) <| obs_nil
   refine at_call (f := 145) (args := #[.slice A1 p1.length c1, vi from1]) (d := 15) hF (by kernel_rfl) (by kernel_rfl) Try.func145 (by kernel_rfl) rfl (board_Reach_w hr2 hS (fun _ hS => (hr_p1 _ (hS.dropN 8))) _hc_p1 rfl) (fun v a w hR hF => ?_)
   clear hS
   obtain ⟨g7, g8, rfl, hS⟩ := hR
   have hS : Sep w0 B w (blk g7 27 #[.slice A1 p1.length c1] :: blk g8 3 #[vi r2] :: blk g6 207 #[.func (.func 197) #[] #[pa g1 0, pa g2 0]] :: blk g5 75 (ca A1 p1.length c1 p2 p3 p4 p5 p6) :: defsH ([]) :: blk g1 3 #[vi v1] :: blk g2 214 #[.func (.func 195) #[] #[pa g3 0, pa g4 0]] :: blk g3 75 (ca A2 v_Places1.length c2 v_Turn1 v_Castle1 v_EnPassant1 v_Half1 v_Full1) :: blk g4 81 #[.slice A3 v2.length c3] :: ownK 88 3 A3 v2.length c3 (List.flatMap enc88 v2) :: fs) := hS
   refine ae [1, 3, 5, 6, 15] [pl 1 (vi from1), pl 3 (pa g5 0), pl 5 (pa g6 0), pl 6 (vi (w64 (8 * r1))), pl 15 (.func (.func 212) #[] #[pa g7 0, pa g8 0])] hF rfl (fun hF => ?_)
   refine then_n ?_
   refine wpIn_block ?_
   have hS := hS.pickN 10 [8, 9, 4, 3, 2, 5, 6, 7, 0, 1] (by decide)
   obtain ⟨y1, hy1, hm⟩ := call_b hm
   refine range_out (ρ := [pl 1 (vi from1), pl 3 (pa g5 0), pl 5 (pa g6 0), pl 6 (vi (w64 (8 * r1))), pl 15 (.func (.func 212) #[] #[pa g7 0, pa g8 0])]) (lb := [pa g7 0, pa g8 0]) (y := y1) (enc := (fun (x : Int) => #[vi x])) (qs := [blk g4 81 #[.slice A3 v2.length c3], ownK 88 3 A3 v2.length c3 (List.flatMap enc88 v2)]) (fun (x : Int) => [(16, vi x)]) (fun (s : (List MvT)) qs => ∃ (A5 : Option Addr) (c5 : Nat), qs = [blk g4 81 #[.slice A5 s.length c5], ownK 88 3 A5 s.length c5 (List.flatMap enc88 s)]) (fun (_ : Unit) _ _ => False) (fun x s => (board_pawn_L1 p1 p2 p4 v1 v_Places1 v_Turn1 v_Castle1 v_EnPassant1 v_Half1 v_Full1) (x, s)) v2 (hF.wk [1, 3, 5, 6, 15]) hS (by kernel_rfl) Try.func212 (by kernel_rfl) rfl (by kernel_rfl) (by intro x; simp) (fun _ => rfl) (fun x p hp => ?_) ⟨A3, c3, rfl⟩ ?_ ?_ ?_ ?_
   ·simp only [List.mem_cons, List.not_mem_nil, or_false] at hp
    rcases hp with rfl <;> (dsimp only; decide)
   ·intro lr1 D1 RS w hY hS
    exact Calls.mono (board_Reach_1_w hy1 (hS.pickN 9 [0, 7, 8, 1, 2, 3, 4, 5, 6] (by decide)) (YieldC.perm (blk g7 27 #[.slice A1 p1.length c1] :: blk g8 3 #[vi r2] :: defsH (D1 :: ([])) :: blk g5 75 (ca A1 p1.length c1 p2 p3 p4 p5 p6) :: blk g6 207 #[.func (.func 197) #[] #[pa g1 0, pa g2 0]] :: blk g1 3 #[vi v1] :: blk g2 214 #[.func (.func 195) #[] #[pa g3 0, pa g4 0]] :: blk g3 75 (ca A2 v_Places1.length c2 v_Turn1 v_Castle1 v_EnPassant1 v_Half1 v_Full1) :: fs) hY (fun hS => hS.pickN 9 [0, 3, 4, 5, 6, 7, 8, 1, 2] (by decide)) (fun hS => hS.pickN 9 [0, 7, 8, 1, 2, 3, 4, 5, 6] (by decide))) (fun _ hS => (hr_p1 _ (hS.dropN 6))) _hc_p1 rfl) (fun e w' h => by obtain ⟨_, rfl, _, hS⟩ := h; exact hS.pickN 9 [0, 3, 4, 5, 6, 7, 8, 1, 2] (by decide))
   ·rintro lr1 D1 rr1 x1 tell1 r qs us1 a w hrr1 hm hI hF hS
    obtain ⟨A5, c5, rfl⟩ := hI
    replace hm := start_b hm
    unfold board_pawn_L1 at hm
    dsimp only at hm hF hS
    have hF : Fr 73 [pl 1 (vi from1), pl 3 (pa g5 0), pl 5 (pa g6 0), pl 6 (vi (w64 (8 * r1))), pl 15 (.func (.func 212) #[] #[pa g7 0, pa g8 0]), pl 16 (vi x1)] a := hF.wk [1, 3, 5, 6, 15, 16]
    have hS : Sep w0 B w (recH lr1 rr1 :: blk g4 81 #[.slice A5 tell1.length c5] :: ownK 88 3 A5 tell1.length c5 (List.flatMap enc88 tell1) :: defsH (D1 :: ([])) :: blk g5 75 (ca A1 p1.length c1 p2 p3 p4 p5 p6) :: blk g6 207 #[.func (.func 197) #[] #[pa g1 0, pa g2 0]] :: blk g1 3 #[vi v1] :: blk g2 214 #[.func (.func 195) #[] #[pa g3 0, pa g4 0]] :: blk g3 75 (ca A2 v_Places1.length c2 v_Turn1 v_Castle1 v_EnPassant1 v_Half1 v_Full1) :: blk g7 27 #[.slice A1 p1.length c1] :: blk g8 3 #[vi r2] :: (fs ++ us1)) := hS
    refine rg1 [] [] [3, 5, 7] [pl 3 (pa g5 0), pl 5 (pa g6 0), pl 7 (vi x1)] hF hS obs_nil (fun a w hF hS => ?_)
    refine then_n ?_
    refine begin_r hS hrr1 (fun w hS => ?_)
    have hS : Sep w0 B w (recH lr1 { rr1 with state := .busy } :: blk g4 81 #[.slice A5 tell1.length c5] :: ownK 88 3 A5 tell1.length c5 (List.flatMap enc88 tell1) :: defsH (D1 :: ([])) :: blk g5 75 (ca A1 p1.length c1 p2 p3 p4 p5 p6) :: blk g6 207 #[.func (.func 197) #[] #[pa g1 0, pa g2 0]] :: blk g1 3 #[vi v1] :: blk g2 214 #[.func (.func 195) #[] #[pa g3 0, pa g4 0]] :: blk g3 75 (ca A2 v_Places1.length c2 v_Turn1 v_Castle1 v_EnPassant1 v_Half1 v_Full1) :: blk g7 27 #[.slice A1 p1.length c1] :: blk g8 3 #[vi r2] :: (fs ++ us1)) := hS
    refine wpIn_block ?_
    obtain ⟨hp1, hm⟩ := asrt_b hm
    obtain ⟨r3, hr3, hm⟩ := call_b hm
    refine rg [⟨false, [], vS (Instr.loadAt 27 (pa g5 0)), .slice A1 p1.length c1⟩, ⟨true, [], vS (Instr.indexAt 27 (.slice A1 p1.length c1) (vi x1)), .pointer (some (sAddr A1 x1))⟩, ⟨false, [], vS (Instr.loadAt 3 (.pointer (some (sAddr A1 x1)))), vi (geti p1 x1)⟩, ⟨false, [], callFunc 144 #[vi (geti p1 x1)], vi r3⟩, ⟨false, [], vS (Instr.loadAt 3 (pa g5 1)), vi p2⟩, ⟨false, [((r3 == (w64 (1 - p2))), false)], vS (Instr.loadAt 3 (pa g5 3)), vi p4⟩] [none, some (.slice A1 p1.length c1), none, some (.pointer (some (sAddr A1 x1))), some (vi (geti p1 x1)), some (vi r3), none, some (vi p2), none, none, none, none, none, some (vi p4), none, none] [5, 7, 32] [pl 5 (pa g6 0), pl 7 (vi x1), pl 32 (.bool ((r3 == (w64 (1 - p2))) || (x1 == p4)))] hF hS ?_ (fun a w hF hS => ?_)
    ·exact obs_cons (ob_load Agg27 (fun _ _ hS => (hS.at_ 4 rfl).cell rfl)) <| obs_cons (ob_ix1 (f := (Value.int .i64)) (m := p1) Und27 hi3 hs3 (hr_p1 _ (hS.dropN 11).pre) rfl (fun _ => hp1)) <| obs_cons (ob_get1 (n := p1.length) (m := p1) (Value.int .i64) (0 : Int) Agg3 (fun _ hS => ⟨_, (hr_p1 _ (hS.dropN 11).pre)⟩) (fun _ hS => rfl) (fun _ => hp1)) <| obs_cons (ob_call Try.func144 (by kernel_rfl) rfl (fun _ _ hS => board_Side_w hr3 hS )) <| obs_cons (ob_load Agg3 (fun _ _ hS => (hS.at_ 4 rfl).cell rfl)) <| obs_cons (ob_load Agg3 (fun _ _ hS => (hS.at_ 4 rfl).cell rfl)) <| obs_nil
    refine ce (t := 32) (b := (r3 == (w64 (1 - p2))) || (x1 == p4)) hF (fun hb => ?_) (fun hb => ?_)
    ·replace hm := if_t hm hb
     refine oneR ?_
     obtain ⟨r4, hr4, hm⟩ := call_b hm
     refine ar 2 [⟨false, [], vS (Instr.loadAt 207 (pa g6 0)), .func (.func 197) #[] #[pa g1 0, pa g2 0]⟩] [some (.func (.func 197) #[] #[pa g1 0, pa g2 0]), none] [33, 34] [pl 33 (.func (.func 197) #[] #[pa g1 0, pa g2 0]), pl 34 (vi x1)] hF hS ?_ (fun a w hF hS => ?_)
     ·exact obs_cons (ob_load Agg207 (fun _ _ hS => (hS.at_ 5 rfl).cell rfl)) <| obs_nil
     have hS : Sep w0 B w (blk g1 3 #[vi v1] :: blk g2 214 #[.func (.func 195) #[] #[pa g3 0, pa g4 0]] :: blk g3 75 (ca A2 v_Places1.length c2 v_Turn1 v_Castle1 v_EnPassant1 v_Half1 v_Full1) :: blk g4 81 #[.slice A5 tell1.length c5] :: ownK 88 3 A5 tell1.length c5 (List.flatMap enc88 tell1) :: recH lr1 { rr1 with state := .busy } :: defsH (D1 :: ([])) :: blk g5 75 (ca A1 p1.length c1 p2 p3 p4 p5 p6) :: blk g6 207 #[.func (.func 197) #[] #[pa g1 0, pa g2 0]] :: blk g7 27 #[.slice A1 p1.length c1] :: blk g8 3 #[vi r2] :: (fs ++ us1)) := hS.pickN 11 [6, 7, 8, 1, 2, 0, 3, 4, 5, 9, 10] (by decide)
     refine at_call (f := 197) (args := #[vi x1, pa g1 0, pa g2 0]) (d := 35) hF (by kernel_rfl) (by kernel_rfl) Try.func197 (by kernel_rfl) rfl (board_Moves_2_w hr4 hS (fun _ hS => (hr_v_Places1 _ (hS.dropN 6).pre)) _hc_v_Places1 rfl) (fun v a w hR hF => ?_)
     clear hS
     obtain ⟨A6, c6, rfl, hS⟩ := hR
     have hS : Sep w0 B w (blk g1 3 #[vi v1] :: blk g2 214 #[.func (.func 195) #[] #[pa g3 0, pa g4 0]] :: blk g3 75 (ca A2 v_Places1.length c2 v_Turn1 v_Castle1 v_EnPassant1 v_Half1 v_Full1) :: blk g4 81 #[.slice A6 r4.length c6] :: ownK 88 3 A6 r4.length c6 (List.flatMap enc88 r4) :: recH lr1 { rr1 with state := .busy } :: defsH (D1 :: ([])) :: blk g5 75 (ca A1 p1.length c1 p2 p3 p4 p5 p6) :: blk g6 207 #[.func (.func 197) #[] #[pa g1 0, pa g2 0]] :: blk g7 27 #[.slice A1 p1.length c1] :: blk g8 3 #[vi r2] :: (fs ++ us1)) := hS
     refine ae [] [] hF rfl (fun hF => ?_)
     refine block_n ?_
     have hS := hS.pickN 11 [5, 3, 4, 6, 7, 8, 0, 1, 2, 9, 10] (by decide)
     have hm : some (.next r4) = some r := hm
     obtain rfl := Option.some.inj hm
     exact ⟨_, _, rfl, ⟨A6, c6, rfl⟩, hS⟩
    ·replace hm := if_f hm hb
     refine wpIn_skip ?_
     refine block_n ?_
     have hm : some (.next tell1) = some r := hm
     obtain rfl := Option.some.inj hm
     exact ⟨_, _, rfl, ⟨A5, c5, rfl⟩, hS⟩
   ·rintro tell1 D1 qs a w hy1e hI hF hS
    obtain ⟨A5, c5, rfl⟩ := hI
    rw [hy1e] at hm
    unfold board_pawn_K1 at hm
    dsimp only at hm hF hS
    have hF : FrD (D1 :: ([])) 73 [pl 1 (vi from1), pl 3 (pa g5 0), pl 5 (pa g6 0), pl 6 (vi (w64 (8 * r1))), pl 15 (.func (.func 212) #[] #[pa g7 0, pa g8 0])] a := hF
    have hS : Sep w0 B w (blk g4 81 #[.slice A5 tell1.length c5] :: ownK 88 3 A5 tell1.length c5 (List.flatMap enc88 tell1) :: defsH (D1 :: ([])) :: blk g5 75 (ca A1 p1.length c1 p2 p3 p4 p5 p6) :: blk g6 207 #[.func (.func 197) #[] #[pa g1 0, pa g2 0]] :: blk g1 3 #[vi v1] :: blk g2 214 #[.func (.func 195) #[] #[pa g3 0, pa g4 0]] :: blk g3 75 (ca A2 v_Places1.length c2 v_Turn1 v_Castle1 v_EnPassant1 v_Half1 v_Full1) :: blk g7 27 #[.slice A1 p1.length c1] :: blk g8 3 #[vi r2] :: fs) := hS
    refine block_n ?_
    refine then_n ?_
    have hS := hS.pickN 10 [3, 4, 5, 6, 7, 0, 1, 2] (by decide)
    exact ⟨tell1, A5, c5, (D1 :: ([])), hF.wk [1, 3, 5, 6], hS, hm⟩
   ·intro x c D1 qs a w _ h
    exact h.elim

def board_Moves_3_J1  (p12 : List MvT) : Option (List MvT) :=
 some p12

def board_Moves_3_m  (m1 m2 m3 : Int) (v_Places1 : List Int) (v_Turn1 v_Castle1 : Int) (v_EnPassant1 v_Half1 v_Full1 : Int) (v1 : List MvT) : Option (List MvT) :=
 (board_Moves_1_m m1 m2 m3 v_Places1 v_Turn1 v_Castle1 v_EnPassant1 v_Half1 v_Full1 v1).bind fun r1 => board_Moves_3_J1 r1.2

theorem board_Moves_3_w {m1 m2 m3 : Int} {g1 g2 : Nat} {A1 : Option Addr} {c1 n1 : Nat} {v_Places1 : List Int} {v_Turn1 v_Castle1 : Int} {v_EnPassant1 v_Half1 v_Full1 : Int} {g3 : Nat} {A2 : Option Addr} {c2 n2 : Nat} {v1 : List MvT} {r : (List MvT)} {w0 w : World} {B : Nat} {fs : List HP} (hm : board_Moves_3_m m1 m2 m3 v_Places1 v_Turn1 v_Castle1 v_EnPassant1 v_Half1 v_Full1 v1 = some r) (hS : Sep w0 B w (blk g1 214 #[.func (.func 195) #[] #[pa g2 0, pa g3 0]] :: blk g2 75 (ca A1 n1 c1 v_Turn1 v_Castle1 v_EnPassant1 v_Half1 v_Full1) :: blk g3 81 #[.slice A2 n2 c2] :: ownK 88 3 A2 n2 c2 (List.flatMap enc88 v1) :: fs)) (hr_v_Places1 : RdF w0 B fs A1 (vI v_Places1)) (_hc_v_Places1 : v_Places1.length ≤ c1) (_hn_v_Places1 : n1 = v_Places1.length) :
  Calls Try.prog 200 #[.agg #[vi m1, vi m2, vi m3], pa g1 0] w fun e w' => ∃ v, e = .returned v ∧ ∃ (A3 : Option Addr) (c3 : Nat), v = .tuple #[] ∧ Sep w0 B w' (blk g1 214 #[.func (.func 195) #[] #[pa g2 0, pa g3 0]] :: blk g2 75 (ca A1 n1 c1 v_Turn1 v_Castle1 v_EnPassant1 v_Half1 v_Full1) :: blk g3 81 #[.slice A3 r.length c3] :: ownK 88 3 A3 r.length c3 (List.flatMap enc88 r) :: fs) := by
 obtain ⟨i3, hi3, hz3, hs3, hb3⟩ := info_parts Info3
 obtain ⟨i88, hi88, hz88, hs88, hb88⟩ := info_parts Info88
 obtain rfl := (hS.at_ 3 rfl).lenK encK88
 obtain rfl := _hn_v_Places1
 unfold board_Moves_3_m at hm
 replace hm := start_b hm
 refine enter (l := [.agg #[vi m1, vi m2, vi m3], pa g1 0]) (n := 6) Try.func200 rfl rfl (by simp) (fun a hF => ?_)
 refine end_cut (fun a w => ∃ (p12 : List MvT) (A5 : Option Addr) (c5 : Nat), Fr 6 [] a ∧ Sep w0 B w (blk g1 214 #[.func (.func 195) #[] #[pa g2 0, pa g3 0]] :: blk g2 75 (ca A1 v_Places1.length c1 v_Turn1 v_Castle1 v_EnPassant1 v_Half1 v_Full1) :: blk g3 81 #[.slice A5 p12.length c5] :: ownK 88 3 A5 p12.length c5 (List.flatMap enc88 p12) :: fs) ∧ (board_Moves_3_J1 p12).bind some = some r) ?_ ?_
 ·rintro a w ⟨p12, A5, c5, hF, hS, hm⟩
  unfold board_Moves_3_J1 at hm
  have hm : some p12 = some r := hm
  obtain rfl := Option.some.inj hm
  exact endV (rs := []) (vs := []) hF rfl (rv_nil) rfl ⟨_, rfl, A5, c5, rfl, hS⟩ rfl
 ·refine seqR ?_
  refine at_do (d := 2) (s := vS (Instr.box 88 (.agg #[vi m1, vi m2, vi m3]))) (v := pa w.heap.size 0) (w' := w.alloc (.cells #[vi m1, vi m2, vi m3] 88)) hF (by kernel_rfl) (by kernel_rfl) (by kernel_rfl) (fun a hF => ?_)
  have hS : Sep w0 B (w.alloc (.cells #[vi m1, vi m2, vi m3] 88)) (blk w.heap.size 88 #[vi m1, vi m2, vi m3] :: (blk g1 214 #[.func (.func 195) #[] #[pa g2 0, pa g3 0]] :: blk g2 75 (ca A1 v_Places1.length c1 v_Turn1 v_Castle1 v_EnPassant1 v_Half1 v_Full1) :: blk g3 81 #[.slice A2 v1.length c2] :: ownK 88 3 A2 v1.length c2 (List.flatMap enc88 v1) :: fs)) := hS.box 88 #[vi m1, vi m2, vi m3]
  generalize w.heap.size = g4 at hF hS
  generalize w.alloc (.cells #[vi m1, vi m2, vi m3] 88) = w at hS ⊢
  refine ae [1, 2] [pl 1 (pa g1 0), pl 2 (pa g4 0)] hF rfl (fun hF => ?_)
  refine then_n ?_
  refine oneR ?_
  obtain ⟨r1, hr1, hm⟩ := call_b hm
  refine ar 2 [⟨false, [], vS (Instr.loadAt 214 (pa g1 0)), .func (.func 195) #[] #[pa g2 0, pa g3 0]⟩, ⟨false, [], vS (Instr.loadAt 88 (pa g4 0)), .agg #[vi m1, vi m2, vi m3]⟩] [some (.func (.func 195) #[] #[pa g2 0, pa g3 0]), some (.agg #[vi m1, vi m2, vi m3])] [3, 4] [pl 3 (.func (.func 195) #[] #[pa g2 0, pa g3 0]), pl 4 (.agg #[vi m1, vi m2, vi m3])] hF hS ?_ (fun a w hF hS => ?_)
  ·exact obs_cons (ob_load Agg214 (fun _ _ hS => (hS.at_ 1 rfl).cell rfl)) <| obs_cons (oA (cs := #[vi m1, vi m2, vi m3]) (fun _ _ hS => (hS.at_ 0 rfl).cellsAt 0 (by rfl))) <| obs_nil
  have hS : Sep w0 B w (blk g2 75 (ca A1 v_Places1.length c1 v_Turn1 v_Castle1 v_EnPassant1 v_Half1 v_Full1) :: blk g3 81 #[.slice A2 v1.length c2] :: ownK 88 3 A2 v1.length c2 (List.flatMap enc88 v1) :: blk g4 88 #[vi m1, vi m2, vi m3] :: blk g1 214 #[.func (.func 195) #[] #[pa g2 0, pa g3 0]] :: fs) := hS.pickN 5 [2, 3, 4, 0, 1] (by decide)
  refine at_call (f := 195) (args := #[.agg #[vi m1, vi m2, vi m3], pa g2 0, pa g3 0]) (d := 5) hF (by kernel_rfl) (by kernel_rfl) Try.func195 (by kernel_rfl) rfl (board_Moves_1_w hr1 hS (fun _ hS => (hr_v_Places1 _ (hS.dropN 2))) _hc_v_Places1 rfl) (fun v a w hR hF => ?_)
  clear hS
  obtain ⟨A4, c4, rfl, hS⟩ := hR
  have hS : Sep w0 B w (blk g2 75 (ca A1 v_Places1.length c1 v_Turn1 v_Castle1 v_EnPassant1 v_Half1 v_Full1) :: blk g3 81 #[.slice A4 r1.2.length c4] :: ownK 88 3 A4 r1.2.length c4 (List.flatMap enc88 r1.2) :: blk g4 88 #[vi m1, vi m2, vi m3] :: blk g1 214 #[.func (.func 195) #[] #[pa g2 0, pa g3 0]] :: fs) := hS
  refine ae [] [] hF rfl (fun hF => ?_)
  refine then_n ?_
  have hS := hS.pickN 5 [4, 0, 1, 2] (by decide)
  exact ⟨r1.2, A4, c4, hF.wk [], hS, hm⟩

def board_castles_J7  (p1 : List Int) (n4 : Int) (free1 : Bool) (at1 : Int) : Option (St (Bool × Int) Bool) :=
 some (.next ((free1 && ((geti p1 at1) == 0)), (w64 (at1 + (w64 (1 - (w64 (2 * (bAnd n4 1)))))))))

def board_castles_J6  (p1 : List Int) (n4 : Int) (free1 : Bool) (at1 : Int) : Option (St (Bool × Int) Bool) :=
 asrt (free1 = true → 0 ≤ at1 ∧ at1 < (p1.length : Int)) <| (board_castles_J7 p1 n4 free1 at1)

def board_castles_J10  (z1 : Int) (free5 : Bool) : Option (St (Bool × Int) Bool) :=
 some (.next (free5, (w64 (z1 + 1))))

def board_castles_J9  (p1 : List Int) (p2 n4 : Int) (r1 : (Int × Int)) (free3 : Bool) (z1 : Int) : Option (St (Bool × Int) Bool) :=
 if free3 then ((board_Attackers_m p1 (w64 (r1.1 + (w64 (z1 * (w64 (1 - (w64 (2 * (bAnd n4 1))))))))) (w64 (1 - p2))).bind fun r2 => (board_castles_J10 z1) (free3 && ((r2.length : Int) == 0))) else ((board_castles_J10 z1) (free3 && ((0 : Int) == 0)))

def board_castles_L3  (p1 : List Int) (p2 n4 : Int) (r1 : (Int × Int)) : (Bool × Int) → Option (St (Bool × Int) Bool) :=
 fun (x : (Bool × Int)) => match x with | (free3, z1) => if (decide (z1 < 3)) then ((board_castles_J9 p1 p2 n4 r1 free3 z1)) else (some (.done free3))

def board_castles_J3  (n4 : Int) (tell2 : List MvT) : Option (St (List MvT × Int) (List MvT)) :=
 some (.next (tell2, (w64 (n4 + 1))))

def board_castles_J8  (v_Places1 : List Int) (v_Turn1 v_Castle1 : Int) (v_EnPassant1 v_Half1 v_Full1 : Int) (tell1 : List MvT) (n4 : Int) (r1 : (Int × Int)) (free4 : Bool) : Option (St (List MvT × Int) (List MvT)) :=
 if free4 then ((board_Moves_3_m r1.1 (w64 (r1.1 + (w64 (2 * (w64 (1 - (w64 (2 * (bAnd n4 1))))))))) 0 v_Places1 v_Turn1 v_Castle1 v_EnPassant1 v_Half1 v_Full1 tell1).bind fun r3 => (board_castles_J3 n4) r3) else ((board_castles_J3 n4) tell1)

def board_castles_K3  (v_Places1 : List Int) (v_Turn1 v_Castle1 : Int) (v_EnPassant1 v_Half1 v_Full1 : Int) (tell1 : List MvT) (n4 : Int) (r1 : (Int × Int)) : Bool → Option (St (List MvT × Int) (List MvT)) :=
 fun (x : Bool) => match x with | free4 => (board_castles_J8 v_Places1 v_Turn1 v_Castle1 v_EnPassant1 v_Half1 v_Full1 tell1 n4 r1) free4

def board_castles_J5  (p1 : List Int) (p2 : Int) (v_Places1 : List Int) (v_Turn1 v_Castle1 : Int) (v_EnPassant1 v_Half1 v_Full1 : Int) (tell1 : List MvT) (n4 : Int) (r1 : (Int × Int)) (free2 : Bool) : Option (St (List MvT × Int) (List MvT)) :=
 (loop (board_castles_L3 p1 p2 n4 r1) (free2, 0)).bind (board_castles_K3 v_Places1 v_Turn1 v_Castle1 v_EnPassant1 v_Half1 v_Full1 tell1 n4 r1)

def board_castles_K2  (p1 : List Int) (p2 : Int) (v_Places1 : List Int) (v_Turn1 v_Castle1 : Int) (v_EnPassant1 v_Half1 v_Full1 : Int) (tell1 : List MvT) (n4 : Int) (r1 : (Int × Int)) : Bool → Option (St (List MvT × Int) (List MvT)) :=
 fun (x : Bool) => match x with | free2 => (board_castles_J5 p1 p2 v_Places1 v_Turn1 v_Castle1 v_EnPassant1 v_Half1 v_Full1 tell1 n4 r1) free2

def board_castles_L2  (p1 : List Int) (n4 : Int) (r1 : (Int × Int)) : (Bool × Int) → Option (St (Bool × Int) Bool) :=
 fun (x : (Bool × Int)) => match x with | (free1, at1) => if (at1 != r1.2) then ((board_castles_J6 p1 n4 free1 at1)) else (some (.done free1))

def board_castles_J4  (p1 : List Int) (p2 : Int) (v_Places1 : List Int) (v_Turn1 v_Castle1 : Int) (v_EnPassant1 v_Half1 v_Full1 : Int) (tell1 : List MvT) (n4 : Int) (r1 : (Int × Int)) : Option (St (List MvT × Int) (List MvT)) :=
 (loop (board_castles_L2 p1 n4 r1) (true, (w64 (r1.1 + (w64 (1 - (w64 (2 * (bAnd n4 1))))))))).bind (board_castles_K2 p1 p2 v_Places1 v_Turn1 v_Castle1 v_EnPassant1 v_Half1 v_Full1 tell1 n4 r1)

def board_castles_J2  (p1 : List Int) (p2 p3 : Int) (v_Places1 : List Int) (v_Turn1 v_Castle1 : Int) (v_EnPassant1 v_Half1 v_Full1 : Int) (tell1 : List MvT) (n4 : Int) : Option (St (List MvT × Int) (List MvT)) :=
 (board_Right_m n4).bind fun r1 => asrt ((0 : Int) ≤ n4) <| if ((bAnd (shrK .i64 p3 n4) 1) == 0) then ((board_castles_J3 n4) tell1) else ((board_castles_J4 p1 p2 v_Places1 v_Turn1 v_Castle1 v_EnPassant1 v_Half1 v_Full1 tell1 n4 r1))

def board_castles_J1  (v3 : List MvT) : Option (List MvT) :=
 some v3

def board_castles_K1  : (List MvT) → Option (List MvT) :=
 fun (x : (List MvT)) => match x with | v3 => board_castles_J1 v3

def board_castles_L1  (p1 : List Int) (p2 p3 : Int) (v_Places1 : List Int) (v_Turn1 v_Castle1 : Int) (v_EnPassant1 v_Half1 v_Full1 : Int) : (List MvT × Int) → Option (St (List MvT × Int) (List MvT)) :=
 fun (x : (List MvT × Int)) => match x with | (tell1, n4) => if (decide (n4 < (w64 ((w64 (2 * p2)) + 2)))) then ((board_castles_J2 p1 p2 p3 v_Places1 v_Turn1 v_Castle1 v_EnPassant1 v_Half1 v_Full1 tell1 n4)) else (some (.done tell1))

def board_castles_m  (p1 : List Int) (p2 p3 : Int) (p4 p5 p6 : Int) (v_Places1 : List Int) (v_Turn1 v_Castle1 : Int) (v_EnPassant1 v_Half1 v_Full1 : Int) (v1 : List MvT) : Option (List MvT) :=
 (loop (board_castles_L1 p1 p2 p3 v_Places1 v_Turn1 v_Castle1 v_EnPassant1 v_Half1 v_Full1) (v1, (w64 (2 * p2)))).bind board_castles_K1

theorem board_castles_w {A1 : Option Addr} {c1 n1 : Nat} {p1 : List Int} {p2 p3 : Int} {p4 p5 p6 : Int} {g1 g2 : Nat} {A2 : Option Addr} {c2 n2 : Nat} {v_Places1 : List Int} {v_Turn1 v_Castle1 : Int} {v_EnPassant1 v_Half1 v_Full1 : Int} {g3 : Nat} {A3 : Option Addr} {c3 n3 : Nat} {v1 : List MvT} {r : (List MvT)} {w0 w : World} {B : Nat} {fs : List HP} (hm : board_castles_m p1 p2 p3 p4 p5 p6 v_Places1 v_Turn1 v_Castle1 v_EnPassant1 v_Half1 v_Full1 v1 = some r) (hS : Sep w0 B w (blk g1 214 #[.func (.func 195) #[] #[pa g2 0, pa g3 0]] :: blk g2 75 (ca A2 n2 c2 v_Turn1 v_Castle1 v_EnPassant1 v_Half1 v_Full1) :: blk g3 81 #[.slice A3 n3 c3] :: ownK 88 3 A3 n3 c3 (List.flatMap enc88 v1) :: fs)) (hr_p1 : RdF w0 B fs A1 (vI p1)) (_hc_p1 : p1.length ≤ c1) (_hn_p1 : n1 = p1.length) (hr_v_Places1 : RdF w0 B fs A2 (vI v_Places1)) (_hc_v_Places1 : v_Places1.length ≤ c2) (_hn_v_Places1 : n2 = v_Places1.length) :
  Calls Try.prog 199 #[.agg (ca A1 n1 c1 p2 p3 p4 p5 p6), .func (.func 200) #[] #[pa g1 0]] w fun e w' => ∃ v, e = .returned v ∧ ∃ (A4 : Option Addr) (c4 : Nat), v = .tuple #[] ∧ Sep w0 B w' (blk g1 214 #[.func (.func 195) #[] #[pa g2 0, pa g3 0]] :: blk g2 75 (ca A2 n2 c2 v_Turn1 v_Castle1 v_EnPassant1 v_Half1 v_Full1) :: blk g3 81 #[.slice A4 r.length c4] :: ownK 88 3 A4 r.length c4 (List.flatMap enc88 r) :: fs) := by
 obtain ⟨i3, hi3, hz3, hs3, hb3⟩ := info_parts Info3
 obtain ⟨i88, hi88, hz88, hs88, hb88⟩ := info_parts Info88
 obtain rfl := (hS.at_ 3 rfl).lenK encK88
 obtain rfl := _hn_p1
 obtain rfl := _hn_v_Places1
 unfold board_castles_m at hm
 replace hm := start_b hm
 refine enter (l := [.agg (ca A1 p1.length c1 p2 p3 p4 p5 p6), .func (.func 200) #[] #[pa g1 0]]) (n := 84) Try.func199 rfl rfl (by simp) (fun a hF => ?_)
 refine end_cut (fun a w => ∃ (v3 : List MvT) (A6 : Option Addr) (c6 : Nat), Fr 84 [] a ∧ Sep w0 B w (blk g1 214 #[.func (.func 195) #[] #[pa g2 0, pa g3 0]] :: blk g2 75 (ca A2 v_Places1.length c2 v_Turn1 v_Castle1 v_EnPassant1 v_Half1 v_Full1) :: blk g3 81 #[.slice A6 v3.length c6] :: ownK 88 3 A6 v3.length c6 (List.flatMap enc88 v3) :: fs) ∧ (board_castles_J1 v3).bind some = some r) ?_ ?_
 ·rintro a w ⟨v3, A6, c6, hF, hS, hm⟩
  unfold board_castles_J1 at hm
  have hm : some v3 = some r := hm
  obtain rfl := Option.some.inj hm
  exact endV (rs := []) (vs := []) hF rfl (rv_nil) rfl ⟨_, rfl, A6, c6, rfl, hS⟩ rfl
 ·refine seqR ?_
  refine at_do (d := 2) (s := vS (Instr.box 75 (.agg (ca A1 p1.length c1 p2 p3 p4 p5 p6)))) (v := pa w.heap.size 0) (w' := w.alloc (.cells (ca A1 p1.length c1 p2 p3 p4 p5 p6) 75)) hF (by kernel_rfl) (by kernel_rfl) (by kernel_rfl) (fun a hF => ?_)
  have hS : Sep w0 B (w.alloc (.cells (ca A1 p1.length c1 p2 p3 p4 p5 p6) 75)) (blk w.heap.size 75 (ca A1 p1.length c1 p2 p3 p4 p5 p6) :: (blk g1 214 #[.func (.func 195) #[] #[pa g2 0, pa g3 0]] :: blk g2 75 (ca A2 v_Places1.length c2 v_Turn1 v_Castle1 v_EnPassant1 v_Half1 v_Full1) :: blk g3 81 #[.slice A3 v1.length c3] :: ownK 88 3 A3 v1.length c3 (List.flatMap enc88 v1) :: fs)) := hS.box 75 (ca A1 p1.length c1 p2 p3 p4 p5 p6)
  generalize w.heap.size = g4 at hF hS
  generalize w.alloc (.cells (ca A1 p1.length c1 p2 p3 p4 p5 p6) 75) = w at hS ⊢
  refine ae [1, 2] [pl 1 (.func (.func 200) #[] #[pa g1 0]), pl 2 (pa g4 0)] hF rfl (fun hF => ?_)
  refine then_n ?_
  refine rg [⟨false, [], vS (Instr.loadAt 3 (pa g4 1)), vi p2⟩] [none, some (vi p2), none, none] [1, 2, 4] [pl 1 (.func (.func 200) #[] #[pa g1 0]), pl 2 (pa g4 0), pl 4 (vi (w64 (2 * p2)))] hF hS ?_ (fun a w hF hS => ?_)
  ·exact obs_cons (ob_load Agg3 (fun _ _ hS => (hS.at_ 0 rfl).cell rfl)) <| obs_nil
  refine wpIn_block ?_
  have hS := hS.pickN 5 [1, 2, 3, 4, 0] (by decide)
  refine wp_loop_model (S := (List MvT × Int)) (R := (List MvT)) (board_castles_L1 p1 p2 p3 v_Places1 v_Turn1 v_Castle1 v_EnPassant1 v_Half1 v_Full1) (fun x => (board_castles_K1 x).bind some) r (fun (x : (List MvT × Int)) a w => ∃ (A5 : Option Addr) (c5 : Nat), Fr 84 [pl 1 (.func (.func 200) #[] #[pa g1 0]), pl 2 (pa g4 0), pl 4 (vi x.2)] a ∧ Sep w0 B w (blk g1 214 #[.func (.func 195) #[] #[pa g2 0, pa g3 0]] :: blk g2 75 (ca A2 v_Places1.length c2 v_Turn1 v_Castle1 v_EnPassant1 v_Half1 v_Full1) :: blk g3 81 #[.slice A5 x.1.length c5] :: ownK 88 3 A5 x.1.length c5 (List.flatMap enc88 x.1) :: blk g4 75 (ca A1 p1.length c1 p2 p3 p4 p5 p6) :: fs)) (assoc_b hm) ⟨A3, c3, hF.wk [1, 2, 4], hS⟩ ?_
  clear hF hS hm
  rintro nn1 ⟨tell1, n4⟩ a w ⟨A5, c5, hF, hS⟩ hm
  generalize hφ1 : stK (board_castles_L1 p1 p2 p3 v_Places1 v_Turn1 v_Castle1 v_EnPassant1 v_Half1 v_Full1) nn1 (fun x => (board_castles_K1 x).bind some) = φ1 at hm
  unfold board_castles_L1 at hm
  dsimp only at hF hS hm
  refine seq_cut (fun a w => Fr 84 [pl 1 (.func (.func 200) #[] #[pa g1 0]), pl 2 (pa g4 0), pl 4 (vi n4)] a ∧ Sep w0 B w (blk g1 214 #[.func (.func 195) #[] #[pa g2 0, pa g3 0]] :: blk g2 75 (ca A2 v_Places1.length c2 v_Turn1 v_Castle1 v_EnPassant1 v_Half1 v_Full1) :: blk g3 81 #[.slice A5 tell1.length c5] :: ownK 88 3 A5 tell1.length c5 (List.flatMap enc88 tell1) :: blk g4 75 (ca A1 p1.length c1 p2 p3 p4 p5 p6) :: fs) ∧ ((board_castles_J2 p1 p2 p3 v_Places1 v_Turn1 v_Castle1 v_EnPassant1 v_Half1 v_Full1 tell1 n4)).bind φ1 = some r) ?_ ?_
  ·rintro a w ⟨hF, hS, hm⟩
   unfold board_castles_J2 at hm
   refine seq_cut (fun a w => ∃ (tell2 : List MvT) (A7 : Option Addr) (c7 : Nat), Fr 84 [pl 1 (.func (.func 200) #[] #[pa g1 0]), pl 2 (pa g4 0), pl 4 (vi n4)] a ∧ Sep w0 B w (blk g1 214 #[.func (.func 195) #[] #[pa g2 0, pa g3 0]] :: blk g2 75 (ca A2 v_Places1.length c2 v_Turn1 v_Castle1 v_EnPassant1 v_Half1 v_Full1) :: blk g3 81 #[.slice A7 tell2.length c7] :: ownK 88 3 A7 tell2.length c7 (List.flatMap enc88 tell2) :: blk g4 75 (ca A1 p1.length c1 p2 p3 p4 p5 p6) :: fs) ∧ ((board_castles_J3 n4) tell2).bind φ1 = some r) ?_ ?_
   ·rintro a w ⟨tell2, A7, c7, hF, hS, hm⟩
    unfold board_castles_J3 at hm
    refine rg1 [] [] [1, 2, 4] [pl 1 (.func (.func 200) #[] #[pa g1 0]), pl 2 (pa g4 0), pl 4 (vi (w64 (n4 + 1)))] hF hS obs_nil (fun a w hF hS => ?_)
    refine then_n ?_
    rw [← hφ1] at hm
    exact ⟨(tell2, (w64 (n4 + 1))), ⟨A7, c7, hF.wk [1, 2, 4], hS⟩, hm⟩
   ·refine wpIn_block ?_
    obtain ⟨r1, hr1, hm⟩ := call_b hm
    refine rg [⟨false, [], callFunc 191 #[vi n4], .tuple #[vi r1.1, vi r1.2]⟩] [none, some (.tuple #[vi r1.1, vi r1.2]), none, none, none, none, none] [1, 2, 4, 5, 6] [pl 1 (.func (.func 200) #[] #[pa g1 0]), pl 2 (pa g4 0), pl 4 (vi n4), pl 5 (vi r1.1), pl 6 (vi r1.2)] hF hS ?_ (fun a w hF hS => ?_)
    ·exact obs_cons (ob_call Try.func191 (by kernel_rfl) rfl (fun _ _ hS => board_Right_w hr1 hS )) <| obs_nil
    refine seq_cut (fun a w => Fr 84 [pl 1 (.func (.func 200) #[] #[pa g1 0]), pl 2 (pa g4 0), pl 4 (vi n4), pl 5 (vi r1.1), pl 6 (vi r1.2)] a ∧ Sep w0 B w (blk g1 214 #[.func (.func 195) #[] #[pa g2 0, pa g3 0]] :: blk g2 75 (ca A2 v_Places1.length c2 v_Turn1 v_Castle1 v_EnPassant1 v_Half1 v_Full1) :: blk g3 81 #[.slice A5 tell1.length c5] :: ownK 88 3 A5 tell1.length c5 (List.flatMap enc88 tell1) :: blk g4 75 (ca A1 p1.length c1 p2 p3 p4 p5 p6) :: fs) ∧ ((board_castles_J4 p1 p2 v_Places1 v_Turn1 v_Castle1 v_EnPassant1 v_Half1 v_Full1 tell1 n4 r1)).bind φ1 = some r) ?_ ?_
    ·rintro a w ⟨hF, hS, hm⟩
     unfold board_castles_J4 at hm
     refine rg [] [] [1, 2, 4, 5, 6, 7] [pl 1 (.func (.func 200) #[] #[pa g1 0]), pl 2 (pa g4 0), pl 4 (vi n4), pl 5 (vi r1.1), pl 6 (vi r1.2), pl 7 (vi (w64 (1 - (w64 (2 * (bAnd n4 1))))))] hF hS obs_nil (fun a w hF hS => ?_)
     refine rg [] [] [1, 2, 4, 5, 6, 7, 8] [pl 1 (.func (.func 200) #[] #[pa g1 0]), pl 2 (pa g4 0), pl 4 (vi n4), pl 5 (vi r1.1), pl 6 (vi r1.2), pl 7 (vi (w64 (1 - (w64 (2 * (bAnd n4 1)))))), pl 8 (.bool true)] hF hS obs_nil (fun a w hF hS => ?_)
     refine seq_cut (fun a w => ∃ (free2 : Bool), Fr 84 [pl 1 (.func (.func 200) #[] #[pa g1 0]), pl 2 (pa g4 0), pl 4 (vi n4), pl 5 (vi r1.1), pl 7 (vi (w64 (1 - (w64 (2 * (bAnd n4 1)))))), pl 8 (.bool free2)] a ∧ Sep w0 B w (blk g1 214 #[.func (.func 195) #[] #[pa g2 0, pa g3 0]] :: blk g2 75 (ca A2 v_Places1.length c2 v_Turn1 v_Castle1 v_EnPassant1 v_Half1 v_Full1) :: blk g3 81 #[.slice A5 tell1.length c5] :: ownK 88 3 A5 tell1.length c5 (List.flatMap enc88 tell1) :: blk g4 75 (ca A1 p1.length c1 p2 p3 p4 p5 p6) :: fs) ∧ ((board_castles_J5 p1 p2 v_Places1 v_Turn1 v_Castle1 v_EnPassant1 v_Half1 v_Full1 tell1 n4 r1) free2).bind φ1 = some r) ?_ ?_
     ·rintro a w ⟨free2, hF, hS, hm⟩
      unfold board_castles_J5 at hm
      refine seq_cut (fun a w => ∃ (free4 : Bool), Fr 84 [pl 1 (.func (.func 200) #[] #[pa g1 0]), pl 2 (pa g4 0), pl 4 (vi n4), pl 5 (vi r1.1), pl 7 (vi (w64 (1 - (w64 (2 * (bAnd n4 1)))))), pl 8 (.bool free4)] a ∧ Sep w0 B w (blk g1 214 #[.func (.func 195) #[] #[pa g2 0, pa g3 0]] :: blk g2 75 (ca A2 v_Places1.length c2 v_Turn1 v_Castle1 v_EnPassant1 v_Half1 v_Full1) :: blk g3 81 #[.slice A5 tell1.length c5] :: ownK 88 3 A5 tell1.length c5 (List.flatMap enc88 tell1) :: blk g4 75 (ca A1 p1.length c1 p2 p3 p4 p5 p6) :: fs) ∧ ((board_castles_J8 v_Places1 v_Turn1 v_Castle1 v_EnPassant1 v_Half1 v_Full1 tell1 n4 r1) free4).bind φ1 = some r) ?_ ?_
      ·rintro a w ⟨free4, hF, hS, hm⟩
       unfold board_castles_J8 at hm
       refine rg [] [] [1, 2, 4, 5, 7, 75] [pl 1 (.func (.func 200) #[] #[pa g1 0]), pl 2 (pa g4 0), pl 4 (vi n4), pl 5 (vi r1.1), pl 7 (vi (w64 (1 - (w64 (2 * (bAnd n4 1)))))), pl 75 (.bool free4)] hF hS obs_nil (fun a w hF hS => ?_)
       refine ce (t := 75) (b := free4) hF (fun hb => ?_) (fun hb => ?_)
       ·replace hm := if_t hm hb
        refine oneR ?_
        obtain ⟨r3, hr3, hm⟩ := call_b hm
        refine ar 7 [] [] [1, 2, 4, 76, 82] [pl 1 (.func (.func 200) #[] #[pa g1 0]), pl 2 (pa g4 0), pl 4 (vi n4), pl 76 (.func (.func 200) #[] #[pa g1 0]), pl 82 (.agg #[vi r1.1, vi (w64 (r1.1 + (w64 (2 * (w64 (1 - (w64 (2 * (bAnd n4 1))))))))), vi 0])] hF hS obs_nil (fun a w hF hS => ?_)
        refine at_call (f := 200) (args := #[.agg #[vi r1.1, vi (w64 (r1.1 + (w64 (2 * (w64 (1 - (w64 (2 * (bAnd n4 1))))))))), vi 0], pa g1 0]) (d := 83) hF (by kernel_rfl) (by kernel_rfl) Try.func200 (by kernel_rfl) rfl (board_Moves_3_w hr3 hS (fun _ hS => (hr_v_Places1 _ (hS.dropN 1))) _hc_v_Places1 rfl) (fun v a w hR hF => ?_)
        clear hS
        obtain ⟨A9, c9, rfl, hS⟩ := hR
        have hS : Sep w0 B w (blk g1 214 #[.func (.func 195) #[] #[pa g2 0, pa g3 0]] :: blk g2 75 (ca A2 v_Places1.length c2 v_Turn1 v_Castle1 v_EnPassant1 v_Half1 v_Full1) :: blk g3 81 #[.slice A9 r3.length c9] :: ownK 88 3 A9 r3.length c9 (List.flatMap enc88 r3) :: blk g4 75 (ca A1 p1.length c1 p2 p3 p4 p5 p6) :: fs) := hS
        refine ae [1, 2, 4] [pl 1 (.func (.func 200) #[] #[pa g1 0]), pl 2 (pa g4 0), pl 4 (vi n4)] hF rfl (fun hF => ?_)
        refine block_n ?_
        refine then_n ?_
        exact ⟨r3, A9, c9, hF.wk [1, 2, 4], hS, hm⟩
       ·replace hm := if_f hm hb
        refine wpIn_skip ?_
        refine block_n ?_
        refine then_n ?_
        exact ⟨tell1, A5, c5, hF.wk [1, 2, 4], hS, hm⟩
      ·refine rg [] [] [1, 2, 4, 5, 7, 8, 55] [pl 1 (.func (.func 200) #[] #[pa g1 0]), pl 2 (pa g4 0), pl 4 (vi n4), pl 5 (vi r1.1), pl 7 (vi (w64 (1 - (w64 (2 * (bAnd n4 1)))))), pl 8 (.bool free2), pl 55 (vi 0)] hF hS obs_nil (fun a w hF hS => ?_)
       refine wpIn_block ?_
       refine wp_loop_model (S := (Bool × Int)) (R := Bool) (board_castles_L3 p1 p2 n4 r1) (fun x => ((board_castles_K3 v_Places1 v_Turn1 v_Castle1 v_EnPassant1 v_Half1 v_Full1 tell1 n4 r1) x).bind φ1) r (fun (x : (Bool × Int)) a w => Fr 84 [pl 1 (.func (.func 200) #[] #[pa g1 0]), pl 2 (pa g4 0), pl 4 (vi n4), pl 5 (vi r1.1), pl 7 (vi (w64 (1 - (w64 (2 * (bAnd n4 1)))))), pl 8 (.bool x.1), pl 55 (vi x.2)] a ∧ Sep w0 B w (blk g1 214 #[.func (.func 195) #[] #[pa g2 0, pa g3 0]] :: blk g2 75 (ca A2 v_Places1.length c2 v_Turn1 v_Castle1 v_EnPassant1 v_Half1 v_Full1) :: blk g3 81 #[.slice A5 tell1.length c5] :: ownK 88 3 A5 tell1.length c5 (List.flatMap enc88 tell1) :: blk g4 75 (ca A1 p1.length c1 p2 p3 p4 p5 p6) :: fs)) (assoc_b hm) ⟨hF.wk [1, 2, 4, 5, 7, 8, 55], hS⟩ ?_
       clear hF hS hm
       rintro nn3 ⟨free3, z1⟩ a w ⟨hF, hS⟩ hm
       generalize hφ3 : stK (board_castles_L3 p1 p2 n4 r1) nn3 (fun x => ((board_castles_K3 v_Places1 v_Turn1 v_Castle1 v_EnPassant1 v_Half1 v_Full1 tell1 n4 r1) x).bind φ1) = φ3 at hm
       unfold board_castles_L3 at hm
       dsimp only at hF hS hm
       refine rg [] [] [1, 2, 4, 5, 7, 8, 55, 56] [pl 1 (.func (.func 200) #[] #[pa g1 0]), pl 2 (pa g4 0), pl 4 (vi n4), pl 5 (vi r1.1), pl 7 (vi (w64 (1 - (w64 (2 * (bAnd n4 1)))))), pl 8 (.bool free3), pl 55 (vi z1), pl 56 (.bool (decide (z1 < 3)))] hF hS obs_nil (fun a w hF hS => ?_)
       refine seq_cut (fun a w => Fr 84 [pl 1 (.func (.func 200) #[] #[pa g1 0]), pl 2 (pa g4 0), pl 4 (vi n4), pl 5 (vi r1.1), pl 7 (vi (w64 (1 - (w64 (2 * (bAnd n4 1)))))), pl 8 (.bool free3), pl 55 (vi z1)] a ∧ Sep w0 B w (blk g1 214 #[.func (.func 195) #[] #[pa g2 0, pa g3 0]] :: blk g2 75 (ca A2 v_Places1.length c2 v_Turn1 v_Castle1 v_EnPassant1 v_Half1 v_Full1) :: blk g3 81 #[.slice A5 tell1.length c5] :: ownK 88 3 A5 tell1.length c5 (List.flatMap enc88 tell1) :: blk g4 75 (ca A1 p1.length c1 p2 p3 p4 p5 p6) :: fs) ∧ ((board_castles_J9 p1 p2 n4 r1 free3 z1)).bind φ3 = some r) ?_ ?_
       ·rintro a w ⟨hF, hS, hm⟩
        unfold board_castles_J9 at hm
        refine seq_cut (fun a w => ∃ (free5 : Bool), Fr 84 [pl 1 (.func (.func 200) #[] #[pa g1 0]), pl 2 (pa g4 0), pl 4 (vi n4), pl 5 (vi r1.1), pl 7 (vi (w64 (1 - (w64 (2 * (bAnd n4 1)))))), pl 8 (.bool free5), pl 55 (vi z1)] a ∧ Sep w0 B w (blk g1 214 #[.func (.func 195) #[] #[pa g2 0, pa g3 0]] :: blk g2 75 (ca A2 v_Places1.length c2 v_Turn1 v_Castle1 v_EnPassant1 v_Half1 v_Full1) :: blk g3 81 #[.slice A5 tell1.length c5] :: ownK 88 3 A5 tell1.length c5 (List.flatMap enc88 tell1) :: blk g4 75 (ca A1 p1.length c1 p2 p3 p4 p5 p6) :: fs) ∧ ((board_castles_J10 z1) free5).bind φ3 = some r) ?_ ?_
        ·rintro a w ⟨free5, hF, hS, hm⟩
         unfold board_castles_J10 at hm
         refine rg1 [] [] [1, 2, 4, 5, 7, 8, 55] [pl 1 (.func (.func 200) #[] #[pa g1 0]), pl 2 (pa g4 0), pl 4 (vi n4), pl 5 (vi r1.1), pl 7 (vi (w64 (1 - (w64 (2 * (bAnd n4 1)))))), pl 8 (.bool free5), pl 55 (vi (w64 (z1 + 1)))] hF hS obs_nil (fun a w hF hS => ?_)
         refine then_n ?_
         rw [← hφ3] at hm
         exact ⟨(free5, (w64 (z1 + 1))), ⟨hF.wk [1, 2, 4, 5, 7, 8, 55], hS⟩, hm⟩
        ·refine wpIn_block ?_
         refine rg [] [] [1, 2, 4, 5, 7, 8, 10, 55] [pl 1 (.func (.func 200) #[] #[pa g1 0]), pl 2 (pa g4 0), pl 4 (vi n4), pl 5 (vi r1.1), pl 7 (vi (w64 (1 - (w64 (2 * (bAnd n4 1)))))), pl 8 (.bool free3), pl 10 (vi z1), pl 55 (vi z1)] hF hS obs_nil (fun a w hF hS => ?_)
         refine oneR ?_
         refine ar 12 [⟨false, [(free3, true)], vS (Instr.loadAt 27 (pa g4 0)), .slice A1 p1.length c1⟩, ⟨false, [(free3, true)], vS (Instr.loadAt 3 (pa g4 1)), vi p2⟩] [none, none, none, some (.slice A1 p1.length c1), none, none, none, none, none, none, some (vi p2), none] [1, 2, 4, 5, 7, 55, 59, 61, 66, 69] [pl 1 (.func (.func 200) #[] #[pa g1 0]), pl 2 (pa g4 0), pl 4 (vi n4), pl 5 (vi r1.1), pl 7 (vi (w64 (1 - (w64 (2 * (bAnd n4 1)))))), pl 55 (vi z1), pl 59 (.bool free3), ⟨61, [(59, true)], .slice A1 p1.length c1⟩, ⟨66, [(59, true)], vi (w64 (r1.1 + (w64 (z1 * (w64 (1 - (w64 (2 * (bAnd n4 1)))))))))⟩, ⟨69, [(59, true)], vi (w64 (1 - p2))⟩] hF hS ?_ (fun a w hF hS => ?_)
         ·exact obs_cons (ob_load Agg27 (fun _ _ hS => (hS.at_ 4 rfl).cell rfl)) <| obs_cons (ob_load Agg3 (fun _ _ hS => (hS.at_ 4 rfl).cell rfl)) <| obs_nil
         rcases Bool.eq_false_or_eq_true free3 with hg1 | hg1
         ·replace hm := if_t hm hg1
          obtain ⟨r2, hr2, hm⟩ := call_b hm
          refine at_gcall (hs := [(free3, true)]) (fun y hy => by simp only [List.mem_cons, List.not_mem_nil, or_false] at hy; subst hy; first | exact hg1) (f := 205) (args := #[.slice A1 p1.length c1, vi (w64 (r1.1 + (w64 (z1 * (w64 (1 - (w64 (2 * (bAnd n4 1))))))))), vi (w64 (1 - p2))]) (d := 70) hF (by kernel_rfl) (by kernel_rfl) Try.func205 (by kernel_rfl) rfl (board_Attackers_w hr2 hS (fun _ hS => (hr_p1 _ (hS.dropN 5))) _hc_p1 rfl) (fun v a w hR hF => ?_)
          clear hS
          obtain ⟨A8, c8, rfl, hS⟩ := hR
          have hS : Sep w0 B w (own 3 (.slice A8 r2.length c8) (vI r2) :: blk g1 214 #[.func (.func 195) #[] #[pa g2 0, pa g3 0]] :: blk g2 75 (ca A2 v_Places1.length c2 v_Turn1 v_Castle1 v_EnPassant1 v_Half1 v_Full1) :: blk g3 81 #[.slice A5 tell1.length c5] :: ownK 88 3 A5 tell1.length c5 (List.flatMap enc88 tell1) :: blk g4 75 (ca A1 p1.length c1 p2 p3 p4 p5 p6) :: fs) := hS
          refine ar 4 [] [] [1, 2, 4, 5, 7, 8, 55] [pl 1 (.func (.func 200) #[] #[pa g1 0]), pl 2 (pa g4 0), pl 4 (vi n4), pl 5 (vi r1.1), pl 7 (vi (w64 (1 - (w64 (2 * (bAnd n4 1)))))), pl 8 (.bool (free3 && ((r2.length : Int) == 0))), pl 55 (vi z1)] hF hS obs_nil (fun a w hF hS => ?_)
          refine ae [1, 2, 4, 5, 7, 8, 55] [pl 1 (.func (.func 200) #[] #[pa g1 0]), pl 2 (pa g4 0), pl 4 (vi n4), pl 5 (vi r1.1), pl 7 (vi (w64 (1 - (w64 (2 * (bAnd n4 1)))))), pl 8 (.bool (free3 && ((r2.length : Int) == 0))), pl 55 (vi z1)] hF rfl (fun hF => ?_)
          refine block_n ?_
          refine then_n ?_
          have hS := hS.pickN 6 [1, 2, 3, 4, 5] (by decide)
          exact ⟨(free3 && ((r2.length : Int) == 0)), hF.wk [1, 2, 4, 5, 7, 8, 55], hS, hm⟩
         ·replace hm := if_f hm hg1
          refine at_gskip (d := 70) (v := .slice none 0 0) (hs := [(free3, true)]) (ctx := [(59, true)]) hF (by kernel_rfl) (by kernel_rfl) (fun h => absurd (h (free3, true) (by simp)) (by simp [hg1])) (fun a hF => ?_)
          refine ar 4 [] [] [1, 2, 4, 5, 7, 8, 55] [pl 1 (.func (.func 200) #[] #[pa g1 0]), pl 2 (pa g4 0), pl 4 (vi n4), pl 5 (vi r1.1), pl 7 (vi (w64 (1 - (w64 (2 * (bAnd n4 1)))))), pl 8 (.bool (free3 && ((0 : Int) == 0))), pl 55 (vi z1)] hF hS obs_nil (fun a w hF hS => ?_)
          refine ae [1, 2, 4, 5, 7, 8, 55] [pl 1 (.func (.func 200) #[] #[pa g1 0]), pl 2 (pa g4 0), pl 4 (vi n4), pl 5 (vi r1.1), pl 7 (vi (w64 (1 - (w64 (2 * (bAnd n4 1)))))), pl 8 (.bool (free3 && ((0 : Int) == 0))), pl 55 (vi z1)] hF rfl (fun hF => ?_)
          refine block_n ?_
          refine then_n ?_
          exact ⟨(free3 && ((0 : Int) == 0)), hF.wk [1, 2, 4, 5, 7, 8, 55], hS, hm⟩
       ·refine ce (t := 56) (b := decide (z1 < 3)) hF (fun hb => ?_) (fun hb => ?_)
        ·replace hm := if_t hm hb
         refine wpIn_skip ?_
         refine then_n ?_
         exact ⟨hF.wk [1, 2, 4, 5, 7, 8, 55], hS, hm⟩
        ·replace hm := if_f hm hb
         refine wpIn_exit ?_
         refine then_e (then_e (block_e (then_n ?_)))
         rw [← hφ3] at hm
         replace hm := done_b hm
         unfold board_castles_K3 at hm
         try dsimp only at hm
         have hm : ((board_castles_J8 v_Places1 v_Turn1 v_Castle1 v_EnPassant1 v_Half1 v_Full1 tell1 n4 r1) free3).bind φ1 = some r := hm
         exact ⟨free3, hF.wk [1, 2, 4, 5, 7, 8], hS, hm⟩
     ·refine rg [] [] [1, 2, 4, 5, 6, 7, 8, 9] [pl 1 (.func (.func 200) #[] #[pa g1 0]), pl 2 (pa g4 0), pl 4 (vi n4), pl 5 (vi r1.1), pl 6 (vi r1.2), pl 7 (vi (w64 (1 - (w64 (2 * (bAnd n4 1)))))), pl 8 (.bool true), pl 9 (vi (w64 (r1.1 + (w64 (1 - (w64 (2 * (bAnd n4 1))))))))] hF hS obs_nil (fun a w hF hS => ?_)
      refine wpIn_block ?_
      refine wp_loop_model (S := (Bool × Int)) (R := Bool) (board_castles_L2 p1 n4 r1) (fun x => ((board_castles_K2 p1 p2 v_Places1 v_Turn1 v_Castle1 v_EnPassant1 v_Half1 v_Full1 tell1 n4 r1) x).bind φ1) r (fun (x : (Bool × Int)) a w => Fr 84 [pl 1 (.func (.func 200) #[] #[pa g1 0]), pl 2 (pa g4 0), pl 4 (vi n4), pl 5 (vi r1.1), pl 6 (vi r1.2), pl 7 (vi (w64 (1 - (w64 (2 * (bAnd n4 1)))))), pl 8 (.bool x.1), pl 9 (vi x.2)] a ∧ Sep w0 B w (blk g1 214 #[.func (.func 195) #[] #[pa g2 0, pa g3 0]] :: blk g2 75 (ca A2 v_Places1.length c2 v_Turn1 v_Castle1 v_EnPassant1 v_Half1 v_Full1) :: blk g3 81 #[.slice A5 tell1.length c5] :: ownK 88 3 A5 tell1.length c5 (List.flatMap enc88 tell1) :: blk g4 75 (ca A1 p1.length c1 p2 p3 p4 p5 p6) :: fs)) (assoc_b hm) ⟨hF.wk [1, 2, 4, 5, 6, 7, 8, 9], hS⟩ ?_
      clear hF hS hm
      rintro nn2 ⟨free1, at1⟩ a w ⟨hF, hS⟩ hm
      generalize hφ2 : stK (board_castles_L2 p1 n4 r1) nn2 (fun x => ((board_castles_K2 p1 p2 v_Places1 v_Turn1 v_Castle1 v_EnPassant1 v_Half1 v_Full1 tell1 n4 r1) x).bind φ1) = φ2 at hm
      unfold board_castles_L2 at hm
      dsimp only at hF hS hm
      refine seq_cut (fun a w => Fr 84 [pl 1 (.func (.func 200) #[] #[pa g1 0]), pl 2 (pa g4 0), pl 4 (vi n4), pl 5 (vi r1.1), pl 6 (vi r1.2), pl 7 (vi (w64 (1 - (w64 (2 * (bAnd n4 1)))))), pl 8 (.bool free1), pl 9 (vi at1)] a ∧ Sep w0 B w (blk g1 214 #[.func (.func 195) #[] #[pa g2 0, pa g3 0]] :: blk g2 75 (ca A2 v_Places1.length c2 v_Turn1 v_Castle1 v_EnPassant1 v_Half1 v_Full1) :: blk g3 81 #[.slice A5 tell1.length c5] :: ownK 88 3 A5 tell1.length c5 (List.flatMap enc88 tell1) :: blk g4 75 (ca A1 p1.length c1 p2 p3 p4 p5 p6) :: fs) ∧ ((board_castles_J6 p1 n4 free1 at1)).bind φ2 = some r) ?_ ?_
      ·rintro a w ⟨hF, hS, hm⟩
       unfold board_castles_J6 at hm
       refine seq_cut (fun a w => Fr 84 [pl 1 (.func (.func 200) #[] #[pa g1 0]), pl 2 (pa g4 0), pl 4 (vi n4), pl 5 (vi r1.1), pl 6 (vi r1.2), pl 7 (vi (w64 (1 - (w64 (2 * (bAnd n4 1)))))), pl 8 (.bool (free1 && ((geti p1 at1) == 0))), pl 9 (vi at1)] a ∧ Sep w0 B w (blk g1 214 #[.func (.func 195) #[] #[pa g2 0, pa g3 0]] :: blk g2 75 (ca A2 v_Places1.length c2 v_Turn1 v_Castle1 v_EnPassant1 v_Half1 v_Full1) :: blk g3 81 #[.slice A5 tell1.length c5] :: ownK 88 3 A5 tell1.length c5 (List.flatMap enc88 tell1) :: blk g4 75 (ca A1 p1.length c1 p2 p3 p4 p5 p6) :: fs) ∧ ((board_castles_J7 p1 n4 free1 at1)).bind φ2 = some r) ?_ ?_
       ·rintro a w ⟨hF, hS, hm⟩
        unfold board_castles_J7 at hm
        refine rg1 [] [] [1, 2, 4, 5, 6, 7, 8, 9] [pl 1 (.func (.func 200) #[] #[pa g1 0]), pl 2 (pa g4 0), pl 4 (vi n4), pl 5 (vi r1.1), pl 6 (vi r1.2), pl 7 (vi (w64 (1 - (w64 (2 * (bAnd n4 1)))))), pl 8 (.bool (free1 && ((geti p1 at1) == 0))), pl 9 (vi (w64 (at1 + (w64 (1 - (w64 (2 * (bAnd n4 1))))))))] hF hS obs_nil (fun a w hF hS => ?_)
        refine then_n ?_
        rw [← hφ2] at hm
        exact ⟨((free1 && ((geti p1 at1) == 0)), (w64 (at1 + (w64 (1 - (w64 (2 * (bAnd n4 1)))))))), ⟨hF.wk [1, 2, 4, 5, 6, 7, 8, 9], hS⟩, hm⟩
       ·refine wpIn_block ?_
        obtain ⟨hp2, hm⟩ := asrt_b hm
        refine rg1 [⟨false, [(free1, true)], vS (Instr.loadAt 27 (pa g4 0)), .slice A1 p1.length c1⟩, ⟨true, [(free1, true)], vS (Instr.indexAt 27 (.slice A1 p1.length c1) (vi at1)), .pointer (some (sAddr A1 at1))⟩, ⟨false, [(free1, true)], vS (Instr.loadAt 3 (.pointer (some (sAddr A1 at1)))), vi (geti p1 at1)⟩] [none, none, none, some (.slice A1 p1.length c1), none, some (.pointer (some (sAddr A1 at1))), some (vi (geti p1 at1)), none, none, none] [1, 2, 4, 5, 6, 7, 8, 9] [pl 1 (.func (.func 200) #[] #[pa g1 0]), pl 2 (pa g4 0), pl 4 (vi n4), pl 5 (vi r1.1), pl 6 (vi r1.2), pl 7 (vi (w64 (1 - (w64 (2 * (bAnd n4 1)))))), pl 8 (.bool (free1 && ((geti p1 at1) == 0))), pl 9 (vi at1)] hF hS ?_ (fun a w hF hS => ?_)
        ·exact obs_cons (ob_load Agg27 (fun _ _ hS => (hS.at_ 4 rfl).cell rfl)) <| obs_cons (ob_ix1 (f := (Value.int .i64)) (m := p1) Und27 hi3 hs3 (hr_p1 _ (hS.dropN 5)) rfl (fun hy => hp2 (hy (free1, true) (by simp)))) <| obs_cons (ob_get1 (n := p1.length) (m := p1) (Value.int .i64) (0 : Int) Agg3 (fun _ hS => ⟨_, (hr_p1 _ (hS.dropN 5))⟩) (fun _ hS => rfl) (fun hy => hp2 (hy (free1, true) (by simp)))) <| obs_nil
        refine block_n ?_
        refine then_n ?_
        exact ⟨hF.wk [1, 2, 4, 5, 6, 7, 8, 9], hS, hm⟩
      ·refine rg [] [] [1, 2, 4, 5, 6, 7, 8, 9, 42] [pl 1 (.func (.func 200) #[] #[pa g1 0]), pl 2 (pa g4 0), pl 4 (vi n4), pl 5 (vi r1.1), pl 6 (vi r1.2), pl 7 (vi (w64 (1 - (w64 (2 * (bAnd n4 1)))))), pl 8 (.bool free1), pl 9 (vi at1), pl 42 (.bool (at1 != r1.2))] hF hS obs_nil (fun a w hF hS => ?_)
       refine ce (t := 42) (b := (at1 != r1.2)) hF (fun hb => ?_) (fun hb => ?_)
       ·replace hm := if_t hm hb
        refine wpIn_skip ?_
        refine then_n ?_
        exact ⟨hF.wk [1, 2, 4, 5, 6, 7, 8, 9], hS, hm⟩
       ·replace hm := if_f hm hb
        refine wpIn_exit ?_
        refine then_e (then_e (block_e (then_n ?_)))
        rw [← hφ2] at hm
        replace hm := done_b hm
        unfold board_castles_K2 at hm
        try dsimp only at hm
        have hm : ((board_castles_J5 p1 p2 v_Places1 v_Turn1 v_Castle1 v_EnPassant1 v_Half1 v_Full1 tell1 n4 r1) free1).bind φ1 = some r := hm
        exact ⟨free1, hF.wk [1, 2, 4, 5, 7, 8], hS, hm⟩
    ·obtain ⟨hp1, hm⟩ := asrt_b hm
     refine rg [⟨false, [], vS (Instr.loadAt 3 (pa g4 2)), vi p3⟩, ⟨true, [], vS (Op.shift .shr .i64 p3 .i64 n4), vi (shrK .i64 p3 n4)⟩] [none, some (vi p3), none, some (vi (shrK .i64 p3 n4)), none, none] [1, 2, 4, 5, 6, 32] [pl 1 (.func (.func 200) #[] #[pa g1 0]), pl 2 (pa g4 0), pl 4 (vi n4), pl 5 (vi r1.1), pl 6 (vi r1.2), pl 32 (.bool ((bAnd (shrK .i64 p3 n4) 1) == 0))] hF hS ?_ (fun a w hF hS => ?_)
     ·exact obs_cons (ob_load Agg3 (fun _ _ hS => (hS.at_ 4 rfl).cell rfl)) <| obs_cons (ob_shr (fun _ => hp1)) <| obs_nil
     refine ce (t := 32) (b := ((bAnd (shrK .i64 p3 n4) 1) == 0)) hF (fun hb => ?_) (fun hb => ?_)
     ·replace hm := if_t hm hb
      refine wpIn_exit ?_
      refine then_e (block_e (then_n ?_))
      exact ⟨tell1, A5, c5, hF.wk [1, 2, 4], hS, hm⟩
     ·replace hm := if_f hm hb
      refine wpIn_skip ?_
      refine then_n ?_
      exact ⟨hF.wk [1, 2, 4, 5, 6], hS, hm⟩
  ·refine rg [⟨false, [], vS (Instr.loadAt 3 (pa g4 1)), vi p2⟩] [none, none, some (vi p2), none, none, none] [1, 2, 4, 19] [pl 1 (.func (.func 200) #[] #[pa g1 0]), pl 2 (pa g4 0), pl 4 (vi n4), pl 19 (.bool (decide (n4 < (w64 ((w64 (2 * p2)) + 2)))))] hF hS ?_ (fun a w hF hS => ?_)
   ·exact obs_cons (ob_load Agg3 (fun _ _ hS => (hS.at_ 4 rfl).cell rfl)) <| obs_nil
   refine ce (t := 19) (b := decide (n4 < (w64 ((w64 (2 * p2)) + 2)))) hF (fun hb => ?_) (fun hb => ?_)
   ·replace hm := if_t hm hb
    refine wpIn_skip ?_
    refine then_n ?_
    exact ⟨hF.wk [1, 2, 4], hS, hm⟩
   ·replace hm := if_f hm hb
    refine wpIn_exit ?_
    refine then_e (then_e (block_e (then_n ?_)))
    have hS := hS.pickN 5 [0, 1, 2, 3] (by decide)
    rw [← hφ1] at hm
    replace hm := done_b hm
    unfold board_castles_K1 at hm
    try dsimp only at hm
    have hm : (board_castles_J1 tell1).bind some = some r := hm
    exact ⟨tell1, A5, c5, hF.wk [], hS, hm⟩

def api_Move_2_m (x1 : List MvT) : Option (List MvT) :=
 asrt ((x1.length : Int) ≤ bigN) <| some (sortK cfMv x1)

theorem api_Move_2_w {A1 : Option Addr} {c1 n1 : Nat} {x1 : List MvT} {r : (List MvT)} {w0 w : World} {B : Nat} {fs : List HP} (hm : api_Move_2_m x1 = some r) (hS : Sep w0 B w (ownK 88 3 A1 n1 c1 (List.flatMap enc88 x1) :: fs)) :
  Calls Try.prog 201 #[.slice A1 n1 c1, .func (.func 202) #[] #[]] w fun e w' => ∃ v, e = .returned v ∧ v = .tuple #[] ∧ Sep w0 B w' (ownK 88 3 A1 n1 c1 (List.flatMap enc88 r) :: fs) := by
 unfold api_Move_2_m at hm
 obtain ⟨hb, hm⟩ := asrt_b (start_b hm)
 obtain rfl := Option.some.inj hm
 exact sortF_own SortFL encK88 SortFA SortFZ cfMv_swo cfMv_tot SortFE SortFC hS hb

def board_Moves_J3  (z1 : Int) (l3 : List MvT) : Option (St (List MvT × Int) (List MvT)) :=
 some (.next (l3, (w64 (z1 + 1))))

def board_Moves_K2  (z1 : Int) : (St (List MvT) Unit) → Option (St (List MvT × Int) (List MvT)) :=
 fun (x : St (List MvT) Unit) => match x with | .next l4 => (board_Moves_J3 z1) l4 | .done _ => none

def board_Moves_L2  (p1 : List Int) (p2 p3 : Int) (p4 p5 : Int) (p6 z1 : Int) : (Int × (List MvT)) → Option (St (List MvT) Unit) :=
 fun (x : Int × (List MvT)) => match x with | (x1, l4) => asrt (0 ≤ x1 ∧ x1 < (p1.length : Int)) <| (board_Side_m (geti p1 x1)).bind fun r5 => if (r5 != p2) then ((board_Moves_1_m z1 x1 0 p1 p2 p3 p4 p5 p6 l4).bind fun r6 => some (.next r6.2)) else (some (.next l4))

def board_Moves_J2  (p1 : List Int) (p2 p3 : Int) (p4 p5 p6 : Int) (l1 : List MvT) (z1 : Int) : Option (St (List MvT × Int) (List MvT)) :=
 asrt (0 ≤ z1 ∧ z1 < (p1.length : Int)) <| (board_Side_m (geti p1 z1)).bind fun r1 => if (r1 != p2) then ((board_Moves_J3 z1) l1) else ((board_Kind_m (geti p1 z1)).bind fun r2 => if (r2 == 1) then ((board_pawn_m p1 p2 p3 p4 p5 p6 z1 z1 p1 p2 p3 p4 p5 p6 l1).bind fun r3 => (board_Moves_J3 z1) r3) else ((board_Reach_m p1 z1).bind fun r4 => (board_Reach_1_m (ydOf (fun x s => (board_Moves_L2 p1 p2 p3 p4 p5 p6 z1) (x, s))) (.next l1) p1 r4).bind (board_Moves_K2 z1)))

def board_Moves_J1  (p1 : List Int) (p2 p3 : Int) (p4 p5 p6 : Int) (l2 : List MvT) : Option (List MvT) :=
 (board_castles_m p1 p2 p3 p4 p5 p6 p1 p2 p3 p4 p5 p6 l2).bind fun r7 => (api_Move_2_m r7).bind fun r8 => some r8

def board_Moves_K1  (p1 : List Int) (p2 p3 : Int) (p4 p5 p6 : Int) : (List MvT) → Option (List MvT) :=
 fun (x : (List MvT)) => match x with | l2 => (board_Moves_J1 p1 p2 p3 p4 p5 p6) l2

def board_Moves_L1  (p1 : List Int) (p2 p3 : Int) (p4 p5 p6 : Int) : (List MvT × Int) → Option (St (List MvT × Int) (List MvT)) :=
 fun (x : (List MvT × Int)) => match x with | (l1, z1) => if (decide (z1 < (p1.length : Int))) then ((board_Moves_J2 p1 p2 p3 p4 p5 p6 l1 z1)) else (some (.done l1))

def board_Moves_m  (p1 : List Int) (p2 p3 : Int) (p4 p5 p6 : Int) : Option (List MvT) :=
 (loop (board_Moves_L1 p1 p2 p3 p4 p5 p6) (([] : List MvT), 0)).bind (board_Moves_K1 p1 p2 p3 p4 p5 p6)

theorem board_Moves_w {A1 : Option Addr} {c1 n1 : Nat} {p1 : List Int} {p2 p3 : Int} {p4 p5 p6 : Int} {r : (List MvT)} {w0 w : World} {B : Nat} {fs : List HP} (hm : board_Moves_m p1 p2 p3 p4 p5 p6 = some r) (hS : Sep w0 B w (fs)) (hr_p1 : RdF w0 B fs A1 (vI p1)) (_hc_p1 : p1.length ≤ c1) (_hn_p1 : n1 = p1.length) :
  Calls Try.prog 133 #[.agg (ca A1 n1 c1 p2 p3 p4 p5 p6)] w fun e w' => ∃ v, e = .returned v ∧ ∃ (A9 : Option Addr) (c9 : Nat), v = .slice A9 r.length c9 ∧ Sep w0 B w' (ownK 88 3 A9 r.length c9 (List.flatMap enc88 r) :: fs) := by
 obtain ⟨i3, hi3, hz3, hs3, hb3⟩ := info_parts Info3
 obtain ⟨i88, hi88, hz88, hs88, hb88⟩ := info_parts Info88
 obtain ⟨i214, hi214, hz214, hs214, hb214⟩ := info_parts Info214
 obtain rfl := _hn_p1
 unfold board_Moves_m at hm
 replace hm := start_b hm
 refine enter (l := [.agg (ca A1 p1.length c1 p2 p3 p4 p5 p6)]) (n := 57) Try.func133 rfl rfl (by simp) (fun a hF => ?_)
 have hS := hS.defs0
 refine seqR ?_
 refine at_do (d := 1) (s := vS (Instr.box 75 (.agg (ca A1 p1.length c1 p2 p3 p4 p5 p6)))) (v := pa w.heap.size 0) (w' := w.alloc (.cells (ca A1 p1.length c1 p2 p3 p4 p5 p6) 75)) hF (by kernel_rfl) (by kernel_rfl) (by kernel_rfl) (fun a hF => ?_)
 have hS : Sep w0 B (w.alloc (.cells (ca A1 p1.length c1 p2 p3 p4 p5 p6) 75)) (blk w.heap.size 75 (ca A1 p1.length c1 p2 p3 p4 p5 p6) :: (defsH ([]) :: fs)) := hS.box 75 (ca A1 p1.length c1 p2 p3 p4 p5 p6)
 generalize w.heap.size = g1 at hF hS
 generalize w.alloc (.cells (ca A1 p1.length c1 p2 p3 p4 p5 p6) 75) = w at hS ⊢
 refine ar 1 [] [] [1] [pl 1 (pa g1 0)] hF hS obs_nil (fun a w hF hS => ?_)
 refine ae [1] [pl 1 (pa g1 0)] hF rfl (fun hF => ?_)
 refine then_n (seqR ?_)
 refine at_do (d := 3) (s := vS (Instr.alloc 81 true (.tuple #[]))) (v := pa w.heap.size 0) (w' := w.alloc (.cells #[.slice none 0 0] 81)) hF (by kernel_rfl) (by kernel_rfl) (by kernel_rfl) (fun a hF => ?_)
 have hS : Sep w0 B (w.alloc (.cells #[.slice none 0 0] 81)) (blk w.heap.size 81 #[.slice none 0 0] :: (blk g1 75 (ca A1 p1.length c1 p2 p3 p4 p5 p6) :: defsH ([]) :: fs)) := hS.box 81 #[.slice none 0 0]
 generalize w.heap.size = g2 at hF hS
 generalize w.alloc (.cells #[.slice none 0 0] 81) = w at hS ⊢
 refine ae [1, 3] [pl 1 (pa g1 0), pl 3 (pa g2 0)] hF rfl (fun hF => ?_)
 refine then_n (seqR ?_)
 refine ar 1 [] [] [1, 3, 8] [pl 1 (pa g1 0), pl 3 (pa g2 0), pl 8 (.func (.func 195) #[] #[pa g1 0, pa g2 0])] hF hS obs_nil (fun a w hF hS => ?_)
 refine at_do (d := 4) (s := vS (Instr.alloc 214 true (.tuple #[]))) (v := pa w.heap.size 0) (w' := w.alloc (.cells #[.nilFunc] 214)) hF (by kernel_rfl) (by kernel_rfl) (by kernel_rfl) (fun a hF => ?_)
 have hS : Sep w0 B (w.alloc (.cells #[.nilFunc] 214)) (blk w.heap.size 214 #[.nilFunc] :: (blk g2 81 #[.slice none 0 0] :: blk g1 75 (ca A1 p1.length c1 p2 p3 p4 p5 p6) :: defsH ([]) :: fs)) := hS.box 214 #[.nilFunc]
 generalize w.heap.size = g3 at hF hS
 generalize w.alloc (.cells #[.nilFunc] 214) = w at hS ⊢
 obtain ⟨w, hrun, hS⟩ := run_put (P := Try.prog) (t := 214) (u := .func (.func 195) #[] #[pa g1 0, pa g2 0]) (i := 0) (hS.at_ 0 rfl) hi214 hs214 rfl (Nat.lt_of_lt_of_eq (Nat.lt_of_succ_le (Nat.le_of_ble_eq_true (by kernel_rfl))) rfl)
 refine at_s hF hrun ?_
 have hS : Sep w0 B w (blk g3 214 #[.func (.func 195) #[] #[pa g1 0, pa g2 0]] :: blk g2 81 #[.slice none 0 0] :: blk g1 75 (ca A1 p1.length c1 p2 p3 p4 p5 p6) :: defsH ([]) :: fs) := hS
 refine ae [1, 3, 4] [pl 1 (pa g1 0), pl 3 (pa g2 0), pl 4 (pa g3 0)] hF rfl (fun hF => ?_)
 refine then_n ?_
 refine seq_cut (fun a w => ∃ (l2 : List MvT) (A3 : Option Addr) (c3 : Nat) (Ds3 : List Nat), FrD Ds3 57 [pl 1 (pa g1 0), pl 3 (pa g2 0), pl 4 (pa g3 0)] a ∧ Sep w0 B w (blk g1 75 (ca A1 p1.length c1 p2 p3 p4 p5 p6) :: blk g2 81 #[.slice A3 l2.length c3] :: ownK 88 3 A3 l2.length c3 (List.flatMap enc88 l2) :: blk g3 214 #[.func (.func 195) #[] #[pa g1 0, pa g2 0]] :: defsH Ds3 :: fs) ∧ ((board_Moves_J1 p1 p2 p3 p4 p5 p6) l2).bind some = some r) ?_ ?_
 ·rintro a w ⟨l2, A3, c3, Ds3, hF, hS, hm⟩
  unfold board_Moves_J1 at hm
  refine seqR ?_
  obtain ⟨r7, hr7, hm⟩ := call_b hm
  refine ar 2 [⟨false, [], vS (Instr.loadAt 75 (pa g1 0)), .agg (ca A1 p1.length c1 p2 p3 p4 p5 p6)⟩] [some (.agg (ca A1 p1.length c1 p2 p3 p4 p5 p6)), none] [3, 51, 52] [pl 3 (pa g2 0), pl 51 (.agg (ca A1 p1.length c1 p2 p3 p4 p5 p6)), pl 52 (.func (.func 200) #[] #[pa g3 0])] hF hS ?_ (fun a w hF hS => ?_)
  ·exact obs_cons (oA (cs := (ca A1 p1.length c1 p2 p3 p4 p5 p6)) (fun _ _ hS => (hS.at_ 0 rfl).cellsAt 0 (by rfl))) <| obs_nil
  have hS : Sep w0 B w (blk g3 214 #[.func (.func 195) #[] #[pa g1 0, pa g2 0]] :: blk g1 75 (ca A1 p1.length c1 p2 p3 p4 p5 p6) :: blk g2 81 #[.slice A3 l2.length c3] :: ownK 88 3 A3 l2.length c3 (List.flatMap enc88 l2) :: defsH Ds3 :: fs) := hS.pickN 5 [3, 0, 1, 2, 4] (by decide)
  refine at_call (f := 199) (args := #[.agg (ca A1 p1.length c1 p2 p3 p4 p5 p6), .func (.func 200) #[] #[pa g3 0]]) (d := 53) hF (by kernel_rfl) (by kernel_rfl) Try.func199 (by kernel_rfl) rfl (board_castles_w hr7 hS (fun _ hS => (hr_p1 _ (hS.dropN 1))) _hc_p1 rfl (fun _ hS => (hr_p1 _ (hS.dropN 1))) _hc_p1 rfl) (fun v a w hR hF => ?_)
  clear hS
  obtain ⟨A8, c8, rfl, hS⟩ := hR
  have hS : Sep w0 B w (blk g3 214 #[.func (.func 195) #[] #[pa g1 0, pa g2 0]] :: blk g1 75 (ca A1 p1.length c1 p2 p3 p4 p5 p6) :: blk g2 81 #[.slice A8 r7.length c8] :: ownK 88 3 A8 r7.length c8 (List.flatMap enc88 r7) :: defsH Ds3 :: fs) := hS
  refine ae [3] [pl 3 (pa g2 0)] hF rfl (fun hF => ?_)
  refine then_n (seqR ?_)
  obtain ⟨r8, hr8, hm⟩ := call_b hm
  refine ar 1 [⟨false, [], vS (Instr.loadAt 81 (pa g2 0)), .slice A8 r7.length c8⟩] [some (.slice A8 r7.length c8)] [3, 54] [pl 3 (pa g2 0), pl 54 (.slice A8 r7.length c8)] hF hS ?_ (fun a w hF hS => ?_)
  ·exact obs_cons (ob_load Agg81 (fun _ _ hS => (hS.at_ 2 rfl).cell rfl)) <| obs_nil
  have hS : Sep w0 B w (ownK 88 3 A8 r7.length c8 (List.flatMap enc88 r7) :: blk g3 214 #[.func (.func 195) #[] #[pa g1 0, pa g2 0]] :: blk g1 75 (ca A1 p1.length c1 p2 p3 p4 p5 p6) :: blk g2 81 #[.slice A8 r7.length c8] :: defsH Ds3 :: fs) := hS.pickN 5 [3, 0, 1, 2, 4] (by decide)
  refine at_call (f := 201) (args := #[.slice A8 r7.length c8, .func (.func 202) #[] #[]]) (d := 55) hF (by kernel_rfl) (by kernel_rfl) Try.func201 (by kernel_rfl) rfl (api_Move_2_w hr8 hS ) (fun v a w hR hF => ?_)
  clear hS
  obtain ⟨rfl, hS⟩ := hR
  have hS : Sep w0 B w (ownK 88 3 A8 r7.length c8 (List.flatMap enc88 r8) :: blk g3 214 #[.func (.func 195) #[] #[pa g1 0, pa g2 0]] :: blk g1 75 (ca A1 p1.length c1 p2 p3 p4 p5 p6) :: blk g2 81 #[.slice A8 r7.length c8] :: defsH Ds3 :: fs) := hS
  refine ae [3] [pl 3 (pa g2 0)] hF rfl (fun hF => ?_)
  refine then_n ?_
  refine rg [⟨false, [], vS (Instr.loadAt 81 (pa g2 0)), .slice A8 r7.length c8⟩] [some (.slice A8 r7.length c8), none] [2] [pl 2 (.slice A8 r7.length c8)] hF hS ?_ (fun a w hF hS => ?_)
  ·exact obs_cons (ob_load Agg81 (fun _ _ hS => (hS.at_ 3 rfl).cell rfl)) <| obs_nil
  refine wpIn_ret ?_
  have hl2 := (hS.at_ 0 rfl).lenK encK88
  have hS := (hS.at_ 0 rfl).reNK hl2
  have hS := (hS.at_ 3 rfl).reBlk (congrArg (fun k9 => (#[.slice A8 k9 c8] : Array Value)) hl2)
  have hS : Sep w0 B w (ownK 88 3 A8 r8.length c8 (List.flatMap enc88 r8) :: blk g3 214 #[.func (.func 195) #[] #[pa g1 0, pa g2 0]] :: blk g1 75 (ca A1 p1.length c1 p2 p3 p4 p5 p6) :: blk g2 81 #[.slice A8 r8.length c8] :: defsH Ds3 :: fs) := hS
  have hF := hF.cast (t := 2) (v := .slice A8 r7.length c8) (v' := .slice A8 r8.length c8) rfl rfl (congrArg (fun k => Value.slice A8 k c8) hl2)
  have hS := hS.pickN 5 [4, 0, 1, 2, 3] (by decide)
  have hm : some r8 = some r := hm
  obtain rfl := Option.some.inj hm
  exact retD (rs := [.tmp 2]) (vs := [.slice A8 r8.length c8]) hF hS rfl (fun w hS => by exact rv_t (by kernel_rfl) <| rv_nil) rfl (fun w hS => ⟨_, rfl, A8, c8, rfl, hS.pickN 4 [0] (by decide)⟩)
 ·refine rg [⟨false, [], vS (Instr.loadAt 27 (pa g1 0)), .slice A1 p1.length c1⟩] [none, some (.slice A1 p1.length c1), none, none] [1, 3, 4, 10, 11, 12] [pl 1 (pa g1 0), pl 3 (pa g2 0), pl 4 (pa g3 0), pl 10 (.slice A1 p1.length c1), pl 11 (vi (p1.length : Int)), pl 12 (vi 0)] hF hS ?_ (fun a w hF hS => ?_)
  ·exact obs_cons (ob_load Agg27 (fun _ _ hS => (hS.at_ 2 rfl).cell rfl)) <| obs_nil
  refine wpIn_block ?_
  have hS : Sep w0 B w (ownK 88 3 none 0 0 (List.flatMap enc88 ([] : List MvT)) :: blk g3 214 #[.func (.func 195) #[] #[pa g1 0, pa g2 0]] :: blk g2 81 #[.slice none 0 0] :: blk g1 75 (ca A1 p1.length c1 p2 p3 p4 p5 p6) :: defsH ([]) :: fs) := hS.nilK 88 3 enc88
  have hS : Sep w0 B w (ownK 88 3 none 0 0 (List.flatMap enc88 ([] : List MvT)) :: blk g3 214 #[.func (.func 195) #[] #[pa g1 0, pa g2 0]] :: blk g2 81 #[.slice none 0 0] :: blk g1 75 (ca A1 p1.length c1 p2 p3 p4 p5 p6) :: defsH ([]) :: fs) := hS
  have hl1 := (hS.at_ 0 rfl).lenK encK88
  have hS := (hS.at_ 0 rfl).reNK hl1
  have hS := (hS.at_ 2 rfl).reBlk (congrArg (fun k9 => (#[.slice none k9 0] : Array Value)) hl1)
  have hS : Sep w0 B w (ownK 88 3 none (([] : List MvT).length) 0 (List.flatMap enc88 ([] : List MvT)) :: blk g3 214 #[.func (.func 195) #[] #[pa g1 0, pa g2 0]] :: blk g2 81 #[.slice none (([] : List MvT).length) 0] :: blk g1 75 (ca A1 p1.length c1 p2 p3 p4 p5 p6) :: defsH ([]) :: fs) := hS
  have hS := hS.pickN 5 [3, 2, 0, 1, 4] (by decide)
  refine wp_loop_model (S := (List MvT × Int)) (R := (List MvT)) (board_Moves_L1 p1 p2 p3 p4 p5 p6) (fun x => ((board_Moves_K1 p1 p2 p3 p4 p5 p6) x).bind some) r (fun (x : (List MvT × Int)) a w => ∃ (A2 : Option Addr) (c2 : Nat) (Ds1 : List Nat), FrD Ds1 57 [pl 1 (pa g1 0), pl 3 (pa g2 0), pl 4 (pa g3 0), pl 10 (.slice A1 p1.length c1), pl 11 (vi (p1.length : Int)), pl 12 (vi x.2)] a ∧ Sep w0 B w (blk g1 75 (ca A1 p1.length c1 p2 p3 p4 p5 p6) :: blk g2 81 #[.slice A2 x.1.length c2] :: ownK 88 3 A2 x.1.length c2 (List.flatMap enc88 x.1) :: blk g3 214 #[.func (.func 195) #[] #[pa g1 0, pa g2 0]] :: defsH Ds1 :: fs)) (assoc_b hm) ⟨none, 0, ([]), hF.wk [1, 3, 4, 10, 11, 12], hS⟩ ?_
  clear hF hS hm
  rintro nn1 ⟨l1, z1⟩ a w ⟨A2, c2, Ds1, hF, hS⟩ hm
  generalize hφ1 : stK (board_Moves_L1 p1 p2 p3 p4 p5 p6) nn1 (fun x => ((board_Moves_K1 p1 p2 p3 p4 p5 p6) x).bind some) = φ1 at hm
  unfold board_Moves_L1 at hm
  dsimp only at hF hS hm
  refine rg [] [] [1, 3, 4, 10, 11, 12, 13] [pl 1 (pa g1 0), pl 3 (pa g2 0), pl 4 (pa g3 0), pl 10 (.slice A1 p1.length c1), pl 11 (vi (p1.length : Int)), pl 12 (vi z1), pl 13 (.bool (decide (z1 < (p1.length : Int))))] hF hS obs_nil (fun a w hF hS => ?_)
  refine seq_cut (fun a w => ∃ (Ds2 : List Nat), FrD Ds2 57 [pl 1 (pa g1 0), pl 3 (pa g2 0), pl 4 (pa g3 0), pl 10 (.slice A1 p1.length c1), pl 11 (vi (p1.length : Int)), pl 12 (vi z1)] a ∧ Sep w0 B w (blk g1 75 (ca A1 p1.length c1 p2 p3 p4 p5 p6) :: blk g2 81 #[.slice A2 l1.length c2] :: ownK 88 3 A2 l1.length c2 (List.flatMap enc88 l1) :: blk g3 214 #[.func (.func 195) #[] #[pa g1 0, pa g2 0]] :: defsH Ds2 :: fs) ∧ ((board_Moves_J2 p1 p2 p3 p4 p5 p6 l1 z1)).bind φ1 = some r) ?_ ?_
  ·rintro a w ⟨Ds2, hF, hS, hm⟩
   unfold board_Moves_J2 at hm
   refine seq_cut (fun a w => ∃ (l3 : List MvT) (A4 : Option Addr) (c4 : Nat) (Ds4 : List Nat), FrD Ds4 57 [pl 1 (pa g1 0), pl 3 (pa g2 0), pl 4 (pa g3 0), pl 10 (.slice A1 p1.length c1), pl 11 (vi (p1.length : Int)), pl 12 (vi z1)] a ∧ Sep w0 B w (blk g1 75 (ca A1 p1.length c1 p2 p3 p4 p5 p6) :: blk g2 81 #[.slice A4 l3.length c4] :: ownK 88 3 A4 l3.length c4 (List.flatMap enc88 l3) :: blk g3 214 #[.func (.func 195) #[] #[pa g1 0, pa g2 0]] :: defsH Ds4 :: fs) ∧ ((board_Moves_J3 z1) l3).bind φ1 = some r) ?_ ?_
   ·rintro a w ⟨l3, A4, c4, Ds4, hF, hS, hm⟩
    unfold board_Moves_J3 at hm
    refine rg1 [] [] [1, 3, 4, 10, 11, 12] [pl 1 (pa g1 0), pl 3 (pa g2 0), pl 4 (pa g3 0), pl 10 (.slice A1 p1.length c1), pl 11 (vi (p1.length : Int)), pl 12 (vi (w64 (z1 + 1)))] hF hS obs_nil (fun a w hF hS => ?_)
    refine then_n ?_
    rw [← hφ1] at hm
    exact ⟨(l3, (w64 (z1 + 1))), ⟨A4, c4, Ds4, hF.wk [1, 3, 4, 10, 11, 12], hS⟩, hm⟩
   ·refine wpIn_block ?_
    refine seqR ?_
    obtain ⟨hp1, hm⟩ := asrt_b hm
    refine ar 3 [⟨true, [], vS (Instr.indexAt 27 (.slice A1 p1.length c1) (vi z1)), .pointer (some (sAddr A1 z1))⟩, ⟨false, [], vS (Instr.loadAt 3 (.pointer (some (sAddr A1 z1)))), vi (geti p1 z1)⟩] [none, some (.pointer (some (sAddr A1 z1))), some (vi (geti p1 z1))] [1, 3, 4, 10, 11, 12, 14, 16] [pl 1 (pa g1 0), pl 3 (pa g2 0), pl 4 (pa g3 0), pl 10 (.slice A1 p1.length c1), pl 11 (vi (p1.length : Int)), pl 12 (vi z1), pl 14 (vi z1), pl 16 (vi (geti p1 z1))] hF hS ?_ (fun a w hF hS => ?_)
    ·exact obs_cons (ob_ix1 (f := (Value.int .i64)) (m := p1) Und27 hi3 hs3 (hr_p1 _ (hS.dropN 5)) rfl (fun _ => hp1)) <| obs_cons (ob_get1 (n := p1.length) (m := p1) (Value.int .i64) (0 : Int) Agg3 (fun _ hS => ⟨_, (hr_p1 _ (hS.dropN 5))⟩) (fun _ hS => rfl) (fun _ => hp1)) <| obs_nil
    refine at_do (d := 5) (s := vS (Instr.alloc 3 true (.tuple #[]))) (v := pa w.heap.size 0) (w' := w.alloc (.cells #[vi 0] 3)) hF (by kernel_rfl) (by kernel_rfl) (by kernel_rfl) (fun a hF => ?_)
    have hS : Sep w0 B (w.alloc (.cells #[vi 0] 3)) (blk w.heap.size 3 #[vi 0] :: (blk g1 75 (ca A1 p1.length c1 p2 p3 p4 p5 p6) :: blk g2 81 #[.slice A2 l1.length c2] :: ownK 88 3 A2 l1.length c2 (List.flatMap enc88 l1) :: blk g3 214 #[.func (.func 195) #[] #[pa g1 0, pa g2 0]] :: defsH Ds2 :: fs)) := hS.box 3 #[vi 0]
    generalize w.heap.size = g4 at hF hS
    generalize w.alloc (.cells #[vi 0] 3) = w at hS ⊢
    obtain ⟨w, hrun, hS⟩ := run_put (P := Try.prog) (t := 3) (u := vi z1) (i := 0) (hS.at_ 0 rfl) hi3 hs3 rfl (Nat.lt_of_lt_of_eq (Nat.lt_of_succ_le (Nat.le_of_ble_eq_true (by kernel_rfl))) rfl)
    refine at_s hF hrun ?_
    have hS : Sep w0 B w (blk g4 3 #[vi z1] :: blk g1 75 (ca A1 p1.length c1 p2 p3 p4 p5 p6) :: blk g2 81 #[.slice A2 l1.length c2] :: ownK 88 3 A2 l1.length c2 (List.flatMap enc88 l1) :: blk g3 214 #[.func (.func 195) #[] #[pa g1 0, pa g2 0]] :: defsH Ds2 :: fs) := hS
    refine ar 1 [] [] [1, 3, 4, 5, 6, 10, 11, 12] [pl 1 (pa g1 0), pl 3 (pa g2 0), pl 4 (pa g3 0), pl 5 (pa g4 0), pl 6 (vi (geti p1 z1)), pl 10 (.slice A1 p1.length c1), pl 11 (vi (p1.length : Int)), pl 12 (vi z1)] hF hS obs_nil (fun a w hF hS => ?_)
    refine ae [1, 3, 4, 5, 6, 10, 11, 12] [pl 1 (pa g1 0), pl 3 (pa g2 0), pl 4 (pa g3 0), pl 5 (pa g4 0), pl 6 (vi (geti p1 z1)), pl 10 (.slice A1 p1.length c1), pl 11 (vi (p1.length : Int)), pl 12 (vi z1)] hF rfl (fun hF => ?_)
    refine then_n ?_
    refine wpIn_block ?_
    obtain ⟨r1, hr1, hm⟩ := call_b hm
    refine rg [⟨false, [], callFunc 144 #[vi (geti p1 z1)], vi r1⟩, ⟨false, [], vS (Instr.loadAt 3 (pa g1 1)), vi p2⟩] [none, some (vi r1), none, some (vi p2), none, none] [1, 3, 4, 5, 6, 10, 11, 12, 36] [pl 1 (pa g1 0), pl 3 (pa g2 0), pl 4 (pa g3 0), pl 5 (pa g4 0), pl 6 (vi (geti p1 z1)), pl 10 (.slice A1 p1.length c1), pl 11 (vi (p1.length : Int)), pl 12 (vi z1), pl 36 (.bool (r1 != p2))] hF hS ?_ (fun a w hF hS => ?_)
    ·exact obs_cons (ob_call Try.func144 (by kernel_rfl) rfl (fun _ _ hS => board_Side_w hr1 hS )) <| obs_cons (ob_load Agg3 (fun _ _ hS => (hS.at_ 1 rfl).cell rfl)) <| obs_nil
    refine ce (t := 36) (b := (r1 != p2)) hF (fun hb => ?_) (fun hb => ?_)
    ·replace hm := if_t hm hb
     refine wpIn_skip ?_
     refine block_n ?_
     refine block_n ?_
     refine then_n ?_
     have hS := hS.pickN 6 [1, 2, 3, 4, 5] (by decide)
     exact ⟨l1, A2, c2, Ds2, hF.wk [1, 3, 4, 10, 11, 12], hS, hm⟩
    ·replace hm := if_f hm hb
     obtain ⟨r2, hr2, hm⟩ := call_b hm
     refine rg [⟨false, [], callFunc 190 #[vi (geti p1 z1)], vi r2⟩] [none, some (vi r2), none, none] [1, 3, 4, 5, 10, 11, 12, 42] [pl 1 (pa g1 0), pl 3 (pa g2 0), pl 4 (pa g3 0), pl 5 (pa g4 0), pl 10 (.slice A1 p1.length c1), pl 11 (vi (p1.length : Int)), pl 12 (vi z1), pl 42 (.bool (r2 == 1))] hF hS ?_ (fun a w hF hS => ?_)
     ·exact obs_cons (ob_call Try.func190 (by kernel_rfl) rfl (fun _ _ hS => board_Kind_w hr2 hS )) <| obs_nil
     refine ce (t := 42) (b := (r2 == 1)) hF (fun hb => ?_) (fun hb => ?_)
     ·replace hm := if_t hm hb
      refine oneR ?_
      obtain ⟨r3, hr3, hm⟩ := call_b hm
      refine ar 3 [⟨false, [], vS (Instr.loadAt 75 (pa g1 0)), .agg (ca A1 p1.length c1 p2 p3 p4 p5 p6)⟩, ⟨false, [], vS (Instr.loadAt 3 (pa g4 0)), vi z1⟩] [some (.agg (ca A1 p1.length c1 p2 p3 p4 p5 p6)), some (vi z1), none] [1, 3, 4, 10, 11, 12, 46, 47, 48] [pl 1 (pa g1 0), pl 3 (pa g2 0), pl 4 (pa g3 0), pl 10 (.slice A1 p1.length c1), pl 11 (vi (p1.length : Int)), pl 12 (vi z1), pl 46 (.agg (ca A1 p1.length c1 p2 p3 p4 p5 p6)), pl 47 (vi z1), pl 48 (.func (.func 197) #[] #[pa g4 0, pa g3 0])] hF hS ?_ (fun a w hF hS => ?_)
      ·exact obs_cons (oA (cs := (ca A1 p1.length c1 p2 p3 p4 p5 p6)) (fun _ _ hS => (hS.at_ 1 rfl).cellsAt 0 (by rfl))) <| obs_cons (ob_load Agg3 (fun _ _ hS => (hS.at_ 0 rfl).cell rfl)) <| obs_nil
      have hS : Sep w0 B w (blk g4 3 #[vi z1] :: blk g3 214 #[.func (.func 195) #[] #[pa g1 0, pa g2 0]] :: blk g1 75 (ca A1 p1.length c1 p2 p3 p4 p5 p6) :: blk g2 81 #[.slice A2 l1.length c2] :: ownK 88 3 A2 l1.length c2 (List.flatMap enc88 l1) :: defsH Ds2 :: fs) := hS.pickN 6 [0, 4, 1, 2, 3, 5] (by decide)
      refine at_call (f := 196) (args := #[.agg (ca A1 p1.length c1 p2 p3 p4 p5 p6), vi z1, .func (.func 197) #[] #[pa g4 0, pa g3 0]]) (d := 49) hF (by kernel_rfl) (by kernel_rfl) Try.func196 (by kernel_rfl) rfl (board_pawn_w hr3 hS (fun _ hS => (hr_p1 _ (hS.dropN 1))) _hc_p1 rfl (fun _ hS => (hr_p1 _ (hS.dropN 1))) _hc_p1 rfl) (fun v a w hR hF => ?_)
      clear hS
      obtain ⟨A5, c5, rfl, hS⟩ := hR
      have hS : Sep w0 B w (blk g4 3 #[vi z1] :: blk g3 214 #[.func (.func 195) #[] #[pa g1 0, pa g2 0]] :: blk g1 75 (ca A1 p1.length c1 p2 p3 p4 p5 p6) :: blk g2 81 #[.slice A5 r3.length c5] :: ownK 88 3 A5 r3.length c5 (List.flatMap enc88 r3) :: defsH Ds2 :: fs) := hS
      refine ae [1, 3, 4, 10, 11, 12] [pl 1 (pa g1 0), pl 3 (pa g2 0), pl 4 (pa g3 0), pl 10 (.slice A1 p1.length c1), pl 11 (vi (p1.length : Int)), pl 12 (vi z1)] hF rfl (fun hF => ?_)
      refine block_n ?_
      refine block_n ?_
      refine then_n ?_
      have hS := hS.pickN 6 [2, 3, 4, 1, 5] (by decide)
      exact ⟨r3, A5, c5, Ds2, hF.wk [1, 3, 4, 10, 11, 12], hS, hm⟩
     ·replace hm := if_f hm hb
      refine seqR ?_
      obtain ⟨r4, hr4, hm⟩ := call_b hm
      refine ar 3 [⟨false, [], vS (Instr.loadAt 27 (pa g1 0)), .slice A1 p1.length c1⟩, ⟨false, [], vS (Instr.loadAt 3 (pa g4 0)), vi z1⟩] [none, some (.slice A1 p1.length c1), some (vi z1)] [1, 3, 4, 5, 10, 11, 12, 18, 19] [pl 1 (pa g1 0), pl 3 (pa g2 0), pl 4 (pa g3 0), pl 5 (pa g4 0), pl 10 (.slice A1 p1.length c1), pl 11 (vi (p1.length : Int)), pl 12 (vi z1), pl 18 (.slice A1 p1.length c1), pl 19 (vi z1)] hF hS ?_ (fun a w hF hS => ?_)
      ·exact obs_cons (ob_load Agg27 (fun _ _ hS => (hS.at_ 1 rfl).cell rfl)) <| obs_cons (ob_load Agg3 (fun _ _ hS => (hS.at_ 0 rfl).cell rfl)) <| obs_nil
      refine at_call (f := 145) (args := #[.slice A1 p1.length c1, vi z1]) (d := 20) hF (by kernel_rfl) (by kernel_rfl) Try.func145 (by kernel_rfl) rfl (board_Reach_w hr4 hS (fun _ hS => (hr_p1 _ (hS.dropN 6))) _hc_p1 rfl) (fun v a w hR hF => ?_)
      clear hS
      obtain ⟨g5, g6, rfl, hS⟩ := hR
      have hS : Sep w0 B w (blk g5 27 #[.slice A1 p1.length c1] :: blk g6 3 #[vi r4] :: blk g4 3 #[vi z1] :: blk g1 75 (ca A1 p1.length c1 p2 p3 p4 p5 p6) :: blk g2 81 #[.slice A2 l1.length c2] :: ownK 88 3 A2 l1.length c2 (List.flatMap enc88 l1) :: blk g3 214 #[.func (.func 195) #[] #[pa g1 0, pa g2 0]] :: defsH Ds2 :: fs) := hS
      refine ae [1, 3, 4, 5, 10, 11, 12, 20] [pl 1 (pa g1 0), pl 3 (pa g2 0), pl 4 (pa g3 0), pl 5 (pa g4 0), pl 10 (.slice A1 p1.length c1), pl 11 (vi (p1.length : Int)), pl 12 (vi z1), pl 20 (.func (.func 212) #[] #[pa g5 0, pa g6 0])] hF rfl (fun hF => ?_)
      refine then_n ?_
      refine wpIn_block ?_
      have hS := hS.pickN 8 [4, 5, 7, 3, 6, 2, 0, 1] (by decide)
      obtain ⟨y1, hy1, hm⟩ := call_b hm
      refine range_out (ρ := [pl 1 (pa g1 0), pl 3 (pa g2 0), pl 4 (pa g3 0), pl 5 (pa g4 0), pl 10 (.slice A1 p1.length c1), pl 11 (vi (p1.length : Int)), pl 12 (vi z1), pl 20 (.func (.func 212) #[] #[pa g5 0, pa g6 0])]) (lb := [pa g5 0, pa g6 0]) (y := y1) (enc := (fun (x : Int) => #[vi x])) (qs := [blk g2 81 #[.slice A2 l1.length c2], ownK 88 3 A2 l1.length c2 (List.flatMap enc88 l1)]) (fun (x : Int) => [(21, vi x)]) (fun (s : (List MvT)) qs => ∃ (A6 : Option Addr) (c6 : Nat), qs = [blk g2 81 #[.slice A6 s.length c6], ownK 88 3 A6 s.length c6 (List.flatMap enc88 s)]) (fun (_ : Unit) _ _ => False) (fun x s => (board_Moves_L2 p1 p2 p3 p4 p5 p6 z1) (x, s)) l1 (hF.wk [1, 3, 4, 5, 10, 11, 12, 20]) hS (by kernel_rfl) Try.func212 (by kernel_rfl) rfl (by kernel_rfl) (by intro x; simp) (fun _ => rfl) (fun x p hp => ?_) ⟨A2, c2, rfl⟩ ?_ ?_ ?_ ?_
      ·simp only [List.mem_cons, List.not_mem_nil, or_false] at hp
       rcases hp with rfl <;> (dsimp only; decide)
      ·intro lr1 D1 RS w hY hS
       exact Calls.mono (board_Reach_1_w hy1 (hS.pickN 7 [0, 5, 6, 1, 2, 3, 4] (by decide)) (YieldC.perm (blk g5 27 #[.slice A1 p1.length c1] :: blk g6 3 #[vi r4] :: defsH (D1 :: Ds2) :: blk g1 75 (ca A1 p1.length c1 p2 p3 p4 p5 p6) :: blk g3 214 #[.func (.func 195) #[] #[pa g1 0, pa g2 0]] :: blk g4 3 #[vi z1] :: fs) hY (fun hS => hS.pickN 7 [0, 3, 4, 5, 6, 1, 2] (by decide)) (fun hS => hS.pickN 7 [0, 5, 6, 1, 2, 3, 4] (by decide))) (fun _ hS => (hr_p1 _ (hS.dropN 4))) _hc_p1 rfl) (fun e w' h => by obtain ⟨_, rfl, _, hS⟩ := h; exact hS.pickN 7 [0, 3, 4, 5, 6, 1, 2] (by decide))
      ·rintro lr1 D1 rr1 x1 l4 r qs us1 a w hrr1 hm hI hF hS
       obtain ⟨A6, c6, rfl⟩ := hI
       replace hm := start_b hm
       unfold board_Moves_L2 at hm
       dsimp only at hm hF hS
       have hF : Fr 57 [pl 1 (pa g1 0), pl 3 (pa g2 0), pl 4 (pa g3 0), pl 5 (pa g4 0), pl 10 (.slice A1 p1.length c1), pl 11 (vi (p1.length : Int)), pl 12 (vi z1), pl 20 (.func (.func 212) #[] #[pa g5 0, pa g6 0]), pl 21 (vi x1)] a := hF.wk [1, 3, 4, 5, 10, 11, 12, 20, 21]
       have hS : Sep w0 B w (recH lr1 rr1 :: blk g2 81 #[.slice A6 l4.length c6] :: ownK 88 3 A6 l4.length c6 (List.flatMap enc88 l4) :: defsH (D1 :: Ds2) :: blk g1 75 (ca A1 p1.length c1 p2 p3 p4 p5 p6) :: blk g3 214 #[.func (.func 195) #[] #[pa g1 0, pa g2 0]] :: blk g4 3 #[vi z1] :: blk g5 27 #[.slice A1 p1.length c1] :: blk g6 3 #[vi r4] :: (fs ++ us1)) := hS
       refine rg1 [] [] [1, 4, 5, 7] [pl 1 (pa g1 0), pl 4 (pa g3 0), pl 5 (pa g4 0), pl 7 (vi x1)] hF hS obs_nil (fun a w hF hS => ?_)
       refine then_n ?_
       refine begin_r hS hrr1 (fun w hS => ?_)
       have hS : Sep w0 B w (recH lr1 { rr1 with state := .busy } :: blk g2 81 #[.slice A6 l4.length c6] :: ownK 88 3 A6 l4.length c6 (List.flatMap enc88 l4) :: defsH (D1 :: Ds2) :: blk g1 75 (ca A1 p1.length c1 p2 p3 p4 p5 p6) :: blk g3 214 #[.func (.func 195) #[] #[pa g1 0, pa g2 0]] :: blk g4 3 #[vi z1] :: blk g5 27 #[.slice A1 p1.length c1] :: blk g6 3 #[vi r4] :: (fs ++ us1)) := hS
       refine wpIn_block ?_
       obtain ⟨hp2, hm⟩ := asrt_b hm
       obtain ⟨r5, hr5, hm⟩ := call_b hm
       refine rg [⟨false, [], vS (Instr.loadAt 27 (pa g1 0)), .slice A1 p1.length c1⟩, ⟨true, [], vS (Instr.indexAt 27 (.slice A1 p1.length c1) (vi x1)), .pointer (some (sAddr A1 x1))⟩, ⟨false, [], vS (Instr.loadAt 3 (.pointer (some (sAddr A1 x1)))), vi (geti p1 x1)⟩, ⟨false, [], callFunc 144 #[vi (geti p1 x1)], vi r5⟩, ⟨false, [], vS (Instr.loadAt 3 (pa g1 1)), vi p2⟩] [none, some (.slice A1 p1.length c1), none, some (.pointer (some (sAddr A1 x1))), some (vi (geti p1 x1)), some (vi r5), none, some (vi p2), none] [4, 5, 7, 30] [pl 4 (pa g3 0), pl 5 (pa g4 0), pl 7 (vi x1), pl 30 (.bool (r5 != p2))] hF hS ?_ (fun a w hF hS => ?_)
       ·exact obs_cons (ob_load Agg27 (fun _ _ hS => (hS.at_ 4 rfl).cell rfl)) <| obs_cons (ob_ix1 (f := (Value.int .i64)) (m := p1) Und27 hi3 hs3 (hr_p1 _ (hS.dropN 9).pre) rfl (fun _ => hp2)) <| obs_cons (ob_get1 (n := p1.length) (m := p1) (Value.int .i64) (0 : Int) Agg3 (fun _ hS => ⟨_, (hr_p1 _ (hS.dropN 9).pre)⟩) (fun _ hS => rfl) (fun _ => hp2)) <| obs_cons (ob_call Try.func144 (by kernel_rfl) rfl (fun _ _ hS => board_Side_w hr5 hS )) <| obs_cons (ob_load Agg3 (fun _ _ hS => (hS.at_ 4 rfl).cell rfl)) <| obs_nil
       refine ce (t := 30) (b := (r5 != p2)) hF (fun hb => ?_) (fun hb => ?_)
       ·replace hm := if_t hm hb
        refine oneR ?_
        obtain ⟨r6, hr6, hm⟩ := call_b hm
        refine ar 4 [⟨false, [], vS (Instr.loadAt 214 (pa g3 0)), .func (.func 195) #[] #[pa g1 0, pa g2 0]⟩, ⟨false, [], vS (Instr.loadAt 3 (pa g4 0)), vi z1⟩] [some (.func (.func 195) #[] #[pa g1 0, pa g2 0]), some (vi z1), none, none] [31, 34] [pl 31 (.func (.func 195) #[] #[pa g1 0, pa g2 0]), pl 34 (.agg #[vi z1, vi x1, vi 0])] hF hS ?_ (fun a w hF hS => ?_)
        ·exact obs_cons (ob_load Agg214 (fun _ _ hS => (hS.at_ 5 rfl).cell rfl)) <| obs_cons (ob_load Agg3 (fun _ _ hS => (hS.at_ 6 rfl).cell rfl)) <| obs_nil
        have hS : Sep w0 B w (blk g1 75 (ca A1 p1.length c1 p2 p3 p4 p5 p6) :: blk g2 81 #[.slice A6 l4.length c6] :: ownK 88 3 A6 l4.length c6 (List.flatMap enc88 l4) :: recH lr1 { rr1 with state := .busy } :: defsH (D1 :: Ds2) :: blk g3 214 #[.func (.func 195) #[] #[pa g1 0, pa g2 0]] :: blk g4 3 #[vi z1] :: blk g5 27 #[.slice A1 p1.length c1] :: blk g6 3 #[vi r4] :: (fs ++ us1)) := hS.pickN 9 [4, 1, 2, 0, 3, 5, 6, 7, 8] (by decide)
        refine at_call (f := 195) (args := #[.agg #[vi z1, vi x1, vi 0], pa g1 0, pa g2 0]) (d := 35) hF (by kernel_rfl) (by kernel_rfl) Try.func195 (by kernel_rfl) rfl (board_Moves_1_w hr6 hS (fun _ hS => (hr_p1 _ (hS.dropN 6).pre)) _hc_p1 rfl) (fun v a w hR hF => ?_)
        clear hS
        obtain ⟨A7, c7, rfl, hS⟩ := hR
        have hS : Sep w0 B w (blk g1 75 (ca A1 p1.length c1 p2 p3 p4 p5 p6) :: blk g2 81 #[.slice A7 r6.2.length c7] :: ownK 88 3 A7 r6.2.length c7 (List.flatMap enc88 r6.2) :: recH lr1 { rr1 with state := .busy } :: defsH (D1 :: Ds2) :: blk g3 214 #[.func (.func 195) #[] #[pa g1 0, pa g2 0]] :: blk g4 3 #[vi z1] :: blk g5 27 #[.slice A1 p1.length c1] :: blk g6 3 #[vi r4] :: (fs ++ us1)) := hS
        refine ae [] [] hF rfl (fun hF => ?_)
        refine block_n ?_
        have hS := hS.pickN 9 [3, 1, 2, 4, 0, 5, 6, 7, 8] (by decide)
        have hm : some (.next r6.2) = some r := hm
        obtain rfl := Option.some.inj hm
        exact ⟨_, _, rfl, ⟨A7, c7, rfl⟩, hS⟩
       ·replace hm := if_f hm hb
        refine wpIn_skip ?_
        refine block_n ?_
        have hm : some (.next l4) = some r := hm
        obtain rfl := Option.some.inj hm
        exact ⟨_, _, rfl, ⟨A6, c6, rfl⟩, hS⟩
      ·rintro l4 D1 qs a w hy1e hI hF hS
       obtain ⟨A6, c6, rfl⟩ := hI
       rw [hy1e] at hm
       unfold board_Moves_K2 at hm
       dsimp only at hm hF hS
       have hF : FrD (D1 :: Ds2) 57 [pl 1 (pa g1 0), pl 3 (pa g2 0), pl 4 (pa g3 0), pl 5 (pa g4 0), pl 10 (.slice A1 p1.length c1), pl 11 (vi (p1.length : Int)), pl 12 (vi z1), pl 20 (.func (.func 212) #[] #[pa g5 0, pa g6 0])] a := hF
       have hS : Sep w0 B w (blk g2 81 #[.slice A6 l4.length c6] :: ownK 88 3 A6 l4.length c6 (List.flatMap enc88 l4) :: defsH (D1 :: Ds2) :: blk g1 75 (ca A1 p1.length c1 p2 p3 p4 p5 p6) :: blk g3 214 #[.func (.func 195) #[] #[pa g1 0, pa g2 0]] :: blk g4 3 #[vi z1] :: blk g5 27 #[.slice A1 p1.length c1] :: blk g6 3 #[vi r4] :: fs) := hS
       refine block_n ?_
       refine block_n ?_
       refine block_n ?_
       refine then_n ?_
       have hS := hS.pickN 8 [3, 0, 1, 4, 2] (by decide)
       exact ⟨l4, A6, c6, (D1 :: Ds2), hF.wk [1, 3, 4, 10, 11, 12], hS, hm⟩
      ·intro x c D1 qs a w _ h
       exact h.elim
  ·refine ce (t := 13) (b := decide (z1 < (p1.length : Int))) hF (fun hb => ?_) (fun hb => ?_)
   ·replace hm := if_t hm hb
    refine wpIn_skip ?_
    refine then_n ?_
    exact ⟨Ds1, hF.wk [1, 3, 4, 10, 11, 12], hS, hm⟩
   ·replace hm := if_f hm hb
    refine wpIn_exit ?_
    refine then_e (then_e (block_e (then_n ?_)))
    rw [← hφ1] at hm
    replace hm := done_b hm
    unfold board_Moves_K1 at hm
    try dsimp only at hm
    have hm : ((board_Moves_J1 p1 p2 p3 p4 p5 p6) l1).bind some = some r := hm
    exact ⟨l1, A2, c2, Ds1, hF.wk [1, 3, 4], hS, hm⟩

def rf_within_m  (n1 low1 high1 : Int) : Option Bool :=
 some ((decide (low1 ≤ n1)) && (decide (n1 ≤ high1)))

theorem rf_within_w {n1 low1 high1 : Int} {r : Bool} {w0 w : World} {B : Nat} {fs : List HP} (hm : rf_within_m n1 low1 high1 = some r) (hS : Sep w0 B w (fs)) :
  Calls Try.prog 74 #[vi n1, vi low1, vi high1] w fun e w' => e = .returned (.bool r) ∧ Sep w0 B w' (fs) := by
 unfold rf_within_m at hm
 replace hm := start_b hm
 refine enter (l := [vi n1, vi low1, vi high1]) (n := 15) Try.func74 rfl rfl (by simp) (fun a hF => ?_)
 refine rg [] [] [0, 1, 2] [pl 0 (vi n1), pl 1 (vi low1), pl 2 (vi high1)] hF hS obs_nil (fun a w hF hS => ?_)
 refine rg [] [] [6] [pl 6 (.bool ((decide (low1 ≤ n1)) && (decide (n1 ≤ high1))))] hF hS obs_nil (fun a w hF hS => ?_)
 refine wpIn_ret ?_
 have hm : some ((decide (low1 ≤ n1)) && (decide (n1 ≤ high1))) = some r := hm
 obtain rfl := Option.some.inj hm
 exact retV (rs := [.tmp 6]) (vs := [.bool ((decide (low1 ≤ n1)) && (decide (n1 ≤ high1)))]) hF rfl rv1 rfl ⟨rfl, hS⟩

def rf_size_J1  (n1 : Int) : Option Int :=
 some n1

def rf_size_m  (n1 : Int) : Option Int :=
 if (decide (n1 < 0)) then (some (w64 (0 - n1))) else ((rf_size_J1 n1))

theorem rf_size_w {n1 r : Int} {w0 w : World} {B : Nat} {fs : List HP} (hm : rf_size_m n1 = some r) (hS : Sep w0 B w (fs)) :
  Calls Try.prog 129 #[vi n1] w fun e w' => e = .returned (vi r) ∧ Sep w0 B w' (fs) := by
 unfold rf_size_m at hm
 replace hm := start_b hm
 refine enter (l := [vi n1]) (n := 8) Try.func129 rfl rfl (by simp) (fun a hF => ?_)
 refine rg [] [] [0] [pl 0 (vi n1)] hF hS obs_nil (fun a w hF hS => ?_)
 refine seq_cut (fun a w => Fr 8 [pl 0 (vi n1)] a ∧ Sep w0 B w (fs) ∧ ((rf_size_J1 n1)).bind some = some r) ?_ ?_
 ·rintro a w ⟨hF, hS, hm⟩
  unfold rf_size_J1 at hm
  refine rg [] [] [2] [pl 2 (vi n1)] hF hS obs_nil (fun a w hF hS => ?_)
  refine wpIn_ret ?_
  have hm : some n1 = some r := hm
  obtain rfl := Option.some.inj hm
  exact retV (rs := [.tmp 2]) (vs := [vi n1]) hF rfl rv1 rfl ⟨rfl, hS⟩
 ·refine rg [] [] [0, 4] [pl 0 (vi n1), pl 4 (.bool (decide (n1 < 0)))] hF hS obs_nil (fun a w hF hS => ?_)
  refine ce (t := 4) (b := decide (n1 < 0)) hF (fun hb => ?_) (fun hb => ?_)
  ·replace hm := if_t hm hb
   refine rg [] [] [2] [pl 2 (vi (w64 (0 - n1)))] hF hS obs_nil (fun a w hF hS => ?_)
   refine wpIn_ret ?_
   refine then_r ?_
   have hm : some (w64 (0 - n1)) = some r := hm
   obtain rfl := Option.some.inj hm
   exact retV (rs := [.tmp 2]) (vs := [vi (w64 (0 - n1))]) hF rfl rv1 rfl ⟨rfl, hS⟩
  ·replace hm := if_f hm hb
   refine wpIn_skip ?_
   refine then_n ?_
   exact ⟨hF.wk [0], hS, hm⟩

def rf_at_J3  (i1 : Int) : Option (St Int (Fl Unit Int)) :=
 some (.next (w64 (i1 + 1)))

def rf_at_J2  (l1 : List Int) (n2 i1 : Int) : Option (St Int (Fl Unit Int)) :=
 asrt (0 ≤ i1 ∧ i1 < (l1.length : Int)) <| if ((geti l1 i1) == n2) then (some (.done (.ret i1))) else ((rf_at_J3 i1))

def rf_at_J1  : Option Int :=
 some (-1)

def rf_at_K1  : (Fl Unit Int) → Option Int :=
 fun (x : (Fl Unit Int)) => match x with | .go _ => rf_at_J1 | .ret x => some x

def rf_at_L1  (l1 : List Int) (n2 : Int) : Int → Option (St Int (Fl Unit Int)) :=
 fun (x : Int) => match x with | i1 => if (decide (i1 < (l1.length : Int))) then ((rf_at_J2 l1 n2 i1)) else (some (.done (.go ())))

def rf_at_m  (l1 : List Int) (n2 : Int) : Option Int :=
 (loop (rf_at_L1 l1 n2) 0).bind rf_at_K1

theorem rf_at_w {A1 : Option Addr} {c1 n1 : Nat} {l1 : List Int} {n2 r : Int} {w0 w : World} {B : Nat} {fs : List HP} (hm : rf_at_m l1 n2 = some r) (hS : Sep w0 B w (fs)) (hr_l1 : RdF w0 B fs A1 (vI l1)) (_hc_l1 : l1.length ≤ c1) (_hn_l1 : n1 = l1.length) :
  Calls Try.prog 75 #[.slice A1 n1 c1, vi n2] w fun e w' => e = .returned (vi r) ∧ Sep w0 B w' (fs) := by
 obtain ⟨i3, hi3, hz3, hs3, hb3⟩ := info_parts Info3
 obtain rfl := _hn_l1
 unfold rf_at_m at hm
 replace hm := start_b hm
 refine enter (l := [.slice A1 l1.length c1, vi n2]) (n := 19) Try.func75 rfl rfl (by simp) (fun a hF => ?_)
 refine rg [] [] [0, 1] [pl 0 (.slice A1 l1.length c1), pl 1 (vi n2)] hF hS obs_nil (fun a w hF hS => ?_)
 refine seq_cut (fun a w => Fr 19 [] a ∧ Sep w0 B w (fs) ∧ (rf_at_J1).bind some = some r) ?_ ?_
 ·rintro a w ⟨hF, hS, hm⟩
  unfold rf_at_J1 at hm
  refine rg [] [] [4] [pl 4 (vi (-1))] hF hS obs_nil (fun a w hF hS => ?_)
  refine wpIn_ret ?_
  have hm : some (-1) = some r := hm
  obtain rfl := Option.some.inj hm
  exact retV (rs := [.tmp 4]) (vs := [vi (-1)]) hF rfl rv1 rfl ⟨rfl, hS⟩
 ·refine rg [] [] [0, 1, 5] [pl 0 (.slice A1 l1.length c1), pl 1 (vi n2), pl 5 (vi 0)] hF hS obs_nil (fun a w hF hS => ?_)
  refine wpIn_block ?_
  refine wp_loop_model (S := Int) (R := (Fl Unit Int)) (rf_at_L1 l1 n2) (fun x => (rf_at_K1 x).bind some) r (fun (x : Int) a w => Fr 19 [pl 0 (.slice A1 l1.length c1), pl 1 (vi n2), pl 5 (vi x)] a ∧ Sep w0 B w (fs)) (assoc_b hm) ⟨hF.wk [0, 1, 5], hS⟩ ?_
  clear hF hS hm
  rintro nn1 i1 a w ⟨hF, hS⟩ hm
  generalize hφ1 : stK (rf_at_L1 l1 n2) nn1 (fun x => (rf_at_K1 x).bind some) = φ1 at hm
  unfold rf_at_L1 at hm
  dsimp only at hm
  refine seq_cut (fun a w => Fr 19 [pl 0 (.slice A1 l1.length c1), pl 1 (vi n2), pl 5 (vi i1)] a ∧ Sep w0 B w (fs) ∧ ((rf_at_J2 l1 n2 i1)).bind φ1 = some r) ?_ ?_
  ·rintro a w ⟨hF, hS, hm⟩
   unfold rf_at_J2 at hm
   refine seq_cut (fun a w => Fr 19 [pl 0 (.slice A1 l1.length c1), pl 1 (vi n2), pl 5 (vi i1)] a ∧ Sep w0 B w (fs) ∧ ((rf_at_J3 i1)).bind φ1 = some r) ?_ ?_
   ·rintro a w ⟨hF, hS, hm⟩
    unfold rf_at_J3 at hm
    refine rg1 [] [] [0, 1, 5] [pl 0 (.slice A1 l1.length c1), pl 1 (vi n2), pl 5 (vi (w64 (i1 + 1)))] hF hS obs_nil (fun a w hF hS => ?_)
    refine then_n ?_
    rw [← hφ1] at hm
    exact ⟨(w64 (i1 + 1)), ⟨hF.wk [0, 1, 5], hS⟩, hm⟩
   ·refine wpIn_block ?_
    obtain ⟨hp1, hm⟩ := asrt_b hm
    refine rg [⟨true, [], vS (Instr.indexAt 27 (.slice A1 l1.length c1) (vi i1)), .pointer (some (sAddr A1 i1))⟩, ⟨false, [], vS (Instr.loadAt 3 (.pointer (some (sAddr A1 i1)))), vi (geti l1 i1)⟩] [none, none, some (.pointer (some (sAddr A1 i1))), some (vi (geti l1 i1)), none, none] [0, 1, 5, 17] [pl 0 (.slice A1 l1.length c1), pl 1 (vi n2), pl 5 (vi i1), pl 17 (.bool ((geti l1 i1) == n2))] hF hS ?_ (fun a w hF hS => ?_)
    ·exact obs_cons (ob_ix1 (f := (Value.int .i64)) (m := l1) Und27 hi3 hs3 (hr_l1 _ (hS.dropN 0)) rfl (fun _ => hp1)) <| obs_cons (ob_get1 (n := l1.length) (m := l1) (Value.int .i64) (0 : Int) Agg3 (fun _ hS => ⟨_, (hr_l1 _ (hS.dropN 0))⟩) (fun _ hS => rfl) (fun _ => hp1)) <| obs_nil
    refine ce (t := 17) (b := ((geti l1 i1) == n2)) hF (fun hb => ?_) (fun hb => ?_)
    ·replace hm := if_t hm hb
     refine rg [] [] [4] [pl 4 (vi i1)] hF hS obs_nil (fun a w hF hS => ?_)
     refine wpIn_ret ?_
     refine block_r (then_r (then_r (block_r (then_r ?_))))
     rw [← hφ1] at hm
     replace hm := done_b hm
     unfold rf_at_K1 at hm
     try dsimp only at hm
     have hm : some i1 = some r := hm
     obtain rfl := Option.some.inj hm
     exact retV (rs := [.tmp 4]) (vs := [vi i1]) hF rfl rv1 rfl ⟨rfl, hS⟩
    ·replace hm := if_f hm hb
     refine wpIn_skip ?_
     refine block_n ?_
     refine then_n ?_
     exact ⟨hF.wk [0, 1, 5], hS, hm⟩
  ·refine rg [] [] [0, 1, 5, 9] [pl 0 (.slice A1 l1.length c1), pl 1 (vi n2), pl 5 (vi i1), pl 9 (.bool (decide (i1 < (l1.length : Int))))] hF hS obs_nil (fun a w hF hS => ?_)
   refine ce (t := 9) (b := decide (i1 < (l1.length : Int))) hF (fun hb => ?_) (fun hb => ?_)
   ·replace hm := if_t hm hb
    refine wpIn_skip ?_
    refine then_n ?_
    exact ⟨hF.wk [0, 1, 5], hS, hm⟩
   ·replace hm := if_f hm hb
    refine wpIn_exit ?_
    refine then_e (then_e (block_e (then_n ?_)))
    rw [← hφ1] at hm
    replace hm := done_b hm
    unfold rf_at_K1 at hm
    try dsimp only at hm
    have hm : (rf_at_J1).bind some = some r := hm
    exact ⟨hF.wk [], hS, hm⟩

def rf_pieceSide_J2  : Option Int :=
 some (-1)

def rf_pieceSide_J1  (x1 : Int) : Option Int :=
 if (decide (x1 < 0)) then (some 1) else (rf_pieceSide_J2)

def rf_pieceSide_m  (x1 : Int) : Option Int :=
 if (decide ((0 : Int) < x1)) then (some 0) else ((rf_pieceSide_J1 x1))

theorem rf_pieceSide_w {x1 r : Int} {w0 w : World} {B : Nat} {fs : List HP} (hm : rf_pieceSide_m x1 = some r) (hS : Sep w0 B w (fs)) :
  Calls Try.prog 138 #[vi x1] w fun e w' => e = .returned (vi r) ∧ Sep w0 B w' (fs) := by
 unfold rf_pieceSide_m at hm
 replace hm := start_b hm
 refine enter (l := [vi x1]) (n := 7) Try.func138 rfl rfl (by simp) (fun a hF => ?_)
 refine rg [] [] [0] [pl 0 (vi x1)] hF hS obs_nil (fun a w hF hS => ?_)
 refine seq_cut (fun a w => Fr 7 [pl 0 (vi x1)] a ∧ Sep w0 B w (fs) ∧ ((rf_pieceSide_J1 x1)).bind some = some r) ?_ ?_
 ·rintro a w ⟨hF, hS, hm⟩
  unfold rf_pieceSide_J1 at hm
  refine seq_cut (fun a w => Fr 7 [] a ∧ Sep w0 B w (fs) ∧ (rf_pieceSide_J2).bind some = some r) ?_ ?_
  ·rintro a w ⟨hF, hS, hm⟩
   unfold rf_pieceSide_J2 at hm
   refine rg [] [] [2] [pl 2 (vi (-1))] hF hS obs_nil (fun a w hF hS => ?_)
   refine wpIn_ret ?_
   have hm : some (-1) = some r := hm
   obtain rfl := Option.some.inj hm
   exact retV (rs := [.tmp 2]) (vs := [vi (-1)]) hF rfl rv1 rfl ⟨rfl, hS⟩
  ·refine rg [] [] [6] [pl 6 (.bool (decide (x1 < 0)))] hF hS obs_nil (fun a w hF hS => ?_)
   refine ce (t := 6) (b := decide (x1 < 0)) hF (fun hb => ?_) (fun hb => ?_)
   ·replace hm := if_t hm hb
    refine rg [] [] [2] [pl 2 (vi 1)] hF hS obs_nil (fun a w hF hS => ?_)
    refine wpIn_ret ?_
    refine then_r ?_
    have hm : some 1 = some r := hm
    obtain rfl := Option.some.inj hm
    exact retV (rs := [.tmp 2]) (vs := [vi 1]) hF rfl rv1 rfl ⟨rfl, hS⟩
   ·replace hm := if_f hm hb
    refine wpIn_skip ?_
    refine then_n ?_
    exact ⟨hF.wk [], hS, hm⟩
 ·refine rg [] [] [0, 4] [pl 0 (vi x1), pl 4 (.bool (decide ((0 : Int) < x1)))] hF hS obs_nil (fun a w hF hS => ?_)
  refine ce (t := 4) (b := decide ((0 : Int) < x1)) hF (fun hb => ?_) (fun hb => ?_)
  ·replace hm := if_t hm hb
   refine rg [] [] [2] [pl 2 (vi 0)] hF hS obs_nil (fun a w hF hS => ?_)
   refine wpIn_ret ?_
   refine then_r ?_
   have hm : some 0 = some r := hm
   obtain rfl := Option.some.inj hm
   exact retV (rs := [.tmp 2]) (vs := [vi 0]) hF rfl rv1 rfl ⟨rfl, hS⟩
  ·replace hm := if_f hm hb
   refine wpIn_skip ?_
   refine then_n ?_
   exact ⟨hF.wk [0], hS, hm⟩

def rf_signOf_J2  : Option Int :=
 some 0

def rf_signOf_J1  (n1 : Int) : Option Int :=
 if (decide (n1 < 0)) then (some (-1)) else (rf_signOf_J2)

def rf_signOf_m  (n1 : Int) : Option Int :=
 if (decide ((0 : Int) < n1)) then (some 1) else ((rf_signOf_J1 n1))

theorem rf_signOf_w {n1 r : Int} {w0 w : World} {B : Nat} {fs : List HP} (hm : rf_signOf_m n1 = some r) (hS : Sep w0 B w (fs)) :
  Calls Try.prog 208 #[vi n1] w fun e w' => e = .returned (vi r) ∧ Sep w0 B w' (fs) := by
 unfold rf_signOf_m at hm
 replace hm := start_b hm
 refine enter (l := [vi n1]) (n := 7) Try.func208 rfl rfl (by simp) (fun a hF => ?_)
 refine rg [] [] [0] [pl 0 (vi n1)] hF hS obs_nil (fun a w hF hS => ?_)
 refine seq_cut (fun a w => Fr 7 [pl 0 (vi n1)] a ∧ Sep w0 B w (fs) ∧ ((rf_signOf_J1 n1)).bind some = some r) ?_ ?_
 ·rintro a w ⟨hF, hS, hm⟩
  unfold rf_signOf_J1 at hm
  refine seq_cut (fun a w => Fr 7 [] a ∧ Sep w0 B w (fs) ∧ (rf_signOf_J2).bind some = some r) ?_ ?_
  ·rintro a w ⟨hF, hS, hm⟩
   unfold rf_signOf_J2 at hm
   refine rg [] [] [2] [pl 2 (vi 0)] hF hS obs_nil (fun a w hF hS => ?_)
   refine wpIn_ret ?_
   have hm : some 0 = some r := hm
   obtain rfl := Option.some.inj hm
   exact retV (rs := [.tmp 2]) (vs := [vi 0]) hF rfl rv1 rfl ⟨rfl, hS⟩
  ·refine rg [] [] [6] [pl 6 (.bool (decide (n1 < 0)))] hF hS obs_nil (fun a w hF hS => ?_)
   refine ce (t := 6) (b := decide (n1 < 0)) hF (fun hb => ?_) (fun hb => ?_)
   ·replace hm := if_t hm hb
    refine rg [] [] [2] [pl 2 (vi (-1))] hF hS obs_nil (fun a w hF hS => ?_)
    refine wpIn_ret ?_
    refine then_r ?_
    have hm : some (-1) = some r := hm
    obtain rfl := Option.some.inj hm
    exact retV (rs := [.tmp 2]) (vs := [vi (-1)]) hF rfl rv1 rfl ⟨rfl, hS⟩
   ·replace hm := if_f hm hb
    refine wpIn_skip ?_
    refine then_n ?_
    exact ⟨hF.wk [], hS, hm⟩
 ·refine rg [] [] [0, 4] [pl 0 (vi n1), pl 4 (.bool (decide ((0 : Int) < n1)))] hF hS obs_nil (fun a w hF hS => ?_)
  refine ce (t := 4) (b := decide ((0 : Int) < n1)) hF (fun hb => ?_) (fun hb => ?_)
  ·replace hm := if_t hm hb
   refine rg [] [] [2] [pl 2 (vi 1)] hF hS obs_nil (fun a w hF hS => ?_)
   refine wpIn_ret ?_
   refine then_r ?_
   have hm : some 1 = some r := hm
   obtain rfl := Option.some.inj hm
   exact retV (rs := [.tmp 2]) (vs := [vi 1]) hF rfl rv1 rfl ⟨rfl, hS⟩
  ·replace hm := if_f hm hb
   refine wpIn_skip ?_
   refine then_n ?_
   exact ⟨hF.wk [0], hS, hm⟩

def rf_Attacks_J6  (from1 to1 k1 : Int) : Option (St Int (Fl Unit Bool)) :=
 (rf_signOf_m (w64 ((Int.tmod to1 8) - (Int.tmod from1 8)))).bind fun r12 => (rf_signOf_m (w64 ((w64 (Int.tdiv to1 8)) - (w64 (Int.tdiv from1 8))))).bind fun r13 => some (.next (w64 (k1 + (w64 (r12 + (w64 (8 * r13)))))))

def rf_Attacks_J5  (places1 : List Int) (from1 to1 k1 : Int) : Option (St Int (Fl Unit Bool)) :=
 asrt (0 ≤ k1 ∧ k1 < (places1.length : Int)) <| if ((geti places1 k1) != 0) then (some (.done (.ret false))) else ((rf_Attacks_J6 from1 to1 k1))

def rf_Attacks_J4  : Option Bool :=
 some true

def rf_Attacks_K1  : (Fl Unit Bool) → Option Bool :=
 fun (x : (Fl Unit Bool)) => match x with | .go _ => rf_Attacks_J4 | .ret x => some x

def rf_Attacks_L1  (places1 : List Int) (from1 to1 : Int) : Int → Option (St Int (Fl Unit Bool)) :=
 fun (x : Int) => match x with | k1 => if (k1 != to1) then ((rf_Attacks_J5 places1 from1 to1 k1)) else (some (.done (.go ())))

def rf_Attacks_J3  (places1 : List Int) (from1 to1 : Int) : Option Bool :=
 (rf_signOf_m (w64 ((Int.tmod to1 8) - (Int.tmod from1 8)))).bind fun r10 => (rf_signOf_m (w64 ((w64 (Int.tdiv to1 8)) - (w64 (Int.tdiv from1 8))))).bind fun r11 => (loop (rf_Attacks_L1 places1 from1 to1) (w64 ((w64 (from1 + r10)) + (w64 (8 * r11))))).bind rf_Attacks_K1

def rf_Attacks_J2  (places1 : List Int) (from1 to1 : Int) : Option Bool :=
 (rf_size_m (w64 ((Int.tmod to1 8) - (Int.tmod from1 8)))).bind fun r6 => (rf_size_m (w64 ((w64 (Int.tdiv to1 8)) - (w64 (Int.tdiv from1 8))))).bind fun r7 => ((if (!(((geti places1 from1) == 0) || ((!(r6 == r7)) && (!(((w64 ((Int.tmod to1 8) - (Int.tmod from1 8))) == 0) || ((w64 ((w64 (Int.tdiv to1 8)) - (w64 (Int.tdiv from1 8)))) == 0)))))) then rf_size_m (geti places1 from1) else some 0)).bind fun r8 => ((if (!((((geti places1 from1) == 0) || ((!(r6 == r7)) && (!(((w64 ((Int.tmod to1 8) - (Int.tmod from1 8))) == 0) || ((w64 ((w64 (Int.tdiv to1 8)) - (w64 (Int.tdiv from1 8)))) == 0))))) || ((r8 == 3) && (!(r6 == r7))))) then rf_size_m (geti places1 from1) else some 0)).bind fun r9 => if (((((geti places1 from1) == 0) || ((!(r6 == r7)) && (!(((w64 ((Int.tmod to1 8) - (Int.tmod from1 8))) == 0) || ((w64 ((w64 (Int.tdiv to1 8)) - (w64 (Int.tdiv from1 8)))) == 0))))) || ((r8 == 3) && (!(r6 == r7)))) || ((r9 == 4) && (!(((w64 ((Int.tmod to1 8) - (Int.tmod from1 8))) == 0) || ((w64 ((w64 (Int.tdiv to1 8)) - (w64 (Int.tdiv from1 8)))) == 0))))) then (some false) else ((rf_Attacks_J3 places1 from1 to1))

def rf_Attacks_J1  (places1 : List Int) (from1 to1 : Int) : Option Bool :=
 (rf_size_m (geti places1 from1)).bind fun r1 => if (r1 == 1) then ((rf_size_m (w64 ((Int.tmod to1 8) - (Int.tmod from1 8)))).bind fun r2 => some ((r2 == 1) && ((w64 ((w64 (Int.tdiv to1 8)) - (w64 (Int.tdiv from1 8)))) == (geti places1 from1)))) else (if (r1 == 2) then ((rf_size_m (w64 ((w64 ((Int.tmod to1 8) - (Int.tmod from1 8))) * (w64 ((w64 (Int.tdiv to1 8)) - (w64 (Int.tdiv from1 8))))))).bind fun r3 => some (r3 == 2)) else (if (r1 == 6) then ((rf_size_m (w64 ((Int.tmod to1 8) - (Int.tmod from1 8)))).bind fun r4 => ((if (decide (r4 ≤ 1)) then rf_size_m (w64 ((w64 (Int.tdiv to1 8)) - (w64 (Int.tdiv from1 8)))) else some 0)).bind fun r5 => some ((decide (r4 ≤ 1)) && (decide (r5 ≤ 1)))) else ((rf_Attacks_J2 places1 from1 to1))))

def rf_Attacks_m  (places1 : List Int) (from1 to1 : Int) : Option Bool :=
 asrt (0 ≤ from1 ∧ from1 < (places1.length : Int)) <| if (((w64 ((Int.tmod to1 8) - (Int.tmod from1 8))) == 0) && ((w64 ((w64 (Int.tdiv to1 8)) - (w64 (Int.tdiv from1 8)))) == 0)) then (some false) else ((rf_Attacks_J1 places1 from1 to1))

theorem rf_Attacks_w {A1 : Option Addr} {c1 n1 : Nat} {places1 : List Int} {from1 to1 : Int} {r : Bool} {w0 w : World} {B : Nat} {fs : List HP} (hm : rf_Attacks_m places1 from1 to1 = some r) (hS : Sep w0 B w (fs)) (hr_places1 : RdF w0 B fs A1 (vI places1)) (_hc_places1 : places1.length ≤ c1) (_hn_places1 : n1 = places1.length) :
  Calls Try.prog 207 #[.slice A1 n1 c1, vi from1, vi to1] w fun e w' => e = .returned (.bool r) ∧ Sep w0 B w' (fs) := by
 obtain ⟨i3, hi3, hz3, hs3, hb3⟩ := info_parts Info3
 obtain rfl := _hn_places1
 unfold rf_Attacks_m at hm
 replace hm := start_b hm
 refine enter (l := [.slice A1 places1.length c1, vi from1, vi to1]) (n := 125) Try.func207 rfl rfl (by simp) (fun a hF => ?_)
 refine rg [] [] [0, 1, 2] [pl 0 (.slice A1 places1.length c1), pl 1 (vi from1), pl 2 (vi to1)] hF hS obs_nil (fun a w hF hS => ?_)
 refine rg [] [] [0, 1, 2, 7, 8] [pl 0 (.slice A1 places1.length c1), pl 1 (vi from1), pl 2 (vi to1), pl 7 (vi (w64 ((Int.tmod to1 8) - (Int.tmod from1 8)))), pl 8 (vi (w64 ((w64 (Int.tdiv to1 8)) - (w64 (Int.tdiv from1 8)))))] hF hS obs_nil (fun a w hF hS => ?_)
 obtain ⟨hp1, hm⟩ := asrt_b hm
 refine rg [⟨true, [], vS (Instr.indexAt 27 (.slice A1 places1.length c1) (vi from1)), .pointer (some (sAddr A1 from1))⟩, ⟨false, [], vS (Instr.loadAt 3 (.pointer (some (sAddr A1 from1)))), vi (geti places1 from1)⟩] [none, none, some (.pointer (some (sAddr A1 from1))), some (vi (geti places1 from1)), none] [0, 1, 2, 7, 8, 9] [pl 0 (.slice A1 places1.length c1), pl 1 (vi from1), pl 2 (vi to1), pl 7 (vi (w64 ((Int.tmod to1 8) - (Int.tmod from1 8)))), pl 8 (vi (w64 ((w64 (Int.tdiv to1 8)) - (w64 (Int.tdiv from1 8))))), pl 9 (vi (geti places1 from1))] hF hS ?_ (fun a w hF hS => ?_)
 ·exact obs_cons (ob_ix1 (f := (Value.int .i64)) (m := places1) Und27 hi3 hs3 (hr_places1 _ (hS.dropN 0)) rfl (fun _ => hp1)) <| obs_cons (ob_get1 (n := places1.length) (m := places1) (Value.int .i64) (0 : Int) Agg3 (fun _ hS => ⟨_, (hr_places1 _ (hS.dropN 0))⟩) (fun _ hS => rfl) (fun _ => hp1)) <| obs_nil
 refine seq_cut (fun a w => Fr 125 [pl 0 (.slice A1 places1.length c1), pl 1 (vi from1), pl 2 (vi to1), pl 7 (vi (w64 ((Int.tmod to1 8) - (Int.tmod from1 8)))), pl 8 (vi (w64 ((w64 (Int.tdiv to1 8)) - (w64 (Int.tdiv from1 8))))), pl 9 (vi (geti places1 from1))] a ∧ Sep w0 B w (fs) ∧ ((rf_Attacks_J1 places1 from1 to1)).bind some = some r) ?_ ?_
 ·rintro a w ⟨hF, hS, hm⟩
  unfold rf_Attacks_J1 at hm
  refine seq_cut (fun a w => Fr 125 [pl 0 (.slice A1 places1.length c1), pl 1 (vi from1), pl 2 (vi to1), pl 7 (vi (w64 ((Int.tmod to1 8) - (Int.tmod from1 8)))), pl 8 (vi (w64 ((w64 (Int.tdiv to1 8)) - (w64 (Int.tdiv from1 8))))), pl 9 (vi (geti places1 from1))] a ∧ Sep w0 B w (fs) ∧ ((rf_Attacks_J2 places1 from1 to1)).bind some = some r) ?_ ?_
  ·rintro a w ⟨hF, hS, hm⟩
   unfold rf_Attacks_J2 at hm
   obtain ⟨r6, hr6, hm⟩ := call_b hm
   obtain ⟨r7, hr7, hm⟩ := call_b hm
   refine rg [⟨false, [], callFunc 129 #[vi (w64 ((Int.tmod to1 8) - (Int.tmod from1 8)))], vi r6⟩, ⟨false, [], callFunc 129 #[vi (w64 ((w64 (Int.tdiv to1 8)) - (w64 (Int.tdiv from1 8))))], vi r7⟩] [none, some (vi r6), none, some (vi r7), none, none, none, none, none, none, none, none, none] [0, 1, 2, 7, 8, 9, 10, 11] [pl 0 (.slice A1 places1.length c1), pl 1 (vi from1), pl 2 (vi to1), pl 7 (vi (w64 ((Int.tmod to1 8) - (Int.tmod from1 8)))), pl 8 (vi (w64 ((w64 (Int.tdiv to1 8)) - (w64 (Int.tdiv from1 8))))), pl 9 (vi (geti places1 from1)), pl 10 (.bool (r6 == r7)), pl 11 (.bool (((w64 ((Int.tmod to1 8) - (Int.tmod from1 8))) == 0) || ((w64 ((w64 (Int.tdiv to1 8)) - (w64 (Int.tdiv from1 8)))) == 0)))] hF hS ?_ (fun a w hF hS => ?_)
   ·exact obs_cons (ob_call Try.func129 (by kernel_rfl) rfl (fun _ _ hS => rf_size_w hr6 hS )) <| obs_cons (ob_call Try.func129 (by kernel_rfl) rfl (fun _ _ hS => rf_size_w hr7 hS )) <| obs_nil
   refine seq_cut (fun a w => Fr 125 [pl 0 (.slice A1 places1.length c1), pl 1 (vi from1), pl 2 (vi to1), pl 7 (vi (w64 ((Int.tmod to1 8) - (Int.tmod from1 8)))), pl 8 (vi (w64 ((w64 (Int.tdiv to1 8)) - (w64 (Int.tdiv from1 8)))))] a ∧ Sep w0 B w (fs) ∧ ((rf_Attacks_J3 places1 from1 to1)).bind some = some r) ?_ ?_
   ·rintro a w ⟨hF, hS, hm⟩
    unfold rf_Attacks_J3 at hm
    refine seq_cut (fun a w => Fr 125 [] a ∧ Sep w0 B w (fs) ∧ (rf_Attacks_J4).bind some = some r) ?_ ?_
    ·rintro a w ⟨hF, hS, hm⟩
     unfold rf_Attacks_J4 at hm
     refine rg [] [] [6] [pl 6 (.bool true)] hF hS obs_nil (fun a w hF hS => ?_)
     refine wpIn_ret ?_
     have hm : some true = some r := hm
     obtain rfl := Option.some.inj hm
     exact retV (rs := [.tmp 6]) (vs := [.bool true]) hF rfl rv1 rfl ⟨rfl, hS⟩
    ·obtain ⟨r10, hr10, hm⟩ := call_b hm
     obtain ⟨r11, hr11, hm⟩ := call_b hm
     refine rg [⟨false, [], callFunc 208 #[vi (w64 ((Int.tmod to1 8) - (Int.tmod from1 8)))], vi r10⟩, ⟨false, [], callFunc 208 #[vi (w64 ((w64 (Int.tdiv to1 8)) - (w64 (Int.tdiv from1 8))))], vi r11⟩] [none, none, some (vi r10), none, none, some (vi r11), none, none, none] [0, 2, 7, 8, 12] [pl 0 (.slice A1 places1.length c1), pl 2 (vi to1), pl 7 (vi (w64 ((Int.tmod to1 8) - (Int.tmod from1 8)))), pl 8 (vi (w64 ((w64 (Int.tdiv to1 8)) - (w64 (Int.tdiv from1 8))))), pl 12 (vi (w64 ((w64 (from1 + r10)) + (w64 (8 * r11)))))] hF hS ?_ (fun a w hF hS => ?_)
     ·exact obs_cons (ob_call Try.func208 (by kernel_rfl) rfl (fun _ _ hS => rf_signOf_w hr10 hS )) <| obs_cons (ob_call Try.func208 (by kernel_rfl) rfl (fun _ _ hS => rf_signOf_w hr11 hS )) <| obs_nil
     refine wpIn_block ?_
     refine wp_loop_model (S := Int) (R := (Fl Unit Bool)) (rf_Attacks_L1 places1 from1 to1) (fun x => (rf_Attacks_K1 x).bind some) r (fun (x : Int) a w => Fr 125 [pl 0 (.slice A1 places1.length c1), pl 2 (vi to1), pl 7 (vi (w64 ((Int.tmod to1 8) - (Int.tmod from1 8)))), pl 8 (vi (w64 ((w64 (Int.tdiv to1 8)) - (w64 (Int.tdiv from1 8))))), pl 12 (vi x)] a ∧ Sep w0 B w (fs)) (assoc_b hm) ⟨hF.wk [0, 2, 7, 8, 12], hS⟩ ?_
     clear hF hS hm
     rintro nn1 k1 a w ⟨hF, hS⟩ hm
     generalize hφ1 : stK (rf_Attacks_L1 places1 from1 to1) nn1 (fun x => (rf_Attacks_K1 x).bind some) = φ1 at hm
     unfold rf_Attacks_L1 at hm
     dsimp only at hm
     refine seq_cut (fun a w => Fr 125 [pl 0 (.slice A1 places1.length c1), pl 2 (vi to1), pl 7 (vi (w64 ((Int.tmod to1 8) - (Int.tmod from1 8)))), pl 8 (vi (w64 ((w64 (Int.tdiv to1 8)) - (w64 (Int.tdiv from1 8))))), pl 12 (vi k1)] a ∧ Sep w0 B w (fs) ∧ ((rf_Attacks_J5 places1 from1 to1 k1)).bind φ1 = some r) ?_ ?_
     ·rintro a w ⟨hF, hS, hm⟩
      unfold rf_Attacks_J5 at hm
      refine seq_cut (fun a w => Fr 125 [pl 0 (.slice A1 places1.length c1), pl 2 (vi to1), pl 7 (vi (w64 ((Int.tmod to1 8) - (Int.tmod from1 8)))), pl 8 (vi (w64 ((w64 (Int.tdiv to1 8)) - (w64 (Int.tdiv from1 8))))), pl 12 (vi k1)] a ∧ Sep w0 B w (fs) ∧ ((rf_Attacks_J6 from1 to1 k1)).bind φ1 = some r) ?_ ?_
      ·rintro a w ⟨hF, hS, hm⟩
       unfold rf_Attacks_J6 at hm
       obtain ⟨r12, hr12, hm⟩ := call_b hm
       obtain ⟨r13, hr13, hm⟩ := call_b hm
       refine rg1 [⟨false, [], callFunc 208 #[vi (w64 ((Int.tmod to1 8) - (Int.tmod from1 8)))], vi r12⟩, ⟨false, [], callFunc 208 #[vi (w64 ((w64 (Int.tdiv to1 8)) - (w64 (Int.tdiv from1 8))))], vi r13⟩] [none, none, some (vi r12), none, some (vi r13), none, none, none, none] [0, 2, 7, 8, 12] [pl 0 (.slice A1 places1.length c1), pl 2 (vi to1), pl 7 (vi (w64 ((Int.tmod to1 8) - (Int.tmod from1 8)))), pl 8 (vi (w64 ((w64 (Int.tdiv to1 8)) - (w64 (Int.tdiv from1 8))))), pl 12 (vi (w64 (k1 + (w64 (r12 + (w64 (8 * r13)))))))] hF hS ?_ (fun a w hF hS => ?_)
       ·exact obs_cons (ob_call Try.func208 (by kernel_rfl) rfl (fun _ _ hS => rf_signOf_w hr12 hS )) <| obs_cons (ob_call Try.func208 (by kernel_rfl) rfl (fun _ _ hS => rf_signOf_w hr13 hS )) <| obs_nil
       refine then_n ?_
       rw [← hφ1] at hm
       exact ⟨(w64 (k1 + (w64 (r12 + (w64 (8 * r13)))))), ⟨hF.wk [0, 2, 7, 8, 12], hS⟩, hm⟩
      ·refine wpIn_block ?_
       obtain ⟨hp2, hm⟩ := asrt_b hm
       refine rg [⟨true, [], vS (Instr.indexAt 27 (.slice A1 places1.length c1) (vi k1)), .pointer (some (sAddr A1 k1))⟩, ⟨false, [], vS (Instr.loadAt 3 (.pointer (some (sAddr A1 k1)))), vi (geti places1 k1)⟩] [none, none, some (.pointer (some (sAddr A1 k1))), some (vi (geti places1 k1)), none] [0, 2, 7, 8, 12, 124] [pl 0 (.slice A1 places1.length c1), pl 2 (vi to1), pl 7 (vi (w64 ((Int.tmod to1 8) - (Int.tmod from1 8)))), pl 8 (vi (w64 ((w64 (Int.tdiv to1 8)) - (w64 (Int.tdiv from1 8))))), pl 12 (vi k1), pl 124 (.bool ((geti places1 k1) != 0))] hF hS ?_ (fun a w hF hS => ?_)
       ·exact obs_cons (ob_ix1 (f := (Value.int .i64)) (m := places1) Und27 hi3 hs3 (hr_places1 _ (hS.dropN 0)) rfl (fun _ => hp2)) <| obs_cons (ob_get1 (n := places1.length) (m := places1) (Value.int .i64) (0 : Int) Agg3 (fun _ hS => ⟨_, (hr_places1 _ (hS.dropN 0))⟩) (fun _ hS => rfl) (fun _ => hp2)) <| obs_nil
       refine ce (t := 124) (b := ((geti places1 k1) != 0)) hF (fun hb => ?_) (fun hb => ?_)
       ·replace hm := if_t hm hb
        refine rg [] [] [6] [pl 6 (.bool false)] hF hS obs_nil (fun a w hF hS => ?_)
        refine wpIn_ret ?_
        refine block_r (then_r (then_r (block_r (then_r ?_))))
        rw [← hφ1] at hm
        replace hm := done_b hm
        unfold rf_Attacks_K1 at hm
        try dsimp only at hm
        have hm : some false = some r := hm
        obtain rfl := Option.some.inj hm
        exact retV (rs := [.tmp 6]) (vs := [.bool false]) hF rfl rv1 rfl ⟨rfl, hS⟩
       ·replace hm := if_f hm hb
        refine wpIn_skip ?_
        refine block_n ?_
        refine then_n ?_
        exact ⟨hF.wk [0, 2, 7, 8, 12], hS, hm⟩
     ·refine rg [] [] [0, 2, 7, 8, 12, 111] [pl 0 (.slice A1 places1.length c1), pl 2 (vi to1), pl 7 (vi (w64 ((Int.tmod to1 8) - (Int.tmod from1 8)))), pl 8 (vi (w64 ((w64 (Int.tdiv to1 8)) - (w64 (Int.tdiv from1 8))))), pl 12 (vi k1), pl 111 (.bool (k1 != to1))] hF hS obs_nil (fun a w hF hS => ?_)
      refine ce (t := 111) (b := (k1 != to1)) hF (fun hb => ?_) (fun hb => ?_)
      ·replace hm := if_t hm hb
       refine wpIn_skip ?_
       refine then_n ?_
       exact ⟨hF.wk [0, 2, 7, 8, 12], hS, hm⟩
      ·replace hm := if_f hm hb
       refine wpIn_exit ?_
       refine then_e (then_e (block_e (then_n ?_)))
       rw [← hφ1] at hm
       replace hm := done_b hm
       unfold rf_Attacks_K1 at hm
       try dsimp only at hm
       have hm : (rf_Attacks_J4).bind some = some r := hm
       exact ⟨hF.wk [], hS, hm⟩
   ·obtain ⟨r8, hr8, hm⟩ := call_b hm
    obtain ⟨r9, hr9, hm⟩ := call_b hm
    refine rg [⟨false, [(((geti places1 from1) == 0) || ((!(r6 == r7)) && (!(((w64 ((Int.tmod to1 8) - (Int.tmod from1 8))) == 0) || ((w64 ((w64 (Int.tdiv to1 8)) - (w64 (Int.tdiv from1 8)))) == 0)))), false)], callFunc 129 #[vi (geti places1 from1)], vi r8⟩, ⟨false, [((((geti places1 from1) == 0) || ((!(r6 == r7)) && (!(((w64 ((Int.tmod to1 8) - (Int.tmod from1 8))) == 0) || ((w64 ((w64 (Int.tdiv to1 8)) - (w64 (Int.tdiv from1 8)))) == 0))))) || ((r8 == 3) && (!(r6 == r7))), false)], callFunc 129 #[vi (geti places1 from1)], vi r9⟩] [none, none, none, none, none, none, none, none, none, none, none, none, some (vi r8), none, none, none, none, none, none, none, none, some (vi r9), none, none, none, none, none, none] [0, 1, 2, 7, 8, 100] [pl 0 (.slice A1 places1.length c1), pl 1 (vi from1), pl 2 (vi to1), pl 7 (vi (w64 ((Int.tmod to1 8) - (Int.tmod from1 8)))), pl 8 (vi (w64 ((w64 (Int.tdiv to1 8)) - (w64 (Int.tdiv from1 8))))), pl 100 (.bool (((((geti places1 from1) == 0) || ((!(r6 == r7)) && (!(((w64 ((Int.tmod to1 8) - (Int.tmod from1 8))) == 0) || ((w64 ((w64 (Int.tdiv to1 8)) - (w64 (Int.tdiv from1 8)))) == 0))))) || ((r8 == 3) && (!(r6 == r7)))) || ((r9 == 4) && (!(((w64 ((Int.tmod to1 8) - (Int.tmod from1 8))) == 0) || ((w64 ((w64 (Int.tdiv to1 8)) - (w64 (Int.tdiv from1 8)))) == 0))))))] hF hS ?_ (fun a w hF hS => ?_)
    ·exact obs_cons (ob_call Try.func129 (by kernel_rfl) rfl (fun hy _ hS => rf_size_w (ite_some hr8 (by rw [show (((geti places1 from1) == 0) || ((!(r6 == r7)) && (!(((w64 ((Int.tmod to1 8) - (Int.tmod from1 8))) == 0) || ((w64 ((w64 (Int.tdiv to1 8)) - (w64 (Int.tdiv from1 8)))) == 0))))) = false from hy (((geti places1 from1) == 0) || ((!(r6 == r7)) && (!(((w64 ((Int.tmod to1 8) - (Int.tmod from1 8))) == 0) || ((w64 ((w64 (Int.tdiv to1 8)) - (w64 (Int.tdiv from1 8)))) == 0)))), false) (by simp)]; try rfl)) hS )) <| obs_cons (ob_call Try.func129 (by kernel_rfl) rfl (fun hy _ hS => rf_size_w (ite_some hr9 (by rw [show ((((geti places1 from1) == 0) || ((!(r6 == r7)) && (!(((w64 ((Int.tmod to1 8) - (Int.tmod from1 8))) == 0) || ((w64 ((w64 (Int.tdiv to1 8)) - (w64 (Int.tdiv from1 8)))) == 0))))) || ((r8 == 3) && (!(r6 == r7)))) = false from hy ((((geti places1 from1) == 0) || ((!(r6 == r7)) && (!(((w64 ((Int.tmod to1 8) - (Int.tmod from1 8))) == 0) || ((w64 ((w64 (Int.tdiv to1 8)) - (w64 (Int.tdiv from1 8)))) == 0))))) || ((r8 == 3) && (!(r6 == r7))), false) (by simp)]; try rfl)) hS )) <| obs_nil
    refine ce (t := 100) (b := ((((geti places1 from1) == 0) || ((!(r6 == r7)) && (!(((w64 ((Int.tmod to1 8) - (Int.tmod from1 8))) == 0) || ((w64 ((w64 (Int.tdiv to1 8)) - (w64 (Int.tdiv from1 8)))) == 0))))) || ((r8 == 3) && (!(r6 == r7)))) || ((r9 == 4) && (!(((w64 ((Int.tmod to1 8) - (Int.tmod from1 8))) == 0) || ((w64 ((w64 (Int.tdiv to1 8)) - (w64 (Int.tdiv from1 8)))) == 0))))) hF (fun hb => ?_) (fun hb => ?_)
    ·replace hm := if_t hm hb
     refine rg [] [] [6] [pl 6 (.bool false)] hF hS obs_nil (fun a w hF hS => ?_)
     refine wpIn_ret ?_
     refine then_r ?_
     have hm : some false = some r := hm
     obtain rfl := Option.some.inj hm
     exact retV (rs := [.tmp 6]) (vs := [.bool false]) hF rfl rv1 rfl ⟨rfl, hS⟩
    ·replace hm := if_f hm hb
     refine wpIn_skip ?_
     refine then_n ?_
     exact ⟨hF.wk [0, 1, 2, 7, 8], hS, hm⟩
  ·obtain ⟨r1, hr1, hm⟩ := call_b hm
   refine rg [⟨false, [], callFunc 129 #[vi (geti places1 from1)], vi r1⟩] [none, some (vi r1)] [0, 1, 2, 7, 8, 9, 34] [pl 0 (.slice A1 places1.length c1), pl 1 (vi from1), pl 2 (vi to1), pl 7 (vi (w64 ((Int.tmod to1 8) - (Int.tmod from1 8)))), pl 8 (vi (w64 ((w64 (Int.tdiv to1 8)) - (w64 (Int.tdiv from1 8))))), pl 9 (vi (geti places1 from1)), pl 34 (vi r1)] hF hS ?_ (fun a w hF hS => ?_)
   ·exact obs_cons (ob_call Try.func129 (by kernel_rfl) rfl (fun _ _ hS => rf_size_w hr1 hS )) <| obs_nil
   refine wpIn_block ?_
   refine rg [] [] [0, 1, 2, 7, 8, 9, 34, 35] [pl 0 (.slice A1 places1.length c1), pl 1 (vi from1), pl 2 (vi to1), pl 7 (vi (w64 ((Int.tmod to1 8) - (Int.tmod from1 8)))), pl 8 (vi (w64 ((w64 (Int.tdiv to1 8)) - (w64 (Int.tdiv from1 8))))), pl 9 (vi (geti places1 from1)), pl 34 (vi r1), pl 35 (.bool (r1 == 1))] hF hS obs_nil (fun a w hF hS => ?_)
   refine ce (t := 35) (b := (r1 == 1)) hF (fun hb => ?_) (fun hb => ?_)
   ·replace hm := if_t hm hb
    obtain ⟨r2, hr2, hm⟩ := call_b hm
    refine rg [⟨false, [], callFunc 129 #[vi (w64 ((Int.tmod to1 8) - (Int.tmod from1 8)))], vi r2⟩] [none, some (vi r2), none, none, none, none, none, none, none] [6] [pl 6 (.bool ((r2 == 1) && ((w64 ((w64 (Int.tdiv to1 8)) - (w64 (Int.tdiv from1 8)))) == (geti places1 from1))))] hF hS ?_ (fun a w hF hS => ?_)
    ·exact obs_cons (ob_call Try.func129 (by kernel_rfl) rfl (fun _ _ hS => rf_size_w hr2 hS )) <| obs_nil
    refine wpIn_ret ?_
    refine block_r (then_r ?_)
    have hm : some ((r2 == 1) && ((w64 ((w64 (Int.tdiv to1 8)) - (w64 (Int.tdiv from1 8)))) == (geti places1 from1))) = some r := hm
    obtain rfl := Option.some.inj hm
    exact retV (rs := [.tmp 6]) (vs := [.bool ((r2 == 1) && ((w64 ((w64 (Int.tdiv to1 8)) - (w64 (Int.tdiv from1 8)))) == (geti places1 from1)))]) hF rfl rv1 rfl ⟨rfl, hS⟩
   ·replace hm := if_f hm hb
    refine rg [] [] [0, 1, 2, 7, 8, 9, 34, 45] [pl 0 (.slice A1 places1.length c1), pl 1 (vi from1), pl 2 (vi to1), pl 7 (vi (w64 ((Int.tmod to1 8) - (Int.tmod from1 8)))), pl 8 (vi (w64 ((w64 (Int.tdiv to1 8)) - (w64 (Int.tdiv from1 8))))), pl 9 (vi (geti places1 from1)), pl 34 (vi r1), pl 45 (.bool (r1 == 2))] hF hS obs_nil (fun a w hF hS => ?_)
    refine ce (t := 45) (b := (r1 == 2)) hF (fun hb => ?_) (fun hb => ?_)
    ·replace hm := if_t hm hb
     obtain ⟨r3, hr3, hm⟩ := call_b hm
     refine rg [⟨false, [], callFunc 129 #[vi (w64 ((w64 ((Int.tmod to1 8) - (Int.tmod from1 8))) * (w64 ((w64 (Int.tdiv to1 8)) - (w64 (Int.tdiv from1 8))))))], vi r3⟩] [none, none, none, some (vi r3), none, none] [6] [pl 6 (.bool (r3 == 2))] hF hS ?_ (fun a w hF hS => ?_)
     ·exact obs_cons (ob_call Try.func129 (by kernel_rfl) rfl (fun _ _ hS => rf_size_w hr3 hS )) <| obs_nil
     refine wpIn_ret ?_
     refine block_r (then_r ?_)
     have hm : some (r3 == 2) = some r := hm
     obtain rfl := Option.some.inj hm
     exact retV (rs := [.tmp 6]) (vs := [.bool (r3 == 2)]) hF rfl rv1 rfl ⟨rfl, hS⟩
    ·replace hm := if_f hm hb
     refine rg [] [] [0, 1, 2, 7, 8, 9, 52] [pl 0 (.slice A1 places1.length c1), pl 1 (vi from1), pl 2 (vi to1), pl 7 (vi (w64 ((Int.tmod to1 8) - (Int.tmod from1 8)))), pl 8 (vi (w64 ((w64 (Int.tdiv to1 8)) - (w64 (Int.tdiv from1 8))))), pl 9 (vi (geti places1 from1)), pl 52 (.bool (r1 == 6))] hF hS obs_nil (fun a w hF hS => ?_)
     refine ce (t := 52) (b := (r1 == 6)) hF (fun hb => ?_) (fun hb => ?_)
     ·replace hm := if_t hm hb
      obtain ⟨r4, hr4, hm⟩ := call_b hm
      obtain ⟨r5, hr5, hm⟩ := call_b hm
      refine rg [⟨false, [], callFunc 129 #[vi (w64 ((Int.tmod to1 8) - (Int.tmod from1 8)))], vi r4⟩, ⟨false, [(decide (r4 ≤ 1), true)], callFunc 129 #[vi (w64 ((w64 (Int.tdiv to1 8)) - (w64 (Int.tdiv from1 8))))], vi r5⟩] [none, some (vi r4), none, none, none, some (vi r5), none, none, none] [6] [pl 6 (.bool ((decide (r4 ≤ 1)) && (decide (r5 ≤ 1))))] hF hS ?_ (fun a w hF hS => ?_)
      ·exact obs_cons (ob_call Try.func129 (by kernel_rfl) rfl (fun _ _ hS => rf_size_w hr4 hS )) <| obs_cons (ob_call Try.func129 (by kernel_rfl) rfl (fun hy _ hS => rf_size_w (ite_some hr5 (by rw [show (decide (r4 ≤ 1)) = true from hy (decide (r4 ≤ 1), true) (by simp)]; try rfl)) hS )) <| obs_nil
      refine wpIn_ret ?_
      refine block_r (then_r ?_)
      have hm : some ((decide (r4 ≤ 1)) && (decide (r5 ≤ 1))) = some r := hm
      obtain rfl := Option.some.inj hm
      exact retV (rs := [.tmp 6]) (vs := [.bool ((decide (r4 ≤ 1)) && (decide (r5 ≤ 1)))]) hF rfl rv1 rfl ⟨rfl, hS⟩
     ·replace hm := if_f hm hb
      refine wpIn_skip ?_
      refine block_n ?_
      refine then_n ?_
      exact ⟨hF.wk [0, 1, 2, 7, 8, 9], hS, hm⟩
 ·refine rg [] [] [0, 1, 2, 7, 8, 9, 32] [pl 0 (.slice A1 places1.length c1), pl 1 (vi from1), pl 2 (vi to1), pl 7 (vi (w64 ((Int.tmod to1 8) - (Int.tmod from1 8)))), pl 8 (vi (w64 ((w64 (Int.tdiv to1 8)) - (w64 (Int.tdiv from1 8))))), pl 9 (vi (geti places1 from1)), pl 32 (.bool (((w64 ((Int.tmod to1 8) - (Int.tmod from1 8))) == 0) && ((w64 ((w64 (Int.tdiv to1 8)) - (w64 (Int.tdiv from1 8)))) == 0)))] hF hS obs_nil (fun a w hF hS => ?_)
  refine ce (t := 32) (b := ((w64 ((Int.tmod to1 8) - (Int.tmod from1 8))) == 0) && ((w64 ((w64 (Int.tdiv to1 8)) - (w64 (Int.tdiv from1 8)))) == 0)) hF (fun hb => ?_) (fun hb => ?_)
  ·replace hm := if_t hm hb
   refine rg [] [] [6] [pl 6 (.bool false)] hF hS obs_nil (fun a w hF hS => ?_)
   refine wpIn_ret ?_
   refine then_r ?_
   have hm : some false = some r := hm
   obtain rfl := Option.some.inj hm
   exact retV (rs := [.tmp 6]) (vs := [.bool false]) hF rfl rv1 rfl ⟨rfl, hS⟩
  ·replace hm := if_f hm hb
   refine wpIn_skip ?_
   refine then_n ?_
   exact ⟨hF.wk [0, 1, 2, 7, 8, 9], hS, hm⟩

def rf_AttackersOf_J3  (i1 : Int) (l3 : List Int) : Option (St (List Int × Int) (List Int)) :=
 some (.next (l3, (w64 (i1 + 1))))

def rf_AttackersOf_J2  (places1 : List Int) (to1 by1 : Int) (l1 : List Int) (i1 : Int) : Option (St (List Int × Int) (List Int)) :=
 asrt (0 ≤ i1 ∧ i1 < (places1.length : Int)) <| (rf_pieceSide_m (geti places1 i1)).bind fun r1 => ((if (r1 == by1) then rf_Attacks_m places1 i1 to1 else some false)).bind fun r2 => if ((r1 == by1) && r2) then (asrt ((l1.length : Int) + 1 ≤ bigN) <| (rf_AttackersOf_J3 i1) (l1 ++ ([i1] : List Int))) else ((rf_AttackersOf_J3 i1) l1)

def rf_AttackersOf_J1  (l2 : List Int) : Option (List Int) :=
 some l2

def rf_AttackersOf_K1  : (List Int) → Option (List Int) :=
 fun (x : (List Int)) => match x with | l2 => rf_AttackersOf_J1 l2

def rf_AttackersOf_L1  (places1 : List Int) (to1 by1 : Int) : (List Int × Int) → Option (St (List Int × Int) (List Int)) :=
 fun (x : (List Int × Int)) => match x with | (l1, i1) => if (decide (i1 < 64)) then ((rf_AttackersOf_J2 places1 to1 by1 l1 i1)) else (some (.done l1))

def rf_AttackersOf_m  (places1 : List Int) (to1 by1 : Int) : Option (List Int) :=
 (loop (rf_AttackersOf_L1 places1 to1 by1) (([] : List Int), 0)).bind rf_AttackersOf_K1

theorem rf_AttackersOf_w {A1 : Option Addr} {c1 n1 : Nat} {places1 : List Int} {to1 by1 : Int} {r : (List Int)} {w0 w : World} {B : Nat} {fs : List HP} (hm : rf_AttackersOf_m places1 to1 by1 = some r) (hS : Sep w0 B w (fs)) (hr_places1 : RdF w0 B fs A1 (vI places1)) (_hc_places1 : places1.length ≤ c1) (_hn_places1 : n1 = places1.length) :
  Calls Try.prog 146 #[.slice A1 n1 c1, vi to1, vi by1] w fun e w' => ∃ v, e = .returned v ∧ ∃ (A6 : Option Addr) (c6 : Nat), v = .slice A6 r.length c6 ∧ Sep w0 B w' (own 3 (.slice A6 r.length c6) (vI r) :: fs) := by
 obtain ⟨i3, hi3, hz3, hs3, hb3⟩ := info_parts Info3
 obtain rfl := _hn_places1
 unfold rf_AttackersOf_m at hm
 replace hm := start_b hm
 refine enter (l := [.slice A1 places1.length c1, vi to1, vi by1]) (n := 31) Try.func146 rfl rfl (by simp) (fun a hF => ?_)
 refine rg [] [] [0, 1, 2] [pl 0 (.slice A1 places1.length c1), pl 1 (vi to1), pl 2 (vi by1)] hF hS obs_nil (fun a w hF hS => ?_)
 refine rg [] [] [0, 1, 2, 7] [pl 0 (.slice A1 places1.length c1), pl 1 (vi to1), pl 2 (vi by1), pl 7 (.slice none 0 0)] hF hS obs_nil (fun a w hF hS => ?_)
 refine seq_cut (fun a w => ∃ (l2 : List Int) (A3 : Option Addr) (c3 : Nat), Fr 31 [pl 7 (.slice A3 l2.length c3)] a ∧ Sep w0 B w (own 3 (.slice A3 l2.length c3) (vI l2) :: fs) ∧ (rf_AttackersOf_J1 l2).bind some = some r) ?_ ?_
 ·rintro a w ⟨l2, A3, c3, hF, hS, hm⟩
  unfold rf_AttackersOf_J1 at hm
  refine rg [] [] [6] [pl 6 (.slice A3 l2.length c3)] hF hS obs_nil (fun a w hF hS => ?_)
  refine wpIn_ret ?_
  have hm : some l2 = some r := hm
  obtain rfl := Option.some.inj hm
  exact retV (rs := [.tmp 6]) (vs := [.slice A3 l2.length c3]) hF rfl rv1 rfl ⟨_, rfl, A3, c3, rfl, hS⟩
 ·refine rg [] [] [0, 1, 2, 7, 8] [pl 0 (.slice A1 places1.length c1), pl 1 (vi to1), pl 2 (vi by1), pl 7 (.slice none 0 0), pl 8 (vi 0)] hF hS obs_nil (fun a w hF hS => ?_)
  refine wpIn_block ?_
  have hS : Sep w0 B w (own 3 (.slice none 0 0) (vI ([] : List Int)) :: fs) := hS.nil 3
  have hl1 := (hS.at_ 0 rfl).len1
  have hS := (hS.at_ 0 rfl).reN hl1
  have hS : Sep w0 B w (own 3 (.slice none (([] : List Int).length) 0) (vI ([] : List Int)) :: fs) := hS
  have hF := hF.cast (t := 7) (v := .slice none 0 0) (v' := .slice none (([] : List Int).length) 0) rfl rfl (congrArg (fun k => Value.slice none k 0) hl1)
  refine wp_loop_model (S := (List Int × Int)) (R := (List Int)) (rf_AttackersOf_L1 places1 to1 by1) (fun x => (rf_AttackersOf_K1 x).bind some) r (fun (x : (List Int × Int)) a w => ∃ (A2 : Option Addr) (c2 : Nat), Fr 31 [pl 0 (.slice A1 places1.length c1), pl 1 (vi to1), pl 2 (vi by1), pl 7 (.slice A2 x.1.length c2), pl 8 (vi x.2)] a ∧ Sep w0 B w (own 3 (.slice A2 x.1.length c2) (vI x.1) :: fs)) (assoc_b hm) ⟨none, 0, hF.wk [0, 1, 2, 7, 8], hS⟩ ?_
  clear hF hS hm
  rintro nn1 ⟨l1, i1⟩ a w ⟨A2, c2, hF, hS⟩ hm
  generalize hφ1 : stK (rf_AttackersOf_L1 places1 to1 by1) nn1 (fun x => (rf_AttackersOf_K1 x).bind some) = φ1 at hm
  unfold rf_AttackersOf_L1 at hm
  dsimp only at hF hS hm
  refine seq_cut (fun a w => Fr 31 [pl 0 (.slice A1 places1.length c1), pl 1 (vi to1), pl 2 (vi by1), pl 7 (.slice A2 l1.length c2), pl 8 (vi i1)] a ∧ Sep w0 B w (own 3 (.slice A2 l1.length c2) (vI l1) :: fs) ∧ ((rf_AttackersOf_J2 places1 to1 by1 l1 i1)).bind φ1 = some r) ?_ ?_
  ·rintro a w ⟨hF, hS, hm⟩
   unfold rf_AttackersOf_J2 at hm
   refine seq_cut (fun a w => ∃ (l3 : List Int) (A5 : Option Addr) (c5 : Nat), Fr 31 [pl 0 (.slice A1 places1.length c1), pl 1 (vi to1), pl 2 (vi by1), pl 7 (.slice A5 l3.length c5), pl 8 (vi i1)] a ∧ Sep w0 B w (own 3 (.slice A5 l3.length c5) (vI l3) :: fs) ∧ ((rf_AttackersOf_J3 i1) l3).bind φ1 = some r) ?_ ?_
   ·rintro a w ⟨l3, A5, c5, hF, hS, hm⟩
    unfold rf_AttackersOf_J3 at hm
    refine rg1 [] [] [0, 1, 2, 7, 8] [pl 0 (.slice A1 places1.length c1), pl 1 (vi to1), pl 2 (vi by1), pl 7 (.slice A5 l3.length c5), pl 8 (vi (w64 (i1 + 1)))] hF hS obs_nil (fun a w hF hS => ?_)
    refine then_n ?_
    rw [← hφ1] at hm
    exact ⟨(l3, (w64 (i1 + 1))), ⟨A5, c5, hF.wk [0, 1, 2, 7, 8], hS⟩, hm⟩
   ·refine wpIn_block ?_
    obtain ⟨hp1, hm⟩ := asrt_b hm
    obtain ⟨r1, hr1, hm⟩ := call_b hm
    obtain ⟨r2, hr2, hm⟩ := call_b hm
    refine rg [⟨true, [], vS (Instr.indexAt 27 (.slice A1 places1.length c1) (vi i1)), .pointer (some (sAddr A1 i1))⟩, ⟨false, [], vS (Instr.loadAt 3 (.pointer (some (sAddr A1 i1)))), vi (geti places1 i1)⟩, ⟨false, [], callFunc 138 #[vi (geti places1 i1)], vi r1⟩, ⟨false, [((r1 == by1), true)], callFunc 207 #[.slice A1 places1.length c1, vi i1, vi to1], .bool r2⟩] [none, none, some (.pointer (some (sAddr A1 i1))), some (vi (geti places1 i1)), some (vi r1), none, none, none, none, none, none, some (.bool r2), none] [0, 1, 2, 7, 8, 25] [pl 0 (.slice A1 places1.length c1), pl 1 (vi to1), pl 2 (vi by1), pl 7 (.slice A2 l1.length c2), pl 8 (vi i1), pl 25 (.bool ((r1 == by1) && r2))] hF hS ?_ (fun a w hF hS => ?_)
    ·exact obs_cons (ob_ix1 (f := (Value.int .i64)) (m := places1) Und27 hi3 hs3 (hr_places1 _ (hS.dropN 1)) rfl (fun _ => hp1)) <| obs_cons (ob_get1 (n := places1.length) (m := places1) (Value.int .i64) (0 : Int) Agg3 (fun _ hS => ⟨_, (hr_places1 _ (hS.dropN 1))⟩) (fun _ hS => rfl) (fun _ => hp1)) <| obs_cons (ob_call Try.func138 (by kernel_rfl) rfl (fun _ _ hS => rf_pieceSide_w hr1 hS )) <| obs_cons (ob_call Try.func207 (by kernel_rfl) rfl (fun hy _ hS => rf_Attacks_w (ite_some hr2 (by rw [show (r1 == by1) = true from hy ((r1 == by1), true) (by simp)]; try rfl)) hS (fun _ hS => (hr_places1 _ (hS.dropN 1))) _hc_places1 rfl)) <| obs_nil
    refine ce (t := 25) (b := (r1 == by1) && r2) hF (fun hb => ?_) (fun hb => ?_)
    ·replace hm := if_t hm hb
     refine oneR ?_
     obtain ⟨hp2, hm⟩ := asrt_b hm
     refine ar 2 [] [] [0, 1, 2, 8, 26, 27] [pl 0 (.slice A1 places1.length c1), pl 1 (vi to1), pl 2 (vi by1), pl 8 (vi i1), pl 26 (.slice A2 l1.length c2), pl 27 (vi i1)] hF hS obs_nil (fun a w hF hS => ?_)
     refine at_do (d := 28) (s := vS (Instr.buildSlice 27 1 #[(0, vi i1)])) (v := .slice (some ⟨w.heap.size, 0, none⟩) 1 1) (w' := w.alloc (.cells #[vi i1] 3)) hF (by kernel_rfl) (by kernel_rfl) (by kernel_rfl) (fun a hF => ?_)
     have hS : Sep w0 B (w.alloc (.cells #[vi i1] 3)) (own 3 (.slice (some (⟨w.heap.size, 0, none⟩ : Addr)) 1 1) (vI ([i1] : List Int)) :: (own 3 (.slice A2 l1.length c2) (vI l1) :: fs)) := hS.lit 3 #[vi i1] 1 rfl (by omega)
     generalize (some (⟨w.heap.size, 0, none⟩ : Addr)) = g1 at hF hS
     generalize w.alloc (.cells #[vi i1] 3) = w at hS ⊢
     obtain ⟨A4, c4, w, hrun, hS⟩ := run_app1 (P := Try.prog) (t := 27) (m := l1) (ys := ([i1] : List Int)) (A2 := g1) (m2 := 1) (c2 := 1) (Value.int .i64) (0 : Int) (hS.at_ 1 rfl) (hS.at_ 0 rfl).rd ((hS.at_ 0 rfl).len1) 27 Und27 hi3 hz3 hs3 (by omega) rfl (fun _ => rfl) hp2
     have hS : Sep w0 B w (own 3 (.slice g1 1 1) (vI ([i1] : List Int)) :: own 3 (.slice A4 ((l1 ++ ([i1] : List Int)).length) c4) (vI (l1 ++ ([i1] : List Int))) :: fs) := hS
     refine ad (d := 29) hF hrun (fun a hF => ?_)
     refine ar 1 [] [] [0, 1, 2, 7, 8] [pl 0 (.slice A1 places1.length c1), pl 1 (vi to1), pl 2 (vi by1), pl 7 (.slice A4 ((l1 ++ ([i1] : List Int)).length) c4), pl 8 (vi i1)] hF hS obs_nil (fun a w hF hS => ?_)
     refine ae [0, 1, 2, 7, 8] [pl 0 (.slice A1 places1.length c1), pl 1 (vi to1), pl 2 (vi by1), pl 7 (.slice A4 ((l1 ++ ([i1] : List Int)).length) c4), pl 8 (vi i1)] hF rfl (fun hF => ?_)
     refine block_n ?_
     refine then_n ?_
     have hS := hS.pickN 2 [1] (by decide)
     exact ⟨(l1 ++ ([i1] : List Int)), A4, c4, hF.wk [0, 1, 2, 7, 8], hS, hm⟩
    ·replace hm := if_f hm hb
     refine wpIn_skip ?_
     refine block_n ?_
     refine then_n ?_
     exact ⟨l1, A2, c2, hF.wk [0, 1, 2, 7, 8], hS, hm⟩
  ·refine rg [] [] [0, 1, 2, 7, 8, 10] [pl 0 (.slice A1 places1.length c1), pl 1 (vi to1), pl 2 (vi by1), pl 7 (.slice A2 l1.length c2), pl 8 (vi i1), pl 10 (.bool (decide (i1 < 64)))] hF hS obs_nil (fun a w hF hS => ?_)
   refine ce (t := 10) (b := decide (i1 < 64)) hF (fun hb => ?_) (fun hb => ?_)
   ·replace hm := if_t hm hb
    refine wpIn_skip ?_
    refine then_n ?_
    exact ⟨hF.wk [0, 1, 2, 7, 8], hS, hm⟩
   ·replace hm := if_f hm hb
    refine wpIn_exit ?_
    refine then_e (then_e (block_e (then_n ?_)))
    rw [← hφ1] at hm
    replace hm := done_b hm
    unfold rf_AttackersOf_K1 at hm
    try dsimp only at hm
    have hm : (rf_AttackersOf_J1 l1).bind some = some r := hm
    exact ⟨l1, A2, c2, hF.wk [7], hS, hm⟩

def rf_InCheck_J1  (places1 : List Int) (side1 king1 : Int) : Option Bool :=
 (rf_at_m places1 king1).bind fun r1 => (rf_AttackersOf_m places1 r1 (w64 (1 - side1))).bind fun r2 => some (decide ((0 : Int) < (r2.length : Int)))

def rf_InCheck_m  (places1 : List Int) (side1 : Int) : Option Bool :=
 if (side1 == 1) then ((rf_InCheck_J1 places1 side1) (w64 (0 - 6))) else ((rf_InCheck_J1 places1 side1) 6)

theorem rf_InCheck_w {A1 : Option Addr} {c1 n1 : Nat} {places1 : List Int} {side1 : Int} {r : Bool} {w0 w : World} {B : Nat} {fs : List HP} (hm : rf_InCheck_m places1 side1 = some r) (hS : Sep w0 B w (fs)) (hr_places1 : RdF w0 B fs A1 (vI places1)) (_hc_places1 : places1.length ≤ c1) (_hn_places1 : n1 = places1.length) :
  Calls Try.prog 130 #[.slice A1 n1 c1, vi side1] w fun e w' => e = .returned (.bool r) ∧ Sep w0 B w' (fs) := by
 obtain ⟨i3, hi3, hz3, hs3, hb3⟩ := info_parts Info3
 obtain rfl := _hn_places1
 unfold rf_InCheck_m at hm
 replace hm := start_b hm
 refine enter (l := [.slice A1 places1.length c1, vi side1]) (n := 19) Try.func130 rfl rfl (by simp) (fun a hF => ?_)
 refine rg [] [] [0, 1] [pl 0 (.slice A1 places1.length c1), pl 1 (vi side1)] hF hS obs_nil (fun a w hF hS => ?_)
 refine rg [] [] [0, 1, 5] [pl 0 (.slice A1 places1.length c1), pl 1 (vi side1), pl 5 (vi 6)] hF hS obs_nil (fun a w hF hS => ?_)
 refine seq_cut (fun a w => ∃ (king1 : Int), Fr 19 [pl 0 (.slice A1 places1.length c1), pl 1 (vi side1), pl 5 (vi king1)] a ∧ Sep w0 B w (fs) ∧ ((rf_InCheck_J1 places1 side1) king1).bind some = some r) ?_ ?_
 ·rintro a w ⟨king1, hF, hS, hm⟩
  unfold rf_InCheck_J1 at hm
  refine seqR ?_
  obtain ⟨r1, hr1, hm⟩ := call_b hm
  obtain ⟨r2, hr2, hm⟩ := call_b hm
  refine ar 6 [⟨false, [], callFunc 75 #[.slice A1 places1.length c1, vi king1], vi r1⟩] [none, none, none, some (vi r1), none, none] [10, 13, 15] [pl 10 (.slice A1 places1.length c1), pl 13 (vi r1), pl 15 (vi (w64 (1 - side1)))] hF hS ?_ (fun a w hF hS => ?_)
  ·exact obs_cons (ob_call Try.func75 (by kernel_rfl) rfl (fun _ _ hS => rf_at_w hr1 hS (fun _ hS => (hr_places1 _ (hS.dropN 0))) _hc_places1 rfl)) <| obs_nil
  refine at_call (f := 146) (args := #[.slice A1 places1.length c1, vi r1, vi (w64 (1 - side1))]) (d := 16) hF (by kernel_rfl) (by kernel_rfl) Try.func146 (by kernel_rfl) rfl (rf_AttackersOf_w hr2 hS (fun _ hS => (hr_places1 _ (hS.dropN 0))) _hc_places1 rfl) (fun v a w hR hF => ?_)
  clear hS
  obtain ⟨A2, c2, rfl, hS⟩ := hR
  have hS : Sep w0 B w (own 3 (.slice A2 r2.length c2) (vI r2) :: fs) := hS
  refine ar 3 [] [] [4] [pl 4 (.bool (decide ((0 : Int) < (r2.length : Int))))] hF hS obs_nil (fun a w hF hS => ?_)
  refine ae [4] [pl 4 (.bool (decide ((0 : Int) < (r2.length : Int))))] hF rfl (fun hF => ?_)
  refine then_n (wpIn_ret ?_)
  have hS := hS.pickN 1 [] (by decide)
  have hm : some (decide ((0 : Int) < (r2.length : Int))) = some r := hm
  obtain rfl := Option.some.inj hm
  exact retV (rs := [.tmp 4]) (vs := [.bool (decide ((0 : Int) < (r2.length : Int)))]) hF rfl rv1 rfl ⟨rfl, hS⟩
 ·refine rg [] [] [0, 1, 5, 7] [pl 0 (.slice A1 places1.length c1), pl 1 (vi side1), pl 5 (vi 6), pl 7 (.bool (side1 == 1))] hF hS obs_nil (fun a w hF hS => ?_)
  refine ce (t := 7) (b := (side1 == 1)) hF (fun hb => ?_) (fun hb => ?_)
  ·replace hm := if_t hm hb
   refine rg1 [] [] [0, 1, 5] [pl 0 (.slice A1 places1.length c1), pl 1 (vi side1), pl 5 (vi (w64 (0 - 6)))] hF hS obs_nil (fun a w hF hS => ?_)
   refine then_n ?_
   exact ⟨(w64 (0 - 6)), hF.wk [0, 1, 5], hS, hm⟩
  ·replace hm := if_f hm hb
   refine wpIn_skip ?_
   refine then_n ?_
   exact ⟨6, hF.wk [0, 1, 5], hS, hm⟩

def rf_ChessMay_J4  (i1 white4 black3 : Int) : Option (St MvT (Fl (Int × Int) Bool)) :=
 some (.next (white4, black3, (w64 (i1 + 1))))

def rf_ChessMay_J6  (p1 : List Int) (black1 i1 white3 : Int) : Option (St MvT (Fl (Int × Int) Bool)) :=
 if ((geti p1 i1) == (-6)) then ((rf_ChessMay_J4 i1) white3 (w64 (black1 + 1))) else ((rf_ChessMay_J4 i1) white3 black1)

def rf_ChessMay_J5  (p1 : List Int) (white1 black1 i1 : Int) : Option (St MvT (Fl (Int × Int) Bool)) :=
 if ((geti p1 i1) == 6) then ((rf_ChessMay_J6 p1 black1 i1) (w64 (white1 + 1))) else ((rf_ChessMay_J6 p1 black1 i1) white1)

def rf_ChessMay_J3  (p1 : List Int) (white1 black1 i1 : Int) : Option (St MvT (Fl (Int × Int) Bool)) :=
 asrt (0 ≤ i1 ∧ i1 < (p1.length : Int)) <| (rf_within_m (geti p1 i1) (-6) 6).bind fun r5 => ((if (!(!r5)) then rf_size_m (geti p1 i1) else some 0)).bind fun r6 => if ((!r5) || ((r6 == 1) && ((decide (i1 < 8)) || (decide ((55 : Int) < i1))))) then (some (.done (.ret false))) else ((rf_ChessMay_J5 p1 white1 black1 i1))

def rf_ChessMay_J10  (n2 : Int) : Option (St Int (Fl Unit Bool)) :=
 some (.next (w64 (n2 + 1)))

def rf_ChessMay_J11  (p1 : List Int) (p3 n2 c2 : Int) : Option (St Int (Fl Unit Bool)) :=
 asrt ((0 : Int) ≤ n2) <| asrt (((bAnd (shrK .i64 p3 n2) 1) == 1) = true → 0 ≤ n2 ∧ n2 < 4) <| asrt (((bAnd (shrK .i64 p3 n2) 1) == 1) = true → 0 ≤ (geti ([4, 4, 60, 60] : List Int) n2) ∧ (geti ([4, 4, 60, 60] : List Int) n2) < (p1.length : Int)) <| asrt (((geti p1 (geti ([4, 4, 60, 60] : List Int) n2)) != (w64 (c2 * 6))) = false → ((bAnd (shrK .i64 p3 n2) 1) == 1) = true → 0 ≤ n2 ∧ n2 < 4) <| asrt (((geti p1 (geti ([4, 4, 60, 60] : List Int) n2)) != (w64 (c2 * 6))) = false → ((bAnd (shrK .i64 p3 n2) 1) == 1) = true → 0 ≤ (geti ([7, 0, 63, 56] : List Int) n2) ∧ (geti ([7, 0, 63, 56] : List Int) n2) < (p1.length : Int)) <| if (((bAnd (shrK .i64 p3 n2) 1) == 1) && (((geti p1 (geti ([4, 4, 60, 60] : List Int) n2)) != (w64 (c2 * 6))) || ((geti p1 (geti ([7, 0, 63, 56] : List Int) n2)) != (w64 (c2 * 4))))) then (some (.done (.ret false))) else ((rf_ChessMay_J10 n2))

def rf_ChessMay_J9  (p1 : List Int) (p3 n2 : Int) : Option (St Int (Fl Unit Bool)) :=
 if (decide ((2 : Int) ≤ n2)) then ((rf_ChessMay_J11 p1 p3 n2) (-1)) else ((rf_ChessMay_J11 p1 p3 n2) 1)

def rf_ChessMay_L2  (p1 : List Int) (p3 : Int) : Int → Option (St Int (Fl Unit Bool)) :=
 fun (x : Int) => match x with | n2 => if (decide (n2 < 4)) then ((rf_ChessMay_J9 p1 p3 n2)) else (some (.done (.go ())))

def rf_ChessMay_J13  (p1 : List Int) (p4 : Int) : Option Bool :=
 (rf_within_m p4 16 23).bind fun r9 => asrt (r9 = true → 0 ≤ p4 ∧ p4 < (p1.length : Int)) <| asrt ((r9 && ((geti p1 p4) == 0)) = true → 0 ≤ (w64 (p4 + 8)) ∧ (w64 (p4 + 8)) < (p1.length : Int)) <| asrt (((r9 && ((geti p1 p4) == 0)) && ((geti p1 (w64 (p4 + 8))) == 1)) = true → 0 ≤ (w64 (p4 - 8)) ∧ (w64 (p4 - 8)) < (p1.length : Int)) <| some (((r9 && ((geti p1 p4) == 0)) && ((geti p1 (w64 (p4 + 8))) == 1)) && ((geti p1 (w64 (p4 - 8))) == 0))

def rf_ChessMay_J12  (p1 : List Int) (p2 p4 : Int) : Option Bool :=
 if (p2 == 0) then ((rf_within_m p4 40 47).bind fun r8 => asrt (r8 = true → 0 ≤ p4 ∧ p4 < (p1.length : Int)) <| asrt ((r8 && ((geti p1 p4) == 0)) = true → 0 ≤ (w64 (p4 - 8)) ∧ (w64 (p4 - 8)) < (p1.length : Int)) <| asrt (((r8 && ((geti p1 p4) == 0)) && ((geti p1 (w64 (p4 - 8))) == (-1))) = true → 0 ≤ (w64 (p4 + 8)) ∧ (w64 (p4 + 8)) < (p1.length : Int)) <| some (((r8 && ((geti p1 p4) == 0)) && ((geti p1 (w64 (p4 - 8))) == (-1))) && ((geti p1 (w64 (p4 + 8))) == 0))) else ((rf_ChessMay_J13 p1 p4))

def rf_ChessMay_J8  (p1 : List Int) (p2 p4 : Int) : Option Bool :=
 if (p4 == (-1)) then (some true) else ((rf_ChessMay_J12 p1 p2 p4))

def rf_ChessMay_K2  (p1 : List Int) (p2 p4 : Int) : (Fl Unit Bool) → Option Bool :=
 fun (x : (Fl Unit Bool)) => match x with | .go _ => (rf_ChessMay_J8 p1 p2 p4) | .ret x => some x

def rf_ChessMay_J7  (p1 : List Int) (p2 p3 p4 : Int) : Option Bool :=
 (loop (rf_ChessMay_L2 p1 p3) 0).bind (rf_ChessMay_K2 p1 p2 p4)

def rf_ChessMay_J2  (p1 : List Int) (p2 p3 : Int) (p4 white2 black2 : Int) : Option Bool :=
 ((if (!((white2 != 1) || (black2 != 1))) then rf_InCheck_m p1 (w64 (1 - p2)) else some false)).bind fun r7 => if (((white2 != 1) || (black2 != 1)) || r7) then (some false) else ((rf_ChessMay_J7 p1 p2 p3 p4))

def rf_ChessMay_K1  (p1 : List Int) (p2 p3 p4 : Int) : (Fl (Int × Int) Bool) → Option Bool :=
 fun (x : (Fl (Int × Int) Bool)) => match x with | .go (white2, black2) => (rf_ChessMay_J2 p1 p2 p3 p4) white2 black2 | .ret x => some x

def rf_ChessMay_L1  (p1 : List Int) : MvT → Option (St MvT (Fl (Int × Int) Bool)) :=
 fun (x : MvT) => match x with | (white1, black1, i1) => if (decide (i1 < 64)) then ((rf_ChessMay_J3 p1 white1 black1 i1)) else (some (.done (.go (white1, black1))))

def rf_ChessMay_J1  (p1 : List Int) (p2 p3 p4 : Int) : Option Bool :=
 (loop (rf_ChessMay_L1 p1) (0, 0, 0)).bind (rf_ChessMay_K1 p1 p2 p3 p4)

def rf_ChessMay_m  (p1 : List Int) (p2 p3 : Int) (p4 p5 p6 : Int) : Option Bool :=
 ((if (!((p1.length : Int) != 64)) then rf_within_m p2 0 1 else some false)).bind fun r1 => ((if (!(((p1.length : Int) != 64) || (!r1))) then rf_within_m p3 0 15 else some false)).bind fun r2 => ((if (!((((p1.length : Int) != 64) || (!r1)) || (!r2))) then rf_within_m p5 0 999 else some false)).bind fun r3 => ((if (!(((((p1.length : Int) != 64) || (!r1)) || (!r2)) || (!r3))) then rf_within_m p6 1 999 else some false)).bind fun r4 => if ((((((p1.length : Int) != 64) || (!r1)) || (!r2)) || (!r3)) || (!r4)) then (some false) else ((rf_ChessMay_J1 p1 p2 p3 p4))

theorem rf_ChessMay_w {A1 : Option Addr} {c1 n1 : Nat} {p1 : List Int} {p2 p3 : Int} {p4 p5 p6 : Int} {r : Bool} {w0 w : World} {B : Nat} {fs : List HP} (hm : rf_ChessMay_m p1 p2 p3 p4 p5 p6 = some r) (hS : Sep w0 B w (fs)) (hr_p1 : RdF w0 B fs A1 (vI p1)) (_hc_p1 : p1.length ≤ c1) (_hn_p1 : n1 = p1.length) :
  Calls Try.prog 48 #[.agg (ca A1 n1 c1 p2 p3 p4 p5 p6)] w fun e w' => e = .returned (.bool r) ∧ Sep w0 B w' (fs) := by
 obtain ⟨i3, hi3, hz3, hs3, hb3⟩ := info_parts Info3
 obtain rfl := _hn_p1
 unfold rf_ChessMay_m at hm
 replace hm := start_b hm
 refine enter (l := [.agg (ca A1 p1.length c1 p2 p3 p4 p5 p6)]) (n := 190) Try.func48 rfl rfl (by simp) (fun a hF => ?_)
 refine seqR ?_
 refine at_do (d := 1) (s := vS (Instr.box 75 (.agg (ca A1 p1.length c1 p2 p3 p4 p5 p6)))) (v := pa w.heap.size 0) (w' := w.alloc (.cells (ca A1 p1.length c1 p2 p3 p4 p5 p6) 75)) hF (by kernel_rfl) (by kernel_rfl) (by kernel_rfl) (fun a hF => ?_)
 have hS : Sep w0 B (w.alloc (.cells (ca A1 p1.length c1 p2 p3 p4 p5 p6) 75)) (blk w.heap.size 75 (ca A1 p1.length c1 p2 p3 p4 p5 p6) :: (fs)) := hS.box 75 (ca A1 p1.length c1 p2 p3 p4 p5 p6)
 generalize w.heap.size = g1 at hF hS
 generalize w.alloc (.cells (ca A1 p1.length c1 p2 p3 p4 p5 p6) 75) = w at hS ⊢
 refine ar 1 [] [] [1] [pl 1 (pa g1 0)] hF hS obs_nil (fun a w hF hS => ?_)
 refine ae [1] [pl 1 (pa g1 0)] hF rfl (fun hF => ?_)
 refine then_n ?_
 refine seq_cut (fun a w => Fr 190 [pl 1 (pa g1 0)] a ∧ Sep w0 B w (blk g1 75 (ca A1 p1.length c1 p2 p3 p4 p5 p6) :: fs) ∧ ((rf_ChessMay_J1 p1 p2 p3 p4)).bind some = some r) ?_ ?_
 ·rintro a w ⟨hF, hS, hm⟩
  unfold rf_ChessMay_J1 at hm
  refine rg [] [] [1, 3, 4] [pl 1 (pa g1 0), pl 3 (vi 0), pl 4 (vi 0)] hF hS obs_nil (fun a w hF hS => ?_)
  refine seq_cut (fun a w => ∃ (white2 black2 : Int), Fr 190 [pl 1 (pa g1 0), pl 3 (vi white2), pl 4 (vi black2)] a ∧ Sep w0 B w (blk g1 75 (ca A1 p1.length c1 p2 p3 p4 p5 p6) :: fs) ∧ ((rf_ChessMay_J2 p1 p2 p3 p4) white2 black2).bind some = some r) ?_ ?_
  ·rintro a w ⟨white2, black2, hF, hS, hm⟩
   unfold rf_ChessMay_J2 at hm
   refine seq_cut (fun a w => Fr 190 [pl 1 (pa g1 0)] a ∧ Sep w0 B w (blk g1 75 (ca A1 p1.length c1 p2 p3 p4 p5 p6) :: fs) ∧ ((rf_ChessMay_J7 p1 p2 p3 p4)).bind some = some r) ?_ ?_
   ·rintro a w ⟨hF, hS, hm⟩
    unfold rf_ChessMay_J7 at hm
    refine seqR ?_
    refine at_do (d := 87) (s := vS (Instr.buildSlice 27 4 #[(0, vi 4), (1, vi 4), (2, vi 60), (3, vi 60)])) (v := .slice (some ⟨w.heap.size, 0, none⟩) 4 4) (w' := w.alloc (.cells #[vi 4, vi 4, vi 60, vi 60] 3)) hF (by kernel_rfl) (by kernel_rfl) (by kernel_rfl) (fun a hF => ?_)
    have hS : Sep w0 B (w.alloc (.cells #[vi 4, vi 4, vi 60, vi 60] 3)) (own 3 (.slice (some (⟨w.heap.size, 0, none⟩ : Addr)) 4 4) (vI ([4, 4, 60, 60] : List Int)) :: (blk g1 75 (ca A1 p1.length c1 p2 p3 p4 p5 p6) :: fs)) := hS.lit 3 #[vi 4, vi 4, vi 60, vi 60] 4 rfl (by omega)
    generalize (some (⟨w.heap.size, 0, none⟩ : Addr)) = g2 at hF hS
    generalize w.alloc (.cells #[vi 4, vi 4, vi 60, vi 60] 3) = w at hS ⊢
    refine at_do (d := 88) (s := vS (Instr.buildSlice 27 4 #[(0, vi 7), (1, vi 0), (2, vi 63), (3, vi 56)])) (v := .slice (some ⟨w.heap.size, 0, none⟩) 4 4) (w' := w.alloc (.cells #[vi 7, vi 0, vi 63, vi 56] 3)) hF (by kernel_rfl) (by kernel_rfl) (by kernel_rfl) (fun a hF => ?_)
    have hS : Sep w0 B (w.alloc (.cells #[vi 7, vi 0, vi 63, vi 56] 3)) (own 3 (.slice (some (⟨w.heap.size, 0, none⟩ : Addr)) 4 4) (vI ([7, 0, 63, 56] : List Int)) :: (own 3 (.slice g2 4 4) (vI ([4, 4, 60, 60] : List Int)) :: blk g1 75 (ca A1 p1.length c1 p2 p3 p4 p5 p6) :: fs)) := hS.lit 3 #[vi 7, vi 0, vi 63, vi 56] 4 rfl (by omega)
    generalize (some (⟨w.heap.size, 0, none⟩ : Addr)) = g3 at hF hS
    generalize w.alloc (.cells #[vi 7, vi 0, vi 63, vi 56] 3) = w at hS ⊢
    refine ar 2 [] [] [1, 7, 8] [pl 1 (pa g1 0), pl 7 (.slice g2 4 4), pl 8 (.slice g3 4 4)] hF hS obs_nil (fun a w hF hS => ?_)
    refine ae [1, 7, 8] [pl 1 (pa g1 0), pl 7 (.slice g2 4 4), pl 8 (.slice g3 4 4)] hF rfl (fun hF => ?_)
    refine then_n ?_
    refine seq_cut (fun a w => Fr 190 [pl 1 (pa g1 0)] a ∧ Sep w0 B w (blk g1 75 (ca A1 p1.length c1 p2 p3 p4 p5 p6) :: fs) ∧ ((rf_ChessMay_J8 p1 p2 p4)).bind some = some r) ?_ ?_
    ·rintro a w ⟨hF, hS, hm⟩
     unfold rf_ChessMay_J8 at hm
     refine rg [⟨false, [], vS (Instr.loadAt 3 (pa g1 3)), vi p4⟩] [none, some (vi p4), none] [1, 11] [pl 1 (pa g1 0), pl 11 (vi p4)] hF hS ?_ (fun a w hF hS => ?_)
     ·exact obs_cons (ob_load Agg3 (fun _ _ hS => (hS.at_ 0 rfl).cell rfl)) <| obs_nil
     refine seq_cut (fun a w => Fr 190 [pl 1 (pa g1 0), pl 11 (vi p4)] a ∧ Sep w0 B w (blk g1 75 (ca A1 p1.length c1 p2 p3 p4 p5 p6) :: fs) ∧ ((rf_ChessMay_J12 p1 p2 p4)).bind some = some r) ?_ ?_
     ·rintro a w ⟨hF, hS, hm⟩
      unfold rf_ChessMay_J12 at hm
      refine seq_cut (fun a w => Fr 190 [pl 1 (pa g1 0), pl 11 (vi p4)] a ∧ Sep w0 B w (blk g1 75 (ca A1 p1.length c1 p2 p3 p4 p5 p6) :: fs) ∧ ((rf_ChessMay_J13 p1 p4)).bind some = some r) ?_ ?_
      ·rintro a w ⟨hF, hS, hm⟩
       unfold rf_ChessMay_J13 at hm
       obtain ⟨r9, hr9, hm⟩ := call_b hm
       obtain ⟨hp10, hm⟩ := asrt_b hm
       obtain ⟨hp11, hm⟩ := asrt_b hm
       obtain ⟨hp12, hm⟩ := asrt_b hm
       refine rg [⟨false, [], callFunc 74 #[vi p4, vi 16, vi 23], .bool r9⟩, ⟨false, [(r9, true)], vS (Instr.loadAt 27 (pa g1 0)), .slice A1 p1.length c1⟩, ⟨true, [(r9, true)], vS (Instr.indexAt 27 (.slice A1 p1.length c1) (vi p4)), .pointer (some (sAddr A1 p4))⟩, ⟨false, [(r9, true)], vS (Instr.loadAt 3 (.pointer (some (sAddr A1 p4)))), vi (geti p1 p4)⟩, ⟨false, [(r9 && ((geti p1 p4) == 0), true)], vS (Instr.loadAt 27 (pa g1 0)), .slice A1 p1.length c1⟩, ⟨true, [(r9 && ((geti p1 p4) == 0), true)], vS (Instr.indexAt 27 (.slice A1 p1.length c1) (vi (w64 (p4 + 8)))), .pointer (some (sAddr A1 (w64 (p4 + 8))))⟩, ⟨false, [(r9 && ((geti p1 p4) == 0), true)], vS (Instr.loadAt 3 (.pointer (some (sAddr A1 (w64 (p4 + 8)))))), vi (geti p1 (w64 (p4 + 8)))⟩, ⟨false, [((r9 && ((geti p1 p4) == 0)) && ((geti p1 (w64 (p4 + 8))) == 1), true)], vS (Instr.loadAt 27 (pa g1 0)), .slice A1 p1.length c1⟩, ⟨true, [((r9 && ((geti p1 p4) == 0)) && ((geti p1 (w64 (p4 + 8))) == 1), true)], vS (Instr.indexAt 27 (.slice A1 p1.length c1) (vi (w64 (p4 - 8)))), .pointer (some (sAddr A1 (w64 (p4 - 8))))⟩, ⟨false, [((r9 && ((geti p1 p4) == 0)) && ((geti p1 (w64 (p4 + 8))) == 1), true)], vS (Instr.loadAt 3 (.pointer (some (sAddr A1 (w64 (p4 - 8)))))), vi (geti p1 (w64 (p4 - 8)))⟩] [none, some (.bool r9), none, none, some (.slice A1 p1.length c1), none, some (.pointer (some (sAddr A1 p4))), some (vi (geti p1 p4)), none, none, none, none, some (.slice A1 p1.length c1), none, none, some (.pointer (some (sAddr A1 (w64 (p4 + 8))))), some (vi (geti p1 (w64 (p4 + 8)))), none, none, none, none, some (.slice A1 p1.length c1), none, none, some (.pointer (some (sAddr A1 (w64 (p4 - 8))))), some (vi (geti p1 (w64 (p4 - 8)))), none, none, none] [2] [pl 2 (.bool (((r9 && ((geti p1 p4) == 0)) && ((geti p1 (w64 (p4 + 8))) == 1)) && ((geti p1 (w64 (p4 - 8))) == 0)))] hF hS ?_ (fun a w hF hS => ?_)
       ·exact obs_cons (ob_call Try.func74 (by kernel_rfl) rfl (fun _ _ hS => rf_within_w hr9 hS )) <| obs_cons (ob_load Agg27 (fun _ _ hS => (hS.at_ 0 rfl).cell rfl)) <| obs_cons (ob_ix1 (f := (Value.int .i64)) (m := p1) Und27 hi3 hs3 (hr_p1 _ (hS.dropN 1)) rfl (fun hy => hp10 (hy (r9, true) (by simp)))) <| obs_cons (ob_get1 (n := p1.length) (m := p1) (Value.int .i64) (0 : Int) Agg3 (fun _ hS => ⟨_, (hr_p1 _ (hS.dropN 1))⟩) (fun _ hS => rfl) (fun hy => hp10 (hy (r9, true) (by simp)))) <| obs_cons (ob_load Agg27 (fun _ _ hS => (hS.at_ 0 rfl).cell rfl)) <| obs_cons (ob_ix1 (f := (Value.int .i64)) (m := p1) Und27 hi3 hs3 (hr_p1 _ (hS.dropN 1)) rfl (fun hy => hp11 (hy (r9 && ((geti p1 p4) == 0), true) (by simp)))) <| obs_cons (ob_get1 (n := p1.length) (m := p1) (Value.int .i64) (0 : Int) Agg3 (fun _ hS => ⟨_, (hr_p1 _ (hS.dropN 1))⟩) (fun _ hS => rfl) (fun hy => hp11 (hy (r9 && ((geti p1 p4) == 0), true) (by simp)))) <| obs_cons (ob_load Agg27 (fun _ _ hS => (hS.at_ 0 rfl).cell rfl)) <| obs_cons (ob_ix1 (f := (Value.int .i64)) (m := p1) Und27 hi3 hs3 (hr_p1 _ (hS.dropN 1)) rfl (fun hy => hp12 (hy ((r9 && ((geti p1 p4) == 0)) && ((geti p1 (w64 (p4 + 8))) == 1), true) (by simp)))) <| obs_cons (ob_get1 (n := p1.length) (m := p1) (Value.int .i64) (0 : Int) Agg3 (fun _ hS => ⟨_, (hr_p1 _ (hS.dropN 1))⟩) (fun _ hS => rfl) (fun hy => hp12 (hy ((r9 && ((geti p1 p4) == 0)) && ((geti p1 (w64 (p4 + 8))) == 1), true) (by simp)))) <| obs_nil
       refine wpIn_ret ?_
       have hS := hS.pickN 1 [] (by decide)
       have hm : some (((r9 && ((geti p1 p4) == 0)) && ((geti p1 (w64 (p4 + 8))) == 1)) && ((geti p1 (w64 (p4 - 8))) == 0)) = some r := hm
       obtain rfl := Option.some.inj hm
       exact retV (rs := [.tmp 2]) (vs := [.bool (((r9 && ((geti p1 p4) == 0)) && ((geti p1 (w64 (p4 + 8))) == 1)) && ((geti p1 (w64 (p4 - 8))) == 0))]) hF rfl rv1 rfl ⟨rfl, hS⟩
      ·refine rg [⟨false, [], vS (Instr.loadAt 3 (pa g1 1)), vi p2⟩] [none, some (vi p2), none] [1, 11, 133] [pl 1 (pa g1 0), pl 11 (vi p4), pl 133 (.bool (p2 == 0))] hF hS ?_ (fun a w hF hS => ?_)
       ·exact obs_cons (ob_load Agg3 (fun _ _ hS => (hS.at_ 0 rfl).cell rfl)) <| obs_nil
       refine ce (t := 133) (b := (p2 == 0)) hF (fun hb => ?_) (fun hb => ?_)
       ·replace hm := if_t hm hb
        obtain ⟨r8, hr8, hm⟩ := call_b hm
        obtain ⟨hp7, hm⟩ := asrt_b hm
        obtain ⟨hp8, hm⟩ := asrt_b hm
        obtain ⟨hp9, hm⟩ := asrt_b hm
        refine rg [⟨false, [], callFunc 74 #[vi p4, vi 40, vi 47], .bool r8⟩, ⟨false, [(r8, true)], vS (Instr.loadAt 27 (pa g1 0)), .slice A1 p1.length c1⟩, ⟨true, [(r8, true)], vS (Instr.indexAt 27 (.slice A1 p1.length c1) (vi p4)), .pointer (some (sAddr A1 p4))⟩, ⟨false, [(r8, true)], vS (Instr.loadAt 3 (.pointer (some (sAddr A1 p4)))), vi (geti p1 p4)⟩, ⟨false, [(r8 && ((geti p1 p4) == 0), true)], vS (Instr.loadAt 27 (pa g1 0)), .slice A1 p1.length c1⟩, ⟨true, [(r8 && ((geti p1 p4) == 0), true)], vS (Instr.indexAt 27 (.slice A1 p1.length c1) (vi (w64 (p4 - 8)))), .pointer (some (sAddr A1 (w64 (p4 - 8))))⟩, ⟨false, [(r8 && ((geti p1 p4) == 0), true)], vS (Instr.loadAt 3 (.pointer (some (sAddr A1 (w64 (p4 - 8)))))), vi (geti p1 (w64 (p4 - 8)))⟩, ⟨false, [((r8 && ((geti p1 p4) == 0)) && ((geti p1 (w64 (p4 - 8))) == (-1)), true)], vS (Instr.loadAt 27 (pa g1 0)), .slice A1 p1.length c1⟩, ⟨true, [((r8 && ((geti p1 p4) == 0)) && ((geti p1 (w64 (p4 - 8))) == (-1)), true)], vS (Instr.indexAt 27 (.slice A1 p1.length c1) (vi (w64 (p4 + 8)))), .pointer (some (sAddr A1 (w64 (p4 + 8))))⟩, ⟨false, [((r8 && ((geti p1 p4) == 0)) && ((geti p1 (w64 (p4 - 8))) == (-1)), true)], vS (Instr.loadAt 3 (.pointer (some (sAddr A1 (w64 (p4 + 8)))))), vi (geti p1 (w64 (p4 + 8)))⟩] [none, some (.bool r8), none, none, some (.slice A1 p1.length c1), none, some (.pointer (some (sAddr A1 p4))), some (vi (geti p1 p4)), none, none, none, none, some (.slice A1 p1.length c1), none, none, some (.pointer (some (sAddr A1 (w64 (p4 - 8))))), some (vi (geti p1 (w64 (p4 - 8)))), none, none, none, none, some (.slice A1 p1.length c1), none, none, some (.pointer (some (sAddr A1 (w64 (p4 + 8))))), some (vi (geti p1 (w64 (p4 + 8)))), none, none, none] [2] [pl 2 (.bool (((r8 && ((geti p1 p4) == 0)) && ((geti p1 (w64 (p4 - 8))) == (-1))) && ((geti p1 (w64 (p4 + 8))) == 0)))] hF hS ?_ (fun a w hF hS => ?_)
        ·exact obs_cons (ob_call Try.func74 (by kernel_rfl) rfl (fun _ _ hS => rf_within_w hr8 hS )) <| obs_cons (ob_load Agg27 (fun _ _ hS => (hS.at_ 0 rfl).cell rfl)) <| obs_cons (ob_ix1 (f := (Value.int .i64)) (m := p1) Und27 hi3 hs3 (hr_p1 _ (hS.dropN 1)) rfl (fun hy => hp7 (hy (r8, true) (by simp)))) <| obs_cons (ob_get1 (n := p1.length) (m := p1) (Value.int .i64) (0 : Int) Agg3 (fun _ hS => ⟨_, (hr_p1 _ (hS.dropN 1))⟩) (fun _ hS => rfl) (fun hy => hp7 (hy (r8, true) (by simp)))) <| obs_cons (ob_load Agg27 (fun _ _ hS => (hS.at_ 0 rfl).cell rfl)) <| obs_cons (ob_ix1 (f := (Value.int .i64)) (m := p1) Und27 hi3 hs3 (hr_p1 _ (hS.dropN 1)) rfl (fun hy => hp8 (hy (r8 && ((geti p1 p4) == 0), true) (by simp)))) <| obs_cons (ob_get1 (n := p1.length) (m := p1) (Value.int .i64) (0 : Int) Agg3 (fun _ hS => ⟨_, (hr_p1 _ (hS.dropN 1))⟩) (fun _ hS => rfl) (fun hy => hp8 (hy (r8 && ((geti p1 p4) == 0), true) (by simp)))) <| obs_cons (ob_load Agg27 (fun _ _ hS => (hS.at_ 0 rfl).cell rfl)) <| obs_cons (ob_ix1 (f := (Value.int .i64)) (m := p1) Und27 hi3 hs3 (hr_p1 _ (hS.dropN 1)) rfl (fun hy => hp9 (hy ((r8 && ((geti p1 p4) == 0)) && ((geti p1 (w64 (p4 - 8))) == (-1)), true) (by simp)))) <| obs_cons (ob_get1 (n := p1.length) (m := p1) (Value.int .i64) (0 : Int) Agg3 (fun _ hS => ⟨_, (hr_p1 _ (hS.dropN 1))⟩) (fun _ hS => rfl) (fun hy => hp9 (hy ((r8 && ((geti p1 p4) == 0)) && ((geti p1 (w64 (p4 - 8))) == (-1)), true) (by simp)))) <| obs_nil
        refine wpIn_ret ?_
        refine then_r ?_
        have hS := hS.pickN 1 [] (by decide)
        have hm : some (((r8 && ((geti p1 p4) == 0)) && ((geti p1 (w64 (p4 - 8))) == (-1))) && ((geti p1 (w64 (p4 + 8))) == 0)) = some r := hm
        obtain rfl := Option.some.inj hm
        exact retV (rs := [.tmp 2]) (vs := [.bool (((r8 && ((geti p1 p4) == 0)) && ((geti p1 (w64 (p4 - 8))) == (-1))) && ((geti p1 (w64 (p4 + 8))) == 0))]) hF rfl rv1 rfl ⟨rfl, hS⟩
       ·replace hm := if_f hm hb
        refine wpIn_skip ?_
        refine then_n ?_
        exact ⟨hF.wk [1, 11], hS, hm⟩
     ·refine rg [] [] [1, 11, 130] [pl 1 (pa g1 0), pl 11 (vi p4), pl 130 (.bool (p4 == (-1)))] hF hS obs_nil (fun a w hF hS => ?_)
      refine ce (t := 130) (b := (p4 == (-1))) hF (fun hb => ?_) (fun hb => ?_)
      ·replace hm := if_t hm hb
       refine rg [] [] [2] [pl 2 (.bool true)] hF hS obs_nil (fun a w hF hS => ?_)
       refine wpIn_ret ?_
       refine then_r ?_
       have hS := hS.pickN 1 [] (by decide)
       have hm : some true = some r := hm
       obtain rfl := Option.some.inj hm
       exact retV (rs := [.tmp 2]) (vs := [.bool true]) hF rfl rv1 rfl ⟨rfl, hS⟩
      ·replace hm := if_f hm hb
       refine wpIn_skip ?_
       refine then_n ?_
       exact ⟨hF.wk [1, 11], hS, hm⟩
    ·refine rg [] [] [1, 7, 8, 9] [pl 1 (pa g1 0), pl 7 (.slice g2 4 4), pl 8 (.slice g3 4 4), pl 9 (vi 0)] hF hS obs_nil (fun a w hF hS => ?_)
     refine wpIn_block ?_
     have hS := hS.pickN 3 [2, 1, 0] (by decide)
     refine wp_loop_model (S := Int) (R := (Fl Unit Bool)) (rf_ChessMay_L2 p1 p3) (fun x => ((rf_ChessMay_K2 p1 p2 p4) x).bind some) r (fun (x : Int) a w => Fr 190 [pl 1 (pa g1 0), pl 7 (.slice g2 4 4), pl 8 (.slice g3 4 4), pl 9 (vi x)] a ∧ Sep w0 B w (blk g1 75 (ca A1 p1.length c1 p2 p3 p4 p5 p6) :: own 3 (.slice g2 4 4) (vI ([4, 4, 60, 60] : List Int)) :: own 3 (.slice g3 4 4) (vI ([7, 0, 63, 56] : List Int)) :: fs)) (assoc_b hm) ⟨hF.wk [1, 7, 8, 9], hS⟩ ?_
     clear hF hS hm
     rintro nn2 n2 a w ⟨hF, hS⟩ hm
     generalize hφ2 : stK (rf_ChessMay_L2 p1 p3) nn2 (fun x => ((rf_ChessMay_K2 p1 p2 p4) x).bind some) = φ2 at hm
     unfold rf_ChessMay_L2 at hm
     dsimp only at hm
     refine seq_cut (fun a w => Fr 190 [pl 1 (pa g1 0), pl 7 (.slice g2 4 4), pl 8 (.slice g3 4 4), pl 9 (vi n2)] a ∧ Sep w0 B w (blk g1 75 (ca A1 p1.length c1 p2 p3 p4 p5 p6) :: own 3 (.slice g2 4 4) (vI ([4, 4, 60, 60] : List Int)) :: own 3 (.slice g3 4 4) (vI ([7, 0, 63, 56] : List Int)) :: fs) ∧ ((rf_ChessMay_J9 p1 p3 n2)).bind φ2 = some r) ?_ ?_
     ·rintro a w ⟨hF, hS, hm⟩
      unfold rf_ChessMay_J9 at hm
      refine seq_cut (fun a w => Fr 190 [pl 1 (pa g1 0), pl 7 (.slice g2 4 4), pl 8 (.slice g3 4 4), pl 9 (vi n2)] a ∧ Sep w0 B w (blk g1 75 (ca A1 p1.length c1 p2 p3 p4 p5 p6) :: own 3 (.slice g2 4 4) (vI ([4, 4, 60, 60] : List Int)) :: own 3 (.slice g3 4 4) (vI ([7, 0, 63, 56] : List Int)) :: fs) ∧ ((rf_ChessMay_J10 n2)).bind φ2 = some r) ?_ ?_
      ·rintro a w ⟨hF, hS, hm⟩
       unfold rf_ChessMay_J10 at hm
       refine rg1 [] [] [1, 7, 8, 9] [pl 1 (pa g1 0), pl 7 (.slice g2 4 4), pl 8 (.slice g3 4 4), pl 9 (vi (w64 (n2 + 1)))] hF hS obs_nil (fun a w hF hS => ?_)
       refine then_n ?_
       rw [← hφ2] at hm
       exact ⟨(w64 (n2 + 1)), ⟨hF.wk [1, 7, 8, 9], hS⟩, hm⟩
      ·refine wpIn_block ?_
       refine rg [] [] [1, 7, 8, 9, 10] [pl 1 (pa g1 0), pl 7 (.slice g2 4 4), pl 8 (.slice g3 4 4), pl 9 (vi n2), pl 10 (vi 1)] hF hS obs_nil (fun a w hF hS => ?_)
       refine seq_cut (fun a w => ∃ (c2 : Int), Fr 190 [pl 1 (pa g1 0), pl 7 (.slice g2 4 4), pl 8 (.slice g3 4 4), pl 9 (vi n2), pl 10 (vi c2)] a ∧ Sep w0 B w (blk g1 75 (ca A1 p1.length c1 p2 p3 p4 p5 p6) :: own 3 (.slice g2 4 4) (vI ([4, 4, 60, 60] : List Int)) :: own 3 (.slice g3 4 4) (vI ([7, 0, 63, 56] : List Int)) :: fs) ∧ ((rf_ChessMay_J11 p1 p3 n2) c2).bind φ2 = some r) ?_ ?_
       ·rintro a w ⟨c2, hF, hS, hm⟩
        unfold rf_ChessMay_J11 at hm
        obtain ⟨hp2, hm⟩ := asrt_b hm
        obtain ⟨hp3, hm⟩ := asrt_b hm
        obtain ⟨hp4, hm⟩ := asrt_b hm
        obtain ⟨hp5, hm⟩ := asrt_b hm
        obtain ⟨hp6, hm⟩ := asrt_b hm
        refine rg [⟨false, [], vS (Instr.loadAt 3 (pa g1 2)), vi p3⟩, ⟨true, [], vS (Op.shift .shr .i64 p3 .i64 n2), vi (shrK .i64 p3 n2)⟩, ⟨false, [(((bAnd (shrK .i64 p3 n2) 1) == 1), true)], vS (Instr.loadAt 27 (pa g1 0)), .slice A1 p1.length c1⟩, ⟨true, [(((bAnd (shrK .i64 p3 n2) 1) == 1), true)], vS (Instr.indexAt 27 (.slice g2 4 4) (vi n2)), .pointer (some (sAddr g2 n2))⟩, ⟨false, [(((bAnd (shrK .i64 p3 n2) 1) == 1), true)], vS (Instr.loadAt 3 (.pointer (some (sAddr g2 n2)))), vi (geti ([4, 4, 60, 60] : List Int) n2)⟩, ⟨true, [(((bAnd (shrK .i64 p3 n2) 1) == 1), true)], vS (Instr.indexAt 27 (.slice A1 p1.length c1) (vi (geti ([4, 4, 60, 60] : List Int) n2))), .pointer (some (sAddr A1 (geti ([4, 4, 60, 60] : List Int) n2)))⟩, ⟨false, [(((bAnd (shrK .i64 p3 n2) 1) == 1), true)], vS (Instr.loadAt 3 (.pointer (some (sAddr A1 (geti ([4, 4, 60, 60] : List Int) n2))))), vi (geti p1 (geti ([4, 4, 60, 60] : List Int) n2))⟩, ⟨false, [(((geti p1 (geti ([4, 4, 60, 60] : List Int) n2)) != (w64 (c2 * 6))), false), (((bAnd (shrK .i64 p3 n2) 1) == 1), true)], vS (Instr.loadAt 27 (pa g1 0)), .slice A1 p1.length c1⟩, ⟨true, [(((geti p1 (geti ([4, 4, 60, 60] : List Int) n2)) != (w64 (c2 * 6))), false), (((bAnd (shrK .i64 p3 n2) 1) == 1), true)], vS (Instr.indexAt 27 (.slice g3 4 4) (vi n2)), .pointer (some (sAddr g3 n2))⟩, ⟨false, [(((geti p1 (geti ([4, 4, 60, 60] : List Int) n2)) != (w64 (c2 * 6))), false), (((bAnd (shrK .i64 p3 n2) 1) == 1), true)], vS (Instr.loadAt 3 (.pointer (some (sAddr g3 n2)))), vi (geti ([7, 0, 63, 56] : List Int) n2)⟩, ⟨true, [(((geti p1 (geti ([4, 4, 60, 60] : List Int) n2)) != (w64 (c2 * 6))), false), (((bAnd (shrK .i64 p3 n2) 1) == 1), true)], vS (Instr.indexAt 27 (.slice A1 p1.length c1) (vi (geti ([7, 0, 63, 56] : List Int) n2))), .pointer (some (sAddr A1 (geti ([7, 0, 63, 56] : List Int) n2)))⟩, ⟨false, [(((geti p1 (geti ([4, 4, 60, 60] : List Int) n2)) != (w64 (c2 * 6))), false), (((bAnd (shrK .i64 p3 n2) 1) == 1), true)], vS (Instr.loadAt 3 (.pointer (some (sAddr A1 (geti ([7, 0, 63, 56] : List Int) n2))))), vi (geti p1 (geti ([7, 0, 63, 56] : List Int) n2))⟩] [none, some (vi p3), none, some (vi (shrK .i64 p3 n2)), none, none, none, none, some (.slice A1 p1.length c1), none, none, some (.pointer (some (sAddr g2 n2))), some (vi (geti ([4, 4, 60, 60] : List Int) n2)), some (.pointer (some (sAddr A1 (geti ([4, 4, 60, 60] : List Int) n2)))), some (vi (geti p1 (geti ([4, 4, 60, 60] : List Int) n2))), none, none, none, none, none, some (.slice A1 p1.length c1), none, none, some (.pointer (some (sAddr g3 n2))), some (vi (geti ([7, 0, 63, 56] : List Int) n2)), some (.pointer (some (sAddr A1 (geti ([7, 0, 63, 56] : List Int) n2)))), some (vi (geti p1 (geti ([7, 0, 63, 56] : List Int) n2))), none, none, none, none, none] [1, 7, 8, 9, 126] [pl 1 (pa g1 0), pl 7 (.slice g2 4 4), pl 8 (.slice g3 4 4), pl 9 (vi n2), pl 126 (.bool (((bAnd (shrK .i64 p3 n2) 1) == 1) && (((geti p1 (geti ([4, 4, 60, 60] : List Int) n2)) != (w64 (c2 * 6))) || ((geti p1 (geti ([7, 0, 63, 56] : List Int) n2)) != (w64 (c2 * 4))))))] hF hS ?_ (fun a w hF hS => ?_)
        ·exact obs_cons (ob_load Agg3 (fun _ _ hS => (hS.at_ 0 rfl).cell rfl)) <| obs_cons (ob_shr (fun _ => hp2)) <| obs_cons (ob_load Agg27 (fun _ _ hS => (hS.at_ 0 rfl).cell rfl)) <| obs_cons (ob_ix1 (f := (Value.int .i64)) (m := ([4, 4, 60, 60] : List Int)) Und27 hi3 hs3 (hS.at_ 1 rfl).rd ((hS.at_ 1 rfl).len1) (fun hy => hp3 (hy (((bAnd (shrK .i64 p3 n2) 1) == 1), true) (by simp)))) <| obs_cons (ob_get1 (n := 4) (m := ([4, 4, 60, 60] : List Int)) (Value.int .i64) (0 : Int) Agg3 (fun _ hS => ⟨_, (hS.at_ 1 rfl).rd⟩) (fun _ hS => ((hS.at_ 1 rfl).len1)) (fun hy => hp3 (hy (((bAnd (shrK .i64 p3 n2) 1) == 1), true) (by simp)))) <| obs_cons (ob_ix1 (f := (Value.int .i64)) (m := p1) Und27 hi3 hs3 (hr_p1 _ (hS.dropN 3)) rfl (fun hy => hp4 (hy (((bAnd (shrK .i64 p3 n2) 1) == 1), true) (by simp)))) <| obs_cons (ob_get1 (n := p1.length) (m := p1) (Value.int .i64) (0 : Int) Agg3 (fun _ hS => ⟨_, (hr_p1 _ (hS.dropN 3))⟩) (fun _ hS => rfl) (fun hy => hp4 (hy (((bAnd (shrK .i64 p3 n2) 1) == 1), true) (by simp)))) <| obs_cons (ob_load Agg27 (fun _ _ hS => (hS.at_ 0 rfl).cell rfl)) <| obs_cons (ob_ix1 (f := (Value.int .i64)) (m := ([7, 0, 63, 56] : List Int)) Und27 hi3 hs3 (hS.at_ 2 rfl).rd ((hS.at_ 2 rfl).len1) (fun hy => hp5 (hy (((geti p1 (geti ([4, 4, 60, 60] : List Int) n2)) != (w64 (c2 * 6))), false) (by simp)) (hy (((bAnd (shrK .i64 p3 n2) 1) == 1), true) (by simp)))) <| obs_cons (ob_get1 (n := 4) (m := ([7, 0, 63, 56] : List Int)) (Value.int .i64) (0 : Int) Agg3 (fun _ hS => ⟨_, (hS.at_ 2 rfl).rd⟩) (fun _ hS => ((hS.at_ 2 rfl).len1)) (fun hy => hp5 (hy (((geti p1 (geti ([4, 4, 60, 60] : List Int) n2)) != (w64 (c2 * 6))), false) (by simp)) (hy (((bAnd (shrK .i64 p3 n2) 1) == 1), true) (by simp)))) <| obs_cons (ob_ix1 (f := (Value.int .i64)) (m := p1) Und27 hi3 hs3 (hr_p1 _ (hS.dropN 3)) rfl (fun hy => hp6 (hy (((geti p1 (geti ([4, 4, 60, 60] : List Int) n2)) != (w64 (c2 * 6))), false) (by simp)) (hy (((bAnd (shrK .i64 p3 n2) 1) == 1), true) (by simp)))) <| obs_cons (ob_get1 (n := p1.length) (m := p1) (Value.int .i64) (0 : Int) Agg3 (fun _ hS => ⟨_, (hr_p1 _ (hS.dropN 3))⟩) (fun _ hS => rfl) (fun hy => hp6 (hy (((geti p1 (geti ([4, 4, 60, 60] : List Int) n2)) != (w64 (c2 * 6))), false) (by simp)) (hy (((bAnd (shrK .i64 p3 n2) 1) == 1), true) (by simp)))) <| obs_nil
        refine ce (t := 126) (b := ((bAnd (shrK .i64 p3 n2) 1) == 1) && (((geti p1 (geti ([4, 4, 60, 60] : List Int) n2)) != (w64 (c2 * 6))) || ((geti p1 (geti ([7, 0, 63, 56] : List Int) n2)) != (w64 (c2 * 4))))) hF (fun hb => ?_) (fun hb => ?_)
        ·replace hm := if_t hm hb
         refine rg [] [] [2] [pl 2 (.bool false)] hF hS obs_nil (fun a w hF hS => ?_)
         refine wpIn_ret ?_
         refine block_r (then_r (then_r (block_r (then_r ?_))))
         rw [← hφ2] at hm
         replace hm := done_b hm
         unfold rf_ChessMay_K2 at hm
         try dsimp only at hm
         have hS := hS.pickN 3 [] (by decide)
         have hm : some false = some r := hm
         obtain rfl := Option.some.inj hm
         exact retV (rs := [.tmp 2]) (vs := [.bool false]) hF rfl rv1 rfl ⟨rfl, hS⟩
        ·replace hm := if_f hm hb
         refine wpIn_skip ?_
         refine block_n ?_
         refine then_n ?_
         exact ⟨hF.wk [1, 7, 8, 9], hS, hm⟩
       ·refine rg [] [] [1, 7, 8, 9, 10, 94] [pl 1 (pa g1 0), pl 7 (.slice g2 4 4), pl 8 (.slice g3 4 4), pl 9 (vi n2), pl 10 (vi 1), pl 94 (.bool (decide ((2 : Int) ≤ n2)))] hF hS obs_nil (fun a w hF hS => ?_)
        refine ce (t := 94) (b := decide ((2 : Int) ≤ n2)) hF (fun hb => ?_) (fun hb => ?_)
        ·replace hm := if_t hm hb
         refine rg1 [] [] [1, 7, 8, 9, 10] [pl 1 (pa g1 0), pl 7 (.slice g2 4 4), pl 8 (.slice g3 4 4), pl 9 (vi n2), pl 10 (vi (-1))] hF hS obs_nil (fun a w hF hS => ?_)
         refine then_n ?_
         exact ⟨(-1), hF.wk [1, 7, 8, 9, 10], hS, hm⟩
        ·replace hm := if_f hm hb
         refine wpIn_skip ?_
         refine then_n ?_
         exact ⟨1, hF.wk [1, 7, 8, 9, 10], hS, hm⟩
     ·refine rg [] [] [1, 7, 8, 9, 90] [pl 1 (pa g1 0), pl 7 (.slice g2 4 4), pl 8 (.slice g3 4 4), pl 9 (vi n2), pl 90 (.bool (decide (n2 < 4)))] hF hS obs_nil (fun a w hF hS => ?_)
      refine ce (t := 90) (b := decide (n2 < 4)) hF (fun hb => ?_) (fun hb => ?_)
      ·replace hm := if_t hm hb
       refine wpIn_skip ?_
       refine then_n ?_
       exact ⟨hF.wk [1, 7, 8, 9], hS, hm⟩
      ·replace hm := if_f hm hb
       refine wpIn_exit ?_
       refine then_e (then_e (block_e (then_n ?_)))
       have hS := hS.pickN 3 [0] (by decide)
       rw [← hφ2] at hm
       replace hm := done_b hm
       unfold rf_ChessMay_K2 at hm
       try dsimp only at hm
       have hm : ((rf_ChessMay_J8 p1 p2 p4)).bind some = some r := hm
       exact ⟨hF.wk [1], hS, hm⟩
   ·obtain ⟨r7, hr7, hm⟩ := call_b hm
    refine rg [⟨false, [((white2 != 1) || (black2 != 1), false)], vS (Instr.loadAt 27 (pa g1 0)), .slice A1 p1.length c1⟩, ⟨false, [((white2 != 1) || (black2 != 1), false)], vS (Instr.loadAt 3 (pa g1 1)), vi p2⟩, ⟨false, [((white2 != 1) || (black2 != 1), false)], callFunc 130 #[.slice A1 p1.length c1, vi (w64 (1 - p2))], .bool r7⟩] [none, none, none, none, none, none, none, none, some (.slice A1 p1.length c1), none, some (vi p2), none, some (.bool r7), none] [1, 86] [pl 1 (pa g1 0), pl 86 (.bool (((white2 != 1) || (black2 != 1)) || r7))] hF hS ?_ (fun a w hF hS => ?_)
    ·exact obs_cons (ob_load Agg27 (fun _ _ hS => (hS.at_ 0 rfl).cell rfl)) <| obs_cons (ob_load Agg3 (fun _ _ hS => (hS.at_ 0 rfl).cell rfl)) <| obs_cons (ob_call Try.func130 (by kernel_rfl) rfl (fun hy _ hS => rf_InCheck_w (ite_some hr7 (by rw [show ((white2 != 1) || (black2 != 1)) = false from hy ((white2 != 1) || (black2 != 1), false) (by simp)]; try rfl)) hS (fun _ hS => (hr_p1 _ (hS.dropN 1))) _hc_p1 rfl)) <| obs_nil
    refine ce (t := 86) (b := ((white2 != 1) || (black2 != 1)) || r7) hF (fun hb => ?_) (fun hb => ?_)
    ·replace hm := if_t hm hb
     refine rg [] [] [2] [pl 2 (.bool false)] hF hS obs_nil (fun a w hF hS => ?_)
     refine wpIn_ret ?_
     refine then_r ?_
     have hS := hS.pickN 1 [] (by decide)
     have hm : some false = some r := hm
     obtain rfl := Option.some.inj hm
     exact retV (rs := [.tmp 2]) (vs := [.bool false]) hF rfl rv1 rfl ⟨rfl, hS⟩
    ·replace hm := if_f hm hb
     refine wpIn_skip ?_
     refine then_n ?_
     exact ⟨hF.wk [1], hS, hm⟩
  ·refine rg [] [] [1, 3, 4, 5] [pl 1 (pa g1 0), pl 3 (vi 0), pl 4 (vi 0), pl 5 (vi 0)] hF hS obs_nil (fun a w hF hS => ?_)
   refine wpIn_block ?_
   refine wp_loop_model (S := MvT) (R := (Fl (Int × Int) Bool)) (rf_ChessMay_L1 p1) (fun x => ((rf_ChessMay_K1 p1 p2 p3 p4) x).bind some) r (fun (x : MvT) a w => Fr 190 [pl 1 (pa g1 0), pl 3 (vi x.1), pl 4 (vi x.2.1), pl 5 (vi x.2.2)] a ∧ Sep w0 B w (blk g1 75 (ca A1 p1.length c1 p2 p3 p4 p5 p6) :: fs)) (assoc_b hm) ⟨hF.wk [1, 3, 4, 5], hS⟩ ?_
   clear hF hS hm
   rintro nn1 ⟨white1, black1, i1⟩ a w ⟨hF, hS⟩ hm
   generalize hφ1 : stK (rf_ChessMay_L1 p1) nn1 (fun x => ((rf_ChessMay_K1 p1 p2 p3 p4) x).bind some) = φ1 at hm
   unfold rf_ChessMay_L1 at hm
   dsimp only at hF hS hm
   refine seq_cut (fun a w => Fr 190 [pl 1 (pa g1 0), pl 3 (vi white1), pl 4 (vi black1), pl 5 (vi i1)] a ∧ Sep w0 B w (blk g1 75 (ca A1 p1.length c1 p2 p3 p4 p5 p6) :: fs) ∧ ((rf_ChessMay_J3 p1 white1 black1 i1)).bind φ1 = some r) ?_ ?_
   ·rintro a w ⟨hF, hS, hm⟩
    unfold rf_ChessMay_J3 at hm
    refine seq_cut (fun a w => ∃ (white4 black3 : Int), Fr 190 [pl 1 (pa g1 0), pl 3 (vi white4), pl 4 (vi black3), pl 5 (vi i1)] a ∧ Sep w0 B w (blk g1 75 (ca A1 p1.length c1 p2 p3 p4 p5 p6) :: fs) ∧ ((rf_ChessMay_J4 i1) white4 black3).bind φ1 = some r) ?_ ?_
    ·rintro a w ⟨white4, black3, hF, hS, hm⟩
     unfold rf_ChessMay_J4 at hm
     refine rg1 [] [] [1, 3, 4, 5] [pl 1 (pa g1 0), pl 3 (vi white4), pl 4 (vi black3), pl 5 (vi (w64 (i1 + 1)))] hF hS obs_nil (fun a w hF hS => ?_)
     refine then_n ?_
     rw [← hφ1] at hm
     exact ⟨(white4, black3, (w64 (i1 + 1))), ⟨hF.wk [1, 3, 4, 5], hS⟩, hm⟩
    ·refine wpIn_block ?_
     obtain ⟨hp1, hm⟩ := asrt_b hm
     refine rg [⟨false, [], vS (Instr.loadAt 27 (pa g1 0)), .slice A1 p1.length c1⟩, ⟨true, [], vS (Instr.indexAt 27 (.slice A1 p1.length c1) (vi i1)), .pointer (some (sAddr A1 i1))⟩, ⟨false, [], vS (Instr.loadAt 3 (.pointer (some (sAddr A1 i1)))), vi (geti p1 i1)⟩] [none, some (.slice A1 p1.length c1), none, some (.pointer (some (sAddr A1 i1))), some (vi (geti p1 i1)), none] [1, 3, 4, 5, 6] [pl 1 (pa g1 0), pl 3 (vi white1), pl 4 (vi black1), pl 5 (vi i1), pl 6 (vi (geti p1 i1))] hF hS ?_ (fun a w hF hS => ?_)
     ·exact obs_cons (ob_load Agg27 (fun _ _ hS => (hS.at_ 0 rfl).cell rfl)) <| obs_cons (ob_ix1 (f := (Value.int .i64)) (m := p1) Und27 hi3 hs3 (hr_p1 _ (hS.dropN 1)) rfl (fun _ => hp1)) <| obs_cons (ob_get1 (n := p1.length) (m := p1) (Value.int .i64) (0 : Int) Agg3 (fun _ hS => ⟨_, (hr_p1 _ (hS.dropN 1))⟩) (fun _ hS => rfl) (fun _ => hp1)) <| obs_nil
     refine seq_cut (fun a w => Fr 190 [pl 1 (pa g1 0), pl 3 (vi white1), pl 4 (vi black1), pl 5 (vi i1), pl 6 (vi (geti p1 i1))] a ∧ Sep w0 B w (blk g1 75 (ca A1 p1.length c1 p2 p3 p4 p5 p6) :: fs) ∧ ((rf_ChessMay_J5 p1 white1 black1 i1)).bind φ1 = some r) ?_ ?_
     ·rintro a w ⟨hF, hS, hm⟩
      unfold rf_ChessMay_J5 at hm
      refine seq_cut (fun a w => ∃ (white3 : Int), Fr 190 [pl 1 (pa g1 0), pl 3 (vi white3), pl 4 (vi black1), pl 5 (vi i1), pl 6 (vi (geti p1 i1))] a ∧ Sep w0 B w (blk g1 75 (ca A1 p1.length c1 p2 p3 p4 p5 p6) :: fs) ∧ ((rf_ChessMay_J6 p1 black1 i1) white3).bind φ1 = some r) ?_ ?_
      ·rintro a w ⟨white3, hF, hS, hm⟩
       unfold rf_ChessMay_J6 at hm
       refine rg [] [] [1, 3, 4, 5, 70] [pl 1 (pa g1 0), pl 3 (vi white3), pl 4 (vi black1), pl 5 (vi i1), pl 70 (.bool ((geti p1 i1) == (-6)))] hF hS obs_nil (fun a w hF hS => ?_)
       refine ce (t := 70) (b := ((geti p1 i1) == (-6))) hF (fun hb => ?_) (fun hb => ?_)
       ·replace hm := if_t hm hb
        refine rg1 [] [] [1, 3, 4, 5] [pl 1 (pa g1 0), pl 3 (vi white3), pl 4 (vi (w64 (black1 + 1))), pl 5 (vi i1)] hF hS obs_nil (fun a w hF hS => ?_)
        refine block_n ?_
        refine then_n ?_
        exact ⟨white3, (w64 (black1 + 1)), hF.wk [1, 3, 4, 5], hS, hm⟩
       ·replace hm := if_f hm hb
        refine wpIn_skip ?_
        refine block_n ?_
        refine then_n ?_
        exact ⟨white3, black1, hF.wk [1, 3, 4, 5], hS, hm⟩
      ·refine rg [] [] [1, 3, 4, 5, 6, 66] [pl 1 (pa g1 0), pl 3 (vi white1), pl 4 (vi black1), pl 5 (vi i1), pl 6 (vi (geti p1 i1)), pl 66 (.bool ((geti p1 i1) == 6))] hF hS obs_nil (fun a w hF hS => ?_)
       refine ce (t := 66) (b := ((geti p1 i1) == 6)) hF (fun hb => ?_) (fun hb => ?_)
       ·replace hm := if_t hm hb
        refine rg1 [] [] [1, 3, 4, 5, 6] [pl 1 (pa g1 0), pl 3 (vi (w64 (white1 + 1))), pl 4 (vi black1), pl 5 (vi i1), pl 6 (vi (geti p1 i1))] hF hS obs_nil (fun a w hF hS => ?_)
        refine then_n ?_
        exact ⟨(w64 (white1 + 1)), hF.wk [1, 3, 4, 5, 6], hS, hm⟩
       ·replace hm := if_f hm hb
        refine wpIn_skip ?_
        refine then_n ?_
        exact ⟨white1, hF.wk [1, 3, 4, 5, 6], hS, hm⟩
     ·obtain ⟨r5, hr5, hm⟩ := call_b hm
      obtain ⟨r6, hr6, hm⟩ := call_b hm
      refine rg [⟨false, [], callFunc 74 #[vi (geti p1 i1), vi (-6), vi 6], .bool r5⟩, ⟨false, [(!r5, false)], callFunc 129 #[vi (geti p1 i1)], vi r6⟩] [none, some (.bool r5), none, none, none, some (vi r6), none, none, none, none, none, none, none, none, none, none] [1, 3, 4, 5, 6, 64] [pl 1 (pa g1 0), pl 3 (vi white1), pl 4 (vi black1), pl 5 (vi i1), pl 6 (vi (geti p1 i1)), pl 64 (.bool ((!r5) || ((r6 == 1) && ((decide (i1 < 8)) || (decide ((55 : Int) < i1))))))] hF hS ?_ (fun a w hF hS => ?_)
      ·exact obs_cons (ob_call Try.func74 (by kernel_rfl) rfl (fun _ _ hS => rf_within_w hr5 hS )) <| obs_cons (ob_call Try.func129 (by kernel_rfl) rfl (fun hy _ hS => rf_size_w (ite_some hr6 (by rw [show (!r5) = false from hy (!r5, false) (by simp)]; try rfl)) hS )) <| obs_nil
      refine ce (t := 64) (b := (!r5) || ((r6 == 1) && ((decide (i1 < 8)) || (decide ((55 : Int) < i1))))) hF (fun hb => ?_) (fun hb => ?_)
      ·replace hm := if_t hm hb
       refine rg [] [] [2] [pl 2 (.bool false)] hF hS obs_nil (fun a w hF hS => ?_)
       refine wpIn_ret ?_
       refine then_r (block_r (then_r (then_r (block_r (then_r ?_)))))
       rw [← hφ1] at hm
       replace hm := done_b hm
       unfold rf_ChessMay_K1 at hm
       try dsimp only at hm
       have hS := hS.pickN 1 [] (by decide)
       have hm : some false = some r := hm
       obtain rfl := Option.some.inj hm
       exact retV (rs := [.tmp 2]) (vs := [.bool false]) hF rfl rv1 rfl ⟨rfl, hS⟩
      ·replace hm := if_f hm hb
       refine wpIn_skip ?_
       refine then_n ?_
       exact ⟨hF.wk [1, 3, 4, 5, 6], hS, hm⟩
   ·refine rg [] [] [1, 3, 4, 5, 41] [pl 1 (pa g1 0), pl 3 (vi white1), pl 4 (vi black1), pl 5 (vi i1), pl 41 (.bool (decide (i1 < 64)))] hF hS obs_nil (fun a w hF hS => ?_)
    refine ce (t := 41) (b := decide (i1 < 64)) hF (fun hb => ?_) (fun hb => ?_)
    ·replace hm := if_t hm hb
     refine wpIn_skip ?_
     refine then_n ?_
     exact ⟨hF.wk [1, 3, 4, 5], hS, hm⟩
    ·replace hm := if_f hm hb
     refine wpIn_exit ?_
     refine then_e (then_e (block_e (then_n ?_)))
     rw [← hφ1] at hm
     replace hm := done_b hm
     unfold rf_ChessMay_K1 at hm
     try dsimp only at hm
     have hm : ((rf_ChessMay_J2 p1 p2 p3 p4) white1 black1).bind some = some r := hm
     exact ⟨white1, black1, hF.wk [1, 3, 4], hS, hm⟩
 ·obtain ⟨r1, hr1, hm⟩ := call_b hm
  obtain ⟨r2, hr2, hm⟩ := call_b hm
  obtain ⟨r3, hr3, hm⟩ := call_b hm
  obtain ⟨r4, hr4, hm⟩ := call_b hm
  refine rg [⟨false, [], vS (Instr.loadAt 27 (pa g1 0)), .slice A1 p1.length c1⟩, ⟨false, [(((p1.length : Int) != 64), false)], vS (Instr.loadAt 3 (pa g1 1)), vi p2⟩, ⟨false, [(((p1.length : Int) != 64), false)], callFunc 74 #[vi p2, vi 0, vi 1], .bool r1⟩, ⟨false, [(((p1.length : Int) != 64) || (!r1), false)], vS (Instr.loadAt 3 (pa g1 2)), vi p3⟩, ⟨false, [(((p1.length : Int) != 64) || (!r1), false)], callFunc 74 #[vi p3, vi 0, vi 15], .bool r2⟩, ⟨false, [((((p1.length : Int) != 64) || (!r1)) || (!r2), false)], vS (Instr.loadAt 3 (pa g1 4)), vi p5⟩, ⟨false, [((((p1.length : Int) != 64) || (!r1)) || (!r2), false)], callFunc 74 #[vi p5, vi 0, vi 999], .bool r3⟩, ⟨false, [(((((p1.length : Int) != 64) || (!r1)) || (!r2)) || (!r3), false)], vS (Instr.loadAt 3 (pa g1 5)), vi p6⟩, ⟨false, [(((((p1.length : Int) != 64) || (!r1)) || (!r2)) || (!r3), false)], callFunc 74 #[vi p6, vi 1, vi 999], .bool r4⟩] [none, some (.slice A1 p1.length c1), none, none, none, none, some (vi p2), some (.bool r1), none, none, none, none, some (vi p3), some (.bool r2), none, none, none, none, some (vi p5), some (.bool r3), none, none, none, none, some (vi p6), some (.bool r4), none, none] [1, 39] [pl 1 (pa g1 0), pl 39 (.bool ((((((p1.length : Int) != 64) || (!r1)) || (!r2)) || (!r3)) || (!r4)))] hF hS ?_ (fun a w hF hS => ?_)
  ·exact obs_cons (ob_load Agg27 (fun _ _ hS => (hS.at_ 0 rfl).cell rfl)) <| obs_cons (ob_load Agg3 (fun _ _ hS => (hS.at_ 0 rfl).cell rfl)) <| obs_cons (ob_call Try.func74 (by kernel_rfl) rfl (fun hy _ hS => rf_within_w (ite_some hr1 (by rw [show ((p1.length : Int) != 64) = false from hy (((p1.length : Int) != 64), false) (by simp)]; try rfl)) hS )) <| obs_cons (ob_load Agg3 (fun _ _ hS => (hS.at_ 0 rfl).cell rfl)) <| obs_cons (ob_call Try.func74 (by kernel_rfl) rfl (fun hy _ hS => rf_within_w (ite_some hr2 (by rw [show (((p1.length : Int) != 64) || (!r1)) = false from hy (((p1.length : Int) != 64) || (!r1), false) (by simp)]; try rfl)) hS )) <| obs_cons (ob_load Agg3 (fun _ _ hS => (hS.at_ 0 rfl).cell rfl)) <| obs_cons (ob_call Try.func74 (by kernel_rfl) rfl (fun hy _ hS => rf_within_w (ite_some hr3 (by rw [show ((((p1.length : Int) != 64) || (!r1)) || (!r2)) = false from hy ((((p1.length : Int) != 64) || (!r1)) || (!r2), false) (by simp)]; try rfl)) hS )) <| obs_cons (ob_load Agg3 (fun _ _ hS => (hS.at_ 0 rfl).cell rfl)) <| obs_cons (ob_call Try.func74 (by kernel_rfl) rfl (fun hy _ hS => rf_within_w (ite_some hr4 (by rw [show (((((p1.length : Int) != 64) || (!r1)) || (!r2)) || (!r3)) = false from hy (((((p1.length : Int) != 64) || (!r1)) || (!r2)) || (!r3), false) (by simp)]; try rfl)) hS )) <| obs_nil
  refine ce (t := 39) (b := (((((p1.length : Int) != 64) || (!r1)) || (!r2)) || (!r3)) || (!r4)) hF (fun hb => ?_) (fun hb => ?_)
  ·replace hm := if_t hm hb
   refine rg [] [] [2] [pl 2 (.bool false)] hF hS obs_nil (fun a w hF hS => ?_)
   refine wpIn_ret ?_
   refine then_r ?_
   have hS := hS.pickN 1 [] (by decide)
   have hm : some false = some r := hm
   obtain rfl := Option.some.inj hm
   exact retV (rs := [.tmp 2]) (vs := [.bool false]) hF rfl rv1 rfl ⟨rfl, hS⟩
  ·replace hm := if_f hm hb
   refine wpIn_skip ?_
   refine then_n ?_
   exact ⟨hF.wk [1], hS, hm⟩

def rf_SideSign_m  (side1 : Int) : Option Int :=
 some (w64 (1 - (w64 (2 * side1))))

theorem rf_SideSign_w {side1 r : Int} {w0 w : World} {B : Nat} {fs : List HP} (hm : rf_SideSign_m side1 = some r) (hS : Sep w0 B w (fs)) :
  Calls Try.prog 142 #[vi side1] w fun e w' => e = .returned (vi r) ∧ Sep w0 B w' (fs) := by
 unfold rf_SideSign_m at hm
 replace hm := start_b hm
 refine enter (l := [vi side1]) (n := 6) Try.func142 rfl rfl (by simp) (fun a hF => ?_)
 refine rg [] [] [0] [pl 0 (vi side1)] hF hS obs_nil (fun a w hF hS => ?_)
 refine rg [] [] [2] [pl 2 (vi (w64 (1 - (w64 (2 * side1)))))] hF hS obs_nil (fun a w hF hS => ?_)
 refine wpIn_ret ?_
 have hm : some (w64 (1 - (w64 (2 * side1)))) = some r := hm
 obtain rfl := Option.some.inj hm
 exact retV (rs := [.tmp 2]) (vs := [vi (w64 (1 - (w64 (2 * side1))))]) hF rfl rv1 rfl ⟨rfl, hS⟩

def rf_mayGo_J5  (p1 : List Int) (from1 to1 : Int) (r1 first1 : Int) : Option Bool :=
 asrt ((((w64 (Int.tdiv from1 8)) == first1) && (to1 == (w64 (from1 + (w64 (16 * r1)))))) = true → 0 ≤ to1 ∧ to1 < (p1.length : Int)) <| asrt (((((w64 (Int.tdiv from1 8)) == first1) && (to1 == (w64 (from1 + (w64 (16 * r1)))))) && ((geti p1 to1) == 0)) = true → 0 ≤ (w64 (from1 + (w64 (8 * r1)))) ∧ (w64 (from1 + (w64 (8 * r1)))) < (p1.length : Int)) <| some (((((w64 (Int.tdiv from1 8)) == first1) && (to1 == (w64 (from1 + (w64 (16 * r1)))))) && ((geti p1 to1) == 0)) && ((geti p1 (w64 (from1 + (w64 (8 * r1))))) == 0))

def rf_mayGo_J4  (p1 : List Int) (from1 to1 r1 : Int) : Option Bool :=
 if (decide (r1 < 0)) then ((rf_mayGo_J5 p1 from1 to1 r1) 6) else ((rf_mayGo_J5 p1 from1 to1 r1) 1)

def rf_mayGo_J3  (p1 : List Int) (from1 to1 r1 : Int) : Option Bool :=
 if (to1 == (w64 (from1 + (w64 (8 * r1))))) then (asrt (0 ≤ to1 ∧ to1 < (p1.length : Int)) <| some ((geti p1 to1) == 0)) else ((rf_mayGo_J4 p1 from1 to1 r1))

def rf_mayGo_J2  (p1 : List Int) (p4 from1 : Int) (to1 r1 : Int) : Option Bool :=
 (rf_Attacks_m p1 from1 to1).bind fun r3 => if r3 then (asrt (0 ≤ to1 ∧ to1 < (p1.length : Int)) <| some (((geti p1 to1) != 0) || (to1 == p4))) else ((rf_mayGo_J3 p1 from1 to1 r1))

def rf_mayGo_J1  (p1 : List Int) (p4 from1 : Int) (to1 r1 : Int) : Option Bool :=
 if ((w64 ((geti p1 from1) * r1)) != 1) then ((rf_Attacks_m p1 from1 to1).bind fun r2 => some r2) else ((rf_mayGo_J2 p1 p4 from1 to1 r1))

def rf_mayGo_m  (p1 : List Int) (p2 p3 : Int) (p4 p5 : Int) (p6 from1 to1 : Int) : Option Bool :=
 (rf_SideSign_m p2).bind fun r1 => asrt (0 ≤ from1 ∧ from1 < (p1.length : Int)) <| asrt ((decide ((w64 ((geti p1 from1) * r1)) ≤ 0)) = false → 0 ≤ to1 ∧ to1 < (p1.length : Int)) <| if ((decide ((w64 ((geti p1 from1) * r1)) ≤ 0)) || (decide ((0 : Int) < (w64 ((geti p1 to1) * r1))))) then (some false) else ((rf_mayGo_J1 p1 p4 from1 to1 r1))

theorem rf_mayGo_w {A1 : Option Addr} {c1 n1 : Nat} {p1 : List Int} {p2 p3 : Int} {p4 p5 : Int} {p6 from1 to1 : Int} {r : Bool} {w0 w : World} {B : Nat} {fs : List HP} (hm : rf_mayGo_m p1 p2 p3 p4 p5 p6 from1 to1 = some r) (hS : Sep w0 B w (fs)) (hr_p1 : RdF w0 B fs A1 (vI p1)) (_hc_p1 : p1.length ≤ c1) (_hn_p1 : n1 = p1.length) :
  Calls Try.prog 139 #[.agg (ca A1 n1 c1 p2 p3 p4 p5 p6), vi from1, vi to1] w fun e w' => e = .returned (.bool r) ∧ Sep w0 B w' (fs) := by
 obtain ⟨i3, hi3, hz3, hs3, hb3⟩ := info_parts Info3
 obtain rfl := _hn_p1
 unfold rf_mayGo_m at hm
 replace hm := start_b hm
 refine enter (l := [.agg (ca A1 p1.length c1 p2 p3 p4 p5 p6), vi from1, vi to1]) (n := 101) Try.func139 rfl rfl (by simp) (fun a hF => ?_)
 refine seqR ?_
 refine at_do (d := 3) (s := vS (Instr.box 75 (.agg (ca A1 p1.length c1 p2 p3 p4 p5 p6)))) (v := pa w.heap.size 0) (w' := w.alloc (.cells (ca A1 p1.length c1 p2 p3 p4 p5 p6) 75)) hF (by kernel_rfl) (by kernel_rfl) (by kernel_rfl) (fun a hF => ?_)
 have hS : Sep w0 B (w.alloc (.cells (ca A1 p1.length c1 p2 p3 p4 p5 p6) 75)) (blk w.heap.size 75 (ca A1 p1.length c1 p2 p3 p4 p5 p6) :: (fs)) := hS.box 75 (ca A1 p1.length c1 p2 p3 p4 p5 p6)
 generalize w.heap.size = g1 at hF hS
 generalize w.alloc (.cells (ca A1 p1.length c1 p2 p3 p4 p5 p6) 75) = w at hS ⊢
 refine ar 1 [] [] [1, 2, 3] [pl 1 (vi from1), pl 2 (vi to1), pl 3 (pa g1 0)] hF hS obs_nil (fun a w hF hS => ?_)
 refine ae [1, 2, 3] [pl 1 (vi from1), pl 2 (vi to1), pl 3 (pa g1 0)] hF rfl (fun hF => ?_)
 refine then_n ?_
 obtain ⟨r1, hr1, hm⟩ := call_b hm
 refine rg [⟨false, [], vS (Instr.loadAt 3 (pa g1 1)), vi p2⟩, ⟨false, [], callFunc 142 #[vi p2], vi r1⟩] [none, some (vi p2), some (vi r1), none] [1, 2, 3, 7] [pl 1 (vi from1), pl 2 (vi to1), pl 3 (pa g1 0), pl 7 (vi r1)] hF hS ?_ (fun a w hF hS => ?_)
 ·exact obs_cons (ob_load Agg3 (fun _ _ hS => (hS.at_ 0 rfl).cell rfl)) <| obs_cons (ob_call Try.func142 (by kernel_rfl) rfl (fun _ _ hS => rf_SideSign_w hr1 hS )) <| obs_nil
 obtain ⟨hp1, hm⟩ := asrt_b hm
 refine rg [⟨false, [], vS (Instr.loadAt 27 (pa g1 0)), .slice A1 p1.length c1⟩, ⟨true, [], vS (Instr.indexAt 27 (.slice A1 p1.length c1) (vi from1)), .pointer (some (sAddr A1 from1))⟩, ⟨false, [], vS (Instr.loadAt 3 (.pointer (some (sAddr A1 from1)))), vi (geti p1 from1)⟩] [none, some (.slice A1 p1.length c1), none, some (.pointer (some (sAddr A1 from1))), some (vi (geti p1 from1)), none, none, none] [1, 2, 3, 7, 8] [pl 1 (vi from1), pl 2 (vi to1), pl 3 (pa g1 0), pl 7 (vi r1), pl 8 (vi (w64 ((geti p1 from1) * r1)))] hF hS ?_ (fun a w hF hS => ?_)
 ·exact obs_cons (ob_load Agg27 (fun _ _ hS => (hS.at_ 0 rfl).cell rfl)) <| obs_cons (ob_ix1 (f := (Value.int .i64)) (m := p1) Und27 hi3 hs3 (hr_p1 _ (hS.dropN 1)) rfl (fun _ => hp1)) <| obs_cons (ob_get1 (n := p1.length) (m := p1) (Value.int .i64) (0 : Int) Agg3 (fun _ hS => ⟨_, (hr_p1 _ (hS.dropN 1))⟩) (fun _ hS => rfl) (fun _ => hp1)) <| obs_nil
 refine seq_cut (fun a w => Fr 101 [pl 1 (vi from1), pl 2 (vi to1), pl 3 (pa g1 0), pl 7 (vi r1), pl 8 (vi (w64 ((geti p1 from1) * r1)))] a ∧ Sep w0 B w (blk g1 75 (ca A1 p1.length c1 p2 p3 p4 p5 p6) :: fs) ∧ ((rf_mayGo_J1 p1 p4 from1 to1 r1)).bind some = some r) ?_ ?_
 ·rintro a w ⟨hF, hS, hm⟩
  unfold rf_mayGo_J1 at hm
  refine seq_cut (fun a w => Fr 101 [pl 1 (vi from1), pl 2 (vi to1), pl 3 (pa g1 0), pl 7 (vi r1)] a ∧ Sep w0 B w (blk g1 75 (ca A1 p1.length c1 p2 p3 p4 p5 p6) :: fs) ∧ ((rf_mayGo_J2 p1 p4 from1 to1 r1)).bind some = some r) ?_ ?_
  ·rintro a w ⟨hF, hS, hm⟩
   unfold rf_mayGo_J2 at hm
   refine seq_cut (fun a w => Fr 101 [pl 1 (vi from1), pl 2 (vi to1), pl 3 (pa g1 0), pl 7 (vi r1)] a ∧ Sep w0 B w (blk g1 75 (ca A1 p1.length c1 p2 p3 p4 p5 p6) :: fs) ∧ ((rf_mayGo_J3 p1 from1 to1 r1)).bind some = some r) ?_ ?_
   ·rintro a w ⟨hF, hS, hm⟩
    unfold rf_mayGo_J3 at hm
    refine seq_cut (fun a w => Fr 101 [pl 1 (vi from1), pl 2 (vi to1), pl 3 (pa g1 0), pl 7 (vi r1)] a ∧ Sep w0 B w (blk g1 75 (ca A1 p1.length c1 p2 p3 p4 p5 p6) :: fs) ∧ ((rf_mayGo_J4 p1 from1 to1 r1)).bind some = some r) ?_ ?_
    ·rintro a w ⟨hF, hS, hm⟩
     unfold rf_mayGo_J4 at hm
     refine rg [] [] [1, 2, 3, 7, 9] [pl 1 (vi from1), pl 2 (vi to1), pl 3 (pa g1 0), pl 7 (vi r1), pl 9 (vi 1)] hF hS obs_nil (fun a w hF hS => ?_)
     refine seq_cut (fun a w => ∃ (first1 : Int), Fr 101 [pl 1 (vi from1), pl 2 (vi to1), pl 3 (pa g1 0), pl 7 (vi r1), pl 9 (vi first1)] a ∧ Sep w0 B w (blk g1 75 (ca A1 p1.length c1 p2 p3 p4 p5 p6) :: fs) ∧ ((rf_mayGo_J5 p1 from1 to1 r1) first1).bind some = some r) ?_ ?_
     ·rintro a w ⟨first1, hF, hS, hm⟩
      unfold rf_mayGo_J5 at hm
      obtain ⟨hp5, hm⟩ := asrt_b hm
      obtain ⟨hp6, hm⟩ := asrt_b hm
      refine rg [⟨false, [(((w64 (Int.tdiv from1 8)) == first1) && (to1 == (w64 (from1 + (w64 (16 * r1))))), true)], vS (Instr.loadAt 27 (pa g1 0)), .slice A1 p1.length c1⟩, ⟨true, [(((w64 (Int.tdiv from1 8)) == first1) && (to1 == (w64 (from1 + (w64 (16 * r1))))), true)], vS (Instr.indexAt 27 (.slice A1 p1.length c1) (vi to1)), .pointer (some (sAddr A1 to1))⟩, ⟨false, [(((w64 (Int.tdiv from1 8)) == first1) && (to1 == (w64 (from1 + (w64 (16 * r1))))), true)], vS (Instr.loadAt 3 (.pointer (some (sAddr A1 to1)))), vi (geti p1 to1)⟩, ⟨false, [((((w64 (Int.tdiv from1 8)) == first1) && (to1 == (w64 (from1 + (w64 (16 * r1)))))) && ((geti p1 to1) == 0), true)], vS (Instr.loadAt 27 (pa g1 0)), .slice A1 p1.length c1⟩, ⟨true, [((((w64 (Int.tdiv from1 8)) == first1) && (to1 == (w64 (from1 + (w64 (16 * r1)))))) && ((geti p1 to1) == 0), true)], vS (Instr.indexAt 27 (.slice A1 p1.length c1) (vi (w64 (from1 + (w64 (8 * r1)))))), .pointer (some (sAddr A1 (w64 (from1 + (w64 (8 * r1))))))⟩, ⟨false, [((((w64 (Int.tdiv from1 8)) == first1) && (to1 == (w64 (from1 + (w64 (16 * r1)))))) && ((geti p1 to1) == 0), true)], vS (Instr.loadAt 3 (.pointer (some (sAddr A1 (w64 (from1 + (w64 (8 * r1)))))))), vi (geti p1 (w64 (from1 + (w64 (8 * r1)))))⟩] [none, none, none, none, none, none, none, none, none, none, none, none, none, none, some (.slice A1 p1.length c1), none, some (.pointer (some (sAddr A1 to1))), some (vi (geti p1 to1)), none, none, none, none, some (.slice A1 p1.length c1), none, none, none, none, some (.pointer (some (sAddr A1 (w64 (from1 + (w64 (8 * r1))))))), some (vi (geti p1 (w64 (from1 + (w64 (8 * r1)))))), none, none, none] [6] [pl 6 (.bool (((((w64 (Int.tdiv from1 8)) == first1) && (to1 == (w64 (from1 + (w64 (16 * r1)))))) && ((geti p1 to1) == 0)) && ((geti p1 (w64 (from1 + (w64 (8 * r1))))) == 0)))] hF hS ?_ (fun a w hF hS => ?_)
      ·exact obs_cons (ob_load Agg27 (fun _ _ hS => (hS.at_ 0 rfl).cell rfl)) <| obs_cons (ob_ix1 (f := (Value.int .i64)) (m := p1) Und27 hi3 hs3 (hr_p1 _ (hS.dropN 1)) rfl (fun hy => hp5 (hy (((w64 (Int.tdiv from1 8)) == first1) && (to1 == (w64 (from1 + (w64 (16 * r1))))), true) (by simp)))) <| obs_cons (ob_get1 (n := p1.length) (m := p1) (Value.int .i64) (0 : Int) Agg3 (fun _ hS => ⟨_, (hr_p1 _ (hS.dropN 1))⟩) (fun _ hS => rfl) (fun hy => hp5 (hy (((w64 (Int.tdiv from1 8)) == first1) && (to1 == (w64 (from1 + (w64 (16 * r1))))), true) (by simp)))) <| obs_cons (ob_load Agg27 (fun _ _ hS => (hS.at_ 0 rfl).cell rfl)) <| obs_cons (ob_ix1 (f := (Value.int .i64)) (m := p1) Und27 hi3 hs3 (hr_p1 _ (hS.dropN 1)) rfl (fun hy => hp6 (hy ((((w64 (Int.tdiv from1 8)) == first1) && (to1 == (w64 (from1 + (w64 (16 * r1)))))) && ((geti p1 to1) == 0), true) (by simp)))) <| obs_cons (ob_get1 (n := p1.length) (m := p1) (Value.int .i64) (0 : Int) Agg3 (fun _ hS => ⟨_, (hr_p1 _ (hS.dropN 1))⟩) (fun _ hS => rfl) (fun hy => hp6 (hy ((((w64 (Int.tdiv from1 8)) == first1) && (to1 == (w64 (from1 + (w64 (16 * r1)))))) && ((geti p1 to1) == 0), true) (by simp)))) <| obs_nil
      refine wpIn_ret ?_
      have hS := hS.pickN 1 [] (by decide)
      have hm : some (((((w64 (Int.tdiv from1 8)) == first1) && (to1 == (w64 (from1 + (w64 (16 * r1)))))) && ((geti p1 to1) == 0)) && ((geti p1 (w64 (from1 + (w64 (8 * r1))))) == 0)) = some r := hm
      obtain rfl := Option.some.inj hm
      exact retV (rs := [.tmp 6]) (vs := [.bool (((((w64 (Int.tdiv from1 8)) == first1) && (to1 == (w64 (from1 + (w64 (16 * r1)))))) && ((geti p1 to1) == 0)) && ((geti p1 (w64 (from1 + (w64 (8 * r1))))) == 0))]) hF rfl rv1 rfl ⟨rfl, hS⟩
     ·refine rg [] [] [1, 2, 3, 7, 9, 69] [pl 1 (vi from1), pl 2 (vi to1), pl 3 (pa g1 0), pl 7 (vi r1), pl 9 (vi 1), pl 69 (.bool (decide (r1 < 0)))] hF hS obs_nil (fun a w hF hS => ?_)
      refine ce (t := 69) (b := decide (r1 < 0)) hF (fun hb => ?_) (fun hb => ?_)
      ·replace hm := if_t hm hb
       refine rg1 [] [] [1, 2, 3, 7, 9] [pl 1 (vi from1), pl 2 (vi to1), pl 3 (pa g1 0), pl 7 (vi r1), pl 9 (vi 6)] hF hS obs_nil (fun a w hF hS => ?_)
       refine then_n ?_
       exact ⟨6, hF.wk [1, 2, 3, 7, 9], hS, hm⟩
      ·replace hm := if_f hm hb
       refine wpIn_skip ?_
       refine then_n ?_
       exact ⟨1, hF.wk [1, 2, 3, 7, 9], hS, hm⟩
    ·refine rg [] [] [1, 2, 3, 7, 61] [pl 1 (vi from1), pl 2 (vi to1), pl 3 (pa g1 0), pl 7 (vi r1), pl 61 (.bool (to1 == (w64 (from1 + (w64 (8 * r1))))))] hF hS obs_nil (fun a w hF hS => ?_)
     refine ce (t := 61) (b := (to1 == (w64 (from1 + (w64 (8 * r1)))))) hF (fun hb => ?_) (fun hb => ?_)
     ·replace hm := if_t hm hb
      obtain ⟨hp4, hm⟩ := asrt_b hm
      refine rg [⟨false, [], vS (Instr.loadAt 27 (pa g1 0)), .slice A1 p1.length c1⟩, ⟨true, [], vS (Instr.indexAt 27 (.slice A1 p1.length c1) (vi to1)), .pointer (some (sAddr A1 to1))⟩, ⟨false, [], vS (Instr.loadAt 3 (.pointer (some (sAddr A1 to1)))), vi (geti p1 to1)⟩] [none, some (.slice A1 p1.length c1), none, some (.pointer (some (sAddr A1 to1))), some (vi (geti p1 to1)), none, none] [6] [pl 6 (.bool ((geti p1 to1) == 0))] hF hS ?_ (fun a w hF hS => ?_)
      ·exact obs_cons (ob_load Agg27 (fun _ _ hS => (hS.at_ 0 rfl).cell rfl)) <| obs_cons (ob_ix1 (f := (Value.int .i64)) (m := p1) Und27 hi3 hs3 (hr_p1 _ (hS.dropN 1)) rfl (fun _ => hp4)) <| obs_cons (ob_get1 (n := p1.length) (m := p1) (Value.int .i64) (0 : Int) Agg3 (fun _ hS => ⟨_, (hr_p1 _ (hS.dropN 1))⟩) (fun _ hS => rfl) (fun _ => hp4)) <| obs_nil
      refine wpIn_ret ?_
      refine then_r ?_
      have hS := hS.pickN 1 [] (by decide)
      have hm : some ((geti p1 to1) == 0) = some r := hm
      obtain rfl := Option.some.inj hm
      exact retV (rs := [.tmp 6]) (vs := [.bool ((geti p1 to1) == 0)]) hF rfl rv1 rfl ⟨rfl, hS⟩
     ·replace hm := if_f hm hb
      refine wpIn_skip ?_
      refine then_n ?_
      exact ⟨hF.wk [1, 2, 3, 7], hS, hm⟩
   ·obtain ⟨r3, hr3, hm⟩ := call_b hm
    refine rg [⟨false, [], vS (Instr.loadAt 27 (pa g1 0)), .slice A1 p1.length c1⟩, ⟨false, [], callFunc 207 #[.slice A1 p1.length c1, vi from1, vi to1], .bool r3⟩] [none, some (.slice A1 p1.length c1), none, none, some (.bool r3)] [1, 2, 3, 7, 43] [pl 1 (vi from1), pl 2 (vi to1), pl 3 (pa g1 0), pl 7 (vi r1), pl 43 (.bool r3)] hF hS ?_ (fun a w hF hS => ?_)
    ·exact obs_cons (ob_load Agg27 (fun _ _ hS => (hS.at_ 0 rfl).cell rfl)) <| obs_cons (ob_call Try.func207 (by kernel_rfl) rfl (fun _ _ hS => rf_Attacks_w hr3 hS (fun _ hS => (hr_p1 _ (hS.dropN 1))) _hc_p1 rfl)) <| obs_nil
    refine ce (t := 43) (b := r3) hF (fun hb => ?_) (fun hb => ?_)
    ·replace hm := if_t hm hb
     obtain ⟨hp3, hm⟩ := asrt_b hm
     refine rg [⟨false, [], vS (Instr.loadAt 27 (pa g1 0)), .slice A1 p1.length c1⟩, ⟨true, [], vS (Instr.indexAt 27 (.slice A1 p1.length c1) (vi to1)), .pointer (some (sAddr A1 to1))⟩, ⟨false, [], vS (Instr.loadAt 3 (.pointer (some (sAddr A1 to1)))), vi (geti p1 to1)⟩, ⟨false, [(((geti p1 to1) != 0), false)], vS (Instr.loadAt 3 (pa g1 3)), vi p4⟩] [none, some (.slice A1 p1.length c1), none, some (.pointer (some (sAddr A1 to1))), some (vi (geti p1 to1)), none, none, none, none, some (vi p4), none, none, none] [6] [pl 6 (.bool (((geti p1 to1) != 0) || (to1 == p4)))] hF hS ?_ (fun a w hF hS => ?_)
     ·exact obs_cons (ob_load Agg27 (fun _ _ hS => (hS.at_ 0 rfl).cell rfl)) <| obs_cons (ob_ix1 (f := (Value.int .i64)) (m := p1) Und27 hi3 hs3 (hr_p1 _ (hS.dropN 1)) rfl (fun _ => hp3)) <| obs_cons (ob_get1 (n := p1.length) (m := p1) (Value.int .i64) (0 : Int) Agg3 (fun _ hS => ⟨_, (hr_p1 _ (hS.dropN 1))⟩) (fun _ hS => rfl) (fun _ => hp3)) <| obs_cons (ob_load Agg3 (fun _ _ hS => (hS.at_ 0 rfl).cell rfl)) <| obs_nil
     refine wpIn_ret ?_
     refine then_r ?_
     have hS := hS.pickN 1 [] (by decide)
     have hm : some (((geti p1 to1) != 0) || (to1 == p4)) = some r := hm
     obtain rfl := Option.some.inj hm
     exact retV (rs := [.tmp 6]) (vs := [.bool (((geti p1 to1) != 0) || (to1 == p4))]) hF rfl rv1 rfl ⟨rfl, hS⟩
    ·replace hm := if_f hm hb
     refine wpIn_skip ?_
     refine then_n ?_
     exact ⟨hF.wk [1, 2, 3, 7], hS, hm⟩
  ·refine rg [] [] [1, 2, 3, 7, 33] [pl 1 (vi from1), pl 2 (vi to1), pl 3 (pa g1 0), pl 7 (vi r1), pl 33 (.bool ((w64 ((geti p1 from1) * r1)) != 1))] hF hS obs_nil (fun a w hF hS => ?_)
   refine ce (t := 33) (b := ((w64 ((geti p1 from1) * r1)) != 1)) hF (fun hb => ?_) (fun hb => ?_)
   ·replace hm := if_t hm hb
    obtain ⟨r2, hr2, hm⟩ := call_b hm
    refine rg [⟨false, [], vS (Instr.loadAt 27 (pa g1 0)), .slice A1 p1.length c1⟩, ⟨false, [], callFunc 207 #[.slice A1 p1.length c1, vi from1, vi to1], .bool r2⟩] [none, some (.slice A1 p1.length c1), none, none, some (.bool r2), none] [6] [pl 6 (.bool r2)] hF hS ?_ (fun a w hF hS => ?_)
    ·exact obs_cons (ob_load Agg27 (fun _ _ hS => (hS.at_ 0 rfl).cell rfl)) <| obs_cons (ob_call Try.func207 (by kernel_rfl) rfl (fun _ _ hS => rf_Attacks_w hr2 hS (fun _ hS => (hr_p1 _ (hS.dropN 1))) _hc_p1 rfl)) <| obs_nil
    refine wpIn_ret ?_
    refine then_r ?_
    have hS := hS.pickN 1 [] (by decide)
    have hm : some r2 = some r := hm
    obtain rfl := Option.some.inj hm
    exact retV (rs := [.tmp 6]) (vs := [.bool r2]) hF rfl rv1 rfl ⟨rfl, hS⟩
   ·replace hm := if_f hm hb
    refine wpIn_skip ?_
    refine then_n ?_
    exact ⟨hF.wk [1, 2, 3, 7], hS, hm⟩
 ·obtain ⟨hp2, hm⟩ := asrt_b hm
  refine rg [⟨false, [(decide ((w64 ((geti p1 from1) * r1)) ≤ 0), false)], vS (Instr.loadAt 27 (pa g1 0)), .slice A1 p1.length c1⟩, ⟨true, [(decide ((w64 ((geti p1 from1) * r1)) ≤ 0), false)], vS (Instr.indexAt 27 (.slice A1 p1.length c1) (vi to1)), .pointer (some (sAddr A1 to1))⟩, ⟨false, [(decide ((w64 ((geti p1 from1) * r1)) ≤ 0), false)], vS (Instr.loadAt 3 (.pointer (some (sAddr A1 to1)))), vi (geti p1 to1)⟩] [none, none, none, none, some (.slice A1 p1.length c1), none, some (.pointer (some (sAddr A1 to1))), some (vi (geti p1 to1)), none, none, none, none] [1, 2, 3, 7, 8, 31] [pl 1 (vi from1), pl 2 (vi to1), pl 3 (pa g1 0), pl 7 (vi r1), pl 8 (vi (w64 ((geti p1 from1) * r1))), pl 31 (.bool ((decide ((w64 ((geti p1 from1) * r1)) ≤ 0)) || (decide ((0 : Int) < (w64 ((geti p1 to1) * r1))))))] hF hS ?_ (fun a w hF hS => ?_)
  ·exact obs_cons (ob_load Agg27 (fun _ _ hS => (hS.at_ 0 rfl).cell rfl)) <| obs_cons (ob_ix1 (f := (Value.int .i64)) (m := p1) Und27 hi3 hs3 (hr_p1 _ (hS.dropN 1)) rfl (fun hy => hp2 (hy (decide ((w64 ((geti p1 from1) * r1)) ≤ 0), false) (by simp)))) <| obs_cons (ob_get1 (n := p1.length) (m := p1) (Value.int .i64) (0 : Int) Agg3 (fun _ hS => ⟨_, (hr_p1 _ (hS.dropN 1))⟩) (fun _ hS => rfl) (fun hy => hp2 (hy (decide ((w64 ((geti p1 from1) * r1)) ≤ 0), false) (by simp)))) <| obs_nil
  refine ce (t := 31) (b := (decide ((w64 ((geti p1 from1) * r1)) ≤ 0)) || (decide ((0 : Int) < (w64 ((geti p1 to1) * r1))))) hF (fun hb => ?_) (fun hb => ?_)
  ·replace hm := if_t hm hb
   refine rg [] [] [6] [pl 6 (.bool false)] hF hS obs_nil (fun a w hF hS => ?_)
   refine wpIn_ret ?_
   refine then_r ?_
   have hS := hS.pickN 1 [] (by decide)
   have hm : some false = some r := hm
   obtain rfl := Option.some.inj hm
   exact retV (rs := [.tmp 6]) (vs := [.bool false]) hF rfl rv1 rfl ⟨rfl, hS⟩
  ·replace hm := if_f hm hb
   refine wpIn_skip ?_
   refine then_n ?_
   exact ⟨hF.wk [1, 2, 3, 7, 8], hS, hm⟩

def rf_castleTo_J4  (i1 : Int) : Option (St Int (Fl Unit Int)) :=
 some (.next (w64 (i1 + 1)))

def rf_castleTo_J3  (p1 : List Int) (n2 i1 : Int) : Option (St Int (Fl Unit Int)) :=
 asrt (0 ≤ i1 ∧ i1 < (((geti2 ([([5, 6] : List Int), ([1, 2, 3] : List Int), ([61, 62] : List Int), ([57, 58, 59] : List Int)] : List (List Int)) n2).length : Nat) : Int)) <| asrt (0 ≤ (geti (geti2 ([([5, 6] : List Int), ([1, 2, 3] : List Int), ([61, 62] : List Int), ([57, 58, 59] : List Int)] : List (List Int)) n2) i1) ∧ (geti (geti2 ([([5, 6] : List Int), ([1, 2, 3] : List Int), ([61, 62] : List Int), ([57, 58, 59] : List Int)] : List (List Int)) n2) i1) < (p1.length : Int)) <| if ((geti p1 (geti (geti2 ([([5, 6] : List Int), ([1, 2, 3] : List Int), ([61, 62] : List Int), ([57, 58, 59] : List Int)] : List (List Int)) n2) i1)) != 0) then (some (.done (.ret (-1)))) else ((rf_castleTo_J4 i1))

def rf_castleTo_J7  (k1 : Int) : Option (St Int (Fl Unit Int)) :=
 some (.next (w64 (k1 + 1)))

def rf_castleTo_J6  (p1 : List Int) (p2 n2 k1 : Int) : Option (St Int (Fl Unit Int)) :=
 (rf_AttackersOf_m p1 (w64 ((geti ([4, 4, 60, 60] : List Int) n2) + (w64 (k1 * (geti ([1, (-1), 1, (-1)] : List Int) n2))))) (w64 (1 - p2))).bind fun r1 => if (decide ((0 : Int) < (r1.length : Int))) then (some (.done (.ret (-1)))) else ((rf_castleTo_J7 k1))

def rf_castleTo_L2  (p1 : List Int) (p2 n2 : Int) : Int → Option (St Int (Fl Unit Int)) :=
 fun (x : Int) => match x with | k1 => if (decide (k1 ≤ 2)) then ((rf_castleTo_J6 p1 p2 n2 k1)) else (some (.done (.go ())))

def rf_castleTo_J5  (n2 : Int) : Option Int :=
 some (w64 ((geti ([4, 4, 60, 60] : List Int) n2) + (w64 (2 * (geti ([1, (-1), 1, (-1)] : List Int) n2)))))

def rf_castleTo_K2  (n2 : Int) : (Fl Unit Int) → Option Int :=
 fun (x : (Fl Unit Int)) => match x with | .go _ => (rf_castleTo_J5 n2) | .ret x => some x

def rf_castleTo_J2  (p1 : List Int) (p2 n2 : Int) : Option Int :=
 asrt (0 ≤ n2 ∧ n2 < 4) <| (loop (rf_castleTo_L2 p1 p2 n2) 0).bind (rf_castleTo_K2 n2)

def rf_castleTo_K1  (p1 : List Int) (p2 n2 : Int) : (Fl Unit Int) → Option Int :=
 fun (x : (Fl Unit Int)) => match x with | .go _ => (rf_castleTo_J2 p1 p2 n2) | .ret x => some x

def rf_castleTo_L1  (p1 : List Int) (n2 : Int) : Int → Option (St Int (Fl Unit Int)) :=
 fun (x : Int) => match x with | i1 => if (decide (i1 < (((geti2 ([([5, 6] : List Int), ([1, 2, 3] : List Int), ([61, 62] : List Int), ([57, 58, 59] : List Int)] : List (List Int)) n2).length : Nat) : Int))) then ((rf_castleTo_J3 p1 n2 i1)) else (some (.done (.go ())))

def rf_castleTo_J1  (p1 : List Int) (p2 n2 : Int) : Option Int :=
 asrt (0 ≤ n2 ∧ n2 < 4) <| asrt (0 ≤ n2 ∧ n2 < 4) <| (loop (rf_castleTo_L1 p1 n2) 0).bind (rf_castleTo_K1 p1 p2 n2)
end Go.Proofs.Ytfmmlmiakkjaiaa
