import Derived.Test.YtkpkkdpfcbnfdaaVI
import Derived.Test.YtkpkkdpfcbnfdaaFB
import Derived.Test.YtkpkkdpfcbnfdaaLibJ
import Derived.Test.YtkpkkdpfcbnfdaaLibD
import Derived.Test.YtkpkkdpfcbnfdaaLibMV
import Derived.Test.YtkpkkdpfcbnfdaaLibAP
import Derived.Test.YtkpkkdpfcbnfdaaFE
import Derived.Test.YtkpkkdpfcbnfdaaLibPl
import Derived.Test.YtkpkkdpfcbnfdaaLibAR
import Derived.Test.YtkpkkdpfcbnfdaaLibRF
import Derived.Test.YtkpkkdpfcbnfdaaFM
import Derived.Test.YtkpkkdpfcbnfdaaLibG
import Derived.Test.YtkpkkdpfcbnfdaaSF
import Derived.Test.YtkpkkdpfcbnfdaaNMPa
noncomputable section
namespace Go.Proofs.Ytkpkkdpfcbnfdaa
open Go Go.GL Go.RowKit
set_option maxRecDepth 100000
set_option maxHeartbeats 4000000

def board_Moves_1_m  (m1 m2 m3 : Int) (p1_Places1 : List Int) (p1_Turn1 p1_Castle1 : Int) (p1_EnPassant1 p1_Half1 p1_Full1 : Int) (p21 : List MvT) : Option (Bool × List MvT) :=
 (board_After_m p1_Places1 p1_Turn1 p1_Castle1 p1_EnPassant1 p1_Half1 p1_Full1 m1 m2 m3).bind fun r1 => (board_Checked_m r1.1 p1_Turn1).bind fun r2 => (board_Moves_1_J2 m1 m2 m3 p21) (!r2)

theorem board_Moves_1_w  {m1 m2 m3 : Int} {g1 : Nat} {A1 : Option Addr} {c1 n1 : Nat} {p1_Places1 : List Int} {p1_Turn1 p1_Castle1 : Int} {p1_EnPassant1 p1_Half1 p1_Full1 : Int} {g2 : Nat} {A2 : Option Addr} {c2 n2 : Nat} {p21 : List MvT} {r : (Bool × List MvT)} {w0 w : World} {B : Nat} {fs : List HP} (hm : board_Moves_1_m m1 m2 m3 p1_Places1 p1_Turn1 p1_Castle1 p1_EnPassant1 p1_Half1 p1_Full1 p21 = some r) (hS : Sep w0 B w (blk g1 65 (ca A1 n1 c1 p1_Turn1 p1_Castle1 p1_EnPassant1 p1_Half1 p1_Full1) :: blk g2 66 #[.slice A2 n2 c2] :: ownK 126 3 A2 n2 c2 (List.flatMap enc126 p21) :: fs)) (hr_p1_Places1 : RdF w0 B fs A1 (vI p1_Places1)) (_hc_p1_Places1 : p1_Places1.length ≤ c1) (_hn_p1_Places1 : n1 = p1_Places1.length) :
  Calls Try.prog 138 #[.agg #[vi m1, vi m2, vi m3], pa g1 0, pa g2 0] w fun e w' => ∃ v, e = .returned v ∧ ∃ (A3 : Option Addr) (c3 : Nat), v = .bool r.1 ∧ Sep w0 B w' (blk g1 65 (ca A1 n1 c1 p1_Turn1 p1_Castle1 p1_EnPassant1 p1_Half1 p1_Full1) :: blk g2 66 #[.slice A3 r.2.length c3] :: ownK 126 3 A3 r.2.length c3 (List.flatMap enc126 r.2) :: fs) := by
 obtain ⟨i3, hi3, hz3, hs3, hb3⟩ := info_parts Info3
 obtain ⟨i66, hi66, hz66, hs66, hb66⟩ := info_parts Info66
 obtain ⟨i126, hi126, hz126, hs126, hb126⟩ := info_parts Info126
 obtain rfl := (hS.at_ 2 rfl).lenK encK126
 obtain rfl := _hn_p1_Places1
 unfold board_Moves_1_m at hm
 replace hm := start_b hm
 refine enter (l := [.agg #[vi m1, vi m2, vi m3], pa g1 0, pa g2 0]) (n := 17) Try.func138 rfl rfl (by simp) (fun a hF => ?_)
 refine seqR ?_
 refine at_do (d := 3) (s := vS (Instr.box 126 (.agg #[vi m1, vi m2, vi m3]))) (v := pa w.heap.size 0) (w' := w.alloc (.cells #[vi m1, vi m2, vi m3] 126)) hF (by kernel_rfl) (by kernel_rfl) (by kernel_rfl) (fun a hF => ?_)
 have hS : Sep w0 B (w.alloc (.cells #[vi m1, vi m2, vi m3] 126)) (blk w.heap.size 126 #[vi m1, vi m2, vi m3] :: (blk g1 65 (ca A1 p1_Places1.length c1 p1_Turn1 p1_Castle1 p1_EnPassant1 p1_Half1 p1_Full1) :: blk g2 66 #[.slice A2 p21.length c2] :: ownK 126 3 A2 p21.length c2 (List.flatMap enc126 p21) :: fs)) := hS.box 126 #[vi m1, vi m2, vi m3]
 generalize w.heap.size = g3 at hF hS
 generalize w.alloc (.cells #[vi m1, vi m2, vi m3] 126) = w at hS ⊢
 refine ar 1 [] [] [1, 2, 3] [pl 1 (pa g1 0), pl 2 (pa g2 0), pl 3 (pa g3 0)] hF hS obs_nil (fun a w hF hS => ?_)
 refine ae [1, 2, 3] [pl 1 (pa g1 0), pl 2 (pa g2 0), pl 3 (pa g3 0)] hF rfl (fun hF => ?_)
 refine then_n ?_
 refine seq_cut (fun a w => ∃ (p23 : List MvT) (A7 : Option Addr) (c7 : Nat), Fr 17 [] a ∧ Sep w0 B w (blk g1 65 (ca A1 p1_Places1.length c1 p1_Turn1 p1_Castle1 p1_EnPassant1 p1_Half1 p1_Full1) :: blk g2 66 #[.slice A7 p23.length c7] :: ownK 126 3 A7 p23.length c7 (List.flatMap enc126 p23) :: fs) ∧ (board_Moves_1_J1 p23).bind some = some r) ?_ ?_
 ·rintro a w ⟨p23, A7, c7, hF, hS, hm⟩
  unfold board_Moves_1_J1 at hm
  refine rg [] [] [4] [pl 4 (.bool true)] hF hS obs_nil (fun a w hF hS => ?_)
  refine wpIn_ret ?_
  have hm : some (true, p23) = some r := hm
  obtain rfl := Option.some.inj hm
  exact retV (rs := [.tmp 4]) (vs := [.bool true]) hF rfl rv1 rfl ⟨_, rfl, A7, c7, rfl, hS⟩
 ·refine seq_cut (fun a w => ∃ (z1 : Bool), Fr 17 [pl 2 (pa g2 0), pl 3 (pa g3 0), pl 12 (.bool z1)] a ∧ Sep w0 B w (blk g2 66 #[.slice A2 p21.length c2] :: ownK 126 3 A2 p21.length c2 (List.flatMap enc126 p21) :: blk g3 126 #[vi m1, vi m2, vi m3] :: blk g1 65 (ca A1 p1_Places1.length c1 p1_Turn1 p1_Castle1 p1_EnPassant1 p1_Half1 p1_Full1) :: fs) ∧ ((board_Moves_1_J2 m1 m2 m3 p21) z1).bind some = some r) ?_ ?_
  ·rintro a w ⟨z1, hF, hS, hm⟩
   unfold board_Moves_1_J2 at hm
   refine ce (t := 12) (b := z1) hF (fun hb => ?_) (fun hb => ?_)
   ·replace hm := if_t hm hb
    refine oneR ?_
    obtain ⟨hp1, hm⟩ := asrt_b hm
    refine ar 2 [⟨false, [], vS (Instr.loadAt 66 (pa g2 0)), .slice A2 p21.length c2⟩, ⟨false, [], vS (Instr.loadAt 126 (pa g3 0)), .agg #[vi m1, vi m2, vi m3]⟩] [some (.slice A2 p21.length c2), some (.agg #[vi m1, vi m2, vi m3])] [2, 13, 14] [pl 2 (pa g2 0), pl 13 (.slice A2 p21.length c2), pl 14 (.agg #[vi m1, vi m2, vi m3])] hF hS ?_ (fun a w hF hS => ?_)
    ·exact obs_cons (ob_load Agg66 (fun _ _ hS => (hS.at_ 0 rfl).cell rfl)) <| obs_cons (oA (cs := #[vi m1, vi m2, vi m3]) (fun _ _ hS => (hS.at_ 2 rfl).cellsAt 0 (by rfl))) <| obs_nil
    refine at_do (d := 15) (s := vS (Instr.buildSlice 66 1 #[(0, .agg #[vi m1, vi m2, vi m3])])) (v := .slice (some ⟨w.heap.size, 0, none⟩) 1 1) (w' := w.alloc (.cells #[vi m1, vi m2, vi m3] 126)) hF (by kernel_rfl) (by kernel_rfl) (by kernel_rfl) (fun a hF => ?_)
    have hS : Sep w0 B (w.alloc (.cells #[vi m1, vi m2, vi m3] 126)) (ownK 126 3 (some (⟨w.heap.size, 0, none⟩ : Addr)) 1 1 (List.flatMap enc126 ([(m1, m2, m3)] : List MvT)) :: (blk g2 66 #[.slice A2 p21.length c2] :: ownK 126 3 A2 p21.length c2 (List.flatMap enc126 p21) :: blk g3 126 #[vi m1, vi m2, vi m3] :: blk g1 65 (ca A1 p1_Places1.length c1 p1_Turn1 p1_Castle1 p1_EnPassant1 p1_Half1 p1_Full1) :: fs)) := hS.litK 126 3 #[vi m1, vi m2, vi m3] 1 rfl (by omega)
    generalize (some (⟨w.heap.size, 0, none⟩ : Addr)) = g4 at hF hS
    generalize w.alloc (.cells #[vi m1, vi m2, vi m3] 126) = w at hS ⊢
    obtain ⟨A6, c6, w, hrun, hS⟩ := run_appK3 (P := Try.prog) (t := 66) (m := p21) (ys := ([(m1, m2, m3)] : List MvT)) (A2 := g4) (m2 := 1) (c2 := 1) encK126 (hS.at_ 2 rfl) (hS.at_ 0 rfl).rdK ((hS.at_ 0 rfl).lenK encK126) 66 Und66 hi126 hz126 hs126 rfl (by omega) hp1
    have hS : Sep w0 B w (ownK 126 3 g4 1 1 (List.flatMap enc126 ([(m1, m2, m3)] : List MvT)) :: blk g2 66 #[.slice A2 p21.length c2] :: ownK 126 3 A6 ((p21 ++ ([(m1, m2, m3)] : List MvT)).length) c6 (List.flatMap enc126 (p21 ++ ([(m1, m2, m3)] : List MvT))) :: blk g3 126 #[vi m1, vi m2, vi m3] :: blk g1 65 (ca A1 p1_Places1.length c1 p1_Turn1 p1_Castle1 p1_EnPassant1 p1_Half1 p1_Full1) :: fs) := hS
    refine ad (d := 16) hF hrun (fun a hF => ?_)
    obtain ⟨w, hrun, hS⟩ := run_put (P := Try.prog) (t := 66) (u := .slice A6 ((p21 ++ ([(m1, m2, m3)] : List MvT)).length) c6) (i := 0) (hS.at_ 1 rfl) hi66 hs66 rfl (Nat.lt_of_lt_of_eq (Nat.lt_of_succ_le (Nat.le_of_ble_eq_true (by kernel_rfl))) rfl)
    refine at_s hF hrun ?_
    have hS : Sep w0 B w (ownK 126 3 g4 1 1 (List.flatMap enc126 ([(m1, m2, m3)] : List MvT)) :: blk g2 66 #[.slice A6 ((p21 ++ ([(m1, m2, m3)] : List MvT)).length) c6] :: ownK 126 3 A6 ((p21 ++ ([(m1, m2, m3)] : List MvT)).length) c6 (List.flatMap enc126 (p21 ++ ([(m1, m2, m3)] : List MvT))) :: blk g3 126 #[vi m1, vi m2, vi m3] :: blk g1 65 (ca A1 p1_Places1.length c1 p1_Turn1 p1_Castle1 p1_EnPassant1 p1_Half1 p1_Full1) :: fs) := hS
    refine ae [] [] hF rfl (fun hF => ?_)
    refine then_n ?_
    have hS := hS.pickN 5 [4, 1, 2] (by decide)
    exact ⟨(p21 ++ ([(m1, m2, m3)] : List MvT)), A6, c6, hF.wk [], hS, hm⟩
   ·replace hm := if_f hm hb
    refine wpIn_skip ?_
    refine then_n ?_
    have hS := hS.pickN 4 [3, 0, 1] (by decide)
    exact ⟨p21, A2, c2, hF.wk [], hS, hm⟩
  ·obtain ⟨r1, hr1, hm⟩ := call_b hm
   obtain ⟨r2, hr2, hm⟩ := call_b hm
   refine regMix5 [0, 1, 4, 5] [] 4 #[true, true, false, false, true, true, false, false] [⟨false, [], vS (Instr.loadAt 65 (pa g1 0)), .agg (ca A1 p1_Places1.length c1 p1_Turn1 p1_Castle1 p1_EnPassant1 p1_Half1 p1_Full1)⟩, ⟨false, [], vS (Instr.loadAt 126 (pa g3 0)), .agg #[vi m1, vi m2, vi m3]⟩, ⟨false, [], vS (Instr.loadAt 3 (pa g1 1)), vi p1_Turn1⟩] [some (.agg (ca A1 p1_Places1.length c1 p1_Turn1 p1_Castle1 p1_EnPassant1 p1_Half1 p1_Full1)), some (.agg #[vi m1, vi m2, vi m3]), none, some (vi p1_Turn1)] [2, 3, 5, 6, 10] [pl 2 (pa g2 0), pl 3 (pa g3 0), pl 5 (.agg (ca A1 p1_Places1.length c1 p1_Turn1 p1_Castle1 p1_EnPassant1 p1_Half1 p1_Full1)), pl 6 (.agg #[vi m1, vi m2, vi m3]), pl 10 (vi p1_Turn1)] hF hS Fol (by kernel_rfl) (by kernel_rfl) (by kernel_rfl) (by kernel_rfl) ?_ (fun a w hF hS => ?_)
   ·exact obs_cons (oA (cs := (ca A1 p1_Places1.length c1 p1_Turn1 p1_Castle1 p1_EnPassant1 p1_Half1 p1_Full1)) (fun _ _ hS => (hS.at_ 1 rfl).cellsAt 0 (by rfl))) <| obs_cons (oA (cs := #[vi m1, vi m2, vi m3]) (fun _ _ hS => (hS.at_ 0 rfl).cellsAt 0 (by rfl))) <| obs_cons (ob_load Agg3 (fun _ _ hS => (hS.at_ 1 rfl).cell rfl)) <| obs_nil
   refine aq [2] (all_cons ?_ all_nil)
   refine ao (listed' := #[true, true, true, false, true, true, false, false]) ?_
   refine at_call (f := 115) (args := #[.agg (ca A1 p1_Places1.length c1 p1_Turn1 p1_Castle1 p1_EnPassant1 p1_Half1 p1_Full1), .agg #[vi m1, vi m2, vi m3]]) (d := 7) hF (by kernel_rfl) (by kernel_rfl) Try.func115 (by kernel_rfl) rfl (board_After_w hr1 hS (fun _ hS => (hr_p1_Places1 _ (hS.dropN 4))) _hc_p1_Places1 rfl) (fun v a w hR hF => ?_)
   clear hS
   obtain ⟨A5, c5, rfl, hS⟩ := hR
   have hS : Sep w0 B w (own 3 (.slice A5 r1.1.length c5) (vI r1.1) :: blk g3 126 #[vi m1, vi m2, vi m3] :: blk g1 65 (ca A1 p1_Places1.length c1 p1_Turn1 p1_Castle1 p1_EnPassant1 p1_Half1 p1_Full1) :: blk g2 66 #[.slice A2 p21.length c2] :: ownK 126 3 A2 p21.length c2 (List.flatMap enc126 p21) :: fs) := hS
   refine any_fin rfl (hS.pickN 5 [1, 2, 3, 4] (by decide)) ?_
   refine aq [3] (all_cons ?_ all_nil)
   refine ao (listed' := #[true, true, true, true, true, true, false, false]) ?_
   refine aw 1 [] [] [2, 3, 8, 10] [pl 2 (pa g2 0), pl 3 (pa g3 0), pl 8 (.slice A5 r1.1.length c5), pl 10 (vi p1_Turn1)] hF hS obs_nil (fun a hF => ?_)
   refine any_finI rfl (fun h => h) ?_
   refine aq [6] (all_cons ?_ all_nil)
   refine ao (listed' := #[true, true, true, true, true, true, true, false]) ?_
   refine ar 1 [⟨false, [], callFunc 109 #[.slice A5 r1.1.length c5, vi p1_Turn1], .bool r2⟩] [some (.bool r2)] [2, 3, 11] [pl 2 (pa g2 0), pl 3 (pa g3 0), pl 11 (.bool r2)] hF hS ?_ (fun a w hF hS => ?_)
   ·exact obs_cons (ob_call Try.func109 (by kernel_rfl) rfl (fun _ _ hS => board_Checked_w hr2 hS (fun _ hS => (hS.at_ 0 rfl).rd) ((hS.at_ 0 rfl).cap1) rfl)) <| obs_nil
   refine any_fin rfl (hS.pickN 5 [1, 2, 3, 4] (by decide)) ?_
   refine aq [7] (all_cons ?_ all_nil)
   refine ao (listed' := #[true, true, true, true, true, true, true, true]) ?_
   refine aw 1 [] [] [2, 3, 12] [pl 2 (pa g2 0), pl 3 (pa g3 0), pl 12 (.bool (!r2))] hF hS obs_nil (fun a hF => ?_)
   refine any_finI rfl (fun h => h) ?_
   refine any_end (by kernel_rfl) (np_n (then_n ?_))
   have hS := hS.pickN 5 [3, 4, 1, 2] (by decide)
   exact ⟨(!r2), hF.wk [2, 3, 12], hS, hm⟩

def board_crown_J4  (into1 : Int) (yield2 : List MvT) : Option (St (List MvT × Int) (Fl (List MvT) (Bool × List MvT))) :=
 some (.next (yield2, (w64 (into1 + 1))))

def board_crown_J3  (from1 to1 : Int) (v_Places1 : List Int) (v_Turn1 v_Castle1 : Int) (v_EnPassant1 v_Half1 v_Full1 : Int) (yield1 : List MvT) (into1 : Int) : Option (St (List MvT × Int) (Fl (List MvT) (Bool × List MvT))) :=
 (board_Moves_1_m from1 to1 into1 v_Places1 v_Turn1 v_Castle1 v_EnPassant1 v_Half1 v_Full1 yield1).bind fun r2 => if (!r2.1) then (some (.done (.ret (false, r2.2)))) else ((board_crown_J4 into1) r2.2)

def board_crown_J2  (v3 : List MvT) : Option (Bool × List MvT) :=
 some (true, v3)

def board_crown_K1  : (Fl (List MvT) (Bool × List MvT)) → Option (Bool × List MvT) :=
 fun (x : (Fl (List MvT) (Bool × List MvT))) => match x with | .go v3 => board_crown_J2 v3 | .ret x => some x

def board_crown_L1  (from1 to1 : Int) (v_Places1 : List Int) (v_Turn1 v_Castle1 : Int) (v_EnPassant1 v_Half1 v_Full1 : Int) : (List MvT × Int) → Option (St (List MvT × Int) (Fl (List MvT) (Bool × List MvT))) :=
 fun (x : (List MvT × Int)) => match x with | (yield1, into1) => if (decide (into1 ≤ 5)) then ((board_crown_J3 from1 to1 v_Places1 v_Turn1 v_Castle1 v_EnPassant1 v_Half1 v_Full1 yield1 into1)) else (some (.done (.go yield1)))

def board_crown_J1  (from1 to1 : Int) (v_Places1 : List Int) (v_Turn1 v_Castle1 : Int) (v_EnPassant1 v_Half1 v_Full1 : Int) (v1 : List MvT) : Option (Bool × List MvT) :=
 (loop (board_crown_L1 from1 to1 v_Places1 v_Turn1 v_Castle1 v_EnPassant1 v_Half1 v_Full1) (v1, 2)).bind board_crown_K1

def board_crown_m  (from1 to1 : Int) (v_Places1 : List Int) (v_Turn1 v_Castle1 : Int) (v_EnPassant1 v_Half1 v_Full1 : Int) (v1 : List MvT) : Option (Bool × List MvT) :=
 if ((decide ((8 : Int) ≤ to1)) && (decide (to1 < 56))) then ((board_Moves_1_m from1 to1 0 v_Places1 v_Turn1 v_Castle1 v_EnPassant1 v_Half1 v_Full1 v1).bind fun r1 => some (r1.1, r1.2)) else ((board_crown_J1 from1 to1 v_Places1 v_Turn1 v_Castle1 v_EnPassant1 v_Half1 v_Full1 v1))

theorem board_crown_w  {from1 to1 : Int} {g1 : Nat} {A1 : Option Addr} {c1 n1 : Nat} {v_Places1 : List Int} {v_Turn1 v_Castle1 : Int} {v_EnPassant1 v_Half1 v_Full1 : Int} {g2 : Nat} {A2 : Option Addr} {c2 n2 : Nat} {v1 : List MvT} {r : (Bool × List MvT)} {w0 w : World} {B : Nat} {fs : List HP} (hm : board_crown_m from1 to1 v_Places1 v_Turn1 v_Castle1 v_EnPassant1 v_Half1 v_Full1 v1 = some r) (hS : Sep w0 B w (blk g1 65 (ca A1 n1 c1 v_Turn1 v_Castle1 v_EnPassant1 v_Half1 v_Full1) :: blk g2 66 #[.slice A2 n2 c2] :: ownK 126 3 A2 n2 c2 (List.flatMap enc126 v1) :: fs)) (hr_v_Places1 : RdF w0 B fs A1 (vI v_Places1)) (_hc_v_Places1 : v_Places1.length ≤ c1) (_hn_v_Places1 : n1 = v_Places1.length) :
  Calls Try.prog 141 #[vi from1, vi to1, .func (.func 138) #[] #[pa g1 0, pa g2 0]] w fun e w' => ∃ v, e = .returned v ∧ ∃ (A3 : Option Addr) (c3 : Nat), v = .bool r.1 ∧ Sep w0 B w' (blk g1 65 (ca A1 n1 c1 v_Turn1 v_Castle1 v_EnPassant1 v_Half1 v_Full1) :: blk g2 66 #[.slice A3 r.2.length c3] :: ownK 126 3 A3 r.2.length c3 (List.flatMap enc126 r.2) :: fs) := by
 obtain ⟨i3, hi3, hz3, hs3, hb3⟩ := info_parts Info3
 obtain ⟨i126, hi126, hz126, hs126, hb126⟩ := info_parts Info126
 obtain rfl := (hS.at_ 2 rfl).lenK encK126
 obtain rfl := _hn_v_Places1
 unfold board_crown_m at hm
 replace hm := start_b hm
 refine enter (l := [vi from1, vi to1, .func (.func 138) #[] #[pa g1 0, pa g2 0]]) (n := 30) Try.func141 rfl rfl (by simp) (fun a hF => ?_)
 refine rg [] [] [0, 1, 2] [pl 0 (vi from1), pl 1 (vi to1), pl 2 (.func (.func 138) #[] #[pa g1 0, pa g2 0])] hF hS obs_nil (fun a w hF hS => ?_)
 refine seq_cut (fun a w => Fr 30 [pl 0 (vi from1), pl 1 (vi to1), pl 2 (.func (.func 138) #[] #[pa g1 0, pa g2 0])] a ∧ Sep w0 B w (blk g1 65 (ca A1 v_Places1.length c1 v_Turn1 v_Castle1 v_EnPassant1 v_Half1 v_Full1) :: blk g2 66 #[.slice A2 v1.length c2] :: ownK 126 3 A2 v1.length c2 (List.flatMap enc126 v1) :: fs) ∧ ((board_crown_J1 from1 to1 v_Places1 v_Turn1 v_Castle1 v_EnPassant1 v_Half1 v_Full1 v1)).bind some = some r) ?_ ?_
 ·rintro a w ⟨hF, hS, hm⟩
  unfold board_crown_J1 at hm
  refine seq_cut (fun a w => ∃ (v3 : List MvT) (A6 : Option Addr) (c6 : Nat), Fr 30 [] a ∧ Sep w0 B w (blk g1 65 (ca A1 v_Places1.length c1 v_Turn1 v_Castle1 v_EnPassant1 v_Half1 v_Full1) :: blk g2 66 #[.slice A6 v3.length c6] :: ownK 126 3 A6 v3.length c6 (List.flatMap enc126 v3) :: fs) ∧ (board_crown_J2 v3).bind some = some r) ?_ ?_
  ·rintro a w ⟨v3, A6, c6, hF, hS, hm⟩
   unfold board_crown_J2 at hm
   refine rg [] [] [6] [pl 6 (.bool true)] hF hS obs_nil (fun a w hF hS => ?_)
   refine wpIn_ret ?_
   have hm : some (true, v3) = some r := hm
   obtain rfl := Option.some.inj hm
   exact retV (rs := [.tmp 6]) (vs := [.bool true]) hF rfl rv1 rfl ⟨_, rfl, A6, c6, rfl, hS⟩
  ·refine rg [] [] [0, 1, 2, 7] [pl 0 (vi from1), pl 1 (vi to1), pl 2 (.func (.func 138) #[] #[pa g1 0, pa g2 0]), pl 7 (vi 2)] hF hS obs_nil (fun a w hF hS => ?_)
   refine wpIn_block ?_
   refine wp_loop_model (S := (List MvT × Int)) (R := (Fl (List MvT) (Bool × List MvT))) (board_crown_L1 from1 to1 v_Places1 v_Turn1 v_Castle1 v_EnPassant1 v_Half1 v_Full1) (fun x => (board_crown_K1 x).bind some) r (fun (x : (List MvT × Int)) a w => ∃ (A5 : Option Addr) (c5 : Nat), Fr 30 [pl 0 (vi from1), pl 1 (vi to1), pl 2 (.func (.func 138) #[] #[pa g1 0, pa g2 0]), pl 7 (vi x.2)] a ∧ Sep w0 B w (blk g1 65 (ca A1 v_Places1.length c1 v_Turn1 v_Castle1 v_EnPassant1 v_Half1 v_Full1) :: blk g2 66 #[.slice A5 x.1.length c5] :: ownK 126 3 A5 x.1.length c5 (List.flatMap enc126 x.1) :: fs)) (assoc_b hm) ⟨A2, c2, hF.wk [0, 1, 2, 7], hS⟩ ?_
   clear hF hS hm
   rintro nn1 ⟨yield1, into1⟩ a w ⟨A5, c5, hF, hS⟩ hm
   generalize hφ1 : stK (board_crown_L1 from1 to1 v_Places1 v_Turn1 v_Castle1 v_EnPassant1 v_Half1 v_Full1) nn1 (fun x => (board_crown_K1 x).bind some) = φ1 at hm
   unfold board_crown_L1 at hm
   dsimp only at hF hS hm
   refine seq_cut (fun a w => Fr 30 [pl 0 (vi from1), pl 1 (vi to1), pl 2 (.func (.func 138) #[] #[pa g1 0, pa g2 0]), pl 7 (vi into1)] a ∧ Sep w0 B w (blk g1 65 (ca A1 v_Places1.length c1 v_Turn1 v_Castle1 v_EnPassant1 v_Half1 v_Full1) :: blk g2 66 #[.slice A5 yield1.length c5] :: ownK 126 3 A5 yield1.length c5 (List.flatMap enc126 yield1) :: fs) ∧ ((board_crown_J3 from1 to1 v_Places1 v_Turn1 v_Castle1 v_EnPassant1 v_Half1 v_Full1 yield1 into1)).bind φ1 = some r) ?_ ?_
   ·rintro a w ⟨hF, hS, hm⟩
    unfold board_crown_J3 at hm
    refine seq_cut (fun a w => ∃ (yield2 : List MvT) (A8 : Option Addr) (c8 : Nat), Fr 30 [pl 0 (vi from1), pl 1 (vi to1), pl 2 (.func (.func 138) #[] #[pa g1 0, pa g2 0]), pl 7 (vi into1)] a ∧ Sep w0 B w (blk g1 65 (ca A1 v_Places1.length c1 v_Turn1 v_Castle1 v_EnPassant1 v_Half1 v_Full1) :: blk g2 66 #[.slice A8 yield2.length c8] :: ownK 126 3 A8 yield2.length c8 (List.flatMap enc126 yield2) :: fs) ∧ ((board_crown_J4 into1) yield2).bind φ1 = some r) ?_ ?_
    ·rintro a w ⟨yield2, A8, c8, hF, hS, hm⟩
     unfold board_crown_J4 at hm
     refine rg1 [] [] [0, 1, 2, 7] [pl 0 (vi from1), pl 1 (vi to1), pl 2 (.func (.func 138) #[] #[pa g1 0, pa g2 0]), pl 7 (vi (w64 (into1 + 1)))] hF hS obs_nil (fun a w hF hS => ?_)
     refine then_n ?_
     rw [← hφ1] at hm
     exact ⟨(yield2, (w64 (into1 + 1))), ⟨A8, c8, hF.wk [0, 1, 2, 7], hS⟩, hm⟩
    ·refine wpIn_block ?_
     refine seqR ?_
     obtain ⟨r2, hr2, hm⟩ := call_b hm
     refine ar 5 [] [] [0, 1, 2, 7, 23, 27] [pl 0 (vi from1), pl 1 (vi to1), pl 2 (.func (.func 138) #[] #[pa g1 0, pa g2 0]), pl 7 (vi into1), pl 23 (.func (.func 138) #[] #[pa g1 0, pa g2 0]), pl 27 (.agg #[vi from1, vi to1, vi into1])] hF hS obs_nil (fun a w hF hS => ?_)
     refine at_call (f := 138) (args := #[.agg #[vi from1, vi to1, vi into1], pa g1 0, pa g2 0]) (d := 28) hF (by kernel_rfl) (by kernel_rfl) Try.func138 (by kernel_rfl) rfl (board_Moves_1_w hr2 hS (fun _ hS => (hr_v_Places1 _ (hS.dropN 0))) _hc_v_Places1 rfl) (fun v a w hR hF => ?_)
     clear hS
     obtain ⟨A7, c7, rfl, hS⟩ := hR
     have hS : Sep w0 B w (blk g1 65 (ca A1 v_Places1.length c1 v_Turn1 v_Castle1 v_EnPassant1 v_Half1 v_Full1) :: blk g2 66 #[.slice A7 r2.2.length c7] :: ownK 126 3 A7 r2.2.length c7 (List.flatMap enc126 r2.2) :: fs) := hS
     refine ar 1 [] [] [0, 1, 2, 7, 29] [pl 0 (vi from1), pl 1 (vi to1), pl 2 (.func (.func 138) #[] #[pa g1 0, pa g2 0]), pl 7 (vi into1), pl 29 (.bool (!r2.1))] hF hS obs_nil (fun a w hF hS => ?_)
     refine ae [0, 1, 2, 7, 29] [pl 0 (vi from1), pl 1 (vi to1), pl 2 (.func (.func 138) #[] #[pa g1 0, pa g2 0]), pl 7 (vi into1), pl 29 (.bool (!r2.1))] hF rfl (fun hF => ?_)
     refine then_n ?_
     refine ce (t := 29) (b := !r2.1) hF (fun hb => ?_) (fun hb => ?_)
     ·replace hm := if_t hm hb
      refine rg [] [] [6] [pl 6 (.bool false)] hF hS obs_nil (fun a w hF hS => ?_)
      refine wpIn_ret ?_
      refine block_r (then_r (then_r (block_r (then_r ?_))))
      rw [← hφ1] at hm
      replace hm := done_b hm
      unfold board_crown_K1 at hm
      try dsimp only at hm
      have hm : some (false, r2.2) = some r := hm
      obtain rfl := Option.some.inj hm
      exact retV (rs := [.tmp 6]) (vs := [.bool false]) hF rfl rv1 rfl ⟨_, rfl, A7, c7, rfl, hS⟩
     ·replace hm := if_f hm hb
      refine wpIn_skip ?_
      refine block_n ?_
      refine then_n ?_
      exact ⟨r2.2, A7, c7, hF.wk [0, 1, 2, 7], hS, hm⟩
   ·refine rg [] [] [0, 1, 2, 7, 20] [pl 0 (vi from1), pl 1 (vi to1), pl 2 (.func (.func 138) #[] #[pa g1 0, pa g2 0]), pl 7 (vi into1), pl 20 (.bool (decide (into1 ≤ 5)))] hF hS obs_nil (fun a w hF hS => ?_)
    refine ce (t := 20) (b := decide (into1 ≤ 5)) hF (fun hb => ?_) (fun hb => ?_)
    ·replace hm := if_t hm hb
     refine wpIn_skip ?_
     refine then_n ?_
     exact ⟨hF.wk [0, 1, 2, 7], hS, hm⟩
    ·replace hm := if_f hm hb
     refine wpIn_exit ?_
     refine then_e (then_e (block_e (then_n ?_)))
     rw [← hφ1] at hm
     replace hm := done_b hm
     unfold board_crown_K1 at hm
     try dsimp only at hm
     have hm : (board_crown_J2 yield1).bind some = some r := hm
     exact ⟨yield1, A5, c5, hF.wk [], hS, hm⟩
 ·refine rg [] [] [0, 1, 2, 13] [pl 0 (vi from1), pl 1 (vi to1), pl 2 (.func (.func 138) #[] #[pa g1 0, pa g2 0]), pl 13 (.bool ((decide ((8 : Int) ≤ to1)) && (decide (to1 < 56))))] hF hS obs_nil (fun a w hF hS => ?_)
  refine ce (t := 13) (b := (decide ((8 : Int) ≤ to1)) && (decide (to1 < 56))) hF (fun hb => ?_) (fun hb => ?_)
  ·replace hm := if_t hm hb
   refine seqR ?_
   obtain ⟨r1, hr1, hm⟩ := call_b hm
   refine ar 4 [] [] [14, 17] [pl 14 (.func (.func 138) #[] #[pa g1 0, pa g2 0]), pl 17 (.agg #[vi from1, vi to1, vi 0])] hF hS obs_nil (fun a w hF hS => ?_)
   refine at_call (f := 138) (args := #[.agg #[vi from1, vi to1, vi 0], pa g1 0, pa g2 0]) (d := 18) hF (by kernel_rfl) (by kernel_rfl) Try.func138 (by kernel_rfl) rfl (board_Moves_1_w hr1 hS (fun _ hS => (hr_v_Places1 _ (hS.dropN 0))) _hc_v_Places1 rfl) (fun v a w hR hF => ?_)
   clear hS
   obtain ⟨A4, c4, rfl, hS⟩ := hR
   have hS : Sep w0 B w (blk g1 65 (ca A1 v_Places1.length c1 v_Turn1 v_Castle1 v_EnPassant1 v_Half1 v_Full1) :: blk g2 66 #[.slice A4 r1.2.length c4] :: ownK 126 3 A4 r1.2.length c4 (List.flatMap enc126 r1.2) :: fs) := hS
   refine ar 1 [] [] [6] [pl 6 (.bool r1.1)] hF hS obs_nil (fun a w hF hS => ?_)
   refine ae [6] [pl 6 (.bool r1.1)] hF rfl (fun hF => ?_)
   refine then_n (wpIn_ret ?_)
   refine then_r ?_
   have hm : some (r1.1, r1.2) = some r := hm
   obtain rfl := Option.some.inj hm
   exact retV (rs := [.tmp 6]) (vs := [.bool r1.1]) hF rfl rv1 rfl ⟨_, rfl, A4, c4, rfl, hS⟩
  ·replace hm := if_f hm hb
   refine wpIn_skip ?_
   refine then_n ?_
   exact ⟨hF.wk [0, 1, 2], hS, hm⟩

def board_Moves_2_J1  (p22 : List MvT) : Option (List MvT) :=
 some p22

def board_Moves_2_m  (to1 p11 : Int) (v_Places1 : List Int) (v_Turn1 v_Castle1 : Int) (v_EnPassant1 v_Half1 v_Full1 : Int) (v1 : List MvT) : Option (List MvT) :=
 (board_crown_m p11 to1 v_Places1 v_Turn1 v_Castle1 v_EnPassant1 v_Half1 v_Full1 v1).bind fun r1 => board_Moves_2_J1 r1.2

theorem board_Moves_2_w  {to1 : Int} {g1 : Nat} {p11 : Int} {g2 g3 : Nat} {A1 : Option Addr} {c1 n1 : Nat} {v_Places1 : List Int} {v_Turn1 v_Castle1 : Int} {v_EnPassant1 v_Half1 v_Full1 : Int} {g4 : Nat} {A2 : Option Addr} {c2 n2 : Nat} {v1 : List MvT} {r : (List MvT)} {w0 w : World} {B : Nat} {fs : List HP} (hm : board_Moves_2_m to1 p11 v_Places1 v_Turn1 v_Castle1 v_EnPassant1 v_Half1 v_Full1 v1 = some r) (hS : Sep w0 B w (blk g1 3 #[vi p11] :: blk g2 165 #[.func (.func 138) #[] #[pa g3 0, pa g4 0]] :: blk g3 65 (ca A1 n1 c1 v_Turn1 v_Castle1 v_EnPassant1 v_Half1 v_Full1) :: blk g4 66 #[.slice A2 n2 c2] :: ownK 126 3 A2 n2 c2 (List.flatMap enc126 v1) :: fs)) (hr_v_Places1 : RdF w0 B fs A1 (vI v_Places1)) (_hc_v_Places1 : v_Places1.length ≤ c1) (_hn_v_Places1 : n1 = v_Places1.length) :
  Calls Try.prog 140 #[vi to1, pa g1 0, pa g2 0] w fun e w' => ∃ v, e = .returned v ∧ ∃ (A3 : Option Addr) (c3 : Nat), v = .tuple #[] ∧ Sep w0 B w' (blk g1 3 #[vi p11] :: blk g2 165 #[.func (.func 138) #[] #[pa g3 0, pa g4 0]] :: blk g3 65 (ca A1 n1 c1 v_Turn1 v_Castle1 v_EnPassant1 v_Half1 v_Full1) :: blk g4 66 #[.slice A3 r.length c3] :: ownK 126 3 A3 r.length c3 (List.flatMap enc126 r) :: fs) := by
 obtain ⟨i3, hi3, hz3, hs3, hb3⟩ := info_parts Info3
 obtain ⟨i126, hi126, hz126, hs126, hb126⟩ := info_parts Info126
 obtain rfl := (hS.at_ 4 rfl).lenK encK126
 obtain rfl := _hn_v_Places1
 unfold board_Moves_2_m at hm
 replace hm := start_b hm
 refine enter (l := [vi to1, pa g1 0, pa g2 0]) (n := 8) Try.func140 rfl rfl (by simp) (fun a hF => ?_)
 refine end_cut (fun a w => ∃ (p22 : List MvT) (A5 : Option Addr) (c5 : Nat), Fr 8 [] a ∧ Sep w0 B w (blk g1 3 #[vi p11] :: blk g2 165 #[.func (.func 138) #[] #[pa g3 0, pa g4 0]] :: blk g3 65 (ca A1 v_Places1.length c1 v_Turn1 v_Castle1 v_EnPassant1 v_Half1 v_Full1) :: blk g4 66 #[.slice A5 p22.length c5] :: ownK 126 3 A5 p22.length c5 (List.flatMap enc126 p22) :: fs) ∧ (board_Moves_2_J1 p22).bind some = some r) ?_ ?_
 ·rintro a w ⟨p22, A5, c5, hF, hS, hm⟩
  unfold board_Moves_2_J1 at hm
  have hm : some p22 = some r := hm
  obtain rfl := Option.some.inj hm
  exact endV (rs := []) (vs := []) hF rfl (rv_nil) rfl ⟨_, rfl, A5, c5, rfl, hS⟩ rfl
 ·refine oneR ?_
  obtain ⟨r1, hr1, hm⟩ := call_b hm
  refine ar 3 [⟨false, [], vS (Instr.loadAt 3 (pa g1 0)), vi p11⟩, ⟨false, [], vS (Instr.loadAt 165 (pa g2 0)), .func (.func 138) #[] #[pa g3 0, pa g4 0]⟩] [some (vi p11), none, some (.func (.func 138) #[] #[pa g3 0, pa g4 0])] [4, 5, 6] [pl 4 (vi p11), pl 5 (vi to1), pl 6 (.func (.func 138) #[] #[pa g3 0, pa g4 0])] hF hS ?_ (fun a w hF hS => ?_)
  ·exact obs_cons (ob_load Agg3 (fun _ _ hS => (hS.at_ 0 rfl).cell rfl)) <| obs_cons (ob_load Agg165 (fun _ _ hS => (hS.at_ 1 rfl).cell rfl)) <| obs_nil
  have hS : Sep w0 B w (blk g3 65 (ca A1 v_Places1.length c1 v_Turn1 v_Castle1 v_EnPassant1 v_Half1 v_Full1) :: blk g4 66 #[.slice A2 v1.length c2] :: ownK 126 3 A2 v1.length c2 (List.flatMap enc126 v1) :: blk g1 3 #[vi p11] :: blk g2 165 #[.func (.func 138) #[] #[pa g3 0, pa g4 0]] :: fs) := hS.pickN 5 [2, 3, 4, 0, 1] (by decide)
  refine at_call (f := 141) (args := #[vi p11, vi to1, .func (.func 138) #[] #[pa g3 0, pa g4 0]]) (d := 7) hF (by kernel_rfl) (by kernel_rfl) Try.func141 (by kernel_rfl) rfl (board_crown_w hr1 hS (fun _ hS => (hr_v_Places1 _ (hS.dropN 2))) _hc_v_Places1 rfl) (fun v a w hR hF => ?_)
  clear hS
  obtain ⟨A4, c4, rfl, hS⟩ := hR
  have hS : Sep w0 B w (blk g3 65 (ca A1 v_Places1.length c1 v_Turn1 v_Castle1 v_EnPassant1 v_Half1 v_Full1) :: blk g4 66 #[.slice A4 r1.2.length c4] :: ownK 126 3 A4 r1.2.length c4 (List.flatMap enc126 r1.2) :: blk g1 3 #[vi p11] :: blk g2 165 #[.func (.func 138) #[] #[pa g3 0, pa g4 0]] :: fs) := hS
  refine ae [] [] hF rfl (fun hF => ?_)
  refine then_n ?_
  have hS := hS.pickN 5 [3, 4, 0, 1, 2] (by decide)
  exact ⟨r1.2, A4, c4, hF.wk [], hS, hm⟩

def board_pawn_J1  (v4 : List MvT) : Option (List MvT) :=
 some v4

def board_pawn_J3  (p1 : List Int) (p2 from1 v1 : Int) (v_Places1 : List Int) (v_Turn1 v_Castle1 : Int) (v_EnPassant1 v_Half1 : Int) (v_Full1 r1 : Int) (tell2 : List MvT) : Option (List MvT) :=
 (board_Moves_2_m (w64 (from1 + (w64 (8 * r1)))) v1 v_Places1 v_Turn1 v_Castle1 v_EnPassant1 v_Half1 v_Full1 tell2).bind fun r5 => asrt (((shrK .i64 from1 3) == (w64 (1 + (w64 (5 * p2))))) = true → 0 ≤ (w64 (from1 + (w64 (2 * (w64 (8 * r1)))))) ∧ (w64 (from1 + (w64 (2 * (w64 (8 * r1)))))) < (p1.length : Int)) <| if (((shrK .i64 from1 3) == (w64 (1 + (w64 (5 * p2))))) && ((geti p1 (w64 (from1 + (w64 (2 * (w64 (8 * r1))))))) == 0)) then ((board_Moves_2_m (w64 (from1 + (w64 (2 * (w64 (8 * r1)))))) v1 v_Places1 v_Turn1 v_Castle1 v_EnPassant1 v_Half1 v_Full1 r5).bind fun r6 => board_pawn_J1 r6) else (board_pawn_J1 r5)

def board_pawn_J2  (p1 : List Int) (p2 from1 v1 : Int) (v_Places1 : List Int) (v_Turn1 v_Castle1 : Int) (v_EnPassant1 v_Half1 : Int) (v_Full1 r1 : Int) (tell2 : List MvT) : Option (List MvT) :=
 asrt (0 ≤ (w64 (from1 + (w64 (8 * r1)))) ∧ (w64 (from1 + (w64 (8 * r1)))) < (p1.length : Int)) <| if ((geti p1 (w64 (from1 + (w64 (8 * r1))))) != 0) then (some tell2) else ((board_pawn_J3 p1 p2 from1 v1 v_Places1 v_Turn1 v_Castle1 v_EnPassant1 v_Half1 v_Full1 r1 tell2))

def board_pawn_K1  (p1 : List Int) (p2 from1 v1 : Int) (v_Places1 : List Int) (v_Turn1 v_Castle1 : Int) (v_EnPassant1 v_Half1 : Int) (v_Full1 r1 : Int) : (St (List MvT) Unit) → Option (List MvT) :=
 fun (x : St (List MvT) Unit) => match x with | .next tell1 => (board_pawn_J2 p1 p2 from1 v1 v_Places1 v_Turn1 v_Castle1 v_EnPassant1 v_Half1 v_Full1 r1) tell1 | .done _ => none

def board_pawn_L1  (p1 : List Int) (p2 p4 v1 : Int) (v_Places1 : List Int) (v_Turn1 v_Castle1 : Int) (v_EnPassant1 v_Half1 v_Full1 : Int) : (Int × (List MvT)) → Option (St (List MvT) Unit) :=
 fun (x : Int × (List MvT)) => match x with | (x1, tell1) => asrt (0 ≤ x1 ∧ x1 < (p1.length : Int)) <| (board_Side_m (geti p1 x1)).bind fun r3 => if ((r3 == (w64 (1 - p2))) || (x1 == p4)) then ((board_Moves_2_m x1 v1 v_Places1 v_Turn1 v_Castle1 v_EnPassant1 v_Half1 v_Full1 tell1).bind fun r4 => some (.next r4)) else (some (.next tell1))

def board_pawn_m  (p1 : List Int) (p2 p3 : Int) (p4 p5 : Int) (p6 from1 v1 : Int) (v_Places1 : List Int) (v_Turn1 v_Castle1 : Int) (v_EnPassant1 v_Half1 v_Full1 : Int) (v2 : List MvT) : Option (List MvT) :=
 (board_forward_m p2).bind fun r1 => (board_Reach_m p1 from1).bind fun r2 => (board_Reach_1_m (ydOf (fun x s => (board_pawn_L1 p1 p2 p4 v1 v_Places1 v_Turn1 v_Castle1 v_EnPassant1 v_Half1 v_Full1) (x, s))) (.next v2) p1 r2).bind (board_pawn_K1 p1 p2 from1 v1 v_Places1 v_Turn1 v_Castle1 v_EnPassant1 v_Half1 v_Full1 r1)

theorem board_pawn_w  {A1 : Option Addr} {c1 n1 : Nat} {p1 : List Int} {p2 p3 : Int} {p4 p5 : Int} {p6 from1 : Int} {g1 : Nat} {v1 : Int} {g2 g3 : Nat} {A2 : Option Addr} {c2 n2 : Nat} {v_Places1 : List Int} {v_Turn1 v_Castle1 : Int} {v_EnPassant1 v_Half1 v_Full1 : Int} {g4 : Nat} {A3 : Option Addr} {c3 n3 : Nat} {v2 : List MvT} {r : (List MvT)} {w0 w : World} {B : Nat} {fs : List HP} (hm : board_pawn_m p1 p2 p3 p4 p5 p6 from1 v1 v_Places1 v_Turn1 v_Castle1 v_EnPassant1 v_Half1 v_Full1 v2 = some r) (hS : Sep w0 B w (blk g1 3 #[vi v1] :: blk g2 165 #[.func (.func 138) #[] #[pa g3 0, pa g4 0]] :: blk g3 65 (ca A2 n2 c2 v_Turn1 v_Castle1 v_EnPassant1 v_Half1 v_Full1) :: blk g4 66 #[.slice A3 n3 c3] :: ownK 126 3 A3 n3 c3 (List.flatMap enc126 v2) :: fs)) (hr_p1 : RdF w0 B fs A1 (vI p1)) (_hc_p1 : p1.length ≤ c1) (_hn_p1 : n1 = p1.length) (hr_v_Places1 : RdF w0 B fs A2 (vI v_Places1)) (_hc_v_Places1 : v_Places1.length ≤ c2) (_hn_v_Places1 : n2 = v_Places1.length) :
  Calls Try.prog 139 #[.agg (ca A1 n1 c1 p2 p3 p4 p5 p6), vi from1, .func (.func 140) #[] #[pa g1 0, pa g2 0]] w fun e w' => ∃ v, e = .returned v ∧ ∃ (A4 : Option Addr) (c4 : Nat), v = .tuple #[] ∧ Sep w0 B w' (blk g1 3 #[vi v1] :: blk g2 165 #[.func (.func 138) #[] #[pa g3 0, pa g4 0]] :: blk g3 65 (ca A2 n2 c2 v_Turn1 v_Castle1 v_EnPassant1 v_Half1 v_Full1) :: blk g4 66 #[.slice A4 r.length c4] :: ownK 126 3 A4 r.length c4 (List.flatMap enc126 r) :: fs) := by
 obtain ⟨i3, hi3, hz3, hs3, hb3⟩ := info_parts Info3
 obtain ⟨i126, hi126, hz126, hs126, hb126⟩ := info_parts Info126
 obtain rfl := (hS.at_ 4 rfl).lenK encK126
 obtain rfl := _hn_p1
 obtain rfl := _hn_v_Places1
 unfold board_pawn_m at hm
 replace hm := start_b hm
 refine enter (l := [.agg (ca A1 p1.length c1 p2 p3 p4 p5 p6), vi from1, .func (.func 140) #[] #[pa g1 0, pa g2 0]]) (n := 73) Try.func139 rfl rfl (by simp) (fun a hF => ?_)
 have hS := hS.defs0
 refine end_cut (fun a w => ∃ (v4 : List MvT) (A10 : Option Addr) (c10 : Nat) (Ds4 : List Nat), FrD Ds4 73 [] a ∧ Sep w0 B w (blk g1 3 #[vi v1] :: blk g2 165 #[.func (.func 138) #[] #[pa g3 0, pa g4 0]] :: blk g3 65 (ca A2 v_Places1.length c2 v_Turn1 v_Castle1 v_EnPassant1 v_Half1 v_Full1) :: blk g4 66 #[.slice A10 v4.length c10] :: ownK 126 3 A10 v4.length c10 (List.flatMap enc126 v4) :: defsH Ds4 :: fs) ∧ (board_pawn_J1 v4).bind some = some r) ?_ ?_
 ·rintro a w ⟨v4, A10, c10, Ds4, hF, hS, hm⟩
  unfold board_pawn_J1 at hm
  have hS := hS.pickN 6 [5, 0, 1, 2, 3, 4] (by decide)
  have hm : some v4 = some r := hm
  obtain rfl := Option.some.inj hm
  exact endD (rs := []) (vs := []) hF hS rfl (fun w hS => by exact rv_nil) rfl (fun w hS => ⟨_, rfl, A10, c10, rfl, hS⟩)
 ·refine seqR ?_
  refine at_do (d := 3) (s := vS (Instr.box 65 (.agg (ca A1 p1.length c1 p2 p3 p4 p5 p6)))) (v := pa w.heap.size 0) (w' := w.alloc (.cells (ca A1 p1.length c1 p2 p3 p4 p5 p6) 65)) hF (by kernel_rfl) (by kernel_rfl) (by kernel_rfl) (fun a hF => ?_)
  have hS : Sep w0 B (w.alloc (.cells (ca A1 p1.length c1 p2 p3 p4 p5 p6) 65)) (blk w.heap.size 65 (ca A1 p1.length c1 p2 p3 p4 p5 p6) :: (defsH ([]) :: blk g1 3 #[vi v1] :: blk g2 165 #[.func (.func 138) #[] #[pa g3 0, pa g4 0]] :: blk g3 65 (ca A2 v_Places1.length c2 v_Turn1 v_Castle1 v_EnPassant1 v_Half1 v_Full1) :: blk g4 66 #[.slice A3 v2.length c3] :: ownK 126 3 A3 v2.length c3 (List.flatMap enc126 v2) :: fs)) := hS.box 65 (ca A1 p1.length c1 p2 p3 p4 p5 p6)
  generalize w.heap.size = g5 at hF hS
  generalize w.alloc (.cells (ca A1 p1.length c1 p2 p3 p4 p5 p6) 65) = w at hS ⊢
  refine at_do (d := 5) (s := vS (Instr.box 158 (.func (.func 140) #[] #[pa g1 0, pa g2 0]))) (v := pa w.heap.size 0) (w' := w.alloc (.cells #[.func (.func 140) #[] #[pa g1 0, pa g2 0]] 158)) hF (by kernel_rfl) (by kernel_rfl) (by kernel_rfl) (fun a hF => ?_)
  have hS : Sep w0 B (w.alloc (.cells #[.func (.func 140) #[] #[pa g1 0, pa g2 0]] 158)) (blk w.heap.size 158 #[.func (.func 140) #[] #[pa g1 0, pa g2 0]] :: (blk g5 65 (ca A1 p1.length c1 p2 p3 p4 p5 p6) :: defsH ([]) :: blk g1 3 #[vi v1] :: blk g2 165 #[.func (.func 138) #[] #[pa g3 0, pa g4 0]] :: blk g3 65 (ca A2 v_Places1.length c2 v_Turn1 v_Castle1 v_EnPassant1 v_Half1 v_Full1) :: blk g4 66 #[.slice A3 v2.length c3] :: ownK 126 3 A3 v2.length c3 (List.flatMap enc126 v2) :: fs)) := hS.box 158 #[.func (.func 140) #[] #[pa g1 0, pa g2 0]]
  generalize w.heap.size = g6 at hF hS
  generalize w.alloc (.cells #[.func (.func 140) #[] #[pa g1 0, pa g2 0]] 158) = w at hS ⊢
  refine ae [1, 3, 5] [pl 1 (vi from1), pl 3 (pa g5 0), pl 5 (pa g6 0)] hF rfl (fun hF => ?_)
  refine then_n ?_
  obtain ⟨r1, hr1, hm⟩ := call_b hm
  refine rg [⟨false, [], vS (Instr.loadAt 3 (pa g5 1)), vi p2⟩, ⟨false, [], callFunc 111 #[vi p2], vi r1⟩] [none, some (vi p2), some (vi r1), none, none] [1, 3, 5, 6] [pl 1 (vi from1), pl 3 (pa g5 0), pl 5 (pa g6 0), pl 6 (vi (w64 (8 * r1)))] hF hS ?_ (fun a w hF hS => ?_)
  ·exact obs_cons (ob_load Agg3 (fun _ _ hS => (hS.at_ 1 rfl).cell rfl)) <| obs_cons (ob_call Try.func111 (by kernel_rfl) rfl (fun _ _ hS => board_forward_w hr1 hS )) <| obs_nil
  refine seq_cut (fun a w => ∃ (tell2 : List MvT) (A7 : Option Addr) (c7 : Nat) (Ds2 : List Nat), FrD Ds2 73 [pl 1 (vi from1), pl 3 (pa g5 0), pl 5 (pa g6 0), pl 6 (vi (w64 (8 * r1)))] a ∧ Sep w0 B w (blk g5 65 (ca A1 p1.length c1 p2 p3 p4 p5 p6) :: blk g6 158 #[.func (.func 140) #[] #[pa g1 0, pa g2 0]] :: blk g1 3 #[vi v1] :: blk g2 165 #[.func (.func 138) #[] #[pa g3 0, pa g4 0]] :: blk g3 65 (ca A2 v_Places1.length c2 v_Turn1 v_Castle1 v_EnPassant1 v_Half1 v_Full1) :: blk g4 66 #[.slice A7 tell2.length c7] :: ownK 126 3 A7 tell2.length c7 (List.flatMap enc126 tell2) :: defsH Ds2 :: fs) ∧ ((board_pawn_J2 p1 p2 from1 v1 v_Places1 v_Turn1 v_Castle1 v_EnPassant1 v_Half1 v_Full1 r1) tell2).bind some = some r) ?_ ?_
  ·rintro a w ⟨tell2, A7, c7, Ds2, hF, hS, hm⟩
   unfold board_pawn_J2 at hm
   refine seq_cut (fun a w => ∃ (Ds3 : List Nat), FrD Ds3 73 [pl 1 (vi from1), pl 3 (pa g5 0), pl 5 (pa g6 0), pl 6 (vi (w64 (8 * r1)))] a ∧ Sep w0 B w (blk g5 65 (ca A1 p1.length c1 p2 p3 p4 p5 p6) :: blk g6 158 #[.func (.func 140) #[] #[pa g1 0, pa g2 0]] :: blk g1 3 #[vi v1] :: blk g2 165 #[.func (.func 138) #[] #[pa g3 0, pa g4 0]] :: blk g3 65 (ca A2 v_Places1.length c2 v_Turn1 v_Castle1 v_EnPassant1 v_Half1 v_Full1) :: blk g4 66 #[.slice A7 tell2.length c7] :: ownK 126 3 A7 tell2.length c7 (List.flatMap enc126 tell2) :: defsH Ds3 :: fs) ∧ ((board_pawn_J3 p1 p2 from1 v1 v_Places1 v_Turn1 v_Castle1 v_EnPassant1 v_Half1 v_Full1 r1 tell2)).bind some = some r) ?_ ?_
   ·rintro a w ⟨Ds3, hF, hS, hm⟩
    unfold board_pawn_J3 at hm
    refine seqR ?_
    obtain ⟨r5, hr5, hm⟩ := call_b hm
    refine ar 4 [⟨false, [], vS (Instr.loadAt 158 (pa g6 0)), .func (.func 140) #[] #[pa g1 0, pa g2 0]⟩] [some (.func (.func 140) #[] #[pa g1 0, pa g2 0]), none, none, none] [1, 3, 5, 6, 44, 47] [pl 1 (vi from1), pl 3 (pa g5 0), pl 5 (pa g6 0), pl 6 (vi (w64 (8 * r1))), pl 44 (.func (.func 140) #[] #[pa g1 0, pa g2 0]), pl 47 (vi (w64 (from1 + (w64 (8 * r1)))))] hF hS ?_ (fun a w hF hS => ?_)
    ·exact obs_cons (ob_load Agg158 (fun _ _ hS => (hS.at_ 1 rfl).cell rfl)) <| obs_nil
    have hS : Sep w0 B w (blk g1 3 #[vi v1] :: blk g2 165 #[.func (.func 138) #[] #[pa g3 0, pa g4 0]] :: blk g3 65 (ca A2 v_Places1.length c2 v_Turn1 v_Castle1 v_EnPassant1 v_Half1 v_Full1) :: blk g4 66 #[.slice A7 tell2.length c7] :: ownK 126 3 A7 tell2.length c7 (List.flatMap enc126 tell2) :: blk g5 65 (ca A1 p1.length c1 p2 p3 p4 p5 p6) :: blk g6 158 #[.func (.func 140) #[] #[pa g1 0, pa g2 0]] :: defsH Ds3 :: fs) := hS.pickN 8 [2, 3, 4, 5, 6, 0, 1, 7] (by decide)
    refine at_call (f := 140) (args := #[vi (w64 (from1 + (w64 (8 * r1)))), pa g1 0, pa g2 0]) (d := 48) hF (by kernel_rfl) (by kernel_rfl) Try.func140 (by kernel_rfl) rfl (board_Moves_2_w hr5 hS (fun _ hS => (hr_v_Places1 _ (hS.dropN 3))) _hc_v_Places1 rfl) (fun v a w hR hF => ?_)
    clear hS
    obtain ⟨A8, c8, rfl, hS⟩ := hR
    have hS : Sep w0 B w (blk g1 3 #[vi v1] :: blk g2 165 #[.func (.func 138) #[] #[pa g3 0, pa g4 0]] :: blk g3 65 (ca A2 v_Places1.length c2 v_Turn1 v_Castle1 v_EnPassant1 v_Half1 v_Full1) :: blk g4 66 #[.slice A8 r5.length c8] :: ownK 126 3 A8 r5.length c8 (List.flatMap enc126 r5) :: blk g5 65 (ca A1 p1.length c1 p2 p3 p4 p5 p6) :: blk g6 158 #[.func (.func 140) #[] #[pa g1 0, pa g2 0]] :: defsH Ds3 :: fs) := hS
    refine ae [1, 3, 5, 6] [pl 1 (vi from1), pl 3 (pa g5 0), pl 5 (pa g6 0), pl 6 (vi (w64 (8 * r1)))] hF rfl (fun hF => ?_)
    refine then_n ?_
    obtain ⟨hp3, hm⟩ := asrt_b hm
    refine rg [⟨true, [], vS (Op.shift .shr .i64 from1 .u64 3), vi (shrK .i64 from1 3)⟩, ⟨false, [], vS (Instr.loadAt 3 (pa g5 1)), vi p2⟩, ⟨false, [(((shrK .i64 from1 3) == (w64 (1 + (w64 (5 * p2))))), true)], vS (Instr.loadAt 22 (pa g5 0)), .slice A1 p1.length c1⟩, ⟨true, [(((shrK .i64 from1 3) == (w64 (1 + (w64 (5 * p2))))), true)], vS (Instr.indexAt 22 (.slice A1 p1.length c1) (vi (w64 (from1 + (w64 (2 * (w64 (8 * r1)))))))), .pointer (some (sAddr A1 (w64 (from1 + (w64 (2 * (w64 (8 * r1))))))))⟩, ⟨false, [(((shrK .i64 from1 3) == (w64 (1 + (w64 (5 * p2))))), true)], vS (Instr.loadAt 3 (.pointer (some (sAddr A1 (w64 (from1 + (w64 (2 * (w64 (8 * r1)))))))))), vi (geti p1 (w64 (from1 + (w64 (2 * (w64 (8 * r1)))))))⟩] [none, some (vi (shrK .i64 from1 3)), none, some (vi p2), none, none, none, none, none, some (.slice A1 p1.length c1), none, none, none, none, some (.pointer (some (sAddr A1 (w64 (from1 + (w64 (2 * (w64 (8 * r1))))))))), some (vi (geti p1 (w64 (from1 + (w64 (2 * (w64 (8 * r1)))))))), none, none] [1, 5, 6, 66] [pl 1 (vi from1), pl 5 (pa g6 0), pl 6 (vi (w64 (8 * r1))), pl 66 (.bool (((shrK .i64 from1 3) == (w64 (1 + (w64 (5 * p2))))) && ((geti p1 (w64 (from1 + (w64 (2 * (w64 (8 * r1))))))) == 0)))] hF hS ?_ (fun a w hF hS => ?_)
    ·exact obs_cons (ob_shr (fun _ => by decide)) <| obs_cons (ob_load Agg3 (fun _ _ hS => (hS.at_ 5 rfl).cell rfl)) <| obs_cons (ob_load Agg22 (fun _ _ hS => (hS.at_ 5 rfl).cell rfl)) <| obs_cons (ob_ix1 (f := (Value.int .i64)) (m := p1) Und22 hi3 hs3 (hr_p1 _ (hS.dropN 8)) rfl (fun hy => hp3 (hy (((shrK .i64 from1 3) == (w64 (1 + (w64 (5 * p2))))), true) (by simp)))) <| obs_cons (ob_get1 (n := p1.length) (m := p1) (Value.int .i64) (0 : Int) Agg3 (fun _ hS => ⟨_, (hr_p1 _ (hS.dropN 8))⟩) (fun _ hS => rfl) (fun hy => hp3 (hy (((shrK .i64 from1 3) == (w64 (1 + (w64 (5 * p2))))), true) (by simp)))) <| obs_nil
    refine ce (t := 66) (b := ((shrK .i64 from1 3) == (w64 (1 + (w64 (5 * p2))))) && ((geti p1 (w64 (from1 + (w64 (2 * (w64 (8 * r1))))))) == 0)) hF (fun hb => ?_) (fun hb => ?_)
    ·replace hm := if_t hm hb
     refine oneR ?_
     obtain ⟨r6, hr6, hm⟩ := call_b hm
     refine ar 5 [⟨false, [], vS (Instr.loadAt 158 (pa g6 0)), .func (.func 140) #[] #[pa g1 0, pa g2 0]⟩] [some (.func (.func 140) #[] #[pa g1 0, pa g2 0]), none, none, none, none] [67, 71] [pl 67 (.func (.func 140) #[] #[pa g1 0, pa g2 0]), pl 71 (vi (w64 (from1 + (w64 (2 * (w64 (8 * r1)))))))] hF hS ?_ (fun a w hF hS => ?_)
     ·exact obs_cons (ob_load Agg158 (fun _ _ hS => (hS.at_ 6 rfl).cell rfl)) <| obs_nil
     refine at_call (f := 140) (args := #[vi (w64 (from1 + (w64 (2 * (w64 (8 * r1)))))), pa g1 0, pa g2 0]) (d := 72) hF (by kernel_rfl) (by kernel_rfl) Try.func140 (by kernel_rfl) rfl (board_Moves_2_w hr6 hS (fun _ hS => (hr_v_Places1 _ (hS.dropN 3))) _hc_v_Places1 rfl) (fun v a w hR hF => ?_)
     clear hS
     obtain ⟨A9, c9, rfl, hS⟩ := hR
     have hS : Sep w0 B w (blk g1 3 #[vi v1] :: blk g2 165 #[.func (.func 138) #[] #[pa g3 0, pa g4 0]] :: blk g3 65 (ca A2 v_Places1.length c2 v_Turn1 v_Castle1 v_EnPassant1 v_Half1 v_Full1) :: blk g4 66 #[.slice A9 r6.length c9] :: ownK 126 3 A9 r6.length c9 (List.flatMap enc126 r6) :: blk g5 65 (ca A1 p1.length c1 p2 p3 p4 p5 p6) :: blk g6 158 #[.func (.func 140) #[] #[pa g1 0, pa g2 0]] :: defsH Ds3 :: fs) := hS
     refine ae [] [] hF rfl (fun hF => ?_)
     refine then_n ?_
     have hS := hS.pickN 8 [0, 1, 2, 3, 4, 7] (by decide)
     exact ⟨r6, A9, c9, Ds3, hF.wk [], hS, hm⟩
    ·replace hm := if_f hm hb
     refine wpIn_skip ?_
     refine then_n ?_
     have hS := hS.pickN 8 [0, 1, 2, 3, 4, 7] (by decide)
     exact ⟨r5, A8, c8, Ds3, hF.wk [], hS, hm⟩
   ·obtain ⟨hp2, hm⟩ := asrt_b hm
    refine rg [⟨false, [], vS (Instr.loadAt 22 (pa g5 0)), .slice A1 p1.length c1⟩, ⟨true, [], vS (Instr.indexAt 22 (.slice A1 p1.length c1) (vi (w64 (from1 + (w64 (8 * r1)))))), .pointer (some (sAddr A1 (w64 (from1 + (w64 (8 * r1))))))⟩, ⟨false, [], vS (Instr.loadAt 3 (.pointer (some (sAddr A1 (w64 (from1 + (w64 (8 * r1)))))))), vi (geti p1 (w64 (from1 + (w64 (8 * r1)))))⟩] [none, some (.slice A1 p1.length c1), none, none, none, some (.pointer (some (sAddr A1 (w64 (from1 + (w64 (8 * r1))))))), some (vi (geti p1 (w64 (from1 + (w64 (8 * r1)))))), none] [1, 3, 5, 6, 43] [pl 1 (vi from1), pl 3 (pa g5 0), pl 5 (pa g6 0), pl 6 (vi (w64 (8 * r1))), pl 43 (.bool ((geti p1 (w64 (from1 + (w64 (8 * r1))))) != 0))] hF hS ?_ (fun a w hF hS => ?_)
    ·exact obs_cons (ob_load Agg22 (fun _ _ hS => (hS.at_ 0 rfl).cell rfl)) <| obs_cons (ob_ix1 (f := (Value.int .i64)) (m := p1) Und22 hi3 hs3 (hr_p1 _ (hS.dropN 8)) rfl (fun _ => hp2)) <| obs_cons (ob_get1 (n := p1.length) (m := p1) (Value.int .i64) (0 : Int) Agg3 (fun _ hS => ⟨_, (hr_p1 _ (hS.dropN 8))⟩) (fun _ hS => rfl) (fun _ => hp2)) <| obs_nil
    refine ce (t := 43) (b := ((geti p1 (w64 (from1 + (w64 (8 * r1))))) != 0)) hF (fun hb => ?_) (fun hb => ?_)
    ·replace hm := if_t hm hb
     refine wpIn_ret ?_
     refine then_r (then_r ?_)
     have hS := hS.pickN 8 [7, 0, 1, 2, 3, 4, 5, 6] (by decide)
     have hm : some tell2 = some r := hm
     obtain rfl := Option.some.inj hm
     exact retD (rs := []) (vs := []) hF hS rfl (fun w hS => by exact rv_nil) rfl (fun w hS => ⟨_, rfl, A7, c7, rfl, hS.pickN 7 [2, 3, 4, 5, 6] (by decide)⟩)
    ·replace hm := if_f hm hb
     refine wpIn_skip ?_
     refine then_n ?_
     exact ⟨Ds2, hF.wk [1, 3, 5, 6], hS, hm⟩
  ·refine seqR ?_
   obtain ⟨r2, hr2, hm⟩ := call_b hm
   refine ar 3 [⟨false, [], vS (Instr.loadAt 22 (pa g5 0)), .slice A1 p1.length c1⟩] [none, some (.slice A1 p1.length c1), none] [1, 3, 5, 6, 13, 14] [pl 1 (vi from1), pl 3 (pa g5 0), pl 5 (pa g6 0), pl 6 (vi (w64 (8 * r1))), pl 13 (.slice A1 p1.length c1), pl 14 (vi from1)] hF hS ?_ (fun a w hF hS => ?_)
   ·exact obs_cons (ob_load Agg22 (fun _ _ hS => (hS.at_ 1 rfl).cell rfl)) <| obs_nil
   refine at_call (f := 142) (args := #[.slice A1 p1.length c1, vi from1]) (d := 15) hF (by kernel_rfl) (by kernel_rfl) Try.func142 (by kernel_rfl) rfl (board_Reach_w hr2 hS (fun _ hS => (hr_p1 _ (hS.dropN 8))) _hc_p1 rfl) (fun v a w hR hF => ?_)
   clear hS
   obtain ⟨g7, g8, rfl, hS⟩ := hR
   have hS : Sep w0 B w (blk g7 22 #[.slice A1 p1.length c1] :: blk g8 3 #[vi r2] :: blk g6 158 #[.func (.func 140) #[] #[pa g1 0, pa g2 0]] :: blk g5 65 (ca A1 p1.length c1 p2 p3 p4 p5 p6) :: defsH ([]) :: blk g1 3 #[vi v1] :: blk g2 165 #[.func (.func 138) #[] #[pa g3 0, pa g4 0]] :: blk g3 65 (ca A2 v_Places1.length c2 v_Turn1 v_Castle1 v_EnPassant1 v_Half1 v_Full1) :: blk g4 66 #[.slice A3 v2.length c3] :: ownK 126 3 A3 v2.length c3 (List.flatMap enc126 v2) :: fs) := hS
   refine ae [1, 3, 5, 6, 15] [pl 1 (vi from1), pl 3 (pa g5 0), pl 5 (pa g6 0), pl 6 (vi (w64 (8 * r1))), pl 15 (.func (.func 155) #[] #[pa g7 0, pa g8 0])] hF rfl (fun hF => ?_)
   refine then_n ?_
   refine wpIn_block ?_
   have hS := hS.pickN 10 [8, 9, 4, 3, 2, 5, 6, 7, 0, 1] (by decide)
   obtain ⟨y1, hy1, hm⟩ := call_b hm
   refine range_out (ρ := [pl 1 (vi from1), pl 3 (pa g5 0), pl 5 (pa g6 0), pl 6 (vi (w64 (8 * r1))), pl 15 (.func (.func 155) #[] #[pa g7 0, pa g8 0])]) (lb := [pa g7 0, pa g8 0]) (y := y1) (enc := (fun (x : Int) => #[vi x])) (qs := [blk g4 66 #[.slice A3 v2.length c3], ownK 126 3 A3 v2.length c3 (List.flatMap enc126 v2)]) (fun (x : Int) => [(16, vi x)]) (fun (s : (List MvT)) qs => ∃ (A5 : Option Addr) (c5 : Nat), qs = [blk g4 66 #[.slice A5 s.length c5], ownK 126 3 A5 s.length c5 (List.flatMap enc126 s)]) (fun (_ : Unit) _ _ => False) (fun x s => (board_pawn_L1 p1 p2 p4 v1 v_Places1 v_Turn1 v_Castle1 v_EnPassant1 v_Half1 v_Full1) (x, s)) v2 (hF.wk [1, 3, 5, 6, 15]) hS (by kernel_rfl) Try.func155 (by kernel_rfl) rfl (by kernel_rfl) (by intro x; simp) (fun _ => rfl) (fun x p hp => ?_) ⟨A3, c3, rfl⟩ ?_ ?_ ?_ ?_
   ·simp only [List.mem_cons, List.not_mem_nil, or_false] at hp
    rcases hp with rfl <;> (dsimp only; decide)
   ·intro lr1 D1 RS w hY hS
    exact Calls.mono (board_Reach_1_w hy1 (hS.pickN 9 [0, 7, 8, 1, 2, 3, 4, 5, 6] (by decide)) (YieldC.perm (blk g7 22 #[.slice A1 p1.length c1] :: blk g8 3 #[vi r2] :: defsH (D1 :: ([])) :: blk g5 65 (ca A1 p1.length c1 p2 p3 p4 p5 p6) :: blk g6 158 #[.func (.func 140) #[] #[pa g1 0, pa g2 0]] :: blk g1 3 #[vi v1] :: blk g2 165 #[.func (.func 138) #[] #[pa g3 0, pa g4 0]] :: blk g3 65 (ca A2 v_Places1.length c2 v_Turn1 v_Castle1 v_EnPassant1 v_Half1 v_Full1) :: fs) hY (fun hS => hS.pickN 9 [0, 3, 4, 5, 6, 7, 8, 1, 2] (by decide)) (fun hS => hS.pickN 9 [0, 7, 8, 1, 2, 3, 4, 5, 6] (by decide))) (fun _ hS => (hr_p1 _ (hS.dropN 6))) _hc_p1 rfl) (fun e w' h => by obtain ⟨_, rfl, _, hS⟩ := h; exact hS.pickN 9 [0, 3, 4, 5, 6, 7, 8, 1, 2] (by decide))
   ·rintro lr1 D1 rr1 x1 tell1 r qs us1 a w hrr1 hm hI hF hS
    obtain ⟨A5, c5, rfl⟩ := hI
    replace hm := start_b hm
    unfold board_pawn_L1 at hm
    dsimp only at hm hF hS
    have hF : Fr 73 [pl 1 (vi from1), pl 3 (pa g5 0), pl 5 (pa g6 0), pl 6 (vi (w64 (8 * r1))), pl 15 (.func (.func 155) #[] #[pa g7 0, pa g8 0]), pl 16 (vi x1)] a := hF.wk [1, 3, 5, 6, 15, 16]
    have hS : Sep w0 B w (recH lr1 rr1 :: blk g4 66 #[.slice A5 tell1.length c5] :: ownK 126 3 A5 tell1.length c5 (List.flatMap enc126 tell1) :: defsH (D1 :: ([])) :: blk g5 65 (ca A1 p1.length c1 p2 p3 p4 p5 p6) :: blk g6 158 #[.func (.func 140) #[] #[pa g1 0, pa g2 0]] :: blk g1 3 #[vi v1] :: blk g2 165 #[.func (.func 138) #[] #[pa g3 0, pa g4 0]] :: blk g3 65 (ca A2 v_Places1.length c2 v_Turn1 v_Castle1 v_EnPassant1 v_Half1 v_Full1) :: blk g7 22 #[.slice A1 p1.length c1] :: blk g8 3 #[vi r2] :: (fs ++ us1)) := hS
    refine rg1 [] [] [3, 5, 7] [pl 3 (pa g5 0), pl 5 (pa g6 0), pl 7 (vi x1)] hF hS obs_nil (fun a w hF hS => ?_)
    refine then_n ?_
    refine begin_r hS hrr1 (fun w hS => ?_)
    have hS : Sep w0 B w (recH lr1 { rr1 with state := .busy } :: blk g4 66 #[.slice A5 tell1.length c5] :: ownK 126 3 A5 tell1.length c5 (List.flatMap enc126 tell1) :: defsH (D1 :: ([])) :: blk g5 65 (ca A1 p1.length c1 p2 p3 p4 p5 p6) :: blk g6 158 #[.func (.func 140) #[] #[pa g1 0, pa g2 0]] :: blk g1 3 #[vi v1] :: blk g2 165 #[.func (.func 138) #[] #[pa g3 0, pa g4 0]] :: blk g3 65 (ca A2 v_Places1.length c2 v_Turn1 v_Castle1 v_EnPassant1 v_Half1 v_Full1) :: blk g7 22 #[.slice A1 p1.length c1] :: blk g8 3 #[vi r2] :: (fs ++ us1)) := hS
    refine wpIn_block ?_
    obtain ⟨hp1, hm⟩ := asrt_b hm
    obtain ⟨r3, hr3, hm⟩ := call_b hm
    refine rg [⟨false, [], vS (Instr.loadAt 22 (pa g5 0)), .slice A1 p1.length c1⟩, ⟨true, [], vS (Instr.indexAt 22 (.slice A1 p1.length c1) (vi x1)), .pointer (some (sAddr A1 x1))⟩, ⟨false, [], vS (Instr.loadAt 3 (.pointer (some (sAddr A1 x1)))), vi (geti p1 x1)⟩, ⟨false, [], callFunc 108 #[vi (geti p1 x1)], vi r3⟩, ⟨false, [], vS (Instr.loadAt 3 (pa g5 1)), vi p2⟩, ⟨false, [((r3 == (w64 (1 - p2))), false)], vS (Instr.loadAt 3 (pa g5 3)), vi p4⟩] [none, some (.slice A1 p1.length c1), none, some (.pointer (some (sAddr A1 x1))), some (vi (geti p1 x1)), some (vi r3), none, some (vi p2), none, none, none, none, none, some (vi p4), none, none] [5, 7, 32] [pl 5 (pa g6 0), pl 7 (vi x1), pl 32 (.bool ((r3 == (w64 (1 - p2))) || (x1 == p4)))] hF hS ?_ (fun a w hF hS => ?_)
    ·exact obs_cons (ob_load Agg22 (fun _ _ hS => (hS.at_ 4 rfl).cell rfl)) <| obs_cons (ob_ix1 (f := (Value.int .i64)) (m := p1) Und22 hi3 hs3 (hr_p1 _ (hS.dropN 11).pre) rfl (fun _ => hp1)) <| obs_cons (ob_get1 (n := p1.length) (m := p1) (Value.int .i64) (0 : Int) Agg3 (fun _ hS => ⟨_, (hr_p1 _ (hS.dropN 11).pre)⟩) (fun _ hS => rfl) (fun _ => hp1)) <| obs_cons (ob_call Try.func108 (by kernel_rfl) rfl (fun _ _ hS => board_Side_w hr3 hS )) <| obs_cons (ob_load Agg3 (fun _ _ hS => (hS.at_ 4 rfl).cell rfl)) <| obs_cons (ob_load Agg3 (fun _ _ hS => (hS.at_ 4 rfl).cell rfl)) <| obs_nil
    refine ce (t := 32) (b := (r3 == (w64 (1 - p2))) || (x1 == p4)) hF (fun hb => ?_) (fun hb => ?_)
    ·replace hm := if_t hm hb
     refine oneR ?_
     obtain ⟨r4, hr4, hm⟩ := call_b hm
     refine ar 2 [⟨false, [], vS (Instr.loadAt 158 (pa g6 0)), .func (.func 140) #[] #[pa g1 0, pa g2 0]⟩] [some (.func (.func 140) #[] #[pa g1 0, pa g2 0]), none] [33, 34] [pl 33 (.func (.func 140) #[] #[pa g1 0, pa g2 0]), pl 34 (vi x1)] hF hS ?_ (fun a w hF hS => ?_)
     ·exact obs_cons (ob_load Agg158 (fun _ _ hS => (hS.at_ 5 rfl).cell rfl)) <| obs_nil
     have hS : Sep w0 B w (blk g1 3 #[vi v1] :: blk g2 165 #[.func (.func 138) #[] #[pa g3 0, pa g4 0]] :: blk g3 65 (ca A2 v_Places1.length c2 v_Turn1 v_Castle1 v_EnPassant1 v_Half1 v_Full1) :: blk g4 66 #[.slice A5 tell1.length c5] :: ownK 126 3 A5 tell1.length c5 (List.flatMap enc126 tell1) :: recH lr1 { rr1 with state := .busy } :: defsH (D1 :: ([])) :: blk g5 65 (ca A1 p1.length c1 p2 p3 p4 p5 p6) :: blk g6 158 #[.func (.func 140) #[] #[pa g1 0, pa g2 0]] :: blk g7 22 #[.slice A1 p1.length c1] :: blk g8 3 #[vi r2] :: (fs ++ us1)) := hS.pickN 11 [6, 7, 8, 1, 2, 0, 3, 4, 5, 9, 10] (by decide)
     refine at_call (f := 140) (args := #[vi x1, pa g1 0, pa g2 0]) (d := 35) hF (by kernel_rfl) (by kernel_rfl) Try.func140 (by kernel_rfl) rfl (board_Moves_2_w hr4 hS (fun _ hS => (hr_v_Places1 _ (hS.dropN 6).pre)) _hc_v_Places1 rfl) (fun v a w hR hF => ?_)
     clear hS
     obtain ⟨A6, c6, rfl, hS⟩ := hR
     have hS : Sep w0 B w (blk g1 3 #[vi v1] :: blk g2 165 #[.func (.func 138) #[] #[pa g3 0, pa g4 0]] :: blk g3 65 (ca A2 v_Places1.length c2 v_Turn1 v_Castle1 v_EnPassant1 v_Half1 v_Full1) :: blk g4 66 #[.slice A6 r4.length c6] :: ownK 126 3 A6 r4.length c6 (List.flatMap enc126 r4) :: recH lr1 { rr1 with state := .busy } :: defsH (D1 :: ([])) :: blk g5 65 (ca A1 p1.length c1 p2 p3 p4 p5 p6) :: blk g6 158 #[.func (.func 140) #[] #[pa g1 0, pa g2 0]] :: blk g7 22 #[.slice A1 p1.length c1] :: blk g8 3 #[vi r2] :: (fs ++ us1)) := hS
     refine ae [] [] hF rfl (fun hF => ?_)
     refine block_n ?_
     have hS := hS.pickN 11 [5, 3, 4, 6, 7, 8, 0, 1, 2, 9, 10] (by decide)
     have hm : some (.next r4) = some r := hm
     obtain rfl := Option.some.inj hm
     exact ⟨_, _, rfl, ⟨A6, c6, rfl⟩, hS⟩
    ·replace hm := if_f hm hb
     refine wpIn_skip ?_
     refine block_n ?_
     have hm : some (.next tell1) = some r := hm
     obtain rfl := Option.some.inj hm
     exact ⟨_, _, rfl, ⟨A5, c5, rfl⟩, hS⟩
   ·rintro tell1 D1 qs a w hy1e hI hF hS
    obtain ⟨A5, c5, rfl⟩ := hI
    rw [hy1e] at hm
    unfold board_pawn_K1 at hm
    dsimp only at hm hF hS
    have hF : FrD (D1 :: ([])) 73 [pl 1 (vi from1), pl 3 (pa g5 0), pl 5 (pa g6 0), pl 6 (vi (w64 (8 * r1))), pl 15 (.func (.func 155) #[] #[pa g7 0, pa g8 0])] a := hF
    have hS : Sep w0 B w (blk g4 66 #[.slice A5 tell1.length c5] :: ownK 126 3 A5 tell1.length c5 (List.flatMap enc126 tell1) :: defsH (D1 :: ([])) :: blk g5 65 (ca A1 p1.length c1 p2 p3 p4 p5 p6) :: blk g6 158 #[.func (.func 140) #[] #[pa g1 0, pa g2 0]] :: blk g1 3 #[vi v1] :: blk g2 165 #[.func (.func 138) #[] #[pa g3 0, pa g4 0]] :: blk g3 65 (ca A2 v_Places1.length c2 v_Turn1 v_Castle1 v_EnPassant1 v_Half1 v_Full1) :: blk g7 22 #[.slice A1 p1.length c1] :: blk g8 3 #[vi r2] :: fs) := hS
    refine block_n ?_
    refine then_n ?_
    have hS := hS.pickN 10 [3, 4, 5, 6, 7, 0, 1, 2] (by decide)
    exact ⟨tell1, A5, c5, (D1 :: ([])), hF.wk [1, 3, 5, 6], hS, hm⟩
   ·intro x c D1 qs a w _ h
    exact h.elim

def board_Moves_3_J1  (p12 : List MvT) : Option (List MvT) :=
 some p12

def board_Moves_3_m  (m1 m2 m3 : Int) (v_Places1 : List Int) (v_Turn1 v_Castle1 : Int) (v_EnPassant1 v_Half1 v_Full1 : Int) (v1 : List MvT) : Option (List MvT) :=
 (board_Moves_1_m m1 m2 m3 v_Places1 v_Turn1 v_Castle1 v_EnPassant1 v_Half1 v_Full1 v1).bind fun r1 => board_Moves_3_J1 r1.2

theorem board_Moves_3_w  {m1 m2 m3 : Int} {g1 g2 : Nat} {A1 : Option Addr} {c1 n1 : Nat} {v_Places1 : List Int} {v_Turn1 v_Castle1 : Int} {v_EnPassant1 v_Half1 v_Full1 : Int} {g3 : Nat} {A2 : Option Addr} {c2 n2 : Nat} {v1 : List MvT} {r : (List MvT)} {w0 w : World} {B : Nat} {fs : List HP} (hm : board_Moves_3_m m1 m2 m3 v_Places1 v_Turn1 v_Castle1 v_EnPassant1 v_Half1 v_Full1 v1 = some r) (hS : Sep w0 B w (blk g1 165 #[.func (.func 138) #[] #[pa g2 0, pa g3 0]] :: blk g2 65 (ca A1 n1 c1 v_Turn1 v_Castle1 v_EnPassant1 v_Half1 v_Full1) :: blk g3 66 #[.slice A2 n2 c2] :: ownK 126 3 A2 n2 c2 (List.flatMap enc126 v1) :: fs)) (hr_v_Places1 : RdF w0 B fs A1 (vI v_Places1)) (_hc_v_Places1 : v_Places1.length ≤ c1) (_hn_v_Places1 : n1 = v_Places1.length) :
  Calls Try.prog 144 #[.agg #[vi m1, vi m2, vi m3], pa g1 0] w fun e w' => ∃ v, e = .returned v ∧ ∃ (A3 : Option Addr) (c3 : Nat), v = .tuple #[] ∧ Sep w0 B w' (blk g1 165 #[.func (.func 138) #[] #[pa g2 0, pa g3 0]] :: blk g2 65 (ca A1 n1 c1 v_Turn1 v_Castle1 v_EnPassant1 v_Half1 v_Full1) :: blk g3 66 #[.slice A3 r.length c3] :: ownK 126 3 A3 r.length c3 (List.flatMap enc126 r) :: fs) := by
 obtain ⟨i3, hi3, hz3, hs3, hb3⟩ := info_parts Info3
 obtain ⟨i126, hi126, hz126, hs126, hb126⟩ := info_parts Info126
 obtain rfl := (hS.at_ 3 rfl).lenK encK126
 obtain rfl := _hn_v_Places1
 unfold board_Moves_3_m at hm
 replace hm := start_b hm
 refine enter (l := [.agg #[vi m1, vi m2, vi m3], pa g1 0]) (n := 6) Try.func144 rfl rfl (by simp) (fun a hF => ?_)
 refine end_cut (fun a w => ∃ (p12 : List MvT) (A5 : Option Addr) (c5 : Nat), Fr 6 [] a ∧ Sep w0 B w (blk g1 165 #[.func (.func 138) #[] #[pa g2 0, pa g3 0]] :: blk g2 65 (ca A1 v_Places1.length c1 v_Turn1 v_Castle1 v_EnPassant1 v_Half1 v_Full1) :: blk g3 66 #[.slice A5 p12.length c5] :: ownK 126 3 A5 p12.length c5 (List.flatMap enc126 p12) :: fs) ∧ (board_Moves_3_J1 p12).bind some = some r) ?_ ?_
 ·rintro a w ⟨p12, A5, c5, hF, hS, hm⟩
  unfold board_Moves_3_J1 at hm
  have hm : some p12 = some r := hm
  obtain rfl := Option.some.inj hm
  exact endV (rs := []) (vs := []) hF rfl (rv_nil) rfl ⟨_, rfl, A5, c5, rfl, hS⟩ rfl
 ·refine seqR ?_
  refine at_do (d := 2) (s := vS (Instr.box 126 (.agg #[vi m1, vi m2, vi m3]))) (v := pa w.heap.size 0) (w' := w.alloc (.cells #[vi m1, vi m2, vi m3] 126)) hF (by kernel_rfl) (by kernel_rfl) (by kernel_rfl) (fun a hF => ?_)
  have hS : Sep w0 B (w.alloc (.cells #[vi m1, vi m2, vi m3] 126)) (blk w.heap.size 126 #[vi m1, vi m2, vi m3] :: (blk g1 165 #[.func (.func 138) #[] #[pa g2 0, pa g3 0]] :: blk g2 65 (ca A1 v_Places1.length c1 v_Turn1 v_Castle1 v_EnPassant1 v_Half1 v_Full1) :: blk g3 66 #[.slice A2 v1.length c2] :: ownK 126 3 A2 v1.length c2 (List.flatMap enc126 v1) :: fs)) := hS.box 126 #[vi m1, vi m2, vi m3]
  generalize w.heap.size = g4 at hF hS
  generalize w.alloc (.cells #[vi m1, vi m2, vi m3] 126) = w at hS ⊢
  refine ae [1, 2] [pl 1 (pa g1 0), pl 2 (pa g4 0)] hF rfl (fun hF => ?_)
  refine then_n ?_
  refine oneR ?_
  obtain ⟨r1, hr1, hm⟩ := call_b hm
  refine ar 2 [⟨false, [], vS (Instr.loadAt 165 (pa g1 0)), .func (.func 138) #[] #[pa g2 0, pa g3 0]⟩, ⟨false, [], vS (Instr.loadAt 126 (pa g4 0)), .agg #[vi m1, vi m2, vi m3]⟩] [some (.func (.func 138) #[] #[pa g2 0, pa g3 0]), some (.agg #[vi m1, vi m2, vi m3])] [3, 4] [pl 3 (.func (.func 138) #[] #[pa g2 0, pa g3 0]), pl 4 (.agg #[vi m1, vi m2, vi m3])] hF hS ?_ (fun a w hF hS => ?_)
  ·exact obs_cons (ob_load Agg165 (fun _ _ hS => (hS.at_ 1 rfl).cell rfl)) <| obs_cons (oA (cs := #[vi m1, vi m2, vi m3]) (fun _ _ hS => (hS.at_ 0 rfl).cellsAt 0 (by rfl))) <| obs_nil
  have hS : Sep w0 B w (blk g2 65 (ca A1 v_Places1.length c1 v_Turn1 v_Castle1 v_EnPassant1 v_Half1 v_Full1) :: blk g3 66 #[.slice A2 v1.length c2] :: ownK 126 3 A2 v1.length c2 (List.flatMap enc126 v1) :: blk g4 126 #[vi m1, vi m2, vi m3] :: blk g1 165 #[.func (.func 138) #[] #[pa g2 0, pa g3 0]] :: fs) := hS.pickN 5 [2, 3, 4, 0, 1] (by decide)
  refine at_call (f := 138) (args := #[.agg #[vi m1, vi m2, vi m3], pa g2 0, pa g3 0]) (d := 5) hF (by kernel_rfl) (by kernel_rfl) Try.func138 (by kernel_rfl) rfl (board_Moves_1_w hr1 hS (fun _ hS => (hr_v_Places1 _ (hS.dropN 2))) _hc_v_Places1 rfl) (fun v a w hR hF => ?_)
  clear hS
  obtain ⟨A4, c4, rfl, hS⟩ := hR
  have hS : Sep w0 B w (blk g2 65 (ca A1 v_Places1.length c1 v_Turn1 v_Castle1 v_EnPassant1 v_Half1 v_Full1) :: blk g3 66 #[.slice A4 r1.2.length c4] :: ownK 126 3 A4 r1.2.length c4 (List.flatMap enc126 r1.2) :: blk g4 126 #[vi m1, vi m2, vi m3] :: blk g1 165 #[.func (.func 138) #[] #[pa g2 0, pa g3 0]] :: fs) := hS
  refine ae [] [] hF rfl (fun hF => ?_)
  refine then_n ?_
  have hS := hS.pickN 5 [4, 0, 1, 2] (by decide)
  exact ⟨r1.2, A4, c4, hF.wk [], hS, hm⟩

def board_castles_J7  (p1 : List Int) (n4 : Int) (free1 : Bool) (at1 : Int) : Option (St (Bool × Int) Bool) :=
 some (.next ((free1 && ((geti p1 at1) == 0)), (w64 (at1 + (w64 (1 - (w64 (2 * (bAnd n4 1)))))))))

def board_castles_J6  (p1 : List Int) (n4 : Int) (free1 : Bool) (at1 : Int) : Option (St (Bool × Int) Bool) :=
 asrt (free1 = true → 0 ≤ at1 ∧ at1 < (p1.length : Int)) <| (board_castles_J7 p1 n4 free1 at1)

def board_castles_J10  (z1 : Int) (free5 : Bool) : Option (St (Bool × Int) Bool) :=
 some (.next (free5, (w64 (z1 + 1))))

def board_castles_J9  (p1 : List Int) (p2 n4 : Int) (r1 : (Int × Int)) (free3 : Bool) (z1 : Int) : Option (St (Bool × Int) Bool) :=
 if free3 then ((board_Attackers_m p1 (w64 (r1.1 + (w64 (z1 * (w64 (1 - (w64 (2 * (bAnd n4 1))))))))) (w64 (1 - p2))).bind fun r2 => (board_castles_J10 z1) (free3 && ((r2.length : Int) == 0))) else ((board_castles_J10 z1) (free3 && ((0 : Int) == 0)))

def board_castles_L3  (p1 : List Int) (p2 n4 : Int) (r1 : (Int × Int)) : (Bool × Int) → Option (St (Bool × Int) Bool) :=
 fun (x : (Bool × Int)) => match x with | (free3, z1) => if (decide (z1 < 3)) then ((board_castles_J9 p1 p2 n4 r1 free3 z1)) else (some (.done free3))

def board_castles_J3  (n4 : Int) (tell2 : List MvT) : Option (St (List MvT × Int) (List MvT)) :=
 some (.next (tell2, (w64 (n4 + 1))))

def board_castles_J8  (v_Places1 : List Int) (v_Turn1 v_Castle1 : Int) (v_EnPassant1 v_Half1 v_Full1 : Int) (tell1 : List MvT) (n4 : Int) (r1 : (Int × Int)) (free4 : Bool) : Option (St (List MvT × Int) (List MvT)) :=
 if free4 then ((board_Moves_3_m r1.1 (w64 (r1.1 + (w64 (2 * (w64 (1 - (w64 (2 * (bAnd n4 1))))))))) 0 v_Places1 v_Turn1 v_Castle1 v_EnPassant1 v_Half1 v_Full1 tell1).bind fun r3 => (board_castles_J3 n4) r3) else ((board_castles_J3 n4) tell1)

def board_castles_K3  (v_Places1 : List Int) (v_Turn1 v_Castle1 : Int) (v_EnPassant1 v_Half1 v_Full1 : Int) (tell1 : List MvT) (n4 : Int) (r1 : (Int × Int)) : Bool → Option (St (List MvT × Int) (List MvT)) :=
 fun (x : Bool) => match x with | free4 => (board_castles_J8 v_Places1 v_Turn1 v_Castle1 v_EnPassant1 v_Half1 v_Full1 tell1 n4 r1) free4

def board_castles_J5  (p1 : List Int) (p2 : Int) (v_Places1 : List Int) (v_Turn1 v_Castle1 : Int) (v_EnPassant1 v_Half1 v_Full1 : Int) (tell1 : List MvT) (n4 : Int) (r1 : (Int × Int)) (free2 : Bool) : Option (St (List MvT × Int) (List MvT)) :=
 (loop (board_castles_L3 p1 p2 n4 r1) (free2, 0)).bind (board_castles_K3 v_Places1 v_Turn1 v_Castle1 v_EnPassant1 v_Half1 v_Full1 tell1 n4 r1)

def board_castles_K2  (p1 : List Int) (p2 : Int) (v_Places1 : List Int) (v_Turn1 v_Castle1 : Int) (v_EnPassant1 v_Half1 v_Full1 : Int) (tell1 : List MvT) (n4 : Int) (r1 : (Int × Int)) : Bool → Option (St (List MvT × Int) (List MvT)) :=
 fun (x : Bool) => match x with | free2 => (board_castles_J5 p1 p2 v_Places1 v_Turn1 v_Castle1 v_EnPassant1 v_Half1 v_Full1 tell1 n4 r1) free2

def board_castles_L2  (p1 : List Int) (n4 : Int) (r1 : (Int × Int)) : (Bool × Int) → Option (St (Bool × Int) Bool) :=
 fun (x : (Bool × Int)) => match x with | (free1, at1) => if (at1 != r1.2) then ((board_castles_J6 p1 n4 free1 at1)) else (some (.done free1))

def board_castles_J4  (p1 : List Int) (p2 : Int) (v_Places1 : List Int) (v_Turn1 v_Castle1 : Int) (v_EnPassant1 v_Half1 v_Full1 : Int) (tell1 : List MvT) (n4 : Int) (r1 : (Int × Int)) : Option (St (List MvT × Int) (List MvT)) :=
 (loop (board_castles_L2 p1 n4 r1) (true, (w64 (r1.1 + (w64 (1 - (w64 (2 * (bAnd n4 1))))))))).bind (board_castles_K2 p1 p2 v_Places1 v_Turn1 v_Castle1 v_EnPassant1 v_Half1 v_Full1 tell1 n4 r1)

def board_castles_J2  (p1 : List Int) (p2 p3 : Int) (v_Places1 : List Int) (v_Turn1 v_Castle1 : Int) (v_EnPassant1 v_Half1 v_Full1 : Int) (tell1 : List MvT) (n4 : Int) : Option (St (List MvT × Int) (List MvT)) :=
 (board_Right_m n4).bind fun r1 => asrt ((0 : Int) ≤ n4) <| if ((bAnd (shrK .i64 p3 n4) 1) == 0) then ((board_castles_J3 n4) tell1) else ((board_castles_J4 p1 p2 v_Places1 v_Turn1 v_Castle1 v_EnPassant1 v_Half1 v_Full1 tell1 n4 r1))

def board_castles_J1  (v3 : List MvT) : Option (List MvT) :=
 some v3

def board_castles_K1  : (List MvT) → Option (List MvT) :=
 fun (x : (List MvT)) => match x with | v3 => board_castles_J1 v3

def board_castles_L1  (p1 : List Int) (p2 p3 : Int) (v_Places1 : List Int) (v_Turn1 v_Castle1 : Int) (v_EnPassant1 v_Half1 v_Full1 : Int) : (List MvT × Int) → Option (St (List MvT × Int) (List MvT)) :=
 fun (x : (List MvT × Int)) => match x with | (tell1, n4) => if (decide (n4 < (w64 ((w64 (2 * p2)) + 2)))) then ((board_castles_J2 p1 p2 p3 v_Places1 v_Turn1 v_Castle1 v_EnPassant1 v_Half1 v_Full1 tell1 n4)) else (some (.done tell1))

def board_castles_m  (p1 : List Int) (p2 p3 : Int) (p4 p5 p6 : Int) (v_Places1 : List Int) (v_Turn1 v_Castle1 : Int) (v_EnPassant1 v_Half1 v_Full1 : Int) (v1 : List MvT) : Option (List MvT) :=
 (loop (board_castles_L1 p1 p2 p3 v_Places1 v_Turn1 v_Castle1 v_EnPassant1 v_Half1 v_Full1) (v1, (w64 (2 * p2)))).bind board_castles_K1

theorem board_castles_w  {A1 : Option Addr} {c1 n1 : Nat} {p1 : List Int} {p2 p3 : Int} {p4 p5 p6 : Int} {g1 g2 : Nat} {A2 : Option Addr} {c2 n2 : Nat} {v_Places1 : List Int} {v_Turn1 v_Castle1 : Int} {v_EnPassant1 v_Half1 v_Full1 : Int} {g3 : Nat} {A3 : Option Addr} {c3 n3 : Nat} {v1 : List MvT} {r : (List MvT)} {w0 w : World} {B : Nat} {fs : List HP} (hm : board_castles_m p1 p2 p3 p4 p5 p6 v_Places1 v_Turn1 v_Castle1 v_EnPassant1 v_Half1 v_Full1 v1 = some r) (hS : Sep w0 B w (blk g1 165 #[.func (.func 138) #[] #[pa g2 0, pa g3 0]] :: blk g2 65 (ca A2 n2 c2 v_Turn1 v_Castle1 v_EnPassant1 v_Half1 v_Full1) :: blk g3 66 #[.slice A3 n3 c3] :: ownK 126 3 A3 n3 c3 (List.flatMap enc126 v1) :: fs)) (hr_p1 : RdF w0 B fs A1 (vI p1)) (_hc_p1 : p1.length ≤ c1) (_hn_p1 : n1 = p1.length) (hr_v_Places1 : RdF w0 B fs A2 (vI v_Places1)) (_hc_v_Places1 : v_Places1.length ≤ c2) (_hn_v_Places1 : n2 = v_Places1.length) :
  Calls Try.prog 143 #[.agg (ca A1 n1 c1 p2 p3 p4 p5 p6), .func (.func 144) #[] #[pa g1 0]] w fun e w' => ∃ v, e = .returned v ∧ ∃ (A4 : Option Addr) (c4 : Nat), v = .tuple #[] ∧ Sep w0 B w' (blk g1 165 #[.func (.func 138) #[] #[pa g2 0, pa g3 0]] :: blk g2 65 (ca A2 n2 c2 v_Turn1 v_Castle1 v_EnPassant1 v_Half1 v_Full1) :: blk g3 66 #[.slice A4 r.length c4] :: ownK 126 3 A4 r.length c4 (List.flatMap enc126 r) :: fs) := by
 obtain ⟨i3, hi3, hz3, hs3, hb3⟩ := info_parts Info3
 obtain ⟨i126, hi126, hz126, hs126, hb126⟩ := info_parts Info126
 obtain rfl := (hS.at_ 3 rfl).lenK encK126
 obtain rfl := _hn_p1
 obtain rfl := _hn_v_Places1
 unfold board_castles_m at hm
 replace hm := start_b hm
 refine enter (l := [.agg (ca A1 p1.length c1 p2 p3 p4 p5 p6), .func (.func 144) #[] #[pa g1 0]]) (n := 84) Try.func143 rfl rfl (by simp) (fun a hF => ?_)
 refine end_cut (fun a w => ∃ (v3 : List MvT) (A6 : Option Addr) (c6 : Nat), Fr 84 [] a ∧ Sep w0 B w (blk g1 165 #[.func (.func 138) #[] #[pa g2 0, pa g3 0]] :: blk g2 65 (ca A2 v_Places1.length c2 v_Turn1 v_Castle1 v_EnPassant1 v_Half1 v_Full1) :: blk g3 66 #[.slice A6 v3.length c6] :: ownK 126 3 A6 v3.length c6 (List.flatMap enc126 v3) :: fs) ∧ (board_castles_J1 v3).bind some = some r) ?_ ?_
 ·rintro a w ⟨v3, A6, c6, hF, hS, hm⟩
  unfold board_castles_J1 at hm
  have hm : some v3 = some r := hm
  obtain rfl := Option.some.inj hm
  exact endV (rs := []) (vs := []) hF rfl (rv_nil) rfl ⟨_, rfl, A6, c6, rfl, hS⟩ rfl
 ·refine seqR ?_
  refine at_do (d := 2) (s := vS (Instr.box 65 (.agg (ca A1 p1.length c1 p2 p3 p4 p5 p6)))) (v := pa w.heap.size 0) (w' := w.alloc (.cells (ca A1 p1.length c1 p2 p3 p4 p5 p6) 65)) hF (by kernel_rfl) (by kernel_rfl) (by kernel_rfl) (fun a hF => ?_)
  have hS : Sep w0 B (w.alloc (.cells (ca A1 p1.length c1 p2 p3 p4 p5 p6) 65)) (blk w.heap.size 65 (ca A1 p1.length c1 p2 p3 p4 p5 p6) :: (blk g1 165 #[.func (.func 138) #[] #[pa g2 0, pa g3 0]] :: blk g2 65 (ca A2 v_Places1.length c2 v_Turn1 v_Castle1 v_EnPassant1 v_Half1 v_Full1) :: blk g3 66 #[.slice A3 v1.length c3] :: ownK 126 3 A3 v1.length c3 (List.flatMap enc126 v1) :: fs)) := hS.box 65 (ca A1 p1.length c1 p2 p3 p4 p5 p6)
  generalize w.heap.size = g4 at hF hS
  generalize w.alloc (.cells (ca A1 p1.length c1 p2 p3 p4 p5 p6) 65) = w at hS ⊢
  refine ae [1, 2] [pl 1 (.func (.func 144) #[] #[pa g1 0]), pl 2 (pa g4 0)] hF rfl (fun hF => ?_)
  refine then_n ?_
  refine rg [⟨false, [], vS (Instr.loadAt 3 (pa g4 1)), vi p2⟩] [none, some (vi p2), none, none] [1, 2, 4] [pl 1 (.func (.func 144) #[] #[pa g1 0]), pl 2 (pa g4 0), pl 4 (vi (w64 (2 * p2)))] hF hS ?_ (fun a w hF hS => ?_)
  ·exact obs_cons (ob_load Agg3 (fun _ _ hS => (hS.at_ 0 rfl).cell rfl)) <| obs_nil
  refine wpIn_block ?_
  have hS := hS.pickN 5 [1, 2, 3, 4, 0] (by decide)
  refine wp_loop_model (S := (List MvT × Int)) (R := (List MvT)) (board_castles_L1 p1 p2 p3 v_Places1 v_Turn1 v_Castle1 v_EnPassant1 v_Half1 v_Full1) (fun x => (board_castles_K1 x).bind some) r (fun (x : (List MvT × Int)) a w => ∃ (A5 : Option Addr) (c5 : Nat), Fr 84 [pl 1 (.func (.func 144) #[] #[pa g1 0]), pl 2 (pa g4 0), pl 4 (vi x.2)] a ∧ Sep w0 B w (blk g1 165 #[.func (.func 138) #[] #[pa g2 0, pa g3 0]] :: blk g2 65 (ca A2 v_Places1.length c2 v_Turn1 v_Castle1 v_EnPassant1 v_Half1 v_Full1) :: blk g3 66 #[.slice A5 x.1.length c5] :: ownK 126 3 A5 x.1.length c5 (List.flatMap enc126 x.1) :: blk g4 65 (ca A1 p1.length c1 p2 p3 p4 p5 p6) :: fs)) (assoc_b hm) ⟨A3, c3, hF.wk [1, 2, 4], hS⟩ ?_
  clear hF hS hm
  rintro nn1 ⟨tell1, n4⟩ a w ⟨A5, c5, hF, hS⟩ hm
  generalize hφ1 : stK (board_castles_L1 p1 p2 p3 v_Places1 v_Turn1 v_Castle1 v_EnPassant1 v_Half1 v_Full1) nn1 (fun x => (board_castles_K1 x).bind some) = φ1 at hm
  unfold board_castles_L1 at hm
  dsimp only at hF hS hm
  refine seq_cut (fun a w => Fr 84 [pl 1 (.func (.func 144) #[] #[pa g1 0]), pl 2 (pa g4 0), pl 4 (vi n4)] a ∧ Sep w0 B w (blk g1 165 #[.func (.func 138) #[] #[pa g2 0, pa g3 0]] :: blk g2 65 (ca A2 v_Places1.length c2 v_Turn1 v_Castle1 v_EnPassant1 v_Half1 v_Full1) :: blk g3 66 #[.slice A5 tell1.length c5] :: ownK 126 3 A5 tell1.length c5 (List.flatMap enc126 tell1) :: blk g4 65 (ca A1 p1.length c1 p2 p3 p4 p5 p6) :: fs) ∧ ((board_castles_J2 p1 p2 p3 v_Places1 v_Turn1 v_Castle1 v_EnPassant1 v_Half1 v_Full1 tell1 n4)).bind φ1 = some r) ?_ ?_
  ·rintro a w ⟨hF, hS, hm⟩
   unfold board_castles_J2 at hm
   refine seq_cut (fun a w => ∃ (tell2 : List MvT) (A7 : Option Addr) (c7 : Nat), Fr 84 [pl 1 (.func (.func 144) #[] #[pa g1 0]), pl 2 (pa g4 0), pl 4 (vi n4)] a ∧ Sep w0 B w (blk g1 165 #[.func (.func 138) #[] #[pa g2 0, pa g3 0]] :: blk g2 65 (ca A2 v_Places1.length c2 v_Turn1 v_Castle1 v_EnPassant1 v_Half1 v_Full1) :: blk g3 66 #[.slice A7 tell2.length c7] :: ownK 126 3 A7 tell2.length c7 (List.flatMap enc126 tell2) :: blk g4 65 (ca A1 p1.length c1 p2 p3 p4 p5 p6) :: fs) ∧ ((board_castles_J3 n4) tell2).bind φ1 = some r) ?_ ?_
   ·rintro a w ⟨tell2, A7, c7, hF, hS, hm⟩
    unfold board_castles_J3 at hm
    refine rg1 [] [] [1, 2, 4] [pl 1 (.func (.func 144) #[] #[pa g1 0]), pl 2 (pa g4 0), pl 4 (vi (w64 (n4 + 1)))] hF hS obs_nil (fun a w hF hS => ?_)
    refine then_n ?_
    rw [← hφ1] at hm
    exact ⟨(tell2, (w64 (n4 + 1))), ⟨A7, c7, hF.wk [1, 2, 4], hS⟩, hm⟩
   ·refine wpIn_block ?_
    obtain ⟨r1, hr1, hm⟩ := call_b hm
    refine rg [⟨false, [], callFunc 110 #[vi n4], .tuple #[vi r1.1, vi r1.2]⟩] [none, some (.tuple #[vi r1.1, vi r1.2]), none, none, none, none, none] [1, 2, 4, 5, 6] [pl 1 (.func (.func 144) #[] #[pa g1 0]), pl 2 (pa g4 0), pl 4 (vi n4), pl 5 (vi r1.1), pl 6 (vi r1.2)] hF hS ?_ (fun a w hF hS => ?_)
    ·exact obs_cons (ob_call Try.func110 (by kernel_rfl) rfl (fun _ _ hS => board_Right_w hr1 hS )) <| obs_nil
    refine seq_cut (fun a w => Fr 84 [pl 1 (.func (.func 144) #[] #[pa g1 0]), pl 2 (pa g4 0), pl 4 (vi n4), pl 5 (vi r1.1), pl 6 (vi r1.2)] a ∧ Sep w0 B w (blk g1 165 #[.func (.func 138) #[] #[pa g2 0, pa g3 0]] :: blk g2 65 (ca A2 v_Places1.length c2 v_Turn1 v_Castle1 v_EnPassant1 v_Half1 v_Full1) :: blk g3 66 #[.slice A5 tell1.length c5] :: ownK 126 3 A5 tell1.length c5 (List.flatMap enc126 tell1) :: blk g4 65 (ca A1 p1.length c1 p2 p3 p4 p5 p6) :: fs) ∧ ((board_castles_J4 p1 p2 v_Places1 v_Turn1 v_Castle1 v_EnPassant1 v_Half1 v_Full1 tell1 n4 r1)).bind φ1 = some r) ?_ ?_
    ·rintro a w ⟨hF, hS, hm⟩
     unfold board_castles_J4 at hm
     refine rg [] [] [1, 2, 4, 5, 6, 7] [pl 1 (.func (.func 144) #[] #[pa g1 0]), pl 2 (pa g4 0), pl 4 (vi n4), pl 5 (vi r1.1), pl 6 (vi r1.2), pl 7 (vi (w64 (1 - (w64 (2 * (bAnd n4 1))))))] hF hS obs_nil (fun a w hF hS => ?_)
     refine rg [] [] [1, 2, 4, 5, 6, 7, 8] [pl 1 (.func (.func 144) #[] #[pa g1 0]), pl 2 (pa g4 0), pl 4 (vi n4), pl 5 (vi r1.1), pl 6 (vi r1.2), pl 7 (vi (w64 (1 - (w64 (2 * (bAnd n4 1)))))), pl 8 (.bool true)] hF hS obs_nil (fun a w hF hS => ?_)
     refine seq_cut (fun a w => ∃ (free2 : Bool), Fr 84 [pl 1 (.func (.func 144) #[] #[pa g1 0]), pl 2 (pa g4 0), pl 4 (vi n4), pl 5 (vi r1.1), pl 7 (vi (w64 (1 - (w64 (2 * (bAnd n4 1)))))), pl 8 (.bool free2)] a ∧ Sep w0 B w (blk g1 165 #[.func (.func 138) #[] #[pa g2 0, pa g3 0]] :: blk g2 65 (ca A2 v_Places1.length c2 v_Turn1 v_Castle1 v_EnPassant1 v_Half1 v_Full1) :: blk g3 66 #[.slice A5 tell1.length c5] :: ownK 126 3 A5 tell1.length c5 (List.flatMap enc126 tell1) :: blk g4 65 (ca A1 p1.length c1 p2 p3 p4 p5 p6) :: fs) ∧ ((board_castles_J5 p1 p2 v_Places1 v_Turn1 v_Castle1 v_EnPassant1 v_Half1 v_Full1 tell1 n4 r1) free2).bind φ1 = some r) ?_ ?_
     ·rintro a w ⟨free2, hF, hS, hm⟩
      unfold board_castles_J5 at hm
      refine seq_cut (fun a w => ∃ (free4 : Bool), Fr 84 [pl 1 (.func (.func 144) #[] #[pa g1 0]), pl 2 (pa g4 0), pl 4 (vi n4), pl 5 (vi r1.1), pl 7 (vi (w64 (1 - (w64 (2 * (bAnd n4 1)))))), pl 8 (.bool free4)] a ∧ Sep w0 B w (blk g1 165 #[.func (.func 138) #[] #[pa g2 0, pa g3 0]] :: blk g2 65 (ca A2 v_Places1.length c2 v_Turn1 v_Castle1 v_EnPassant1 v_Half1 v_Full1) :: blk g3 66 #[.slice A5 tell1.length c5] :: ownK 126 3 A5 tell1.length c5 (List.flatMap enc126 tell1) :: blk g4 65 (ca A1 p1.length c1 p2 p3 p4 p5 p6) :: fs) ∧ ((board_castles_J8 v_Places1 v_Turn1 v_Castle1 v_EnPassant1 v_Half1 v_Full1 tell1 n4 r1) free4).bind φ1 = some r) ?_ ?_
      ·rintro a w ⟨free4, hF, hS, hm⟩
       unfold board_castles_J8 at hm
       refine rg [] [] [1, 2, 4, 5, 7, 75] [pl 1 (.func (.func 144) #[] #[pa g1 0]), pl 2 (pa g4 0), pl 4 (vi n4), pl 5 (vi r1.1), pl 7 (vi (w64 (1 - (w64 (2 * (bAnd n4 1)))))), pl 75 (.bool free4)] hF hS obs_nil (fun a w hF hS => ?_)
       refine ce (t := 75) (b := free4) hF (fun hb => ?_) (fun hb => ?_)
       ·replace hm := if_t hm hb
        refine oneR ?_
        obtain ⟨r3, hr3, hm⟩ := call_b hm
        refine ar 7 [] [] [1, 2, 4, 76, 82] [pl 1 (.func (.func 144) #[] #[pa g1 0]), pl 2 (pa g4 0), pl 4 (vi n4), pl 76 (.func (.func 144) #[] #[pa g1 0]), pl 82 (.agg #[vi r1.1, vi (w64 (r1.1 + (w64 (2 * (w64 (1 - (w64 (2 * (bAnd n4 1))))))))), vi 0])] hF hS obs_nil (fun a w hF hS => ?_)
        refine at_call (f := 144) (args := #[.agg #[vi r1.1, vi (w64 (r1.1 + (w64 (2 * (w64 (1 - (w64 (2 * (bAnd n4 1))))))))), vi 0], pa g1 0]) (d := 83) hF (by kernel_rfl) (by kernel_rfl) Try.func144 (by kernel_rfl) rfl (board_Moves_3_w hr3 hS (fun _ hS => (hr_v_Places1 _ (hS.dropN 1))) _hc_v_Places1 rfl) (fun v a w hR hF => ?_)
        clear hS
        obtain ⟨A9, c9, rfl, hS⟩ := hR
        have hS : Sep w0 B w (blk g1 165 #[.func (.func 138) #[] #[pa g2 0, pa g3 0]] :: blk g2 65 (ca A2 v_Places1.length c2 v_Turn1 v_Castle1 v_EnPassant1 v_Half1 v_Full1) :: blk g3 66 #[.slice A9 r3.length c9] :: ownK 126 3 A9 r3.length c9 (List.flatMap enc126 r3) :: blk g4 65 (ca A1 p1.length c1 p2 p3 p4 p5 p6) :: fs) := hS
        refine ae [1, 2, 4] [pl 1 (.func (.func 144) #[] #[pa g1 0]), pl 2 (pa g4 0), pl 4 (vi n4)] hF rfl (fun hF => ?_)
        refine block_n ?_
        refine then_n ?_
        exact ⟨r3, A9, c9, hF.wk [1, 2, 4], hS, hm⟩
       ·replace hm := if_f hm hb
        refine wpIn_skip ?_
        refine block_n ?_
        refine then_n ?_
        exact ⟨tell1, A5, c5, hF.wk [1, 2, 4], hS, hm⟩
      ·refine rg [] [] [1, 2, 4, 5, 7, 8, 55] [pl 1 (.func (.func 144) #[] #[pa g1 0]), pl 2 (pa g4 0), pl 4 (vi n4), pl 5 (vi r1.1), pl 7 (vi (w64 (1 - (w64 (2 * (bAnd n4 1)))))), pl 8 (.bool free2), pl 55 (vi 0)] hF hS obs_nil (fun a w hF hS => ?_)
       refine wpIn_block ?_
       refine wp_loop_model (S := (Bool × Int)) (R := Bool) (board_castles_L3 p1 p2 n4 r1) (fun x => ((board_castles_K3 v_Places1 v_Turn1 v_Castle1 v_EnPassant1 v_Half1 v_Full1 tell1 n4 r1) x).bind φ1) r (fun (x : (Bool × Int)) a w => Fr 84 [pl 1 (.func (.func 144) #[] #[pa g1 0]), pl 2 (pa g4 0), pl 4 (vi n4), pl 5 (vi r1.1), pl 7 (vi (w64 (1 - (w64 (2 * (bAnd n4 1)))))), pl 8 (.bool x.1), pl 55 (vi x.2)] a ∧ Sep w0 B w (blk g1 165 #[.func (.func 138) #[] #[pa g2 0, pa g3 0]] :: blk g2 65 (ca A2 v_Places1.length c2 v_Turn1 v_Castle1 v_EnPassant1 v_Half1 v_Full1) :: blk g3 66 #[.slice A5 tell1.length c5] :: ownK 126 3 A5 tell1.length c5 (List.flatMap enc126 tell1) :: blk g4 65 (ca A1 p1.length c1 p2 p3 p4 p5 p6) :: fs)) (assoc_b hm) ⟨hF.wk [1, 2, 4, 5, 7, 8, 55], hS⟩ ?_
       clear hF hS hm
       rintro nn3 ⟨free3, z1⟩ a w ⟨hF, hS⟩ hm
       generalize hφ3 : stK (board_castles_L3 p1 p2 n4 r1) nn3 (fun x => ((board_castles_K3 v_Places1 v_Turn1 v_Castle1 v_EnPassant1 v_Half1 v_Full1 tell1 n4 r1) x).bind φ1) = φ3 at hm
       unfold board_castles_L3 at hm
       dsimp only at hF hS hm
       refine rg [] [] [1, 2, 4, 5, 7, 8, 55, 56] [pl 1 (.func (.func 144) #[] #[pa g1 0]), pl 2 (pa g4 0), pl 4 (vi n4), pl 5 (vi r1.1), pl 7 (vi (w64 (1 - (w64 (2 * (bAnd n4 1)))))), pl 8 (.bool free3), pl 55 (vi z1), pl 56 (.bool (decide (z1 < 3)))] hF hS obs_nil (fun a w hF hS => ?_)
       refine seq_cut (fun a w => Fr 84 [pl 1 (.func (.func 144) #[] #[pa g1 0]), pl 2 (pa g4 0), pl 4 (vi n4), pl 5 (vi r1.1), pl 7 (vi (w64 (1 - (w64 (2 * (bAnd n4 1)))))), pl 8 (.bool free3), pl 55 (vi z1)] a ∧ Sep w0 B w (blk g1 165 #[.func (.func 138) #[] #[pa g2 0, pa g3 0]] :: blk g2 65 (ca A2 v_Places1.length c2 v_Turn1 v_Castle1 v_EnPassant1 v_Half1 v_Full1) :: blk g3 66 #[.slice A5 tell1.length c5] :: ownK 126 3 A5 tell1.length c5 (List.flatMap enc126 tell1) :: blk g4 65 (ca A1 p1.length c1 p2 p3 p4 p5 p6) :: fs) ∧ ((board_castles_J9 p1 p2 n4 r1 free3 z1)).bind φ3 = some r) ?_ ?_
       ·rintro a w ⟨hF, hS, hm⟩
        unfold board_castles_J9 at hm
        refine seq_cut (fun a w => ∃ (free5 : Bool), Fr 84 [pl 1 (.func (.func 144) #[] #[pa g1 0]), pl 2 (pa g4 0), pl 4 (vi n4), pl 5 (vi r1.1), pl 7 (vi (w64 (1 - (w64 (2 * (bAnd n4 1)))))), pl 8 (.bool free5), pl 55 (vi z1)] a ∧ Sep w0 B w (blk g1 165 #[.func (.func 138) #[] #[pa g2 0, pa g3 0]] :: blk g2 65 (ca A2 v_Places1.length c2 v_Turn1 v_Castle1 v_EnPassant1 v_Half1 v_Full1) :: blk g3 66 #[.slice A5 tell1.length c5] :: ownK 126 3 A5 tell1.length c5 (List.flatMap enc126 tell1) :: blk g4 65 (ca A1 p1.length c1 p2 p3 p4 p5 p6) :: fs) ∧ ((board_castles_J10 z1) free5).bind φ3 = some r) ?_ ?_
        ·rintro a w ⟨free5, hF, hS, hm⟩
         unfold board_castles_J10 at hm
         refine rg1 [] [] [1, 2, 4, 5, 7, 8, 55] [pl 1 (.func (.func 144) #[] #[pa g1 0]), pl 2 (pa g4 0), pl 4 (vi n4), pl 5 (vi r1.1), pl 7 (vi (w64 (1 - (w64 (2 * (bAnd n4 1)))))), pl 8 (.bool free5), pl 55 (vi (w64 (z1 + 1)))] hF hS obs_nil (fun a w hF hS => ?_)
         refine then_n ?_
         rw [← hφ3] at hm
         exact ⟨(free5, (w64 (z1 + 1))), ⟨hF.wk [1, 2, 4, 5, 7, 8, 55], hS⟩, hm⟩
        ·refine wpIn_block ?_
         refine rg [] [] [1, 2, 4, 5, 7, 8, 10, 55] [pl 1 (.func (.func 144) #[] #[pa g1 0]), pl 2 (pa g4 0), pl 4 (vi n4), pl 5 (vi r1.1), pl 7 (vi (w64 (1 - (w64 (2 * (bAnd n4 1)))))), pl 8 (.bool free3), pl 10 (vi z1), pl 55 (vi z1)] hF hS obs_nil (fun a w hF hS => ?_)
         refine oneR ?_
         refine ar 12 [⟨false, [(free3, true)], vS (Instr.loadAt 22 (pa g4 0)), .slice A1 p1.length c1⟩, ⟨false, [(free3, true)], vS (Instr.loadAt 3 (pa g4 1)), vi p2⟩] [none, none, none, some (.slice A1 p1.length c1), none, none, none, none, none, none, some (vi p2), none] [1, 2, 4, 5, 7, 55, 59, 61, 66, 69] [pl 1 (.func (.func 144) #[] #[pa g1 0]), pl 2 (pa g4 0), pl 4 (vi n4), pl 5 (vi r1.1), pl 7 (vi (w64 (1 - (w64 (2 * (bAnd n4 1)))))), pl 55 (vi z1), pl 59 (.bool free3), ⟨61, [(59, true)], .slice A1 p1.length c1⟩, ⟨66, [(59, true)], vi (w64 (r1.1 + (w64 (z1 * (w64 (1 - (w64 (2 * (bAnd n4 1)))))))))⟩, ⟨69, [(59, true)], vi (w64 (1 - p2))⟩] hF hS ?_ (fun a w hF hS => ?_)
         ·exact obs_cons (ob_load Agg22 (fun _ _ hS => (hS.at_ 4 rfl).cell rfl)) <| obs_cons (ob_load Agg3 (fun _ _ hS => (hS.at_ 4 rfl).cell rfl)) <| obs_nil
         rcases Bool.eq_false_or_eq_true free3 with hg1 | hg1
         ·replace hm := if_t hm hg1
          obtain ⟨r2, hr2, hm⟩ := call_b hm
          refine at_gcall (hs := [(free3, true)]) (fun y hy => by simp only [List.mem_cons, List.not_mem_nil, or_false] at hy; subst hy; first | exact hg1) (f := 136) (args := #[.slice A1 p1.length c1, vi (w64 (r1.1 + (w64 (z1 * (w64 (1 - (w64 (2 * (bAnd n4 1))))))))), vi (w64 (1 - p2))]) (d := 70) hF (by kernel_rfl) (by kernel_rfl) Try.func136 (by kernel_rfl) rfl (board_Attackers_w hr2 hS (fun _ hS => (hr_p1 _ (hS.dropN 5))) _hc_p1 rfl) (fun v a w hR hF => ?_)
          clear hS
          obtain ⟨A8, c8, rfl, hS⟩ := hR
          have hS : Sep w0 B w (own 3 (.slice A8 r2.length c8) (vI r2) :: blk g1 165 #[.func (.func 138) #[] #[pa g2 0, pa g3 0]] :: blk g2 65 (ca A2 v_Places1.length c2 v_Turn1 v_Castle1 v_EnPassant1 v_Half1 v_Full1) :: blk g3 66 #[.slice A5 tell1.length c5] :: ownK 126 3 A5 tell1.length c5 (List.flatMap enc126 tell1) :: blk g4 65 (ca A1 p1.length c1 p2 p3 p4 p5 p6) :: fs) := hS
          refine ar 4 [] [] [1, 2, 4, 5, 7, 8, 55] [pl 1 (.func (.func 144) #[] #[pa g1 0]), pl 2 (pa g4 0), pl 4 (vi n4), pl 5 (vi r1.1), pl 7 (vi (w64 (1 - (w64 (2 * (bAnd n4 1)))))), pl 8 (.bool (free3 && ((r2.length : Int) == 0))), pl 55 (vi z1)] hF hS obs_nil (fun a w hF hS => ?_)
          refine ae [1, 2, 4, 5, 7, 8, 55] [pl 1 (.func (.func 144) #[] #[pa g1 0]), pl 2 (pa g4 0), pl 4 (vi n4), pl 5 (vi r1.1), pl 7 (vi (w64 (1 - (w64 (2 * (bAnd n4 1)))))), pl 8 (.bool (free3 && ((r2.length : Int) == 0))), pl 55 (vi z1)] hF rfl (fun hF => ?_)
          refine block_n ?_
          refine then_n ?_
          have hS := hS.pickN 6 [1, 2, 3, 4, 5] (by decide)
          exact ⟨(free3 && ((r2.length : Int) == 0)), hF.wk [1, 2, 4, 5, 7, 8, 55], hS, hm⟩
         ·replace hm := if_f hm hg1
          refine at_gskip (d := 70) (v := .slice none 0 0) (hs := [(free3, true)]) (ctx := [(59, true)]) hF (by kernel_rfl) (by kernel_rfl) (fun h => absurd (h (free3, true) (by simp)) (by simp [hg1])) (fun a hF => ?_)
          refine ar 4 [] [] [1, 2, 4, 5, 7, 8, 55] [pl 1 (.func (.func 144) #[] #[pa g1 0]), pl 2 (pa g4 0), pl 4 (vi n4), pl 5 (vi r1.1), pl 7 (vi (w64 (1 - (w64 (2 * (bAnd n4 1)))))), pl 8 (.bool (free3 && ((0 : Int) == 0))), pl 55 (vi z1)] hF hS obs_nil (fun a w hF hS => ?_)
          refine ae [1, 2, 4, 5, 7, 8, 55] [pl 1 (.func (.func 144) #[] #[pa g1 0]), pl 2 (pa g4 0), pl 4 (vi n4), pl 5 (vi r1.1), pl 7 (vi (w64 (1 - (w64 (2 * (bAnd n4 1)))))), pl 8 (.bool (free3 && ((0 : Int) == 0))), pl 55 (vi z1)] hF rfl (fun hF => ?_)
          refine block_n ?_
          refine then_n ?_
          exact ⟨(free3 && ((0 : Int) == 0)), hF.wk [1, 2, 4, 5, 7, 8, 55], hS, hm⟩
       ·refine ce (t := 56) (b := decide (z1 < 3)) hF (fun hb => ?_) (fun hb => ?_)
        ·replace hm := if_t hm hb
         refine wpIn_skip ?_
         refine then_n ?_
         exact ⟨hF.wk [1, 2, 4, 5, 7, 8, 55], hS, hm⟩
        ·replace hm := if_f hm hb
         refine wpIn_exit ?_
         refine then_e (then_e (block_e (then_n ?_)))
         rw [← hφ3] at hm
         replace hm := done_b hm
         unfold board_castles_K3 at hm
         try dsimp only at hm
         have hm : ((board_castles_J8 v_Places1 v_Turn1 v_Castle1 v_EnPassant1 v_Half1 v_Full1 tell1 n4 r1) free3).bind φ1 = some r := hm
         exact ⟨free3, hF.wk [1, 2, 4, 5, 7, 8], hS, hm⟩
     ·refine rg [] [] [1, 2, 4, 5, 6, 7, 8, 9] [pl 1 (.func (.func 144) #[] #[pa g1 0]), pl 2 (pa g4 0), pl 4 (vi n4), pl 5 (vi r1.1), pl 6 (vi r1.2), pl 7 (vi (w64 (1 - (w64 (2 * (bAnd n4 1)))))), pl 8 (.bool true), pl 9 (vi (w64 (r1.1 + (w64 (1 - (w64 (2 * (bAnd n4 1))))))))] hF hS obs_nil (fun a w hF hS => ?_)
      refine wpIn_block ?_
      refine wp_loop_model (S := (Bool × Int)) (R := Bool) (board_castles_L2 p1 n4 r1) (fun x => ((board_castles_K2 p1 p2 v_Places1 v_Turn1 v_Castle1 v_EnPassant1 v_Half1 v_Full1 tell1 n4 r1) x).bind φ1) r (fun (x : (Bool × Int)) a w => Fr 84 [pl 1 (.func (.func 144) #[] #[pa g1 0]), pl 2 (pa g4 0), pl 4 (vi n4), pl 5 (vi r1.1), pl 6 (vi r1.2), pl 7 (vi (w64 (1 - (w64 (2 * (bAnd n4 1)))))), pl 8 (.bool x.1), pl 9 (vi x.2)] a ∧ Sep w0 B w (blk g1 165 #[.func (.func 138) #[] #[pa g2 0, pa g3 0]] :: blk g2 65 (ca A2 v_Places1.length c2 v_Turn1 v_Castle1 v_EnPassant1 v_Half1 v_Full1) :: blk g3 66 #[.slice A5 tell1.length c5] :: ownK 126 3 A5 tell1.length c5 (List.flatMap enc126 tell1) :: blk g4 65 (ca A1 p1.length c1 p2 p3 p4 p5 p6) :: fs)) (assoc_b hm) ⟨hF.wk [1, 2, 4, 5, 6, 7, 8, 9], hS⟩ ?_
      clear hF hS hm
      rintro nn2 ⟨free1, at1⟩ a w ⟨hF, hS⟩ hm
      generalize hφ2 : stK (board_castles_L2 p1 n4 r1) nn2 (fun x => ((board_castles_K2 p1 p2 v_Places1 v_Turn1 v_Castle1 v_EnPassant1 v_Half1 v_Full1 tell1 n4 r1) x).bind φ1) = φ2 at hm
      unfold board_castles_L2 at hm
      dsimp only at hF hS hm
      refine seq_cut (fun a w => Fr 84 [pl 1 (.func (.func 144) #[] #[pa g1 0]), pl 2 (pa g4 0), pl 4 (vi n4), pl 5 (vi r1.1), pl 6 (vi r1.2), pl 7 (vi (w64 (1 - (w64 (2 * (bAnd n4 1)))))), pl 8 (.bool free1), pl 9 (vi at1)] a ∧ Sep w0 B w (blk g1 165 #[.func (.func 138) #[] #[pa g2 0, pa g3 0]] :: blk g2 65 (ca A2 v_Places1.length c2 v_Turn1 v_Castle1 v_EnPassant1 v_Half1 v_Full1) :: blk g3 66 #[.slice A5 tell1.length c5] :: ownK 126 3 A5 tell1.length c5 (List.flatMap enc126 tell1) :: blk g4 65 (ca A1 p1.length c1 p2 p3 p4 p5 p6) :: fs) ∧ ((board_castles_J6 p1 n4 free1 at1)).bind φ2 = some r) ?_ ?_
      ·rintro a w ⟨hF, hS, hm⟩
       unfold board_castles_J6 at hm
       refine seq_cut (fun a w => Fr 84 [pl 1 (.func (.func 144) #[] #[pa g1 0]), pl 2 (pa g4 0), pl 4 (vi n4), pl 5 (vi r1.1), pl 6 (vi r1.2), pl 7 (vi (w64 (1 - (w64 (2 * (bAnd n4 1)))))), pl 8 (.bool (free1 && ((geti p1 at1) == 0))), pl 9 (vi at1)] a ∧ Sep w0 B w (blk g1 165 #[.func (.func 138) #[] #[pa g2 0, pa g3 0]] :: blk g2 65 (ca A2 v_Places1.length c2 v_Turn1 v_Castle1 v_EnPassant1 v_Half1 v_Full1) :: blk g3 66 #[.slice A5 tell1.length c5] :: ownK 126 3 A5 tell1.length c5 (List.flatMap enc126 tell1) :: blk g4 65 (ca A1 p1.length c1 p2 p3 p4 p5 p6) :: fs) ∧ ((board_castles_J7 p1 n4 free1 at1)).bind φ2 = some r) ?_ ?_
       ·rintro a w ⟨hF, hS, hm⟩
        unfold board_castles_J7 at hm
        refine rg1 [] [] [1, 2, 4, 5, 6, 7, 8, 9] [pl 1 (.func (.func 144) #[] #[pa g1 0]), pl 2 (pa g4 0), pl 4 (vi n4), pl 5 (vi r1.1), pl 6 (vi r1.2), pl 7 (vi (w64 (1 - (w64 (2 * (bAnd n4 1)))))), pl 8 (.bool (free1 && ((geti p1 at1) == 0))), pl 9 (vi (w64 (at1 + (w64 (1 - (w64 (2 * (bAnd n4 1))))))))] hF hS obs_nil (fun a w hF hS => ?_)
        refine then_n ?_
        rw [← hφ2] at hm
        exact ⟨((free1 && ((geti p1 at1) == 0)), (w64 (at1 + (w64 (1 - (w64 (2 * (bAnd n4 1)))))))), ⟨hF.wk [1, 2, 4, 5, 6, 7, 8, 9], hS⟩, hm⟩
       ·refine wpIn_block ?_
        obtain ⟨hp2, hm⟩ := asrt_b hm
        refine rg1 [⟨false, [(free1, true)], vS (Instr.loadAt 22 (pa g4 0)), .slice A1 p1.length c1⟩, ⟨true, [(free1, true)], vS (Instr.indexAt 22 (.slice A1 p1.length c1) (vi at1)), .pointer (some (sAddr A1 at1))⟩, ⟨false, [(free1, true)], vS (Instr.loadAt 3 (.pointer (some (sAddr A1 at1)))), vi (geti p1 at1)⟩] [none, none, none, some (.slice A1 p1.length c1), none, some (.pointer (some (sAddr A1 at1))), some (vi (geti p1 at1)), none, none, none] [1, 2, 4, 5, 6, 7, 8, 9] [pl 1 (.func (.func 144) #[] #[pa g1 0]), pl 2 (pa g4 0), pl 4 (vi n4), pl 5 (vi r1.1), pl 6 (vi r1.2), pl 7 (vi (w64 (1 - (w64 (2 * (bAnd n4 1)))))), pl 8 (.bool (free1 && ((geti p1 at1) == 0))), pl 9 (vi at1)] hF hS ?_ (fun a w hF hS => ?_)
        ·exact obs_cons (ob_load Agg22 (fun _ _ hS => (hS.at_ 4 rfl).cell rfl)) <| obs_cons (ob_ix1 (f := (Value.int .i64)) (m := p1) Und22 hi3 hs3 (hr_p1 _ (hS.dropN 5)) rfl (fun hy => hp2 (hy (free1, true) (by simp)))) <| obs_cons (ob_get1 (n := p1.length) (m := p1) (Value.int .i64) (0 : Int) Agg3 (fun _ hS => ⟨_, (hr_p1 _ (hS.dropN 5))⟩) (fun _ hS => rfl) (fun hy => hp2 (hy (free1, true) (by simp)))) <| obs_nil
        refine block_n ?_
        refine then_n ?_
        exact ⟨hF.wk [1, 2, 4, 5, 6, 7, 8, 9], hS, hm⟩
      ·refine rg [] [] [1, 2, 4, 5, 6, 7, 8, 9, 42] [pl 1 (.func (.func 144) #[] #[pa g1 0]), pl 2 (pa g4 0), pl 4 (vi n4), pl 5 (vi r1.1), pl 6 (vi r1.2), pl 7 (vi (w64 (1 - (w64 (2 * (bAnd n4 1)))))), pl 8 (.bool free1), pl 9 (vi at1), pl 42 (.bool (at1 != r1.2))] hF hS obs_nil (fun a w hF hS => ?_)
       refine ce (t := 42) (b := (at1 != r1.2)) hF (fun hb => ?_) (fun hb => ?_)
       ·replace hm := if_t hm hb
        refine wpIn_skip ?_
        refine then_n ?_
        exact ⟨hF.wk [1, 2, 4, 5, 6, 7, 8, 9], hS, hm⟩
       ·replace hm := if_f hm hb
        refine wpIn_exit ?_
        refine then_e (then_e (block_e (then_n ?_)))
        rw [← hφ2] at hm
        replace hm := done_b hm
        unfold board_castles_K2 at hm
        try dsimp only at hm
        have hm : ((board_castles_J5 p1 p2 v_Places1 v_Turn1 v_Castle1 v_EnPassant1 v_Half1 v_Full1 tell1 n4 r1) free1).bind φ1 = some r := hm
        exact ⟨free1, hF.wk [1, 2, 4, 5, 7, 8], hS, hm⟩
    ·obtain ⟨hp1, hm⟩ := asrt_b hm
     refine rg [⟨false, [], vS (Instr.loadAt 3 (pa g4 2)), vi p3⟩, ⟨true, [], vS (Op.shift .shr .i64 p3 .i64 n4), vi (shrK .i64 p3 n4)⟩] [none, some (vi p3), none, some (vi (shrK .i64 p3 n4)), none, none] [1, 2, 4, 5, 6, 32] [pl 1 (.func (.func 144) #[] #[pa g1 0]), pl 2 (pa g4 0), pl 4 (vi n4), pl 5 (vi r1.1), pl 6 (vi r1.2), pl 32 (.bool ((bAnd (shrK .i64 p3 n4) 1) == 0))] hF hS ?_ (fun a w hF hS => ?_)
     ·exact obs_cons (ob_load Agg3 (fun _ _ hS => (hS.at_ 4 rfl).cell rfl)) <| obs_cons (ob_shr (fun _ => hp1)) <| obs_nil
     refine ce (t := 32) (b := ((bAnd (shrK .i64 p3 n4) 1) == 0)) hF (fun hb => ?_) (fun hb => ?_)
     ·replace hm := if_t hm hb
      refine wpIn_exit ?_
      refine then_e (block_e (then_n ?_))
      exact ⟨tell1, A5, c5, hF.wk [1, 2, 4], hS, hm⟩
     ·replace hm := if_f hm hb
      refine wpIn_skip ?_
      refine then_n ?_
      exact ⟨hF.wk [1, 2, 4, 5, 6], hS, hm⟩
  ·refine rg [⟨false, [], vS (Instr.loadAt 3 (pa g4 1)), vi p2⟩] [none, none, some (vi p2), none, none, none] [1, 2, 4, 19] [pl 1 (.func (.func 144) #[] #[pa g1 0]), pl 2 (pa g4 0), pl 4 (vi n4), pl 19 (.bool (decide (n4 < (w64 ((w64 (2 * p2)) + 2)))))] hF hS ?_ (fun a w hF hS => ?_)
   ·exact obs_cons (ob_load Agg3 (fun _ _ hS => (hS.at_ 4 rfl).cell rfl)) <| obs_nil
   refine ce (t := 19) (b := decide (n4 < (w64 ((w64 (2 * p2)) + 2)))) hF (fun hb => ?_) (fun hb => ?_)
   ·replace hm := if_t hm hb
    refine wpIn_skip ?_
    refine then_n ?_
    exact ⟨hF.wk [1, 2, 4], hS, hm⟩
   ·replace hm := if_f hm hb
    refine wpIn_exit ?_
    refine then_e (then_e (block_e (then_n ?_)))
    have hS := hS.pickN 5 [0, 1, 2, 3] (by decide)
    rw [← hφ1] at hm
    replace hm := done_b hm
    unfold board_castles_K1 at hm
    try dsimp only at hm
    have hm : (board_castles_J1 tell1).bind some = some r := hm
    exact ⟨tell1, A5, c5, hF.wk [], hS, hm⟩

def api_Move_2_m (x1 : List MvT) : Option (List MvT) :=
 asrt ((x1.length : Int) ≤ bigN) <| some (sortK cfMv x1)

theorem api_Move_2_w {A1 : Option Addr} {c1 n1 : Nat} {x1 : List MvT} {r : (List MvT)} {w0 w : World} {B : Nat} {fs : List HP} (hm : api_Move_2_m x1 = some r) (hS : Sep w0 B w (ownK 126 3 A1 n1 c1 (List.flatMap enc126 x1) :: fs)) :
  Calls Try.prog 145 #[.slice A1 n1 c1, .func (.func 146) #[] #[]] w fun e w' => ∃ v, e = .returned v ∧ v = .tuple #[] ∧ Sep w0 B w' (ownK 126 3 A1 n1 c1 (List.flatMap enc126 r) :: fs) := by
 unfold api_Move_2_m at hm
 obtain ⟨hb, hm⟩ := asrt_b (start_b hm)
 obtain rfl := Option.some.inj hm
 exact sortF_own SortFL encK126 SortFA SortFZ cfMv_swo cfMv_tot SortFE SortFC hS hb

def board_Moves_J3  (z1 : Int) (l3 : List MvT) : Option (St (List MvT × Int) (List MvT)) :=
 some (.next (l3, (w64 (z1 + 1))))

def board_Moves_K2  (z1 : Int) : (St (List MvT) Unit) → Option (St (List MvT × Int) (List MvT)) :=
 fun (x : St (List MvT) Unit) => match x with | .next l4 => (board_Moves_J3 z1) l4 | .done _ => none

def board_Moves_L2  (p1 : List Int) (p2 p3 : Int) (p4 p5 : Int) (p6 z1 : Int) : (Int × (List MvT)) → Option (St (List MvT) Unit) :=
 fun (x : Int × (List MvT)) => match x with | (x1, l4) => asrt (0 ≤ x1 ∧ x1 < (p1.length : Int)) <| (board_Side_m (geti p1 x1)).bind fun r5 => if (r5 != p2) then ((board_Moves_1_m z1 x1 0 p1 p2 p3 p4 p5 p6 l4).bind fun r6 => some (.next r6.2)) else (some (.next l4))

def board_Moves_J2  (p1 : List Int) (p2 p3 : Int) (p4 p5 p6 : Int) (l1 : List MvT) (z1 : Int) : Option (St (List MvT × Int) (List MvT)) :=
 asrt (0 ≤ z1 ∧ z1 < (p1.length : Int)) <| (board_Side_m (geti p1 z1)).bind fun r1 => if (r1 != p2) then ((board_Moves_J3 z1) l1) else ((board_Kind_m (geti p1 z1)).bind fun r2 => if (r2 == 1) then ((board_pawn_m p1 p2 p3 p4 p5 p6 z1 z1 p1 p2 p3 p4 p5 p6 l1).bind fun r3 => (board_Moves_J3 z1) r3) else ((board_Reach_m p1 z1).bind fun r4 => (board_Reach_1_m (ydOf (fun x s => (board_Moves_L2 p1 p2 p3 p4 p5 p6 z1) (x, s))) (.next l1) p1 r4).bind (board_Moves_K2 z1)))

def board_Moves_J1  (p1 : List Int) (p2 p3 : Int) (p4 p5 p6 : Int) (l2 : List MvT) : Option (List MvT) :=
 (board_castles_m p1 p2 p3 p4 p5 p6 p1 p2 p3 p4 p5 p6 l2).bind fun r7 => (api_Move_2_m r7).bind fun r8 => some r8

def board_Moves_K1  (p1 : List Int) (p2 p3 : Int) (p4 p5 p6 : Int) : (List MvT) → Option (List MvT) :=
 fun (x : (List MvT)) => match x with | l2 => (board_Moves_J1 p1 p2 p3 p4 p5 p6) l2

def board_Moves_L1  (p1 : List Int) (p2 p3 : Int) (p4 p5 p6 : Int) : (List MvT × Int) → Option (St (List MvT × Int) (List MvT)) :=
 fun (x : (List MvT × Int)) => match x with | (l1, z1) => if (decide (z1 < (p1.length : Int))) then ((board_Moves_J2 p1 p2 p3 p4 p5 p6 l1 z1)) else (some (.done l1))

def board_Moves_m  (p1 : List Int) (p2 p3 : Int) (p4 p5 p6 : Int) : Option (List MvT) :=
 (loop (board_Moves_L1 p1 p2 p3 p4 p5 p6) (([] : List MvT), 0)).bind (board_Moves_K1 p1 p2 p3 p4 p5 p6)

theorem board_Moves_w  {A1 : Option Addr} {c1 n1 : Nat} {p1 : List Int} {p2 p3 : Int} {p4 p5 p6 : Int} {r : (List MvT)} {w0 w : World} {B : Nat} {fs : List HP} (hm : board_Moves_m p1 p2 p3 p4 p5 p6 = some r) (hS : Sep w0 B w (fs)) (hr_p1 : RdF w0 B fs A1 (vI p1)) (_hc_p1 : p1.length ≤ c1) (_hn_p1 : n1 = p1.length) :
  Calls Try.prog 113 #[.agg (ca A1 n1 c1 p2 p3 p4 p5 p6)] w fun e w' => ∃ v, e = .returned v ∧ ∃ (A9 : Option Addr) (c9 : Nat), v = .slice A9 r.length c9 ∧ Sep w0 B w' (ownK 126 3 A9 r.length c9 (List.flatMap enc126 r) :: fs) := by
 obtain ⟨i3, hi3, hz3, hs3, hb3⟩ := info_parts Info3
 obtain ⟨i126, hi126, hz126, hs126, hb126⟩ := info_parts Info126
 obtain ⟨i165, hi165, hz165, hs165, hb165⟩ := info_parts Info165
 obtain rfl := _hn_p1
 unfold board_Moves_m at hm
 replace hm := start_b hm
 refine enter (l := [.agg (ca A1 p1.length c1 p2 p3 p4 p5 p6)]) (n := 57) Try.func113 rfl rfl (by simp) (fun a hF => ?_)
 have hS := hS.defs0
 refine seqR ?_
 refine at_do (d := 1) (s := vS (Instr.box 65 (.agg (ca A1 p1.length c1 p2 p3 p4 p5 p6)))) (v := pa w.heap.size 0) (w' := w.alloc (.cells (ca A1 p1.length c1 p2 p3 p4 p5 p6) 65)) hF (by kernel_rfl) (by kernel_rfl) (by kernel_rfl) (fun a hF => ?_)
 have hS : Sep w0 B (w.alloc (.cells (ca A1 p1.length c1 p2 p3 p4 p5 p6) 65)) (blk w.heap.size 65 (ca A1 p1.length c1 p2 p3 p4 p5 p6) :: (defsH ([]) :: fs)) := hS.box 65 (ca A1 p1.length c1 p2 p3 p4 p5 p6)
 generalize w.heap.size = g1 at hF hS
 generalize w.alloc (.cells (ca A1 p1.length c1 p2 p3 p4 p5 p6) 65) = w at hS ⊢
 refine ar 1 [] [] [1] [pl 1 (pa g1 0)] hF hS obs_nil (fun a w hF hS => ?_)
 refine ae [1] [pl 1 (pa g1 0)] hF rfl (fun hF => ?_)
 refine then_n (seqR ?_)
 refine at_do (d := 3) (s := vS (Instr.alloc 66 true (.tuple #[]))) (v := pa w.heap.size 0) (w' := w.alloc (.cells #[.slice none 0 0] 66)) hF (by kernel_rfl) (by kernel_rfl) (by kernel_rfl) (fun a hF => ?_)
 have hS : Sep w0 B (w.alloc (.cells #[.slice none 0 0] 66)) (blk w.heap.size 66 #[.slice none 0 0] :: (blk g1 65 (ca A1 p1.length c1 p2 p3 p4 p5 p6) :: defsH ([]) :: fs)) := hS.box 66 #[.slice none 0 0]
 generalize w.heap.size = g2 at hF hS
 generalize w.alloc (.cells #[.slice none 0 0] 66) = w at hS ⊢
 refine ae [1, 3] [pl 1 (pa g1 0), pl 3 (pa g2 0)] hF rfl (fun hF => ?_)
 refine then_n (seqR ?_)
 refine ar 1 [] [] [1, 3, 8] [pl 1 (pa g1 0), pl 3 (pa g2 0), pl 8 (.func (.func 138) #[] #[pa g1 0, pa g2 0])] hF hS obs_nil (fun a w hF hS => ?_)
 refine at_do (d := 4) (s := vS (Instr.alloc 165 true (.tuple #[]))) (v := pa w.heap.size 0) (w' := w.alloc (.cells #[.nilFunc] 165)) hF (by kernel_rfl) (by kernel_rfl) (by kernel_rfl) (fun a hF => ?_)
 have hS : Sep w0 B (w.alloc (.cells #[.nilFunc] 165)) (blk w.heap.size 165 #[.nilFunc] :: (blk g2 66 #[.slice none 0 0] :: blk g1 65 (ca A1 p1.length c1 p2 p3 p4 p5 p6) :: defsH ([]) :: fs)) := hS.box 165 #[.nilFunc]
 generalize w.heap.size = g3 at hF hS
 generalize w.alloc (.cells #[.nilFunc] 165) = w at hS ⊢
 obtain ⟨w, hrun, hS⟩ := run_put (P := Try.prog) (t := 165) (u := .func (.func 138) #[] #[pa g1 0, pa g2 0]) (i := 0) (hS.at_ 0 rfl) hi165 hs165 rfl (Nat.lt_of_lt_of_eq (Nat.lt_of_succ_le (Nat.le_of_ble_eq_true (by kernel_rfl))) rfl)
 refine at_s hF hrun ?_
 have hS : Sep w0 B w (blk g3 165 #[.func (.func 138) #[] #[pa g1 0, pa g2 0]] :: blk g2 66 #[.slice none 0 0] :: blk g1 65 (ca A1 p1.length c1 p2 p3 p4 p5 p6) :: defsH ([]) :: fs) := hS
 refine ae [1, 3, 4] [pl 1 (pa g1 0), pl 3 (pa g2 0), pl 4 (pa g3 0)] hF rfl (fun hF => ?_)
 refine then_n ?_
 refine seq_cut (fun a w => ∃ (l2 : List MvT) (A3 : Option Addr) (c3 : Nat) (Ds3 : List Nat), FrD Ds3 57 [pl 1 (pa g1 0), pl 3 (pa g2 0), pl 4 (pa g3 0)] a ∧ Sep w0 B w (blk g1 65 (ca A1 p1.length c1 p2 p3 p4 p5 p6) :: blk g2 66 #[.slice A3 l2.length c3] :: ownK 126 3 A3 l2.length c3 (List.flatMap enc126 l2) :: blk g3 165 #[.func (.func 138) #[] #[pa g1 0, pa g2 0]] :: defsH Ds3 :: fs) ∧ ((board_Moves_J1 p1 p2 p3 p4 p5 p6) l2).bind some = some r) ?_ ?_
 ·rintro a w ⟨l2, A3, c3, Ds3, hF, hS, hm⟩
  unfold board_Moves_J1 at hm
  refine seqR ?_
  obtain ⟨r7, hr7, hm⟩ := call_b hm
  refine ar 2 [⟨false, [], vS (Instr.loadAt 65 (pa g1 0)), .agg (ca A1 p1.length c1 p2 p3 p4 p5 p6)⟩] [some (.agg (ca A1 p1.length c1 p2 p3 p4 p5 p6)), none] [3, 51, 52] [pl 3 (pa g2 0), pl 51 (.agg (ca A1 p1.length c1 p2 p3 p4 p5 p6)), pl 52 (.func (.func 144) #[] #[pa g3 0])] hF hS ?_ (fun a w hF hS => ?_)
  ·exact obs_cons (oA (cs := (ca A1 p1.length c1 p2 p3 p4 p5 p6)) (fun _ _ hS => (hS.at_ 0 rfl).cellsAt 0 (by rfl))) <| obs_nil
  have hS : Sep w0 B w (blk g3 165 #[.func (.func 138) #[] #[pa g1 0, pa g2 0]] :: blk g1 65 (ca A1 p1.length c1 p2 p3 p4 p5 p6) :: blk g2 66 #[.slice A3 l2.length c3] :: ownK 126 3 A3 l2.length c3 (List.flatMap enc126 l2) :: defsH Ds3 :: fs) := hS.pickN 5 [3, 0, 1, 2, 4] (by decide)
  refine at_call (f := 143) (args := #[.agg (ca A1 p1.length c1 p2 p3 p4 p5 p6), .func (.func 144) #[] #[pa g3 0]]) (d := 53) hF (by kernel_rfl) (by kernel_rfl) Try.func143 (by kernel_rfl) rfl (board_castles_w hr7 hS (fun _ hS => (hr_p1 _ (hS.dropN 1))) _hc_p1 rfl (fun _ hS => (hr_p1 _ (hS.dropN 1))) _hc_p1 rfl) (fun v a w hR hF => ?_)
  clear hS
  obtain ⟨A8, c8, rfl, hS⟩ := hR
  have hS : Sep w0 B w (blk g3 165 #[.func (.func 138) #[] #[pa g1 0, pa g2 0]] :: blk g1 65 (ca A1 p1.length c1 p2 p3 p4 p5 p6) :: blk g2 66 #[.slice A8 r7.length c8] :: ownK 126 3 A8 r7.length c8 (List.flatMap enc126 r7) :: defsH Ds3 :: fs) := hS
  refine ae [3] [pl 3 (pa g2 0)] hF rfl (fun hF => ?_)
  refine then_n (seqR ?_)
  obtain ⟨r8, hr8, hm⟩ := call_b hm
  refine ar 1 [⟨false, [], vS (Instr.loadAt 66 (pa g2 0)), .slice A8 r7.length c8⟩] [some (.slice A8 r7.length c8)] [3, 54] [pl 3 (pa g2 0), pl 54 (.slice A8 r7.length c8)] hF hS ?_ (fun a w hF hS => ?_)
  ·exact obs_cons (ob_load Agg66 (fun _ _ hS => (hS.at_ 2 rfl).cell rfl)) <| obs_nil
  have hS : Sep w0 B w (ownK 126 3 A8 r7.length c8 (List.flatMap enc126 r7) :: blk g3 165 #[.func (.func 138) #[] #[pa g1 0, pa g2 0]] :: blk g1 65 (ca A1 p1.length c1 p2 p3 p4 p5 p6) :: blk g2 66 #[.slice A8 r7.length c8] :: defsH Ds3 :: fs) := hS.pickN 5 [3, 0, 1, 2, 4] (by decide)
  refine at_call (f := 145) (args := #[.slice A8 r7.length c8, .func (.func 146) #[] #[]]) (d := 55) hF (by kernel_rfl) (by kernel_rfl) Try.func145 (by kernel_rfl) rfl (api_Move_2_w hr8 hS ) (fun v a w hR hF => ?_)
  clear hS
  obtain ⟨rfl, hS⟩ := hR
  have hS : Sep w0 B w (ownK 126 3 A8 r7.length c8 (List.flatMap enc126 r8) :: blk g3 165 #[.func (.func 138) #[] #[pa g1 0, pa g2 0]] :: blk g1 65 (ca A1 p1.length c1 p2 p3 p4 p5 p6) :: blk g2 66 #[.slice A8 r7.length c8] :: defsH Ds3 :: fs) := hS
  refine ae [3] [pl 3 (pa g2 0)] hF rfl (fun hF => ?_)
  refine then_n ?_
  refine rg [⟨false, [], vS (Instr.loadAt 66 (pa g2 0)), .slice A8 r7.length c8⟩] [some (.slice A8 r7.length c8), none] [2] [pl 2 (.slice A8 r7.length c8)] hF hS ?_ (fun a w hF hS => ?_)
  ·exact obs_cons (ob_load Agg66 (fun _ _ hS => (hS.at_ 3 rfl).cell rfl)) <| obs_nil
  refine wpIn_ret ?_
  have hl2 := (hS.at_ 0 rfl).lenK encK126
  have hS := (hS.at_ 0 rfl).reNK hl2
  have hS := (hS.at_ 3 rfl).reBlk (congrArg (fun k9 => (#[.slice A8 k9 c8] : Array Value)) hl2)
  have hS : Sep w0 B w (ownK 126 3 A8 r8.length c8 (List.flatMap enc126 r8) :: blk g3 165 #[.func (.func 138) #[] #[pa g1 0, pa g2 0]] :: blk g1 65 (ca A1 p1.length c1 p2 p3 p4 p5 p6) :: blk g2 66 #[.slice A8 r8.length c8] :: defsH Ds3 :: fs) := hS
  have hF := hF.cast (t := 2) (v := .slice A8 r7.length c8) (v' := .slice A8 r8.length c8) rfl rfl (congrArg (fun k => Value.slice A8 k c8) hl2)
  have hS := hS.pickN 5 [4, 0, 1, 2, 3] (by decide)
  have hm : some r8 = some r := hm
  obtain rfl := Option.some.inj hm
  exact retD (rs := [.tmp 2]) (vs := [.slice A8 r8.length c8]) hF hS rfl (fun w hS => by exact rv_t (by kernel_rfl) <| rv_nil) rfl (fun w hS => ⟨_, rfl, A8, c8, rfl, hS.pickN 4 [0] (by decide)⟩)
 ·refine rg [⟨false, [], vS (Instr.loadAt 22 (pa g1 0)), .slice A1 p1.length c1⟩] [none, some (.slice A1 p1.length c1), none, none] [1, 3, 4, 10, 11, 12] [pl 1 (pa g1 0), pl 3 (pa g2 0), pl 4 (pa g3 0), pl 10 (.slice A1 p1.length c1), pl 11 (vi (p1.length : Int)), pl 12 (vi 0)] hF hS ?_ (fun a w hF hS => ?_)
  ·exact obs_cons (ob_load Agg22 (fun _ _ hS => (hS.at_ 2 rfl).cell rfl)) <| obs_nil
  refine wpIn_block ?_
  have hS : Sep w0 B w (ownK 126 3 none 0 0 (List.flatMap enc126 ([] : List MvT)) :: blk g3 165 #[.func (.func 138) #[] #[pa g1 0, pa g2 0]] :: blk g2 66 #[.slice none 0 0] :: blk g1 65 (ca A1 p1.length c1 p2 p3 p4 p5 p6) :: defsH ([]) :: fs) := hS.nilK 126 3 enc126
  have hS : Sep w0 B w (ownK 126 3 none 0 0 (List.flatMap enc126 ([] : List MvT)) :: blk g3 165 #[.func (.func 138) #[] #[pa g1 0, pa g2 0]] :: blk g2 66 #[.slice none 0 0] :: blk g1 65 (ca A1 p1.length c1 p2 p3 p4 p5 p6) :: defsH ([]) :: fs) := hS
  have hl1 := (hS.at_ 0 rfl).lenK encK126
  have hS := (hS.at_ 0 rfl).reNK hl1
  have hS := (hS.at_ 2 rfl).reBlk (congrArg (fun k9 => (#[.slice none k9 0] : Array Value)) hl1)
  have hS : Sep w0 B w (ownK 126 3 none (([] : List MvT).length) 0 (List.flatMap enc126 ([] : List MvT)) :: blk g3 165 #[.func (.func 138) #[] #[pa g1 0, pa g2 0]] :: blk g2 66 #[.slice none (([] : List MvT).length) 0] :: blk g1 65 (ca A1 p1.length c1 p2 p3 p4 p5 p6) :: defsH ([]) :: fs) := hS
  have hS := hS.pickN 5 [3, 2, 0, 1, 4] (by decide)
  refine wp_loop_model (S := (List MvT × Int)) (R := (List MvT)) (board_Moves_L1 p1 p2 p3 p4 p5 p6) (fun x => ((board_Moves_K1 p1 p2 p3 p4 p5 p6) x).bind some) r (fun (x : (List MvT × Int)) a w => ∃ (A2 : Option Addr) (c2 : Nat) (Ds1 : List Nat), FrD Ds1 57 [pl 1 (pa g1 0), pl 3 (pa g2 0), pl 4 (pa g3 0), pl 10 (.slice A1 p1.length c1), pl 11 (vi (p1.length : Int)), pl 12 (vi x.2)] a ∧ Sep w0 B w (blk g1 65 (ca A1 p1.length c1 p2 p3 p4 p5 p6) :: blk g2 66 #[.slice A2 x.1.length c2] :: ownK 126 3 A2 x.1.length c2 (List.flatMap enc126 x.1) :: blk g3 165 #[.func (.func 138) #[] #[pa g1 0, pa g2 0]] :: defsH Ds1 :: fs)) (assoc_b hm) ⟨none, 0, ([]), hF.wk [1, 3, 4, 10, 11, 12], hS⟩ ?_
  clear hF hS hm
  rintro nn1 ⟨l1, z1⟩ a w ⟨A2, c2, Ds1, hF, hS⟩ hm
  generalize hφ1 : stK (board_Moves_L1 p1 p2 p3 p4 p5 p6) nn1 (fun x => ((board_Moves_K1 p1 p2 p3 p4 p5 p6) x).bind some) = φ1 at hm
  unfold board_Moves_L1 at hm
  dsimp only at hF hS hm
  refine rg [] [] [1, 3, 4, 10, 11, 12, 13] [pl 1 (pa g1 0), pl 3 (pa g2 0), pl 4 (pa g3 0), pl 10 (.slice A1 p1.length c1), pl 11 (vi (p1.length : Int)), pl 12 (vi z1), pl 13 (.bool (decide (z1 < (p1.length : Int))))] hF hS obs_nil (fun a w hF hS => ?_)
  refine seq_cut (fun a w => ∃ (Ds2 : List Nat), FrD Ds2 57 [pl 1 (pa g1 0), pl 3 (pa g2 0), pl 4 (pa g3 0), pl 10 (.slice A1 p1.length c1), pl 11 (vi (p1.length : Int)), pl 12 (vi z1)] a ∧ Sep w0 B w (blk g1 65 (ca A1 p1.length c1 p2 p3 p4 p5 p6) :: blk g2 66 #[.slice A2 l1.length c2] :: ownK 126 3 A2 l1.length c2 (List.flatMap enc126 l1) :: blk g3 165 #[.func (.func 138) #[] #[pa g1 0, pa g2 0]] :: defsH Ds2 :: fs) ∧ ((board_Moves_J2 p1 p2 p3 p4 p5 p6 l1 z1)).bind φ1 = some r) ?_ ?_
  ·rintro a w ⟨Ds2, hF, hS, hm⟩
   unfold board_Moves_J2 at hm
   refine seq_cut (fun a w => ∃ (l3 : List MvT) (A4 : Option Addr) (c4 : Nat) (Ds4 : List Nat), FrD Ds4 57 [pl 1 (pa g1 0), pl 3 (pa g2 0), pl 4 (pa g3 0), pl 10 (.slice A1 p1.length c1), pl 11 (vi (p1.length : Int)), pl 12 (vi z1)] a ∧ Sep w0 B w (blk g1 65 (ca A1 p1.length c1 p2 p3 p4 p5 p6) :: blk g2 66 #[.slice A4 l3.length c4] :: ownK 126 3 A4 l3.length c4 (List.flatMap enc126 l3) :: blk g3 165 #[.func (.func 138) #[] #[pa g1 0, pa g2 0]] :: defsH Ds4 :: fs) ∧ ((board_Moves_J3 z1) l3).bind φ1 = some r) ?_ ?_
   ·rintro a w ⟨l3, A4, c4, Ds4, hF, hS, hm⟩
    unfold board_Moves_J3 at hm
    refine rg1 [] [] [1, 3, 4, 10, 11, 12] [pl 1 (pa g1 0), pl 3 (pa g2 0), pl 4 (pa g3 0), pl 10 (.slice A1 p1.length c1), pl 11 (vi (p1.length : Int)), pl 12 (vi (w64 (z1 + 1)))] hF hS obs_nil (fun a w hF hS => ?_)
    refine then_n ?_
    rw [← hφ1] at hm
    exact ⟨(l3, (w64 (z1 + 1))), ⟨A4, c4, Ds4, hF.wk [1, 3, 4, 10, 11, 12], hS⟩, hm⟩
   ·refine wpIn_block ?_
    refine seqR ?_
    obtain ⟨hp1, hm⟩ := asrt_b hm
    refine ar 3 [⟨true, [], vS (Instr.indexAt 22 (.slice A1 p1.length c1) (vi z1)), .pointer (some (sAddr A1 z1))⟩, ⟨false, [], vS (Instr.loadAt 3 (.pointer (some (sAddr A1 z1)))), vi (geti p1 z1)⟩] [none, some (.pointer (some (sAddr A1 z1))), some (vi (geti p1 z1))] [1, 3, 4, 10, 11, 12, 14, 16] [pl 1 (pa g1 0), pl 3 (pa g2 0), pl 4 (pa g3 0), pl 10 (.slice A1 p1.length c1), pl 11 (vi (p1.length : Int)), pl 12 (vi z1), pl 14 (vi z1), pl 16 (vi (geti p1 z1))] hF hS ?_ (fun a w hF hS => ?_)
    ·exact obs_cons (ob_ix1 (f := (Value.int .i64)) (m := p1) Und22 hi3 hs3 (hr_p1 _ (hS.dropN 5)) rfl (fun _ => hp1)) <| obs_cons (ob_get1 (n := p1.length) (m := p1) (Value.int .i64) (0 : Int) Agg3 (fun _ hS => ⟨_, (hr_p1 _ (hS.dropN 5))⟩) (fun _ hS => rfl) (fun _ => hp1)) <| obs_nil
    refine at_do (d := 5) (s := vS (Instr.alloc 3 true (.tuple #[]))) (v := pa w.heap.size 0) (w' := w.alloc (.cells #[vi 0] 3)) hF (by kernel_rfl) (by kernel_rfl) (by kernel_rfl) (fun a hF => ?_)
    have hS : Sep w0 B (w.alloc (.cells #[vi 0] 3)) (blk w.heap.size 3 #[vi 0] :: (blk g1 65 (ca A1 p1.length c1 p2 p3 p4 p5 p6) :: blk g2 66 #[.slice A2 l1.length c2] :: ownK 126 3 A2 l1.length c2 (List.flatMap enc126 l1) :: blk g3 165 #[.func (.func 138) #[] #[pa g1 0, pa g2 0]] :: defsH Ds2 :: fs)) := hS.box 3 #[vi 0]
    generalize w.heap.size = g4 at hF hS
    generalize w.alloc (.cells #[vi 0] 3) = w at hS ⊢
    obtain ⟨w, hrun, hS⟩ := run_put (P := Try.prog) (t := 3) (u := vi z1) (i := 0) (hS.at_ 0 rfl) hi3 hs3 rfl (Nat.lt_of_lt_of_eq (Nat.lt_of_succ_le (Nat.le_of_ble_eq_true (by kernel_rfl))) rfl)
    refine at_s hF hrun ?_
    have hS : Sep w0 B w (blk g4 3 #[vi z1] :: blk g1 65 (ca A1 p1.length c1 p2 p3 p4 p5 p6) :: blk g2 66 #[.slice A2 l1.length c2] :: ownK 126 3 A2 l1.length c2 (List.flatMap enc126 l1) :: blk g3 165 #[.func (.func 138) #[] #[pa g1 0, pa g2 0]] :: defsH Ds2 :: fs) := hS
    refine ar 1 [] [] [1, 3, 4, 5, 6, 10, 11, 12] [pl 1 (pa g1 0), pl 3 (pa g2 0), pl 4 (pa g3 0), pl 5 (pa g4 0), pl 6 (vi (geti p1 z1)), pl 10 (.slice A1 p1.length c1), pl 11 (vi (p1.length : Int)), pl 12 (vi z1)] hF hS obs_nil (fun a w hF hS => ?_)
    refine ae [1, 3, 4, 5, 6, 10, 11, 12] [pl 1 (pa g1 0), pl 3 (pa g2 0), pl 4 (pa g3 0), pl 5 (pa g4 0), pl 6 (vi (geti p1 z1)), pl 10 (.slice A1 p1.length c1), pl 11 (vi (p1.length : Int)), pl 12 (vi z1)] hF rfl (fun hF => ?_)
    refine then_n ?_
    refine wpIn_block ?_
    obtain ⟨r1, hr1, hm⟩ := call_b hm
    refine rg [⟨false, [], callFunc 108 #[vi (geti p1 z1)], vi r1⟩, ⟨false, [], vS (Instr.loadAt 3 (pa g1 1)), vi p2⟩] [none, some (vi r1), none, some (vi p2), none, none] [1, 3, 4, 5, 6, 10, 11, 12, 36] [pl 1 (pa g1 0), pl 3 (pa g2 0), pl 4 (pa g3 0), pl 5 (pa g4 0), pl 6 (vi (geti p1 z1)), pl 10 (.slice A1 p1.length c1), pl 11 (vi (p1.length : Int)), pl 12 (vi z1), pl 36 (.bool (r1 != p2))] hF hS ?_ (fun a w hF hS => ?_)
    ·exact obs_cons (ob_call Try.func108 (by kernel_rfl) rfl (fun _ _ hS => board_Side_w hr1 hS )) <| obs_cons (ob_load Agg3 (fun _ _ hS => (hS.at_ 1 rfl).cell rfl)) <| obs_nil
    refine ce (t := 36) (b := (r1 != p2)) hF (fun hb => ?_) (fun hb => ?_)
    ·replace hm := if_t hm hb
     refine wpIn_skip ?_
     refine block_n ?_
     refine block_n ?_
     refine then_n ?_
     have hS := hS.pickN 6 [1, 2, 3, 4, 5] (by decide)
     exact ⟨l1, A2, c2, Ds2, hF.wk [1, 3, 4, 10, 11, 12], hS, hm⟩
    ·replace hm := if_f hm hb
     obtain ⟨r2, hr2, hm⟩ := call_b hm
     refine rg [⟨false, [], callFunc 107 #[vi (geti p1 z1)], vi r2⟩] [none, some (vi r2), none, none] [1, 3, 4, 5, 10, 11, 12, 42] [pl 1 (pa g1 0), pl 3 (pa g2 0), pl 4 (pa g3 0), pl 5 (pa g4 0), pl 10 (.slice A1 p1.length c1), pl 11 (vi (p1.length : Int)), pl 12 (vi z1), pl 42 (.bool (r2 == 1))] hF hS ?_ (fun a w hF hS => ?_)
     ·exact obs_cons (ob_call Try.func107 (by kernel_rfl) rfl (fun _ _ hS => board_Kind_w hr2 hS )) <| obs_nil
     refine ce (t := 42) (b := (r2 == 1)) hF (fun hb => ?_) (fun hb => ?_)
     ·replace hm := if_t hm hb
      refine oneR ?_
      obtain ⟨r3, hr3, hm⟩ := call_b hm
      refine ar 3 [⟨false, [], vS (Instr.loadAt 65 (pa g1 0)), .agg (ca A1 p1.length c1 p2 p3 p4 p5 p6)⟩, ⟨false, [], vS (Instr.loadAt 3 (pa g4 0)), vi z1⟩] [some (.agg (ca A1 p1.length c1 p2 p3 p4 p5 p6)), some (vi z1), none] [1, 3, 4, 10, 11, 12, 46, 47, 48] [pl 1 (pa g1 0), pl 3 (pa g2 0), pl 4 (pa g3 0), pl 10 (.slice A1 p1.length c1), pl 11 (vi (p1.length : Int)), pl 12 (vi z1), pl 46 (.agg (ca A1 p1.length c1 p2 p3 p4 p5 p6)), pl 47 (vi z1), pl 48 (.func (.func 140) #[] #[pa g4 0, pa g3 0])] hF hS ?_ (fun a w hF hS => ?_)
      ·exact obs_cons (oA (cs := (ca A1 p1.length c1 p2 p3 p4 p5 p6)) (fun _ _ hS => (hS.at_ 1 rfl).cellsAt 0 (by rfl))) <| obs_cons (ob_load Agg3 (fun _ _ hS => (hS.at_ 0 rfl).cell rfl)) <| obs_nil
      have hS : Sep w0 B w (blk g4 3 #[vi z1] :: blk g3 165 #[.func (.func 138) #[] #[pa g1 0, pa g2 0]] :: blk g1 65 (ca A1 p1.length c1 p2 p3 p4 p5 p6) :: blk g2 66 #[.slice A2 l1.length c2] :: ownK 126 3 A2 l1.length c2 (List.flatMap enc126 l1) :: defsH Ds2 :: fs) := hS.pickN 6 [0, 4, 1, 2, 3, 5] (by decide)
      refine at_call (f := 139) (args := #[.agg (ca A1 p1.length c1 p2 p3 p4 p5 p6), vi z1, .func (.func 140) #[] #[pa g4 0, pa g3 0]]) (d := 49) hF (by kernel_rfl) (by kernel_rfl) Try.func139 (by kernel_rfl) rfl (board_pawn_w hr3 hS (fun _ hS => (hr_p1 _ (hS.dropN 1))) _hc_p1 rfl (fun _ hS => (hr_p1 _ (hS.dropN 1))) _hc_p1 rfl) (fun v a w hR hF => ?_)
      clear hS
      obtain ⟨A5, c5, rfl, hS⟩ := hR
      have hS : Sep w0 B w (blk g4 3 #[vi z1] :: blk g3 165 #[.func (.func 138) #[] #[pa g1 0, pa g2 0]] :: blk g1 65 (ca A1 p1.length c1 p2 p3 p4 p5 p6) :: blk g2 66 #[.slice A5 r3.length c5] :: ownK 126 3 A5 r3.length c5 (List.flatMap enc126 r3) :: defsH Ds2 :: fs) := hS
      refine ae [1, 3, 4, 10, 11, 12] [pl 1 (pa g1 0), pl 3 (pa g2 0), pl 4 (pa g3 0), pl 10 (.slice A1 p1.length c1), pl 11 (vi (p1.length : Int)), pl 12 (vi z1)] hF rfl (fun hF => ?_)
      refine block_n ?_
      refine block_n ?_
      refine then_n ?_
      have hS := hS.pickN 6 [2, 3, 4, 1, 5] (by decide)
      exact ⟨r3, A5, c5, Ds2, hF.wk [1, 3, 4, 10, 11, 12], hS, hm⟩
     ·replace hm := if_f hm hb
      refine seqR ?_
      obtain ⟨r4, hr4, hm⟩ := call_b hm
      refine ar 3 [⟨false, [], vS (Instr.loadAt 22 (pa g1 0)), .slice A1 p1.length c1⟩, ⟨false, [], vS (Instr.loadAt 3 (pa g4 0)), vi z1⟩] [none, some (.slice A1 p1.length c1), some (vi z1)] [1, 3, 4, 5, 10, 11, 12, 18, 19] [pl 1 (pa g1 0), pl 3 (pa g2 0), pl 4 (pa g3 0), pl 5 (pa g4 0), pl 10 (.slice A1 p1.length c1), pl 11 (vi (p1.length : Int)), pl 12 (vi z1), pl 18 (.slice A1 p1.length c1), pl 19 (vi z1)] hF hS ?_ (fun a w hF hS => ?_)
      ·exact obs_cons (ob_load Agg22 (fun _ _ hS => (hS.at_ 1 rfl).cell rfl)) <| obs_cons (ob_load Agg3 (fun _ _ hS => (hS.at_ 0 rfl).cell rfl)) <| obs_nil
      refine at_call (f := 142) (args := #[.slice A1 p1.length c1, vi z1]) (d := 20) hF (by kernel_rfl) (by kernel_rfl) Try.func142 (by kernel_rfl) rfl (board_Reach_w hr4 hS (fun _ hS => (hr_p1 _ (hS.dropN 6))) _hc_p1 rfl) (fun v a w hR hF => ?_)
      clear hS
      obtain ⟨g5, g6, rfl, hS⟩ := hR
      have hS : Sep w0 B w (blk g5 22 #[.slice A1 p1.length c1] :: blk g6 3 #[vi r4] :: blk g4 3 #[vi z1] :: blk g1 65 (ca A1 p1.length c1 p2 p3 p4 p5 p6) :: blk g2 66 #[.slice A2 l1.length c2] :: ownK 126 3 A2 l1.length c2 (List.flatMap enc126 l1) :: blk g3 165 #[.func (.func 138) #[] #[pa g1 0, pa g2 0]] :: defsH Ds2 :: fs) := hS
      refine ae [1, 3, 4, 5, 10, 11, 12, 20] [pl 1 (pa g1 0), pl 3 (pa g2 0), pl 4 (pa g3 0), pl 5 (pa g4 0), pl 10 (.slice A1 p1.length c1), pl 11 (vi (p1.length : Int)), pl 12 (vi z1), pl 20 (.func (.func 155) #[] #[pa g5 0, pa g6 0])] hF rfl (fun hF => ?_)
      refine then_n ?_
      refine wpIn_block ?_
      have hS := hS.pickN 8 [4, 5, 7, 3, 6, 2, 0, 1] (by decide)
      obtain ⟨y1, hy1, hm⟩ := call_b hm
      refine range_out (ρ := [pl 1 (pa g1 0), pl 3 (pa g2 0), pl 4 (pa g3 0), pl 5 (pa g4 0), pl 10 (.slice A1 p1.length c1), pl 11 (vi (p1.length : Int)), pl 12 (vi z1), pl 20 (.func (.func 155) #[] #[pa g5 0, pa g6 0])]) (lb := [pa g5 0, pa g6 0]) (y := y1) (enc := (fun (x : Int) => #[vi x])) (qs := [blk g2 66 #[.slice A2 l1.length c2], ownK 126 3 A2 l1.length c2 (List.flatMap enc126 l1)]) (fun (x : Int) => [(21, vi x)]) (fun (s : (List MvT)) qs => ∃ (A6 : Option Addr) (c6 : Nat), qs = [blk g2 66 #[.slice A6 s.length c6], ownK 126 3 A6 s.length c6 (List.flatMap enc126 s)]) (fun (_ : Unit) _ _ => False) (fun x s => (board_Moves_L2 p1 p2 p3 p4 p5 p6 z1) (x, s)) l1 (hF.wk [1, 3, 4, 5, 10, 11, 12, 20]) hS (by kernel_rfl) Try.func155 (by kernel_rfl) rfl (by kernel_rfl) (by intro x; simp) (fun _ => rfl) (fun x p hp => ?_) ⟨A2, c2, rfl⟩ ?_ ?_ ?_ ?_
      ·simp only [List.mem_cons, List.not_mem_nil, or_false] at hp
       rcases hp with rfl <;> (dsimp only; decide)
      ·intro lr1 D1 RS w hY hS
       exact Calls.mono (board_Reach_1_w hy1 (hS.pickN 7 [0, 5, 6, 1, 2, 3, 4] (by decide)) (YieldC.perm (blk g5 22 #[.slice A1 p1.length c1] :: blk g6 3 #[vi r4] :: defsH (D1 :: Ds2) :: blk g1 65 (ca A1 p1.length c1 p2 p3 p4 p5 p6) :: blk g3 165 #[.func (.func 138) #[] #[pa g1 0, pa g2 0]] :: blk g4 3 #[vi z1] :: fs) hY (fun hS => hS.pickN 7 [0, 3, 4, 5, 6, 1, 2] (by decide)) (fun hS => hS.pickN 7 [0, 5, 6, 1, 2, 3, 4] (by decide))) (fun _ hS => (hr_p1 _ (hS.dropN 4))) _hc_p1 rfl) (fun e w' h => by obtain ⟨_, rfl, _, hS⟩ := h; exact hS.pickN 7 [0, 3, 4, 5, 6, 1, 2] (by decide))
      ·rintro lr1 D1 rr1 x1 l4 r qs us1 a w hrr1 hm hI hF hS
       obtain ⟨A6, c6, rfl⟩ := hI
       replace hm := start_b hm
       unfold board_Moves_L2 at hm
       dsimp only at hm hF hS
       have hF : Fr 57 [pl 1 (pa g1 0), pl 3 (pa g2 0), pl 4 (pa g3 0), pl 5 (pa g4 0), pl 10 (.slice A1 p1.length c1), pl 11 (vi (p1.length : Int)), pl 12 (vi z1), pl 20 (.func (.func 155) #[] #[pa g5 0, pa g6 0]), pl 21 (vi x1)] a := hF.wk [1, 3, 4, 5, 10, 11, 12, 20, 21]
       have hS : Sep w0 B w (recH lr1 rr1 :: blk g2 66 #[.slice A6 l4.length c6] :: ownK 126 3 A6 l4.length c6 (List.flatMap enc126 l4) :: defsH (D1 :: Ds2) :: blk g1 65 (ca A1 p1.length c1 p2 p3 p4 p5 p6) :: blk g3 165 #[.func (.func 138) #[] #[pa g1 0, pa g2 0]] :: blk g4 3 #[vi z1] :: blk g5 22 #[.slice A1 p1.length c1] :: blk g6 3 #[vi r4] :: (fs ++ us1)) := hS
       refine rg1 [] [] [1, 4, 5, 7] [pl 1 (pa g1 0), pl 4 (pa g3 0), pl 5 (pa g4 0), pl 7 (vi x1)] hF hS obs_nil (fun a w hF hS => ?_)
       refine then_n ?_
       refine begin_r hS hrr1 (fun w hS => ?_)
       have hS : Sep w0 B w (recH lr1 { rr1 with state := .busy } :: blk g2 66 #[.slice A6 l4.length c6] :: ownK 126 3 A6 l4.length c6 (List.flatMap enc126 l4) :: defsH (D1 :: Ds2) :: blk g1 65 (ca A1 p1.length c1 p2 p3 p4 p5 p6) :: blk g3 165 #[.func (.func 138) #[] #[pa g1 0, pa g2 0]] :: blk g4 3 #[vi z1] :: blk g5 22 #[.slice A1 p1.length c1] :: blk g6 3 #[vi r4] :: (fs ++ us1)) := hS
       refine wpIn_block ?_
       obtain ⟨hp2, hm⟩ := asrt_b hm
       obtain ⟨r5, hr5, hm⟩ := call_b hm
       refine rg [⟨false, [], vS (Instr.loadAt 22 (pa g1 0)), .slice A1 p1.length c1⟩, ⟨true, [], vS (Instr.indexAt 22 (.slice A1 p1.length c1) (vi x1)), .pointer (some (sAddr A1 x1))⟩, ⟨false, [], vS (Instr.loadAt 3 (.pointer (some (sAddr A1 x1)))), vi (geti p1 x1)⟩, ⟨false, [], callFunc 108 #[vi (geti p1 x1)], vi r5⟩, ⟨false, [], vS (Instr.loadAt 3 (pa g1 1)), vi p2⟩] [none, some (.slice A1 p1.length c1), none, some (.pointer (some (sAddr A1 x1))), some (vi (geti p1 x1)), some (vi r5), none, some (vi p2), none] [4, 5, 7, 30] [pl 4 (pa g3 0), pl 5 (pa g4 0), pl 7 (vi x1), pl 30 (.bool (r5 != p2))] hF hS ?_ (fun a w hF hS => ?_)
       ·exact obs_cons (ob_load Agg22 (fun _ _ hS => (hS.at_ 4 rfl).cell rfl)) <| obs_cons (ob_ix1 (f := (Value.int .i64)) (m := p1) Und22 hi3 hs3 (hr_p1 _ (hS.dropN 9).pre) rfl (fun _ => hp2)) <| obs_cons (ob_get1 (n := p1.length) (m := p1) (Value.int .i64) (0 : Int) Agg3 (fun _ hS => ⟨_, (hr_p1 _ (hS.dropN 9).pre)⟩) (fun _ hS => rfl) (fun _ => hp2)) <| obs_cons (ob_call Try.func108 (by kernel_rfl) rfl (fun _ _ hS => board_Side_w hr5 hS )) <| obs_cons (ob_load Agg3 (fun _ _ hS => (hS.at_ 4 rfl).cell rfl)) <| obs_nil
       refine ce (t := 30) (b := (r5 != p2)) hF (fun hb => ?_) (fun hb => ?_)
       ·replace hm := if_t hm hb
        refine oneR ?_
        obtain ⟨r6, hr6, hm⟩ := call_b hm
        refine ar 4 [⟨false, [], vS (Instr.loadAt 165 (pa g3 0)), .func (.func 138) #[] #[pa g1 0, pa g2 0]⟩, ⟨false, [], vS (Instr.loadAt 3 (pa g4 0)), vi z1⟩] [some (.func (.func 138) #[] #[pa g1 0, pa g2 0]), some (vi z1), none, none] [31, 34] [pl 31 (.func (.func 138) #[] #[pa g1 0, pa g2 0]), pl 34 (.agg #[vi z1, vi x1, vi 0])] hF hS ?_ (fun a w hF hS => ?_)
        ·exact obs_cons (ob_load Agg165 (fun _ _ hS => (hS.at_ 5 rfl).cell rfl)) <| obs_cons (ob_load Agg3 (fun _ _ hS => (hS.at_ 6 rfl).cell rfl)) <| obs_nil
        have hS : Sep w0 B w (blk g1 65 (ca A1 p1.length c1 p2 p3 p4 p5 p6) :: blk g2 66 #[.slice A6 l4.length c6] :: ownK 126 3 A6 l4.length c6 (List.flatMap enc126 l4) :: recH lr1 { rr1 with state := .busy } :: defsH (D1 :: Ds2) :: blk g3 165 #[.func (.func 138) #[] #[pa g1 0, pa g2 0]] :: blk g4 3 #[vi z1] :: blk g5 22 #[.slice A1 p1.length c1] :: blk g6 3 #[vi r4] :: (fs ++ us1)) := hS.pickN 9 [4, 1, 2, 0, 3, 5, 6, 7, 8] (by decide)
        refine at_call (f := 138) (args := #[.agg #[vi z1, vi x1, vi 0], pa g1 0, pa g2 0]) (d := 35) hF (by kernel_rfl) (by kernel_rfl) Try.func138 (by kernel_rfl) rfl (board_Moves_1_w hr6 hS (fun _ hS => (hr_p1 _ (hS.dropN 6).pre)) _hc_p1 rfl) (fun v a w hR hF => ?_)
        clear hS
        obtain ⟨A7, c7, rfl, hS⟩ := hR
        have hS : Sep w0 B w (blk g1 65 (ca A1 p1.length c1 p2 p3 p4 p5 p6) :: blk g2 66 #[.slice A7 r6.2.length c7] :: ownK 126 3 A7 r6.2.length c7 (List.flatMap enc126 r6.2) :: recH lr1 { rr1 with state := .busy } :: defsH (D1 :: Ds2) :: blk g3 165 #[.func (.func 138) #[] #[pa g1 0, pa g2 0]] :: blk g4 3 #[vi z1] :: blk g5 22 #[.slice A1 p1.length c1] :: blk g6 3 #[vi r4] :: (fs ++ us1)) := hS
        refine ae [] [] hF rfl (fun hF => ?_)
        refine block_n ?_
        have hS := hS.pickN 9 [3, 1, 2, 4, 0, 5, 6, 7, 8] (by decide)
        have hm : some (.next r6.2) = some r := hm
        obtain rfl := Option.some.inj hm
        exact ⟨_, _, rfl, ⟨A7, c7, rfl⟩, hS⟩
       ·replace hm := if_f hm hb
        refine wpIn_skip ?_
        refine block_n ?_
        have hm : some (.next l4) = some r := hm
        obtain rfl := Option.some.inj hm
        exact ⟨_, _, rfl, ⟨A6, c6, rfl⟩, hS⟩
      ·rintro l4 D1 qs a w hy1e hI hF hS
       obtain ⟨A6, c6, rfl⟩ := hI
       rw [hy1e] at hm
       unfold board_Moves_K2 at hm
       dsimp only at hm hF hS
       have hF : FrD (D1 :: Ds2) 57 [pl 1 (pa g1 0), pl 3 (pa g2 0), pl 4 (pa g3 0), pl 5 (pa g4 0), pl 10 (.slice A1 p1.length c1), pl 11 (vi (p1.length : Int)), pl 12 (vi z1), pl 20 (.func (.func 155) #[] #[pa g5 0, pa g6 0])] a := hF
       have hS : Sep w0 B w (blk g2 66 #[.slice A6 l4.length c6] :: ownK 126 3 A6 l4.length c6 (List.flatMap enc126 l4) :: defsH (D1 :: Ds2) :: blk g1 65 (ca A1 p1.length c1 p2 p3 p4 p5 p6) :: blk g3 165 #[.func (.func 138) #[] #[pa g1 0, pa g2 0]] :: blk g4 3 #[vi z1] :: blk g5 22 #[.slice A1 p1.length c1] :: blk g6 3 #[vi r4] :: fs) := hS
       refine block_n ?_
       refine block_n ?_
       refine block_n ?_
       refine then_n ?_
       have hS := hS.pickN 8 [3, 0, 1, 4, 2] (by decide)
       exact ⟨l4, A6, c6, (D1 :: Ds2), hF.wk [1, 3, 4, 10, 11, 12], hS, hm⟩
      ·intro x c D1 qs a w _ h
       exact h.elim
  ·refine ce (t := 13) (b := decide (z1 < (p1.length : Int))) hF (fun hb => ?_) (fun hb => ?_)
   ·replace hm := if_t hm hb
    refine wpIn_skip ?_
    refine then_n ?_
    exact ⟨Ds1, hF.wk [1, 3, 4, 10, 11, 12], hS, hm⟩
   ·replace hm := if_f hm hb
    refine wpIn_exit ?_
    refine then_e (then_e (block_e (then_n ?_)))
    rw [← hφ1] at hm
    replace hm := done_b hm
    unfold board_Moves_K1 at hm
    try dsimp only at hm
    have hm : ((board_Moves_J1 p1 p2 p3 p4 p5 p6) l1).bind some = some r := hm
    exact ⟨l1, A2, c2, Ds1, hF.wk [1, 3, 4], hS, hm⟩

def moves_keyOf_J3  (z1 k3 : Int) : Option (St (Int × Int) Int) :=
 some (.next (k3, (w64 (z1 + 1))))

def moves_keyOf_J2  (p1 : List Int) (p4 : Int) (r1 : (List MvT)) (k1 z1 : Int) : Option (St (Int × Int) Int) :=
 asrt (0 ≤ z1 ∧ z1 < (r1.length : Int)) <| asrt ((((getd ((0, 0, 0) : MvT) r1 z1).2.1) == p4) = true → 0 ≤ ((getd ((0, 0, 0) : MvT) r1 z1).1) ∧ ((getd ((0, 0, 0) : MvT) r1 z1).1) < (p1.length : Int)) <| ((if (((getd ((0, 0, 0) : MvT) r1 z1).2.1) == p4) then board_Kind_m (geti p1 ((getd ((0, 0, 0) : MvT) r1 z1).1)) else some 0)).bind fun r2 => if ((((getd ((0, 0, 0) : MvT) r1 z1).2.1) == p4) && (r2 == 1)) then ((moves_keyOf_J3 z1) p4) else ((moves_keyOf_J3 z1) k1)

def moves_keyOf_J1  (p1 : List Int) (p2 p3 k2 : Int) : Option (List Int × Int × Int × Int) :=
 some ((putL (pad 64 (List.replicate 64 (0 : Int))) 0 (List.take 64 p1)), p2, p3, k2)

def moves_keyOf_K1  (p1 : List Int) (p2 p3 : Int) : Int → Option (List Int × Int × Int × Int) :=
 fun (x : Int) => match x with | k2 => (moves_keyOf_J1 p1 p2 p3) k2

def moves_keyOf_L1  (p1 : List Int) (p4 : Int) (r1 : (List MvT)) : (Int × Int) → Option (St (Int × Int) Int) :=
 fun (x : (Int × Int)) => match x with | (k1, z1) => if (decide (z1 < (r1.length : Int))) then ((moves_keyOf_J2 p1 p4 r1 k1 z1)) else (some (.done k1))

def moves_keyOf_m  (p1 : List Int) (p2 p3 : Int) (p4 p5 p6 : Int) : Option (List Int × Int × Int × Int) :=
 (board_Moves_m p1 p2 p3 p4 p5 p6).bind fun r1 => (loop (moves_keyOf_L1 p1 p4 r1) ((-1), 0)).bind (moves_keyOf_K1 p1 p2 p3)

theorem moves_keyOf_w  {A1 : Option Addr} {c1 n1 : Nat} {p1 : List Int} {p2 p3 : Int} {p4 p5 p6 : Int} {r : (List Int × Int × Int × Int)} {w0 w : World} {B : Nat} {fs : List HP} (hm : moves_keyOf_m p1 p2 p3 p4 p5 p6 = some r) (hS : Sep w0 B w (fs)) (hr_p1 : RdF w0 B fs A1 (vI p1)) (_hc_p1 : p1.length ≤ c1) (_hn_p1 : n1 = p1.length) :
  Calls Try.prog 79 #[.agg (ca A1 n1 c1 p2 p3 p4 p5 p6)] w fun e w' => e = .returned (.agg (List.toArray (([] : List Value) ++ (arr1 (Value.int .i64) (0 : Int) 64 r.1 ++ ([vi r.2.1, vi r.2.2.1, vi r.2.2.2] : List Value))))) ∧ Sep w0 B w' (fs) := by
 obtain ⟨i3, hi3, hz3, hs3, hb3⟩ := info_parts Info3
 obtain ⟨i126, hi126, hz126, hs126, hb126⟩ := info_parts Info126
 obtain rfl := _hn_p1
 unfold moves_keyOf_m at hm
 replace hm := start_b hm
 refine enter (l := [.agg (ca A1 p1.length c1 p2 p3 p4 p5 p6)]) (n := 43) Try.func79 rfl rfl (by simp) (fun a hF => ?_)
 refine seqR ?_
 refine at_do (d := 1) (s := vS (Instr.box 65 (.agg (ca A1 p1.length c1 p2 p3 p4 p5 p6)))) (v := pa w.heap.size 0) (w' := w.alloc (.cells (ca A1 p1.length c1 p2 p3 p4 p5 p6) 65)) hF (by kernel_rfl) (by kernel_rfl) (by kernel_rfl) (fun a hF => ?_)
 have hS : Sep w0 B (w.alloc (.cells (ca A1 p1.length c1 p2 p3 p4 p5 p6) 65)) (blk w.heap.size 65 (ca A1 p1.length c1 p2 p3 p4 p5 p6) :: (fs)) := hS.box 65 (ca A1 p1.length c1 p2 p3 p4 p5 p6)
 generalize w.heap.size = g1 at hF hS
 generalize w.alloc (.cells (ca A1 p1.length c1 p2 p3 p4 p5 p6) 65) = w at hS ⊢
 refine at_do (d := 2) (s := vS (Instr.alloc 122 true (.tuple #[]))) (v := pa w.heap.size 0) (w' := w.alloc (.cells (List.toArray (([] : List Value) ++ (arr1 (Value.int .i64) (0 : Int) 64 (List.replicate 64 (0 : Int)) ++ ([vi 0, vi 0, vi 0] : List Value)))) 122)) hF (by kernel_rfl) (by kernel_rfl) (by kernel_rfl) (fun a hF => ?_)
 have hS : Sep w0 B (w.alloc (.cells (List.toArray (([] : List Value) ++ (arr1 (Value.int .i64) (0 : Int) 64 (List.replicate 64 (0 : Int)) ++ ([vi 0, vi 0, vi 0] : List Value)))) 122)) (blk w.heap.size 122 (List.toArray (([] : List Value) ++ (arr1 (Value.int .i64) (0 : Int) 64 (List.replicate 64 (0 : Int)) ++ ([vi 0, vi 0, vi 0] : List Value)))) :: (blk g1 65 (ca A1 p1.length c1 p2 p3 p4 p5 p6) :: fs)) := hS.box 122 (List.toArray (([] : List Value) ++ (arr1 (Value.int .i64) (0 : Int) 64 (List.replicate 64 (0 : Int)) ++ ([vi 0, vi 0, vi 0] : List Value))))
 generalize w.heap.size = g2 at hF hS
 generalize w.alloc (.cells (List.toArray (([] : List Value) ++ (arr1 (Value.int .i64) (0 : Int) 64 (List.replicate 64 (0 : Int)) ++ ([vi 0, vi 0, vi 0] : List Value)))) 122) = w at hS ⊢
 refine ae [1, 2] [pl 1 (pa g1 0), pl 2 (pa g2 0)] hF rfl (fun hF => ?_)
 refine then_n (seqR ?_)
 refine ar 5 [⟨false, [], vS (Instr.loadAt 3 (pa g1 1)), vi p2⟩, ⟨false, [], vS (Instr.loadAt 3 (pa g1 2)), vi p3⟩] [none, some (vi p2), none, some (vi p3), none] [1, 2, 10] [pl 1 (pa g1 0), pl 2 (pa g2 0), pl 10 (.agg (List.toArray (([] : List Value) ++ (arr1 (Value.int .i64) (0 : Int) 64 (List.replicate 64 (0 : Int)) ++ ([vi p2, vi p3, vi (-1)] : List Value)))))] hF hS ?_ (fun a w hF hS => ?_)
 ·exact obs_cons (ob_load Agg3 (fun _ _ hS => (hS.at_ 1 rfl).cell rfl)) <| obs_cons (ob_load Agg3 (fun _ _ hS => (hS.at_ 1 rfl).cell rfl)) <| obs_nil
 refine at_do (d := 3) (s := vS (Instr.alloc 122 true (.tuple #[]))) (v := pa w.heap.size 0) (w' := w.alloc (.cells (List.toArray (([] : List Value) ++ (arr1 (Value.int .i64) (0 : Int) 64 (List.replicate 64 (0 : Int)) ++ ([vi 0, vi 0, vi 0] : List Value)))) 122)) hF (by kernel_rfl) (by kernel_rfl) (by kernel_rfl) (fun a hF => ?_)
 have hS : Sep w0 B (w.alloc (.cells (List.toArray (([] : List Value) ++ (arr1 (Value.int .i64) (0 : Int) 64 (List.replicate 64 (0 : Int)) ++ ([vi 0, vi 0, vi 0] : List Value)))) 122)) (blk w.heap.size 122 (List.toArray (([] : List Value) ++ (arr1 (Value.int .i64) (0 : Int) 64 (List.replicate 64 (0 : Int)) ++ ([vi 0, vi 0, vi 0] : List Value)))) :: (blk g2 122 (List.toArray (([] : List Value) ++ (arr1 (Value.int .i64) (0 : Int) 64 (List.replicate 64 (0 : Int)) ++ ([vi 0, vi 0, vi 0] : List Value)))) :: blk g1 65 (ca A1 p1.length c1 p2 p3 p4 p5 p6) :: fs)) := hS.box 122 (List.toArray (([] : List Value) ++ (arr1 (Value.int .i64) (0 : Int) 64 (List.replicate 64 (0 : Int)) ++ ([vi 0, vi 0, vi 0] : List Value))))
 generalize w.heap.size = g3 at hF hS
 generalize w.alloc (.cells (List.toArray (([] : List Value) ++ (arr1 (Value.int .i64) (0 : Int) 64 (List.replicate 64 (0 : Int)) ++ ([vi 0, vi 0, vi 0] : List Value)))) 122) = w at hS ⊢
 obtain ⟨w, hrun, hS⟩ := run_putW (P := Try.prog) (t := 122) (us := (List.toArray (([] : List Value) ++ (arr1 (Value.int .i64) (0 : Int) 64 (List.replicate 64 (0 : Int)) ++ ([vi p2, vi p3, vi (-1)] : List Value))))) (hS.at_ 0 rfl) (by kernel_rfl) (all_one (by kernel_rfl)) (by kernel_rfl)
 refine at_s hF hrun ?_
 have hS : Sep w0 B w (blk g3 122 (List.toArray (([] : List Value) ++ (arr1 (Value.int .i64) (0 : Int) 64 (List.replicate 64 (0 : Int)) ++ ([vi p2, vi p3, vi (-1)] : List Value)))) :: blk g2 122 (List.toArray (([] : List Value) ++ (arr1 (Value.int .i64) (0 : Int) 64 (List.replicate 64 (0 : Int)) ++ ([vi 0, vi 0, vi 0] : List Value)))) :: blk g1 65 (ca A1 p1.length c1 p2 p3 p4 p5 p6) :: fs) := hS
 refine ae [1, 2, 3] [pl 1 (pa g1 0), pl 2 (pa g2 0), pl 3 (pa g3 0)] hF rfl (fun hF => ?_)
 refine then_n ?_
 refine wpIn_seq ?_
 refine regMix4 [0, 1, 2, 3] [4] [⟨true, [], vS (Instr.sliceAt 120 (pa g3 0) none none none), .slice (some (⟨g3, 0, none⟩ : Addr)) 64 64⟩, ⟨false, [], vS (Instr.loadAt 22 (pa g1 0)), .slice A1 p1.length c1⟩] [none, some (.slice (some (⟨g3, 0, none⟩ : Addr)) 64 64), none, some (.slice A1 p1.length c1)] [1, 2, 3, 12, 14] [pl 1 (pa g1 0), pl 2 (pa g2 0), pl 3 (pa g3 0), pl 12 (.slice (some (⟨g3, 0, none⟩ : Addr)) 64 64), pl 14 (.slice A1 p1.length c1)] hF hS Fol (by kernel_rfl) (by kernel_rfl) (by kernel_rfl) (by kernel_rfl) (by kernel_rfl) ?_ (fun a w hF hS => ?_)
 ·exact obs_cons (ob_sliceB UndA120 hi3) <| obs_cons (ob_load Agg22 (fun _ _ hS => (hS.at_ 2 rfl).cell rfl)) <| obs_nil
 obtain ⟨w, hrun, hS⟩ := run_copyB (P := Try.prog) (t := 22) (t2 := 22) (ty := 3) (n := 64) (m := (List.replicate 64 (0 : Int))) (ys := p1) (A2 := A1) (n2 := p1.length) (c2 := c1) (dc := 64) ([] : List Value) ([vi p2, vi p3, vi (-1)] : List Value) (hS.at_ 0 rfl) rfl (hr_p1 _ (hS.dropN 3)) rfl Und22 hi3 hs3
 refine ad (d := 15) hF hrun (fun a hF => ?_)
 have hS : Sep w0 B w (blk g3 122 (List.toArray (([] : List Value) ++ (arr1 (Value.int .i64) (0 : Int) 64 (putL (pad 64 (List.replicate 64 (0 : Int))) 0 (List.take 64 p1)) ++ ([vi p2, vi p3, vi (-1)] : List Value)))) :: blk g2 122 (List.toArray (([] : List Value) ++ (arr1 (Value.int .i64) (0 : Int) 64 (List.replicate 64 (0 : Int)) ++ ([vi 0, vi 0, vi 0] : List Value)))) :: blk g1 65 (ca A1 p1.length c1 p2 p3 p4 p5 p6) :: fs) := hS
 refine ae [1, 2, 3] [pl 1 (pa g1 0), pl 2 (pa g2 0), pl 3 (pa g3 0)] hF rfl (fun hF => ?_)
 refine np_n ?_
 refine then_n ?_
 refine seq_cut (fun a w => ∃ (k2 : Int), Fr 43 [pl 2 (pa g2 0), pl 3 (pa g3 0)] a ∧ Sep w0 B w (blk g2 122 (List.toArray (([] : List Value) ++ (arr1 (Value.int .i64) (0 : Int) 64 (List.replicate 64 (0 : Int)) ++ ([vi 0, vi 0, vi 0] : List Value)))) :: blk g3 122 (List.toArray (([] : List Value) ++ (arr1 (Value.int .i64) (0 : Int) 64 (putL (pad 64 (List.replicate 64 (0 : Int))) 0 (List.take 64 p1)) ++ ([vi p2, vi p3, vi k2] : List Value)))) :: fs) ∧ ((moves_keyOf_J1 p1 p2 p3) k2).bind some = some r) ?_ ?_
 ·rintro a w ⟨k2, hF, hS, hm⟩
  unfold moves_keyOf_J1 at hm
  refine seqR ?_
  refine ar 1 [⟨false, [], vS (Instr.loadAt 122 (pa g3 0)), .agg (List.toArray (([] : List Value) ++ (arr1 (Value.int .i64) (0 : Int) 64 (putL (pad 64 (List.replicate 64 (0 : Int))) 0 (List.take 64 p1)) ++ ([vi p2, vi p3, vi k2] : List Value))))⟩] [some (.agg (List.toArray (([] : List Value) ++ (arr1 (Value.int .i64) (0 : Int) 64 (putL (pad 64 (List.replicate 64 (0 : Int))) 0 (List.take 64 p1)) ++ ([vi p2, vi p3, vi k2] : List Value)))))] [2, 42] [pl 2 (pa g2 0), pl 42 (.agg (List.toArray (([] : List Value) ++ (arr1 (Value.int .i64) (0 : Int) 64 (putL (pad 64 (List.replicate 64 (0 : Int))) 0 (List.take 64 p1)) ++ ([vi p2, vi p3, vi k2] : List Value)))))] hF hS ?_ (fun a w hF hS => ?_)
  ·exact obs_cons (ob_loadA (cs := (List.toArray (([] : List Value) ++ (arr1 (Value.int .i64) (0 : Int) 64 (putL (pad 64 (List.replicate 64 (0 : Int))) 0 (List.take 64 p1)) ++ ([vi p2, vi p3, vi k2] : List Value))))) (by kernel_rfl) (by kernel_rfl) (fun _ _ hS => (hS.at_ 1 rfl).cellsAt 0 (by rfl))) <| obs_nil
  obtain ⟨w, hrun, hS⟩ := run_putW (P := Try.prog) (t := 122) (us := (List.toArray (([] : List Value) ++ (arr1 (Value.int .i64) (0 : Int) 64 (putL (pad 64 (List.replicate 64 (0 : Int))) 0 (List.take 64 p1)) ++ ([vi p2, vi p3, vi k2] : List Value))))) (hS.at_ 0 rfl) (by kernel_rfl) (all_one (by kernel_rfl)) (by kernel_rfl)
  refine at_s hF hrun ?_
  have hS : Sep w0 B w (blk g2 122 (List.toArray (([] : List Value) ++ (arr1 (Value.int .i64) (0 : Int) 64 (putL (pad 64 (List.replicate 64 (0 : Int))) 0 (List.take 64 p1)) ++ ([vi p2, vi p3, vi k2] : List Value)))) :: blk g3 122 (List.toArray (([] : List Value) ++ (arr1 (Value.int .i64) (0 : Int) 64 (putL (pad 64 (List.replicate 64 (0 : Int))) 0 (List.take 64 p1)) ++ ([vi p2, vi p3, vi k2] : List Value)))) :: fs) := hS
  refine ae [2] [pl 2 (pa g2 0)] hF rfl (fun hF => ?_)
  refine then_n (wpIn_ret ?_)
  have hld0 := run_loadVarA (P := Try.prog) (t := 122) (cs := (List.toArray (([] : List Value) ++ (arr1 (Value.int .i64) (0 : Int) 64 (putL (pad 64 (List.replicate 64 (0 : Int))) 0 (List.take 64 p1)) ++ ([vi p2, vi p3, vi k2] : List Value))))) (by kernel_rfl) (by kernel_rfl) ((hS.at_ 0 rfl).cellsAt 0 (by rfl))
  have hS := hS.pickN 2 [] (by decide)
  have hm : some ((putL (pad 64 (List.replicate 64 (0 : Int))) 0 (List.take 64 p1)), p2, p3, k2) = some r := hm
  obtain rfl := Option.some.inj hm
  exact retV (rs := [.cell 2 122]) (vs := [.agg (List.toArray (([] : List Value) ++ (arr1 (Value.int .i64) (0 : Int) 64 (putL (pad 64 (List.replicate 64 (0 : Int))) 0 (List.take 64 p1)) ++ ([vi p2, vi p3, vi k2] : List Value))))]) hF rfl (rv_c (by kernel_rfl) hld0 <| rv_nil) rfl ⟨rfl, hS⟩
 ·refine seqR ?_
  obtain ⟨r1, hr1, hm⟩ := call_b hm
  refine ar 1 [⟨false, [], vS (Instr.loadAt 65 (pa g1 0)), .agg (ca A1 p1.length c1 p2 p3 p4 p5 p6)⟩] [some (.agg (ca A1 p1.length c1 p2 p3 p4 p5 p6))] [1, 2, 3, 16] [pl 1 (pa g1 0), pl 2 (pa g2 0), pl 3 (pa g3 0), pl 16 (.agg (ca A1 p1.length c1 p2 p3 p4 p5 p6))] hF hS ?_ (fun a w hF hS => ?_)
  ·exact obs_cons (oA (cs := (ca A1 p1.length c1 p2 p3 p4 p5 p6)) (fun _ _ hS => (hS.at_ 2 rfl).cellsAt 0 (by rfl))) <| obs_nil
  refine at_call (f := 113) (args := #[.agg (ca A1 p1.length c1 p2 p3 p4 p5 p6)]) (d := 17) hF (by kernel_rfl) (by kernel_rfl) Try.func113 (by kernel_rfl) rfl (board_Moves_w hr1 hS (fun _ hS => (hr_p1 _ (hS.dropN 3))) _hc_p1 rfl) (fun v a w hR hF => ?_)
  clear hS
  obtain ⟨A2, c2, rfl, hS⟩ := hR
  have hS : Sep w0 B w (ownK 126 3 A2 r1.length c2 (List.flatMap enc126 r1) :: blk g3 122 (List.toArray (([] : List Value) ++ (arr1 (Value.int .i64) (0 : Int) 64 (putL (pad 64 (List.replicate 64 (0 : Int))) 0 (List.take 64 p1)) ++ ([vi p2, vi p3, vi (-1)] : List Value)))) :: blk g2 122 (List.toArray (([] : List Value) ++ (arr1 (Value.int .i64) (0 : Int) 64 (List.replicate 64 (0 : Int)) ++ ([vi 0, vi 0, vi 0] : List Value)))) :: blk g1 65 (ca A1 p1.length c1 p2 p3 p4 p5 p6) :: fs) := hS
  refine ar 2 [] [] [1, 2, 3, 17, 18, 19] [pl 1 (pa g1 0), pl 2 (pa g2 0), pl 3 (pa g3 0), pl 17 (.slice A2 r1.length c2), pl 18 (vi (r1.length : Int)), pl 19 (vi 0)] hF hS obs_nil (fun a w hF hS => ?_)
  refine ae [1, 2, 3, 17, 18, 19] [pl 1 (pa g1 0), pl 2 (pa g2 0), pl 3 (pa g3 0), pl 17 (.slice A2 r1.length c2), pl 18 (vi (r1.length : Int)), pl 19 (vi 0)] hF rfl (fun hF => ?_)
  refine then_n ?_
  refine wpIn_block ?_
  have hS := hS.pickN 4 [3, 2, 1, 0] (by decide)
  refine wp_loop_model (S := (Int × Int)) (R := Int) (moves_keyOf_L1 p1 p4 r1) (fun x => ((moves_keyOf_K1 p1 p2 p3) x).bind some) r (fun (x : (Int × Int)) a w => Fr 43 [pl 1 (pa g1 0), pl 2 (pa g2 0), pl 3 (pa g3 0), pl 17 (.slice A2 r1.length c2), pl 18 (vi (r1.length : Int)), pl 19 (vi x.2)] a ∧ Sep w0 B w (blk g1 65 (ca A1 p1.length c1 p2 p3 p4 p5 p6) :: blk g2 122 (List.toArray (([] : List Value) ++ (arr1 (Value.int .i64) (0 : Int) 64 (List.replicate 64 (0 : Int)) ++ ([vi 0, vi 0, vi 0] : List Value)))) :: blk g3 122 (List.toArray (([] : List Value) ++ (arr1 (Value.int .i64) (0 : Int) 64 (putL (pad 64 (List.replicate 64 (0 : Int))) 0 (List.take 64 p1)) ++ ([vi p2, vi p3, vi x.1] : List Value)))) :: ownK 126 3 A2 r1.length c2 (List.flatMap enc126 r1) :: fs)) (assoc_b hm) ⟨hF.wk [1, 2, 3, 17, 18, 19], hS⟩ ?_
  clear hF hS hm
  rintro nn1 ⟨k1, z1⟩ a w ⟨hF, hS⟩ hm
  generalize hφ1 : stK (moves_keyOf_L1 p1 p4 r1) nn1 (fun x => ((moves_keyOf_K1 p1 p2 p3) x).bind some) = φ1 at hm
  unfold moves_keyOf_L1 at hm
  dsimp only at hF hS hm
  refine rg [] [] [1, 2, 3, 17, 18, 19, 20] [pl 1 (pa g1 0), pl 2 (pa g2 0), pl 3 (pa g3 0), pl 17 (.slice A2 r1.length c2), pl 18 (vi (r1.length : Int)), pl 19 (vi z1), pl 20 (.bool (decide (z1 < (r1.length : Int))))] hF hS obs_nil (fun a w hF hS => ?_)
  refine seq_cut (fun a w => Fr 43 [pl 1 (pa g1 0), pl 2 (pa g2 0), pl 3 (pa g3 0), pl 17 (.slice A2 r1.length c2), pl 18 (vi (r1.length : Int)), pl 19 (vi z1)] a ∧ Sep w0 B w (blk g1 65 (ca A1 p1.length c1 p2 p3 p4 p5 p6) :: blk g2 122 (List.toArray (([] : List Value) ++ (arr1 (Value.int .i64) (0 : Int) 64 (List.replicate 64 (0 : Int)) ++ ([vi 0, vi 0, vi 0] : List Value)))) :: blk g3 122 (List.toArray (([] : List Value) ++ (arr1 (Value.int .i64) (0 : Int) 64 (putL (pad 64 (List.replicate 64 (0 : Int))) 0 (List.take 64 p1)) ++ ([vi p2, vi p3, vi k1] : List Value)))) :: ownK 126 3 A2 r1.length c2 (List.flatMap enc126 r1) :: fs) ∧ ((moves_keyOf_J2 p1 p4 r1 k1 z1)).bind φ1 = some r) ?_ ?_
  ·rintro a w ⟨hF, hS, hm⟩
   unfold moves_keyOf_J2 at hm
   refine seq_cut (fun a w => ∃ (k3 : Int), Fr 43 [pl 1 (pa g1 0), pl 2 (pa g2 0), pl 3 (pa g3 0), pl 17 (.slice A2 r1.length c2), pl 18 (vi (r1.length : Int)), pl 19 (vi z1)] a ∧ Sep w0 B w (blk g1 65 (ca A1 p1.length c1 p2 p3 p4 p5 p6) :: blk g2 122 (List.toArray (([] : List Value) ++ (arr1 (Value.int .i64) (0 : Int) 64 (List.replicate 64 (0 : Int)) ++ ([vi 0, vi 0, vi 0] : List Value)))) :: blk g3 122 (List.toArray (([] : List Value) ++ (arr1 (Value.int .i64) (0 : Int) 64 (putL (pad 64 (List.replicate 64 (0 : Int))) 0 (List.take 64 p1)) ++ ([vi p2, vi p3, vi k3] : List Value)))) :: ownK 126 3 A2 r1.length c2 (List.flatMap enc126 r1) :: fs) ∧ ((moves_keyOf_J3 z1) k3).bind φ1 = some r) ?_ ?_
   ·rintro a w ⟨k3, hF, hS, hm⟩
    unfold moves_keyOf_J3 at hm
    refine rg1 [] [] [1, 2, 3, 17, 18, 19] [pl 1 (pa g1 0), pl 2 (pa g2 0), pl 3 (pa g3 0), pl 17 (.slice A2 r1.length c2), pl 18 (vi (r1.length : Int)), pl 19 (vi (w64 (z1 + 1)))] hF hS obs_nil (fun a w hF hS => ?_)
    refine then_n ?_
    rw [← hφ1] at hm
    exact ⟨(k3, (w64 (z1 + 1))), ⟨hF.wk [1, 2, 3, 17, 18, 19], hS⟩, hm⟩
   ·refine wpIn_block ?_
    refine seqR ?_
    obtain ⟨hp1, hm⟩ := asrt_b hm
    refine ar 2 [⟨true, [], vS (Instr.indexAt 66 (.slice A2 r1.length c2) (vi z1)), .pointer (some (sAddrK A2 3 z1))⟩, ⟨false, [], vS (Instr.loadAt 126 (.pointer (some (sAddrK A2 3 z1)))), .agg #[vi ((getd ((0, 0, 0) : MvT) r1 z1).1), vi ((getd ((0, 0, 0) : MvT) r1 z1).2.1), vi ((getd ((0, 0, 0) : MvT) r1 z1).2.2)]⟩] [some (.pointer (some (sAddrK A2 3 z1))), some (.agg #[vi ((getd ((0, 0, 0) : MvT) r1 z1).1), vi ((getd ((0, 0, 0) : MvT) r1 z1).2.1), vi ((getd ((0, 0, 0) : MvT) r1 z1).2.2)])] [1, 2, 3, 17, 18, 19, 22] [pl 1 (pa g1 0), pl 2 (pa g2 0), pl 3 (pa g3 0), pl 17 (.slice A2 r1.length c2), pl 18 (vi (r1.length : Int)), pl 19 (vi z1), pl 22 (.agg #[vi ((getd ((0, 0, 0) : MvT) r1 z1).1), vi ((getd ((0, 0, 0) : MvT) r1 z1).2.1), vi ((getd ((0, 0, 0) : MvT) r1 z1).2.2)])] hF hS ?_ (fun a w hF hS => ?_)
    ·exact obs_cons (ob_ixK (m := r1) encK126 Und66 hi126 hs126 (hS.at_ 3 rfl).rdK rfl (fun _ => hp1)) <| obs_cons (ob_getK (n := r1.length) (m := r1) encK126 ((0, 0, 0) : MvT) (by kernel_rfl) (by kernel_rfl) (fun _ hS => ⟨_, (hS.at_ 3 rfl).rdK⟩) (fun _ hS => rfl) (fun _ => hp1)) <| obs_nil
    refine at_do (d := 5) (s := vS (Instr.alloc 126 true (.tuple #[]))) (v := pa w.heap.size 0) (w' := w.alloc (.cells #[vi 0, vi 0, vi 0] 126)) hF (by kernel_rfl) (by kernel_rfl) (by kernel_rfl) (fun a hF => ?_)
    have hS : Sep w0 B (w.alloc (.cells #[vi 0, vi 0, vi 0] 126)) (blk w.heap.size 126 #[vi 0, vi 0, vi 0] :: (blk g1 65 (ca A1 p1.length c1 p2 p3 p4 p5 p6) :: blk g2 122 (List.toArray (([] : List Value) ++ (arr1 (Value.int .i64) (0 : Int) 64 (List.replicate 64 (0 : Int)) ++ ([vi 0, vi 0, vi 0] : List Value)))) :: blk g3 122 (List.toArray (([] : List Value) ++ (arr1 (Value.int .i64) (0 : Int) 64 (putL (pad 64 (List.replicate 64 (0 : Int))) 0 (List.take 64 p1)) ++ ([vi p2, vi p3, vi k1] : List Value)))) :: ownK 126 3 A2 r1.length c2 (List.flatMap enc126 r1) :: fs)) := hS.box 126 #[vi 0, vi 0, vi 0]
    generalize w.heap.size = g4 at hF hS
    generalize w.alloc (.cells #[vi 0, vi 0, vi 0] 126) = w at hS ⊢
    obtain ⟨w, hrun, hS⟩ := run_putA (P := Try.prog) (t := 126) (us := #[vi ((getd ((0, 0, 0) : MvT) r1 z1).1), vi ((getd ((0, 0, 0) : MvT) r1 z1).2.1), vi ((getd ((0, 0, 0) : MvT) r1 z1).2.2)]) (o := 0) (hS.at_ 0 rfl) (by kernel_rfl) (all_one (by kernel_rfl)) (Nat.le_of_ble_eq_true (by kernel_rfl))
    refine at_s hF hrun ?_
    have hS : Sep w0 B w (blk g4 126 #[vi ((getd ((0, 0, 0) : MvT) r1 z1).1), vi ((getd ((0, 0, 0) : MvT) r1 z1).2.1), vi ((getd ((0, 0, 0) : MvT) r1 z1).2.2)] :: blk g1 65 (ca A1 p1.length c1 p2 p3 p4 p5 p6) :: blk g2 122 (List.toArray (([] : List Value) ++ (arr1 (Value.int .i64) (0 : Int) 64 (List.replicate 64 (0 : Int)) ++ ([vi 0, vi 0, vi 0] : List Value)))) :: blk g3 122 (List.toArray (([] : List Value) ++ (arr1 (Value.int .i64) (0 : Int) 64 (putL (pad 64 (List.replicate 64 (0 : Int))) 0 (List.take 64 p1)) ++ ([vi p2, vi p3, vi k1] : List Value)))) :: ownK 126 3 A2 r1.length c2 (List.flatMap enc126 r1) :: fs) := hS
    refine ae [1, 2, 3, 5, 17, 18, 19] [pl 1 (pa g1 0), pl 2 (pa g2 0), pl 3 (pa g3 0), pl 5 (pa g4 0), pl 17 (.slice A2 r1.length c2), pl 18 (vi (r1.length : Int)), pl 19 (vi z1)] hF rfl (fun hF => ?_)
    refine then_n ?_
    obtain ⟨hp2, hm⟩ := asrt_b hm
    obtain ⟨r2, hr2, hm⟩ := call_b hm
    refine rg [⟨false, [], vS (Instr.loadAt 3 (pa g4 1)), vi ((getd ((0, 0, 0) : MvT) r1 z1).2.1)⟩, ⟨false, [], vS (Instr.loadAt 3 (pa g1 3)), vi p4⟩, ⟨false, [((((getd ((0, 0, 0) : MvT) r1 z1).2.1) == p4), true)], vS (Instr.loadAt 22 (pa g1 0)), .slice A1 p1.length c1⟩, ⟨false, [((((getd ((0, 0, 0) : MvT) r1 z1).2.1) == p4), true)], vS (Instr.loadAt 3 (pa g4 0)), vi ((getd ((0, 0, 0) : MvT) r1 z1).1)⟩, ⟨true, [((((getd ((0, 0, 0) : MvT) r1 z1).2.1) == p4), true)], vS (Instr.indexAt 22 (.slice A1 p1.length c1) (vi ((getd ((0, 0, 0) : MvT) r1 z1).1))), .pointer (some (sAddr A1 ((getd ((0, 0, 0) : MvT) r1 z1).1)))⟩, ⟨false, [((((getd ((0, 0, 0) : MvT) r1 z1).2.1) == p4), true)], vS (Instr.loadAt 3 (.pointer (some (sAddr A1 ((getd ((0, 0, 0) : MvT) r1 z1).1))))), vi (geti p1 ((getd ((0, 0, 0) : MvT) r1 z1).1))⟩, ⟨false, [((((getd ((0, 0, 0) : MvT) r1 z1).2.1) == p4), true)], callFunc 107 #[vi (geti p1 ((getd ((0, 0, 0) : MvT) r1 z1).1))], vi r2⟩] [none, some (vi ((getd ((0, 0, 0) : MvT) r1 z1).2.1)), none, some (vi p4), none, none, none, some (.slice A1 p1.length c1), none, some (vi ((getd ((0, 0, 0) : MvT) r1 z1).1)), some (.pointer (some (sAddr A1 ((getd ((0, 0, 0) : MvT) r1 z1).1)))), some (vi (geti p1 ((getd ((0, 0, 0) : MvT) r1 z1).1))), some (vi r2), none, none] [1, 2, 3, 17, 18, 19, 37] [pl 1 (pa g1 0), pl 2 (pa g2 0), pl 3 (pa g3 0), pl 17 (.slice A2 r1.length c2), pl 18 (vi (r1.length : Int)), pl 19 (vi z1), pl 37 (.bool ((((getd ((0, 0, 0) : MvT) r1 z1).2.1) == p4) && (r2 == 1)))] hF hS ?_ (fun a w hF hS => ?_)
    ·exact obs_cons (ob_load Agg3 (fun _ _ hS => (hS.at_ 0 rfl).cell rfl)) <| obs_cons (ob_load Agg3 (fun _ _ hS => (hS.at_ 1 rfl).cell rfl)) <| obs_cons (ob_load Agg22 (fun _ _ hS => (hS.at_ 1 rfl).cell rfl)) <| obs_cons (ob_load Agg3 (fun _ _ hS => (hS.at_ 0 rfl).cell rfl)) <| obs_cons (ob_ix1 (f := (Value.int .i64)) (m := p1) Und22 hi3 hs3 (hr_p1 _ (hS.dropN 5)) rfl (fun hy => hp2 (hy ((((getd ((0, 0, 0) : MvT) r1 z1).2.1) == p4), true) (by simp)))) <| obs_cons (ob_get1 (n := p1.length) (m := p1) (Value.int .i64) (0 : Int) Agg3 (fun _ hS => ⟨_, (hr_p1 _ (hS.dropN 5))⟩) (fun _ hS => rfl) (fun hy => hp2 (hy ((((getd ((0, 0, 0) : MvT) r1 z1).2.1) == p4), true) (by simp)))) <| obs_cons (ob_call Try.func107 (by kernel_rfl) rfl (fun hy _ hS => board_Kind_w (ite_some hr2 (by rw [show (((getd ((0, 0, 0) : MvT) r1 z1).2.1) == p4) = true from hy ((((getd ((0, 0, 0) : MvT) r1 z1).2.1) == p4), true) (by simp)]; try rfl)) hS )) <| obs_nil
    refine ce (t := 37) (b := (((getd ((0, 0, 0) : MvT) r1 z1).2.1) == p4) && (r2 == 1)) hF (fun hb => ?_) (fun hb => ?_)
    ·replace hm := if_t hm hb
     refine oneR ?_
     refine ar 3 [⟨false, [], vS (Instr.loadAt 3 (pa g1 3)), vi p4⟩] [none, some (vi p4), none] [1, 2, 3, 17, 18, 19, 39, 40] [pl 1 (pa g1 0), pl 2 (pa g2 0), pl 3 (pa g3 0), pl 17 (.slice A2 r1.length c2), pl 18 (vi (r1.length : Int)), pl 19 (vi z1), pl 39 (vi p4), pl 40 (pa g3 66)] hF hS ?_ (fun a w hF hS => ?_)
     ·exact obs_cons (ob_load Agg3 (fun _ _ hS => (hS.at_ 1 rfl).cell rfl)) <| obs_nil
     obtain ⟨w, hrun, hS⟩ := run_put (P := Try.prog) (t := 3) (u := vi p4) (i := 66) (hS.at_ 3 rfl) hi3 hs3 rfl (Nat.lt_of_lt_of_eq (Nat.lt_of_succ_le (Nat.le_of_ble_eq_true (by kernel_rfl))) rfl)
     refine at_s hF hrun ?_
     have hS : Sep w0 B w (blk g4 126 #[vi ((getd ((0, 0, 0) : MvT) r1 z1).1), vi ((getd ((0, 0, 0) : MvT) r1 z1).2.1), vi ((getd ((0, 0, 0) : MvT) r1 z1).2.2)] :: blk g1 65 (ca A1 p1.length c1 p2 p3 p4 p5 p6) :: blk g2 122 (List.toArray (([] : List Value) ++ (arr1 (Value.int .i64) (0 : Int) 64 (List.replicate 64 (0 : Int)) ++ ([vi 0, vi 0, vi 0] : List Value)))) :: blk g3 122 (List.toArray (([] : List Value) ++ (arr1 (Value.int .i64) (0 : Int) 64 (putL (pad 64 (List.replicate 64 (0 : Int))) 0 (List.take 64 p1)) ++ ([vi p2, vi p3, vi p4] : List Value)))) :: ownK 126 3 A2 r1.length c2 (List.flatMap enc126 r1) :: fs) := hS
     refine ae [1, 2, 3, 17, 18, 19] [pl 1 (pa g1 0), pl 2 (pa g2 0), pl 3 (pa g3 0), pl 17 (.slice A2 r1.length c2), pl 18 (vi (r1.length : Int)), pl 19 (vi z1)] hF rfl (fun hF => ?_)
     refine block_n ?_
     refine then_n ?_
     have hS := hS.pickN 5 [1, 2, 3, 4] (by decide)
     exact ⟨p4, hF.wk [1, 2, 3, 17, 18, 19], hS, hm⟩
    ·replace hm := if_f hm hb
     refine wpIn_skip ?_
     refine block_n ?_
     refine then_n ?_
     have hS := hS.pickN 5 [1, 2, 3, 4] (by decide)
     exact ⟨k1, hF.wk [1, 2, 3, 17, 18, 19], hS, hm⟩
  ·refine ce (t := 20) (b := decide (z1 < (r1.length : Int))) hF (fun hb => ?_) (fun hb => ?_)
   ·replace hm := if_t hm hb
    refine wpIn_skip ?_
    refine then_n ?_
    exact ⟨hF.wk [1, 2, 3, 17, 18, 19], hS, hm⟩
   ·replace hm := if_f hm hb
    refine wpIn_exit ?_
    refine then_e (then_e (block_e (then_n ?_)))
    have hS := hS.pickN 4 [1, 2] (by decide)
    rw [← hφ1] at hm
    replace hm := done_b hm
    unfold moves_keyOf_K1 at hm
    try dsimp only at hm
    have hm : ((moves_keyOf_J1 p1 p2 p3) k1).bind some = some r := hm
    exact ⟨k1, hF.wk [2, 3], hS, hm⟩

def api_Move_4_J3  (z1 : Int) : Option (St Int (Fl Unit Int)) :=
 some (.next (w64 (z1 + 1)))

def api_Move_4_J2  (s1 : List MvT) (v1 v2 : Int) (v3 z1 : Int) : Option (St Int (Fl Unit Int)) :=
 asrt (0 ≤ z1 ∧ z1 < (s1.length : Int)) <| if ((v1 == ((getd ((0, 0, 0) : MvT) s1 z1).1)) && ((v2 == ((getd ((0, 0, 0) : MvT) s1 z1).2.1)) && (v3 == ((getd ((0, 0, 0) : MvT) s1 z1).2.2)))) then (some (.done (.ret z1))) else ((api_Move_4_J3 z1))

def api_Move_4_J1  : Option Int :=
 some (-1)

def api_Move_4_K1  : (Fl Unit Int) → Option Int :=
 fun (x : (Fl Unit Int)) => match x with | .go _ => api_Move_4_J1 | .ret x => some x

def api_Move_4_L1  (s1 : List MvT) (v1 v2 v3 : Int) : Int → Option (St Int (Fl Unit Int)) :=
 fun (x : Int) => match x with | z1 => if (decide (z1 < (s1.length : Int))) then ((api_Move_4_J2 s1 v1 v2 v3 z1)) else (some (.done (.go ())))

def api_Move_4_m  (s1 : List MvT) (v1 v2 v3 : Int) : Option Int :=
 (loop (api_Move_4_L1 s1 v1 v2 v3) 0).bind api_Move_4_K1

theorem api_Move_4_w  {A1 : Option Addr} {c1 n1 : Nat} {s1 : List MvT} {v1 v2 : Int} {v3 r : Int} {w0 w : World} {B : Nat} {fs : List HP} (hm : api_Move_4_m s1 v1 v2 v3 = some r) (hS : Sep w0 B w (fs)) (hr_s1 : RdF w0 B fs A1 ((List.flatMap enc126 s1))) (_hc_s1 : s1.length ≤ c1) (_hn_s1 : n1 = s1.length) :
  Calls Try.prog 147 #[.slice A1 n1 c1, .agg #[vi v1, vi v2, vi v3]] w fun e w' => e = .returned (vi r) ∧ Sep w0 B w' (fs) := by
 obtain ⟨i126, hi126, hz126, hs126, hb126⟩ := info_parts Info126
 obtain rfl := _hn_s1
 unfold api_Move_4_m at hm
 replace hm := start_b hm
 refine enter (l := [.slice A1 s1.length c1, .agg #[vi v1, vi v2, vi v3]]) (n := 19) Try.func147 rfl rfl (by simp) (fun a hF => ?_)
 refine seqR ?_
 refine at_do (d := 3) (s := vS (Instr.box 126 (.agg #[vi v1, vi v2, vi v3]))) (v := pa w.heap.size 0) (w' := w.alloc (.cells #[vi v1, vi v2, vi v3] 126)) hF (by kernel_rfl) (by kernel_rfl) (by kernel_rfl) (fun a hF => ?_)
 have hS : Sep w0 B (w.alloc (.cells #[vi v1, vi v2, vi v3] 126)) (blk w.heap.size 126 #[vi v1, vi v2, vi v3] :: (fs)) := hS.box 126 #[vi v1, vi v2, vi v3]
 generalize w.heap.size = g1 at hF hS
 generalize w.alloc (.cells #[vi v1, vi v2, vi v3] 126) = w at hS ⊢
 refine ar 1 [] [] [0, 3] [pl 0 (.slice A1 s1.length c1), pl 3 (pa g1 0)] hF hS obs_nil (fun a w hF hS => ?_)
 refine ae [0, 3] [pl 0 (.slice A1 s1.length c1), pl 3 (pa g1 0)] hF rfl (fun hF => ?_)
 refine then_n ?_
 refine seq_cut (fun a w => Fr 19 [] a ∧ Sep w0 B w (fs) ∧ (api_Move_4_J1).bind some = some r) ?_ ?_
 ·rintro a w ⟨hF, hS, hm⟩
  unfold api_Move_4_J1 at hm
  refine rg [] [] [4] [pl 4 (vi (-1))] hF hS obs_nil (fun a w hF hS => ?_)
  refine wpIn_ret ?_
  have hm : some (-1) = some r := hm
  obtain rfl := Option.some.inj hm
  exact retV (rs := [.tmp 4]) (vs := [vi (-1)]) hF rfl rv1 rfl ⟨rfl, hS⟩
 ·refine rg [] [] [0, 3, 7, 8] [pl 0 (.slice A1 s1.length c1), pl 3 (pa g1 0), pl 7 (vi (s1.length : Int)), pl 8 (vi 0)] hF hS obs_nil (fun a w hF hS => ?_)
  refine wpIn_block ?_
  refine wp_loop_model (S := Int) (R := (Fl Unit Int)) (api_Move_4_L1 s1 v1 v2 v3) (fun x => (api_Move_4_K1 x).bind some) r (fun (x : Int) a w => Fr 19 [pl 0 (.slice A1 s1.length c1), pl 3 (pa g1 0), pl 7 (vi (s1.length : Int)), pl 8 (vi x)] a ∧ Sep w0 B w (blk g1 126 #[vi v1, vi v2, vi v3] :: fs)) (assoc_b hm) ⟨hF.wk [0, 3, 7, 8], hS⟩ ?_
  clear hF hS hm
  rintro nn1 z1 a w ⟨hF, hS⟩ hm
  generalize hφ1 : stK (api_Move_4_L1 s1 v1 v2 v3) nn1 (fun x => (api_Move_4_K1 x).bind some) = φ1 at hm
  unfold api_Move_4_L1 at hm
  dsimp only at hm
  refine rg [] [] [0, 3, 7, 8, 9] [pl 0 (.slice A1 s1.length c1), pl 3 (pa g1 0), pl 7 (vi (s1.length : Int)), pl 8 (vi z1), pl 9 (.bool (decide (z1 < (s1.length : Int))))] hF hS obs_nil (fun a w hF hS => ?_)
  refine seq_cut (fun a w => Fr 19 [pl 0 (.slice A1 s1.length c1), pl 3 (pa g1 0), pl 7 (vi (s1.length : Int)), pl 8 (vi z1)] a ∧ Sep w0 B w (blk g1 126 #[vi v1, vi v2, vi v3] :: fs) ∧ ((api_Move_4_J2 s1 v1 v2 v3 z1)).bind φ1 = some r) ?_ ?_
  ·rintro a w ⟨hF, hS, hm⟩
   unfold api_Move_4_J2 at hm
   refine seq_cut (fun a w => Fr 19 [pl 0 (.slice A1 s1.length c1), pl 3 (pa g1 0), pl 7 (vi (s1.length : Int)), pl 8 (vi z1)] a ∧ Sep w0 B w (blk g1 126 #[vi v1, vi v2, vi v3] :: fs) ∧ ((api_Move_4_J3 z1)).bind φ1 = some r) ?_ ?_
   ·rintro a w ⟨hF, hS, hm⟩
    unfold api_Move_4_J3 at hm
    refine rg1 [] [] [0, 3, 7, 8] [pl 0 (.slice A1 s1.length c1), pl 3 (pa g1 0), pl 7 (vi (s1.length : Int)), pl 8 (vi (w64 (z1 + 1)))] hF hS obs_nil (fun a w hF hS => ?_)
    refine then_n ?_
    rw [← hφ1] at hm
    exact ⟨(w64 (z1 + 1)), ⟨hF.wk [0, 3, 7, 8], hS⟩, hm⟩
   ·refine wpIn_block ?_
    refine rg [] [] [0, 3, 5, 7, 8] [pl 0 (.slice A1 s1.length c1), pl 3 (pa g1 0), pl 5 (vi z1), pl 7 (vi (s1.length : Int)), pl 8 (vi z1)] hF hS obs_nil (fun a w hF hS => ?_)
    obtain ⟨hp1, hm⟩ := asrt_b hm
    refine rg [⟨false, [], vS (Instr.loadAt 126 (pa g1 0)), .agg #[vi v1, vi v2, vi v3]⟩, ⟨true, [], vS (Instr.indexAt 66 (.slice A1 s1.length c1) (vi z1)), .pointer (some (sAddrK A1 3 z1))⟩, ⟨false, [], vS (Instr.loadAt 126 (.pointer (some (sAddrK A1 3 z1)))), .agg #[vi ((getd ((0, 0, 0) : MvT) s1 z1).1), vi ((getd ((0, 0, 0) : MvT) s1 z1).2.1), vi ((getd ((0, 0, 0) : MvT) s1 z1).2.2)]⟩, ⟨true, [], vS (do eqGuard .eql 126 (.tmp 11) (.tmp 15) (.agg #[vi v1, vi v2, vi v3]) (.agg #[vi ((getd ((0, 0, 0) : MvT) s1 z1).1), vi ((getd ((0, 0, 0) : MvT) s1 z1).2.1), vi ((getd ((0, 0, 0) : MvT) s1 z1).2.2)]); binOp .eql 126 (.agg #[vi v1, vi v2, vi v3]) (.agg #[vi ((getd ((0, 0, 0) : MvT) s1 z1).1), vi ((getd ((0, 0, 0) : MvT) s1 z1).2.1), vi ((getd ((0, 0, 0) : MvT) s1 z1).2.2)])), .bool (((v1 == ((getd ((0, 0, 0) : MvT) s1 z1).1)) && ((v2 == ((getd ((0, 0, 0) : MvT) s1 z1).2.1)) && (v3 == ((getd ((0, 0, 0) : MvT) s1 z1).2.2)))))⟩] [some (.agg #[vi v1, vi v2, vi v3]), none, none, some (.pointer (some (sAddrK A1 3 z1))), some (.agg #[vi ((getd ((0, 0, 0) : MvT) s1 z1).1), vi ((getd ((0, 0, 0) : MvT) s1 z1).2.1), vi ((getd ((0, 0, 0) : MvT) s1 z1).2.2)]), some (.bool (((v1 == ((getd ((0, 0, 0) : MvT) s1 z1).1)) && ((v2 == ((getd ((0, 0, 0) : MvT) s1 z1).2.1)) && (v3 == ((getd ((0, 0, 0) : MvT) s1 z1).2.2))))))] [0, 3, 5, 7, 8, 16] [pl 0 (.slice A1 s1.length c1), pl 3 (pa g1 0), pl 5 (vi z1), pl 7 (vi (s1.length : Int)), pl 8 (vi z1), pl 16 (.bool ((v1 == ((getd ((0, 0, 0) : MvT) s1 z1).1)) && ((v2 == ((getd ((0, 0, 0) : MvT) s1 z1).2.1)) && (v3 == ((getd ((0, 0, 0) : MvT) s1 z1).2.2)))))] hF hS ?_ (fun a w hF hS => ?_)
    ·exact obs_cons (oA (cs := #[vi v1, vi v2, vi v3]) (fun _ _ hS => (hS.at_ 0 rfl).cellsAt 0 (by rfl))) <| obs_cons (ob_ixK (m := s1) encK126 Und66 hi126 hs126 (hr_s1 _ (hS.dropN 1)) rfl (fun _ => hp1)) <| obs_cons (ob_getK (n := s1.length) (m := s1) encK126 ((0, 0, 0) : MvT) (by kernel_rfl) (by kernel_rfl) (fun _ hS => ⟨_, (hr_s1 _ (hS.dropN 1))⟩) (fun _ hS => rfl) (fun _ => hp1)) <| obs_cons (ob_eql rfl (by kernel_rfl) (fun w => Eql126 w)) <| obs_nil
    refine ce (t := 16) (b := ((v1 == ((getd ((0, 0, 0) : MvT) s1 z1).1)) && ((v2 == ((getd ((0, 0, 0) : MvT) s1 z1).2.1)) && (v3 == ((getd ((0, 0, 0) : MvT) s1 z1).2.2))))) hF (fun hb => ?_) (fun hb => ?_)
    ·replace hm := if_t hm hb
     refine rg [] [] [4] [pl 4 (vi z1)] hF hS obs_nil (fun a w hF hS => ?_)
     refine wpIn_ret ?_
     refine block_r (then_r (then_r (block_r (then_r ?_))))
     rw [← hφ1] at hm
     replace hm := done_b hm
     unfold api_Move_4_K1 at hm
     try dsimp only at hm
     have hS := hS.pickN 1 [] (by decide)
     have hm : some z1 = some r := hm
     obtain rfl := Option.some.inj hm
     exact retV (rs := [.tmp 4]) (vs := [vi z1]) hF rfl rv1 rfl ⟨rfl, hS⟩
    ·replace hm := if_f hm hb
     refine wpIn_skip ?_
     refine block_n ?_
     refine then_n ?_
     exact ⟨hF.wk [0, 3, 7, 8], hS, hm⟩
  ·refine ce (t := 9) (b := decide (z1 < (s1.length : Int))) hF (fun hb => ?_) (fun hb => ?_)
   ·replace hm := if_t hm hb
    refine wpIn_skip ?_
    refine then_n ?_
    exact ⟨hF.wk [0, 3, 7, 8], hS, hm⟩
   ·replace hm := if_f hm hb
    refine wpIn_exit ?_
    refine then_e (then_e (block_e (then_n ?_)))
    have hS := hS.pickN 1 [] (by decide)
    rw [← hφ1] at hm
    replace hm := done_b hm
    unfold api_Move_4_K1 at hm
    try dsimp only at hm
    have hm : (api_Move_4_J1).bind some = some r := hm
    exact ⟨hF.wk [], hS, hm⟩

def api_Move_3_m  (s1 : List MvT) (v1 v2 v3 : Int) : Option Bool :=
 (api_Move_4_m s1 v1 v2 v3).bind fun r1 => some (decide ((0 : Int) ≤ r1))

theorem api_Move_3_w  {A1 : Option Addr} {c1 n1 : Nat} {s1 : List MvT} {v1 v2 v3 : Int} {r : Bool} {w0 w : World} {B : Nat} {fs : List HP} (hm : api_Move_3_m s1 v1 v2 v3 = some r) (hS : Sep w0 B w (fs)) (hr_s1 : RdF w0 B fs A1 ((List.flatMap enc126 s1))) (_hc_s1 : s1.length ≤ c1) (_hn_s1 : n1 = s1.length) :
  Calls Try.prog 114 #[.slice A1 n1 c1, .agg #[vi v1, vi v2, vi v3]] w fun e w' => e = .returned (.bool r) ∧ Sep w0 B w' (fs) := by
 obtain ⟨i126, hi126, hz126, hs126, hb126⟩ := info_parts Info126
 obtain rfl := _hn_s1
 unfold api_Move_3_m at hm
 replace hm := start_b hm
 refine enter (l := [.slice A1 s1.length c1, .agg #[vi v1, vi v2, vi v3]]) (n := 9) Try.func114 rfl rfl (by simp) (fun a hF => ?_)
 refine seqR ?_
 refine at_do (d := 3) (s := vS (Instr.box 126 (.agg #[vi v1, vi v2, vi v3]))) (v := pa w.heap.size 0) (w' := w.alloc (.cells #[vi v1, vi v2, vi v3] 126)) hF (by kernel_rfl) (by kernel_rfl) (by kernel_rfl) (fun a hF => ?_)
 have hS : Sep w0 B (w.alloc (.cells #[vi v1, vi v2, vi v3] 126)) (blk w.heap.size 126 #[vi v1, vi v2, vi v3] :: (fs)) := hS.box 126 #[vi v1, vi v2, vi v3]
 generalize w.heap.size = g1 at hF hS
 generalize w.alloc (.cells #[vi v1, vi v2, vi v3] 126) = w at hS ⊢
 refine ar 1 [] [] [0, 3] [pl 0 (.slice A1 s1.length c1), pl 3 (pa g1 0)] hF hS obs_nil (fun a w hF hS => ?_)
 refine ae [0, 3] [pl 0 (.slice A1 s1.length c1), pl 3 (pa g1 0)] hF rfl (fun hF => ?_)
 refine then_n ?_
 obtain ⟨r1, hr1, hm⟩ := call_b hm
 refine rg [⟨false, [], vS (Instr.loadAt 126 (pa g1 0)), .agg #[vi v1, vi v2, vi v3]⟩, ⟨false, [], callFunc 147 #[.slice A1 s1.length c1, .agg #[vi v1, vi v2, vi v3]], vi r1⟩] [none, some (.agg #[vi v1, vi v2, vi v3]), some (vi r1), none, none] [4] [pl 4 (.bool (decide ((0 : Int) ≤ r1)))] hF hS ?_ (fun a w hF hS => ?_)
 ·exact obs_cons (oA (cs := #[vi v1, vi v2, vi v3]) (fun _ _ hS => (hS.at_ 0 rfl).cellsAt 0 (by rfl))) <| obs_cons (ob_call Try.func147 (by kernel_rfl) rfl (fun _ _ hS => api_Move_4_w hr1 hS (fun _ hS => (hr_s1 _ (hS.dropN 1))) _hc_s1 rfl)) <| obs_nil
 refine wpIn_ret ?_
 have hS := hS.pickN 1 [] (by decide)
 have hm : some (decide ((0 : Int) ≤ r1)) = some r := hm
 obtain rfl := Option.some.inj hm
 exact retV (rs := [.tmp 4]) (vs := [.bool (decide ((0 : Int) ≤ r1))]) hF rfl rv1 rfl ⟨rfl, hS⟩

def moves_Do_J1  (p1 : List Int) (p2 p3 : Int) (p4 p5 : Int) (p6 m1 : Int) (m2 m3 : Int) : Option (List Int × Int × Int × Int × Int × Int × Int) :=
 (board_After_m p1 p2 p3 p4 p5 p6 m1 m2 m3).bind fun r4 => some (r4.1, r4.2.1, r4.2.2.1, r4.2.2.2.1, r4.2.2.2.2.1, r4.2.2.2.2.2, 0)

def moves_Do_J2  (p1 : List Int) (p2 p3 : Int) (p4 p5 : Int) (p6 m1 : Int) (m2 m3 : Int) (z1 : Bool) : Option (List Int × Int × Int × Int × Int × Int × Int) :=
 if z1 then (some (([] : List Int), 0, 0, 0, 0, 0, 8)) else ((moves_Do_J1 p1 p2 p3 p4 p5 p6 m1 m2 m3))

def moves_Do_m  (p1 : List Int) (p2 p3 : Int) (p4 p5 : Int) (p6 m1 : Int) (m2 m3 : Int) : Option (List Int × Int × Int × Int × Int × Int × Int) :=
 (board_May_m p1 p2 p3 p4 p5 p6).bind fun r1 => if (!r1) then (some (([] : List Int), 0, 0, 0, 0, 0, 12)) else ((board_Moves_m p1 p2 p3 p4 p5 p6).bind fun r2 => (api_Move_3_m r2 m1 m2 m3).bind fun r3 => (moves_Do_J2 p1 p2 p3 p4 p5 p6 m1 m2 m3) (!r3))

theorem moves_Do_w  {A1 : Option Addr} {c1 n1 : Nat} {p1 : List Int} {p2 p3 : Int} {p4 p5 : Int} {p6 m1 : Int} {m2 m3 : Int} {r : (List Int × Int × Int × Int × Int × Int × Int)} {w0 w : World} {B : Nat} {fs : List HP} (hm : moves_Do_m p1 p2 p3 p4 p5 p6 m1 m2 m3 = some r) (hS : Sep w0 B w (fs)) (hr_p1 : RdF w0 B fs A1 (vI p1)) (_hc_p1 : p1.length ≤ c1) (_hn_p1 : n1 = p1.length) :
  Calls Try.prog 80 #[.agg (ca A1 n1 c1 p2 p3 p4 p5 p6), .agg #[vi m1, vi m2, vi m3]] w fun e w' => ∃ v, e = .returned v ∧ ∃ (A5 : Option Addr) (c5 : Nat), v = .tuple #[.agg (ca A5 r.1.length c5 r.2.1 r.2.2.1 r.2.2.2.1 r.2.2.2.2.1 r.2.2.2.2.2.1), vi r.2.2.2.2.2.2] ∧ Sep w0 B w' (own 3 (.slice A5 r.1.length c5) (vI r.1) :: fs) := by
 obtain ⟨i3, hi3, hz3, hs3, hb3⟩ := info_parts Info3
 obtain rfl := _hn_p1
 unfold moves_Do_m at hm
 replace hm := start_b hm
 refine enter (l := [.agg (ca A1 p1.length c1 p2 p3 p4 p5 p6), .agg #[vi m1, vi m2, vi m3]]) (n := 21) Try.func80 rfl rfl (by simp) (fun a hF => ?_)
 refine seqR ?_
 refine at_do (d := 2) (s := vS (Instr.box 65 (.agg (ca A1 p1.length c1 p2 p3 p4 p5 p6)))) (v := pa w.heap.size 0) (w' := w.alloc (.cells (ca A1 p1.length c1 p2 p3 p4 p5 p6) 65)) hF (by kernel_rfl) (by kernel_rfl) (by kernel_rfl) (fun a hF => ?_)
 have hS : Sep w0 B (w.alloc (.cells (ca A1 p1.length c1 p2 p3 p4 p5 p6) 65)) (blk w.heap.size 65 (ca A1 p1.length c1 p2 p3 p4 p5 p6) :: (fs)) := hS.box 65 (ca A1 p1.length c1 p2 p3 p4 p5 p6)
 generalize w.heap.size = g1 at hF hS
 generalize w.alloc (.cells (ca A1 p1.length c1 p2 p3 p4 p5 p6) 65) = w at hS ⊢
 refine at_do (d := 3) (s := vS (Instr.box 126 (.agg #[vi m1, vi m2, vi m3]))) (v := pa w.heap.size 0) (w' := w.alloc (.cells #[vi m1, vi m2, vi m3] 126)) hF (by kernel_rfl) (by kernel_rfl) (by kernel_rfl) (fun a hF => ?_)
 have hS : Sep w0 B (w.alloc (.cells #[vi m1, vi m2, vi m3] 126)) (blk w.heap.size 126 #[vi m1, vi m2, vi m3] :: (blk g1 65 (ca A1 p1.length c1 p2 p3 p4 p5 p6) :: fs)) := hS.box 126 #[vi m1, vi m2, vi m3]
 generalize w.heap.size = g2 at hF hS
 generalize w.alloc (.cells #[vi m1, vi m2, vi m3] 126) = w at hS ⊢
 refine at_do (d := 4) (s := vS (Instr.alloc 65 true (.tuple #[]))) (v := pa w.heap.size 0) (w' := w.alloc (.cells (ca none 0 0 0 0 0 0 0) 65)) hF (by kernel_rfl) (by kernel_rfl) (by kernel_rfl) (fun a hF => ?_)
 have hS : Sep w0 B (w.alloc (.cells (ca none 0 0 0 0 0 0 0) 65)) (blk w.heap.size 65 (ca none 0 0 0 0 0 0 0) :: (blk g2 126 #[vi m1, vi m2, vi m3] :: blk g1 65 (ca A1 p1.length c1 p2 p3 p4 p5 p6) :: fs)) := hS.box 65 (ca none 0 0 0 0 0 0 0)
 generalize w.heap.size = g3 at hF hS
 generalize w.alloc (.cells (ca none 0 0 0 0 0 0 0) 65) = w at hS ⊢
 refine ar 1 [] [] [2, 3, 4] [pl 2 (pa g1 0), pl 3 (pa g2 0), pl 4 (pa g3 0)] hF hS obs_nil (fun a w hF hS => ?_)
 refine ae [2, 3, 4] [pl 2 (pa g1 0), pl 3 (pa g2 0), pl 4 (pa g3 0)] hF rfl (fun hF => ?_)
 refine then_n ?_
 refine seq_cut (fun a w => Fr 21 [pl 2 (pa g1 0), pl 3 (pa g2 0), pl 4 (pa g3 0)] a ∧ Sep w0 B w (blk g1 65 (ca A1 p1.length c1 p2 p3 p4 p5 p6) :: blk g2 126 #[vi m1, vi m2, vi m3] :: blk g3 65 (ca none 0 0 0 0 0 0 0) :: fs) ∧ ((moves_Do_J1 p1 p2 p3 p4 p5 p6 m1 m2 m3)).bind some = some r) ?_ ?_
 ·rintro a w ⟨hF, hS, hm⟩
  unfold moves_Do_J1 at hm
  refine seqR ?_
  obtain ⟨r4, hr4, hm⟩ := call_b hm
  refine ar 2 [⟨false, [], vS (Instr.loadAt 65 (pa g1 0)), .agg (ca A1 p1.length c1 p2 p3 p4 p5 p6)⟩, ⟨false, [], vS (Instr.loadAt 126 (pa g2 0)), .agg #[vi m1, vi m2, vi m3]⟩] [some (.agg (ca A1 p1.length c1 p2 p3 p4 p5 p6)), some (.agg #[vi m1, vi m2, vi m3])] [4, 18, 19] [pl 4 (pa g3 0), pl 18 (.agg (ca A1 p1.length c1 p2 p3 p4 p5 p6)), pl 19 (.agg #[vi m1, vi m2, vi m3])] hF hS ?_ (fun a w hF hS => ?_)
  ·exact obs_cons (oA (cs := (ca A1 p1.length c1 p2 p3 p4 p5 p6)) (fun _ _ hS => (hS.at_ 0 rfl).cellsAt 0 (by rfl))) <| obs_cons (oA (cs := #[vi m1, vi m2, vi m3]) (fun _ _ hS => (hS.at_ 1 rfl).cellsAt 0 (by rfl))) <| obs_nil
  refine at_call (f := 115) (args := #[.agg (ca A1 p1.length c1 p2 p3 p4 p5 p6), .agg #[vi m1, vi m2, vi m3]]) (d := 20) hF (by kernel_rfl) (by kernel_rfl) Try.func115 (by kernel_rfl) rfl (board_After_w hr4 hS (fun _ hS => (hr_p1 _ (hS.dropN 3))) _hc_p1 rfl) (fun v a w hR hF => ?_)
  clear hS
  obtain ⟨A4, c4, rfl, hS⟩ := hR
  have hS : Sep w0 B w (own 3 (.slice A4 r4.1.length c4) (vI r4.1) :: blk g1 65 (ca A1 p1.length c1 p2 p3 p4 p5 p6) :: blk g2 126 #[vi m1, vi m2, vi m3] :: blk g3 65 (ca none 0 0 0 0 0 0 0) :: fs) := hS
  obtain ⟨w, hrun, hS⟩ := run_putA (P := Try.prog) (t := 65) (us := (ca A4 r4.1.length c4 r4.2.1 r4.2.2.1 r4.2.2.2.1 r4.2.2.2.2.1 r4.2.2.2.2.2)) (o := 0) (hS.at_ 3 rfl) (by kernel_rfl) (all_one (by kernel_rfl)) (Nat.le_of_ble_eq_true (by kernel_rfl))
  refine at_s hF hrun ?_
  have hS : Sep w0 B w (own 3 (.slice A4 r4.1.length c4) (vI r4.1) :: blk g1 65 (ca A1 p1.length c1 p2 p3 p4 p5 p6) :: blk g2 126 #[vi m1, vi m2, vi m3] :: blk g3 65 (ca A4 r4.1.length c4 r4.2.1 r4.2.2.1 r4.2.2.2.1 r4.2.2.2.2.1 r4.2.2.2.2.2) :: fs) := hS
  refine ar 1 [] [] [4, 5] [pl 4 (pa g3 0), pl 5 (vi 0)] hF hS obs_nil (fun a w hF hS => ?_)
  refine ae [4, 5] [pl 4 (pa g3 0), pl 5 (vi 0)] hF rfl (fun hF => ?_)
  refine then_n (wpIn_ret ?_)
  have hld0 := run_loadVarA (P := Try.prog) (t := 65) (cs := (ca A4 r4.1.length c4 r4.2.1 r4.2.2.1 r4.2.2.2.1 r4.2.2.2.2.1 r4.2.2.2.2.2)) (by kernel_rfl) (by kernel_rfl) ((hS.at_ 3 rfl).cellsAt 0 (by rfl))
  have hS := hS.pickN 4 [0] (by decide)
  have hm : some (r4.1, r4.2.1, r4.2.2.1, r4.2.2.2.1, r4.2.2.2.2.1, r4.2.2.2.2.2, 0) = some r := hm
  obtain rfl := Option.some.inj hm
  exact retV (rs := [.cell 4 65, .tmp 5]) (vs := [.agg (ca A4 r4.1.length c4 r4.2.1 r4.2.2.1 r4.2.2.2.1 r4.2.2.2.2.1 r4.2.2.2.2.2), vi 0]) hF rfl (rv_c (by kernel_rfl) hld0 <| rv_t (by kernel_rfl) <| rv_nil) rfl ⟨_, rfl, A4, c4, rfl, hS⟩
 ·refine wpIn_block ?_
  obtain ⟨r1, hr1, hm⟩ := call_b hm
  refine rg [⟨false, [], vS (Instr.loadAt 65 (pa g1 0)), .agg (ca A1 p1.length c1 p2 p3 p4 p5 p6)⟩, ⟨false, [], callFunc 77 #[.agg (ca A1 p1.length c1 p2 p3 p4 p5 p6)], .bool r1⟩] [some (.agg (ca A1 p1.length c1 p2 p3 p4 p5 p6)), some (.bool r1), none, none] [2, 3, 4, 6] [pl 2 (pa g1 0), pl 3 (pa g2 0), pl 4 (pa g3 0), pl 6 (.bool (!r1))] hF hS ?_ (fun a w hF hS => ?_)
  ·exact obs_cons (oA (cs := (ca A1 p1.length c1 p2 p3 p4 p5 p6)) (fun _ _ hS => (hS.at_ 2 rfl).cellsAt 0 (by rfl))) <| obs_cons (ob_call Try.func77 (by kernel_rfl) rfl (fun _ _ hS => board_May_w hr1 hS (fun _ hS => (hr_p1 _ (hS.dropN 3))) _hc_p1 rfl)) <| obs_nil
  refine ce (t := 6) (b := !r1) hF (fun hb => ?_) (fun hb => ?_)
  ·replace hm := if_t hm hb
   refine seqR ?_
   refine ar 1 [] [] [4, 10] [pl 4 (pa g3 0), pl 10 (.agg (ca none 0 0 0 0 0 0 0))] hF hS obs_nil (fun a w hF hS => ?_)
   obtain ⟨w, hrun, hS⟩ := run_putA (P := Try.prog) (t := 65) (us := (ca none 0 0 0 0 0 0 0)) (o := 0) (hS.at_ 0 rfl) (by kernel_rfl) (all_one (by kernel_rfl)) (Nat.le_of_ble_eq_true (by kernel_rfl))
   refine at_s hF hrun ?_
   have hS : Sep w0 B w (blk g3 65 (ca none 0 0 0 0 0 0 0) :: blk g2 126 #[vi m1, vi m2, vi m3] :: blk g1 65 (ca A1 p1.length c1 p2 p3 p4 p5 p6) :: fs) := hS
   refine ar 1 [] [] [4, 5] [pl 4 (pa g3 0), pl 5 (vi 12)] hF hS obs_nil (fun a w hF hS => ?_)
   refine ae [4, 5] [pl 4 (pa g3 0), pl 5 (vi 12)] hF rfl (fun hF => ?_)
   refine then_n (wpIn_ret ?_)
   refine block_r (then_r ?_)
   have hS : Sep w0 B w (own 3 (.slice none 0 0) (vI ([] : List Int)) :: blk g3 65 (ca none 0 0 0 0 0 0 0) :: blk g2 126 #[vi m1, vi m2, vi m3] :: blk g1 65 (ca A1 p1.length c1 p2 p3 p4 p5 p6) :: fs) := hS.nil 3
   have hl1 := (hS.at_ 0 rfl).len1
   have hS := (hS.at_ 0 rfl).reN hl1
   have hS : Sep w0 B w (own 3 (.slice none (([] : List Int).length) 0) (vI ([] : List Int)) :: blk g3 65 (ca none 0 0 0 0 0 0 0) :: blk g2 126 #[vi m1, vi m2, vi m3] :: blk g1 65 (ca A1 p1.length c1 p2 p3 p4 p5 p6) :: fs) := hS
   have hld0 := run_loadVarA (P := Try.prog) (t := 65) (cs := #[.slice none (([] : List Int).length) 0, vi 0, vi 0, vi 0, vi 0, vi 0]) (by kernel_rfl) (by kernel_rfl) ((hS.at_ 1 rfl).cellsAt 0 (by rfl))
   have hS := hS.pickN 4 [0] (by decide)
   have hm : some (([] : List Int), 0, 0, 0, 0, 0, 12) = some r := hm
   obtain rfl := Option.some.inj hm
   exact retV (rs := [.cell 4 65, .tmp 5]) (vs := [.agg #[.slice none (([] : List Int).length) 0, vi 0, vi 0, vi 0, vi 0, vi 0], vi 12]) hF rfl (rv_c (by kernel_rfl) hld0 <| rv_t (by kernel_rfl) <| rv_nil) rfl ⟨_, rfl, none, 0, rfl, hS⟩
  ·replace hm := if_f hm hb
   refine seq_cut (fun a w => ∃ (z1 : Bool), Fr 21 [pl 2 (pa g1 0), pl 3 (pa g2 0), pl 4 (pa g3 0), pl 11 (.bool z1)] a ∧ Sep w0 B w (blk g1 65 (ca A1 p1.length c1 p2 p3 p4 p5 p6) :: blk g2 126 #[vi m1, vi m2, vi m3] :: blk g3 65 (ca none 0 0 0 0 0 0 0) :: fs) ∧ ((moves_Do_J2 p1 p2 p3 p4 p5 p6 m1 m2 m3) z1).bind some = some r) ?_ ?_
   ·rintro a w ⟨z1, hF, hS, hm⟩
    unfold moves_Do_J2 at hm
    refine ce (t := 11) (b := z1) hF (fun hb => ?_) (fun hb => ?_)
    ·replace hm := if_t hm hb
     refine seqR ?_
     refine ar 1 [] [] [4, 17] [pl 4 (pa g3 0), pl 17 (.agg (ca none 0 0 0 0 0 0 0))] hF hS obs_nil (fun a w hF hS => ?_)
     obtain ⟨w, hrun, hS⟩ := run_putA (P := Try.prog) (t := 65) (us := (ca none 0 0 0 0 0 0 0)) (o := 0) (hS.at_ 2 rfl) (by kernel_rfl) (all_one (by kernel_rfl)) (Nat.le_of_ble_eq_true (by kernel_rfl))
     refine at_s hF hrun ?_
     have hS : Sep w0 B w (blk g1 65 (ca A1 p1.length c1 p2 p3 p4 p5 p6) :: blk g2 126 #[vi m1, vi m2, vi m3] :: blk g3 65 (ca none 0 0 0 0 0 0 0) :: fs) := hS
     refine ar 1 [] [] [4, 5] [pl 4 (pa g3 0), pl 5 (vi 8)] hF hS obs_nil (fun a w hF hS => ?_)
     refine ae [4, 5] [pl 4 (pa g3 0), pl 5 (vi 8)] hF rfl (fun hF => ?_)
     refine then_n (wpIn_ret ?_)
     refine block_r (then_r ?_)
     have hS : Sep w0 B w (own 3 (.slice none 0 0) (vI ([] : List Int)) :: blk g1 65 (ca A1 p1.length c1 p2 p3 p4 p5 p6) :: blk g2 126 #[vi m1, vi m2, vi m3] :: blk g3 65 (ca none 0 0 0 0 0 0 0) :: fs) := hS.nil 3
     have hl2 := (hS.at_ 0 rfl).len1
     have hS := (hS.at_ 0 rfl).reN hl2
     have hS : Sep w0 B w (own 3 (.slice none (([] : List Int).length) 0) (vI ([] : List Int)) :: blk g1 65 (ca A1 p1.length c1 p2 p3 p4 p5 p6) :: blk g2 126 #[vi m1, vi m2, vi m3] :: blk g3 65 (ca none 0 0 0 0 0 0 0) :: fs) := hS
     have hld0 := run_loadVarA (P := Try.prog) (t := 65) (cs := #[.slice none (([] : List Int).length) 0, vi 0, vi 0, vi 0, vi 0, vi 0]) (by kernel_rfl) (by kernel_rfl) ((hS.at_ 3 rfl).cellsAt 0 (by rfl))
     have hS := hS.pickN 4 [0] (by decide)
     have hm : some (([] : List Int), 0, 0, 0, 0, 0, 8) = some r := hm
     obtain rfl := Option.some.inj hm
     exact retV (rs := [.cell 4 65, .tmp 5]) (vs := [.agg #[.slice none (([] : List Int).length) 0, vi 0, vi 0, vi 0, vi 0, vi 0], vi 8]) hF rfl (rv_c (by kernel_rfl) hld0 <| rv_t (by kernel_rfl) <| rv_nil) rfl ⟨_, rfl, none, 0, rfl, hS⟩
    ·replace hm := if_f hm hb
     refine wpIn_skip ?_
     refine block_n ?_
     refine then_n ?_
     exact ⟨hF.wk [2, 3, 4], hS, hm⟩
   ·obtain ⟨r2, hr2, hm⟩ := call_b hm
    obtain ⟨r3, hr3, hm⟩ := call_b hm
    refine regMix5 [0, 2] [] 4 #[true, false, true, false, false, false] [⟨false, [], vS (Instr.loadAt 65 (pa g1 0)), .agg (ca A1 p1.length c1 p2 p3 p4 p5 p6)⟩, ⟨false, [], vS (Instr.loadAt 126 (pa g2 0)), .agg #[vi m1, vi m2, vi m3]⟩] [some (.agg (ca A1 p1.length c1 p2 p3 p4 p5 p6)), some (.agg #[vi m1, vi m2, vi m3])] [2, 3, 4, 12, 14] [pl 2 (pa g1 0), pl 3 (pa g2 0), pl 4 (pa g3 0), pl 12 (.agg (ca A1 p1.length c1 p2 p3 p4 p5 p6)), pl 14 (.agg #[vi m1, vi m2, vi m3])] hF hS Fol (by kernel_rfl) (by kernel_rfl) (by kernel_rfl) (by kernel_rfl) ?_ (fun a w hF hS => ?_)
    ·exact obs_cons (oA (cs := (ca A1 p1.length c1 p2 p3 p4 p5 p6)) (fun _ _ hS => (hS.at_ 2 rfl).cellsAt 0 (by rfl))) <| obs_cons (oA (cs := #[vi m1, vi m2, vi m3]) (fun _ _ hS => (hS.at_ 1 rfl).cellsAt 0 (by rfl))) <| obs_nil
    refine aq [1] (all_cons ?_ all_nil)
    refine ao (listed' := #[true, true, true, false, false, false]) ?_
    refine at_call (f := 113) (args := #[.agg (ca A1 p1.length c1 p2 p3 p4 p5 p6)]) (d := 13) hF (by kernel_rfl) (by kernel_rfl) Try.func113 (by kernel_rfl) rfl (board_Moves_w hr2 hS (fun _ hS => (hr_p1 _ (hS.dropN 3))) _hc_p1 rfl) (fun v a w hR hF => ?_)
    clear hS
    obtain ⟨A3, c3, rfl, hS⟩ := hR
    have hS : Sep w0 B w (ownK 126 3 A3 r2.length c3 (List.flatMap enc126 r2) :: blk g3 65 (ca none 0 0 0 0 0 0 0) :: blk g2 126 #[vi m1, vi m2, vi m3] :: blk g1 65 (ca A1 p1.length c1 p2 p3 p4 p5 p6) :: fs) := hS
    refine any_fin rfl (hS.pickN 4 [1, 2, 3] (by decide)) ?_
    refine aq [3] (all_cons ?_ all_nil)
    refine ao (listed' := #[true, true, true, true, false, false]) ?_
    refine ar 1 [⟨false, [], callFunc 114 #[.slice A3 r2.length c3, .agg #[vi m1, vi m2, vi m3]], .bool r3⟩] [some (.bool r3)] [2, 3, 4, 15] [pl 2 (pa g1 0), pl 3 (pa g2 0), pl 4 (pa g3 0), pl 15 (.bool r3)] hF hS ?_ (fun a w hF hS => ?_)
    ·exact obs_cons (ob_call Try.func114 (by kernel_rfl) rfl (fun _ _ hS => api_Move_3_w hr3 hS (fun _ hS => (hS.at_ 0 rfl).rdK) ((hS.at_ 0 rfl).capK encK126) rfl)) <| obs_nil
    refine any_fin rfl (hS.pickN 4 [1, 2, 3] (by decide)) ?_
    refine aq [4] (all_cons ?_ all_nil)
    refine ao (listed' := #[true, true, true, true, true, false]) ?_
    refine aw 1 [] [] [2, 3, 4, 16] [pl 2 (pa g1 0), pl 3 (pa g2 0), pl 4 (pa g3 0), pl 16 (.bool (!r3))] hF hS obs_nil (fun a hF => ?_)
    refine any_finI rfl (fun h => h) ?_
    refine aq [5] (all_cons ?_ all_nil)
    refine ao (listed' := #[true, true, true, true, true, true]) ?_
    refine aw 1 [] [] [2, 3, 4, 11] [pl 2 (pa g1 0), pl 3 (pa g2 0), pl 4 (pa g3 0), pl 11 (.bool (!r3))] hF hS obs_nil (fun a hF => ?_)
    refine any_finI rfl (fun h => h) ?_
    refine any_end (by kernel_rfl) (np_n (then_n ?_))
    have hS := hS.pickN 4 [3, 2, 1] (by decide)
    exact ⟨(!r3), hF.wk [2, 3, 4, 11], hS, hm⟩

def moves_Play_J4  (made1 z1 : Int) (last13 : List Int) (last14 last15 : Int) (last16 last17 last18 : Int) (seen3 : List (KV 64 × Int)) : Option (St (List Int × Int × Int × Int × Int × Int × Int × List (KV 64 × Int) × Int) (List Int × Int × Int × Int × Int × Int × Int × Int × List (KV 64 × Int))) :=
 some (.next (last13, last14, last15, last16, last17, last18, (w64 (made1 + 1)), seen3, (w64 (z1 + 1))))

def moves_Play_J5  (made1 : Int) (seen1 : List (KV 64 × Int)) (z1 : Int) (r4 : (List Int × Int × Int × Int × Int × Int × Int)) : Option (St (List Int × Int × Int × Int × Int × Int × Int × List (KV 64 × Int) × Int) (List Int × Int × Int × Int × Int × Int × Int × Int × List (KV 64 × Int))) :=
 (moves_keyOf_m r4.1 r4.2.1 r4.2.2.1 r4.2.2.2.1 r4.2.2.2.2.1 r4.2.2.2.2.2.1).bind fun r5 => (moves_Play_J4 made1 z1) r4.1 r4.2.1 r4.2.2.1 r4.2.2.2.1 r4.2.2.2.2.1 r4.2.2.2.2.2.1 (mput (mkV 64 r5.1, r5.2.1, r5.2.2.1, r5.2.2.2) (w64 ((mget (0 : Int) (mkV 64 r5.1, r5.2.1, r5.2.2.1, r5.2.2.2) seen1) + 1)) seen1)

def moves_Play_J3  (l1 : List MvT) (last1 : List Int) (last2 last3 : Int) (last4 last5 : Int) (last6 made1 : Int) (seen1 : List (KV 64 × Int)) (z1 : Int) : Option (St (List Int × Int × Int × Int × Int × Int × Int × List (KV 64 × Int) × Int) (List Int × Int × Int × Int × Int × Int × Int × Int × List (KV 64 × Int))) :=
 asrt (0 ≤ z1 ∧ z1 < (l1.length : Int)) <| (moves_Do_m last1 last2 last3 last4 last5 last6 ((getd ((0, 0, 0) : MvT) l1 z1).1) ((getd ((0, 0, 0) : MvT) l1 z1).2.1) ((getd ((0, 0, 0) : MvT) l1 z1).2.2)).bind fun r4 => if (r4.2.2.2.2.2.2 != 0) then (some (.done (last1, last2, last3, last4, last5, last6, made1, r4.2.2.2.2.2.2, seen1))) else ((moves_Play_J5 made1 seen1 z1 r4))

def moves_Play_J6  (last7 : List Int) (last8 last9 : Int) (last10 last11 : Int) (last12 made2 : Int) (e1 times1 : Int) : Option (List Int × Int × Int × Int × Int × Int × Int × Int × Int) :=
 some (last7, last8, last9, last10, last11, last12, made2, times1, e1)

def moves_Play_J2  (last7 : List Int) (last8 last9 : Int) (last10 last11 : Int) (last12 made2 e1 : Int) (seen2 : List (KV 64 × Int)) : Option (List Int × Int × Int × Int × Int × Int × Int × Int × Int) :=
 (moves_keyOf_m last7 last8 last9 last10 last11 last12).bind fun r6 => (moves_Play_J6 last7 last8 last9 last10 last11 last12 made2 e1) (mget (0 : Int) (mkV 64 r6.1, r6.2.1, r6.2.2.1, r6.2.2.2) seen2)

def moves_Play_K1  : (List Int × Int × Int × Int × Int × Int × Int × Int × List (KV 64 × Int)) → Option (List Int × Int × Int × Int × Int × Int × Int × Int × Int) :=
 fun (x : (List Int × Int × Int × Int × Int × Int × Int × Int × List (KV 64 × Int))) => match x with | (last7, last8, last9, last10, last11, last12, made2, e1, seen2) => moves_Play_J2 last7 last8 last9 last10 last11 last12 made2 e1 seen2

def moves_Play_L1  (l1 : List MvT) : (List Int × Int × Int × Int × Int × Int × Int × List (KV 64 × Int) × Int) → Option (St (List Int × Int × Int × Int × Int × Int × Int × List (KV 64 × Int) × Int) (List Int × Int × Int × Int × Int × Int × Int × Int × List (KV 64 × Int))) :=
 fun (x : (List Int × Int × Int × Int × Int × Int × Int × List (KV 64 × Int) × Int)) => match x with | (last1, last2, last3, last4, last5, last6, made1, seen1, z1) => if (decide (z1 < (l1.length : Int))) then ((moves_Play_J3 l1 last1 last2 last3 last4 last5 last6 made1 seen1 z1)) else (some (.done (last1, last2, last3, last4, last5, last6, made1, 0, seen1)))

def moves_Play_J1  (p1 : List Int) (p2 p3 : Int) (p4 p5 p6 : Int) (l1 : List MvT) : Option (List Int × Int × Int × Int × Int × Int × Int × Int × Int) :=
 (slices_Clone_m p1).bind fun r2 => (moves_keyOf_m p1 p2 p3 p4 p5 p6).bind fun r3 => (loop (moves_Play_L1 l1) (r2, p2, p3, p4, p5, p6, 0, (mput (mkV 64 r3.1, r3.2.1, r3.2.2.1, r3.2.2.2) 1 ([] : List (KV 64 × Int))), 0)).bind moves_Play_K1

def moves_Play_m  (p1 : List Int) (p2 p3 : Int) (p4 p5 p6 : Int) (l1 : List MvT) : Option (List Int × Int × Int × Int × Int × Int × Int × Int × Int) :=
 (board_May_m p1 p2 p3 p4 p5 p6).bind fun r1 => if (!r1) then (some (([] : List Int), 0, 0, 0, 0, 0, 0, 0, 12)) else (if (decide ((200 : Int) < (l1.length : Int))) then (some (([] : List Int), 0, 0, 0, 0, 0, 0, 0, 11)) else ((moves_Play_J1 p1 p2 p3 p4 p5 p6 l1)))

theorem moves_Play_w  {A1 : Option Addr} {c1 n1 : Nat} {p1 : List Int} {p2 p3 : Int} {p4 p5 p6 : Int} {A2 : Option Addr} {c2 n2 : Nat} {l1 : List MvT} {r : (List Int × Int × Int × Int × Int × Int × Int × Int × Int)} {w0 w : World} {B : Nat} {fs : List HP} (hm : moves_Play_m p1 p2 p3 p4 p5 p6 l1 = some r) (hS : Sep w0 B w (fs)) (hr_p1 : RdF w0 B fs A1 (vI p1)) (_hc_p1 : p1.length ≤ c1) (_hn_p1 : n1 = p1.length) (hr_l1 : RdF w0 B fs A2 ((List.flatMap enc126 l1))) (_hc_l1 : l1.length ≤ c2) (_hn_l1 : n2 = l1.length) :
  Calls Try.prog 28 #[.agg (ca A1 n1 c1 p2 p3 p4 p5 p6), .slice A2 n2 c2] w fun e w' => ∃ v, e = .returned v ∧ ∃ (A8 : Option Addr) (c8 : Nat), v = .tuple #[.agg (ca A8 r.1.length c8 r.2.1 r.2.2.1 r.2.2.2.1 r.2.2.2.2.1 r.2.2.2.2.2.1), vi r.2.2.2.2.2.2.1, vi r.2.2.2.2.2.2.2.1, vi r.2.2.2.2.2.2.2.2] ∧ Sep w0 B w' (own 3 (.slice A8 r.1.length c8) (vI r.1) :: fs) := by
 obtain ⟨i3, hi3, hz3, hs3, hb3⟩ := info_parts Info3
 obtain ⟨i22, hi22, hz22, hs22, hb22⟩ := info_parts Info22
 obtain ⟨i126, hi126, hz126, hs126, hb126⟩ := info_parts Info126
 obtain rfl := _hn_p1
 obtain rfl := _hn_l1
 unfold moves_Play_m at hm
 replace hm := start_b hm
 refine enter (l := [.agg (ca A1 p1.length c1 p2 p3 p4 p5 p6), .slice A2 l1.length c2]) (n := 65) Try.func28 rfl rfl (by simp) (fun a hF => ?_)
 refine seqR ?_
 refine at_do (d := 2) (s := vS (Instr.box 65 (.agg (ca A1 p1.length c1 p2 p3 p4 p5 p6)))) (v := pa w.heap.size 0) (w' := w.alloc (.cells (ca A1 p1.length c1 p2 p3 p4 p5 p6) 65)) hF (by kernel_rfl) (by kernel_rfl) (by kernel_rfl) (fun a hF => ?_)
 have hS : Sep w0 B (w.alloc (.cells (ca A1 p1.length c1 p2 p3 p4 p5 p6) 65)) (blk w.heap.size 65 (ca A1 p1.length c1 p2 p3 p4 p5 p6) :: (fs)) := hS.box 65 (ca A1 p1.length c1 p2 p3 p4 p5 p6)
 generalize w.heap.size = g1 at hF hS
 generalize w.alloc (.cells (ca A1 p1.length c1 p2 p3 p4 p5 p6) 65) = w at hS ⊢
 refine at_do (d := 4) (s := vS (Instr.alloc 65 true (.tuple #[]))) (v := pa w.heap.size 0) (w' := w.alloc (.cells (ca none 0 0 0 0 0 0 0) 65)) hF (by kernel_rfl) (by kernel_rfl) (by kernel_rfl) (fun a hF => ?_)
 have hS : Sep w0 B (w.alloc (.cells (ca none 0 0 0 0 0 0 0) 65)) (blk w.heap.size 65 (ca none 0 0 0 0 0 0 0) :: (blk g1 65 (ca A1 p1.length c1 p2 p3 p4 p5 p6) :: fs)) := hS.box 65 (ca none 0 0 0 0 0 0 0)
 generalize w.heap.size = g2 at hF hS
 generalize w.alloc (.cells (ca none 0 0 0 0 0 0 0) 65) = w at hS ⊢
 refine ar 3 [] [] [1, 2, 4, 5, 7] [pl 1 (.slice A2 l1.length c2), pl 2 (pa g1 0), pl 4 (pa g2 0), pl 5 (vi 0), pl 7 (vi 0)] hF hS obs_nil (fun a w hF hS => ?_)
 refine ae [1, 2, 4, 5, 7] [pl 1 (.slice A2 l1.length c2), pl 2 (pa g1 0), pl 4 (pa g2 0), pl 5 (vi 0), pl 7 (vi 0)] hF rfl (fun hF => ?_)
 refine then_n ?_
 refine seq_cut (fun a w => Fr 65 [pl 1 (.slice A2 l1.length c2), pl 2 (pa g1 0), pl 4 (pa g2 0), pl 5 (vi 0), pl 7 (vi 0)] a ∧ Sep w0 B w (blk g1 65 (ca A1 p1.length c1 p2 p3 p4 p5 p6) :: blk g2 65 (ca none 0 0 0 0 0 0 0) :: fs) ∧ ((moves_Play_J1 p1 p2 p3 p4 p5 p6 l1)).bind some = some r) ?_ ?_
 ·rintro a w ⟨hF, hS, hm⟩
  unfold moves_Play_J1 at hm
  refine seqR ?_
  refine ar 1 [⟨false, [], vS (Instr.loadAt 65 (pa g1 0)), .agg (ca A1 p1.length c1 p2 p3 p4 p5 p6)⟩] [some (.agg (ca A1 p1.length c1 p2 p3 p4 p5 p6))] [1, 2, 4, 5, 7, 23] [pl 1 (.slice A2 l1.length c2), pl 2 (pa g1 0), pl 4 (pa g2 0), pl 5 (vi 0), pl 7 (vi 0), pl 23 (.agg (ca A1 p1.length c1 p2 p3 p4 p5 p6))] hF hS ?_ (fun a w hF hS => ?_)
  ·exact obs_cons (oA (cs := (ca A1 p1.length c1 p2 p3 p4 p5 p6)) (fun _ _ hS => (hS.at_ 0 rfl).cellsAt 0 (by rfl))) <| obs_nil
  obtain ⟨w, hrun, hS⟩ := run_putA (P := Try.prog) (t := 65) (us := (ca A1 p1.length c1 p2 p3 p4 p5 p6)) (o := 0) (hS.at_ 1 rfl) (by kernel_rfl) (all_one (by kernel_rfl)) (Nat.le_of_ble_eq_true (by kernel_rfl))
  refine at_s hF hrun ?_
  have hS : Sep w0 B w (blk g1 65 (ca A1 p1.length c1 p2 p3 p4 p5 p6) :: blk g2 65 (ca A1 p1.length c1 p2 p3 p4 p5 p6) :: fs) := hS
  refine ae [1, 2, 4, 5, 7] [pl 1 (.slice A2 l1.length c2), pl 2 (pa g1 0), pl 4 (pa g2 0), pl 5 (vi 0), pl 7 (vi 0)] hF rfl (fun hF => ?_)
  refine then_n (seqR ?_)
  obtain ⟨r2, hr2, hm⟩ := call_b hm
  refine ar 2 [⟨false, [], vS (Instr.loadAt 22 (pa g1 0)), .slice A1 p1.length c1⟩] [none, some (.slice A1 p1.length c1)] [1, 2, 4, 5, 7, 25] [pl 1 (.slice A2 l1.length c2), pl 2 (pa g1 0), pl 4 (pa g2 0), pl 5 (vi 0), pl 7 (vi 0), pl 25 (.slice A1 p1.length c1)] hF hS ?_ (fun a w hF hS => ?_)
  ·exact obs_cons (ob_load Agg22 (fun _ _ hS => (hS.at_ 0 rfl).cell rfl)) <| obs_nil
  refine at_call (f := 78) (args := #[.slice A1 p1.length c1]) (d := 26) hF (by kernel_rfl) (by kernel_rfl) Try.func78 (by kernel_rfl) rfl (slices_Clone_w hr2 hS (fun _ hS => (hr_p1 _ (hS.dropN 2))) _hc_p1 rfl) (fun v a w hR hF => ?_)
  clear hS
  obtain ⟨A3, c3, rfl, hS⟩ := hR
  have hS : Sep w0 B w (own 3 (.slice A3 r2.length c3) (vI r2) :: blk g1 65 (ca A1 p1.length c1 p2 p3 p4 p5 p6) :: blk g2 65 (ca A1 p1.length c1 p2 p3 p4 p5 p6) :: fs) := hS
  refine ar 1 [] [] [1, 2, 4, 5, 7, 26, 27] [pl 1 (.slice A2 l1.length c2), pl 2 (pa g1 0), pl 4 (pa g2 0), pl 5 (vi 0), pl 7 (vi 0), pl 26 (.slice A3 r2.length c3), pl 27 (pa g2 0)] hF hS obs_nil (fun a w hF hS => ?_)
  obtain ⟨w, hrun, hS⟩ := run_put (P := Try.prog) (t := 22) (u := .slice A3 r2.length c3) (i := 0) (hS.at_ 2 rfl) hi22 hs22 rfl (Nat.lt_of_lt_of_eq (Nat.lt_of_succ_le (Nat.le_of_ble_eq_true (by kernel_rfl))) rfl)
  refine at_s hF hrun ?_
  have hS : Sep w0 B w (own 3 (.slice A3 r2.length c3) (vI r2) :: blk g1 65 (ca A1 p1.length c1 p2 p3 p4 p5 p6) :: blk g2 65 (ca A3 r2.length c3 p2 p3 p4 p5 p6) :: fs) := hS
  refine ae [1, 2, 4, 5, 7] [pl 1 (.slice A2 l1.length c2), pl 2 (pa g1 0), pl 4 (pa g2 0), pl 5 (vi 0), pl 7 (vi 0)] hF rfl (fun hF => ?_)
  refine then_n (seqR ?_)
  obtain ⟨r3, hr3, hm⟩ := call_b hm
  refine at_do (d := 28) (s := vS (Instr.makeMap 124 none)) (v := .map (some w.heap.size)) (w' := w.alloc (.map #[] 0)) hF (by kernel_rfl) (by kernel_rfl) (by kernel_rfl) (fun a hF => ?_)
  have hS : Sep w0 B (w.alloc (.map #[] 0)) (mapH kf122 (Value.int .i64) w.heap.size ([] : List (KV 64 × Int)) :: (own 3 (.slice A3 r2.length c3) (vI r2) :: blk g1 65 (ca A1 p1.length c1 p2 p3 p4 p5 p6) :: blk g2 65 (ca A3 r2.length c3 p2 p3 p4 p5 p6) :: fs)) := hS.mapNew _ _
  generalize w.heap.size = g3 at hF hS
  generalize w.alloc (.map #[] 0) = w at hS ⊢
  refine ar 2 [⟨false, [], vS (Instr.loadAt 65 (pa g1 0)), .agg (ca A1 p1.length c1 p2 p3 p4 p5 p6)⟩, ⟨false, [], callFunc 79 #[.agg (ca A1 p1.length c1 p2 p3 p4 p5 p6)], .agg (List.toArray (([] : List Value) ++ (arr1 (Value.int .i64) (0 : Int) 64 r3.1 ++ ([vi r3.2.1, vi r3.2.2.1, vi r3.2.2.2] : List Value))))⟩] [some (.agg (ca A1 p1.length c1 p2 p3 p4 p5 p6)), some (.agg (List.toArray (([] : List Value) ++ (arr1 (Value.int .i64) (0 : Int) 64 r3.1 ++ ([vi r3.2.1, vi r3.2.2.1, vi r3.2.2.2] : List Value)))))] [1, 4, 5, 7, 28, 30] [pl 1 (.slice A2 l1.length c2), pl 4 (pa g2 0), pl 5 (vi 0), pl 7 (vi 0), pl 28 (.map (some g3)), pl 30 (.agg (List.toArray (([] : List Value) ++ (arr1 (Value.int .i64) (0 : Int) 64 r3.1 ++ ([vi r3.2.1, vi r3.2.2.1, vi r3.2.2.2] : List Value)))))] hF hS ?_ (fun a w hF hS => ?_)
  ·exact obs_cons (oA (cs := (ca A1 p1.length c1 p2 p3 p4 p5 p6)) (fun _ _ hS => (hS.at_ 2 rfl).cellsAt 0 (by rfl))) <| obs_cons (ob_call Try.func79 (by kernel_rfl) rfl (fun _ _ hS => moves_keyOf_w hr3 hS (fun _ hS => (hr_p1 _ (hS.dropN 4))) _hc_p1 rfl)) <| obs_nil
  obtain ⟨w, hrun, hS⟩ := run_mputE (P := Try.prog) (t := 124) (vf := (Value.int .i64)) (k := (mkV 64 r3.1, r3.2.1, r3.2.2.1, r3.2.2.2)) (kfV122 r3.1 r3.2.1 r3.2.2.1 r3.2.2.2) MK122 UndM124 1 (hS.at_ 0 rfl)
  refine at_s hF hrun ?_
  have hS : Sep w0 B w (mapH kf122 (Value.int .i64) g3 (mput (mkV 64 r3.1, r3.2.1, r3.2.2.1, r3.2.2.2) 1 ([] : List (KV 64 × Int))) :: own 3 (.slice A3 r2.length c3) (vI r2) :: blk g1 65 (ca A1 p1.length c1 p2 p3 p4 p5 p6) :: blk g2 65 (ca A3 r2.length c3 p2 p3 p4 p5 p6) :: fs) := hS
  refine ar 2 [] [] [1, 4, 5, 7, 8] [pl 1 (.slice A2 l1.length c2), pl 4 (pa g2 0), pl 5 (vi 0), pl 7 (vi 0), pl 8 (.map (some g3))] hF hS obs_nil (fun a w hF hS => ?_)
  refine ae [1, 4, 5, 7, 8] [pl 1 (.slice A2 l1.length c2), pl 4 (pa g2 0), pl 5 (vi 0), pl 7 (vi 0), pl 8 (.map (some g3))] hF rfl (fun hF => ?_)
  refine then_n ?_
  refine seq_cut (fun a w => ∃ (last7 : List Int) (last8 last9 : Int) (last10 last11 : Int) (last12 made2 e1 : Int) (seen2 : List (KV 64 × Int)) (A5 : Option Addr) (c5 : Nat), Fr 65 [pl 4 (pa g2 0), pl 5 (vi made2), pl 7 (vi e1), pl 8 (.map (some g3))] a ∧ Sep w0 B w (blk g2 65 (ca A5 last7.length c5 last8 last9 last10 last11 last12) :: own 3 (.slice A5 last7.length c5) (vI last7) :: mapH kf122 (Value.int .i64) g3 seen2 :: fs) ∧ (moves_Play_J2 last7 last8 last9 last10 last11 last12 made2 e1 seen2).bind some = some r) ?_ ?_
  ·rintro a w ⟨last7, last8, last9, last10, last11, last12, made2, e1, seen2, A5, c5, hF, hS, hm⟩
   unfold moves_Play_J2 at hm
   refine seq_cut (fun a w => ∃ (times1 : Int), Fr 65 [pl 4 (pa g2 0), pl 5 (vi made2), pl 6 (vi times1), pl 7 (vi e1)] a ∧ Sep w0 B w (blk g2 65 (ca A5 last7.length c5 last8 last9 last10 last11 last12) :: own 3 (.slice A5 last7.length c5) (vI last7) :: fs) ∧ ((moves_Play_J6 last7 last8 last9 last10 last11 last12 made2 e1) times1).bind some = some r) ?_ ?_
   ·rintro a w ⟨times1, hF, hS, hm⟩
    unfold moves_Play_J6 at hm
    refine wpIn_ret ?_
    have hld0 := run_loadVarA (P := Try.prog) (t := 65) (cs := (ca A5 last7.length c5 last8 last9 last10 last11 last12)) (by kernel_rfl) (by kernel_rfl) ((hS.at_ 0 rfl).cellsAt 0 (by rfl))
    have hS := hS.pickN 2 [1] (by decide)
    have hm : some (last7, last8, last9, last10, last11, last12, made2, times1, e1) = some r := hm
    obtain rfl := Option.some.inj hm
    exact retV (rs := [.cell 4 65, .tmp 5, .tmp 6, .tmp 7]) (vs := [.agg (ca A5 last7.length c5 last8 last9 last10 last11 last12), vi made2, vi times1, vi e1]) hF rfl (rv_c (by kernel_rfl) hld0 <| rv_t (by kernel_rfl) <| rv_t (by kernel_rfl) <| rv_t (by kernel_rfl) <| rv_nil) rfl ⟨_, rfl, A5, c5, rfl, hS⟩
   ·obtain ⟨r6, hr6, hm⟩ := call_b hm
    refine regMix5 [0, 1, 2, 3, 6] [] 6 #[true, true, true, true, false, false, true, false, false, false, false] [⟨false, [], vS (Instr.loadAt 65 (pa g2 0)), .agg (ca A5 last7.length c5 last8 last9 last10 last11 last12)⟩, ⟨false, [], vS (Instr.loadAt 65 (pa g2 0)), .agg (ca A5 last7.length c5 last8 last9 last10 last11 last12)⟩] [some (.agg (ca A5 last7.length c5 last8 last9 last10 last11 last12)), none, none, some (.agg (ca A5 last7.length c5 last8 last9 last10 last11 last12)), none] [4, 58, 59, 60, 61, 64] [pl 4 (pa g2 0), pl 58 (.agg (ca A5 last7.length c5 last8 last9 last10 last11 last12)), pl 59 (vi made2), pl 60 (.map (some g3)), pl 61 (.agg (ca A5 last7.length c5 last8 last9 last10 last11 last12)), pl 64 (vi e1)] hF hS Fol (by kernel_rfl) (by kernel_rfl) (by kernel_rfl) (by kernel_rfl) ?_ (fun a w hF hS => ?_)
    ·exact obs_cons (oA (cs := (ca A5 last7.length c5 last8 last9 last10 last11 last12)) (fun _ _ hS => (hS.at_ 0 rfl).cellsAt 0 (by rfl))) <| obs_cons (oA (cs := (ca A5 last7.length c5 last8 last9 last10 last11 last12)) (fun _ _ hS => (hS.at_ 0 rfl).cellsAt 0 (by rfl))) <| obs_nil
    refine any_share 2 #[true, true, true, true, true, true, true, true, true, false, false] (fun a w => Fr 65 [pl 4 (pa g2 0), pl 5 (vi made2), pl 63 (vi (mget (0 : Int) (mkV 64 r6.1, r6.2.1, r6.2.2.1, r6.2.2.2) seen2)), pl 64 (vi e1)] a ∧ Sep w0 B w (blk g2 65 (ca A5 last7.length c5 last8 last9 last10 last11 last12) :: own 3 (.slice A5 last7.length c5) (vI last7) :: mapH kf122 (Value.int .i64) g3 seen2 :: fs)) (fun a w hI => ?_) (fun sh5 => ?_)
    ·obtain ⟨hF, hS⟩ := hI
     refine aq [9] (all_cons ?_ all_nil)
     refine ao (listed' := #[true, true, true, true, true, true, true, true, true, true, false]) ?_
     refine aw 1 [] [] [4, 5, 6, 64] [pl 4 (pa g2 0), pl 5 (vi made2), pl 6 (vi (mget (0 : Int) (mkV 64 r6.1, r6.2.1, r6.2.2.1, r6.2.2.2) seen2)), pl 64 (vi e1)] hF hS obs_nil (fun a hF => ?_)
     refine any_finI rfl (fun h => h) ?_
     refine aq [10] (all_cons ?_ all_nil)
     refine ao (listed' := #[true, true, true, true, true, true, true, true, true, true, true]) ?_
     refine aw 1 [] [] [4, 5, 6, 7] [pl 4 (pa g2 0), pl 5 (vi made2), pl 6 (vi (mget (0 : Int) (mkV 64 r6.1, r6.2.1, r6.2.2.1, r6.2.2.2) seen2)), pl 7 (vi e1)] hF hS obs_nil (fun a hF => ?_)
     refine any_finI rfl (fun h => h) ?_
     refine any_end (by kernel_rfl) (np_n (then_n ?_))
     have hS := hS.pickN 3 [0, 1] (by decide)
     exact ⟨(mget (0 : Int) (mkV 64 r6.1, r6.2.1, r6.2.2.1, r6.2.2.2) seen2), hF.wk [4, 5, 6, 7], hS, hm⟩
    refine any_share 3 #[true, true, true, true, true, true, true, true, false, false, false] (fun a w => Fr 65 [pl 4 (pa g2 0), pl 59 (vi made2), pl 63 (vi (mget (0 : Int) (mkV 64 r6.1, r6.2.1, r6.2.2.1, r6.2.2.2) seen2)), pl 64 (vi e1)] a ∧ Sep w0 B w (blk g2 65 (ca A5 last7.length c5 last8 last9 last10 last11 last12) :: own 3 (.slice A5 last7.length c5) (vI last7) :: mapH kf122 (Value.int .i64) g3 seen2 :: fs)) (fun a w hI => ?_) (fun sh6 => ?_)
    ·obtain ⟨hF, hS⟩ := hI
     refine aq [8] (all_cons ?_ all_nil)
     refine ao (listed' := #[true, true, true, true, true, true, true, true, true, false, false]) ?_
     refine aw 1 [] [] [4, 5, 63, 64] [pl 4 (pa g2 0), pl 5 (vi made2), pl 63 (vi (mget (0 : Int) (mkV 64 r6.1, r6.2.1, r6.2.2.1, r6.2.2.2) seen2)), pl 64 (vi e1)] hF hS obs_nil (fun a hF => ?_)
     refine any_finI rfl (fun h => h) ?_
     exact sh5 _ _ ⟨hF.wk [4, 5, 63, 64], hS⟩
    refine aq [4] (all_cons ?_ all_nil)
    refine ao (listed' := #[true, true, true, true, true, false, true, false, false, false, false]) ?_
    refine ar 1 [⟨false, [], callFunc 79 #[.agg (ca A5 last7.length c5 last8 last9 last10 last11 last12)], .agg (List.toArray (([] : List Value) ++ (arr1 (Value.int .i64) (0 : Int) 64 r6.1 ++ ([vi r6.2.1, vi r6.2.2.1, vi r6.2.2.2] : List Value))))⟩] [some (.agg (List.toArray (([] : List Value) ++ (arr1 (Value.int .i64) (0 : Int) 64 r6.1 ++ ([vi r6.2.1, vi r6.2.2.1, vi r6.2.2.2] : List Value)))))] [4, 58, 59, 60, 62, 64] [pl 4 (pa g2 0), pl 58 (.agg (ca A5 last7.length c5 last8 last9 last10 last11 last12)), pl 59 (vi made2), pl 60 (.map (some g3)), pl 62 (.agg (List.toArray (([] : List Value) ++ (arr1 (Value.int .i64) (0 : Int) 64 r6.1 ++ ([vi r6.2.1, vi r6.2.2.1, vi r6.2.2.2] : List Value))))), pl 64 (vi e1)] hF hS ?_ (fun a w hF hS => ?_)
    ·exact obs_cons (ob_call Try.func79 (by kernel_rfl) rfl (fun _ _ hS => moves_keyOf_w hr6 hS (fun _ hS => (hS.at_ 1 rfl).rd) ((hS.at_ 1 rfl).cap1) rfl)) <| obs_nil
    refine any_fin rfl hS ?_
    refine aq [5, 7] ?_
    refine (all_cons ?_ (all_cons ?_ all_nil))
    ·refine ao (listed' := #[true, true, true, true, true, true, true, false, false, false, false]) ?_
     refine aw 1 [⟨false, [], vS (Instr.lookup 124 (.map (some g3)) (.agg (List.toArray (([] : List Value) ++ (arr1 (Value.int .i64) (0 : Int) 64 r6.1 ++ ([vi r6.2.1, vi r6.2.2.1, vi r6.2.2.2] : List Value))))) false), vi (mget (0 : Int) (mkV 64 r6.1, r6.2.1, r6.2.2.1, r6.2.2.2) seen2)⟩] [some (vi (mget (0 : Int) (mkV 64 r6.1, r6.2.1, r6.2.2.1, r6.2.2.2) seen2))] [4, 58, 59, 63, 64] [pl 4 (pa g2 0), pl 58 (.agg (ca A5 last7.length c5 last8 last9 last10 last11 last12)), pl 59 (vi made2), pl 63 (vi (mget (0 : Int) (mkV 64 r6.1, r6.2.1, r6.2.2.1, r6.2.2.2) seen2)), pl 64 (vi e1)] hF hS ?_ (fun a hF => ?_)
     ·exact obs_cons (ob_lookE (k := (mkV 64 r6.1, r6.2.1, r6.2.2.1, r6.2.2.2)) (m := seen2) (kfV122 r6.1 r6.2.1 r6.2.2.1 r6.2.2.2) MK122 UndM124 (z := (0 : Int)) MZ3 (fun _ hS => ⟨_, _, _, _, hS.at_ 2 rfl⟩)) <| obs_nil
     refine any_finI rfl (fun h => h) ?_
     refine aq [7] (all_cons ?_ all_nil)
     refine ao (listed' := #[true, true, true, true, true, true, true, true, false, false, false]) ?_
     obtain ⟨w, hrun, hS⟩ := run_putA (P := Try.prog) (t := 65) (us := (ca A5 last7.length c5 last8 last9 last10 last11 last12)) (o := 0) (hS.at_ 0 rfl) (by kernel_rfl) (all_one (by kernel_rfl)) (Nat.le_of_ble_eq_true (by kernel_rfl))
     refine at_s hF hrun ?_
     have hS : Sep w0 B w (blk g2 65 (ca A5 last7.length c5 last8 last9 last10 last11 last12) :: own 3 (.slice A5 last7.length c5) (vI last7) :: mapH kf122 (Value.int .i64) g3 seen2 :: fs) := hS
     refine any_fin rfl hS ?_
     exact sh6 _ _ ⟨hF.wk [4, 59, 63, 64], hS⟩
    ·refine ao (listed' := #[true, true, true, true, true, false, true, true, false, false, false]) ?_
     obtain ⟨w, hrun, hS⟩ := run_putA (P := Try.prog) (t := 65) (us := (ca A5 last7.length c5 last8 last9 last10 last11 last12)) (o := 0) (hS.at_ 0 rfl) (by kernel_rfl) (all_one (by kernel_rfl)) (Nat.le_of_ble_eq_true (by kernel_rfl))
     refine at_s hF hrun ?_
     have hS : Sep w0 B w (blk g2 65 (ca A5 last7.length c5 last8 last9 last10 last11 last12) :: own 3 (.slice A5 last7.length c5) (vI last7) :: mapH kf122 (Value.int .i64) g3 seen2 :: fs) := hS
     refine any_fin rfl hS ?_
     refine aq [5, 8] ?_
     refine (all_cons ?_ (all_cons ?_ all_nil))
     ·refine ao (listed' := #[true, true, true, true, true, true, true, true, false, false, false]) ?_
      refine aw 1 [⟨false, [], vS (Instr.lookup 124 (.map (some g3)) (.agg (List.toArray (([] : List Value) ++ (arr1 (Value.int .i64) (0 : Int) 64 r6.1 ++ ([vi r6.2.1, vi r6.2.2.1, vi r6.2.2.2] : List Value))))) false), vi (mget (0 : Int) (mkV 64 r6.1, r6.2.1, r6.2.2.1, r6.2.2.2) seen2)⟩] [some (vi (mget (0 : Int) (mkV 64 r6.1, r6.2.1, r6.2.2.1, r6.2.2.2) seen2))] [4, 59, 63, 64] [pl 4 (pa g2 0), pl 59 (vi made2), pl 63 (vi (mget (0 : Int) (mkV 64 r6.1, r6.2.1, r6.2.2.1, r6.2.2.2) seen2)), pl 64 (vi e1)] hF hS ?_ (fun a hF => ?_)
      ·exact obs_cons (ob_lookE (k := (mkV 64 r6.1, r6.2.1, r6.2.2.1, r6.2.2.2)) (m := seen2) (kfV122 r6.1 r6.2.1 r6.2.2.1 r6.2.2.2) MK122 UndM124 (z := (0 : Int)) MZ3 (fun _ hS => ⟨_, _, _, _, hS.at_ 2 rfl⟩)) <| obs_nil
      refine any_finI rfl (fun h => h) ?_
      exact sh6 _ _ ⟨hF.wk [4, 59, 63, 64], hS⟩
     ·refine ao (listed' := #[true, true, true, true, true, false, true, true, true, false, false]) ?_
      refine aw 1 [] [] [4, 5, 60, 62, 64] [pl 4 (pa g2 0), pl 5 (vi made2), pl 60 (.map (some g3)), pl 62 (.agg (List.toArray (([] : List Value) ++ (arr1 (Value.int .i64) (0 : Int) 64 r6.1 ++ ([vi r6.2.1, vi r6.2.2.1, vi r6.2.2.2] : List Value))))), pl 64 (vi e1)] hF hS obs_nil (fun a hF => ?_)
      refine any_finI rfl (fun h => h) ?_
      refine aq [5] (all_cons ?_ all_nil)
      refine ao (listed' := #[true, true, true, true, true, true, true, true, true, false, false]) ?_
      refine aw 1 [⟨false, [], vS (Instr.lookup 124 (.map (some g3)) (.agg (List.toArray (([] : List Value) ++ (arr1 (Value.int .i64) (0 : Int) 64 r6.1 ++ ([vi r6.2.1, vi r6.2.2.1, vi r6.2.2.2] : List Value))))) false), vi (mget (0 : Int) (mkV 64 r6.1, r6.2.1, r6.2.2.1, r6.2.2.2) seen2)⟩] [some (vi (mget (0 : Int) (mkV 64 r6.1, r6.2.1, r6.2.2.1, r6.2.2.2) seen2))] [4, 5, 63, 64] [pl 4 (pa g2 0), pl 5 (vi made2), pl 63 (vi (mget (0 : Int) (mkV 64 r6.1, r6.2.1, r6.2.2.1, r6.2.2.2) seen2)), pl 64 (vi e1)] hF hS ?_ (fun a hF => ?_)
      ·exact obs_cons (ob_lookE (k := (mkV 64 r6.1, r6.2.1, r6.2.2.1, r6.2.2.2)) (m := seen2) (kfV122 r6.1 r6.2.1 r6.2.2.1 r6.2.2.2) MK122 UndM124 (z := (0 : Int)) MZ3 (fun _ hS => ⟨_, _, _, _, hS.at_ 2 rfl⟩)) <| obs_nil
      refine any_finI rfl (fun h => h) ?_
      exact sh5 _ _ ⟨hF.wk [4, 5, 63, 64], hS⟩
  ·refine rg [] [] [4, 5, 7, 8, 32, 33, 34] [pl 4 (pa g2 0), pl 5 (vi 0), pl 7 (vi 0), pl 8 (.map (some g3)), pl 32 (.slice A2 l1.length c2), pl 33 (vi (l1.length : Int)), pl 34 (vi 0)] hF hS obs_nil (fun a w hF hS => ?_)
   refine wpIn_block ?_
   have hS := hS.pickN 4 [3, 1, 0] (by decide)
   refine wp_loop_model (S := (List Int × Int × Int × Int × Int × Int × Int × List (KV 64 × Int) × Int)) (R := (List Int × Int × Int × Int × Int × Int × Int × Int × List (KV 64 × Int))) (moves_Play_L1 l1) (fun x => (moves_Play_K1 x).bind some) r (fun (x : (List Int × Int × Int × Int × Int × Int × Int × List (KV 64 × Int) × Int)) a w => ∃ (A4 : Option Addr) (c4 : Nat), Fr 65 [pl 4 (pa g2 0), pl 5 (vi x.2.2.2.2.2.2.1), pl 7 (vi 0), pl 8 (.map (some g3)), pl 32 (.slice A2 l1.length c2), pl 33 (vi (l1.length : Int)), pl 34 (vi x.2.2.2.2.2.2.2.2)] a ∧ Sep w0 B w (blk g2 65 (ca A4 x.1.length c4 x.2.1 x.2.2.1 x.2.2.2.1 x.2.2.2.2.1 x.2.2.2.2.2.1) :: own 3 (.slice A4 x.1.length c4) (vI x.1) :: mapH kf122 (Value.int .i64) g3 x.2.2.2.2.2.2.2.1 :: fs)) (assoc_b hm) ⟨A3, c3, hF.wk [4, 5, 7, 8, 32, 33, 34], hS⟩ ?_
   clear hF hS hm
   rintro nn1 ⟨last1, last2, last3, last4, last5, last6, made1, seen1, z1⟩ a w ⟨A4, c4, hF, hS⟩ hm
   generalize hφ1 : stK (moves_Play_L1 l1) nn1 (fun x => (moves_Play_K1 x).bind some) = φ1 at hm
   unfold moves_Play_L1 at hm
   dsimp only at hF hS hm
   refine rg [] [] [4, 5, 7, 8, 32, 33, 34, 35] [pl 4 (pa g2 0), pl 5 (vi made1), pl 7 (vi 0), pl 8 (.map (some g3)), pl 32 (.slice A2 l1.length c2), pl 33 (vi (l1.length : Int)), pl 34 (vi z1), pl 35 (.bool (decide (z1 < (l1.length : Int))))] hF hS obs_nil (fun a w hF hS => ?_)
   refine seq_cut (fun a w => Fr 65 [pl 4 (pa g2 0), pl 5 (vi made1), pl 7 (vi 0), pl 8 (.map (some g3)), pl 32 (.slice A2 l1.length c2), pl 33 (vi (l1.length : Int)), pl 34 (vi z1)] a ∧ Sep w0 B w (blk g2 65 (ca A4 last1.length c4 last2 last3 last4 last5 last6) :: own 3 (.slice A4 last1.length c4) (vI last1) :: mapH kf122 (Value.int .i64) g3 seen1 :: fs) ∧ ((moves_Play_J3 l1 last1 last2 last3 last4 last5 last6 made1 seen1 z1)).bind φ1 = some r) ?_ ?_
   ·rintro a w ⟨hF, hS, hm⟩
    unfold moves_Play_J3 at hm
    refine seq_cut (fun a w => ∃ (last13 : List Int) (last14 last15 : Int) (last16 last17 last18 : Int) (seen3 : List (KV 64 × Int)) (A7 : Option Addr) (c7 : Nat), Fr 65 [pl 4 (pa g2 0), pl 5 (vi (w64 (made1 + 1))), pl 7 (vi 0), pl 8 (.map (some g3)), pl 32 (.slice A2 l1.length c2), pl 33 (vi (l1.length : Int)), pl 34 (vi z1)] a ∧ Sep w0 B w (blk g2 65 (ca A7 last13.length c7 last14 last15 last16 last17 last18) :: own 3 (.slice A7 last13.length c7) (vI last13) :: mapH kf122 (Value.int .i64) g3 seen3 :: fs) ∧ ((moves_Play_J4 made1 z1) last13 last14 last15 last16 last17 last18 seen3).bind φ1 = some r) ?_ ?_
    ·rintro a w ⟨last13, last14, last15, last16, last17, last18, seen3, A7, c7, hF, hS, hm⟩
     unfold moves_Play_J4 at hm
     refine rg1 [] [] [4, 5, 7, 8, 32, 33, 34] [pl 4 (pa g2 0), pl 5 (vi (w64 (made1 + 1))), pl 7 (vi 0), pl 8 (.map (some g3)), pl 32 (.slice A2 l1.length c2), pl 33 (vi (l1.length : Int)), pl 34 (vi (w64 (z1 + 1)))] hF hS obs_nil (fun a w hF hS => ?_)
     refine then_n ?_
     rw [← hφ1] at hm
     exact ⟨(last13, last14, last15, last16, last17, last18, (w64 (made1 + 1)), seen3, (w64 (z1 + 1))), ⟨A7, c7, hF.wk [4, 5, 7, 8, 32, 33, 34], hS⟩, hm⟩
    ·refine wpIn_block ?_
     refine seqR ?_
     obtain ⟨hp1, hm⟩ := asrt_b hm
     refine ar 2 [⟨true, [], vS (Instr.indexAt 66 (.slice A2 l1.length c2) (vi z1)), .pointer (some (sAddrK A2 3 z1))⟩, ⟨false, [], vS (Instr.loadAt 126 (.pointer (some (sAddrK A2 3 z1)))), .agg #[vi ((getd ((0, 0, 0) : MvT) l1 z1).1), vi ((getd ((0, 0, 0) : MvT) l1 z1).2.1), vi ((getd ((0, 0, 0) : MvT) l1 z1).2.2)]⟩] [some (.pointer (some (sAddrK A2 3 z1))), some (.agg #[vi ((getd ((0, 0, 0) : MvT) l1 z1).1), vi ((getd ((0, 0, 0) : MvT) l1 z1).2.1), vi ((getd ((0, 0, 0) : MvT) l1 z1).2.2)])] [4, 5, 7, 8, 32, 33, 34, 37] [pl 4 (pa g2 0), pl 5 (vi made1), pl 7 (vi 0), pl 8 (.map (some g3)), pl 32 (.slice A2 l1.length c2), pl 33 (vi (l1.length : Int)), pl 34 (vi z1), pl 37 (.agg #[vi ((getd ((0, 0, 0) : MvT) l1 z1).1), vi ((getd ((0, 0, 0) : MvT) l1 z1).2.1), vi ((getd ((0, 0, 0) : MvT) l1 z1).2.2)])] hF hS ?_ (fun a w hF hS => ?_)
     ·exact obs_cons (ob_ixK (m := l1) encK126 Und66 hi126 hs126 (hr_l1 _ (hS.dropN 3)) rfl (fun _ => hp1)) <| obs_cons (ob_getK (n := l1.length) (m := l1) encK126 ((0, 0, 0) : MvT) (by kernel_rfl) (by kernel_rfl) (fun _ hS => ⟨_, (hr_l1 _ (hS.dropN 3))⟩) (fun _ hS => rfl) (fun _ => hp1)) <| obs_nil
     refine at_do (d := 10) (s := vS (Instr.alloc 126 true (.tuple #[]))) (v := pa w.heap.size 0) (w' := w.alloc (.cells #[vi 0, vi 0, vi 0] 126)) hF (by kernel_rfl) (by kernel_rfl) (by kernel_rfl) (fun a hF => ?_)
     have hS : Sep w0 B (w.alloc (.cells #[vi 0, vi 0, vi 0] 126)) (blk w.heap.size 126 #[vi 0, vi 0, vi 0] :: (blk g2 65 (ca A4 last1.length c4 last2 last3 last4 last5 last6) :: own 3 (.slice A4 last1.length c4) (vI last1) :: mapH kf122 (Value.int .i64) g3 seen1 :: fs)) := hS.box 126 #[vi 0, vi 0, vi 0]
     generalize w.heap.size = g4 at hF hS
     generalize w.alloc (.cells #[vi 0, vi 0, vi 0] 126) = w at hS ⊢
     obtain ⟨w, hrun, hS⟩ := run_putA (P := Try.prog) (t := 126) (us := #[vi ((getd ((0, 0, 0) : MvT) l1 z1).1), vi ((getd ((0, 0, 0) : MvT) l1 z1).2.1), vi ((getd ((0, 0, 0) : MvT) l1 z1).2.2)]) (o := 0) (hS.at_ 0 rfl) (by kernel_rfl) (all_one (by kernel_rfl)) (Nat.le_of_ble_eq_true (by kernel_rfl))
     refine at_s hF hrun ?_
     have hS : Sep w0 B w (blk g4 126 #[vi ((getd ((0, 0, 0) : MvT) l1 z1).1), vi ((getd ((0, 0, 0) : MvT) l1 z1).2.1), vi ((getd ((0, 0, 0) : MvT) l1 z1).2.2)] :: blk g2 65 (ca A4 last1.length c4 last2 last3 last4 last5 last6) :: own 3 (.slice A4 last1.length c4) (vI last1) :: mapH kf122 (Value.int .i64) g3 seen1 :: fs) := hS
     refine ae [4, 5, 7, 8, 10, 32, 33, 34] [pl 4 (pa g2 0), pl 5 (vi made1), pl 7 (vi 0), pl 8 (.map (some g3)), pl 10 (pa g4 0), pl 32 (.slice A2 l1.length c2), pl 33 (vi (l1.length : Int)), pl 34 (vi z1)] hF rfl (fun hF => ?_)
     refine then_n (seqR ?_)
     obtain ⟨r4, hr4, hm⟩ := call_b hm
     refine ar 2 [⟨false, [], vS (Instr.loadAt 65 (pa g2 0)), .agg (ca A4 last1.length c4 last2 last3 last4 last5 last6)⟩, ⟨false, [], vS (Instr.loadAt 126 (pa g4 0)), .agg #[vi ((getd ((0, 0, 0) : MvT) l1 z1).1), vi ((getd ((0, 0, 0) : MvT) l1 z1).2.1), vi ((getd ((0, 0, 0) : MvT) l1 z1).2.2)]⟩] [some (.agg (ca A4 last1.length c4 last2 last3 last4 last5 last6)), some (.agg #[vi ((getd ((0, 0, 0) : MvT) l1 z1).1), vi ((getd ((0, 0, 0) : MvT) l1 z1).2.1), vi ((getd ((0, 0, 0) : MvT) l1 z1).2.2)])] [4, 5, 7, 8, 32, 33, 34, 39, 40] [pl 4 (pa g2 0), pl 5 (vi made1), pl 7 (vi 0), pl 8 (.map (some g3)), pl 32 (.slice A2 l1.length c2), pl 33 (vi (l1.length : Int)), pl 34 (vi z1), pl 39 (.agg (ca A4 last1.length c4 last2 last3 last4 last5 last6)), pl 40 (.agg #[vi ((getd ((0, 0, 0) : MvT) l1 z1).1), vi ((getd ((0, 0, 0) : MvT) l1 z1).2.1), vi ((getd ((0, 0, 0) : MvT) l1 z1).2.2)])] hF hS ?_ (fun a w hF hS => ?_)
     ·exact obs_cons (oA (cs := (ca A4 last1.length c4 last2 last3 last4 last5 last6)) (fun _ _ hS => (hS.at_ 1 rfl).cellsAt 0 (by rfl))) <| obs_cons (ob_loadA (cs := #[vi ((getd ((0, 0, 0) : MvT) l1 z1).1), vi ((getd ((0, 0, 0) : MvT) l1 z1).2.1), vi ((getd ((0, 0, 0) : MvT) l1 z1).2.2)]) (by kernel_rfl) (by kernel_rfl) (fun _ _ hS => (hS.at_ 0 rfl).cellsAt 0 (by rfl))) <| obs_nil
     refine at_call (f := 80) (args := #[.agg (ca A4 last1.length c4 last2 last3 last4 last5 last6), .agg #[vi ((getd ((0, 0, 0) : MvT) l1 z1).1), vi ((getd ((0, 0, 0) : MvT) l1 z1).2.1), vi ((getd ((0, 0, 0) : MvT) l1 z1).2.2)]]) (d := 41) hF (by kernel_rfl) (by kernel_rfl) Try.func80 (by kernel_rfl) rfl (moves_Do_w hr4 hS (fun _ hS => (hS.at_ 2 rfl).rd) ((hS.at_ 2 rfl).cap1) rfl) (fun v a w hR hF => ?_)
     clear hS
     obtain ⟨A6, c6, rfl, hS⟩ := hR
     have hS : Sep w0 B w (own 3 (.slice A6 r4.1.length c6) (vI r4.1) :: blk g4 126 #[vi ((getd ((0, 0, 0) : MvT) l1 z1).1), vi ((getd ((0, 0, 0) : MvT) l1 z1).2.1), vi ((getd ((0, 0, 0) : MvT) l1 z1).2.2)] :: blk g2 65 (ca A4 last1.length c4 last2 last3 last4 last5 last6) :: own 3 (.slice A4 last1.length c4) (vI last1) :: mapH kf122 (Value.int .i64) g3 seen1 :: fs) := hS
     refine ar 3 [] [] [4, 5, 7, 8, 32, 33, 34, 42, 43] [pl 4 (pa g2 0), pl 5 (vi made1), pl 7 (vi 0), pl 8 (.map (some g3)), pl 32 (.slice A2 l1.length c2), pl 33 (vi (l1.length : Int)), pl 34 (vi z1), pl 42 (.agg (ca A6 r4.1.length c6 r4.2.1 r4.2.2.1 r4.2.2.2.1 r4.2.2.2.2.1 r4.2.2.2.2.2.1)), pl 43 (vi r4.2.2.2.2.2.2)] hF hS obs_nil (fun a w hF hS => ?_)
     refine at_do (d := 11) (s := vS (Instr.alloc 65 true (.tuple #[]))) (v := pa w.heap.size 0) (w' := w.alloc (.cells (ca none 0 0 0 0 0 0 0) 65)) hF (by kernel_rfl) (by kernel_rfl) (by kernel_rfl) (fun a hF => ?_)
     have hS : Sep w0 B (w.alloc (.cells (ca none 0 0 0 0 0 0 0) 65)) (blk w.heap.size 65 (ca none 0 0 0 0 0 0 0) :: (own 3 (.slice A6 r4.1.length c6) (vI r4.1) :: blk g4 126 #[vi ((getd ((0, 0, 0) : MvT) l1 z1).1), vi ((getd ((0, 0, 0) : MvT) l1 z1).2.1), vi ((getd ((0, 0, 0) : MvT) l1 z1).2.2)] :: blk g2 65 (ca A4 last1.length c4 last2 last3 last4 last5 last6) :: own 3 (.slice A4 last1.length c4) (vI last1) :: mapH kf122 (Value.int .i64) g3 seen1 :: fs)) := hS.box 65 (ca none 0 0 0 0 0 0 0)
     generalize w.heap.size = g5 at hF hS
     generalize w.alloc (.cells (ca none 0 0 0 0 0 0 0) 65) = w at hS ⊢
     obtain ⟨w, hrun, hS⟩ := run_putA (P := Try.prog) (t := 65) (us := (ca A6 r4.1.length c6 r4.2.1 r4.2.2.1 r4.2.2.2.1 r4.2.2.2.2.1 r4.2.2.2.2.2.1)) (o := 0) (hS.at_ 0 rfl) (by kernel_rfl) (all_one (by kernel_rfl)) (Nat.le_of_ble_eq_true (by kernel_rfl))
     refine at_s hF hrun ?_
     have hS : Sep w0 B w (blk g5 65 (ca A6 r4.1.length c6 r4.2.1 r4.2.2.1 r4.2.2.2.1 r4.2.2.2.2.1 r4.2.2.2.2.2.1) :: own 3 (.slice A6 r4.1.length c6) (vI r4.1) :: blk g4 126 #[vi ((getd ((0, 0, 0) : MvT) l1 z1).1), vi ((getd ((0, 0, 0) : MvT) l1 z1).2.1), vi ((getd ((0, 0, 0) : MvT) l1 z1).2.2)] :: blk g2 65 (ca A4 last1.length c4 last2 last3 last4 last5 last6) :: own 3 (.slice A4 last1.length c4) (vI last1) :: mapH kf122 (Value.int .i64) g3 seen1 :: fs) := hS
     refine ar 1 [] [] [4, 5, 7, 8, 11, 12, 32, 33, 34] [pl 4 (pa g2 0), pl 5 (vi made1), pl 7 (vi 0), pl 8 (.map (some g3)), pl 11 (pa g5 0), pl 12 (vi r4.2.2.2.2.2.2), pl 32 (.slice A2 l1.length c2), pl 33 (vi (l1.length : Int)), pl 34 (vi z1)] hF hS obs_nil (fun a w hF hS => ?_)
     refine ae [4, 5, 7, 8, 11, 12, 32, 33, 34] [pl 4 (pa g2 0), pl 5 (vi made1), pl 7 (vi 0), pl 8 (.map (some g3)), pl 11 (pa g5 0), pl 12 (vi r4.2.2.2.2.2.2), pl 32 (.slice A2 l1.length c2), pl 33 (vi (l1.length : Int)), pl 34 (vi z1)] hF rfl (fun hF => ?_)
     refine then_n ?_
     refine seq_cut (fun a w => Fr 65 [pl 4 (pa g2 0), pl 5 (vi made1), pl 7 (vi 0), pl 8 (.map (some g3)), pl 11 (pa g5 0), pl 32 (.slice A2 l1.length c2), pl 33 (vi (l1.length : Int)), pl 34 (vi z1)] a ∧ Sep w0 B w (blk g2 65 (ca A4 last1.length c4 last2 last3 last4 last5 last6) :: own 3 (.slice A4 last1.length c4) (vI last1) :: mapH kf122 (Value.int .i64) g3 seen1 :: blk g5 65 (ca A6 r4.1.length c6 r4.2.1 r4.2.2.1 r4.2.2.2.1 r4.2.2.2.2.1 r4.2.2.2.2.2.1) :: own 3 (.slice A6 r4.1.length c6) (vI r4.1) :: fs) ∧ ((moves_Play_J5 made1 seen1 z1 r4)).bind φ1 = some r) ?_ ?_
     ·rintro a w ⟨hF, hS, hm⟩
      unfold moves_Play_J5 at hm
      refine seqR ?_
      refine ar 1 [⟨false, [], vS (Instr.loadAt 65 (pa g5 0)), .agg (ca A6 r4.1.length c6 r4.2.1 r4.2.2.1 r4.2.2.2.1 r4.2.2.2.2.1 r4.2.2.2.2.2.1)⟩] [some (.agg (ca A6 r4.1.length c6 r4.2.1 r4.2.2.1 r4.2.2.2.1 r4.2.2.2.2.1 r4.2.2.2.2.2.1))] [4, 5, 7, 8, 32, 33, 34, 47] [pl 4 (pa g2 0), pl 5 (vi made1), pl 7 (vi 0), pl 8 (.map (some g3)), pl 32 (.slice A2 l1.length c2), pl 33 (vi (l1.length : Int)), pl 34 (vi z1), pl 47 (.agg (ca A6 r4.1.length c6 r4.2.1 r4.2.2.1 r4.2.2.2.1 r4.2.2.2.2.1 r4.2.2.2.2.2.1))] hF hS ?_ (fun a w hF hS => ?_)
      ·exact obs_cons (oA (cs := (ca A6 r4.1.length c6 r4.2.1 r4.2.2.1 r4.2.2.2.1 r4.2.2.2.2.1 r4.2.2.2.2.2.1)) (fun _ _ hS => (hS.at_ 3 rfl).cellsAt 0 (by rfl))) <| obs_nil
      obtain ⟨w, hrun, hS⟩ := run_putA (P := Try.prog) (t := 65) (us := (ca A6 r4.1.length c6 r4.2.1 r4.2.2.1 r4.2.2.2.1 r4.2.2.2.2.1 r4.2.2.2.2.2.1)) (o := 0) (hS.at_ 0 rfl) (by kernel_rfl) (all_one (by kernel_rfl)) (Nat.le_of_ble_eq_true (by kernel_rfl))
      refine at_s hF hrun ?_
      have hS : Sep w0 B w (blk g2 65 (ca A6 r4.1.length c6 r4.2.1 r4.2.2.1 r4.2.2.2.1 r4.2.2.2.2.1 r4.2.2.2.2.2.1) :: own 3 (.slice A4 last1.length c4) (vI last1) :: mapH kf122 (Value.int .i64) g3 seen1 :: blk g5 65 (ca A6 r4.1.length c6 r4.2.1 r4.2.2.1 r4.2.2.2.1 r4.2.2.2.2.1 r4.2.2.2.2.2.1) :: own 3 (.slice A6 r4.1.length c6) (vI r4.1) :: fs) := hS
      refine ae [4, 5, 7, 8, 32, 33, 34] [pl 4 (pa g2 0), pl 5 (vi made1), pl 7 (vi 0), pl 8 (.map (some g3)), pl 32 (.slice A2 l1.length c2), pl 33 (vi (l1.length : Int)), pl 34 (vi z1)] hF rfl (fun hF => ?_)
      refine then_n ?_
      refine rg [] [] [4, 5, 7, 8, 32, 33, 34] [pl 4 (pa g2 0), pl 5 (vi (w64 (made1 + 1))), pl 7 (vi 0), pl 8 (.map (some g3)), pl 32 (.slice A2 l1.length c2), pl 33 (vi (l1.length : Int)), pl 34 (vi z1)] hF hS obs_nil (fun a w hF hS => ?_)
      obtain ⟨r5, hr5, hm⟩ := call_b hm
      refine regMix5 [0, 1] [5, 7] 6 #[true, true, false, false, false, false, false, false] [⟨false, [], vS (Instr.loadAt 65 (pa g2 0)), .agg (ca A6 r4.1.length c6 r4.2.1 r4.2.2.1 r4.2.2.2.1 r4.2.2.2.2.1 r4.2.2.2.2.2.1)⟩] [none, some (.agg (ca A6 r4.1.length c6 r4.2.1 r4.2.2.1 r4.2.2.2.1 r4.2.2.2.2.1 r4.2.2.2.2.2.1))] [4, 5, 7, 8, 32, 33, 34, 50, 51] [pl 4 (pa g2 0), pl 5 (vi (w64 (made1 + 1))), pl 7 (vi 0), pl 8 (.map (some g3)), pl 32 (.slice A2 l1.length c2), pl 33 (vi (l1.length : Int)), pl 34 (vi z1), pl 50 (.map (some g3)), pl 51 (.agg (ca A6 r4.1.length c6 r4.2.1 r4.2.2.1 r4.2.2.2.1 r4.2.2.2.2.1 r4.2.2.2.2.2.1))] hF hS Fol (by kernel_rfl) (by kernel_rfl) (by kernel_rfl) (by kernel_rfl) ?_ (fun a w hF hS => ?_)
      ·exact obs_cons (oA (cs := (ca A6 r4.1.length c6 r4.2.1 r4.2.2.1 r4.2.2.2.1 r4.2.2.2.2.1 r4.2.2.2.2.2.1)) (fun _ _ hS => (hS.at_ 0 rfl).cellsAt 0 (by rfl))) <| obs_nil
      refine any_share 1 #[true, true, true, true, true, true, true, false] (fun a w => ∃ s1, Fr 65 [pl 4 (pa g2 0), pl 5 (vi (w64 (made1 + 1))), pl 7 (vi 0), pl 8 (.map (some g3)), pl 32 (.slice A2 l1.length c2), pl 33 (vi (l1.length : Int)), pl 34 (vi z1), pl 50 (.map (some g3)), pl 54 (vi (w64 ((mget (0 : Int) (mkV 64 r5.1, r5.2.1, r5.2.2.1, r5.2.2.2) seen1) + 1))), pl 56 (vi ((s1 : Nat) : Int))] a ∧ Sep w0 B w (blk g2 65 (ca A6 r4.1.length c6 r4.2.1 r4.2.2.1 r4.2.2.2.1 r4.2.2.2.2.1 r4.2.2.2.2.2.1) :: own 3 (.slice A4 last1.length c4) (vI last1) :: mapHV kf122 (Value.int .i64) g3 seen1 (mkV 64 r5.1, r5.2.1, r5.2.2.1, r5.2.2.2) s1 (mget (0 : Int) (mkV 64 r5.1, r5.2.1, r5.2.2.1, r5.2.2.2) seen1) :: blk g5 65 (ca A6 r4.1.length c6 r4.2.1 r4.2.2.1 r4.2.2.2.1 r4.2.2.2.2.1 r4.2.2.2.2.2.1) :: own 3 (.slice A6 r4.1.length c6) (vI r4.1) :: fs)) (fun a w hI => ?_) (fun sh1 => ?_)
      ·obtain ⟨s1, hF, hS⟩ := hI
       refine aq [7] (all_cons ?_ all_nil)
       refine ao (listed' := #[true, true, true, true, true, true, true, true]) ?_
       obtain ⟨w, hrun, hS⟩ := run_mstoreV (P := Try.prog) (t := 124) (vf := (Value.int .i64)) (mkV 64 r5.1, r5.2.1, r5.2.2.1, r5.2.2.2) (w64 ((mget (0 : Int) (mkV 64 r5.1, r5.2.1, r5.2.2.1, r5.2.2.2) seen1) + 1)) (hS.at_ 2 rfl)
       refine at_s hF hrun ?_
       have hS : Sep w0 B w (blk g2 65 (ca A6 r4.1.length c6 r4.2.1 r4.2.2.1 r4.2.2.2.1 r4.2.2.2.2.1 r4.2.2.2.2.2.1) :: own 3 (.slice A4 last1.length c4) (vI last1) :: mapH kf122 (Value.int .i64) g3 (mput (mkV 64 r5.1, r5.2.1, r5.2.2.1, r5.2.2.2) (w64 ((mget (0 : Int) (mkV 64 r5.1, r5.2.1, r5.2.2.1, r5.2.2.2) seen1) + 1)) seen1) :: blk g5 65 (ca A6 r4.1.length c6 r4.2.1 r4.2.2.1 r4.2.2.2.1 r4.2.2.2.2.1 r4.2.2.2.2.2.1) :: own 3 (.slice A6 r4.1.length c6) (vI r4.1) :: fs) := hS
       refine any_finE rfl (by decide) ?_
       refine any_end (by kernel_rfl) ?_
       refine np_n ?_
       refine block_n ?_
       refine then_n ?_
       have hS := hS.pickN 5 [0, 4, 2] (by decide)
       exact ⟨r4.1, r4.2.1, r4.2.2.1, r4.2.2.2.1, r4.2.2.2.2.1, r4.2.2.2.2.2.1, (mput (mkV 64 r5.1, r5.2.1, r5.2.2.1, r5.2.2.2) (w64 ((mget (0 : Int) (mkV 64 r5.1, r5.2.1, r5.2.2.1, r5.2.2.2) seen1) + 1)) seen1), A6, c6, hF.wk [4, 5, 7, 8, 32, 33, 34], hS, hm⟩
      refine any_share 2 #[true, true, true, true, true, true, false, false] (fun a w => ∃ s1, Fr 65 [pl 4 (pa g2 0), pl 5 (vi (w64 (made1 + 1))), pl 7 (vi 0), pl 8 (.map (some g3)), pl 32 (.slice A2 l1.length c2), pl 33 (vi (l1.length : Int)), pl 34 (vi z1), pl 50 (.map (some g3)), pl 54 (vi (w64 ((mget (0 : Int) (mkV 64 r5.1, r5.2.1, r5.2.2.1, r5.2.2.2) seen1) + 1))), pl 55 (.tuple #[vi (mget (0 : Int) (mkV 64 r5.1, r5.2.1, r5.2.2.1, r5.2.2.2) seen1), vi ((s1 : Nat) : Int)])] a ∧ Sep w0 B w (blk g2 65 (ca A6 r4.1.length c6 r4.2.1 r4.2.2.1 r4.2.2.2.1 r4.2.2.2.2.1 r4.2.2.2.2.2.1) :: own 3 (.slice A4 last1.length c4) (vI last1) :: mapHV kf122 (Value.int .i64) g3 seen1 (mkV 64 r5.1, r5.2.1, r5.2.2.1, r5.2.2.2) s1 (mget (0 : Int) (mkV 64 r5.1, r5.2.1, r5.2.2.1, r5.2.2.2) seen1) :: blk g5 65 (ca A6 r4.1.length c6 r4.2.1 r4.2.2.1 r4.2.2.2.1 r4.2.2.2.2.1 r4.2.2.2.2.2.1) :: own 3 (.slice A6 r4.1.length c6) (vI r4.1) :: fs)) (fun a w hI => ?_) (fun sh2 => ?_)
      ·obtain ⟨s1, hF, hS⟩ := hI
       refine aq [6] (all_cons ?_ all_nil)
       refine ao (listed' := #[true, true, true, true, true, true, true, false]) ?_
       refine aw 1 [] [] [4, 5, 7, 8, 32, 33, 34, 50, 54, 56] [pl 4 (pa g2 0), pl 5 (vi (w64 (made1 + 1))), pl 7 (vi 0), pl 8 (.map (some g3)), pl 32 (.slice A2 l1.length c2), pl 33 (vi (l1.length : Int)), pl 34 (vi z1), pl 50 (.map (some g3)), pl 54 (vi (w64 ((mget (0 : Int) (mkV 64 r5.1, r5.2.1, r5.2.2.1, r5.2.2.2) seen1) + 1))), pl 56 (vi ((s1 : Nat) : Int))] hF hS obs_nil (fun a hF => ?_)
       refine any_finI rfl (fun h => h) ?_
       exact sh1 _ _ ⟨s1, hF.wk [4, 5, 7, 8, 32, 33, 34, 50, 54, 56], hS⟩
      refine any_share 2 #[true, true, true, true, false, true, true, false] (fun a w => ∃ s1, Fr 65 [pl 4 (pa g2 0), pl 5 (vi (w64 (made1 + 1))), pl 7 (vi 0), pl 8 (.map (some g3)), pl 32 (.slice A2 l1.length c2), pl 33 (vi (l1.length : Int)), pl 34 (vi z1), pl 50 (.map (some g3)), pl 53 (vi (mget (0 : Int) (mkV 64 r5.1, r5.2.1, r5.2.2.1, r5.2.2.2) seen1)), pl 56 (vi ((s1 : Nat) : Int))] a ∧ Sep w0 B w (blk g2 65 (ca A6 r4.1.length c6 r4.2.1 r4.2.2.1 r4.2.2.2.1 r4.2.2.2.2.1 r4.2.2.2.2.2.1) :: own 3 (.slice A4 last1.length c4) (vI last1) :: mapHV kf122 (Value.int .i64) g3 seen1 (mkV 64 r5.1, r5.2.1, r5.2.2.1, r5.2.2.2) s1 (mget (0 : Int) (mkV 64 r5.1, r5.2.1, r5.2.2.1, r5.2.2.2) seen1) :: blk g5 65 (ca A6 r4.1.length c6 r4.2.1 r4.2.2.1 r4.2.2.2.1 r4.2.2.2.2.1 r4.2.2.2.2.2.1) :: own 3 (.slice A6 r4.1.length c6) (vI r4.1) :: fs)) (fun a w hI => ?_) (fun sh3 => ?_)
      ·obtain ⟨s1, hF, hS⟩ := hI
       refine aq [4] (all_cons ?_ all_nil)
       refine ao (listed' := #[true, true, true, true, true, true, true, false]) ?_
       refine aw 1 [] [] [4, 5, 7, 8, 32, 33, 34, 50, 54, 56] [pl 4 (pa g2 0), pl 5 (vi (w64 (made1 + 1))), pl 7 (vi 0), pl 8 (.map (some g3)), pl 32 (.slice A2 l1.length c2), pl 33 (vi (l1.length : Int)), pl 34 (vi z1), pl 50 (.map (some g3)), pl 54 (vi (w64 ((mget (0 : Int) (mkV 64 r5.1, r5.2.1, r5.2.2.1, r5.2.2.2) seen1) + 1))), pl 56 (vi ((s1 : Nat) : Int))] hF hS obs_nil (fun a hF => ?_)
       refine any_finI rfl (fun h => h) ?_
       exact sh1 _ _ ⟨s1, hF.wk [4, 5, 7, 8, 32, 33, 34, 50, 54, 56], hS⟩
      refine any_share 3 #[true, true, true, true, false, true, false, false] (fun a w => ∃ s1, Fr 65 [pl 4 (pa g2 0), pl 5 (vi (w64 (made1 + 1))), pl 7 (vi 0), pl 8 (.map (some g3)), pl 32 (.slice A2 l1.length c2), pl 33 (vi (l1.length : Int)), pl 34 (vi z1), pl 50 (.map (some g3)), pl 53 (vi (mget (0 : Int) (mkV 64 r5.1, r5.2.1, r5.2.2.1, r5.2.2.2) seen1)), pl 55 (.tuple #[vi (mget (0 : Int) (mkV 64 r5.1, r5.2.1, r5.2.2.1, r5.2.2.2) seen1), vi ((s1 : Nat) : Int)])] a ∧ Sep w0 B w (blk g2 65 (ca A6 r4.1.length c6 r4.2.1 r4.2.2.1 r4.2.2.2.1 r4.2.2.2.2.1 r4.2.2.2.2.2.1) :: own 3 (.slice A4 last1.length c4) (vI last1) :: mapHV kf122 (Value.int .i64) g3 seen1 (mkV 64 r5.1, r5.2.1, r5.2.2.1, r5.2.2.2) s1 (mget (0 : Int) (mkV 64 r5.1, r5.2.1, r5.2.2.1, r5.2.2.2) seen1) :: blk g5 65 (ca A6 r4.1.length c6 r4.2.1 r4.2.2.1 r4.2.2.2.1 r4.2.2.2.2.1 r4.2.2.2.2.2.1) :: own 3 (.slice A6 r4.1.length c6) (vI r4.1) :: fs)) (fun a w hI => ?_) (fun sh4 => ?_)
      ·obtain ⟨s1, hF, hS⟩ := hI
       refine aq [4, 6] ?_
       refine (all_cons ?_ (all_cons ?_ all_nil))
       ·refine ao (listed' := #[true, true, true, true, true, true, false, false]) ?_
        refine aw 1 [] [] [4, 5, 7, 8, 32, 33, 34, 50, 54, 55] [pl 4 (pa g2 0), pl 5 (vi (w64 (made1 + 1))), pl 7 (vi 0), pl 8 (.map (some g3)), pl 32 (.slice A2 l1.length c2), pl 33 (vi (l1.length : Int)), pl 34 (vi z1), pl 50 (.map (some g3)), pl 54 (vi (w64 ((mget (0 : Int) (mkV 64 r5.1, r5.2.1, r5.2.2.1, r5.2.2.2) seen1) + 1))), pl 55 (.tuple #[vi (mget (0 : Int) (mkV 64 r5.1, r5.2.1, r5.2.2.1, r5.2.2.2) seen1), vi ((s1 : Nat) : Int)])] hF hS obs_nil (fun a hF => ?_)
        refine any_finI rfl (fun h => h) ?_
        exact sh2 _ _ ⟨s1, hF.wk [4, 5, 7, 8, 32, 33, 34, 50, 54, 55], hS⟩
       ·refine ao (listed' := #[true, true, true, true, false, true, true, false]) ?_
        refine aw 1 [] [] [4, 5, 7, 8, 32, 33, 34, 50, 53, 56] [pl 4 (pa g2 0), pl 5 (vi (w64 (made1 + 1))), pl 7 (vi 0), pl 8 (.map (some g3)), pl 32 (.slice A2 l1.length c2), pl 33 (vi (l1.length : Int)), pl 34 (vi z1), pl 50 (.map (some g3)), pl 53 (vi (mget (0 : Int) (mkV 64 r5.1, r5.2.1, r5.2.2.1, r5.2.2.2) seen1)), pl 56 (vi ((s1 : Nat) : Int))] hF hS obs_nil (fun a hF => ?_)
        refine any_finI rfl (fun h => h) ?_
        exact sh3 _ _ ⟨s1, hF.wk [4, 5, 7, 8, 32, 33, 34, 50, 53, 56], hS⟩
      refine aq [2] (all_cons ?_ all_nil)
      refine ao (listed' := #[true, true, true, false, false, false, false, false]) ?_
      refine ar 1 [⟨false, [], callFunc 79 #[.agg (ca A6 r4.1.length c6 r4.2.1 r4.2.2.1 r4.2.2.2.1 r4.2.2.2.2.1 r4.2.2.2.2.2.1)], .agg (List.toArray (([] : List Value) ++ (arr1 (Value.int .i64) (0 : Int) 64 r5.1 ++ ([vi r5.2.1, vi r5.2.2.1, vi r5.2.2.2] : List Value))))⟩] [some (.agg (List.toArray (([] : List Value) ++ (arr1 (Value.int .i64) (0 : Int) 64 r5.1 ++ ([vi r5.2.1, vi r5.2.2.1, vi r5.2.2.2] : List Value)))))] [4, 5, 7, 8, 32, 33, 34, 50, 52] [pl 4 (pa g2 0), pl 5 (vi (w64 (made1 + 1))), pl 7 (vi 0), pl 8 (.map (some g3)), pl 32 (.slice A2 l1.length c2), pl 33 (vi (l1.length : Int)), pl 34 (vi z1), pl 50 (.map (some g3)), pl 52 (.agg (List.toArray (([] : List Value) ++ (arr1 (Value.int .i64) (0 : Int) 64 r5.1 ++ ([vi r5.2.1, vi r5.2.2.1, vi r5.2.2.2] : List Value)))))] hF hS ?_ (fun a w hF hS => ?_)
      ·exact obs_cons (ob_call Try.func79 (by kernel_rfl) rfl (fun _ _ hS => moves_keyOf_w hr5 hS (fun _ hS => (hS.at_ 4 rfl).rd) ((hS.at_ 4 rfl).cap1) rfl)) <| obs_nil
      refine any_fin rfl hS ?_
      refine aq [3, 5] ?_
      refine (all_cons ?_ (all_cons ?_ all_nil))
      ·refine ao (listed' := #[true, true, true, true, false, false, false, false]) ?_
       refine aw 1 [⟨false, [], vS (Instr.lookup 124 (.map (some g3)) (.agg (List.toArray (([] : List Value) ++ (arr1 (Value.int .i64) (0 : Int) 64 r5.1 ++ ([vi r5.2.1, vi r5.2.2.1, vi r5.2.2.2] : List Value))))) false), vi (mget (0 : Int) (mkV 64 r5.1, r5.2.1, r5.2.2.1, r5.2.2.2) seen1)⟩] [some (vi (mget (0 : Int) (mkV 64 r5.1, r5.2.1, r5.2.2.1, r5.2.2.2) seen1))] [4, 5, 7, 8, 32, 33, 34, 50, 52, 53] [pl 4 (pa g2 0), pl 5 (vi (w64 (made1 + 1))), pl 7 (vi 0), pl 8 (.map (some g3)), pl 32 (.slice A2 l1.length c2), pl 33 (vi (l1.length : Int)), pl 34 (vi z1), pl 50 (.map (some g3)), pl 52 (.agg (List.toArray (([] : List Value) ++ (arr1 (Value.int .i64) (0 : Int) 64 r5.1 ++ ([vi r5.2.1, vi r5.2.2.1, vi r5.2.2.2] : List Value))))), pl 53 (vi (mget (0 : Int) (mkV 64 r5.1, r5.2.1, r5.2.2.1, r5.2.2.2) seen1))] hF hS ?_ (fun a hF => ?_)
       ·exact obs_cons (ob_lookE (k := (mkV 64 r5.1, r5.2.1, r5.2.2.1, r5.2.2.2)) (m := seen1) (kfV122 r5.1 r5.2.1 r5.2.2.1 r5.2.2.2) MK122 UndM124 (z := (0 : Int)) MZ3 (fun _ hS => ⟨_, _, _, _, hS.at_ 2 rfl⟩)) <| obs_nil
       refine any_finI rfl (fun h => h) ?_
       refine aq [4, 5] ?_
       refine (all_cons ?_ (all_cons ?_ all_nil))
       ·refine ao (listed' := #[true, true, true, true, true, false, false, false]) ?_
        refine aw 1 [] [] [4, 5, 7, 8, 32, 33, 34, 50, 52, 54] [pl 4 (pa g2 0), pl 5 (vi (w64 (made1 + 1))), pl 7 (vi 0), pl 8 (.map (some g3)), pl 32 (.slice A2 l1.length c2), pl 33 (vi (l1.length : Int)), pl 34 (vi z1), pl 50 (.map (some g3)), pl 52 (.agg (List.toArray (([] : List Value) ++ (arr1 (Value.int .i64) (0 : Int) 64 r5.1 ++ ([vi r5.2.1, vi r5.2.2.1, vi r5.2.2.2] : List Value))))), pl 54 (vi (w64 ((mget (0 : Int) (mkV 64 r5.1, r5.2.1, r5.2.2.1, r5.2.2.2) seen1) + 1)))] hF hS obs_nil (fun a hF => ?_)
        refine any_finI rfl (fun h => h) ?_
        refine aq [5] (all_cons ?_ all_nil)
        refine ao (listed' := #[true, true, true, true, true, true, false, false]) ?_
        obtain ⟨s1, w, hrun, hS⟩ := run_mentryVE (P := Try.prog) (t := 124) (vf := (Value.int .i64)) (k := (mkV 64 r5.1, r5.2.1, r5.2.2.1, r5.2.2.2)) (kfV122 r5.1 r5.2.1 r5.2.2.1 r5.2.2.2) MK122 UndM124 (z := (0 : Int)) MZ3 (hS.at_ 2 rfl)
        have hS : Sep w0 B w (blk g2 65 (ca A6 r4.1.length c6 r4.2.1 r4.2.2.1 r4.2.2.2.1 r4.2.2.2.2.1 r4.2.2.2.2.2.1) :: own 3 (.slice A4 last1.length c4) (vI last1) :: mapHV kf122 (Value.int .i64) g3 seen1 (mkV 64 r5.1, r5.2.1, r5.2.2.1, r5.2.2.2) s1 (mget (0 : Int) (mkV 64 r5.1, r5.2.1, r5.2.2.1, r5.2.2.2) seen1) :: blk g5 65 (ca A6 r4.1.length c6 r4.2.1 r4.2.2.1 r4.2.2.2.1 r4.2.2.2.2.1 r4.2.2.2.2.2.1) :: own 3 (.slice A6 r4.1.length c6) (vI r4.1) :: fs) := hS
        refine ad (d := 55) hF hrun (fun a hF => ?_)
        refine any_finE rfl (by decide) ?_
        exact sh2 _ _ ⟨s1, hF.wk [4, 5, 7, 8, 32, 33, 34, 50, 54, 55], hS⟩
       ·refine ao (listed' := #[true, true, true, true, false, true, false, false]) ?_
        obtain ⟨s1, w, hrun, hS⟩ := run_mentryVE (P := Try.prog) (t := 124) (vf := (Value.int .i64)) (k := (mkV 64 r5.1, r5.2.1, r5.2.2.1, r5.2.2.2)) (kfV122 r5.1 r5.2.1 r5.2.2.1 r5.2.2.2) MK122 UndM124 (z := (0 : Int)) MZ3 (hS.at_ 2 rfl)
        have hS : Sep w0 B w (blk g2 65 (ca A6 r4.1.length c6 r4.2.1 r4.2.2.1 r4.2.2.2.1 r4.2.2.2.2.1 r4.2.2.2.2.2.1) :: own 3 (.slice A4 last1.length c4) (vI last1) :: mapHV kf122 (Value.int .i64) g3 seen1 (mkV 64 r5.1, r5.2.1, r5.2.2.1, r5.2.2.2) s1 (mget (0 : Int) (mkV 64 r5.1, r5.2.1, r5.2.2.1, r5.2.2.2) seen1) :: blk g5 65 (ca A6 r4.1.length c6 r4.2.1 r4.2.2.1 r4.2.2.2.1 r4.2.2.2.2.1 r4.2.2.2.2.2.1) :: own 3 (.slice A6 r4.1.length c6) (vI r4.1) :: fs) := hS
        refine ad (d := 55) hF hrun (fun a hF => ?_)
        refine any_finE rfl (by decide) ?_
        exact sh4 _ _ ⟨s1, hF.wk [4, 5, 7, 8, 32, 33, 34, 50, 53, 55], hS⟩
      ·refine ao (listed' := #[true, true, true, false, false, true, false, false]) ?_
       obtain ⟨s1, w, hrun, hS⟩ := run_mentryVE (P := Try.prog) (t := 124) (vf := (Value.int .i64)) (k := (mkV 64 r5.1, r5.2.1, r5.2.2.1, r5.2.2.2)) (kfV122 r5.1 r5.2.1 r5.2.2.1 r5.2.2.2) MK122 UndM124 (z := (0 : Int)) MZ3 (hS.at_ 2 rfl)
       have hS : Sep w0 B w (blk g2 65 (ca A6 r4.1.length c6 r4.2.1 r4.2.2.1 r4.2.2.2.1 r4.2.2.2.2.1 r4.2.2.2.2.2.1) :: own 3 (.slice A4 last1.length c4) (vI last1) :: mapHV kf122 (Value.int .i64) g3 seen1 (mkV 64 r5.1, r5.2.1, r5.2.2.1, r5.2.2.2) s1 (mget (0 : Int) (mkV 64 r5.1, r5.2.1, r5.2.2.1, r5.2.2.2) seen1) :: blk g5 65 (ca A6 r4.1.length c6 r4.2.1 r4.2.2.1 r4.2.2.2.1 r4.2.2.2.2.1 r4.2.2.2.2.2.1) :: own 3 (.slice A6 r4.1.length c6) (vI r4.1) :: fs) := hS
       refine ad (d := 55) hF hrun (fun a hF => ?_)
       refine any_finE rfl (by decide) ?_
       refine aq [3, 6] ?_
       refine (all_cons ?_ (all_cons ?_ all_nil))
       ·refine ao (listed' := #[true, true, true, true, false, true, false, false]) ?_
        refine aw 1 [⟨false, [], vS (Instr.lookup 124 (.map (some g3)) (.agg (List.toArray (([] : List Value) ++ (arr1 (Value.int .i64) (0 : Int) 64 r5.1 ++ ([vi r5.2.1, vi r5.2.2.1, vi r5.2.2.2] : List Value))))) false), vi (mget (0 : Int) (mkV 64 r5.1, r5.2.1, r5.2.2.1, r5.2.2.2) seen1)⟩] [some (vi (mget (0 : Int) (mkV 64 r5.1, r5.2.1, r5.2.2.1, r5.2.2.2) seen1))] [4, 5, 7, 8, 32, 33, 34, 50, 53, 55] [pl 4 (pa g2 0), pl 5 (vi (w64 (made1 + 1))), pl 7 (vi 0), pl 8 (.map (some g3)), pl 32 (.slice A2 l1.length c2), pl 33 (vi (l1.length : Int)), pl 34 (vi z1), pl 50 (.map (some g3)), pl 53 (vi (mget (0 : Int) (mkV 64 r5.1, r5.2.1, r5.2.2.1, r5.2.2.2) seen1)), pl 55 (.tuple #[vi (mget (0 : Int) (mkV 64 r5.1, r5.2.1, r5.2.2.1, r5.2.2.2) seen1), vi ((s1 : Nat) : Int)])] hF hS ?_ (fun a hF => ?_)
        ·exact obs_cons (ob_lookVE (k := (mkV 64 r5.1, r5.2.1, r5.2.2.1, r5.2.2.2)) (m := seen1) (kfV122 r5.1 r5.2.1 r5.2.2.1 r5.2.2.2) MK122 UndM124 (z := (0 : Int)) MZ3 (fun _ hS => ⟨_, _, _, _, _, hS.at_ 2 rfl⟩)) <| obs_nil
        refine any_finI rfl (fun h => h) ?_
        exact sh4 _ _ ⟨s1, hF.wk [4, 5, 7, 8, 32, 33, 34, 50, 53, 55], hS⟩
       ·refine ao (listed' := #[true, true, true, false, false, true, true, false]) ?_
        refine aw 1 [] [] [4, 5, 7, 8, 32, 33, 34, 50, 52, 56] [pl 4 (pa g2 0), pl 5 (vi (w64 (made1 + 1))), pl 7 (vi 0), pl 8 (.map (some g3)), pl 32 (.slice A2 l1.length c2), pl 33 (vi (l1.length : Int)), pl 34 (vi z1), pl 50 (.map (some g3)), pl 52 (.agg (List.toArray (([] : List Value) ++ (arr1 (Value.int .i64) (0 : Int) 64 r5.1 ++ ([vi r5.2.1, vi r5.2.2.1, vi r5.2.2.2] : List Value))))), pl 56 (vi ((s1 : Nat) : Int))] hF hS obs_nil (fun a hF => ?_)
        refine any_finI rfl (fun h => h) ?_
        refine aq [3] (all_cons ?_ all_nil)
        refine ao (listed' := #[true, true, true, true, false, true, true, false]) ?_
        refine aw 1 [⟨false, [], vS (Instr.lookup 124 (.map (some g3)) (.agg (List.toArray (([] : List Value) ++ (arr1 (Value.int .i64) (0 : Int) 64 r5.1 ++ ([vi r5.2.1, vi r5.2.2.1, vi r5.2.2.2] : List Value))))) false), vi (mget (0 : Int) (mkV 64 r5.1, r5.2.1, r5.2.2.1, r5.2.2.2) seen1)⟩] [some (vi (mget (0 : Int) (mkV 64 r5.1, r5.2.1, r5.2.2.1, r5.2.2.2) seen1))] [4, 5, 7, 8, 32, 33, 34, 50, 53, 56] [pl 4 (pa g2 0), pl 5 (vi (w64 (made1 + 1))), pl 7 (vi 0), pl 8 (.map (some g3)), pl 32 (.slice A2 l1.length c2), pl 33 (vi (l1.length : Int)), pl 34 (vi z1), pl 50 (.map (some g3)), pl 53 (vi (mget (0 : Int) (mkV 64 r5.1, r5.2.1, r5.2.2.1, r5.2.2.2) seen1)), pl 56 (vi ((s1 : Nat) : Int))] hF hS ?_ (fun a hF => ?_)
        ·exact obs_cons (ob_lookVE (k := (mkV 64 r5.1, r5.2.1, r5.2.2.1, r5.2.2.2)) (m := seen1) (kfV122 r5.1 r5.2.1 r5.2.2.1 r5.2.2.2) MK122 UndM124 (z := (0 : Int)) MZ3 (fun _ hS => ⟨_, _, _, _, _, hS.at_ 2 rfl⟩)) <| obs_nil
        refine any_finI rfl (fun h => h) ?_
        exact sh3 _ _ ⟨s1, hF.wk [4, 5, 7, 8, 32, 33, 34, 50, 53, 56], hS⟩
     ·refine rg [] [] [4, 5, 7, 8, 11, 12, 32, 33, 34, 45] [pl 4 (pa g2 0), pl 5 (vi made1), pl 7 (vi 0), pl 8 (.map (some g3)), pl 11 (pa g5 0), pl 12 (vi r4.2.2.2.2.2.2), pl 32 (.slice A2 l1.length c2), pl 33 (vi (l1.length : Int)), pl 34 (vi z1), pl 45 (.bool (r4.2.2.2.2.2.2 != 0))] hF hS obs_nil (fun a w hF hS => ?_)
      refine ce (t := 45) (b := (r4.2.2.2.2.2.2 != 0)) hF (fun hb => ?_) (fun hb => ?_)
      ·replace hm := if_t hm hb
       refine rg [] [] [4, 5, 7, 8] [pl 4 (pa g2 0), pl 5 (vi made1), pl 7 (vi r4.2.2.2.2.2.2), pl 8 (.map (some g3))] hF hS obs_nil (fun a w hF hS => ?_)
       refine wpIn_exit ?_
       refine then_e (block_o rfl (then_e (then_e (block_e (then_n ?_)))))
       have hS := hS.pickN 6 [3, 4, 5] (by decide)
       rw [← hφ1] at hm
       replace hm := done_b hm
       unfold moves_Play_K1 at hm
       try dsimp only at hm
       have hm : (moves_Play_J2 last1 last2 last3 last4 last5 last6 made1 r4.2.2.2.2.2.2 seen1).bind some = some r := hm
       exact ⟨last1, last2, last3, last4, last5, last6, made1, r4.2.2.2.2.2.2, seen1, A4, c4, hF.wk [4, 5, 7, 8], hS, hm⟩
      ·replace hm := if_f hm hb
       refine wpIn_skip ?_
       refine then_n ?_
       have hS := hS.pickN 6 [3, 4, 5, 0, 1] (by decide)
       exact ⟨hF.wk [4, 5, 7, 8, 11, 32, 33, 34], hS, hm⟩
   ·refine ce (t := 35) (b := decide (z1 < (l1.length : Int))) hF (fun hb => ?_) (fun hb => ?_)
    ·replace hm := if_t hm hb
     refine wpIn_skip ?_
     refine then_n ?_
     exact ⟨hF.wk [4, 5, 7, 8, 32, 33, 34], hS, hm⟩
    ·replace hm := if_f hm hb
     refine wpIn_exit ?_
     refine then_e (then_e (block_e (then_n ?_)))
     rw [← hφ1] at hm
     replace hm := done_b hm
     unfold moves_Play_K1 at hm
     try dsimp only at hm
     have hm : (moves_Play_J2 last1 last2 last3 last4 last5 last6 made1 0 seen1).bind some = some r := hm
     exact ⟨last1, last2, last3, last4, last5, last6, made1, 0, seen1, A4, c4, hF.wk [4, 5, 7, 8], hS, hm⟩
 ·refine wpIn_block ?_
  obtain ⟨r1, hr1, hm⟩ := call_b hm
  refine rg [⟨false, [], vS (Instr.loadAt 65 (pa g1 0)), .agg (ca A1 p1.length c1 p2 p3 p4 p5 p6)⟩, ⟨false, [], callFunc 77 #[.agg (ca A1 p1.length c1 p2 p3 p4 p5 p6)], .bool r1⟩] [some (.agg (ca A1 p1.length c1 p2 p3 p4 p5 p6)), some (.bool r1), none, none] [1, 2, 4, 5, 7, 13] [pl 1 (.slice A2 l1.length c2), pl 2 (pa g1 0), pl 4 (pa g2 0), pl 5 (vi 0), pl 7 (vi 0), pl 13 (.bool (!r1))] hF hS ?_ (fun a w hF hS => ?_)
  ·exact obs_cons (oA (cs := (ca A1 p1.length c1 p2 p3 p4 p5 p6)) (fun _ _ hS => (hS.at_ 1 rfl).cellsAt 0 (by rfl))) <| obs_cons (ob_call Try.func77 (by kernel_rfl) rfl (fun _ _ hS => board_May_w hr1 hS (fun _ hS => (hr_p1 _ (hS.dropN 2))) _hc_p1 rfl)) <| obs_nil
  refine ce (t := 13) (b := !r1) hF (fun hb => ?_) (fun hb => ?_)
  ·replace hm := if_t hm hb
   refine seqR ?_
   refine ar 1 [] [] [4, 17] [pl 4 (pa g2 0), pl 17 (.agg (ca none 0 0 0 0 0 0 0))] hF hS obs_nil (fun a w hF hS => ?_)
   obtain ⟨w, hrun, hS⟩ := run_putA (P := Try.prog) (t := 65) (us := (ca none 0 0 0 0 0 0 0)) (o := 0) (hS.at_ 0 rfl) (by kernel_rfl) (all_one (by kernel_rfl)) (Nat.le_of_ble_eq_true (by kernel_rfl))
   refine at_s hF hrun ?_
   have hS : Sep w0 B w (blk g2 65 (ca none 0 0 0 0 0 0 0) :: blk g1 65 (ca A1 p1.length c1 p2 p3 p4 p5 p6) :: fs) := hS
   refine ar 3 [] [] [4, 5, 6, 7] [pl 4 (pa g2 0), pl 5 (vi 0), pl 6 (vi 0), pl 7 (vi 12)] hF hS obs_nil (fun a w hF hS => ?_)
   refine ae [4, 5, 6, 7] [pl 4 (pa g2 0), pl 5 (vi 0), pl 6 (vi 0), pl 7 (vi 12)] hF rfl (fun hF => ?_)
   refine then_n (wpIn_ret ?_)
   refine block_r (then_r ?_)
   have hS : Sep w0 B w (own 3 (.slice none 0 0) (vI ([] : List Int)) :: blk g2 65 (ca none 0 0 0 0 0 0 0) :: blk g1 65 (ca A1 p1.length c1 p2 p3 p4 p5 p6) :: fs) := hS.nil 3
   have hl1 := (hS.at_ 0 rfl).len1
   have hS := (hS.at_ 0 rfl).reN hl1
   have hS : Sep w0 B w (own 3 (.slice none (([] : List Int).length) 0) (vI ([] : List Int)) :: blk g2 65 (ca none 0 0 0 0 0 0 0) :: blk g1 65 (ca A1 p1.length c1 p2 p3 p4 p5 p6) :: fs) := hS
   have hld0 := run_loadVarA (P := Try.prog) (t := 65) (cs := #[.slice none (([] : List Int).length) 0, vi 0, vi 0, vi 0, vi 0, vi 0]) (by kernel_rfl) (by kernel_rfl) ((hS.at_ 1 rfl).cellsAt 0 (by rfl))
   have hS := hS.pickN 3 [0] (by decide)
   have hm : some (([] : List Int), 0, 0, 0, 0, 0, 0, 0, 12) = some r := hm
   obtain rfl := Option.some.inj hm
   exact retV (rs := [.cell 4 65, .tmp 5, .tmp 6, .tmp 7]) (vs := [.agg #[.slice none (([] : List Int).length) 0, vi 0, vi 0, vi 0, vi 0, vi 0], vi 0, vi 0, vi 12]) hF rfl (rv_c (by kernel_rfl) hld0 <| rv_t (by kernel_rfl) <| rv_t (by kernel_rfl) <| rv_t (by kernel_rfl) <| rv_nil) rfl ⟨_, rfl, none, 0, rfl, hS⟩
  ·replace hm := if_f hm hb
   refine rg [] [] [1, 2, 4, 5, 7, 18] [pl 1 (.slice A2 l1.length c2), pl 2 (pa g1 0), pl 4 (pa g2 0), pl 5 (vi 0), pl 7 (vi 0), pl 18 (.bool (decide ((200 : Int) < (l1.length : Int))))] hF hS obs_nil (fun a w hF hS => ?_)
   refine ce (t := 18) (b := decide ((200 : Int) < (l1.length : Int))) hF (fun hb => ?_) (fun hb => ?_)
   ·replace hm := if_t hm hb
    refine seqR ?_
    refine ar 1 [] [] [4, 22] [pl 4 (pa g2 0), pl 22 (.agg (ca none 0 0 0 0 0 0 0))] hF hS obs_nil (fun a w hF hS => ?_)
    obtain ⟨w, hrun, hS⟩ := run_putA (P := Try.prog) (t := 65) (us := (ca none 0 0 0 0 0 0 0)) (o := 0) (hS.at_ 0 rfl) (by kernel_rfl) (all_one (by kernel_rfl)) (Nat.le_of_ble_eq_true (by kernel_rfl))
    refine at_s hF hrun ?_
    have hS : Sep w0 B w (blk g2 65 (ca none 0 0 0 0 0 0 0) :: blk g1 65 (ca A1 p1.length c1 p2 p3 p4 p5 p6) :: fs) := hS
    refine ar 3 [] [] [4, 5, 6, 7] [pl 4 (pa g2 0), pl 5 (vi 0), pl 6 (vi 0), pl 7 (vi 11)] hF hS obs_nil (fun a w hF hS => ?_)
    refine ae [4, 5, 6, 7] [pl 4 (pa g2 0), pl 5 (vi 0), pl 6 (vi 0), pl 7 (vi 11)] hF rfl (fun hF => ?_)
    refine then_n (wpIn_ret ?_)
    refine block_r (then_r ?_)
    have hS : Sep w0 B w (own 3 (.slice none 0 0) (vI ([] : List Int)) :: blk g2 65 (ca none 0 0 0 0 0 0 0) :: blk g1 65 (ca A1 p1.length c1 p2 p3 p4 p5 p6) :: fs) := hS.nil 3
    have hl2 := (hS.at_ 0 rfl).len1
    have hS := (hS.at_ 0 rfl).reN hl2
    have hS : Sep w0 B w (own 3 (.slice none (([] : List Int).length) 0) (vI ([] : List Int)) :: blk g2 65 (ca none 0 0 0 0 0 0 0) :: blk g1 65 (ca A1 p1.length c1 p2 p3 p4 p5 p6) :: fs) := hS
    have hld0 := run_loadVarA (P := Try.prog) (t := 65) (cs := #[.slice none (([] : List Int).length) 0, vi 0, vi 0, vi 0, vi 0, vi 0]) (by kernel_rfl) (by kernel_rfl) ((hS.at_ 1 rfl).cellsAt 0 (by rfl))
    have hS := hS.pickN 3 [0] (by decide)
    have hm : some (([] : List Int), 0, 0, 0, 0, 0, 0, 0, 11) = some r := hm
    obtain rfl := Option.some.inj hm
    exact retV (rs := [.cell 4 65, .tmp 5, .tmp 6, .tmp 7]) (vs := [.agg #[.slice none (([] : List Int).length) 0, vi 0, vi 0, vi 0, vi 0, vi 0], vi 0, vi 0, vi 11]) hF rfl (rv_c (by kernel_rfl) hld0 <| rv_t (by kernel_rfl) <| rv_t (by kernel_rfl) <| rv_t (by kernel_rfl) <| rv_nil) rfl ⟨_, rfl, none, 0, rfl, hS⟩
   ·replace hm := if_f hm hb
    refine wpIn_skip ?_
    refine block_n ?_
    refine then_n ?_
    have hS := hS.pickN 2 [1, 0] (by decide)
    exact ⟨hF.wk [1, 2, 4, 5, 7], hS, hm⟩

def rf_within_m  (n1 low1 high1 : Int) : Option Bool :=
 some ((decide (low1 ≤ n1)) && (decide (n1 ≤ high1)))

theorem rf_within_w  {n1 low1 high1 : Int} {r : Bool} {w0 w : World} {B : Nat} {fs : List HP} (hm : rf_within_m n1 low1 high1 = some r) (hS : Sep w0 B w (fs)) :
  Calls Try.prog 62 #[vi n1, vi low1, vi high1] w fun e w' => e = .returned (.bool r) ∧ Sep w0 B w' (fs) := by
 unfold rf_within_m at hm
 replace hm := start_b hm
 refine enter (l := [vi n1, vi low1, vi high1]) (n := 15) Try.func62 rfl rfl (by simp) (fun a hF => ?_)
 refine rg [] [] [0, 1, 2] [pl 0 (vi n1), pl 1 (vi low1), pl 2 (vi high1)] hF hS obs_nil (fun a w hF hS => ?_)
 refine rg [] [] [6] [pl 6 (.bool ((decide (low1 ≤ n1)) && (decide (n1 ≤ high1))))] hF hS obs_nil (fun a w hF hS => ?_)
 refine wpIn_ret ?_
 have hm : some ((decide (low1 ≤ n1)) && (decide (n1 ≤ high1))) = some r := hm
 obtain rfl := Option.some.inj hm
 exact retV (rs := [.tmp 6]) (vs := [.bool ((decide (low1 ≤ n1)) && (decide (n1 ≤ high1)))]) hF rfl rv1 rfl ⟨rfl, hS⟩

def rf_size_J1  (n1 : Int) : Option Int :=
 some n1
end Go.Proofs.Ytkpkkdpfcbnfdaa
