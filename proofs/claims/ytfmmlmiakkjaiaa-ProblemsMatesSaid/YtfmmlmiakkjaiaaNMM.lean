import Derived.Test.YtfmmlmiakkjaiaaVI
import Derived.Test.YtfmmlmiakkjaiaaFB
import Derived.Test.YtfmmlmiakkjaiaaLibRF
import Derived.Test.YtfmmlmiakkjaiaaNMC
noncomputable section
namespace Go.Proofs.Ytfmmlmiakkjaiaa
open Go Go.GL Go.RowKit
set_option maxRecDepth 100000
set_option maxHeartbeats 4000000

def problems_forced_1_1_m  (rec_problems_forced : List Int → Int → Int → Int → Int → Int → Int → Int → Int → Int → Option Bool) (m1 m2 m3 : Int) (p1_Places1 : List Int) (p1_Turn1 p1_Castle1 : Int) (p1_EnPassant1 p1_Half1 : Int) (p1_Full1 p21 : Int) : Option Bool :=
 (rec_problems_forced p1_Places1 p1_Turn1 p1_Castle1 p1_EnPassant1 p1_Half1 p1_Full1 m1 m2 m3 (w64 (p21 - 1))).bind fun r1 => some r1

theorem problems_forced_1_1_w {rec_problems_forced : List Int → Int → Int → Int → Int → Int → Int → Int → Int → Int → Option Bool} (ih_problems_forced : ∀ {A1 : Option Addr} {c1 n1 : Nat} {p1 : List Int} {p2 p3 : Int} {p4 p5 : Int} {p6 m1 : Int} {m2 m3 left1 : Int} {r : Bool} {w0 w : World} {B : Nat} {fs : List HP} (_ : rec_problems_forced p1 p2 p3 p4 p5 p6 m1 m2 m3 left1 = some r) (_ : Sep w0 B w (fs)) (hr_p1 : RdF w0 B fs A1 (vI p1)) (_hc_p1 : p1.length ≤ c1) (_hn_p1 : n1 = p1.length), Calls Try.prog 143 #[.agg (ca A1 n1 c1 p2 p3 p4 p5 p6), .agg #[vi m1, vi m2, vi m3], vi left1] w fun e w' => e = .returned (.bool r) ∧ Sep w0 B w' (fs)) {m1 m2 m3 : Int} {g1 : Nat} {A1 : Option Addr} {c1 n1 : Nat} {p1_Places1 : List Int} {p1_Turn1 p1_Castle1 : Int} {p1_EnPassant1 p1_Half1 p1_Full1 : Int} {g2 : Nat} {p21 : Int} {r : Bool} {w0 w : World} {B : Nat} {fs : List HP} (hm : problems_forced_1_1_m rec_problems_forced m1 m2 m3 p1_Places1 p1_Turn1 p1_Castle1 p1_EnPassant1 p1_Half1 p1_Full1 p21 = some r) (hS : Sep w0 B w (blk g1 75 (ca A1 n1 c1 p1_Turn1 p1_Castle1 p1_EnPassant1 p1_Half1 p1_Full1) :: own 3 (.slice A1 n1 c1) (vI p1_Places1) :: blk g2 3 #[vi p21] :: fs)) :
  Calls Try.prog 211 #[.agg #[vi m1, vi m2, vi m3], pa g1 0, pa g2 0] w fun e w' => e = .returned (.bool r) ∧ Sep w0 B w' (blk g1 75 (ca A1 n1 c1 p1_Turn1 p1_Castle1 p1_EnPassant1 p1_Half1 p1_Full1) :: own 3 (.slice A1 n1 c1) (vI p1_Places1) :: blk g2 3 #[vi p21] :: fs) := by
 obtain ⟨i3, hi3, hz3, hs3, hb3⟩ := info_parts Info3
 obtain rfl := (hS.at_ 1 rfl).len1
 unfold problems_forced_1_1_m at hm
 replace hm := start_b hm
 refine enter (l := [.agg #[vi m1, vi m2, vi m3], pa g1 0, pa g2 0]) (n := 10) Try.func211 rfl rfl (by simp) (fun a hF => ?_)
 refine seqR ?_
 refine at_do (d := 3) (s := vS (Instr.box 88 (.agg #[vi m1, vi m2, vi m3]))) (v := pa w.heap.size 0) (w' := w.alloc (.cells #[vi m1, vi m2, vi m3] 88)) hF (by kernel_rfl) (by kernel_rfl) (by kernel_rfl) (fun a hF => ?_)
 have hS : Sep w0 B (w.alloc (.cells #[vi m1, vi m2, vi m3] 88)) (blk w.heap.size 88 #[vi m1, vi m2, vi m3] :: (blk g1 75 (ca A1 p1_Places1.length c1 p1_Turn1 p1_Castle1 p1_EnPassant1 p1_Half1 p1_Full1) :: own 3 (.slice A1 p1_Places1.length c1) (vI p1_Places1) :: blk g2 3 #[vi p21] :: fs)) := hS.box 88 #[vi m1, vi m2, vi m3]
 generalize w.heap.size = g3 at hF hS
 generalize w.alloc (.cells #[vi m1, vi m2, vi m3] 88) = w at hS ⊢
 refine ar 1 [] [] [1, 2, 3] [pl 1 (pa g1 0), pl 2 (pa g2 0), pl 3 (pa g3 0)] hF hS obs_nil (fun a w hF hS => ?_)
 refine ae [1, 2, 3] [pl 1 (pa g1 0), pl 2 (pa g2 0), pl 3 (pa g3 0)] hF rfl (fun hF => ?_)
 refine then_n ?_
 obtain ⟨r1, hr1, hm⟩ := call_b hm
 refine rg [⟨false, [], vS (Instr.loadAt 75 (pa g1 0)), .agg (ca A1 p1_Places1.length c1 p1_Turn1 p1_Castle1 p1_EnPassant1 p1_Half1 p1_Full1)⟩, ⟨false, [], vS (Instr.loadAt 88 (pa g3 0)), .agg #[vi m1, vi m2, vi m3]⟩, ⟨false, [], vS (Instr.loadAt 3 (pa g2 0)), vi p21⟩, ⟨false, [], callFunc 143 #[.agg (ca A1 p1_Places1.length c1 p1_Turn1 p1_Castle1 p1_EnPassant1 p1_Half1 p1_Full1), .agg #[vi m1, vi m2, vi m3], vi (w64 (p21 - 1))], .bool r1⟩] [some (.agg (ca A1 p1_Places1.length c1 p1_Turn1 p1_Castle1 p1_EnPassant1 p1_Half1 p1_Full1)), some (.agg #[vi m1, vi m2, vi m3]), some (vi p21), none, some (.bool r1), none] [4] [pl 4 (.bool r1)] hF hS ?_ (fun a w hF hS => ?_)
 ·exact obs_cons (oA (cs := (ca A1 p1_Places1.length c1 p1_Turn1 p1_Castle1 p1_EnPassant1 p1_Half1 p1_Full1)) (fun _ _ hS => (hS.at_ 1 rfl).cellsAt 0 (by rfl))) <| obs_cons (oA (cs := #[vi m1, vi m2, vi m3]) (fun _ _ hS => (hS.at_ 0 rfl).cellsAt 0 (by rfl))) <| obs_cons (ob_load Agg3 (fun _ _ hS => (hS.at_ 3 rfl).cell rfl)) <| obs_cons (ob_call Try.func143 (by kernel_rfl) rfl (fun _ _ hS => ih_problems_forced hr1 hS (fun _ hS => (hS.at_ 2 rfl).rd) ((hS.at_ 2 rfl).cap1) rfl)) <| obs_nil
 refine wpIn_ret ?_
 have hS := hS.pickN 4 [1, 2, 3] (by decide)
 have hm : some r1 = some r := hm
 obtain rfl := Option.some.inj hm
 exact retV (rs := [.tmp 4]) (vs := [.bool r1]) hF rfl rv1 rfl ⟨rfl, hS⟩

set_option maxRecDepth 100000 in
theorem problems_forced_1_1_m_le_problems_forced {rec_problems_forced1 rec_problems_forced2 : List Int → Int → Int → Int → Int → Int → Int → Int → Int → Int → Option Bool} (h_rec_problems_forced : ∀ a0 a1 a2 a3 a4 a5 a6 a7 a8 a9, Le (rec_problems_forced1 a0 a1 a2 a3 a4 a5 a6 a7 a8 a9) (rec_problems_forced2 a0 a1 a2 a3 a4 a5 a6 a7 a8 a9)) (m1 m2 m3 : Int) (p1_Places1 : List Int) (p1_Turn1 p1_Castle1 : Int) (p1_EnPassant1 p1_Half1 : Int) (p1_Full1 p21 : Int) : Le (problems_forced_1_1_m rec_problems_forced1 m1 m2 m3 p1_Places1 p1_Turn1 p1_Castle1 p1_EnPassant1 p1_Half1 p1_Full1 p21) (problems_forced_1_1_m rec_problems_forced2 m1 m2 m3 p1_Places1 p1_Turn1 p1_Castle1 p1_EnPassant1 p1_Half1 p1_Full1 p21) := by
 unfold problems_forced_1_1_m
 repeat' (first | with_reducible exact Le.refl _ | with_reducible exact h_rec_problems_forced _ _ _ _ _ _ _ _ _ _ | with_reducible refine Le.asrt ?_ | with_reducible refine Le.ite ?_ ?_ | refine Le.bind ?_ (fun _ => ?_) | refine Le.loop2 (fun _ => ?_) | refine Le.elim2 (fun _ => ?_) (fun _ => ?_))

def api_Move_6_J3  (z1 : Int) : Option (St Int (Fl Unit Int)) :=
 some (.next (w64 (z1 + 1)))

def api_Move_6_J2  (rec_problems_forced : List Int → Int → Int → Int → Int → Int → Int → Int → Int → Int → Option Bool) (s1 : List MvT) (v_Places1 : List Int) (v_Turn1 v_Castle1 : Int) (v_EnPassant1 v_Half1 : Int) (v_Full1 v1 z1 : Int) : Option (St Int (Fl Unit Int)) :=
 asrt (0 ≤ z1 ∧ z1 < (s1.length : Int)) <| ((problems_forced_1_1_m rec_problems_forced) ((getd ((0, 0, 0) : MvT) s1 z1).1) ((getd ((0, 0, 0) : MvT) s1 z1).2.1) ((getd ((0, 0, 0) : MvT) s1 z1).2.2) v_Places1 v_Turn1 v_Castle1 v_EnPassant1 v_Half1 v_Full1 v1).bind fun r1 => if r1 then (some (.done (.ret z1))) else ((api_Move_6_J3 z1))

def api_Move_6_J1  : Option Int :=
 some (-1)

def api_Move_6_K1  : (Fl Unit Int) → Option Int :=
 fun (x : (Fl Unit Int)) => match x with | .go _ => api_Move_6_J1 | .ret x => some x

def api_Move_6_L1  (rec_problems_forced : List Int → Int → Int → Int → Int → Int → Int → Int → Int → Int → Option Bool) (s1 : List MvT) (v_Places1 : List Int) (v_Turn1 v_Castle1 : Int) (v_EnPassant1 v_Half1 : Int) (v_Full1 v1 : Int) : Int → Option (St Int (Fl Unit Int)) :=
 fun (x : Int) => match x with | z1 => if (decide (z1 < (s1.length : Int))) then ((api_Move_6_J2 rec_problems_forced s1 v_Places1 v_Turn1 v_Castle1 v_EnPassant1 v_Half1 v_Full1 v1 z1)) else (some (.done (.go ())))

def api_Move_6_m  (rec_problems_forced : List Int → Int → Int → Int → Int → Int → Int → Int → Int → Int → Option Bool) (s1 : List MvT) (v_Places1 : List Int) (v_Turn1 v_Castle1 : Int) (v_EnPassant1 v_Half1 : Int) (v_Full1 v1 : Int) : Option Int :=
 (loop (api_Move_6_L1 rec_problems_forced s1 v_Places1 v_Turn1 v_Castle1 v_EnPassant1 v_Half1 v_Full1 v1) 0).bind api_Move_6_K1

theorem api_Move_6_w {rec_problems_forced : List Int → Int → Int → Int → Int → Int → Int → Int → Int → Int → Option Bool} (ih_problems_forced : ∀ {A1 : Option Addr} {c1 n1 : Nat} {p1 : List Int} {p2 p3 : Int} {p4 p5 : Int} {p6 m1 : Int} {m2 m3 left1 : Int} {r : Bool} {w0 w : World} {B : Nat} {fs : List HP} (_ : rec_problems_forced p1 p2 p3 p4 p5 p6 m1 m2 m3 left1 = some r) (_ : Sep w0 B w (fs)) (hr_p1 : RdF w0 B fs A1 (vI p1)) (_hc_p1 : p1.length ≤ c1) (_hn_p1 : n1 = p1.length), Calls Try.prog 143 #[.agg (ca A1 n1 c1 p2 p3 p4 p5 p6), .agg #[vi m1, vi m2, vi m3], vi left1] w fun e w' => e = .returned (.bool r) ∧ Sep w0 B w' (fs)) {A1 : Option Addr} {c1 n1 : Nat} {s1 : List MvT} {g1 : Nat} {A2 : Option Addr} {c2 n2 : Nat} {v_Places1 : List Int} {v_Turn1 v_Castle1 : Int} {v_EnPassant1 v_Half1 v_Full1 : Int} {g2 : Nat} {v1 r : Int} {w0 w : World} {B : Nat} {fs : List HP} (hm : api_Move_6_m rec_problems_forced s1 v_Places1 v_Turn1 v_Castle1 v_EnPassant1 v_Half1 v_Full1 v1 = some r) (hS : Sep w0 B w (blk g1 75 (ca A2 n2 c2 v_Turn1 v_Castle1 v_EnPassant1 v_Half1 v_Full1) :: own 3 (.slice A2 n2 c2) (vI v_Places1) :: blk g2 3 #[vi v1] :: fs)) (hr_s1 : RdF w0 B fs A1 ((List.flatMap enc88 s1))) (_hc_s1 : s1.length ≤ c1) (_hn_s1 : n1 = s1.length) :
  Calls Try.prog 246 #[.slice A1 n1 c1, .func (.func 211) #[] #[pa g1 0, pa g2 0]] w fun e w' => e = .returned (vi r) ∧ Sep w0 B w' (blk g1 75 (ca A2 n2 c2 v_Turn1 v_Castle1 v_EnPassant1 v_Half1 v_Full1) :: own 3 (.slice A2 n2 c2) (vI v_Places1) :: blk g2 3 #[vi v1] :: fs) := by
 obtain ⟨i3, hi3, hz3, hs3, hb3⟩ := info_parts Info3
 obtain ⟨i88, hi88, hz88, hs88, hb88⟩ := info_parts Info88
 obtain rfl := (hS.at_ 1 rfl).len1
 obtain rfl := _hn_s1
 unfold api_Move_6_m at hm
 replace hm := start_b hm
 refine enter (l := [.slice A1 s1.length c1, .func (.func 211) #[] #[pa g1 0, pa g2 0]]) (n := 19) Try.func246 rfl rfl (by simp) (fun a hF => ?_)
 refine rg [] [] [0, 1] [pl 0 (.slice A1 s1.length c1), pl 1 (.func (.func 211) #[] #[pa g1 0, pa g2 0])] hF hS obs_nil (fun a w hF hS => ?_)
 refine seq_cut (fun a w => Fr 19 [] a ∧ Sep w0 B w (blk g1 75 (ca A2 v_Places1.length c2 v_Turn1 v_Castle1 v_EnPassant1 v_Half1 v_Full1) :: own 3 (.slice A2 v_Places1.length c2) (vI v_Places1) :: blk g2 3 #[vi v1] :: fs) ∧ (api_Move_6_J1).bind some = some r) ?_ ?_
 ·rintro a w ⟨hF, hS, hm⟩
  unfold api_Move_6_J1 at hm
  refine rg [] [] [4] [pl 4 (vi (-1))] hF hS obs_nil (fun a w hF hS => ?_)
  refine wpIn_ret ?_
  have hm : some (-1) = some r := hm
  obtain rfl := Option.some.inj hm
  exact retV (rs := [.tmp 4]) (vs := [vi (-1)]) hF rfl rv1 rfl ⟨rfl, hS⟩
 ·refine rg [] [] [0, 1, 7, 8] [pl 0 (.slice A1 s1.length c1), pl 1 (.func (.func 211) #[] #[pa g1 0, pa g2 0]), pl 7 (vi (s1.length : Int)), pl 8 (vi 0)] hF hS obs_nil (fun a w hF hS => ?_)
  refine wpIn_block ?_
  refine wp_loop_model (S := Int) (R := (Fl Unit Int)) (api_Move_6_L1 rec_problems_forced s1 v_Places1 v_Turn1 v_Castle1 v_EnPassant1 v_Half1 v_Full1 v1) (fun x => (api_Move_6_K1 x).bind some) r (fun (x : Int) a w => Fr 19 [pl 0 (.slice A1 s1.length c1), pl 1 (.func (.func 211) #[] #[pa g1 0, pa g2 0]), pl 7 (vi (s1.length : Int)), pl 8 (vi x)] a ∧ Sep w0 B w (blk g1 75 (ca A2 v_Places1.length c2 v_Turn1 v_Castle1 v_EnPassant1 v_Half1 v_Full1) :: own 3 (.slice A2 v_Places1.length c2) (vI v_Places1) :: blk g2 3 #[vi v1] :: fs)) (assoc_b hm) ⟨hF.wk [0, 1, 7, 8], hS⟩ ?_
  clear hF hS hm
  rintro nn1 z1 a w ⟨hF, hS⟩ hm
  generalize hφ1 : stK (api_Move_6_L1 rec_problems_forced s1 v_Places1 v_Turn1 v_Castle1 v_EnPassant1 v_Half1 v_Full1 v1) nn1 (fun x => (api_Move_6_K1 x).bind some) = φ1 at hm
  unfold api_Move_6_L1 at hm
  dsimp only at hm
  refine rg [] [] [0, 1, 7, 8, 9] [pl 0 (.slice A1 s1.length c1), pl 1 (.func (.func 211) #[] #[pa g1 0, pa g2 0]), pl 7 (vi (s1.length : Int)), pl 8 (vi z1), pl 9 (.bool (decide (z1 < (s1.length : Int))))] hF hS obs_nil (fun a w hF hS => ?_)
  refine seq_cut (fun a w => Fr 19 [pl 0 (.slice A1 s1.length c1), pl 1 (.func (.func 211) #[] #[pa g1 0, pa g2 0]), pl 7 (vi (s1.length : Int)), pl 8 (vi z1)] a ∧ Sep w0 B w (blk g1 75 (ca A2 v_Places1.length c2 v_Turn1 v_Castle1 v_EnPassant1 v_Half1 v_Full1) :: own 3 (.slice A2 v_Places1.length c2) (vI v_Places1) :: blk g2 3 #[vi v1] :: fs) ∧ ((api_Move_6_J2 rec_problems_forced s1 v_Places1 v_Turn1 v_Castle1 v_EnPassant1 v_Half1 v_Full1 v1 z1)).bind φ1 = some r) ?_ ?_
  ·rintro a w ⟨hF, hS, hm⟩
   unfold api_Move_6_J2 at hm
   refine seq_cut (fun a w => Fr 19 [pl 0 (.slice A1 s1.length c1), pl 1 (.func (.func 211) #[] #[pa g1 0, pa g2 0]), pl 7 (vi (s1.length : Int)), pl 8 (vi z1)] a ∧ Sep w0 B w (blk g1 75 (ca A2 v_Places1.length c2 v_Turn1 v_Castle1 v_EnPassant1 v_Half1 v_Full1) :: own 3 (.slice A2 v_Places1.length c2) (vI v_Places1) :: blk g2 3 #[vi v1] :: fs) ∧ ((api_Move_6_J3 z1)).bind φ1 = some r) ?_ ?_
   ·rintro a w ⟨hF, hS, hm⟩
    unfold api_Move_6_J3 at hm
    refine rg1 [] [] [0, 1, 7, 8] [pl 0 (.slice A1 s1.length c1), pl 1 (.func (.func 211) #[] #[pa g1 0, pa g2 0]), pl 7 (vi (s1.length : Int)), pl 8 (vi (w64 (z1 + 1)))] hF hS obs_nil (fun a w hF hS => ?_)
    refine then_n ?_
    rw [← hφ1] at hm
    exact ⟨(w64 (z1 + 1)), ⟨hF.wk [0, 1, 7, 8], hS⟩, hm⟩
   ·refine wpIn_block ?_
    refine rg [] [] [0, 1, 5, 7, 8] [pl 0 (.slice A1 s1.length c1), pl 1 (.func (.func 211) #[] #[pa g1 0, pa g2 0]), pl 5 (vi z1), pl 7 (vi (s1.length : Int)), pl 8 (vi z1)] hF hS obs_nil (fun a w hF hS => ?_)
    obtain ⟨hp1, hm⟩ := asrt_b hm
    obtain ⟨r1, hr1, hm⟩ := call_b hm
    refine rg [⟨true, [], vS (Instr.indexAt 81 (.slice A1 s1.length c1) (vi z1)), .pointer (some (sAddrK A1 3 z1))⟩, ⟨false, [], vS (Instr.loadAt 88 (.pointer (some (sAddrK A1 3 z1)))), .agg #[vi ((getd ((0, 0, 0) : MvT) s1 z1).1), vi ((getd ((0, 0, 0) : MvT) s1 z1).2.1), vi ((getd ((0, 0, 0) : MvT) s1 z1).2.2)]⟩, ⟨false, [], callFunc 211 #[.agg #[vi ((getd ((0, 0, 0) : MvT) s1 z1).1), vi ((getd ((0, 0, 0) : MvT) s1 z1).2.1), vi ((getd ((0, 0, 0) : MvT) s1 z1).2.2)], pa g1 0, pa g2 0], .bool r1⟩] [none, none, none, some (.pointer (some (sAddrK A1 3 z1))), some (.agg #[vi ((getd ((0, 0, 0) : MvT) s1 z1).1), vi ((getd ((0, 0, 0) : MvT) s1 z1).2.1), vi ((getd ((0, 0, 0) : MvT) s1 z1).2.2)]), some (.bool r1)] [0, 1, 5, 7, 8, 16] [pl 0 (.slice A1 s1.length c1), pl 1 (.func (.func 211) #[] #[pa g1 0, pa g2 0]), pl 5 (vi z1), pl 7 (vi (s1.length : Int)), pl 8 (vi z1), pl 16 (.bool r1)] hF hS ?_ (fun a w hF hS => ?_)
    ·exact obs_cons (ob_ixK (m := s1) encK88 Und81 hi88 hs88 (hr_s1 _ (hS.dropN 3)) rfl (fun _ => hp1)) <| obs_cons (ob_getK (n := s1.length) (m := s1) encK88 ((0, 0, 0) : MvT) (by kernel_rfl) (by kernel_rfl) (fun _ hS => ⟨_, (hr_s1 _ (hS.dropN 3))⟩) (fun _ hS => rfl) (fun _ => hp1)) <| obs_cons (ob_call Try.func211 (by kernel_rfl) rfl (fun _ _ hS => problems_forced_1_1_w ih_problems_forced hr1 hS )) <| obs_nil
    refine ce (t := 16) (b := r1) hF (fun hb => ?_) (fun hb => ?_)
    ·replace hm := if_t hm hb
     refine rg [] [] [4] [pl 4 (vi z1)] hF hS obs_nil (fun a w hF hS => ?_)
     refine wpIn_ret ?_
     refine block_r (then_r (then_r (block_r (then_r ?_))))
     rw [← hφ1] at hm
     replace hm := done_b hm
     unfold api_Move_6_K1 at hm
     try dsimp only at hm
     have hm : some z1 = some r := hm
     obtain rfl := Option.some.inj hm
     exact retV (rs := [.tmp 4]) (vs := [vi z1]) hF rfl rv1 rfl ⟨rfl, hS⟩
    ·replace hm := if_f hm hb
     refine wpIn_skip ?_
     refine block_n ?_
     refine then_n ?_
     exact ⟨hF.wk [0, 1, 7, 8], hS, hm⟩
  ·refine ce (t := 9) (b := decide (z1 < (s1.length : Int))) hF (fun hb => ?_) (fun hb => ?_)
   ·replace hm := if_t hm hb
    refine wpIn_skip ?_
    refine then_n ?_
    exact ⟨hF.wk [0, 1, 7, 8], hS, hm⟩
   ·replace hm := if_f hm hb
    refine wpIn_exit ?_
    refine then_e (then_e (block_e (then_n ?_)))
    rw [← hφ1] at hm
    replace hm := done_b hm
    unfold api_Move_6_K1 at hm
    try dsimp only at hm
    have hm : (api_Move_6_J1).bind some = some r := hm
    exact ⟨hF.wk [], hS, hm⟩

set_option maxRecDepth 100000 in
theorem api_Move_6_J2_le_problems_forced {rec_problems_forced1 rec_problems_forced2 : List Int → Int → Int → Int → Int → Int → Int → Int → Int → Int → Option Bool} (h_rec_problems_forced : ∀ a0 a1 a2 a3 a4 a5 a6 a7 a8 a9, Le (rec_problems_forced1 a0 a1 a2 a3 a4 a5 a6 a7 a8 a9) (rec_problems_forced2 a0 a1 a2 a3 a4 a5 a6 a7 a8 a9)) (s1 : List MvT) (v_Places1 : List Int) (v_Turn1 v_Castle1 : Int) (v_EnPassant1 v_Half1 : Int) (v_Full1 v1 z1 : Int) : Le (api_Move_6_J2 rec_problems_forced1 s1 v_Places1 v_Turn1 v_Castle1 v_EnPassant1 v_Half1 v_Full1 v1 z1) (api_Move_6_J2 rec_problems_forced2 s1 v_Places1 v_Turn1 v_Castle1 v_EnPassant1 v_Half1 v_Full1 v1 z1) := by
 unfold api_Move_6_J2
 repeat' (first | with_reducible exact Le.refl _ | with_reducible exact h_rec_problems_forced _ _ _ _ _ _ _ _ _ _ | with_reducible exact problems_forced_1_1_m_le_problems_forced h_rec_problems_forced _ _ _ _ _ _ _ _ _ _ | with_reducible refine Le.asrt ?_ | with_reducible refine Le.ite ?_ ?_ | refine Le.bind ?_ (fun _ => ?_) | refine Le.loop2 (fun _ => ?_) | refine Le.elim2 (fun _ => ?_) (fun _ => ?_))

set_option maxRecDepth 100000 in
theorem api_Move_6_L1_le_problems_forced {rec_problems_forced1 rec_problems_forced2 : List Int → Int → Int → Int → Int → Int → Int → Int → Int → Int → Option Bool} (h_rec_problems_forced : ∀ a0 a1 a2 a3 a4 a5 a6 a7 a8 a9, Le (rec_problems_forced1 a0 a1 a2 a3 a4 a5 a6 a7 a8 a9) (rec_problems_forced2 a0 a1 a2 a3 a4 a5 a6 a7 a8 a9)) (s1 : List MvT) (v_Places1 : List Int) (v_Turn1 v_Castle1 : Int) (v_EnPassant1 v_Half1 : Int) (v_Full1 v1 x : Int) : Le (api_Move_6_L1 rec_problems_forced1 s1 v_Places1 v_Turn1 v_Castle1 v_EnPassant1 v_Half1 v_Full1 v1 x) (api_Move_6_L1 rec_problems_forced2 s1 v_Places1 v_Turn1 v_Castle1 v_EnPassant1 v_Half1 v_Full1 v1 x) := by
 rcases x with z1
 all_goals
  unfold api_Move_6_L1
  try dsimp only
  repeat' (first | with_reducible exact Le.refl _ | with_reducible exact h_rec_problems_forced _ _ _ _ _ _ _ _ _ _ | with_reducible exact api_Move_6_J2_le_problems_forced h_rec_problems_forced _ _ _ _ _ _ _ _ _ | with_reducible refine Le.asrt ?_ | with_reducible refine Le.ite ?_ ?_ | refine Le.bind ?_ (fun _ => ?_) | refine Le.loop2 (fun _ => ?_) | refine Le.elim2 (fun _ => ?_) (fun _ => ?_))

set_option maxRecDepth 100000 in
theorem api_Move_6_m_le_problems_forced {rec_problems_forced1 rec_problems_forced2 : List Int → Int → Int → Int → Int → Int → Int → Int → Int → Int → Option Bool} (h_rec_problems_forced : ∀ a0 a1 a2 a3 a4 a5 a6 a7 a8 a9, Le (rec_problems_forced1 a0 a1 a2 a3 a4 a5 a6 a7 a8 a9) (rec_problems_forced2 a0 a1 a2 a3 a4 a5 a6 a7 a8 a9)) (s1 : List MvT) (v_Places1 : List Int) (v_Turn1 v_Castle1 : Int) (v_EnPassant1 v_Half1 : Int) (v_Full1 v1 : Int) : Le (api_Move_6_m rec_problems_forced1 s1 v_Places1 v_Turn1 v_Castle1 v_EnPassant1 v_Half1 v_Full1 v1) (api_Move_6_m rec_problems_forced2 s1 v_Places1 v_Turn1 v_Castle1 v_EnPassant1 v_Half1 v_Full1 v1) := by
 unfold api_Move_6_m
 repeat' (first | with_reducible exact Le.refl _ | with_reducible exact h_rec_problems_forced _ _ _ _ _ _ _ _ _ _ | with_reducible exact api_Move_6_L1_le_problems_forced h_rec_problems_forced _ _ _ _ _ _ _ _ _ | with_reducible refine Le.asrt ?_ | with_reducible refine Le.ite ?_ ?_ | refine Le.bind ?_ (fun _ => ?_) | refine Le.loop2 (fun _ => ?_) | refine Le.elim2 (fun _ => ?_) (fun _ => ?_))

def api_Move_5_m  (rec_problems_forced : List Int → Int → Int → Int → Int → Int → Int → Int → Int → Int → Option Bool) (s1 : List MvT) (v_Places1 : List Int) (v_Turn1 v_Castle1 : Int) (v_EnPassant1 v_Half1 : Int) (v_Full1 v1 : Int) : Option Bool :=
 ((api_Move_6_m rec_problems_forced) s1 v_Places1 v_Turn1 v_Castle1 v_EnPassant1 v_Half1 v_Full1 v1).bind fun r1 => some (decide ((0 : Int) ≤ r1))

theorem api_Move_5_w {rec_problems_forced : List Int → Int → Int → Int → Int → Int → Int → Int → Int → Int → Option Bool} (ih_problems_forced : ∀ {A1 : Option Addr} {c1 n1 : Nat} {p1 : List Int} {p2 p3 : Int} {p4 p5 : Int} {p6 m1 : Int} {m2 m3 left1 : Int} {r : Bool} {w0 w : World} {B : Nat} {fs : List HP} (_ : rec_problems_forced p1 p2 p3 p4 p5 p6 m1 m2 m3 left1 = some r) (_ : Sep w0 B w (fs)) (hr_p1 : RdF w0 B fs A1 (vI p1)) (_hc_p1 : p1.length ≤ c1) (_hn_p1 : n1 = p1.length), Calls Try.prog 143 #[.agg (ca A1 n1 c1 p2 p3 p4 p5 p6), .agg #[vi m1, vi m2, vi m3], vi left1] w fun e w' => e = .returned (.bool r) ∧ Sep w0 B w' (fs)) {A1 : Option Addr} {c1 n1 : Nat} {s1 : List MvT} {g1 : Nat} {A2 : Option Addr} {c2 n2 : Nat} {v_Places1 : List Int} {v_Turn1 v_Castle1 : Int} {v_EnPassant1 v_Half1 v_Full1 : Int} {g2 : Nat} {v1 : Int} {r : Bool} {w0 w : World} {B : Nat} {fs : List HP} (hm : api_Move_5_m rec_problems_forced s1 v_Places1 v_Turn1 v_Castle1 v_EnPassant1 v_Half1 v_Full1 v1 = some r) (hS : Sep w0 B w (blk g1 75 (ca A2 n2 c2 v_Turn1 v_Castle1 v_EnPassant1 v_Half1 v_Full1) :: own 3 (.slice A2 n2 c2) (vI v_Places1) :: blk g2 3 #[vi v1] :: fs)) (hr_s1 : RdF w0 B fs A1 ((List.flatMap enc88 s1))) (_hc_s1 : s1.length ≤ c1) (_hn_s1 : n1 = s1.length) :
  Calls Try.prog 209 #[.slice A1 n1 c1, .func (.func 211) #[] #[pa g1 0, pa g2 0]] w fun e w' => e = .returned (.bool r) ∧ Sep w0 B w' (blk g1 75 (ca A2 n2 c2 v_Turn1 v_Castle1 v_EnPassant1 v_Half1 v_Full1) :: own 3 (.slice A2 n2 c2) (vI v_Places1) :: blk g2 3 #[vi v1] :: fs) := by
 obtain ⟨i3, hi3, hz3, hs3, hb3⟩ := info_parts Info3
 obtain ⟨i88, hi88, hz88, hs88, hb88⟩ := info_parts Info88
 obtain rfl := (hS.at_ 1 rfl).len1
 obtain rfl := _hn_s1
 unfold api_Move_5_m at hm
 replace hm := start_b hm
 refine enter (l := [.slice A1 s1.length c1, .func (.func 211) #[] #[pa g1 0, pa g2 0]]) (n := 9) Try.func209 rfl rfl (by simp) (fun a hF => ?_)
 refine rg [] [] [0, 1] [pl 0 (.slice A1 s1.length c1), pl 1 (.func (.func 211) #[] #[pa g1 0, pa g2 0])] hF hS obs_nil (fun a w hF hS => ?_)
 obtain ⟨r1, hr1, hm⟩ := call_b hm
 refine rg [⟨false, [], callFunc 246 #[.slice A1 s1.length c1, .func (.func 211) #[] #[pa g1 0, pa g2 0]], vi r1⟩] [none, none, some (vi r1), none, none] [4] [pl 4 (.bool (decide ((0 : Int) ≤ r1)))] hF hS ?_ (fun a w hF hS => ?_)
 ·exact obs_cons (ob_call Try.func246 (by kernel_rfl) rfl (fun _ _ hS => api_Move_6_w ih_problems_forced hr1 hS (fun _ hS => (hr_s1 _ (hS.dropN 0))) _hc_s1 rfl)) <| obs_nil
 refine wpIn_ret ?_
 have hm : some (decide ((0 : Int) ≤ r1)) = some r := hm
 obtain rfl := Option.some.inj hm
 exact retV (rs := [.tmp 4]) (vs := [.bool (decide ((0 : Int) ≤ r1))]) hF rfl rv1 rfl ⟨rfl, hS⟩

set_option maxRecDepth 100000 in
theorem api_Move_5_m_le_problems_forced {rec_problems_forced1 rec_problems_forced2 : List Int → Int → Int → Int → Int → Int → Int → Int → Int → Int → Option Bool} (h_rec_problems_forced : ∀ a0 a1 a2 a3 a4 a5 a6 a7 a8 a9, Le (rec_problems_forced1 a0 a1 a2 a3 a4 a5 a6 a7 a8 a9) (rec_problems_forced2 a0 a1 a2 a3 a4 a5 a6 a7 a8 a9)) (s1 : List MvT) (v_Places1 : List Int) (v_Turn1 v_Castle1 : Int) (v_EnPassant1 v_Half1 : Int) (v_Full1 v1 : Int) : Le (api_Move_5_m rec_problems_forced1 s1 v_Places1 v_Turn1 v_Castle1 v_EnPassant1 v_Half1 v_Full1 v1) (api_Move_5_m rec_problems_forced2 s1 v_Places1 v_Turn1 v_Castle1 v_EnPassant1 v_Half1 v_Full1 v1) := by
 unfold api_Move_5_m
 repeat' (first | with_reducible exact Le.refl _ | with_reducible exact h_rec_problems_forced _ _ _ _ _ _ _ _ _ _ | with_reducible exact api_Move_6_m_le_problems_forced h_rec_problems_forced _ _ _ _ _ _ _ _ | with_reducible refine Le.asrt ?_ | with_reducible refine Le.ite ?_ ?_ | refine Le.bind ?_ (fun _ => ?_) | refine Le.loop2 (fun _ => ?_) | refine Le.elim2 (fun _ => ?_) (fun _ => ?_))

def problems_forced_1_m  (rec_problems_forced : List Int → Int → Int → Int → Int → Int → Int → Int → Int → Int → Option Bool) (r1 r2 r3 : Int) (p1_Places1 : List Int) (p1_Turn1 p1_Castle1 : Int) (p1_EnPassant1 p1_Half1 : Int) (p1_Full1 p21 : Int) : Option Bool :=
 (board_After_m p1_Places1 p1_Turn1 p1_Castle1 p1_EnPassant1 p1_Half1 p1_Full1 r1 r2 r3).bind fun r4 => (board_Moves_m r4.1 r4.2.1 r4.2.2.1 r4.2.2.2.1 r4.2.2.2.2.1 r4.2.2.2.2.2).bind fun r5 => ((api_Move_5_m rec_problems_forced) r5 r4.1 r4.2.1 r4.2.2.1 r4.2.2.2.1 r4.2.2.2.2.1 r4.2.2.2.2.2 p21).bind fun r6 => some (!r6)

theorem problems_forced_1_w {rec_problems_forced : List Int → Int → Int → Int → Int → Int → Int → Int → Int → Int → Option Bool} (ih_problems_forced : ∀ {A1 : Option Addr} {c1 n1 : Nat} {p1 : List Int} {p2 p3 : Int} {p4 p5 : Int} {p6 m1 : Int} {m2 m3 left1 : Int} {r : Bool} {w0 w : World} {B : Nat} {fs : List HP} (_ : rec_problems_forced p1 p2 p3 p4 p5 p6 m1 m2 m3 left1 = some r) (_ : Sep w0 B w (fs)) (hr_p1 : RdF w0 B fs A1 (vI p1)) (_hc_p1 : p1.length ≤ c1) (_hn_p1 : n1 = p1.length), Calls Try.prog 143 #[.agg (ca A1 n1 c1 p2 p3 p4 p5 p6), .agg #[vi m1, vi m2, vi m3], vi left1] w fun e w' => e = .returned (.bool r) ∧ Sep w0 B w' (fs)) {r1 r2 r3 : Int} {g1 : Nat} {A1 : Option Addr} {c1 n1 : Nat} {p1_Places1 : List Int} {p1_Turn1 p1_Castle1 : Int} {p1_EnPassant1 p1_Half1 p1_Full1 : Int} {g2 : Nat} {p21 : Int} {r : Bool} {w0 w : World} {B : Nat} {fs : List HP} (hm : problems_forced_1_m rec_problems_forced r1 r2 r3 p1_Places1 p1_Turn1 p1_Castle1 p1_EnPassant1 p1_Half1 p1_Full1 p21 = some r) (hS : Sep w0 B w (blk g1 75 (ca A1 n1 c1 p1_Turn1 p1_Castle1 p1_EnPassant1 p1_Half1 p1_Full1) :: own 3 (.slice A1 n1 c1) (vI p1_Places1) :: blk g2 3 #[vi p21] :: fs)) :
  Calls Try.prog 210 #[.agg #[vi r1, vi r2, vi r3], pa g1 0, pa g2 0] w fun e w' => e = .returned (.bool r) ∧ Sep w0 B w' (blk g1 75 (ca A1 n1 c1 p1_Turn1 p1_Castle1 p1_EnPassant1 p1_Half1 p1_Full1) :: own 3 (.slice A1 n1 c1) (vI p1_Places1) :: blk g2 3 #[vi p21] :: fs) := by
 obtain ⟨i3, hi3, hz3, hs3, hb3⟩ := info_parts Info3
 obtain rfl := (hS.at_ 1 rfl).len1
 unfold problems_forced_1_m at hm
 replace hm := start_b hm
 refine enter (l := [.agg #[vi r1, vi r2, vi r3], pa g1 0, pa g2 0]) (n := 14) Try.func210 rfl rfl (by simp) (fun a hF => ?_)
 refine seqR ?_
 refine at_do (d := 3) (s := vS (Instr.box 88 (.agg #[vi r1, vi r2, vi r3]))) (v := pa w.heap.size 0) (w' := w.alloc (.cells #[vi r1, vi r2, vi r3] 88)) hF (by kernel_rfl) (by kernel_rfl) (by kernel_rfl) (fun a hF => ?_)
 have hS : Sep w0 B (w.alloc (.cells #[vi r1, vi r2, vi r3] 88)) (blk w.heap.size 88 #[vi r1, vi r2, vi r3] :: (blk g1 75 (ca A1 p1_Places1.length c1 p1_Turn1 p1_Castle1 p1_EnPassant1 p1_Half1 p1_Full1) :: own 3 (.slice A1 p1_Places1.length c1) (vI p1_Places1) :: blk g2 3 #[vi p21] :: fs)) := hS.box 88 #[vi r1, vi r2, vi r3]
 generalize w.heap.size = g3 at hF hS
 generalize w.alloc (.cells #[vi r1, vi r2, vi r3] 88) = w at hS ⊢
 refine ar 1 [] [] [1, 2, 3] [pl 1 (pa g1 0), pl 2 (pa g2 0), pl 3 (pa g3 0)] hF hS obs_nil (fun a w hF hS => ?_)
 refine ae [1, 2, 3] [pl 1 (pa g1 0), pl 2 (pa g2 0), pl 3 (pa g3 0)] hF rfl (fun hF => ?_)
 refine then_n (seqR ?_)
 obtain ⟨r4, hr1, hm⟩ := call_b hm
 refine ar 2 [⟨false, [], vS (Instr.loadAt 75 (pa g1 0)), .agg (ca A1 p1_Places1.length c1 p1_Turn1 p1_Castle1 p1_EnPassant1 p1_Half1 p1_Full1)⟩, ⟨false, [], vS (Instr.loadAt 88 (pa g3 0)), .agg #[vi r1, vi r2, vi r3]⟩] [some (.agg (ca A1 p1_Places1.length c1 p1_Turn1 p1_Castle1 p1_EnPassant1 p1_Half1 p1_Full1)), some (.agg #[vi r1, vi r2, vi r3])] [2, 6, 7] [pl 2 (pa g2 0), pl 6 (.agg (ca A1 p1_Places1.length c1 p1_Turn1 p1_Castle1 p1_EnPassant1 p1_Half1 p1_Full1)), pl 7 (.agg #[vi r1, vi r2, vi r3])] hF hS ?_ (fun a w hF hS => ?_)
 ·exact obs_cons (oA (cs := (ca A1 p1_Places1.length c1 p1_Turn1 p1_Castle1 p1_EnPassant1 p1_Half1 p1_Full1)) (fun _ _ hS => (hS.at_ 1 rfl).cellsAt 0 (by rfl))) <| obs_cons (oA (cs := #[vi r1, vi r2, vi r3]) (fun _ _ hS => (hS.at_ 0 rfl).cellsAt 0 (by rfl))) <| obs_nil
 refine at_call (f := 135) (args := #[.agg (ca A1 p1_Places1.length c1 p1_Turn1 p1_Castle1 p1_EnPassant1 p1_Half1 p1_Full1), .agg #[vi r1, vi r2, vi r3]]) (d := 8) hF (by kernel_rfl) (by kernel_rfl) Try.func135 (by kernel_rfl) rfl (board_After_w hr1 hS (fun _ hS => (hS.at_ 2 rfl).rd) ((hS.at_ 2 rfl).cap1) rfl) (fun v a w hR hF => ?_)
 clear hS
 obtain ⟨A2, c2, rfl, hS⟩ := hR
 have hS : Sep w0 B w (own 3 (.slice A2 r4.1.length c2) (vI r4.1) :: blk g3 88 #[vi r1, vi r2, vi r3] :: blk g1 75 (ca A1 p1_Places1.length c1 p1_Turn1 p1_Castle1 p1_EnPassant1 p1_Half1 p1_Full1) :: own 3 (.slice A1 p1_Places1.length c1) (vI p1_Places1) :: blk g2 3 #[vi p21] :: fs) := hS
 refine at_do (d := 5) (s := vS (Instr.alloc 75 true (.tuple #[]))) (v := pa w.heap.size 0) (w' := w.alloc (.cells (ca none 0 0 0 0 0 0 0) 75)) hF (by kernel_rfl) (by kernel_rfl) (by kernel_rfl) (fun a hF => ?_)
 have hS : Sep w0 B (w.alloc (.cells (ca none 0 0 0 0 0 0 0) 75)) (blk w.heap.size 75 (ca none 0 0 0 0 0 0 0) :: (own 3 (.slice A2 r4.1.length c2) (vI r4.1) :: blk g3 88 #[vi r1, vi r2, vi r3] :: blk g1 75 (ca A1 p1_Places1.length c1 p1_Turn1 p1_Castle1 p1_EnPassant1 p1_Half1 p1_Full1) :: own 3 (.slice A1 p1_Places1.length c1) (vI p1_Places1) :: blk g2 3 #[vi p21] :: fs)) := hS.box 75 (ca none 0 0 0 0 0 0 0)
 generalize w.heap.size = g4 at hF hS
 generalize w.alloc (.cells (ca none 0 0 0 0 0 0 0) 75) = w at hS ⊢
 obtain ⟨w, hrun, hS⟩ := run_putA (P := Try.prog) (t := 75) (us := (ca A2 r4.1.length c2 r4.2.1 r4.2.2.1 r4.2.2.2.1 r4.2.2.2.2.1 r4.2.2.2.2.2)) (o := 0) (hS.at_ 0 rfl) (by kernel_rfl) (all_one (by kernel_rfl)) (Nat.le_of_ble_eq_true (by kernel_rfl))
 refine at_s hF hrun ?_
 have hS : Sep w0 B w (blk g4 75 (ca A2 r4.1.length c2 r4.2.1 r4.2.2.1 r4.2.2.2.1 r4.2.2.2.2.1 r4.2.2.2.2.2) :: own 3 (.slice A2 r4.1.length c2) (vI r4.1) :: blk g3 88 #[vi r1, vi r2, vi r3] :: blk g1 75 (ca A1 p1_Places1.length c1 p1_Turn1 p1_Castle1 p1_EnPassant1 p1_Half1 p1_Full1) :: own 3 (.slice A1 p1_Places1.length c1) (vI p1_Places1) :: blk g2 3 #[vi p21] :: fs) := hS
 refine ae [2, 5] [pl 2 (pa g2 0), pl 5 (pa g4 0)] hF rfl (fun hF => ?_)
 refine then_n (seqR ?_)
 obtain ⟨r5, hr2, hm⟩ := call_b hm
 obtain ⟨r6, hr3, hm⟩ := call_b hm
 refine ar 1 [⟨false, [], vS (Instr.loadAt 75 (pa g4 0)), .agg (ca A2 r4.1.length c2 r4.2.1 r4.2.2.1 r4.2.2.2.1 r4.2.2.2.2.1 r4.2.2.2.2.2)⟩] [some (.agg (ca A2 r4.1.length c2 r4.2.1 r4.2.2.1 r4.2.2.2.1 r4.2.2.2.2.1 r4.2.2.2.2.2))] [2, 5, 9] [pl 2 (pa g2 0), pl 5 (pa g4 0), pl 9 (.agg (ca A2 r4.1.length c2 r4.2.1 r4.2.2.1 r4.2.2.2.1 r4.2.2.2.2.1 r4.2.2.2.2.2))] hF hS ?_ (fun a w hF hS => ?_)
 ·exact obs_cons (oA (cs := (ca A2 r4.1.length c2 r4.2.1 r4.2.2.1 r4.2.2.2.1 r4.2.2.2.2.1 r4.2.2.2.2.2)) (fun _ _ hS => (hS.at_ 0 rfl).cellsAt 0 (by rfl))) <| obs_nil
 refine at_call (f := 133) (args := #[.agg (ca A2 r4.1.length c2 r4.2.1 r4.2.2.1 r4.2.2.2.1 r4.2.2.2.2.1 r4.2.2.2.2.2)]) (d := 10) hF (by kernel_rfl) (by kernel_rfl) Try.func133 (by kernel_rfl) rfl (board_Moves_w hr2 hS (fun _ hS => (hS.at_ 1 rfl).rd) ((hS.at_ 1 rfl).cap1) rfl) (fun v a w hR hF => ?_)
 clear hS
 obtain ⟨A3, c3, rfl, hS⟩ := hR
 have hS : Sep w0 B w (ownK 88 3 A3 r5.length c3 (List.flatMap enc88 r5) :: blk g4 75 (ca A2 r4.1.length c2 r4.2.1 r4.2.2.1 r4.2.2.2.1 r4.2.2.2.2.1 r4.2.2.2.2.2) :: own 3 (.slice A2 r4.1.length c2) (vI r4.1) :: blk g3 88 #[vi r1, vi r2, vi r3] :: blk g1 75 (ca A1 p1_Places1.length c1 p1_Turn1 p1_Castle1 p1_EnPassant1 p1_Half1 p1_Full1) :: own 3 (.slice A1 p1_Places1.length c1) (vI p1_Places1) :: blk g2 3 #[vi p21] :: fs) := hS
 refine ar 4 [⟨false, [], callFunc 209 #[.slice A3 r5.length c3, .func (.func 211) #[] #[pa g4 0, pa g2 0]], .bool r6⟩] [none, some (.bool r6), none, none] [4] [pl 4 (.bool (!r6))] hF hS ?_ (fun a w hF hS => ?_)
 ·exact obs_cons (ob_call Try.func209 (by kernel_rfl) rfl (fun _ _ hS => quiet_pick hS 7 [1, 2, 6, 0, 3, 4, 5] (by decide) [3, 0, 1, 4, 5, 6, 2] (by decide) (qs := (blk g4 75 (ca A2 r4.1.length c2 r4.2.1 r4.2.2.1 r4.2.2.2.1 r4.2.2.2.2.1 r4.2.2.2.2.2) :: own 3 (.slice A2 r4.1.length c2) (vI r4.1) :: blk g2 3 #[vi p21] :: ownK 88 3 A3 r5.length c3 (List.flatMap enc88 r5) :: blk g3 88 #[vi r1, vi r2, vi r3] :: blk g1 75 (ca A1 p1_Places1.length c1 p1_Turn1 p1_Castle1 p1_EnPassant1 p1_Half1 p1_Full1) :: own 3 (.slice A1 p1_Places1.length c1) (vI p1_Places1) :: fs)) rfl (fun hS => api_Move_5_w ih_problems_forced hr3 hS (fun _ hS => (hS.at_ 0 rfl).rdK) (((hS.dropN 3).at_ 0 rfl).capK encK88) rfl) 7 rfl)) <| obs_nil
 refine ae [4] [pl 4 (.bool (!r6))] hF rfl (fun hF => ?_)
 refine then_n (wpIn_ret ?_)
 have hS := hS.pickN 7 [4, 5, 6] (by decide)
 have hm : some (!r6) = some r := hm
 obtain rfl := Option.some.inj hm
 exact retV (rs := [.tmp 4]) (vs := [.bool (!r6)]) hF rfl rv1 rfl ⟨rfl, hS⟩

set_option maxRecDepth 100000 in
theorem problems_forced_1_m_le_problems_forced {rec_problems_forced1 rec_problems_forced2 : List Int → Int → Int → Int → Int → Int → Int → Int → Int → Int → Option Bool} (h_rec_problems_forced : ∀ a0 a1 a2 a3 a4 a5 a6 a7 a8 a9, Le (rec_problems_forced1 a0 a1 a2 a3 a4 a5 a6 a7 a8 a9) (rec_problems_forced2 a0 a1 a2 a3 a4 a5 a6 a7 a8 a9)) (r1 r2 r3 : Int) (p1_Places1 : List Int) (p1_Turn1 p1_Castle1 : Int) (p1_EnPassant1 p1_Half1 : Int) (p1_Full1 p21 : Int) : Le (problems_forced_1_m rec_problems_forced1 r1 r2 r3 p1_Places1 p1_Turn1 p1_Castle1 p1_EnPassant1 p1_Half1 p1_Full1 p21) (problems_forced_1_m rec_problems_forced2 r1 r2 r3 p1_Places1 p1_Turn1 p1_Castle1 p1_EnPassant1 p1_Half1 p1_Full1 p21) := by
 unfold problems_forced_1_m
 repeat' (first | with_reducible exact Le.refl _ | with_reducible exact h_rec_problems_forced _ _ _ _ _ _ _ _ _ _ | with_reducible exact api_Move_5_m_le_problems_forced h_rec_problems_forced _ _ _ _ _ _ _ _ | with_reducible refine Le.asrt ?_ | with_reducible refine Le.ite ?_ ?_ | refine Le.bind ?_ (fun _ => ?_) | refine Le.loop2 (fun _ => ?_) | refine Le.elim2 (fun _ => ?_) (fun _ => ?_))

def api_Move_4_J3  (z1 : Int) : Option (St Int (Fl Unit Int)) :=
 some (.next (w64 (z1 + 1)))

def api_Move_4_J2  (rec_problems_forced : List Int → Int → Int → Int → Int → Int → Int → Int → Int → Int → Option Bool) (s1 : List MvT) (v_Places1 : List Int) (v_Turn1 v_Castle1 : Int) (v_EnPassant1 v_Half1 : Int) (v_Full1 v1 z1 : Int) : Option (St Int (Fl Unit Int)) :=
 asrt (0 ≤ z1 ∧ z1 < (s1.length : Int)) <| ((problems_forced_1_m rec_problems_forced) ((getd ((0, 0, 0) : MvT) s1 z1).1) ((getd ((0, 0, 0) : MvT) s1 z1).2.1) ((getd ((0, 0, 0) : MvT) s1 z1).2.2) v_Places1 v_Turn1 v_Castle1 v_EnPassant1 v_Half1 v_Full1 v1).bind fun r1 => if r1 then (some (.done (.ret z1))) else ((api_Move_4_J3 z1))

def api_Move_4_J1  : Option Int :=
 some (-1)

def api_Move_4_K1  : (Fl Unit Int) → Option Int :=
 fun (x : (Fl Unit Int)) => match x with | .go _ => api_Move_4_J1 | .ret x => some x

def api_Move_4_L1  (rec_problems_forced : List Int → Int → Int → Int → Int → Int → Int → Int → Int → Int → Option Bool) (s1 : List MvT) (v_Places1 : List Int) (v_Turn1 v_Castle1 : Int) (v_EnPassant1 v_Half1 : Int) (v_Full1 v1 : Int) : Int → Option (St Int (Fl Unit Int)) :=
 fun (x : Int) => match x with | z1 => if (decide (z1 < (s1.length : Int))) then ((api_Move_4_J2 rec_problems_forced s1 v_Places1 v_Turn1 v_Castle1 v_EnPassant1 v_Half1 v_Full1 v1 z1)) else (some (.done (.go ())))

def api_Move_4_m  (rec_problems_forced : List Int → Int → Int → Int → Int → Int → Int → Int → Int → Int → Option Bool) (s1 : List MvT) (v_Places1 : List Int) (v_Turn1 v_Castle1 : Int) (v_EnPassant1 v_Half1 : Int) (v_Full1 v1 : Int) : Option Int :=
 (loop (api_Move_4_L1 rec_problems_forced s1 v_Places1 v_Turn1 v_Castle1 v_EnPassant1 v_Half1 v_Full1 v1) 0).bind api_Move_4_K1

theorem api_Move_4_w {rec_problems_forced : List Int → Int → Int → Int → Int → Int → Int → Int → Int → Int → Option Bool} (ih_problems_forced : ∀ {A1 : Option Addr} {c1 n1 : Nat} {p1 : List Int} {p2 p3 : Int} {p4 p5 : Int} {p6 m1 : Int} {m2 m3 left1 : Int} {r : Bool} {w0 w : World} {B : Nat} {fs : List HP} (_ : rec_problems_forced p1 p2 p3 p4 p5 p6 m1 m2 m3 left1 = some r) (_ : Sep w0 B w (fs)) (hr_p1 : RdF w0 B fs A1 (vI p1)) (_hc_p1 : p1.length ≤ c1) (_hn_p1 : n1 = p1.length), Calls Try.prog 143 #[.agg (ca A1 n1 c1 p2 p3 p4 p5 p6), .agg #[vi m1, vi m2, vi m3], vi left1] w fun e w' => e = .returned (.bool r) ∧ Sep w0 B w' (fs)) {A1 : Option Addr} {c1 n1 : Nat} {s1 : List MvT} {g1 : Nat} {A2 : Option Addr} {c2 n2 : Nat} {v_Places1 : List Int} {v_Turn1 v_Castle1 : Int} {v_EnPassant1 v_Half1 v_Full1 : Int} {g2 : Nat} {v1 r : Int} {w0 w : World} {B : Nat} {fs : List HP} (hm : api_Move_4_m rec_problems_forced s1 v_Places1 v_Turn1 v_Castle1 v_EnPassant1 v_Half1 v_Full1 v1 = some r) (hS : Sep w0 B w (blk g1 75 (ca A2 n2 c2 v_Turn1 v_Castle1 v_EnPassant1 v_Half1 v_Full1) :: own 3 (.slice A2 n2 c2) (vI v_Places1) :: blk g2 3 #[vi v1] :: fs)) (hr_s1 : RdF w0 B fs A1 ((List.flatMap enc88 s1))) (_hc_s1 : s1.length ≤ c1) (_hn_s1 : n1 = s1.length) :
  Calls Try.prog 246 #[.slice A1 n1 c1, .func (.func 210) #[] #[pa g1 0, pa g2 0]] w fun e w' => e = .returned (vi r) ∧ Sep w0 B w' (blk g1 75 (ca A2 n2 c2 v_Turn1 v_Castle1 v_EnPassant1 v_Half1 v_Full1) :: own 3 (.slice A2 n2 c2) (vI v_Places1) :: blk g2 3 #[vi v1] :: fs) := by
 obtain ⟨i3, hi3, hz3, hs3, hb3⟩ := info_parts Info3
 obtain ⟨i88, hi88, hz88, hs88, hb88⟩ := info_parts Info88
 obtain rfl := (hS.at_ 1 rfl).len1
 obtain rfl := _hn_s1
 unfold api_Move_4_m at hm
 replace hm := start_b hm
 refine enter (l := [.slice A1 s1.length c1, .func (.func 210) #[] #[pa g1 0, pa g2 0]]) (n := 19) Try.func246 rfl rfl (by simp) (fun a hF => ?_)
 refine rg [] [] [0, 1] [pl 0 (.slice A1 s1.length c1), pl 1 (.func (.func 210) #[] #[pa g1 0, pa g2 0])] hF hS obs_nil (fun a w hF hS => ?_)
 refine seq_cut (fun a w => Fr 19 [] a ∧ Sep w0 B w (blk g1 75 (ca A2 v_Places1.length c2 v_Turn1 v_Castle1 v_EnPassant1 v_Half1 v_Full1) :: own 3 (.slice A2 v_Places1.length c2) (vI v_Places1) :: blk g2 3 #[vi v1] :: fs) ∧ (api_Move_4_J1).bind some = some r) ?_ ?_
 ·rintro a w ⟨hF, hS, hm⟩
  unfold api_Move_4_J1 at hm
  refine rg [] [] [4] [pl 4 (vi (-1))] hF hS obs_nil (fun a w hF hS => ?_)
  refine wpIn_ret ?_
  have hm : some (-1) = some r := hm
  obtain rfl := Option.some.inj hm
  exact retV (rs := [.tmp 4]) (vs := [vi (-1)]) hF rfl rv1 rfl ⟨rfl, hS⟩
 ·refine rg [] [] [0, 1, 7, 8] [pl 0 (.slice A1 s1.length c1), pl 1 (.func (.func 210) #[] #[pa g1 0, pa g2 0]), pl 7 (vi (s1.length : Int)), pl 8 (vi 0)] hF hS obs_nil (fun a w hF hS => ?_)
  refine wpIn_block ?_
  refine wp_loop_model (S := Int) (R := (Fl Unit Int)) (api_Move_4_L1 rec_problems_forced s1 v_Places1 v_Turn1 v_Castle1 v_EnPassant1 v_Half1 v_Full1 v1) (fun x => (api_Move_4_K1 x).bind some) r (fun (x : Int) a w => Fr 19 [pl 0 (.slice A1 s1.length c1), pl 1 (.func (.func 210) #[] #[pa g1 0, pa g2 0]), pl 7 (vi (s1.length : Int)), pl 8 (vi x)] a ∧ Sep w0 B w (blk g1 75 (ca A2 v_Places1.length c2 v_Turn1 v_Castle1 v_EnPassant1 v_Half1 v_Full1) :: own 3 (.slice A2 v_Places1.length c2) (vI v_Places1) :: blk g2 3 #[vi v1] :: fs)) (assoc_b hm) ⟨hF.wk [0, 1, 7, 8], hS⟩ ?_
  clear hF hS hm
  rintro nn1 z1 a w ⟨hF, hS⟩ hm
  generalize hφ1 : stK (api_Move_4_L1 rec_problems_forced s1 v_Places1 v_Turn1 v_Castle1 v_EnPassant1 v_Half1 v_Full1 v1) nn1 (fun x => (api_Move_4_K1 x).bind some) = φ1 at hm
  unfold api_Move_4_L1 at hm
  dsimp only at hm
  refine rg [] [] [0, 1, 7, 8, 9] [pl 0 (.slice A1 s1.length c1), pl 1 (.func (.func 210) #[] #[pa g1 0, pa g2 0]), pl 7 (vi (s1.length : Int)), pl 8 (vi z1), pl 9 (.bool (decide (z1 < (s1.length : Int))))] hF hS obs_nil (fun a w hF hS => ?_)
  refine seq_cut (fun a w => Fr 19 [pl 0 (.slice A1 s1.length c1), pl 1 (.func (.func 210) #[] #[pa g1 0, pa g2 0]), pl 7 (vi (s1.length : Int)), pl 8 (vi z1)] a ∧ Sep w0 B w (blk g1 75 (ca A2 v_Places1.length c2 v_Turn1 v_Castle1 v_EnPassant1 v_Half1 v_Full1) :: own 3 (.slice A2 v_Places1.length c2) (vI v_Places1) :: blk g2 3 #[vi v1] :: fs) ∧ ((api_Move_4_J2 rec_problems_forced s1 v_Places1 v_Turn1 v_Castle1 v_EnPassant1 v_Half1 v_Full1 v1 z1)).bind φ1 = some r) ?_ ?_
  ·rintro a w ⟨hF, hS, hm⟩
   unfold api_Move_4_J2 at hm
   refine seq_cut (fun a w => Fr 19 [pl 0 (.slice A1 s1.length c1), pl 1 (.func (.func 210) #[] #[pa g1 0, pa g2 0]), pl 7 (vi (s1.length : Int)), pl 8 (vi z1)] a ∧ Sep w0 B w (blk g1 75 (ca A2 v_Places1.length c2 v_Turn1 v_Castle1 v_EnPassant1 v_Half1 v_Full1) :: own 3 (.slice A2 v_Places1.length c2) (vI v_Places1) :: blk g2 3 #[vi v1] :: fs) ∧ ((api_Move_4_J3 z1)).bind φ1 = some r) ?_ ?_
   ·rintro a w ⟨hF, hS, hm⟩
    unfold api_Move_4_J3 at hm
    refine rg1 [] [] [0, 1, 7, 8] [pl 0 (.slice A1 s1.length c1), pl 1 (.func (.func 210) #[] #[pa g1 0, pa g2 0]), pl 7 (vi (s1.length : Int)), pl 8 (vi (w64 (z1 + 1)))] hF hS obs_nil (fun a w hF hS => ?_)
    refine then_n ?_
    rw [← hφ1] at hm
    exact ⟨(w64 (z1 + 1)), ⟨hF.wk [0, 1, 7, 8], hS⟩, hm⟩
   ·refine wpIn_block ?_
    refine rg [] [] [0, 1, 5, 7, 8] [pl 0 (.slice A1 s1.length c1), pl 1 (.func (.func 210) #[] #[pa g1 0, pa g2 0]), pl 5 (vi z1), pl 7 (vi (s1.length : Int)), pl 8 (vi z1)] hF hS obs_nil (fun a w hF hS => ?_)
    obtain ⟨hp1, hm⟩ := asrt_b hm
    obtain ⟨r1, hr1, hm⟩ := call_b hm
    refine rg [⟨true, [], vS (Instr.indexAt 81 (.slice A1 s1.length c1) (vi z1)), .pointer (some (sAddrK A1 3 z1))⟩, ⟨false, [], vS (Instr.loadAt 88 (.pointer (some (sAddrK A1 3 z1)))), .agg #[vi ((getd ((0, 0, 0) : MvT) s1 z1).1), vi ((getd ((0, 0, 0) : MvT) s1 z1).2.1), vi ((getd ((0, 0, 0) : MvT) s1 z1).2.2)]⟩, ⟨false, [], callFunc 210 #[.agg #[vi ((getd ((0, 0, 0) : MvT) s1 z1).1), vi ((getd ((0, 0, 0) : MvT) s1 z1).2.1), vi ((getd ((0, 0, 0) : MvT) s1 z1).2.2)], pa g1 0, pa g2 0], .bool r1⟩] [none, none, none, some (.pointer (some (sAddrK A1 3 z1))), some (.agg #[vi ((getd ((0, 0, 0) : MvT) s1 z1).1), vi ((getd ((0, 0, 0) : MvT) s1 z1).2.1), vi ((getd ((0, 0, 0) : MvT) s1 z1).2.2)]), some (.bool r1)] [0, 1, 5, 7, 8, 16] [pl 0 (.slice A1 s1.length c1), pl 1 (.func (.func 210) #[] #[pa g1 0, pa g2 0]), pl 5 (vi z1), pl 7 (vi (s1.length : Int)), pl 8 (vi z1), pl 16 (.bool r1)] hF hS ?_ (fun a w hF hS => ?_)
    ·exact obs_cons (ob_ixK (m := s1) encK88 Und81 hi88 hs88 (hr_s1 _ (hS.dropN 3)) rfl (fun _ => hp1)) <| obs_cons (ob_getK (n := s1.length) (m := s1) encK88 ((0, 0, 0) : MvT) (by kernel_rfl) (by kernel_rfl) (fun _ hS => ⟨_, (hr_s1 _ (hS.dropN 3))⟩) (fun _ hS => rfl) (fun _ => hp1)) <| obs_cons (ob_call Try.func210 (by kernel_rfl) rfl (fun _ _ hS => problems_forced_1_w ih_problems_forced hr1 hS )) <| obs_nil
    refine ce (t := 16) (b := r1) hF (fun hb => ?_) (fun hb => ?_)
    ·replace hm := if_t hm hb
     refine rg [] [] [4] [pl 4 (vi z1)] hF hS obs_nil (fun a w hF hS => ?_)
     refine wpIn_ret ?_
     refine block_r (then_r (then_r (block_r (then_r ?_))))
     rw [← hφ1] at hm
     replace hm := done_b hm
     unfold api_Move_4_K1 at hm
     try dsimp only at hm
     have hm : some z1 = some r := hm
     obtain rfl := Option.some.inj hm
     exact retV (rs := [.tmp 4]) (vs := [vi z1]) hF rfl rv1 rfl ⟨rfl, hS⟩
    ·replace hm := if_f hm hb
     refine wpIn_skip ?_
     refine block_n ?_
     refine then_n ?_
     exact ⟨hF.wk [0, 1, 7, 8], hS, hm⟩
  ·refine ce (t := 9) (b := decide (z1 < (s1.length : Int))) hF (fun hb => ?_) (fun hb => ?_)
   ·replace hm := if_t hm hb
    refine wpIn_skip ?_
    refine then_n ?_
    exact ⟨hF.wk [0, 1, 7, 8], hS, hm⟩
   ·replace hm := if_f hm hb
    refine wpIn_exit ?_
    refine then_e (then_e (block_e (then_n ?_)))
    rw [← hφ1] at hm
    replace hm := done_b hm
    unfold api_Move_4_K1 at hm
    try dsimp only at hm
    have hm : (api_Move_4_J1).bind some = some r := hm
    exact ⟨hF.wk [], hS, hm⟩

set_option maxRecDepth 100000 in
theorem api_Move_4_J2_le_problems_forced {rec_problems_forced1 rec_problems_forced2 : List Int → Int → Int → Int → Int → Int → Int → Int → Int → Int → Option Bool} (h_rec_problems_forced : ∀ a0 a1 a2 a3 a4 a5 a6 a7 a8 a9, Le (rec_problems_forced1 a0 a1 a2 a3 a4 a5 a6 a7 a8 a9) (rec_problems_forced2 a0 a1 a2 a3 a4 a5 a6 a7 a8 a9)) (s1 : List MvT) (v_Places1 : List Int) (v_Turn1 v_Castle1 : Int) (v_EnPassant1 v_Half1 : Int) (v_Full1 v1 z1 : Int) : Le (api_Move_4_J2 rec_problems_forced1 s1 v_Places1 v_Turn1 v_Castle1 v_EnPassant1 v_Half1 v_Full1 v1 z1) (api_Move_4_J2 rec_problems_forced2 s1 v_Places1 v_Turn1 v_Castle1 v_EnPassant1 v_Half1 v_Full1 v1 z1) := by
 unfold api_Move_4_J2
 repeat' (first | with_reducible exact Le.refl _ | with_reducible exact h_rec_problems_forced _ _ _ _ _ _ _ _ _ _ | with_reducible exact problems_forced_1_m_le_problems_forced h_rec_problems_forced _ _ _ _ _ _ _ _ _ _ | with_reducible refine Le.asrt ?_ | with_reducible refine Le.ite ?_ ?_ | refine Le.bind ?_ (fun _ => ?_) | refine Le.loop2 (fun _ => ?_) | refine Le.elim2 (fun _ => ?_) (fun _ => ?_))

set_option maxRecDepth 100000 in
theorem api_Move_4_L1_le_problems_forced {rec_problems_forced1 rec_problems_forced2 : List Int → Int → Int → Int → Int → Int → Int → Int → Int → Int → Option Bool} (h_rec_problems_forced : ∀ a0 a1 a2 a3 a4 a5 a6 a7 a8 a9, Le (rec_problems_forced1 a0 a1 a2 a3 a4 a5 a6 a7 a8 a9) (rec_problems_forced2 a0 a1 a2 a3 a4 a5 a6 a7 a8 a9)) (s1 : List MvT) (v_Places1 : List Int) (v_Turn1 v_Castle1 : Int) (v_EnPassant1 v_Half1 : Int) (v_Full1 v1 x : Int) : Le (api_Move_4_L1 rec_problems_forced1 s1 v_Places1 v_Turn1 v_Castle1 v_EnPassant1 v_Half1 v_Full1 v1 x) (api_Move_4_L1 rec_problems_forced2 s1 v_Places1 v_Turn1 v_Castle1 v_EnPassant1 v_Half1 v_Full1 v1 x) := by
 rcases x with z1
 all_goals
  unfold api_Move_4_L1
  try dsimp only
  repeat' (first | with_reducible exact Le.refl _ | with_reducible exact h_rec_problems_forced _ _ _ _ _ _ _ _ _ _ | with_reducible exact api_Move_4_J2_le_problems_forced h_rec_problems_forced _ _ _ _ _ _ _ _ _ | with_reducible refine Le.asrt ?_ | with_reducible refine Le.ite ?_ ?_ | refine Le.bind ?_ (fun _ => ?_) | refine Le.loop2 (fun _ => ?_) | refine Le.elim2 (fun _ => ?_) (fun _ => ?_))

set_option maxRecDepth 100000 in
theorem api_Move_4_m_le_problems_forced {rec_problems_forced1 rec_problems_forced2 : List Int → Int → Int → Int → Int → Int → Int → Int → Int → Int → Option Bool} (h_rec_problems_forced : ∀ a0 a1 a2 a3 a4 a5 a6 a7 a8 a9, Le (rec_problems_forced1 a0 a1 a2 a3 a4 a5 a6 a7 a8 a9) (rec_problems_forced2 a0 a1 a2 a3 a4 a5 a6 a7 a8 a9)) (s1 : List MvT) (v_Places1 : List Int) (v_Turn1 v_Castle1 : Int) (v_EnPassant1 v_Half1 : Int) (v_Full1 v1 : Int) : Le (api_Move_4_m rec_problems_forced1 s1 v_Places1 v_Turn1 v_Castle1 v_EnPassant1 v_Half1 v_Full1 v1) (api_Move_4_m rec_problems_forced2 s1 v_Places1 v_Turn1 v_Castle1 v_EnPassant1 v_Half1 v_Full1 v1) := by
 unfold api_Move_4_m
 repeat' (first | with_reducible exact Le.refl _ | with_reducible exact h_rec_problems_forced _ _ _ _ _ _ _ _ _ _ | with_reducible exact api_Move_4_L1_le_problems_forced h_rec_problems_forced _ _ _ _ _ _ _ _ _ | with_reducible refine Le.asrt ?_ | with_reducible refine Le.ite ?_ ?_ | refine Le.bind ?_ (fun _ => ?_) | refine Le.loop2 (fun _ => ?_) | refine Le.elim2 (fun _ => ?_) (fun _ => ?_))

def api_Move_3_m  (rec_problems_forced : List Int → Int → Int → Int → Int → Int → Int → Int → Int → Int → Option Bool) (s1 : List MvT) (v_Places1 : List Int) (v_Turn1 v_Castle1 : Int) (v_EnPassant1 v_Half1 : Int) (v_Full1 v1 : Int) : Option Bool :=
 ((api_Move_4_m rec_problems_forced) s1 v_Places1 v_Turn1 v_Castle1 v_EnPassant1 v_Half1 v_Full1 v1).bind fun r1 => some (decide ((0 : Int) ≤ r1))

theorem api_Move_3_w {rec_problems_forced : List Int → Int → Int → Int → Int → Int → Int → Int → Int → Int → Option Bool} (ih_problems_forced : ∀ {A1 : Option Addr} {c1 n1 : Nat} {p1 : List Int} {p2 p3 : Int} {p4 p5 : Int} {p6 m1 : Int} {m2 m3 left1 : Int} {r : Bool} {w0 w : World} {B : Nat} {fs : List HP} (_ : rec_problems_forced p1 p2 p3 p4 p5 p6 m1 m2 m3 left1 = some r) (_ : Sep w0 B w (fs)) (hr_p1 : RdF w0 B fs A1 (vI p1)) (_hc_p1 : p1.length ≤ c1) (_hn_p1 : n1 = p1.length), Calls Try.prog 143 #[.agg (ca A1 n1 c1 p2 p3 p4 p5 p6), .agg #[vi m1, vi m2, vi m3], vi left1] w fun e w' => e = .returned (.bool r) ∧ Sep w0 B w' (fs)) {A1 : Option Addr} {c1 n1 : Nat} {s1 : List MvT} {g1 : Nat} {A2 : Option Addr} {c2 n2 : Nat} {v_Places1 : List Int} {v_Turn1 v_Castle1 : Int} {v_EnPassant1 v_Half1 v_Full1 : Int} {g2 : Nat} {v1 : Int} {r : Bool} {w0 w : World} {B : Nat} {fs : List HP} (hm : api_Move_3_m rec_problems_forced s1 v_Places1 v_Turn1 v_Castle1 v_EnPassant1 v_Half1 v_Full1 v1 = some r) (hS : Sep w0 B w (blk g1 75 (ca A2 n2 c2 v_Turn1 v_Castle1 v_EnPassant1 v_Half1 v_Full1) :: own 3 (.slice A2 n2 c2) (vI v_Places1) :: blk g2 3 #[vi v1] :: fs)) (hr_s1 : RdF w0 B fs A1 ((List.flatMap enc88 s1))) (_hc_s1 : s1.length ≤ c1) (_hn_s1 : n1 = s1.length) :
  Calls Try.prog 209 #[.slice A1 n1 c1, .func (.func 210) #[] #[pa g1 0, pa g2 0]] w fun e w' => e = .returned (.bool r) ∧ Sep w0 B w' (blk g1 75 (ca A2 n2 c2 v_Turn1 v_Castle1 v_EnPassant1 v_Half1 v_Full1) :: own 3 (.slice A2 n2 c2) (vI v_Places1) :: blk g2 3 #[vi v1] :: fs) := by
 obtain ⟨i3, hi3, hz3, hs3, hb3⟩ := info_parts Info3
 obtain ⟨i88, hi88, hz88, hs88, hb88⟩ := info_parts Info88
 obtain rfl := (hS.at_ 1 rfl).len1
 obtain rfl := _hn_s1
 unfold api_Move_3_m at hm
 replace hm := start_b hm
 refine enter (l := [.slice A1 s1.length c1, .func (.func 210) #[] #[pa g1 0, pa g2 0]]) (n := 9) Try.func209 rfl rfl (by simp) (fun a hF => ?_)
 refine rg [] [] [0, 1] [pl 0 (.slice A1 s1.length c1), pl 1 (.func (.func 210) #[] #[pa g1 0, pa g2 0])] hF hS obs_nil (fun a w hF hS => ?_)
 obtain ⟨r1, hr1, hm⟩ := call_b hm
 refine rg [⟨false, [], callFunc 246 #[.slice A1 s1.length c1, .func (.func 210) #[] #[pa g1 0, pa g2 0]], vi r1⟩] [none, none, some (vi r1), none, none] [4] [pl 4 (.bool (decide ((0 : Int) ≤ r1)))] hF hS ?_ (fun a w hF hS => ?_)
 ·exact obs_cons (ob_call Try.func246 (by kernel_rfl) rfl (fun _ _ hS => api_Move_4_w ih_problems_forced hr1 hS (fun _ hS => (hr_s1 _ (hS.dropN 0))) _hc_s1 rfl)) <| obs_nil
 refine wpIn_ret ?_
 have hm : some (decide ((0 : Int) ≤ r1)) = some r := hm
 obtain rfl := Option.some.inj hm
 exact retV (rs := [.tmp 4]) (vs := [.bool (decide ((0 : Int) ≤ r1))]) hF rfl rv1 rfl ⟨rfl, hS⟩

set_option maxRecDepth 100000 in
theorem api_Move_3_m_le_problems_forced {rec_problems_forced1 rec_problems_forced2 : List Int → Int → Int → Int → Int → Int → Int → Int → Int → Int → Option Bool} (h_rec_problems_forced : ∀ a0 a1 a2 a3 a4 a5 a6 a7 a8 a9, Le (rec_problems_forced1 a0 a1 a2 a3 a4 a5 a6 a7 a8 a9) (rec_problems_forced2 a0 a1 a2 a3 a4 a5 a6 a7 a8 a9)) (s1 : List MvT) (v_Places1 : List Int) (v_Turn1 v_Castle1 : Int) (v_EnPassant1 v_Half1 : Int) (v_Full1 v1 : Int) : Le (api_Move_3_m rec_problems_forced1 s1 v_Places1 v_Turn1 v_Castle1 v_EnPassant1 v_Half1 v_Full1 v1) (api_Move_3_m rec_problems_forced2 s1 v_Places1 v_Turn1 v_Castle1 v_EnPassant1 v_Half1 v_Full1 v1) := by
 unfold api_Move_3_m
 repeat' (first | with_reducible exact Le.refl _ | with_reducible exact h_rec_problems_forced _ _ _ _ _ _ _ _ _ _ | with_reducible exact api_Move_4_m_le_problems_forced h_rec_problems_forced _ _ _ _ _ _ _ _ | with_reducible refine Le.asrt ?_ | with_reducible refine Le.ite ?_ ?_ | refine Le.bind ?_ (fun _ => ?_) | refine Le.loop2 (fun _ => ?_) | refine Le.elim2 (fun _ => ?_) (fun _ => ?_))

def problems_forced_J1  (rec_problems_forced : List Int → Int → Int → Int → Int → Int → Int → Int → Int → Int → Option Bool) (left1 : Int) (r1 : ChT) (r2 : (List MvT)) : Option Bool :=
 ((if (decide ((1 : Int) < left1)) then (api_Move_3_m rec_problems_forced) r2 r1.1 r1.2.1 r1.2.2.1 r1.2.2.2.1 r1.2.2.2.2.1 r1.2.2.2.2.2 left1 else some false)).bind fun r4 => some ((decide ((1 : Int) < left1)) && (!r4))

def problems_forced_B (rec_problems_forced : List Int → Int → Int → Int → Int → Int → Int → Int → Int → Int → Option Bool) (p1 : List Int) (p2 p3 : Int) (p4 p5 : Int) (p6 m1 : Int) (m2 m3 left1 : Int) : Option Bool :=
 (board_After_m p1 p2 p3 p4 p5 p6 m1 m2 m3).bind fun r1 => (board_Moves_m r1.1 r1.2.1 r1.2.2.1 r1.2.2.2.1 r1.2.2.2.2.1 r1.2.2.2.2.2).bind fun r2 => if ((r2.length : Int) == 0) then ((board_Checked_m r1.1 r1.2.1).bind fun r3 => some r3) else ((problems_forced_J1 rec_problems_forced left1 r1 r2))

def problems_forced_mF : Nat → List Int → Int → Int → Int → Int → Int → Int → Int → Int → Int → Option Bool
 | 0 => fun _ _ _ _ _ _ _ _ _ _ => none
 | n + 1 => fun p1 p2 p3 p4 p5 p6 m1 m2 m3 left1 => problems_forced_B (problems_forced_mF n) p1 p2 p3 p4 p5 p6 m1 m2 m3 left1

def problems_forced_m (p1 : List Int) (p2 p3 : Int) (p4 p5 : Int) (p6 m1 : Int) (m2 m3 left1 : Int) : Option Bool :=
 recM fun n => problems_forced_mF n p1 p2 p3 p4 p5 p6 m1 m2 m3 left1

theorem problems_forced_wB {rec_problems_forced : List Int → Int → Int → Int → Int → Int → Int → Int → Int → Int → Option Bool} (ih_problems_forced : ∀ {A1 : Option Addr} {c1 n1 : Nat} {p1 : List Int} {p2 p3 : Int} {p4 p5 : Int} {p6 m1 : Int} {m2 m3 left1 : Int} {r : Bool} {w0 w : World} {B : Nat} {fs : List HP} (_ : rec_problems_forced p1 p2 p3 p4 p5 p6 m1 m2 m3 left1 = some r) (_ : Sep w0 B w (fs)) (hr_p1 : RdF w0 B fs A1 (vI p1)) (_hc_p1 : p1.length ≤ c1) (_hn_p1 : n1 = p1.length), Calls Try.prog 143 #[.agg (ca A1 n1 c1 p2 p3 p4 p5 p6), .agg #[vi m1, vi m2, vi m3], vi left1] w fun e w' => e = .returned (.bool r) ∧ Sep w0 B w' (fs)) {A1 : Option Addr} {c1 n1 : Nat} {p1 : List Int} {p2 p3 : Int} {p4 p5 : Int} {p6 m1 : Int} {m2 m3 left1 : Int} {r : Bool} {w0 w : World} {B : Nat} {fs : List HP} (hm : problems_forced_B rec_problems_forced p1 p2 p3 p4 p5 p6 m1 m2 m3 left1 = some r) (hS : Sep w0 B w (fs)) (hr_p1 : RdF w0 B fs A1 (vI p1)) (_hc_p1 : p1.length ≤ c1) (_hn_p1 : n1 = p1.length) :
  Calls Try.prog 143 #[.agg (ca A1 n1 c1 p2 p3 p4 p5 p6), .agg #[vi m1, vi m2, vi m3], vi left1] w fun e w' => e = .returned (.bool r) ∧ Sep w0 B w' (fs) := by
 obtain ⟨i3, hi3, hz3, hs3, hb3⟩ := info_parts Info3
 obtain rfl := _hn_p1
 unfold problems_forced_B at hm
 replace hm := start_b hm
 refine enter (l := [.agg (ca A1 p1.length c1 p2 p3 p4 p5 p6), .agg #[vi m1, vi m2, vi m3], vi left1]) (n := 30) Try.func143 rfl rfl (by simp) (fun a hF => ?_)
 refine seqR ?_
 refine at_do (d := 3) (s := vS (Instr.box 75 (.agg (ca A1 p1.length c1 p2 p3 p4 p5 p6)))) (v := pa w.heap.size 0) (w' := w.alloc (.cells (ca A1 p1.length c1 p2 p3 p4 p5 p6) 75)) hF (by kernel_rfl) (by kernel_rfl) (by kernel_rfl) (fun a hF => ?_)
 have hS : Sep w0 B (w.alloc (.cells (ca A1 p1.length c1 p2 p3 p4 p5 p6) 75)) (blk w.heap.size 75 (ca A1 p1.length c1 p2 p3 p4 p5 p6) :: (fs)) := hS.box 75 (ca A1 p1.length c1 p2 p3 p4 p5 p6)
 generalize w.heap.size = g1 at hF hS
 generalize w.alloc (.cells (ca A1 p1.length c1 p2 p3 p4 p5 p6) 75) = w at hS ⊢
 refine at_do (d := 4) (s := vS (Instr.box 88 (.agg #[vi m1, vi m2, vi m3]))) (v := pa w.heap.size 0) (w' := w.alloc (.cells #[vi m1, vi m2, vi m3] 88)) hF (by kernel_rfl) (by kernel_rfl) (by kernel_rfl) (fun a hF => ?_)
 have hS : Sep w0 B (w.alloc (.cells #[vi m1, vi m2, vi m3] 88)) (blk w.heap.size 88 #[vi m1, vi m2, vi m3] :: (blk g1 75 (ca A1 p1.length c1 p2 p3 p4 p5 p6) :: fs)) := hS.box 88 #[vi m1, vi m2, vi m3]
 generalize w.heap.size = g2 at hF hS
 generalize w.alloc (.cells #[vi m1, vi m2, vi m3] 88) = w at hS ⊢
 refine at_do (d := 5) (s := vS (Instr.box 3 (vi left1))) (v := pa w.heap.size 0) (w' := w.alloc (.cells #[vi left1] 3)) hF (by kernel_rfl) (by kernel_rfl) (by kernel_rfl) (fun a hF => ?_)
 have hS : Sep w0 B (w.alloc (.cells #[vi left1] 3)) (blk w.heap.size 3 #[vi left1] :: (blk g2 88 #[vi m1, vi m2, vi m3] :: blk g1 75 (ca A1 p1.length c1 p2 p3 p4 p5 p6) :: fs)) := hS.box 3 #[vi left1]
 generalize w.heap.size = g3 at hF hS
 generalize w.alloc (.cells #[vi left1] 3) = w at hS ⊢
 refine ar 1 [] [] [3, 4, 5] [pl 3 (pa g1 0), pl 4 (pa g2 0), pl 5 (pa g3 0)] hF hS obs_nil (fun a w hF hS => ?_)
 refine ae [3, 4, 5] [pl 3 (pa g1 0), pl 4 (pa g2 0), pl 5 (pa g3 0)] hF rfl (fun hF => ?_)
 refine then_n (seqR ?_)
 obtain ⟨r1, hr1, hm⟩ := call_b hm
 refine ar 2 [⟨false, [], vS (Instr.loadAt 75 (pa g1 0)), .agg (ca A1 p1.length c1 p2 p3 p4 p5 p6)⟩, ⟨false, [], vS (Instr.loadAt 88 (pa g2 0)), .agg #[vi m1, vi m2, vi m3]⟩] [some (.agg (ca A1 p1.length c1 p2 p3 p4 p5 p6)), some (.agg #[vi m1, vi m2, vi m3])] [5, 9, 10] [pl 5 (pa g3 0), pl 9 (.agg (ca A1 p1.length c1 p2 p3 p4 p5 p6)), pl 10 (.agg #[vi m1, vi m2, vi m3])] hF hS ?_ (fun a w hF hS => ?_)
 ·exact obs_cons (oA (cs := (ca A1 p1.length c1 p2 p3 p4 p5 p6)) (fun _ _ hS => (hS.at_ 2 rfl).cellsAt 0 (by rfl))) <| obs_cons (oA (cs := #[vi m1, vi m2, vi m3]) (fun _ _ hS => (hS.at_ 1 rfl).cellsAt 0 (by rfl))) <| obs_nil
 refine at_call (f := 135) (args := #[.agg (ca A1 p1.length c1 p2 p3 p4 p5 p6), .agg #[vi m1, vi m2, vi m3]]) (d := 11) hF (by kernel_rfl) (by kernel_rfl) Try.func135 (by kernel_rfl) rfl (board_After_w hr1 hS (fun _ hS => (hr_p1 _ (hS.dropN 3))) _hc_p1 rfl) (fun v a w hR hF => ?_)
 clear hS
 obtain ⟨A2, c2, rfl, hS⟩ := hR
 have hS : Sep w0 B w (own 3 (.slice A2 r1.1.length c2) (vI r1.1) :: blk g3 3 #[vi left1] :: blk g2 88 #[vi m1, vi m2, vi m3] :: blk g1 75 (ca A1 p1.length c1 p2 p3 p4 p5 p6) :: fs) := hS
 refine at_do (d := 7) (s := vS (Instr.alloc 75 true (.tuple #[]))) (v := pa w.heap.size 0) (w' := w.alloc (.cells (ca none 0 0 0 0 0 0 0) 75)) hF (by kernel_rfl) (by kernel_rfl) (by kernel_rfl) (fun a hF => ?_)
 have hS : Sep w0 B (w.alloc (.cells (ca none 0 0 0 0 0 0 0) 75)) (blk w.heap.size 75 (ca none 0 0 0 0 0 0 0) :: (own 3 (.slice A2 r1.1.length c2) (vI r1.1) :: blk g3 3 #[vi left1] :: blk g2 88 #[vi m1, vi m2, vi m3] :: blk g1 75 (ca A1 p1.length c1 p2 p3 p4 p5 p6) :: fs)) := hS.box 75 (ca none 0 0 0 0 0 0 0)
 generalize w.heap.size = g4 at hF hS
 generalize w.alloc (.cells (ca none 0 0 0 0 0 0 0) 75) = w at hS ⊢
 obtain ⟨w, hrun, hS⟩ := run_putA (P := Try.prog) (t := 75) (us := (ca A2 r1.1.length c2 r1.2.1 r1.2.2.1 r1.2.2.2.1 r1.2.2.2.2.1 r1.2.2.2.2.2)) (o := 0) (hS.at_ 0 rfl) (by kernel_rfl) (all_one (by kernel_rfl)) (Nat.le_of_ble_eq_true (by kernel_rfl))
 refine at_s hF hrun ?_
 have hS : Sep w0 B w (blk g4 75 (ca A2 r1.1.length c2 r1.2.1 r1.2.2.1 r1.2.2.2.1 r1.2.2.2.2.1 r1.2.2.2.2.2) :: own 3 (.slice A2 r1.1.length c2) (vI r1.1) :: blk g3 3 #[vi left1] :: blk g2 88 #[vi m1, vi m2, vi m3] :: blk g1 75 (ca A1 p1.length c1 p2 p3 p4 p5 p6) :: fs) := hS
 refine ae [5, 7] [pl 5 (pa g3 0), pl 7 (pa g4 0)] hF rfl (fun hF => ?_)
 refine then_n (seqR ?_)
 obtain ⟨r2, hr2, hm⟩ := call_b hm
 refine ar 1 [⟨false, [], vS (Instr.loadAt 75 (pa g4 0)), .agg (ca A2 r1.1.length c2 r1.2.1 r1.2.2.1 r1.2.2.2.1 r1.2.2.2.2.1 r1.2.2.2.2.2)⟩] [some (.agg (ca A2 r1.1.length c2 r1.2.1 r1.2.2.1 r1.2.2.2.1 r1.2.2.2.2.1 r1.2.2.2.2.2))] [5, 7, 12] [pl 5 (pa g3 0), pl 7 (pa g4 0), pl 12 (.agg (ca A2 r1.1.length c2 r1.2.1 r1.2.2.1 r1.2.2.2.1 r1.2.2.2.2.1 r1.2.2.2.2.2))] hF hS ?_ (fun a w hF hS => ?_)
 ·exact obs_cons (oA (cs := (ca A2 r1.1.length c2 r1.2.1 r1.2.2.1 r1.2.2.2.1 r1.2.2.2.2.1 r1.2.2.2.2.2)) (fun _ _ hS => (hS.at_ 0 rfl).cellsAt 0 (by rfl))) <| obs_nil
 refine at_call (f := 133) (args := #[.agg (ca A2 r1.1.length c2 r1.2.1 r1.2.2.1 r1.2.2.2.1 r1.2.2.2.2.1 r1.2.2.2.2.2)]) (d := 13) hF (by kernel_rfl) (by kernel_rfl) Try.func133 (by kernel_rfl) rfl (board_Moves_w hr2 hS (fun _ hS => (hS.at_ 1 rfl).rd) ((hS.at_ 1 rfl).cap1) rfl) (fun v a w hR hF => ?_)
 clear hS
 obtain ⟨A3, c3, rfl, hS⟩ := hR
 have hS : Sep w0 B w (ownK 88 3 A3 r2.length c3 (List.flatMap enc88 r2) :: blk g4 75 (ca A2 r1.1.length c2 r1.2.1 r1.2.2.1 r1.2.2.2.1 r1.2.2.2.2.1 r1.2.2.2.2.2) :: own 3 (.slice A2 r1.1.length c2) (vI r1.1) :: blk g3 3 #[vi left1] :: blk g2 88 #[vi m1, vi m2, vi m3] :: blk g1 75 (ca A1 p1.length c1 p2 p3 p4 p5 p6) :: fs) := hS
 refine ar 1 [] [] [5, 7, 8] [pl 5 (pa g3 0), pl 7 (pa g4 0), pl 8 (.slice A3 r2.length c3)] hF hS obs_nil (fun a w hF hS => ?_)
 refine ae [5, 7, 8] [pl 5 (pa g3 0), pl 7 (pa g4 0), pl 8 (.slice A3 r2.length c3)] hF rfl (fun hF => ?_)
 refine then_n ?_
 refine seq_cut (fun a w => Fr 30 [pl 5 (pa g3 0), pl 7 (pa g4 0), pl 8 (.slice A3 r2.length c3)] a ∧ Sep w0 B w (blk g3 3 #[vi left1] :: blk g4 75 (ca A2 r1.1.length c2 r1.2.1 r1.2.2.1 r1.2.2.2.1 r1.2.2.2.2.1 r1.2.2.2.2.2) :: own 3 (.slice A2 r1.1.length c2) (vI r1.1) :: ownK 88 3 A3 r2.length c3 (List.flatMap enc88 r2) :: fs) ∧ ((problems_forced_J1 rec_problems_forced left1 r1 r2)).bind some = some r) ?_ ?_
 ·rintro a w ⟨hF, hS, hm⟩
  unfold problems_forced_J1 at hm
  obtain ⟨r4, hr4, hm⟩ := call_b hm
  refine rg [⟨false, [], vS (Instr.loadAt 3 (pa g3 0)), vi left1⟩, ⟨false, [(decide ((1 : Int) < left1), true)], callFunc 209 #[.slice A3 r2.length c3, .func (.func 210) #[] #[pa g4 0, pa g3 0]], .bool r4⟩] [some (vi left1), none, none, none, none, some (.bool r4), none, none, none] [6] [pl 6 (.bool ((decide ((1 : Int) < left1)) && (!r4)))] hF hS ?_ (fun a w hF hS => ?_)
  ·exact obs_cons (ob_load Agg3 (fun _ _ hS => (hS.at_ 0 rfl).cell rfl)) <| obs_cons (ob_call Try.func209 (by kernel_rfl) rfl (fun hy _ hS => quiet_pick hS 4 [1, 2, 0, 3] (by decide) [2, 0, 1, 3] (by decide) (qs := (blk g4 75 (ca A2 r1.1.length c2 r1.2.1 r1.2.2.1 r1.2.2.2.1 r1.2.2.2.2.1 r1.2.2.2.2.2) :: own 3 (.slice A2 r1.1.length c2) (vI r1.1) :: blk g3 3 #[vi left1] :: ownK 88 3 A3 r2.length c3 (List.flatMap enc88 r2) :: fs)) rfl (fun hS => api_Move_3_w ih_problems_forced (ite_some hr4 (by rw [show (decide ((1 : Int) < left1)) = true from hy (decide ((1 : Int) < left1), true) (by simp)]; try rfl)) hS (fun _ hS => (hS.at_ 0 rfl).rdK) (((hS.dropN 3).at_ 0 rfl).capK encK88) rfl) 4 rfl)) <| obs_nil
  refine wpIn_ret ?_
  have hS := hS.pickN 4 [] (by decide)
  have hm : some ((decide ((1 : Int) < left1)) && (!r4)) = some r := hm
  obtain rfl := Option.some.inj hm
  exact retV (rs := [.tmp 6]) (vs := [.bool ((decide ((1 : Int) < left1)) && (!r4))]) hF rfl rv1 rfl ⟨rfl, hS⟩
 ·refine rg [] [] [5, 7, 8, 16] [pl 5 (pa g3 0), pl 7 (pa g4 0), pl 8 (.slice A3 r2.length c3), pl 16 (.bool ((r2.length : Int) == 0))] hF hS obs_nil (fun a w hF hS => ?_)
  refine ce (t := 16) (b := ((r2.length : Int) == 0)) hF (fun hb => ?_) (fun hb => ?_)
  ·replace hm := if_t hm hb
   obtain ⟨r3, hr3, hm⟩ := call_b hm
   refine rg [⟨false, [], vS (Instr.loadAt 27 (pa g4 0)), .slice A2 r1.1.length c2⟩, ⟨false, [], vS (Instr.loadAt 3 (pa g4 1)), vi r1.2.1⟩, ⟨false, [], callFunc 137 #[.slice A2 r1.1.length c2, vi r1.2.1], .bool r3⟩] [none, some (.slice A2 r1.1.length c2), none, some (vi r1.2.1), some (.bool r3), none] [6] [pl 6 (.bool r3)] hF hS ?_ (fun a w hF hS => ?_)
   ·exact obs_cons (ob_load Agg27 (fun _ _ hS => (hS.at_ 1 rfl).cell rfl)) <| obs_cons (ob_load Agg3 (fun _ _ hS => (hS.at_ 1 rfl).cell rfl)) <| obs_cons (ob_call Try.func137 (by kernel_rfl) rfl (fun _ _ hS => board_Checked_w hr3 hS (fun _ hS => (hS.at_ 2 rfl).rd) ((hS.at_ 2 rfl).cap1) rfl)) <| obs_nil
   refine wpIn_ret ?_
   refine then_r ?_
   have hS := hS.pickN 6 [] (by decide)
   have hm : some r3 = some r := hm
   obtain rfl := Option.some.inj hm
   exact retV (rs := [.tmp 6]) (vs := [.bool r3]) hF rfl rv1 rfl ⟨rfl, hS⟩
  ·replace hm := if_f hm hb
   refine wpIn_skip ?_
   refine then_n ?_
   have hS := hS.pickN 6 [3, 1, 2, 0] (by decide)
   exact ⟨hF.wk [5, 7, 8], hS, hm⟩

theorem problems_forced_w {A1 : Option Addr} {c1 n1 : Nat} {p1 : List Int} {p2 p3 : Int} {p4 p5 : Int} {p6 m1 : Int} {m2 m3 left1 : Int} {r : Bool} {w0 w : World} {B : Nat} {fs : List HP} (hm : problems_forced_m p1 p2 p3 p4 p5 p6 m1 m2 m3 left1 = some r) (hS : Sep w0 B w (fs)) (hr_p1 : RdF w0 B fs A1 (vI p1)) (_hc_p1 : p1.length ≤ c1) (_hn_p1 : n1 = p1.length) :
  Calls Try.prog 143 #[.agg (ca A1 n1 c1 p2 p3 p4 p5 p6), .agg #[vi m1, vi m2, vi m3], vi left1] w fun e w' => e = .returned (.bool r) ∧ Sep w0 B w' (fs) := by
 have key : ∀ (n : Nat) {A1 : Option Addr} {c1 n1 : Nat} {p1 : List Int} {p2 p3 : Int} {p4 p5 : Int} {p6 m1 : Int} {m2 m3 left1 : Int} {r : Bool} {w0 w : World} {B : Nat} {fs : List HP} (_ : problems_forced_mF n p1 p2 p3 p4 p5 p6 m1 m2 m3 left1 = some r) (_ : Sep w0 B w (fs)) (hr_p1 : RdF w0 B fs A1 (vI p1)) (_hc_p1 : p1.length ≤ c1) (_hn_p1 : n1 = p1.length), Calls Try.prog 143 #[.agg (ca A1 n1 c1 p2 p3 p4 p5 p6), .agg #[vi m1, vi m2, vi m3], vi left1] w fun e w' => e = .returned (.bool r) ∧ Sep w0 B w' (fs) := by
  intro n
  induction n with
  | zero => intros; rename_i hm0 _ _ _ _; cases hm0
  | succ n ih => intros; rename_i hm0 hS0 h0 h1 h2; exact problems_forced_wB (rec_problems_forced := problems_forced_mF n) (fun hm hS h0 h1 h2 => ih hm hS h0 h1 h2) hm0 hS0 h0 h1 h2
 obtain ⟨n, hn⟩ := recM_some hm
 exact key n hn hS hr_p1 _hc_p1 _hn_p1

set_option maxRecDepth 100000 in
theorem problems_forced_J1_le_problems_forced {rec_problems_forced1 rec_problems_forced2 : List Int → Int → Int → Int → Int → Int → Int → Int → Int → Int → Option Bool} (h_rec_problems_forced : ∀ a0 a1 a2 a3 a4 a5 a6 a7 a8 a9, Le (rec_problems_forced1 a0 a1 a2 a3 a4 a5 a6 a7 a8 a9) (rec_problems_forced2 a0 a1 a2 a3 a4 a5 a6 a7 a8 a9)) (left1 : Int) (r1 : ChT) (r2 : (List MvT)) : Le (problems_forced_J1 rec_problems_forced1 left1 r1 r2) (problems_forced_J1 rec_problems_forced2 left1 r1 r2) := by
 unfold problems_forced_J1
 repeat' (first | with_reducible exact Le.refl _ | with_reducible exact h_rec_problems_forced _ _ _ _ _ _ _ _ _ _ | with_reducible exact api_Move_3_m_le_problems_forced h_rec_problems_forced _ _ _ _ _ _ _ _ | with_reducible refine Le.asrt ?_ | with_reducible refine Le.ite ?_ ?_ | refine Le.bind ?_ (fun _ => ?_) | refine Le.loop2 (fun _ => ?_) | refine Le.elim2 (fun _ => ?_) (fun _ => ?_))

set_option maxRecDepth 100000 in
theorem problems_forced_B_le {rec_problems_forced1 rec_problems_forced2 : List Int → Int → Int → Int → Int → Int → Int → Int → Int → Int → Option Bool} (h_rec_problems_forced : ∀ a0 a1 a2 a3 a4 a5 a6 a7 a8 a9, Le (rec_problems_forced1 a0 a1 a2 a3 a4 a5 a6 a7 a8 a9) (rec_problems_forced2 a0 a1 a2 a3 a4 a5 a6 a7 a8 a9)) (p1 : List Int) (p2 p3 : Int) (p4 p5 : Int) (p6 m1 : Int) (m2 m3 left1 : Int) : Le (problems_forced_B rec_problems_forced1 p1 p2 p3 p4 p5 p6 m1 m2 m3 left1) (problems_forced_B rec_problems_forced2 p1 p2 p3 p4 p5 p6 m1 m2 m3 left1) := by
 unfold problems_forced_B
 repeat' (first | with_reducible exact Le.refl _ | with_reducible exact h_rec_problems_forced _ _ _ _ _ _ _ _ _ _ | with_reducible exact problems_forced_J1_le_problems_forced h_rec_problems_forced _ _ _ | with_reducible refine Le.asrt ?_ | with_reducible refine Le.ite ?_ ?_ | refine Le.bind ?_ (fun _ => ?_) | refine Le.loop2 (fun _ => ?_) | refine Le.elim2 (fun _ => ?_) (fun _ => ?_))

set_option maxRecDepth 100000 in
theorem problems_forced_mF_le : ∀ (n : Nat) (p1 : List Int) (p2 p3 : Int) (p4 p5 : Int) (p6 m1 : Int) (m2 m3 left1 : Int), Le (problems_forced_mF n p1 p2 p3 p4 p5 p6 m1 m2 m3 left1) (problems_forced_mF (n + 1) p1 p2 p3 p4 p5 p6 m1 m2 m3 left1)
 | 0, _, _, _, _, _, _, _, _, _, _ => fun _ h => by cases h
 | n + 1, _, _, _, _, _, _, _, _, _, _ => problems_forced_B_le (fun a0 a1 a2 a3 a4 a5 a6 a7 a8 a9 => problems_forced_mF_le n a0 a1 a2 a3 a4 a5 a6 a7 a8 a9) _ _ _ _ _ _ _ _ _ _

set_option maxRecDepth 100000 in
theorem problems_forced_m_of (N : Nat) (p1 : List Int) (p2 p3 : Int) (p4 p5 : Int) (p6 m1 : Int) (m2 m3 left1 : Int) {r : Bool} (h : problems_forced_mF N p1 p2 p3 p4 p5 p6 m1 m2 m3 left1 = some r) : problems_forced_m p1 p2 p3 p4 p5 p6 m1 m2 m3 left1 = some r :=
 recM_mono (fun n => problems_forced_mF_le n _ _ _ _ _ _ _ _ _ _) h

def problems_Mate_J7  (z1 : Int) (l3 : List MvT) : Option (St (List MvT × Int) (List MvT)) :=
 some (.next (l3, (w64 (z1 + 1))))

def problems_Mate_J6  (p1 : List Int) (p2 p3 : Int) (p4 p5 : Int) (p6 n2 : Int) (r2 : (List MvT)) (l1 : List MvT) (z1 : Int) : Option (St (List MvT × Int) (List MvT)) :=
 asrt (0 ≤ z1 ∧ z1 < (r2.length : Int)) <| (problems_forced_m p1 p2 p3 p4 p5 p6 ((getd ((0, 0, 0) : MvT) r2 z1).1) ((getd ((0, 0, 0) : MvT) r2 z1).2.1) ((getd ((0, 0, 0) : MvT) r2 z1).2.2) n2).bind fun r3 => if r3 then (asrt ((l1.length : Int) + 1 ≤ bigK) <| (problems_Mate_J7 z1) (l1 ++ ([(getd ((0, 0, 0) : MvT) r2 z1)] : List MvT))) else ((problems_Mate_J7 z1) l1)

def problems_Mate_J4  (n2 : Int) : Option (St Int (Fl Unit (Int × List MvT × Int))) :=
 some (.next (w64 (n2 + 1)))

def problems_Mate_J5  (n2 : Int) (l2 : List MvT) : Option (St Int (Fl Unit (Int × List MvT × Int))) :=
 if (decide ((0 : Int) < (l2.length : Int))) then (some (.done (.ret (n2, l2, 0)))) else ((problems_Mate_J4 n2))

def problems_Mate_K2  (n2 : Int) : (List MvT) → Option (St Int (Fl Unit (Int × List MvT × Int))) :=
 fun (x : (List MvT)) => match x with | l2 => (problems_Mate_J5 n2) l2

def problems_Mate_L2  (p1 : List Int) (p2 p3 : Int) (p4 p5 : Int) (p6 n2 : Int) (r2 : (List MvT)) : (List MvT × Int) → Option (St (List MvT × Int) (List MvT)) :=
 fun (x : (List MvT × Int)) => match x with | (l1, z1) => if (decide (z1 < (r2.length : Int))) then ((problems_Mate_J6 p1 p2 p3 p4 p5 p6 n2 r2 l1 z1)) else (some (.done l1))

def problems_Mate_J3  (p1 : List Int) (p2 p3 : Int) (p4 p5 : Int) (p6 n2 : Int) : Option (St Int (Fl Unit (Int × List MvT × Int))) :=
 (board_Moves_m p1 p2 p3 p4 p5 p6).bind fun r2 => (loop (problems_Mate_L2 p1 p2 p3 p4 p5 p6 n2 r2) (([] : List MvT), 0)).bind (problems_Mate_K2 n2)

def problems_Mate_J2  : Option (Int × List MvT × Int) :=
 some (0, ([] : List MvT), 0)

def problems_Mate_K1  : (Fl Unit (Int × List MvT × Int)) → Option (Int × List MvT × Int) :=
 fun (x : (Fl Unit (Int × List MvT × Int))) => match x with | .go _ => problems_Mate_J2 | .ret x => some x

def problems_Mate_L1  (p1 : List Int) (p2 p3 : Int) (p4 p5 : Int) (p6 most1 : Int) : Int → Option (St Int (Fl Unit (Int × List MvT × Int))) :=
 fun (x : Int) => match x with | n2 => if (decide (n2 ≤ most1)) then ((problems_Mate_J3 p1 p2 p3 p4 p5 p6 n2)) else (some (.done (.go ())))

def problems_Mate_J1  (p1 : List Int) (p2 p3 : Int) (p4 p5 : Int) (p6 most1 : Int) : Option (Int × List MvT × Int) :=
 (loop (problems_Mate_L1 p1 p2 p3 p4 p5 p6 most1) 1).bind problems_Mate_K1

def problems_Mate_m  (p1 : List Int) (p2 p3 : Int) (p4 p5 : Int) (p6 most1 : Int) : Option (Int × List MvT × Int) :=
 (board_May_m p1 p2 p3 p4 p5 p6).bind fun r1 => if (!r1) then (some (0, ([] : List MvT), 12)) else (if ((decide (most1 < 1)) || (decide ((2 : Int) < most1))) then (some (0, ([] : List MvT), 3)) else ((problems_Mate_J1 p1 p2 p3 p4 p5 p6 most1)))

theorem problems_Mate_w {A1 : Option Addr} {c1 n1 : Nat} {p1 : List Int} {p2 p3 : Int} {p4 p5 : Int} {p6 most1 : Int} {r : (Int × List MvT × Int)} {w0 w : World} {B : Nat} {fs : List HP} (hm : problems_Mate_m p1 p2 p3 p4 p5 p6 most1 = some r) (hS : Sep w0 B w (fs)) (hr_p1 : RdF w0 B fs A1 (vI p1)) (_hc_p1 : p1.length ≤ c1) (_hn_p1 : n1 = p1.length) :
  Calls Try.prog 63 #[.agg (ca A1 n1 c1 p2 p3 p4 p5 p6), vi most1] w fun e w' => ∃ v, e = .returned v ∧ ∃ (A7 : Option Addr) (c7 : Nat), v = .tuple #[vi r.1, .slice A7 r.2.1.length c7, vi r.2.2] ∧ Sep w0 B w' (ownK 88 3 A7 r.2.1.length c7 (List.flatMap enc88 r.2.1) :: fs) := by
 obtain ⟨i3, hi3, hz3, hs3, hb3⟩ := info_parts Info3
 obtain ⟨i88, hi88, hz88, hs88, hb88⟩ := info_parts Info88
 obtain rfl := _hn_p1
 unfold problems_Mate_m at hm
 replace hm := start_b hm
 refine enter (l := [.agg (ca A1 p1.length c1 p2 p3 p4 p5 p6), vi most1]) (n := 48) Try.func63 rfl rfl (by simp) (fun a hF => ?_)
 refine seqR ?_
 refine at_do (d := 2) (s := vS (Instr.box 75 (.agg (ca A1 p1.length c1 p2 p3 p4 p5 p6)))) (v := pa w.heap.size 0) (w' := w.alloc (.cells (ca A1 p1.length c1 p2 p3 p4 p5 p6) 75)) hF (by kernel_rfl) (by kernel_rfl) (by kernel_rfl) (fun a hF => ?_)
 have hS : Sep w0 B (w.alloc (.cells (ca A1 p1.length c1 p2 p3 p4 p5 p6) 75)) (blk w.heap.size 75 (ca A1 p1.length c1 p2 p3 p4 p5 p6) :: (fs)) := hS.box 75 (ca A1 p1.length c1 p2 p3 p4 p5 p6)
 generalize w.heap.size = g1 at hF hS
 generalize w.alloc (.cells (ca A1 p1.length c1 p2 p3 p4 p5 p6) 75) = w at hS ⊢
 refine ar 3 [] [] [1, 2] [pl 1 (vi most1), pl 2 (pa g1 0)] hF hS obs_nil (fun a w hF hS => ?_)
 refine ae [1, 2] [pl 1 (vi most1), pl 2 (pa g1 0)] hF rfl (fun hF => ?_)
 refine then_n ?_
 refine seq_cut (fun a w => Fr 48 [pl 1 (vi most1), pl 2 (pa g1 0)] a ∧ Sep w0 B w (blk g1 75 (ca A1 p1.length c1 p2 p3 p4 p5 p6) :: fs) ∧ ((problems_Mate_J1 p1 p2 p3 p4 p5 p6 most1)).bind some = some r) ?_ ?_
 ·rintro a w ⟨hF, hS, hm⟩
  unfold problems_Mate_J1 at hm
  refine seq_cut (fun a w => Fr 48 [] a ∧ Sep w0 B w (fs) ∧ (problems_Mate_J2).bind some = some r) ?_ ?_
  ·rintro a w ⟨hF, hS, hm⟩
   unfold problems_Mate_J2 at hm
   refine rg [] [] [4, 5, 6] [pl 4 (vi 0), pl 5 (.slice none 0 0), pl 6 (vi 0)] hF hS obs_nil (fun a w hF hS => ?_)
   refine wpIn_ret ?_
   have hS : Sep w0 B w (ownK 88 3 none 0 0 (List.flatMap enc88 ([] : List MvT)) :: fs) := hS.nilK 88 3 enc88
   have hl4 := (hS.at_ 0 rfl).lenK encK88
   have hS := (hS.at_ 0 rfl).reNK hl4
   have hS : Sep w0 B w (ownK 88 3 none (([] : List MvT).length) 0 (List.flatMap enc88 ([] : List MvT)) :: fs) := hS
   have hm : some (0, ([] : List MvT), 0) = some r := hm
   obtain rfl := Option.some.inj hm
   exact retV (rs := [.tmp 4, .tmp 5, .tmp 6]) (vs := [vi 0, .slice none (([] : List MvT).length) 0, vi 0]) hF rfl (rv_t (by kernel_rfl) <| rv_t (by kernel_rfl) <| rv_t (by kernel_rfl) <| rv_nil) rfl ⟨_, rfl, none, 0, rfl, hS⟩
  ·refine rg [] [] [1, 2, 7] [pl 1 (vi most1), pl 2 (pa g1 0), pl 7 (vi 1)] hF hS obs_nil (fun a w hF hS => ?_)
   refine wpIn_block ?_
   refine wp_loop_model (S := Int) (R := (Fl Unit (Int × List MvT × Int))) (problems_Mate_L1 p1 p2 p3 p4 p5 p6 most1) (fun x => (problems_Mate_K1 x).bind some) r (fun (x : Int) a w => Fr 48 [pl 1 (vi most1), pl 2 (pa g1 0), pl 7 (vi x)] a ∧ Sep w0 B w (blk g1 75 (ca A1 p1.length c1 p2 p3 p4 p5 p6) :: fs)) (assoc_b hm) ⟨hF.wk [1, 2, 7], hS⟩ ?_
   clear hF hS hm
   rintro nn1 n2 a w ⟨hF, hS⟩ hm
   generalize hφ1 : stK (problems_Mate_L1 p1 p2 p3 p4 p5 p6 most1) nn1 (fun x => (problems_Mate_K1 x).bind some) = φ1 at hm
   unfold problems_Mate_L1 at hm
   dsimp only at hm
   refine seq_cut (fun a w => Fr 48 [pl 1 (vi most1), pl 2 (pa g1 0), pl 7 (vi n2)] a ∧ Sep w0 B w (blk g1 75 (ca A1 p1.length c1 p2 p3 p4 p5 p6) :: fs) ∧ ((problems_Mate_J3 p1 p2 p3 p4 p5 p6 n2)).bind φ1 = some r) ?_ ?_
   ·rintro a w ⟨hF, hS, hm⟩
    unfold problems_Mate_J3 at hm
    refine seq_cut (fun a w => Fr 48 [pl 1 (vi most1), pl 2 (pa g1 0), pl 7 (vi n2)] a ∧ Sep w0 B w (blk g1 75 (ca A1 p1.length c1 p2 p3 p4 p5 p6) :: fs) ∧ ((problems_Mate_J4 n2)).bind φ1 = some r) ?_ ?_
    ·rintro a w ⟨hF, hS, hm⟩
     unfold problems_Mate_J4 at hm
     refine rg1 [] [] [1, 2, 7] [pl 1 (vi most1), pl 2 (pa g1 0), pl 7 (vi (w64 (n2 + 1)))] hF hS obs_nil (fun a w hF hS => ?_)
     refine then_n ?_
     rw [← hφ1] at hm
     exact ⟨(w64 (n2 + 1)), ⟨hF.wk [1, 2, 7], hS⟩, hm⟩
    ·refine wpIn_block ?_
     refine rg [] [] [1, 2, 7, 8] [pl 1 (vi most1), pl 2 (pa g1 0), pl 7 (vi n2), pl 8 (.slice none 0 0)] hF hS obs_nil (fun a w hF hS => ?_)
     refine seq_cut (fun a w => ∃ (l2 : List MvT) (A4 : Option Addr) (c4 : Nat), Fr 48 [pl 1 (vi most1), pl 2 (pa g1 0), pl 7 (vi n2), pl 8 (.slice A4 l2.length c4)] a ∧ Sep w0 B w (blk g1 75 (ca A1 p1.length c1 p2 p3 p4 p5 p6) :: ownK 88 3 A4 l2.length c4 (List.flatMap enc88 l2) :: fs) ∧ ((problems_Mate_J5 n2) l2).bind φ1 = some r) ?_ ?_
     ·rintro a w ⟨l2, A4, c4, hF, hS, hm⟩
      unfold problems_Mate_J5 at hm
      refine rg [] [] [1, 2, 7, 8, 45] [pl 1 (vi most1), pl 2 (pa g1 0), pl 7 (vi n2), pl 8 (.slice A4 l2.length c4), pl 45 (.bool (decide ((0 : Int) < (l2.length : Int))))] hF hS obs_nil (fun a w hF hS => ?_)
      refine ce (t := 45) (b := decide ((0 : Int) < (l2.length : Int))) hF (fun hb => ?_) (fun hb => ?_)
      ·replace hm := if_t hm hb
       refine rg [] [] [4, 5, 6] [pl 4 (vi n2), pl 5 (.slice A4 l2.length c4), pl 6 (vi 0)] hF hS obs_nil (fun a w hF hS => ?_)
       refine wpIn_ret ?_
       refine block_r (then_r (then_r (block_r (then_r ?_))))
       rw [← hφ1] at hm
       replace hm := done_b hm
       unfold problems_Mate_K1 at hm
       try dsimp only at hm
       have hS := hS.pickN 2 [1] (by decide)
       have hm : some (n2, l2, 0) = some r := hm
       obtain rfl := Option.some.inj hm
       exact retV (rs := [.tmp 4, .tmp 5, .tmp 6]) (vs := [vi n2, .slice A4 l2.length c4, vi 0]) hF rfl (rv_t (by kernel_rfl) <| rv_t (by kernel_rfl) <| rv_t (by kernel_rfl) <| rv_nil) rfl ⟨_, rfl, A4, c4, rfl, hS⟩
      ·replace hm := if_f hm hb
       refine wpIn_skip ?_
       refine block_n ?_
       refine then_n ?_
       have hS := hS.pickN 2 [0] (by decide)
       exact ⟨hF.wk [1, 2, 7], hS, hm⟩
     ·refine seqR ?_
      obtain ⟨r2, hr2, hm⟩ := call_b hm
      refine ar 1 [⟨false, [], vS (Instr.loadAt 75 (pa g1 0)), .agg (ca A1 p1.length c1 p2 p3 p4 p5 p6)⟩] [some (.agg (ca A1 p1.length c1 p2 p3 p4 p5 p6))] [1, 2, 7, 8, 27] [pl 1 (vi most1), pl 2 (pa g1 0), pl 7 (vi n2), pl 8 (.slice none 0 0), pl 27 (.agg (ca A1 p1.length c1 p2 p3 p4 p5 p6))] hF hS ?_ (fun a w hF hS => ?_)
      ·exact obs_cons (oA (cs := (ca A1 p1.length c1 p2 p3 p4 p5 p6)) (fun _ _ hS => (hS.at_ 0 rfl).cellsAt 0 (by rfl))) <| obs_nil
      refine at_call (f := 133) (args := #[.agg (ca A1 p1.length c1 p2 p3 p4 p5 p6)]) (d := 28) hF (by kernel_rfl) (by kernel_rfl) Try.func133 (by kernel_rfl) rfl (board_Moves_w hr2 hS (fun _ hS => (hr_p1 _ (hS.dropN 1))) _hc_p1 rfl) (fun v a w hR hF => ?_)
      clear hS
      obtain ⟨A2, c2, rfl, hS⟩ := hR
      have hS : Sep w0 B w (ownK 88 3 A2 r2.length c2 (List.flatMap enc88 r2) :: blk g1 75 (ca A1 p1.length c1 p2 p3 p4 p5 p6) :: fs) := hS
      refine ar 2 [] [] [1, 2, 7, 8, 28, 29, 30] [pl 1 (vi most1), pl 2 (pa g1 0), pl 7 (vi n2), pl 8 (.slice none 0 0), pl 28 (.slice A2 r2.length c2), pl 29 (vi (r2.length : Int)), pl 30 (vi 0)] hF hS obs_nil (fun a w hF hS => ?_)
      refine ae [1, 2, 7, 8, 28, 29, 30] [pl 1 (vi most1), pl 2 (pa g1 0), pl 7 (vi n2), pl 8 (.slice none 0 0), pl 28 (.slice A2 r2.length c2), pl 29 (vi (r2.length : Int)), pl 30 (vi 0)] hF rfl (fun hF => ?_)
      refine then_n ?_
      refine wpIn_block ?_
      have hS : Sep w0 B w (ownK 88 3 none 0 0 (List.flatMap enc88 ([] : List MvT)) :: ownK 88 3 A2 r2.length c2 (List.flatMap enc88 r2) :: blk g1 75 (ca A1 p1.length c1 p2 p3 p4 p5 p6) :: fs) := hS.nilK 88 3 enc88
      have hl3 := (hS.at_ 0 rfl).lenK encK88
      have hS := (hS.at_ 0 rfl).reNK hl3
      have hS : Sep w0 B w (ownK 88 3 none (([] : List MvT).length) 0 (List.flatMap enc88 ([] : List MvT)) :: ownK 88 3 A2 r2.length c2 (List.flatMap enc88 r2) :: blk g1 75 (ca A1 p1.length c1 p2 p3 p4 p5 p6) :: fs) := hS
      have hF := hF.cast (t := 8) (v := .slice none 0 0) (v' := .slice none (([] : List MvT).length) 0) rfl rfl (congrArg (fun k => Value.slice none k 0) hl3)
      have hS := hS.pickN 3 [2, 0, 1] (by decide)
      refine wp_loop_model (S := (List MvT × Int)) (R := (List MvT)) (problems_Mate_L2 p1 p2 p3 p4 p5 p6 n2 r2) (fun x => ((problems_Mate_K2 n2) x).bind φ1) r (fun (x : (List MvT × Int)) a w => ∃ (A3 : Option Addr) (c3 : Nat), Fr 48 [pl 1 (vi most1), pl 2 (pa g1 0), pl 7 (vi n2), pl 8 (.slice A3 x.1.length c3), pl 28 (.slice A2 r2.length c2), pl 29 (vi (r2.length : Int)), pl 30 (vi x.2)] a ∧ Sep w0 B w (blk g1 75 (ca A1 p1.length c1 p2 p3 p4 p5 p6) :: ownK 88 3 A3 x.1.length c3 (List.flatMap enc88 x.1) :: ownK 88 3 A2 r2.length c2 (List.flatMap enc88 r2) :: fs)) (assoc_b hm) ⟨none, 0, hF.wk [1, 2, 7, 8, 28, 29, 30], hS⟩ ?_
      clear hF hS hm
      rintro nn2 ⟨l1, z1⟩ a w ⟨A3, c3, hF, hS⟩ hm
      generalize hφ2 : stK (problems_Mate_L2 p1 p2 p3 p4 p5 p6 n2 r2) nn2 (fun x => ((problems_Mate_K2 n2) x).bind φ1) = φ2 at hm
      unfold problems_Mate_L2 at hm
      dsimp only at hF hS hm
      refine rg [] [] [1, 2, 7, 8, 28, 29, 30, 31] [pl 1 (vi most1), pl 2 (pa g1 0), pl 7 (vi n2), pl 8 (.slice A3 l1.length c3), pl 28 (.slice A2 r2.length c2), pl 29 (vi (r2.length : Int)), pl 30 (vi z1), pl 31 (.bool (decide (z1 < (r2.length : Int))))] hF hS obs_nil (fun a w hF hS => ?_)
      refine seq_cut (fun a w => Fr 48 [pl 1 (vi most1), pl 2 (pa g1 0), pl 7 (vi n2), pl 8 (.slice A3 l1.length c3), pl 28 (.slice A2 r2.length c2), pl 29 (vi (r2.length : Int)), pl 30 (vi z1)] a ∧ Sep w0 B w (blk g1 75 (ca A1 p1.length c1 p2 p3 p4 p5 p6) :: ownK 88 3 A3 l1.length c3 (List.flatMap enc88 l1) :: ownK 88 3 A2 r2.length c2 (List.flatMap enc88 r2) :: fs) ∧ ((problems_Mate_J6 p1 p2 p3 p4 p5 p6 n2 r2 l1 z1)).bind φ2 = some r) ?_ ?_
      ·rintro a w ⟨hF, hS, hm⟩
       unfold problems_Mate_J6 at hm
       refine seq_cut (fun a w => ∃ (l3 : List MvT) (A6 : Option Addr) (c6 : Nat), Fr 48 [pl 1 (vi most1), pl 2 (pa g1 0), pl 7 (vi n2), pl 8 (.slice A6 l3.length c6), pl 28 (.slice A2 r2.length c2), pl 29 (vi (r2.length : Int)), pl 30 (vi z1)] a ∧ Sep w0 B w (blk g1 75 (ca A1 p1.length c1 p2 p3 p4 p5 p6) :: ownK 88 3 A6 l3.length c6 (List.flatMap enc88 l3) :: ownK 88 3 A2 r2.length c2 (List.flatMap enc88 r2) :: fs) ∧ ((problems_Mate_J7 z1) l3).bind φ2 = some r) ?_ ?_
       ·rintro a w ⟨l3, A6, c6, hF, hS, hm⟩
        unfold problems_Mate_J7 at hm
        refine rg1 [] [] [1, 2, 7, 8, 28, 29, 30] [pl 1 (vi most1), pl 2 (pa g1 0), pl 7 (vi n2), pl 8 (.slice A6 l3.length c6), pl 28 (.slice A2 r2.length c2), pl 29 (vi (r2.length : Int)), pl 30 (vi (w64 (z1 + 1)))] hF hS obs_nil (fun a w hF hS => ?_)
        refine then_n ?_
        rw [← hφ2] at hm
        exact ⟨(l3, (w64 (z1 + 1))), ⟨A6, c6, hF.wk [1, 2, 7, 8, 28, 29, 30], hS⟩, hm⟩
       ·refine wpIn_block ?_
        refine seqR ?_
        obtain ⟨hp1, hm⟩ := asrt_b hm
        refine ar 2 [⟨true, [], vS (Instr.indexAt 81 (.slice A2 r2.length c2) (vi z1)), .pointer (some (sAddrK A2 3 z1))⟩, ⟨false, [], vS (Instr.loadAt 88 (.pointer (some (sAddrK A2 3 z1)))), .agg #[vi ((getd ((0, 0, 0) : MvT) r2 z1).1), vi ((getd ((0, 0, 0) : MvT) r2 z1).2.1), vi ((getd ((0, 0, 0) : MvT) r2 z1).2.2)]⟩] [some (.pointer (some (sAddrK A2 3 z1))), some (.agg #[vi ((getd ((0, 0, 0) : MvT) r2 z1).1), vi ((getd ((0, 0, 0) : MvT) r2 z1).2.1), vi ((getd ((0, 0, 0) : MvT) r2 z1).2.2)])] [1, 2, 7, 8, 28, 29, 30, 33] [pl 1 (vi most1), pl 2 (pa g1 0), pl 7 (vi n2), pl 8 (.slice A3 l1.length c3), pl 28 (.slice A2 r2.length c2), pl 29 (vi (r2.length : Int)), pl 30 (vi z1), pl 33 (.agg #[vi ((getd ((0, 0, 0) : MvT) r2 z1).1), vi ((getd ((0, 0, 0) : MvT) r2 z1).2.1), vi ((getd ((0, 0, 0) : MvT) r2 z1).2.2)])] hF hS ?_ (fun a w hF hS => ?_)
        ·exact obs_cons (ob_ixK (m := r2) encK88 Und81 hi88 hs88 (hS.at_ 2 rfl).rdK rfl (fun _ => hp1)) <| obs_cons (ob_getK (n := r2.length) (m := r2) encK88 ((0, 0, 0) : MvT) (by kernel_rfl) (by kernel_rfl) (fun _ hS => ⟨_, (hS.at_ 2 rfl).rdK⟩) (fun _ hS => rfl) (fun _ => hp1)) <| obs_nil
        refine at_do (d := 10) (s := vS (Instr.alloc 88 true (.tuple #[]))) (v := pa w.heap.size 0) (w' := w.alloc (.cells #[vi 0, vi 0, vi 0] 88)) hF (by kernel_rfl) (by kernel_rfl) (by kernel_rfl) (fun a hF => ?_)
        have hS : Sep w0 B (w.alloc (.cells #[vi 0, vi 0, vi 0] 88)) (blk w.heap.size 88 #[vi 0, vi 0, vi 0] :: (blk g1 75 (ca A1 p1.length c1 p2 p3 p4 p5 p6) :: ownK 88 3 A3 l1.length c3 (List.flatMap enc88 l1) :: ownK 88 3 A2 r2.length c2 (List.flatMap enc88 r2) :: fs)) := hS.box 88 #[vi 0, vi 0, vi 0]
        generalize w.heap.size = g2 at hF hS
        generalize w.alloc (.cells #[vi 0, vi 0, vi 0] 88) = w at hS ⊢
        obtain ⟨w, hrun, hS⟩ := run_putA (P := Try.prog) (t := 88) (us := #[vi ((getd ((0, 0, 0) : MvT) r2 z1).1), vi ((getd ((0, 0, 0) : MvT) r2 z1).2.1), vi ((getd ((0, 0, 0) : MvT) r2 z1).2.2)]) (o := 0) (hS.at_ 0 rfl) (by kernel_rfl) (all_one (by kernel_rfl)) (Nat.le_of_ble_eq_true (by kernel_rfl))
        refine at_s hF hrun ?_
        have hS : Sep w0 B w (blk g2 88 #[vi ((getd ((0, 0, 0) : MvT) r2 z1).1), vi ((getd ((0, 0, 0) : MvT) r2 z1).2.1), vi ((getd ((0, 0, 0) : MvT) r2 z1).2.2)] :: blk g1 75 (ca A1 p1.length c1 p2 p3 p4 p5 p6) :: ownK 88 3 A3 l1.length c3 (List.flatMap enc88 l1) :: ownK 88 3 A2 r2.length c2 (List.flatMap enc88 r2) :: fs) := hS
        refine ae [1, 2, 7, 8, 10, 28, 29, 30] [pl 1 (vi most1), pl 2 (pa g1 0), pl 7 (vi n2), pl 8 (.slice A3 l1.length c3), pl 10 (pa g2 0), pl 28 (.slice A2 r2.length c2), pl 29 (vi (r2.length : Int)), pl 30 (vi z1)] hF rfl (fun hF => ?_)
        refine then_n ?_
        obtain ⟨r3, hr3, hm⟩ := call_b hm
        refine rg [⟨false, [], vS (Instr.loadAt 75 (pa g1 0)), .agg (ca A1 p1.length c1 p2 p3 p4 p5 p6)⟩, ⟨false, [], vS (Instr.loadAt 88 (pa g2 0)), .agg #[vi ((getd ((0, 0, 0) : MvT) r2 z1).1), vi ((getd ((0, 0, 0) : MvT) r2 z1).2.1), vi ((getd ((0, 0, 0) : MvT) r2 z1).2.2)]⟩, ⟨false, [], callFunc 143 #[.agg (ca A1 p1.length c1 p2 p3 p4 p5 p6), .agg #[vi ((getd ((0, 0, 0) : MvT) r2 z1).1), vi ((getd ((0, 0, 0) : MvT) r2 z1).2.1), vi ((getd ((0, 0, 0) : MvT) r2 z1).2.2)], vi n2], .bool r3⟩] [some (.agg (ca A1 p1.length c1 p2 p3 p4 p5 p6)), some (.agg #[vi ((getd ((0, 0, 0) : MvT) r2 z1).1), vi ((getd ((0, 0, 0) : MvT) r2 z1).2.1), vi ((getd ((0, 0, 0) : MvT) r2 z1).2.2)]), none, some (.bool r3)] [1, 2, 7, 8, 10, 28, 29, 30, 37] [pl 1 (vi most1), pl 2 (pa g1 0), pl 7 (vi n2), pl 8 (.slice A3 l1.length c3), pl 10 (pa g2 0), pl 28 (.slice A2 r2.length c2), pl 29 (vi (r2.length : Int)), pl 30 (vi z1), pl 37 (.bool r3)] hF hS ?_ (fun a w hF hS => ?_)
        ·exact obs_cons (oA (cs := (ca A1 p1.length c1 p2 p3 p4 p5 p6)) (fun _ _ hS => (hS.at_ 1 rfl).cellsAt 0 (by rfl))) <| obs_cons (ob_loadA (cs := #[vi ((getd ((0, 0, 0) : MvT) r2 z1).1), vi ((getd ((0, 0, 0) : MvT) r2 z1).2.1), vi ((getd ((0, 0, 0) : MvT) r2 z1).2.2)]) (by kernel_rfl) (by kernel_rfl) (fun _ _ hS => (hS.at_ 0 rfl).cellsAt 0 (by rfl))) <| obs_cons (ob_call Try.func143 (by kernel_rfl) rfl (fun _ _ hS => problems_forced_w hr3 hS (fun _ hS => (hr_p1 _ (hS.dropN 4))) _hc_p1 rfl)) <| obs_nil
        refine ce (t := 37) (b := r3) hF (fun hb => ?_) (fun hb => ?_)
        ·replace hm := if_t hm hb
         refine oneR ?_
         obtain ⟨hp2, hm⟩ := asrt_b hm
         refine ar 2 [⟨false, [], vS (Instr.loadAt 88 (pa g2 0)), .agg #[vi ((getd ((0, 0, 0) : MvT) r2 z1).1), vi ((getd ((0, 0, 0) : MvT) r2 z1).2.1), vi ((getd ((0, 0, 0) : MvT) r2 z1).2.2)]⟩] [none, some (.agg #[vi ((getd ((0, 0, 0) : MvT) r2 z1).1), vi ((getd ((0, 0, 0) : MvT) r2 z1).2.1), vi ((getd ((0, 0, 0) : MvT) r2 z1).2.2)])] [1, 2, 7, 28, 29, 30, 38, 39] [pl 1 (vi most1), pl 2 (pa g1 0), pl 7 (vi n2), pl 28 (.slice A2 r2.length c2), pl 29 (vi (r2.length : Int)), pl 30 (vi z1), pl 38 (.slice A3 l1.length c3), pl 39 (.agg #[vi ((getd ((0, 0, 0) : MvT) r2 z1).1), vi ((getd ((0, 0, 0) : MvT) r2 z1).2.1), vi ((getd ((0, 0, 0) : MvT) r2 z1).2.2)])] hF hS ?_ (fun a w hF hS => ?_)
         ·exact obs_cons (ob_loadA (cs := #[vi ((getd ((0, 0, 0) : MvT) r2 z1).1), vi ((getd ((0, 0, 0) : MvT) r2 z1).2.1), vi ((getd ((0, 0, 0) : MvT) r2 z1).2.2)]) (by kernel_rfl) (by kernel_rfl) (fun _ _ hS => (hS.at_ 0 rfl).cellsAt 0 (by rfl))) <| obs_nil
         refine at_do (d := 40) (s := vS (Instr.buildSlice 81 1 #[(0, .agg #[vi ((getd ((0, 0, 0) : MvT) r2 z1).1), vi ((getd ((0, 0, 0) : MvT) r2 z1).2.1), vi ((getd ((0, 0, 0) : MvT) r2 z1).2.2)])])) (v := .slice (some ⟨w.heap.size, 0, none⟩) 1 1) (w' := w.alloc (.cells #[vi ((getd ((0, 0, 0) : MvT) r2 z1).1), vi ((getd ((0, 0, 0) : MvT) r2 z1).2.1), vi ((getd ((0, 0, 0) : MvT) r2 z1).2.2)] 88)) hF (by kernel_rfl) (by kernel_rfl) (by kernel_rfl) (fun a hF => ?_)
         have hS : Sep w0 B (w.alloc (.cells #[vi ((getd ((0, 0, 0) : MvT) r2 z1).1), vi ((getd ((0, 0, 0) : MvT) r2 z1).2.1), vi ((getd ((0, 0, 0) : MvT) r2 z1).2.2)] 88)) (ownK 88 3 (some (⟨w.heap.size, 0, none⟩ : Addr)) 1 1 (List.flatMap enc88 ([(getd ((0, 0, 0) : MvT) r2 z1)] : List MvT)) :: (blk g2 88 #[vi ((getd ((0, 0, 0) : MvT) r2 z1).1), vi ((getd ((0, 0, 0) : MvT) r2 z1).2.1), vi ((getd ((0, 0, 0) : MvT) r2 z1).2.2)] :: blk g1 75 (ca A1 p1.length c1 p2 p3 p4 p5 p6) :: ownK 88 3 A3 l1.length c3 (List.flatMap enc88 l1) :: ownK 88 3 A2 r2.length c2 (List.flatMap enc88 r2) :: fs)) := hS.litK 88 3 #[vi ((getd ((0, 0, 0) : MvT) r2 z1).1), vi ((getd ((0, 0, 0) : MvT) r2 z1).2.1), vi ((getd ((0, 0, 0) : MvT) r2 z1).2.2)] 1 rfl (by omega)
         generalize (some (⟨w.heap.size, 0, none⟩ : Addr)) = g3 at hF hS
         generalize w.alloc (.cells #[vi ((getd ((0, 0, 0) : MvT) r2 z1).1), vi ((getd ((0, 0, 0) : MvT) r2 z1).2.1), vi ((getd ((0, 0, 0) : MvT) r2 z1).2.2)] 88) = w at hS ⊢
         obtain ⟨A5, c5, w, hrun, hS⟩ := run_appK (P := Try.prog) (t := 81) (m := l1) (ys := ([(getd ((0, 0, 0) : MvT) r2 z1)] : List MvT)) (A2 := g3) (m2 := 1) (c2 := 1) encK88 (hS.at_ 3 rfl) (hS.at_ 0 rfl).rdK ((hS.at_ 0 rfl).lenK encK88) 81 Und81 hi88 hz88 hs88 rfl (by omega) hp2
         have hS : Sep w0 B w (ownK 88 3 g3 1 1 (List.flatMap enc88 ([(getd ((0, 0, 0) : MvT) r2 z1)] : List MvT)) :: blk g2 88 #[vi ((getd ((0, 0, 0) : MvT) r2 z1).1), vi ((getd ((0, 0, 0) : MvT) r2 z1).2.1), vi ((getd ((0, 0, 0) : MvT) r2 z1).2.2)] :: blk g1 75 (ca A1 p1.length c1 p2 p3 p4 p5 p6) :: ownK 88 3 A5 ((l1 ++ ([(getd ((0, 0, 0) : MvT) r2 z1)] : List MvT)).length) c5 (List.flatMap enc88 (l1 ++ ([(getd ((0, 0, 0) : MvT) r2 z1)] : List MvT))) :: ownK 88 3 A2 r2.length c2 (List.flatMap enc88 r2) :: fs) := hS
         refine ad (d := 41) hF hrun (fun a hF => ?_)
         refine ar 1 [] [] [1, 2, 7, 8, 28, 29, 30] [pl 1 (vi most1), pl 2 (pa g1 0), pl 7 (vi n2), pl 8 (.slice A5 ((l1 ++ ([(getd ((0, 0, 0) : MvT) r2 z1)] : List MvT)).length) c5), pl 28 (.slice A2 r2.length c2), pl 29 (vi (r2.length : Int)), pl 30 (vi z1)] hF hS obs_nil (fun a w hF hS => ?_)
         refine ae [1, 2, 7, 8, 28, 29, 30] [pl 1 (vi most1), pl 2 (pa g1 0), pl 7 (vi n2), pl 8 (.slice A5 ((l1 ++ ([(getd ((0, 0, 0) : MvT) r2 z1)] : List MvT)).length) c5), pl 28 (.slice A2 r2.length c2), pl 29 (vi (r2.length : Int)), pl 30 (vi z1)] hF rfl (fun hF => ?_)
         refine block_n ?_
         refine then_n ?_
         have hS := hS.pickN 5 [2, 3, 4] (by decide)
         exact ⟨(l1 ++ ([(getd ((0, 0, 0) : MvT) r2 z1)] : List MvT)), A5, c5, hF.wk [1, 2, 7, 8, 28, 29, 30], hS, hm⟩
        ·replace hm := if_f hm hb
         refine wpIn_skip ?_
         refine block_n ?_
         refine then_n ?_
         have hS := hS.pickN 4 [1, 2, 3] (by decide)
         exact ⟨l1, A3, c3, hF.wk [1, 2, 7, 8, 28, 29, 30], hS, hm⟩
      ·refine ce (t := 31) (b := decide (z1 < (r2.length : Int))) hF (fun hb => ?_) (fun hb => ?_)
       ·replace hm := if_t hm hb
        refine wpIn_skip ?_
        refine then_n ?_
        exact ⟨hF.wk [1, 2, 7, 8, 28, 29, 30], hS, hm⟩
       ·replace hm := if_f hm hb
        refine wpIn_exit ?_
        refine then_e (then_e (block_e (then_n ?_)))
        have hS := hS.pickN 3 [0, 1] (by decide)
        rw [← hφ2] at hm
        replace hm := done_b hm
        unfold problems_Mate_K2 at hm
        try dsimp only at hm
        have hm : ((problems_Mate_J5 n2) l1).bind φ1 = some r := hm
        exact ⟨l1, A3, c3, hF.wk [1, 2, 7, 8], hS, hm⟩
   ·refine rg [] [] [1, 2, 7, 24] [pl 1 (vi most1), pl 2 (pa g1 0), pl 7 (vi n2), pl 24 (.bool (decide (n2 ≤ most1)))] hF hS obs_nil (fun a w hF hS => ?_)
    refine ce (t := 24) (b := decide (n2 ≤ most1)) hF (fun hb => ?_) (fun hb => ?_)
    ·replace hm := if_t hm hb
     refine wpIn_skip ?_
     refine then_n ?_
     exact ⟨hF.wk [1, 2, 7], hS, hm⟩
    ·replace hm := if_f hm hb
     refine wpIn_exit ?_
     refine then_e (then_e (block_e (then_n ?_)))
     have hS := hS.pickN 1 [] (by decide)
     rw [← hφ1] at hm
     replace hm := done_b hm
     unfold problems_Mate_K1 at hm
     try dsimp only at hm
     have hm : (problems_Mate_J2).bind some = some r := hm
     exact ⟨hF.wk [], hS, hm⟩
 ·refine wpIn_block ?_
  obtain ⟨r1, hr1, hm⟩ := call_b hm
  refine rg [⟨false, [], vS (Instr.loadAt 75 (pa g1 0)), .agg (ca A1 p1.length c1 p2 p3 p4 p5 p6)⟩, ⟨false, [], callFunc 127 #[.agg (ca A1 p1.length c1 p2 p3 p4 p5 p6)], .bool r1⟩] [some (.agg (ca A1 p1.length c1 p2 p3 p4 p5 p6)), some (.bool r1), none, none] [1, 2, 11] [pl 1 (vi most1), pl 2 (pa g1 0), pl 11 (.bool (!r1))] hF hS ?_ (fun a w hF hS => ?_)
  ·exact obs_cons (oA (cs := (ca A1 p1.length c1 p2 p3 p4 p5 p6)) (fun _ _ hS => (hS.at_ 0 rfl).cellsAt 0 (by rfl))) <| obs_cons (ob_call Try.func127 (by kernel_rfl) rfl (fun _ _ hS => board_May_w hr1 hS (fun _ hS => (hr_p1 _ (hS.dropN 1))) _hc_p1 rfl)) <| obs_nil
  refine ce (t := 11) (b := !r1) hF (fun hb => ?_) (fun hb => ?_)
  ·replace hm := if_t hm hb
   refine rg [] [] [4, 5, 6] [pl 4 (vi 0), pl 5 (.slice none 0 0), pl 6 (vi 12)] hF hS obs_nil (fun a w hF hS => ?_)
   refine wpIn_ret ?_
   refine block_r (then_r ?_)
   have hS : Sep w0 B w (ownK 88 3 none 0 0 (List.flatMap enc88 ([] : List MvT)) :: blk g1 75 (ca A1 p1.length c1 p2 p3 p4 p5 p6) :: fs) := hS.nilK 88 3 enc88
   have hl1 := (hS.at_ 0 rfl).lenK encK88
   have hS := (hS.at_ 0 rfl).reNK hl1
   have hS : Sep w0 B w (ownK 88 3 none (([] : List MvT).length) 0 (List.flatMap enc88 ([] : List MvT)) :: blk g1 75 (ca A1 p1.length c1 p2 p3 p4 p5 p6) :: fs) := hS
   have hS := hS.pickN 2 [0] (by decide)
   have hm : some (0, ([] : List MvT), 12) = some r := hm
   obtain rfl := Option.some.inj hm
   exact retV (rs := [.tmp 4, .tmp 5, .tmp 6]) (vs := [vi 0, .slice none (([] : List MvT).length) 0, vi 12]) hF rfl (rv_t (by kernel_rfl) <| rv_t (by kernel_rfl) <| rv_t (by kernel_rfl) <| rv_nil) rfl ⟨_, rfl, none, 0, rfl, hS⟩
  ·replace hm := if_f hm hb
   refine rg [] [] [1, 2, 15] [pl 1 (vi most1), pl 2 (pa g1 0), pl 15 (.bool ((decide (most1 < 1)) || (decide ((2 : Int) < most1))))] hF hS obs_nil (fun a w hF hS => ?_)
   refine ce (t := 15) (b := (decide (most1 < 1)) || (decide ((2 : Int) < most1))) hF (fun hb => ?_) (fun hb => ?_)
   ·replace hm := if_t hm hb
    refine rg [] [] [4, 5, 6] [pl 4 (vi 0), pl 5 (.slice none 0 0), pl 6 (vi 3)] hF hS obs_nil (fun a w hF hS => ?_)
    refine wpIn_ret ?_
    refine block_r (then_r ?_)
    have hS : Sep w0 B w (ownK 88 3 none 0 0 (List.flatMap enc88 ([] : List MvT)) :: blk g1 75 (ca A1 p1.length c1 p2 p3 p4 p5 p6) :: fs) := hS.nilK 88 3 enc88
    have hl2 := (hS.at_ 0 rfl).lenK encK88
    have hS := (hS.at_ 0 rfl).reNK hl2
    have hS : Sep w0 B w (ownK 88 3 none (([] : List MvT).length) 0 (List.flatMap enc88 ([] : List MvT)) :: blk g1 75 (ca A1 p1.length c1 p2 p3 p4 p5 p6) :: fs) := hS
    have hS := hS.pickN 2 [0] (by decide)
    have hm : some (0, ([] : List MvT), 3) = some r := hm
    obtain rfl := Option.some.inj hm
    exact retV (rs := [.tmp 4, .tmp 5, .tmp 6]) (vs := [vi 0, .slice none (([] : List MvT).length) 0, vi 3]) hF rfl (rv_t (by kernel_rfl) <| rv_t (by kernel_rfl) <| rv_t (by kernel_rfl) <| rv_nil) rfl ⟨_, rfl, none, 0, rfl, hS⟩
   ·replace hm := if_f hm hb
    refine wpIn_skip ?_
    refine block_n ?_
    refine then_n ?_
    exact ⟨hF.wk [1, 2], hS, hm⟩

def problems_Covered_J4  (z1 : Int) (in4 : List Bool) : Option (St (List Bool × Int) (List Bool)) :=
 some (.next (in4, (w64 (z1 + 1))))

def problems_Covered_K2  (z1 : Int) : (St (List Bool) Unit) → Option (St (List Bool × Int) (List Bool)) :=
 fun (x : St (List Bool) Unit) => match x with | .next in3 => (problems_Covered_J4 z1) in3 | .done _ => none

def problems_Covered_L2  : (Int × (List Bool)) → Option (St (List Bool) Unit) :=
 fun (x : Int × (List Bool)) => match x with | (x1, in3) => asrt (0 ≤ x1 ∧ x1 < 64) <| asrt (x1 < (in3.length : Int)) <| some (.next (in3.set (Int.toNat x1) true))

def problems_Covered_J3  (p1 : List Int) (by1 : Int) (in1 : List Bool) (z1 : Int) : Option (St (List Bool × Int) (List Bool)) :=
 asrt (0 ≤ z1 ∧ z1 < (p1.length : Int)) <| (board_Side_m (geti p1 z1)).bind fun r2 => if (r2 == by1) then ((board_Reach_m p1 z1).bind fun r3 => (board_Reach_1_m (ydOf (fun x s => problems_Covered_L2 (x, s))) (.next in1) p1 r3).bind (problems_Covered_K2 z1)) else ((problems_Covered_J4 z1) in1)

def problems_Covered_J7  (z2 : Int) (l3 : List Int) : Option (St (List Int × Int) (List Int)) :=
 some (.next (l3, (w64 (z2 + 1))))

def problems_Covered_J6  (in2 : List Bool) (l1 : List Int) (z2 : Int) : Option (St (List Int × Int) (List Int)) :=
 asrt (0 ≤ z2 ∧ z2 < 64) <| if (getb in2 z2) then (asrt ((l1.length : Int) + 1 ≤ bigN) <| (problems_Covered_J7 z2) (l1 ++ ([z2] : List Int))) else ((problems_Covered_J7 z2) l1)

def problems_Covered_L3  (in2 : List Bool) : (List Int × Int) → Option (St (List Int × Int) (List Int)) :=
 fun (x : (List Int × Int)) => match x with | (l1, z2) => if (decide (z2 < 64)) then ((problems_Covered_J6 in2 l1 z2)) else (some (.done l1))

def problems_Covered_J5  (l2 : List Int) : Option (List Int × Int) :=
 some (l2, 0)

def problems_Covered_K3  : (List Int) → Option (List Int × Int) :=
 fun (x : (List Int)) => match x with | l2 => problems_Covered_J5 l2

def problems_Covered_J2  (in2 : List Bool) : Option (List Int × Int) :=
 (loop (problems_Covered_L3 in2) (([] : List Int), 0)).bind problems_Covered_K3

def problems_Covered_K1  : (List Bool) → Option (List Int × Int) :=
 fun (x : (List Bool)) => match x with | in2 => problems_Covered_J2 in2

def problems_Covered_L1  (p1 : List Int) (by1 : Int) : (List Bool × Int) → Option (St (List Bool × Int) (List Bool)) :=
 fun (x : (List Bool × Int)) => match x with | (in1, z1) => if (decide (z1 < (p1.length : Int))) then ((problems_Covered_J3 p1 by1 in1 z1)) else (some (.done in1))

def problems_Covered_J1  (p1 : List Int) (by1 : Int) : Option (List Int × Int) :=
 (loop (problems_Covered_L1 p1 by1) ((List.replicate 64 false), 0)).bind problems_Covered_K1

def problems_Covered_m  (p1 : List Int) (p2 p3 : Int) (p4 p5 : Int) (p6 by1 : Int) : Option (List Int × Int) :=
 (board_May_m p1 p2 p3 p4 p5 p6).bind fun r1 => if (!r1) then (some (([] : List Int), 12)) else (if ((decide (by1 < 0)) || (decide ((1 : Int) < by1))) then (some (([] : List Int), 3)) else ((problems_Covered_J1 p1 by1)))

theorem problems_Covered_w {A1 : Option Addr} {c1 n1 : Nat} {p1 : List Int} {p2 p3 : Int} {p4 p5 : Int} {p6 by1 : Int} {r : (List Int × Int)} {w0 w : World} {B : Nat} {fs : List HP} (hm : problems_Covered_m p1 p2 p3 p4 p5 p6 by1 = some r) (hS : Sep w0 B w (fs)) (hr_p1 : RdF w0 B fs A1 (vI p1)) (_hc_p1 : p1.length ≤ c1) (_hn_p1 : n1 = p1.length) :
  Calls Try.prog 64 #[.agg (ca A1 n1 c1 p2 p3 p4 p5 p6), vi by1] w fun e w' => ∃ v, e = .returned v ∧ ∃ (A6 : Option Addr) (c6 : Nat), v = .tuple #[.slice A6 r.1.length c6, vi r.2] ∧ Sep w0 B w' (own 3 (.slice A6 r.1.length c6) (vI r.1) :: fs) := by
 obtain ⟨i3, hi3, hz3, hs3, hb3⟩ := info_parts Info3
 obtain ⟨i4, hi4, hz4, hs4, hb4⟩ := info_parts Info4
 obtain rfl := _hn_p1
 unfold problems_Covered_m at hm
 replace hm := start_b hm
 refine enter (l := [.agg (ca A1 p1.length c1 p2 p3 p4 p5 p6), vi by1]) (n := 56) Try.func64 rfl rfl (by simp) (fun a hF => ?_)
 have hS := hS.defs0
 refine seqR ?_
 refine at_do (d := 2) (s := vS (Instr.box 75 (.agg (ca A1 p1.length c1 p2 p3 p4 p5 p6)))) (v := pa w.heap.size 0) (w' := w.alloc (.cells (ca A1 p1.length c1 p2 p3 p4 p5 p6) 75)) hF (by kernel_rfl) (by kernel_rfl) (by kernel_rfl) (fun a hF => ?_)
 have hS : Sep w0 B (w.alloc (.cells (ca A1 p1.length c1 p2 p3 p4 p5 p6) 75)) (blk w.heap.size 75 (ca A1 p1.length c1 p2 p3 p4 p5 p6) :: (defsH ([]) :: fs)) := hS.box 75 (ca A1 p1.length c1 p2 p3 p4 p5 p6)
 generalize w.heap.size = g1 at hF hS
 generalize w.alloc (.cells (ca A1 p1.length c1 p2 p3 p4 p5 p6) 75) = w at hS ⊢
 refine ar 2 [] [] [1, 2] [pl 1 (vi by1), pl 2 (pa g1 0)] hF hS obs_nil (fun a w hF hS => ?_)
 refine ae [1, 2] [pl 1 (vi by1), pl 2 (pa g1 0)] hF rfl (fun hF => ?_)
 refine then_n ?_
 refine seq_cut (fun a w => ∃ (Ds1 : List Nat), FrD Ds1 56 [pl 1 (vi by1), pl 2 (pa g1 0)] a ∧ Sep w0 B w (blk g1 75 (ca A1 p1.length c1 p2 p3 p4 p5 p6) :: defsH Ds1 :: fs) ∧ ((problems_Covered_J1 p1 by1)).bind some = some r) ?_ ?_
 ·rintro a w ⟨Ds1, hF, hS, hm⟩
  unfold problems_Covered_J1 at hm
  refine seqR ?_
  refine at_do (d := 6) (s := vS (Instr.alloc 177 true (.tuple #[]))) (v := pa w.heap.size 0) (w' := w.alloc (.cells (List.toArray (([] : List Value) ++ (arr1 Value.bool false 64 (List.replicate 64 false) ++ ([] : List Value)))) 177)) hF (by kernel_rfl) (by kernel_rfl) (by kernel_rfl) (fun a hF => ?_)
  have hS : Sep w0 B (w.alloc (.cells (List.toArray (([] : List Value) ++ (arr1 Value.bool false 64 (List.replicate 64 false) ++ ([] : List Value)))) 177)) (blk w.heap.size 177 (List.toArray (([] : List Value) ++ (arr1 Value.bool false 64 (List.replicate 64 false) ++ ([] : List Value)))) :: (blk g1 75 (ca A1 p1.length c1 p2 p3 p4 p5 p6) :: defsH Ds1 :: fs)) := hS.box 177 (List.toArray (([] : List Value) ++ (arr1 Value.bool false 64 (List.replicate 64 false) ++ ([] : List Value))))
  generalize w.heap.size = g2 at hF hS
  generalize w.alloc (.cells (List.toArray (([] : List Value) ++ (arr1 Value.bool false 64 (List.replicate 64 false) ++ ([] : List Value)))) 177) = w at hS ⊢
  refine ae [1, 2, 6] [pl 1 (vi by1), pl 2 (pa g1 0), pl 6 (pa g2 0)] hF rfl (fun hF => ?_)
  refine then_n ?_
  refine seq_cut (fun a w => ∃ (in2 : List Bool) (Ds4 : List Nat), FrD Ds4 56 [pl 6 (pa g2 0)] a ∧ Sep w0 B w (blk g2 177 (List.toArray (([] : List Value) ++ (arr1 Value.bool false 64 in2 ++ ([] : List Value)))) :: defsH Ds4 :: fs) ∧ (problems_Covered_J2 in2).bind some = some r) ?_ ?_
  ·rintro a w ⟨in2, Ds4, hF, hS, hm⟩
   unfold problems_Covered_J2 at hm
   refine rg [] [] [6, 10] [pl 6 (pa g2 0), pl 10 (.slice none 0 0)] hF hS obs_nil (fun a w hF hS => ?_)
   refine seq_cut (fun a w => ∃ (l2 : List Int) (A3 : Option Addr) (c3 : Nat) (Ds9 : List Nat), FrD Ds9 56 [pl 10 (.slice A3 l2.length c3)] a ∧ Sep w0 B w (own 3 (.slice A3 l2.length c3) (vI l2) :: defsH Ds9 :: fs) ∧ (problems_Covered_J5 l2).bind some = some r) ?_ ?_
   ·rintro a w ⟨l2, A3, c3, Ds9, hF, hS, hm⟩
    unfold problems_Covered_J5 at hm
    refine rg [] [] [4, 5] [pl 4 (.slice A3 l2.length c3), pl 5 (vi 0)] hF hS obs_nil (fun a w hF hS => ?_)
    refine wpIn_ret ?_
    have hS := hS.pickN 2 [1, 0] (by decide)
    have hm : some (l2, 0) = some r := hm
    obtain rfl := Option.some.inj hm
    exact retD (rs := [.tmp 4, .tmp 5]) (vs := [.slice A3 l2.length c3, vi 0]) hF hS rfl (fun w hS => by exact rv_t (by kernel_rfl) <| rv_t (by kernel_rfl) <| rv_nil) rfl (fun w hS => ⟨_, rfl, A3, c3, rfl, hS⟩)
   ·refine rg [⟨false, [], vS (Instr.loadAt 177 (pa g2 0)), .agg (List.toArray (([] : List Value) ++ (arr1 Value.bool false 64 in2 ++ ([] : List Value))))⟩] [some (.agg (List.toArray (([] : List Value) ++ (arr1 Value.bool false 64 in2 ++ ([] : List Value))))), none] [10, 44, 45] [pl 10 (.slice none 0 0), pl 44 (.agg (List.toArray (([] : List Value) ++ (arr1 Value.bool false 64 in2 ++ ([] : List Value))))), pl 45 (vi 0)] hF hS ?_ (fun a w hF hS => ?_)
    ·exact obs_cons (ob_loadA (cs := (List.toArray (([] : List Value) ++ (arr1 Value.bool false 64 in2 ++ ([] : List Value))))) (by kernel_rfl) (by kernel_rfl) (fun _ _ hS => (hS.at_ 0 rfl).cellsAt 0 (by rfl))) <| obs_nil
    refine wpIn_block ?_
    have hS : Sep w0 B w (own 3 (.slice none 0 0) (vI ([] : List Int)) :: blk g2 177 (List.toArray (([] : List Value) ++ (arr1 Value.bool false 64 in2 ++ ([] : List Value)))) :: defsH Ds4 :: fs) := hS.nil 3
    have hl3 := (hS.at_ 0 rfl).len1
    have hS := (hS.at_ 0 rfl).reN hl3
    have hS : Sep w0 B w (own 3 (.slice none (([] : List Int).length) 0) (vI ([] : List Int)) :: blk g2 177 (List.toArray (([] : List Value) ++ (arr1 Value.bool false 64 in2 ++ ([] : List Value)))) :: defsH Ds4 :: fs) := hS
    have hF := hF.cast (t := 10) (v := .slice none 0 0) (v' := .slice none (([] : List Int).length) 0) rfl rfl (congrArg (fun k => Value.slice none k 0) hl3)
    have hS := hS.pickN 3 [0, 2] (by decide)
    refine wp_loop_model (S := (List Int × Int)) (R := (List Int)) (problems_Covered_L3 in2) (fun x => (problems_Covered_K3 x).bind some) r (fun (x : (List Int × Int)) a w => ∃ (A2 : Option Addr) (c2 : Nat) (Ds7 : List Nat), FrD Ds7 56 [pl 10 (.slice A2 x.1.length c2), pl 44 (.agg (List.toArray (([] : List Value) ++ (arr1 Value.bool false 64 in2 ++ ([] : List Value))))), pl 45 (vi x.2)] a ∧ Sep w0 B w (own 3 (.slice A2 x.1.length c2) (vI x.1) :: defsH Ds7 :: fs)) (assoc_b hm) ⟨none, 0, Ds4, hF.wk [10, 44, 45], hS⟩ ?_
    clear hF hS hm
    rintro nn2 ⟨l1, z2⟩ a w ⟨A2, c2, Ds7, hF, hS⟩ hm
    generalize hφ2 : stK (problems_Covered_L3 in2) nn2 (fun x => (problems_Covered_K3 x).bind some) = φ2 at hm
    unfold problems_Covered_L3 at hm
    dsimp only at hF hS hm
    refine rg [] [] [10, 44, 45, 46] [pl 10 (.slice A2 l1.length c2), pl 44 (.agg (List.toArray (([] : List Value) ++ (arr1 Value.bool false 64 in2 ++ ([] : List Value))))), pl 45 (vi z2), pl 46 (.bool (decide (z2 < 64)))] hF hS obs_nil (fun a w hF hS => ?_)
    refine seq_cut (fun a w => ∃ (Ds8 : List Nat), FrD Ds8 56 [pl 10 (.slice A2 l1.length c2), pl 44 (.agg (List.toArray (([] : List Value) ++ (arr1 Value.bool false 64 in2 ++ ([] : List Value))))), pl 45 (vi z2)] a ∧ Sep w0 B w (own 3 (.slice A2 l1.length c2) (vI l1) :: defsH Ds8 :: fs) ∧ ((problems_Covered_J6 in2 l1 z2)).bind φ2 = some r) ?_ ?_
    ·rintro a w ⟨Ds8, hF, hS, hm⟩
     unfold problems_Covered_J6 at hm
     refine seq_cut (fun a w => ∃ (l3 : List Int) (A5 : Option Addr) (c5 : Nat) (Ds10 : List Nat), FrD Ds10 56 [pl 10 (.slice A5 l3.length c5), pl 44 (.agg (List.toArray (([] : List Value) ++ (arr1 Value.bool false 64 in2 ++ ([] : List Value))))), pl 45 (vi z2)] a ∧ Sep w0 B w (own 3 (.slice A5 l3.length c5) (vI l3) :: defsH Ds10 :: fs) ∧ ((problems_Covered_J7 z2) l3).bind φ2 = some r) ?_ ?_
     ·rintro a w ⟨l3, A5, c5, Ds10, hF, hS, hm⟩
      unfold problems_Covered_J7 at hm
      refine rg1 [] [] [10, 44, 45] [pl 10 (.slice A5 l3.length c5), pl 44 (.agg (List.toArray (([] : List Value) ++ (arr1 Value.bool false 64 in2 ++ ([] : List Value))))), pl 45 (vi (w64 (z2 + 1)))] hF hS obs_nil (fun a w hF hS => ?_)
      refine then_n ?_
      rw [← hφ2] at hm
      exact ⟨(l3, (w64 (z2 + 1))), ⟨A5, c5, Ds10, hF.wk [10, 44, 45], hS⟩, hm⟩
     ·refine wpIn_block ?_
      obtain ⟨hp4, hm⟩ := asrt_b hm
      refine rg [⟨true, [], vS (Instr.index 177 (.agg (List.toArray (([] : List Value) ++ (arr1 Value.bool false 64 in2 ++ ([] : List Value))))) (vi z2)), .bool (getb in2 z2)⟩] [none, some (.bool (getb in2 z2)), none, none] [10, 11, 12, 44, 45] [pl 10 (.slice A2 l1.length c2), pl 11 (vi z2), pl 12 (.bool (getb in2 z2)), pl 44 (.agg (List.toArray (([] : List Value) ++ (arr1 Value.bool false 64 in2 ++ ([] : List Value))))), pl 45 (vi z2)] hF hS ?_ (fun a w hF hS => ?_)
      ·exact obs_cons (ob_idx1 (f := Value.bool) (z := false) (m := in2) UndA177 (by kernel_rfl) (by kernel_rfl) (fun _ => hp4)) <| obs_nil
      refine rg [] [] [10, 11, 44, 45, 49] [pl 10 (.slice A2 l1.length c2), pl 11 (vi z2), pl 44 (.agg (List.toArray (([] : List Value) ++ (arr1 Value.bool false 64 in2 ++ ([] : List Value))))), pl 45 (vi z2), pl 49 (.bool (getb in2 z2))] hF hS obs_nil (fun a w hF hS => ?_)
      refine ce (t := 49) (b := getb in2 z2) hF (fun hb => ?_) (fun hb => ?_)
      ·replace hm := if_t hm hb
       refine oneR ?_
       obtain ⟨hp5, hm⟩ := asrt_b hm
       refine ar 2 [] [] [44, 45, 50, 51] [pl 44 (.agg (List.toArray (([] : List Value) ++ (arr1 Value.bool false 64 in2 ++ ([] : List Value))))), pl 45 (vi z2), pl 50 (.slice A2 l1.length c2), pl 51 (vi z2)] hF hS obs_nil (fun a w hF hS => ?_)
       refine at_do (d := 52) (s := vS (Instr.buildSlice 27 1 #[(0, vi z2)])) (v := .slice (some ⟨w.heap.size, 0, none⟩) 1 1) (w' := w.alloc (.cells #[vi z2] 3)) hF (by kernel_rfl) (by kernel_rfl) (by kernel_rfl) (fun a hF => ?_)
       have hS : Sep w0 B (w.alloc (.cells #[vi z2] 3)) (own 3 (.slice (some (⟨w.heap.size, 0, none⟩ : Addr)) 1 1) (vI ([z2] : List Int)) :: (own 3 (.slice A2 l1.length c2) (vI l1) :: defsH Ds8 :: fs)) := hS.lit 3 #[vi z2] 1 rfl (by omega)
       generalize (some (⟨w.heap.size, 0, none⟩ : Addr)) = g5 at hF hS
       generalize w.alloc (.cells #[vi z2] 3) = w at hS ⊢
       obtain ⟨A4, c4, w, hrun, hS⟩ := run_app1 (P := Try.prog) (t := 27) (m := l1) (ys := ([z2] : List Int)) (A2 := g5) (m2 := 1) (c2 := 1) (Value.int .i64) (0 : Int) (hS.at_ 1 rfl) (hS.at_ 0 rfl).rd ((hS.at_ 0 rfl).len1) 27 Und27 hi3 hz3 hs3 (by omega) rfl (fun _ => rfl) hp5
       have hS : Sep w0 B w (own 3 (.slice g5 1 1) (vI ([z2] : List Int)) :: own 3 (.slice A4 ((l1 ++ ([z2] : List Int)).length) c4) (vI (l1 ++ ([z2] : List Int))) :: defsH Ds8 :: fs) := hS
       refine ad (d := 53) hF hrun (fun a hF => ?_)
       refine ar 1 [] [] [10, 44, 45] [pl 10 (.slice A4 ((l1 ++ ([z2] : List Int)).length) c4), pl 44 (.agg (List.toArray (([] : List Value) ++ (arr1 Value.bool false 64 in2 ++ ([] : List Value))))), pl 45 (vi z2)] hF hS obs_nil (fun a w hF hS => ?_)
       refine ae [10, 44, 45] [pl 10 (.slice A4 ((l1 ++ ([z2] : List Int)).length) c4), pl 44 (.agg (List.toArray (([] : List Value) ++ (arr1 Value.bool false 64 in2 ++ ([] : List Value))))), pl 45 (vi z2)] hF rfl (fun hF => ?_)
       refine block_n ?_
       refine then_n ?_
       have hS := hS.pickN 3 [1, 2] (by decide)
       exact ⟨(l1 ++ ([z2] : List Int)), A4, c4, Ds8, hF.wk [10, 44, 45], hS, hm⟩
      ·replace hm := if_f hm hb
       refine wpIn_skip ?_
       refine block_n ?_
       refine then_n ?_
       exact ⟨l1, A2, c2, Ds8, hF.wk [10, 44, 45], hS, hm⟩
    ·refine ce (t := 46) (b := decide (z2 < 64)) hF (fun hb => ?_) (fun hb => ?_)
     ·replace hm := if_t hm hb
      refine wpIn_skip ?_
      refine then_n ?_
      exact ⟨Ds7, hF.wk [10, 44, 45], hS, hm⟩
     ·replace hm := if_f hm hb
      refine wpIn_exit ?_
      refine then_e (then_e (block_e (then_n ?_)))
      rw [← hφ2] at hm
      replace hm := done_b hm
      unfold problems_Covered_K3 at hm
      try dsimp only at hm
      have hm : (problems_Covered_J5 l1).bind some = some r := hm
      exact ⟨l1, A2, c2, Ds7, hF.wk [10], hS, hm⟩
  ·refine rg [⟨false, [], vS (Instr.loadAt 27 (pa g1 0)), .slice A1 p1.length c1⟩] [none, some (.slice A1 p1.length c1), none, none] [1, 2, 6, 25, 26, 27] [pl 1 (vi by1), pl 2 (pa g1 0), pl 6 (pa g2 0), pl 25 (.slice A1 p1.length c1), pl 26 (vi (p1.length : Int)), pl 27 (vi 0)] hF hS ?_ (fun a w hF hS => ?_)
   ·exact obs_cons (ob_load Agg27 (fun _ _ hS => (hS.at_ 1 rfl).cell rfl)) <| obs_nil
   refine wpIn_block ?_
   have hS := hS.pickN 3 [1, 0, 2] (by decide)
   refine wp_loop_model (S := (List Bool × Int)) (R := (List Bool)) (problems_Covered_L1 p1 by1) (fun x => (problems_Covered_K1 x).bind some) r (fun (x : (List Bool × Int)) a w => ∃ (Ds2 : List Nat), FrD Ds2 56 [pl 1 (vi by1), pl 2 (pa g1 0), pl 6 (pa g2 0), pl 25 (.slice A1 p1.length c1), pl 26 (vi (p1.length : Int)), pl 27 (vi x.2)] a ∧ Sep w0 B w (blk g1 75 (ca A1 p1.length c1 p2 p3 p4 p5 p6) :: blk g2 177 (List.toArray (([] : List Value) ++ (arr1 Value.bool false 64 x.1 ++ ([] : List Value)))) :: defsH Ds2 :: fs)) (assoc_b hm) ⟨Ds1, hF.wk [1, 2, 6, 25, 26, 27], hS⟩ ?_
   clear hF hS hm
   rintro nn1 ⟨in1, z1⟩ a w ⟨Ds2, hF, hS⟩ hm
   generalize hφ1 : stK (problems_Covered_L1 p1 by1) nn1 (fun x => (problems_Covered_K1 x).bind some) = φ1 at hm
   unfold problems_Covered_L1 at hm
   dsimp only at hF hS hm
   refine rg [] [] [1, 2, 6, 25, 26, 27, 28] [pl 1 (vi by1), pl 2 (pa g1 0), pl 6 (pa g2 0), pl 25 (.slice A1 p1.length c1), pl 26 (vi (p1.length : Int)), pl 27 (vi z1), pl 28 (.bool (decide (z1 < (p1.length : Int))))] hF hS obs_nil (fun a w hF hS => ?_)
   refine seq_cut (fun a w => ∃ (Ds3 : List Nat), FrD Ds3 56 [pl 1 (vi by1), pl 2 (pa g1 0), pl 6 (pa g2 0), pl 25 (.slice A1 p1.length c1), pl 26 (vi (p1.length : Int)), pl 27 (vi z1)] a ∧ Sep w0 B w (blk g1 75 (ca A1 p1.length c1 p2 p3 p4 p5 p6) :: blk g2 177 (List.toArray (([] : List Value) ++ (arr1 Value.bool false 64 in1 ++ ([] : List Value)))) :: defsH Ds3 :: fs) ∧ ((problems_Covered_J3 p1 by1 in1 z1)).bind φ1 = some r) ?_ ?_
   ·rintro a w ⟨Ds3, hF, hS, hm⟩
    unfold problems_Covered_J3 at hm
    refine seq_cut (fun a w => ∃ (in4 : List Bool) (Ds6 : List Nat), FrD Ds6 56 [pl 1 (vi by1), pl 2 (pa g1 0), pl 6 (pa g2 0), pl 25 (.slice A1 p1.length c1), pl 26 (vi (p1.length : Int)), pl 27 (vi z1)] a ∧ Sep w0 B w (blk g1 75 (ca A1 p1.length c1 p2 p3 p4 p5 p6) :: blk g2 177 (List.toArray (([] : List Value) ++ (arr1 Value.bool false 64 in4 ++ ([] : List Value)))) :: defsH Ds6 :: fs) ∧ ((problems_Covered_J4 z1) in4).bind φ1 = some r) ?_ ?_
    ·rintro a w ⟨in4, Ds6, hF, hS, hm⟩
     unfold problems_Covered_J4 at hm
     refine rg1 [] [] [1, 2, 6, 25, 26, 27] [pl 1 (vi by1), pl 2 (pa g1 0), pl 6 (pa g2 0), pl 25 (.slice A1 p1.length c1), pl 26 (vi (p1.length : Int)), pl 27 (vi (w64 (z1 + 1)))] hF hS obs_nil (fun a w hF hS => ?_)
     refine then_n ?_
     rw [← hφ1] at hm
     exact ⟨(in4, (w64 (z1 + 1))), ⟨Ds6, hF.wk [1, 2, 6, 25, 26, 27], hS⟩, hm⟩
    ·refine wpIn_block ?_
     obtain ⟨hp1, hm⟩ := asrt_b hm
     refine rg [⟨true, [], vS (Instr.indexAt 27 (.slice A1 p1.length c1) (vi z1)), .pointer (some (sAddr A1 z1))⟩, ⟨false, [], vS (Instr.loadAt 3 (.pointer (some (sAddr A1 z1)))), vi (geti p1 z1)⟩] [none, some (.pointer (some (sAddr A1 z1))), some (vi (geti p1 z1)), none, none] [1, 2, 6, 7, 8, 25, 26, 27] [pl 1 (vi by1), pl 2 (pa g1 0), pl 6 (pa g2 0), pl 7 (vi z1), pl 8 (vi (geti p1 z1)), pl 25 (.slice A1 p1.length c1), pl 26 (vi (p1.length : Int)), pl 27 (vi z1)] hF hS ?_ (fun a w hF hS => ?_)
     ·exact obs_cons (ob_ix1 (f := (Value.int .i64)) (m := p1) Und27 hi3 hs3 (hr_p1 _ (hS.dropN 3)) rfl (fun _ => hp1)) <| obs_cons (ob_get1 (n := p1.length) (m := p1) (Value.int .i64) (0 : Int) Agg3 (fun _ hS => ⟨_, (hr_p1 _ (hS.dropN 3))⟩) (fun _ hS => rfl) (fun _ => hp1)) <| obs_nil
     obtain ⟨r2, hr2, hm⟩ := call_b hm
     refine rg [⟨false, [], callFunc 144 #[vi (geti p1 z1)], vi r2⟩] [none, some (vi r2), none, none] [1, 2, 6, 7, 25, 26, 27, 35] [pl 1 (vi by1), pl 2 (pa g1 0), pl 6 (pa g2 0), pl 7 (vi z1), pl 25 (.slice A1 p1.length c1), pl 26 (vi (p1.length : Int)), pl 27 (vi z1), pl 35 (.bool (r2 == by1))] hF hS ?_ (fun a w hF hS => ?_)
     ·exact obs_cons (ob_call Try.func144 (by kernel_rfl) rfl (fun _ _ hS => board_Side_w hr2 hS )) <| obs_nil
     refine ce (t := 35) (b := (r2 == by1)) hF (fun hb => ?_) (fun hb => ?_)
     ·replace hm := if_t hm hb
      refine seqR ?_
      obtain ⟨r3, hr3, hm⟩ := call_b hm
      refine ar 3 [⟨false, [], vS (Instr.loadAt 27 (pa g1 0)), .slice A1 p1.length c1⟩] [none, some (.slice A1 p1.length c1), none] [1, 2, 6, 25, 26, 27, 37, 38] [pl 1 (vi by1), pl 2 (pa g1 0), pl 6 (pa g2 0), pl 25 (.slice A1 p1.length c1), pl 26 (vi (p1.length : Int)), pl 27 (vi z1), pl 37 (.slice A1 p1.length c1), pl 38 (vi z1)] hF hS ?_ (fun a w hF hS => ?_)
      ·exact obs_cons (ob_load Agg27 (fun _ _ hS => (hS.at_ 0 rfl).cell rfl)) <| obs_nil
      refine at_call (f := 145) (args := #[.slice A1 p1.length c1, vi z1]) (d := 39) hF (by kernel_rfl) (by kernel_rfl) Try.func145 (by kernel_rfl) rfl (board_Reach_w hr3 hS (fun _ hS => (hr_p1 _ (hS.dropN 3))) _hc_p1 rfl) (fun v a w hR hF => ?_)
      clear hS
      obtain ⟨g3, g4, rfl, hS⟩ := hR
      have hS : Sep w0 B w (blk g3 27 #[.slice A1 p1.length c1] :: blk g4 3 #[vi r3] :: blk g1 75 (ca A1 p1.length c1 p2 p3 p4 p5 p6) :: blk g2 177 (List.toArray (([] : List Value) ++ (arr1 Value.bool false 64 in1 ++ ([] : List Value)))) :: defsH Ds3 :: fs) := hS
      refine ae [1, 2, 6, 25, 26, 27, 39] [pl 1 (vi by1), pl 2 (pa g1 0), pl 6 (pa g2 0), pl 25 (.slice A1 p1.length c1), pl 26 (vi (p1.length : Int)), pl 27 (vi z1), pl 39 (.func (.func 212) #[] #[pa g3 0, pa g4 0])] hF rfl (fun hF => ?_)
      refine then_n ?_
      refine wpIn_block ?_
      have hS := hS.pickN 5 [3, 4, 2, 0, 1] (by decide)
      obtain ⟨y1, hy1, hm⟩ := call_b hm
      refine range_out (ρ := [pl 1 (vi by1), pl 2 (pa g1 0), pl 6 (pa g2 0), pl 25 (.slice A1 p1.length c1), pl 26 (vi (p1.length : Int)), pl 27 (vi z1), pl 39 (.func (.func 212) #[] #[pa g3 0, pa g4 0])]) (lb := [pa g3 0, pa g4 0]) (y := y1) (enc := (fun (x : Int) => #[vi x])) (qs := [blk g2 177 (List.toArray (([] : List Value) ++ (arr1 Value.bool false 64 in1 ++ ([] : List Value))))]) (fun (x : Int) => [(40, vi x)]) (fun (s : (List Bool)) qs => qs = [blk g2 177 (List.toArray (([] : List Value) ++ (arr1 Value.bool false 64 s ++ ([] : List Value))))]) (fun (_ : Unit) _ _ => False) (fun x s => problems_Covered_L2 (x, s)) in1 (hF.wk [1, 2, 6, 25, 26, 27, 39]) hS (by kernel_rfl) Try.func212 (by kernel_rfl) rfl (by kernel_rfl) (by intro x; simp) (fun _ => rfl) (fun x p hp => ?_) rfl ?_ ?_ ?_ ?_
      ·simp only [List.mem_cons, List.not_mem_nil, or_false] at hp
       rcases hp with rfl <;> (dsimp only; decide)
      ·intro lr1 D1 RS w hY hS
       exact Calls.mono (board_Reach_1_w hy1 (hS.pickN 5 [0, 3, 4, 1, 2] (by decide)) (YieldC.perm (blk g3 27 #[.slice A1 p1.length c1] :: blk g4 3 #[vi r3] :: defsH (D1 :: Ds3) :: blk g1 75 (ca A1 p1.length c1 p2 p3 p4 p5 p6) :: fs) hY (fun hS => hS.pickN 5 [0, 3, 4, 1, 2] (by decide)) (fun hS => hS.pickN 5 [0, 3, 4, 1, 2] (by decide))) (fun _ hS => (hr_p1 _ (hS.dropN 2))) _hc_p1 rfl) (fun e w' h => by obtain ⟨_, rfl, _, hS⟩ := h; exact hS.pickN 5 [0, 3, 4, 1, 2] (by decide))
      ·rintro lr1 D1 rr1 x1 in3 r qs us1 a w hrr1 hm hI hF hS
       obtain rfl := hI
       replace hm := start_b hm
       unfold problems_Covered_L2 at hm
       dsimp only at hm hF hS
       have hF : Fr 56 [pl 1 (vi by1), pl 2 (pa g1 0), pl 6 (pa g2 0), pl 25 (.slice A1 p1.length c1), pl 26 (vi (p1.length : Int)), pl 27 (vi z1), pl 39 (.func (.func 212) #[] #[pa g3 0, pa g4 0]), pl 40 (vi x1)] a := hF.wk [1, 2, 6, 25, 26, 27, 39, 40]
       have hS : Sep w0 B w (recH lr1 rr1 :: blk g2 177 (List.toArray (([] : List Value) ++ (arr1 Value.bool false 64 in3 ++ ([] : List Value)))) :: defsH (D1 :: Ds3) :: blk g1 75 (ca A1 p1.length c1 p2 p3 p4 p5 p6) :: blk g3 27 #[.slice A1 p1.length c1] :: blk g4 3 #[vi r3] :: (fs ++ us1)) := hS
       refine rg1 [] [] [6, 9] [pl 6 (pa g2 0), pl 9 (vi x1)] hF hS obs_nil (fun a w hF hS => ?_)
       refine then_n ?_
       refine begin_r hS hrr1 (fun w hS => ?_)
       have hS : Sep w0 B w (recH lr1 { rr1 with state := .busy } :: blk g2 177 (List.toArray (([] : List Value) ++ (arr1 Value.bool false 64 in3 ++ ([] : List Value)))) :: defsH (D1 :: Ds3) :: blk g1 75 (ca A1 p1.length c1 p2 p3 p4 p5 p6) :: blk g3 27 #[.slice A1 p1.length c1] :: blk g4 3 #[vi r3] :: (fs ++ us1)) := hS
       refine wpIn_block ?_
       refine oneR ?_
       obtain ⟨hp2, hm⟩ := asrt_b hm
       obtain ⟨hp3, hm⟩ := asrt_b hm
       refine ar 2 [⟨true, [], vS (Instr.indexAt 177 (pa g2 0) (vi x1)), .pointer (some ((⟨g2, 0, none⟩ : Addr).add (Int.toNat x1 * 1)))⟩] [none, some (.pointer (some ((⟨g2, 0, none⟩ : Addr).add (Int.toNat x1 * 1))))] [42] [pl 42 (.pointer (some ((⟨g2, 0, none⟩ : Addr).add (Int.toNat x1 * 1))))] hF hS ?_ (fun a w hF hS => ?_)
       ·exact obs_cons (ob_ixA UndA177 hi4 hs4 (fun _ => hp2)) <| obs_nil
       obtain ⟨w, hrun, hS⟩ := run_setA (P := Try.prog) (t := 4) (x := true) (i := x1) (m := in3) (d := Int.toNat x1 * 1) Value.bool false 64 ([] : List Value) ([] : List Value) (hS.at_ 1 rfl) rfl hi4 hs4 rfl (by have h0 := hp2; omega) (by have h0 := hp2; have h9 := hp3; omega)
       refine at_s hF hrun ?_
       have hS : Sep w0 B w (recH lr1 { rr1 with state := .busy } :: blk g2 177 (List.toArray (([] : List Value) ++ (arr1 Value.bool false 64 (in3.set (Int.toNat x1) true) ++ ([] : List Value)))) :: defsH (D1 :: Ds3) :: blk g1 75 (ca A1 p1.length c1 p2 p3 p4 p5 p6) :: blk g3 27 #[.slice A1 p1.length c1] :: blk g4 3 #[vi r3] :: (fs ++ us1)) := hS
       refine ae [] [] hF rfl (fun hF => ?_)
       refine block_n ?_
       have hm : some (.next (in3.set (Int.toNat x1) true)) = some r := hm
       obtain rfl := Option.some.inj hm
       exact ⟨_, _, rfl, rfl, hS⟩
      ·rintro in3 D1 qs a w hy1e hI hF hS
       obtain rfl := hI
       rw [hy1e] at hm
       unfold problems_Covered_K2 at hm
       dsimp only at hm hF hS
       have hF : FrD (D1 :: Ds3) 56 [pl 1 (vi by1), pl 2 (pa g1 0), pl 6 (pa g2 0), pl 25 (.slice A1 p1.length c1), pl 26 (vi (p1.length : Int)), pl 27 (vi z1), pl 39 (.func (.func 212) #[] #[pa g3 0, pa g4 0])] a := hF
       have hS : Sep w0 B w (blk g2 177 (List.toArray (([] : List Value) ++ (arr1 Value.bool false 64 in3 ++ ([] : List Value)))) :: defsH (D1 :: Ds3) :: blk g1 75 (ca A1 p1.length c1 p2 p3 p4 p5 p6) :: blk g3 27 #[.slice A1 p1.length c1] :: blk g4 3 #[vi r3] :: fs) := hS
       refine block_n ?_
       refine block_n ?_
       refine then_n ?_
       have hS := hS.pickN 5 [2, 0, 1] (by decide)
       exact ⟨in3, (D1 :: Ds3), hF.wk [1, 2, 6, 25, 26, 27], hS, hm⟩
      ·intro x c D1 qs a w _ h
       exact h.elim
     ·replace hm := if_f hm hb
      refine wpIn_skip ?_
      refine block_n ?_
      refine then_n ?_
      exact ⟨in1, Ds3, hF.wk [1, 2, 6, 25, 26, 27], hS, hm⟩
   ·refine ce (t := 28) (b := decide (z1 < (p1.length : Int))) hF (fun hb => ?_) (fun hb => ?_)
    ·replace hm := if_t hm hb
     refine wpIn_skip ?_
     refine then_n ?_
     exact ⟨Ds2, hF.wk [1, 2, 6, 25, 26, 27], hS, hm⟩
    ·replace hm := if_f hm hb
     refine wpIn_exit ?_
     refine then_e (then_e (block_e (then_n ?_)))
     have hS := hS.pickN 3 [1, 2] (by decide)
     rw [← hφ1] at hm
     replace hm := done_b hm
     unfold problems_Covered_K1 at hm
     try dsimp only at hm
     have hm : (problems_Covered_J2 in1).bind some = some r := hm
     exact ⟨in1, Ds2, hF.wk [6], hS, hm⟩
 ·refine wpIn_block ?_
  obtain ⟨r1, hr1, hm⟩ := call_b hm
  refine rg [⟨false, [], vS (Instr.loadAt 75 (pa g1 0)), .agg (ca A1 p1.length c1 p2 p3 p4 p5 p6)⟩, ⟨false, [], callFunc 127 #[.agg (ca A1 p1.length c1 p2 p3 p4 p5 p6)], .bool r1⟩] [some (.agg (ca A1 p1.length c1 p2 p3 p4 p5 p6)), some (.bool r1), none, none] [1, 2, 13] [pl 1 (vi by1), pl 2 (pa g1 0), pl 13 (.bool (!r1))] hF hS ?_ (fun a w hF hS => ?_)
  ·exact obs_cons (oA (cs := (ca A1 p1.length c1 p2 p3 p4 p5 p6)) (fun _ _ hS => (hS.at_ 0 rfl).cellsAt 0 (by rfl))) <| obs_cons (ob_call Try.func127 (by kernel_rfl) rfl (fun _ _ hS => board_May_w hr1 hS (fun _ hS => (hr_p1 _ (hS.dropN 2))) _hc_p1 rfl)) <| obs_nil
  refine ce (t := 13) (b := !r1) hF (fun hb => ?_) (fun hb => ?_)
  ·replace hm := if_t hm hb
   refine rg [] [] [4, 5] [pl 4 (.slice none 0 0), pl 5 (vi 12)] hF hS obs_nil (fun a w hF hS => ?_)
   refine wpIn_ret ?_
   refine block_r (then_r ?_)
   have hS : Sep w0 B w (own 3 (.slice none 0 0) (vI ([] : List Int)) :: blk g1 75 (ca A1 p1.length c1 p2 p3 p4 p5 p6) :: defsH ([]) :: fs) := hS.nil 3
   have hl1 := (hS.at_ 0 rfl).len1
   have hS := (hS.at_ 0 rfl).reN hl1
   have hS : Sep w0 B w (own 3 (.slice none (([] : List Int).length) 0) (vI ([] : List Int)) :: blk g1 75 (ca A1 p1.length c1 p2 p3 p4 p5 p6) :: defsH ([]) :: fs) := hS
   have hS := hS.pickN 3 [2, 0, 1] (by decide)
   have hm : some (([] : List Int), 12) = some r := hm
   obtain rfl := Option.some.inj hm
   exact retD (rs := [.tmp 4, .tmp 5]) (vs := [.slice none (([] : List Int).length) 0, vi 12]) hF hS rfl (fun w hS => by exact rv_t (by kernel_rfl) <| rv_t (by kernel_rfl) <| rv_nil) rfl (fun w hS => ⟨_, rfl, none, 0, rfl, hS.pickN 2 [0] (by decide)⟩)
  ·replace hm := if_f hm hb
   refine rg [] [] [1, 2, 17] [pl 1 (vi by1), pl 2 (pa g1 0), pl 17 (.bool ((decide (by1 < 0)) || (decide ((1 : Int) < by1))))] hF hS obs_nil (fun a w hF hS => ?_)
   refine ce (t := 17) (b := (decide (by1 < 0)) || (decide ((1 : Int) < by1))) hF (fun hb => ?_) (fun hb => ?_)
   ·replace hm := if_t hm hb
    refine rg [] [] [4, 5] [pl 4 (.slice none 0 0), pl 5 (vi 3)] hF hS obs_nil (fun a w hF hS => ?_)
    refine wpIn_ret ?_
    refine block_r (then_r ?_)
    have hS : Sep w0 B w (own 3 (.slice none 0 0) (vI ([] : List Int)) :: blk g1 75 (ca A1 p1.length c1 p2 p3 p4 p5 p6) :: defsH ([]) :: fs) := hS.nil 3
    have hl2 := (hS.at_ 0 rfl).len1
    have hS := (hS.at_ 0 rfl).reN hl2
    have hS : Sep w0 B w (own 3 (.slice none (([] : List Int).length) 0) (vI ([] : List Int)) :: blk g1 75 (ca A1 p1.length c1 p2 p3 p4 p5 p6) :: defsH ([]) :: fs) := hS
    have hS := hS.pickN 3 [2, 0, 1] (by decide)
    have hm : some (([] : List Int), 3) = some r := hm
    obtain rfl := Option.some.inj hm
    exact retD (rs := [.tmp 4, .tmp 5]) (vs := [.slice none (([] : List Int).length) 0, vi 3]) hF hS rfl (fun w hS => by exact rv_t (by kernel_rfl) <| rv_t (by kernel_rfl) <| rv_nil) rfl (fun w hS => ⟨_, rfl, none, 0, rfl, hS.pickN 2 [0] (by decide)⟩)
   ·replace hm := if_f hm hb
    refine wpIn_skip ?_
    refine block_n ?_
    refine then_n ?_
    exact ⟨([]), hF.wk [1, 2], hS, hm⟩

def lw_sameInts_J4  (i1 : Int) : Option (St Int (Fl Unit Bool)) :=
 some (.next (w64 (i1 + 1)))

def lw_sameInts_J3  (a1 b1 : List Int) (i1 : Int) : Option (St Int (Fl Unit Bool)) :=
 asrt (0 ≤ i1 ∧ i1 < (a1.length : Int)) <| asrt (0 ≤ i1 ∧ i1 < (b1.length : Int)) <| if ((geti a1 i1) != (geti b1 i1)) then (some (.done (.ret false))) else ((lw_sameInts_J4 i1))

def lw_sameInts_J2  : Option Bool :=
 some true

def lw_sameInts_K1  : (Fl Unit Bool) → Option Bool :=
 fun (x : (Fl Unit Bool)) => match x with | .go _ => lw_sameInts_J2 | .ret x => some x

def lw_sameInts_L1  (a1 b1 : List Int) : Int → Option (St Int (Fl Unit Bool)) :=
 fun (x : Int) => match x with | i1 => if (decide (i1 < (a1.length : Int))) then ((lw_sameInts_J3 a1 b1 i1)) else (some (.done (.go ())))

def lw_sameInts_J1  (a1 b1 : List Int) : Option Bool :=
 (loop (lw_sameInts_L1 a1 b1) 0).bind lw_sameInts_K1

def lw_sameInts_m  (a1 b1 : List Int) : Option Bool :=
 if ((a1.length : Int) != (b1.length : Int)) then (some false) else ((lw_sameInts_J1 a1 b1))

theorem lw_sameInts_w {A1 : Option Addr} {c1 n1 : Nat} {a1 : List Int} {A2 : Option Addr} {c2 n2 : Nat} {b1 : List Int} {r : Bool} {w0 w : World} {B : Nat} {fs : List HP} (hm : lw_sameInts_m a1 b1 = some r) (hS : Sep w0 B w (fs)) (hr_a1 : RdF w0 B fs A1 (vI a1)) (_hc_a1 : a1.length ≤ c1) (_hn_a1 : n1 = a1.length) (hr_b1 : RdF w0 B fs A2 (vI b1)) (_hc_b1 : b1.length ≤ c2) (_hn_b1 : n2 = b1.length) :
  Calls Try.prog 25 #[.slice A1 n1 c1, .slice A2 n2 c2] w fun e w' => e = .returned (.bool r) ∧ Sep w0 B w' (fs) := by
 obtain ⟨i3, hi3, hz3, hs3, hb3⟩ := info_parts Info3
 obtain rfl := _hn_a1
 obtain rfl := _hn_b1
 unfold lw_sameInts_m at hm
 replace hm := start_b hm
 refine enter (l := [.slice A1 a1.length c1, .slice A2 b1.length c2]) (n := 26) Try.func25 rfl rfl (by simp) (fun a hF => ?_)
 refine rg [] [] [0, 1] [pl 0 (.slice A1 a1.length c1), pl 1 (.slice A2 b1.length c2)] hF hS obs_nil (fun a w hF hS => ?_)
 refine seq_cut (fun a w => Fr 26 [pl 0 (.slice A1 a1.length c1), pl 1 (.slice A2 b1.length c2)] a ∧ Sep w0 B w (fs) ∧ ((lw_sameInts_J1 a1 b1)).bind some = some r) ?_ ?_
 ·rintro a w ⟨hF, hS, hm⟩
  unfold lw_sameInts_J1 at hm
  refine seq_cut (fun a w => Fr 26 [] a ∧ Sep w0 B w (fs) ∧ (lw_sameInts_J2).bind some = some r) ?_ ?_
  ·rintro a w ⟨hF, hS, hm⟩
   unfold lw_sameInts_J2 at hm
   refine rg [] [] [4] [pl 4 (.bool true)] hF hS obs_nil (fun a w hF hS => ?_)
   refine wpIn_ret ?_
   have hm : some true = some r := hm
   obtain rfl := Option.some.inj hm
   exact retV (rs := [.tmp 4]) (vs := [.bool true]) hF rfl rv1 rfl ⟨rfl, hS⟩
  ·refine rg [] [] [0, 1, 5] [pl 0 (.slice A1 a1.length c1), pl 1 (.slice A2 b1.length c2), pl 5 (vi 0)] hF hS obs_nil (fun a w hF hS => ?_)
   refine wpIn_block ?_
   refine wp_loop_model (S := Int) (R := (Fl Unit Bool)) (lw_sameInts_L1 a1 b1) (fun x => (lw_sameInts_K1 x).bind some) r (fun (x : Int) a w => Fr 26 [pl 0 (.slice A1 a1.length c1), pl 1 (.slice A2 b1.length c2), pl 5 (vi x)] a ∧ Sep w0 B w (fs)) (assoc_b hm) ⟨hF.wk [0, 1, 5], hS⟩ ?_
   clear hF hS hm
   rintro nn1 i1 a w ⟨hF, hS⟩ hm
   generalize hφ1 : stK (lw_sameInts_L1 a1 b1) nn1 (fun x => (lw_sameInts_K1 x).bind some) = φ1 at hm
   unfold lw_sameInts_L1 at hm
   dsimp only at hm
   refine seq_cut (fun a w => Fr 26 [pl 0 (.slice A1 a1.length c1), pl 1 (.slice A2 b1.length c2), pl 5 (vi i1)] a ∧ Sep w0 B w (fs) ∧ ((lw_sameInts_J3 a1 b1 i1)).bind φ1 = some r) ?_ ?_
   ·rintro a w ⟨hF, hS, hm⟩
    unfold lw_sameInts_J3 at hm
    refine seq_cut (fun a w => Fr 26 [pl 0 (.slice A1 a1.length c1), pl 1 (.slice A2 b1.length c2), pl 5 (vi i1)] a ∧ Sep w0 B w (fs) ∧ ((lw_sameInts_J4 i1)).bind φ1 = some r) ?_ ?_
    ·rintro a w ⟨hF, hS, hm⟩
     unfold lw_sameInts_J4 at hm
     refine rg1 [] [] [0, 1, 5] [pl 0 (.slice A1 a1.length c1), pl 1 (.slice A2 b1.length c2), pl 5 (vi (w64 (i1 + 1)))] hF hS obs_nil (fun a w hF hS => ?_)
     refine then_n ?_
     rw [← hφ1] at hm
     exact ⟨(w64 (i1 + 1)), ⟨hF.wk [0, 1, 5], hS⟩, hm⟩
    ·refine wpIn_block ?_
     obtain ⟨hp1, hm⟩ := asrt_b hm
     obtain ⟨hp2, hm⟩ := asrt_b hm
     refine rg [⟨true, [], vS (Instr.indexAt 27 (.slice A1 a1.length c1) (vi i1)), .pointer (some (sAddr A1 i1))⟩, ⟨false, [], vS (Instr.loadAt 3 (.pointer (some (sAddr A1 i1)))), vi (geti a1 i1)⟩, ⟨true, [], vS (Instr.indexAt 27 (.slice A2 b1.length c2) (vi i1)), .pointer (some (sAddr A2 i1))⟩, ⟨false, [], vS (Instr.loadAt 3 (.pointer (some (sAddr A2 i1)))), vi (geti b1 i1)⟩] [none, none, some (.pointer (some (sAddr A1 i1))), some (vi (geti a1 i1)), none, none, some (.pointer (some (sAddr A2 i1))), some (vi (geti b1 i1)), none] [0, 1, 5, 25] [pl 0 (.slice A1 a1.length c1), pl 1 (.slice A2 b1.length c2), pl 5 (vi i1), pl 25 (.bool ((geti a1 i1) != (geti b1 i1)))] hF hS ?_ (fun a w hF hS => ?_)
     ·exact obs_cons (ob_ix1 (f := (Value.int .i64)) (m := a1) Und27 hi3 hs3 (hr_a1 _ (hS.dropN 0)) rfl (fun _ => hp1)) <| obs_cons (ob_get1 (n := a1.length) (m := a1) (Value.int .i64) (0 : Int) Agg3 (fun _ hS => ⟨_, (hr_a1 _ (hS.dropN 0))⟩) (fun _ hS => rfl) (fun _ => hp1)) <| obs_cons (ob_ix1 (f := (Value.int .i64)) (m := b1) Und27 hi3 hs3 (hr_b1 _ (hS.dropN 0)) rfl (fun _ => hp2)) <| obs_cons (ob_get1 (n := b1.length) (m := b1) (Value.int .i64) (0 : Int) Agg3 (fun _ hS => ⟨_, (hr_b1 _ (hS.dropN 0))⟩) (fun _ hS => rfl) (fun _ => hp2)) <| obs_nil
     refine ce (t := 25) (b := ((geti a1 i1) != (geti b1 i1))) hF (fun hb => ?_) (fun hb => ?_)
     ·replace hm := if_t hm hb
      refine rg [] [] [4] [pl 4 (.bool false)] hF hS obs_nil (fun a w hF hS => ?_)
      refine wpIn_ret ?_
      refine block_r (then_r (then_r (block_r (then_r ?_))))
      rw [← hφ1] at hm
      replace hm := done_b hm
      unfold lw_sameInts_K1 at hm
      try dsimp only at hm
      have hm : some false = some r := hm
      obtain rfl := Option.some.inj hm
      exact retV (rs := [.tmp 4]) (vs := [.bool false]) hF rfl rv1 rfl ⟨rfl, hS⟩
     ·replace hm := if_f hm hb
      refine wpIn_skip ?_
      refine block_n ?_
      refine then_n ?_
      exact ⟨hF.wk [0, 1, 5], hS, hm⟩
   ·refine rg [] [] [0, 1, 5, 14] [pl 0 (.slice A1 a1.length c1), pl 1 (.slice A2 b1.length c2), pl 5 (vi i1), pl 14 (.bool (decide (i1 < (a1.length : Int))))] hF hS obs_nil (fun a w hF hS => ?_)
    refine ce (t := 14) (b := decide (i1 < (a1.length : Int))) hF (fun hb => ?_) (fun hb => ?_)
    ·replace hm := if_t hm hb
     refine wpIn_skip ?_
     refine then_n ?_
     exact ⟨hF.wk [0, 1, 5], hS, hm⟩
    ·replace hm := if_f hm hb
     refine wpIn_exit ?_
     refine then_e (then_e (block_e (then_n ?_)))
     rw [← hφ1] at hm
     replace hm := done_b hm
     unfold lw_sameInts_K1 at hm
     try dsimp only at hm
     have hm : (lw_sameInts_J2).bind some = some r := hm
     exact ⟨hF.wk [], hS, hm⟩
 ·refine rg [] [] [0, 1, 10] [pl 0 (.slice A1 a1.length c1), pl 1 (.slice A2 b1.length c2), pl 10 (.bool ((a1.length : Int) != (b1.length : Int)))] hF hS obs_nil (fun a w hF hS => ?_)
  refine ce (t := 10) (b := ((a1.length : Int) != (b1.length : Int))) hF (fun hb => ?_) (fun hb => ?_)
  ·replace hm := if_t hm hb
   refine rg [] [] [4] [pl 4 (.bool false)] hF hS obs_nil (fun a w hF hS => ?_)
   refine wpIn_ret ?_
   refine then_r ?_
   have hm : some false = some r := hm
   obtain rfl := Option.some.inj hm
   exact retV (rs := [.tmp 4]) (vs := [.bool false]) hF rfl rv1 rfl ⟨rfl, hS⟩
  ·replace hm := if_f hm hb
   refine wpIn_skip ?_
   refine then_n ?_
   exact ⟨hF.wk [0, 1], hS, hm⟩

def rf_CoveredOf_J3  (to1 : Int) (l3 : List Int) : Option (St (List Int × Int) (List Int)) :=
 some (.next (l3, (w64 (to1 + 1))))

def rf_CoveredOf_J2  (p1 : List Int) (by1 : Int) (l1 : List Int) (to1 : Int) : Option (St (List Int × Int) (List Int)) :=
 (rf_AttackersOf_m p1 to1 by1).bind fun r1 => if (decide ((0 : Int) < (r1.length : Int))) then (asrt ((l1.length : Int) + 1 ≤ bigN) <| (rf_CoveredOf_J3 to1) (l1 ++ ([to1] : List Int))) else ((rf_CoveredOf_J3 to1) l1)

def rf_CoveredOf_J1  (l2 : List Int) : Option (List Int) :=
 some l2

def rf_CoveredOf_K1  : (List Int) → Option (List Int) :=
 fun (x : (List Int)) => match x with | l2 => rf_CoveredOf_J1 l2

def rf_CoveredOf_L1  (p1 : List Int) (by1 : Int) : (List Int × Int) → Option (St (List Int × Int) (List Int)) :=
 fun (x : (List Int × Int)) => match x with | (l1, to1) => if (decide (to1 < 64)) then ((rf_CoveredOf_J2 p1 by1 l1 to1)) else (some (.done l1))

def rf_CoveredOf_m  (p1 : List Int) (p2 p3 : Int) (p4 p5 : Int) (p6 by1 : Int) : Option (List Int) :=
 (loop (rf_CoveredOf_L1 p1 by1) (([] : List Int), 0)).bind rf_CoveredOf_K1

theorem rf_CoveredOf_w {A1 : Option Addr} {c1 n1 : Nat} {p1 : List Int} {p2 p3 : Int} {p4 p5 : Int} {p6 by1 : Int} {r : (List Int)} {w0 w : World} {B : Nat} {fs : List HP} (hm : rf_CoveredOf_m p1 p2 p3 p4 p5 p6 by1 = some r) (hS : Sep w0 B w (fs)) (hr_p1 : RdF w0 B fs A1 (vI p1)) (_hc_p1 : p1.length ≤ c1) (_hn_p1 : n1 = p1.length) :
  Calls Try.prog 65 #[.agg (ca A1 n1 c1 p2 p3 p4 p5 p6), vi by1] w fun e w' => ∃ v, e = .returned v ∧ ∃ (A7 : Option Addr) (c7 : Nat), v = .slice A7 r.length c7 ∧ Sep w0 B w' (own 3 (.slice A7 r.length c7) (vI r) :: fs) := by
 obtain ⟨i3, hi3, hz3, hs3, hb3⟩ := info_parts Info3
 obtain rfl := _hn_p1
 unfold rf_CoveredOf_m at hm
 replace hm := start_b hm
 refine enter (l := [.agg (ca A1 p1.length c1 p2 p3 p4 p5 p6), vi by1]) (n := 23) Try.func65 rfl rfl (by simp) (fun a hF => ?_)
 refine seqR ?_
 refine at_do (d := 2) (s := vS (Instr.box 75 (.agg (ca A1 p1.length c1 p2 p3 p4 p5 p6)))) (v := pa w.heap.size 0) (w' := w.alloc (.cells (ca A1 p1.length c1 p2 p3 p4 p5 p6) 75)) hF (by kernel_rfl) (by kernel_rfl) (by kernel_rfl) (fun a hF => ?_)
 have hS : Sep w0 B (w.alloc (.cells (ca A1 p1.length c1 p2 p3 p4 p5 p6) 75)) (blk w.heap.size 75 (ca A1 p1.length c1 p2 p3 p4 p5 p6) :: (fs)) := hS.box 75 (ca A1 p1.length c1 p2 p3 p4 p5 p6)
 generalize w.heap.size = g1 at hF hS
 generalize w.alloc (.cells (ca A1 p1.length c1 p2 p3 p4 p5 p6) 75) = w at hS ⊢
 refine ar 1 [] [] [1, 2] [pl 1 (vi by1), pl 2 (pa g1 0)] hF hS obs_nil (fun a w hF hS => ?_)
 refine ae [1, 2] [pl 1 (vi by1), pl 2 (pa g1 0)] hF rfl (fun hF => ?_)
 refine then_n ?_
 refine rg [] [] [1, 2, 5] [pl 1 (vi by1), pl 2 (pa g1 0), pl 5 (.slice none 0 0)] hF hS obs_nil (fun a w hF hS => ?_)
 refine seq_cut (fun a w => ∃ (l2 : List Int) (A3 : Option Addr) (c3 : Nat), Fr 23 [pl 5 (.slice A3 l2.length c3)] a ∧ Sep w0 B w (own 3 (.slice A3 l2.length c3) (vI l2) :: fs) ∧ (rf_CoveredOf_J1 l2).bind some = some r) ?_ ?_
 ·rintro a w ⟨l2, A3, c3, hF, hS, hm⟩
  unfold rf_CoveredOf_J1 at hm
  refine rg [] [] [4] [pl 4 (.slice A3 l2.length c3)] hF hS obs_nil (fun a w hF hS => ?_)
  refine wpIn_ret ?_
  have hm : some l2 = some r := hm
  obtain rfl := Option.some.inj hm
  exact retV (rs := [.tmp 4]) (vs := [.slice A3 l2.length c3]) hF rfl rv1 rfl ⟨_, rfl, A3, c3, rfl, hS⟩
 ·refine rg [] [] [1, 2, 5, 6] [pl 1 (vi by1), pl 2 (pa g1 0), pl 5 (.slice none 0 0), pl 6 (vi 0)] hF hS obs_nil (fun a w hF hS => ?_)
  refine wpIn_block ?_
  have hS : Sep w0 B w (own 3 (.slice none 0 0) (vI ([] : List Int)) :: blk g1 75 (ca A1 p1.length c1 p2 p3 p4 p5 p6) :: fs) := hS.nil 3
  have hl1 := (hS.at_ 0 rfl).len1
  have hS := (hS.at_ 0 rfl).reN hl1
  have hS : Sep w0 B w (own 3 (.slice none (([] : List Int).length) 0) (vI ([] : List Int)) :: blk g1 75 (ca A1 p1.length c1 p2 p3 p4 p5 p6) :: fs) := hS
  have hF := hF.cast (t := 5) (v := .slice none 0 0) (v' := .slice none (([] : List Int).length) 0) rfl rfl (congrArg (fun k => Value.slice none k 0) hl1)
  have hS := hS.pickN 2 [1, 0] (by decide)
  refine wp_loop_model (S := (List Int × Int)) (R := (List Int)) (rf_CoveredOf_L1 p1 by1) (fun x => (rf_CoveredOf_K1 x).bind some) r (fun (x : (List Int × Int)) a w => ∃ (A2 : Option Addr) (c2 : Nat), Fr 23 [pl 1 (vi by1), pl 2 (pa g1 0), pl 5 (.slice A2 x.1.length c2), pl 6 (vi x.2)] a ∧ Sep w0 B w (blk g1 75 (ca A1 p1.length c1 p2 p3 p4 p5 p6) :: own 3 (.slice A2 x.1.length c2) (vI x.1) :: fs)) (assoc_b hm) ⟨none, 0, hF.wk [1, 2, 5, 6], hS⟩ ?_
  clear hF hS hm
  rintro nn1 ⟨l1, to1⟩ a w ⟨A2, c2, hF, hS⟩ hm
  generalize hφ1 : stK (rf_CoveredOf_L1 p1 by1) nn1 (fun x => (rf_CoveredOf_K1 x).bind some) = φ1 at hm
  unfold rf_CoveredOf_L1 at hm
  dsimp only at hF hS hm
  refine seq_cut (fun a w => Fr 23 [pl 1 (vi by1), pl 2 (pa g1 0), pl 5 (.slice A2 l1.length c2), pl 6 (vi to1)] a ∧ Sep w0 B w (blk g1 75 (ca A1 p1.length c1 p2 p3 p4 p5 p6) :: own 3 (.slice A2 l1.length c2) (vI l1) :: fs) ∧ ((rf_CoveredOf_J2 p1 by1 l1 to1)).bind φ1 = some r) ?_ ?_
  ·rintro a w ⟨hF, hS, hm⟩
   unfold rf_CoveredOf_J2 at hm
   refine seq_cut (fun a w => ∃ (l3 : List Int) (A6 : Option Addr) (c6 : Nat), Fr 23 [pl 1 (vi by1), pl 2 (pa g1 0), pl 5 (.slice A6 l3.length c6), pl 6 (vi to1)] a ∧ Sep w0 B w (blk g1 75 (ca A1 p1.length c1 p2 p3 p4 p5 p6) :: own 3 (.slice A6 l3.length c6) (vI l3) :: fs) ∧ ((rf_CoveredOf_J3 to1) l3).bind φ1 = some r) ?_ ?_
   ·rintro a w ⟨l3, A6, c6, hF, hS, hm⟩
    unfold rf_CoveredOf_J3 at hm
    refine rg1 [] [] [1, 2, 5, 6] [pl 1 (vi by1), pl 2 (pa g1 0), pl 5 (.slice A6 l3.length c6), pl 6 (vi (w64 (to1 + 1)))] hF hS obs_nil (fun a w hF hS => ?_)
    refine then_n ?_
    rw [← hφ1] at hm
    exact ⟨(l3, (w64 (to1 + 1))), ⟨A6, c6, hF.wk [1, 2, 5, 6], hS⟩, hm⟩
   ·refine wpIn_block ?_
    refine seqR ?_
    obtain ⟨r1, hr1, hm⟩ := call_b hm
    refine ar 4 [⟨false, [], vS (Instr.loadAt 27 (pa g1 0)), .slice A1 p1.length c1⟩] [none, some (.slice A1 p1.length c1), none, none] [1, 2, 5, 6, 12, 13, 14] [pl 1 (vi by1), pl 2 (pa g1 0), pl 5 (.slice A2 l1.length c2), pl 6 (vi to1), pl 12 (.slice A1 p1.length c1), pl 13 (vi to1), pl 14 (vi by1)] hF hS ?_ (fun a w hF hS => ?_)
    ·exact obs_cons (ob_load Agg27 (fun _ _ hS => (hS.at_ 0 rfl).cell rfl)) <| obs_nil
    refine at_call (f := 146) (args := #[.slice A1 p1.length c1, vi to1, vi by1]) (d := 15) hF (by kernel_rfl) (by kernel_rfl) Try.func146 (by kernel_rfl) rfl (rf_AttackersOf_w hr1 hS (fun _ hS => (hr_p1 _ (hS.dropN 2))) _hc_p1 rfl) (fun v a w hR hF => ?_)
    clear hS
    obtain ⟨A4, c4, rfl, hS⟩ := hR
    have hS : Sep w0 B w (own 3 (.slice A4 r1.length c4) (vI r1) :: blk g1 75 (ca A1 p1.length c1 p2 p3 p4 p5 p6) :: own 3 (.slice A2 l1.length c2) (vI l1) :: fs) := hS
    refine ar 2 [] [] [1, 2, 5, 6, 17] [pl 1 (vi by1), pl 2 (pa g1 0), pl 5 (.slice A2 l1.length c2), pl 6 (vi to1), pl 17 (.bool (decide ((0 : Int) < (r1.length : Int))))] hF hS obs_nil (fun a w hF hS => ?_)
    refine ae [1, 2, 5, 6, 17] [pl 1 (vi by1), pl 2 (pa g1 0), pl 5 (.slice A2 l1.length c2), pl 6 (vi to1), pl 17 (.bool (decide ((0 : Int) < (r1.length : Int))))] hF rfl (fun hF => ?_)
    refine then_n ?_
    refine ce (t := 17) (b := decide ((0 : Int) < (r1.length : Int))) hF (fun hb => ?_) (fun hb => ?_)
    ·replace hm := if_t hm hb
     refine oneR ?_
     obtain ⟨hp1, hm⟩ := asrt_b hm
     refine ar 2 [] [] [1, 2, 6, 18, 19] [pl 1 (vi by1), pl 2 (pa g1 0), pl 6 (vi to1), pl 18 (.slice A2 l1.length c2), pl 19 (vi to1)] hF hS obs_nil (fun a w hF hS => ?_)
     refine at_do (d := 20) (s := vS (Instr.buildSlice 27 1 #[(0, vi to1)])) (v := .slice (some ⟨w.heap.size, 0, none⟩) 1 1) (w' := w.alloc (.cells #[vi to1] 3)) hF (by kernel_rfl) (by kernel_rfl) (by kernel_rfl) (fun a hF => ?_)
     have hS : Sep w0 B (w.alloc (.cells #[vi to1] 3)) (own 3 (.slice (some (⟨w.heap.size, 0, none⟩ : Addr)) 1 1) (vI ([to1] : List Int)) :: (own 3 (.slice A4 r1.length c4) (vI r1) :: blk g1 75 (ca A1 p1.length c1 p2 p3 p4 p5 p6) :: own 3 (.slice A2 l1.length c2) (vI l1) :: fs)) := hS.lit 3 #[vi to1] 1 rfl (by omega)
     generalize (some (⟨w.heap.size, 0, none⟩ : Addr)) = g2 at hF hS
     generalize w.alloc (.cells #[vi to1] 3) = w at hS ⊢
     obtain ⟨A5, c5, w, hrun, hS⟩ := run_app1 (P := Try.prog) (t := 27) (m := l1) (ys := ([to1] : List Int)) (A2 := g2) (m2 := 1) (c2 := 1) (Value.int .i64) (0 : Int) (hS.at_ 3 rfl) (hS.at_ 0 rfl).rd ((hS.at_ 0 rfl).len1) 27 Und27 hi3 hz3 hs3 (by omega) rfl (fun _ => rfl) hp1
     have hS : Sep w0 B w (own 3 (.slice g2 1 1) (vI ([to1] : List Int)) :: own 3 (.slice A4 r1.length c4) (vI r1) :: blk g1 75 (ca A1 p1.length c1 p2 p3 p4 p5 p6) :: own 3 (.slice A5 ((l1 ++ ([to1] : List Int)).length) c5) (vI (l1 ++ ([to1] : List Int))) :: fs) := hS
     refine ad (d := 21) hF hrun (fun a hF => ?_)
     refine ar 1 [] [] [1, 2, 5, 6] [pl 1 (vi by1), pl 2 (pa g1 0), pl 5 (.slice A5 ((l1 ++ ([to1] : List Int)).length) c5), pl 6 (vi to1)] hF hS obs_nil (fun a w hF hS => ?_)
     refine ae [1, 2, 5, 6] [pl 1 (vi by1), pl 2 (pa g1 0), pl 5 (.slice A5 ((l1 ++ ([to1] : List Int)).length) c5), pl 6 (vi to1)] hF rfl (fun hF => ?_)
     refine block_n ?_
     refine then_n ?_
     have hS := hS.pickN 4 [2, 3] (by decide)
     exact ⟨(l1 ++ ([to1] : List Int)), A5, c5, hF.wk [1, 2, 5, 6], hS, hm⟩
    ·replace hm := if_f hm hb
     refine wpIn_skip ?_
     refine block_n ?_
     refine then_n ?_
     have hS := hS.pickN 3 [1, 2] (by decide)
     exact ⟨l1, A2, c2, hF.wk [1, 2, 5, 6], hS, hm⟩
  ·refine rg [] [] [1, 2, 5, 6, 8] [pl 1 (vi by1), pl 2 (pa g1 0), pl 5 (.slice A2 l1.length c2), pl 6 (vi to1), pl 8 (.bool (decide (to1 < 64)))] hF hS obs_nil (fun a w hF hS => ?_)
   refine ce (t := 8) (b := decide (to1 < 64)) hF (fun hb => ?_) (fun hb => ?_)
   ·replace hm := if_t hm hb
    refine wpIn_skip ?_
    refine then_n ?_
    exact ⟨hF.wk [1, 2, 5, 6], hS, hm⟩
   ·replace hm := if_f hm hb
    refine wpIn_exit ?_
    refine then_e (then_e (block_e (then_n ?_)))
    have hS := hS.pickN 2 [1] (by decide)
    rw [← hφ1] at hm
    replace hm := done_b hm
    unfold rf_CoveredOf_K1 at hm
    try dsimp only at hm
    have hm : (rf_CoveredOf_J1 l1).bind some = some r := hm
    exact ⟨l1, A2, c2, hF.wk [5], hS, hm⟩

def rf_MatesIn_J3  (i1 : Int) : Option (St Int (Fl Unit Bool)) :=
 some (.next (w64 (i1 + 1)))

def rf_MatesIn_J2  (rec_rf_movesMates : List Int → Int → Int → Int → Int → Int → Int → Option Bool) (p1 : List Int) (p2 p3 : Int) (p4 p5 : Int) (p6 n2 : Int) (r1 : (List MvT)) (i1 : Int) : Option (St Int (Fl Unit Bool)) :=
 asrt (0 ≤ i1 ∧ i1 < (r1.length : Int)) <| (rf_MoveDone_m p1 p2 p3 p4 p5 p6 ((getd ((0, 0, 0) : MvT) r1 i1).1) ((getd ((0, 0, 0) : MvT) r1 i1).2.1) ((getd ((0, 0, 0) : MvT) r1 i1).2.2)).bind fun r2 => (rec_rf_movesMates r2.1 r2.2.1 r2.2.2.1 r2.2.2.2.1 r2.2.2.2.2.1 r2.2.2.2.2.2 n2).bind fun r3 => if r3 then (some (.done (.ret true))) else ((rf_MatesIn_J3 i1))

def rf_MatesIn_J1  : Option Bool :=
 some false

def rf_MatesIn_K1  : (Fl Unit Bool) → Option Bool :=
 fun (x : (Fl Unit Bool)) => match x with | .go _ => rf_MatesIn_J1 | .ret x => some x

def rf_MatesIn_L1  (rec_rf_movesMates : List Int → Int → Int → Int → Int → Int → Int → Option Bool) (p1 : List Int) (p2 p3 : Int) (p4 p5 : Int) (p6 n2 : Int) (r1 : (List MvT)) : Int → Option (St Int (Fl Unit Bool)) :=
 fun (x : Int) => match x with | i1 => if (decide (i1 < (r1.length : Int))) then ((rf_MatesIn_J2 rec_rf_movesMates p1 p2 p3 p4 p5 p6 n2 r1 i1)) else (some (.done (.go ())))

def rf_MatesIn_m  (rec_rf_movesMates : List Int → Int → Int → Int → Int → Int → Int → Option Bool) (p1 : List Int) (p2 p3 : Int) (p4 p5 : Int) (p6 n2 : Int) : Option Bool :=
 (rf_MovesAll_m p1 p2 p3 p4 p5 p6).bind fun r1 => (loop (rf_MatesIn_L1 rec_rf_movesMates p1 p2 p3 p4 p5 p6 n2 r1) 0).bind rf_MatesIn_K1

theorem rf_MatesIn_w {rec_rf_movesMates : List Int → Int → Int → Int → Int → Int → Int → Option Bool} (ih_rf_movesMates : ∀ {A1 : Option Addr} {c1 n1 : Nat} {q1 : List Int} {q2 q3 : Int} {q4 q5 : Int} {q6 n2 : Int} {r : Bool} {w0 w : World} {B : Nat} {fs : List HP} (_ : rec_rf_movesMates q1 q2 q3 q4 q5 q6 n2 = some r) (_ : Sep w0 B w (fs)) (hr_q1 : RdF w0 B fs A1 (vI q1)) (_hc_q1 : q1.length ≤ c1) (_hn_q1 : n1 = q1.length), Calls Try.prog 147 #[.agg (ca A1 n1 c1 q2 q3 q4 q5 q6), vi n2] w fun e w' => e = .returned (.bool r) ∧ Sep w0 B w' (fs)) {A1 : Option Addr} {c1 n1 : Nat} {p1 : List Int} {p2 p3 : Int} {p4 p5 : Int} {p6 n2 : Int} {r : Bool} {w0 w : World} {B : Nat} {fs : List HP} (hm : rf_MatesIn_m rec_rf_movesMates p1 p2 p3 p4 p5 p6 n2 = some r) (hS : Sep w0 B w (fs)) (hr_p1 : RdF w0 B fs A1 (vI p1)) (_hc_p1 : p1.length ≤ c1) (_hn_p1 : n1 = p1.length) :
  Calls Try.prog 215 #[.agg (ca A1 n1 c1 p2 p3 p4 p5 p6), vi n2] w fun e w' => e = .returned (.bool r) ∧ Sep w0 B w' (fs) := by
 obtain ⟨i3, hi3, hz3, hs3, hb3⟩ := info_parts Info3
 obtain ⟨i88, hi88, hz88, hs88, hb88⟩ := info_parts Info88
 obtain rfl := _hn_p1
 unfold rf_MatesIn_m at hm
 replace hm := start_b hm
 refine enter (l := [.agg (ca A1 p1.length c1 p2 p3 p4 p5 p6), vi n2]) (n := 23) Try.func215 rfl rfl (by simp) (fun a hF => ?_)
 refine seqR ?_
 refine at_do (d := 2) (s := vS (Instr.box 75 (.agg (ca A1 p1.length c1 p2 p3 p4 p5 p6)))) (v := pa w.heap.size 0) (w' := w.alloc (.cells (ca A1 p1.length c1 p2 p3 p4 p5 p6) 75)) hF (by kernel_rfl) (by kernel_rfl) (by kernel_rfl) (fun a hF => ?_)
 have hS : Sep w0 B (w.alloc (.cells (ca A1 p1.length c1 p2 p3 p4 p5 p6) 75)) (blk w.heap.size 75 (ca A1 p1.length c1 p2 p3 p4 p5 p6) :: (fs)) := hS.box 75 (ca A1 p1.length c1 p2 p3 p4 p5 p6)
 generalize w.heap.size = g1 at hF hS
 generalize w.alloc (.cells (ca A1 p1.length c1 p2 p3 p4 p5 p6) 75) = w at hS ⊢
 refine ar 1 [] [] [1, 2] [pl 1 (vi n2), pl 2 (pa g1 0)] hF hS obs_nil (fun a w hF hS => ?_)
 refine ae [1, 2] [pl 1 (vi n2), pl 2 (pa g1 0)] hF rfl (fun hF => ?_)
 refine then_n (seqR ?_)
 obtain ⟨r1, hr1, hm⟩ := call_b hm
 refine ar 1 [⟨false, [], vS (Instr.loadAt 75 (pa g1 0)), .agg (ca A1 p1.length c1 p2 p3 p4 p5 p6)⟩] [some (.agg (ca A1 p1.length c1 p2 p3 p4 p5 p6))] [1, 2, 7] [pl 1 (vi n2), pl 2 (pa g1 0), pl 7 (.agg (ca A1 p1.length c1 p2 p3 p4 p5 p6))] hF hS ?_ (fun a w hF hS => ?_)
 ·exact obs_cons (oA (cs := (ca A1 p1.length c1 p2 p3 p4 p5 p6)) (fun _ _ hS => (hS.at_ 0 rfl).cellsAt 0 (by rfl))) <| obs_nil
 refine at_call (f := 58) (args := #[.agg (ca A1 p1.length c1 p2 p3 p4 p5 p6)]) (d := 8) hF (by kernel_rfl) (by kernel_rfl) Try.func58 (by kernel_rfl) rfl (rf_MovesAll_w hr1 hS (fun _ hS => (hr_p1 _ (hS.dropN 1))) _hc_p1 rfl) (fun v a w hR hF => ?_)
 clear hS
 obtain ⟨A2, c2, rfl, hS⟩ := hR
 have hS : Sep w0 B w (ownK 88 3 A2 r1.length c2 (List.flatMap enc88 r1) :: blk g1 75 (ca A1 p1.length c1 p2 p3 p4 p5 p6) :: fs) := hS
 refine ar 1 [] [] [1, 2, 5] [pl 1 (vi n2), pl 2 (pa g1 0), pl 5 (.slice A2 r1.length c2)] hF hS obs_nil (fun a w hF hS => ?_)
 refine ae [1, 2, 5] [pl 1 (vi n2), pl 2 (pa g1 0), pl 5 (.slice A2 r1.length c2)] hF rfl (fun hF => ?_)
 refine then_n ?_
 refine seq_cut (fun a w => Fr 23 [] a ∧ Sep w0 B w (fs) ∧ (rf_MatesIn_J1).bind some = some r) ?_ ?_
 ·rintro a w ⟨hF, hS, hm⟩
  unfold rf_MatesIn_J1 at hm
  refine rg [] [] [4] [pl 4 (.bool false)] hF hS obs_nil (fun a w hF hS => ?_)
  refine wpIn_ret ?_
  have hm : some false = some r := hm
  obtain rfl := Option.some.inj hm
  exact retV (rs := [.tmp 4]) (vs := [.bool false]) hF rfl rv1 rfl ⟨rfl, hS⟩
 ·refine rg [] [] [1, 2, 5, 6] [pl 1 (vi n2), pl 2 (pa g1 0), pl 5 (.slice A2 r1.length c2), pl 6 (vi 0)] hF hS obs_nil (fun a w hF hS => ?_)
  refine wpIn_block ?_
  have hS := hS.pickN 2 [1, 0] (by decide)
  refine wp_loop_model (S := Int) (R := (Fl Unit Bool)) (rf_MatesIn_L1 rec_rf_movesMates p1 p2 p3 p4 p5 p6 n2 r1) (fun x => (rf_MatesIn_K1 x).bind some) r (fun (x : Int) a w => Fr 23 [pl 1 (vi n2), pl 2 (pa g1 0), pl 5 (.slice A2 r1.length c2), pl 6 (vi x)] a ∧ Sep w0 B w (blk g1 75 (ca A1 p1.length c1 p2 p3 p4 p5 p6) :: ownK 88 3 A2 r1.length c2 (List.flatMap enc88 r1) :: fs)) (assoc_b hm) ⟨hF.wk [1, 2, 5, 6], hS⟩ ?_
  clear hF hS hm
  rintro nn1 i1 a w ⟨hF, hS⟩ hm
  generalize hφ1 : stK (rf_MatesIn_L1 rec_rf_movesMates p1 p2 p3 p4 p5 p6 n2 r1) nn1 (fun x => (rf_MatesIn_K1 x).bind some) = φ1 at hm
  unfold rf_MatesIn_L1 at hm
  dsimp only at hm
  refine seq_cut (fun a w => Fr 23 [pl 1 (vi n2), pl 2 (pa g1 0), pl 5 (.slice A2 r1.length c2), pl 6 (vi i1)] a ∧ Sep w0 B w (blk g1 75 (ca A1 p1.length c1 p2 p3 p4 p5 p6) :: ownK 88 3 A2 r1.length c2 (List.flatMap enc88 r1) :: fs) ∧ ((rf_MatesIn_J2 rec_rf_movesMates p1 p2 p3 p4 p5 p6 n2 r1 i1)).bind φ1 = some r) ?_ ?_
  ·rintro a w ⟨hF, hS, hm⟩
   unfold rf_MatesIn_J2 at hm
   refine seq_cut (fun a w => Fr 23 [pl 1 (vi n2), pl 2 (pa g1 0), pl 5 (.slice A2 r1.length c2), pl 6 (vi i1)] a ∧ Sep w0 B w (blk g1 75 (ca A1 p1.length c1 p2 p3 p4 p5 p6) :: ownK 88 3 A2 r1.length c2 (List.flatMap enc88 r1) :: fs) ∧ ((rf_MatesIn_J3 i1)).bind φ1 = some r) ?_ ?_
   ·rintro a w ⟨hF, hS, hm⟩
    unfold rf_MatesIn_J3 at hm
    refine rg1 [] [] [1, 2, 5, 6] [pl 1 (vi n2), pl 2 (pa g1 0), pl 5 (.slice A2 r1.length c2), pl 6 (vi (w64 (i1 + 1)))] hF hS obs_nil (fun a w hF hS => ?_)
    refine then_n ?_
    rw [← hφ1] at hm
    exact ⟨(w64 (i1 + 1)), ⟨hF.wk [1, 2, 5, 6], hS⟩, hm⟩
   ·refine wpIn_block ?_
    refine wpIn_seq ?_
    obtain ⟨hp1, hm⟩ := asrt_b hm
    obtain ⟨r2, hr2, hm⟩ := call_b hm
    obtain ⟨r3, hr3, hm⟩ := call_b hm
    refine regMix4 [0, 1, 2, 3, 4, 6] [5, 7] [⟨false, [], vS (Instr.loadAt 75 (pa g1 0)), .agg (ca A1 p1.length c1 p2 p3 p4 p5 p6)⟩, ⟨true, [], vS (Instr.indexAt 81 (.slice A2 r1.length c2) (vi i1)), .pointer (some (sAddrK A2 3 i1))⟩, ⟨false, [], vS (Instr.loadAt 88 (.pointer (some (sAddrK A2 3 i1)))), .agg #[vi ((getd ((0, 0, 0) : MvT) r1 i1).1), vi ((getd ((0, 0, 0) : MvT) r1 i1).2.1), vi ((getd ((0, 0, 0) : MvT) r1 i1).2.2)]⟩] [some (.agg (ca A1 p1.length c1 p2 p3 p4 p5 p6)), none, none, some (.pointer (some (sAddrK A2 3 i1))), some (.agg #[vi ((getd ((0, 0, 0) : MvT) r1 i1).1), vi ((getd ((0, 0, 0) : MvT) r1 i1).2.1), vi ((getd ((0, 0, 0) : MvT) r1 i1).2.2)]), none] [1, 2, 5, 6, 15, 19, 21] [pl 1 (vi n2), pl 2 (pa g1 0), pl 5 (.slice A2 r1.length c2), pl 6 (vi i1), pl 15 (.agg (ca A1 p1.length c1 p2 p3 p4 p5 p6)), pl 19 (.agg #[vi ((getd ((0, 0, 0) : MvT) r1 i1).1), vi ((getd ((0, 0, 0) : MvT) r1 i1).2.1), vi ((getd ((0, 0, 0) : MvT) r1 i1).2.2)]), pl 21 (vi n2)] hF hS Fol (by kernel_rfl) (by kernel_rfl) (by kernel_rfl) (by kernel_rfl) (by kernel_rfl) ?_ (fun a w hF hS => ?_)
    ·exact obs_cons (oA (cs := (ca A1 p1.length c1 p2 p3 p4 p5 p6)) (fun _ _ hS => (hS.at_ 0 rfl).cellsAt 0 (by rfl))) <| obs_cons (ob_ixK (m := r1) encK88 Und81 hi88 hs88 (hS.at_ 1 rfl).rdK rfl (fun _ => hp1)) <| obs_cons (ob_getK (n := r1.length) (m := r1) encK88 ((0, 0, 0) : MvT) (by kernel_rfl) (by kernel_rfl) (fun _ hS => ⟨_, (hS.at_ 1 rfl).rdK⟩) (fun _ hS => rfl) (fun _ => hp1)) <| obs_nil
    refine at_call (f := 62) (args := #[.agg (ca A1 p1.length c1 p2 p3 p4 p5 p6), .agg #[vi ((getd ((0, 0, 0) : MvT) r1 i1).1), vi ((getd ((0, 0, 0) : MvT) r1 i1).2.1), vi ((getd ((0, 0, 0) : MvT) r1 i1).2.2)]]) (d := 20) hF (by kernel_rfl) (by kernel_rfl) Try.func62 (by kernel_rfl) rfl (rf_MoveDone_w hr2 hS (fun _ hS => (hr_p1 _ (hS.dropN 2))) _hc_p1 rfl) (fun v a w hR hF => ?_)
    clear hS
    obtain ⟨A3, c3, rfl, hS⟩ := hR
    have hS : Sep w0 B w (own 3 (.slice A3 r2.1.length c3) (vI r2.1) :: blk g1 75 (ca A1 p1.length c1 p2 p3 p4 p5 p6) :: ownK 88 3 A2 r1.length c2 (List.flatMap enc88 r1) :: fs) := hS
    refine ar 1 [⟨false, [], callFunc 147 #[.agg (ca A3 r2.1.length c3 r2.2.1 r2.2.2.1 r2.2.2.2.1 r2.2.2.2.2.1 r2.2.2.2.2.2), vi n2], .bool r3⟩] [some (.bool r3)] [1, 2, 5, 6, 22] [pl 1 (vi n2), pl 2 (pa g1 0), pl 5 (.slice A2 r1.length c2), pl 6 (vi i1), pl 22 (.bool r3)] hF hS ?_ (fun a w hF hS => ?_)
    ·exact obs_cons (ob_call Try.func147 (by kernel_rfl) rfl (fun _ _ hS => ih_rf_movesMates hr3 hS (fun _ hS => (hS.at_ 0 rfl).rd) ((hS.at_ 0 rfl).cap1) rfl)) <| obs_nil
    refine ae [1, 2, 5, 6, 22] [pl 1 (vi n2), pl 2 (pa g1 0), pl 5 (.slice A2 r1.length c2), pl 6 (vi i1), pl 22 (.bool r3)] hF rfl (fun hF => ?_)
    refine np_n ?_
    refine then_n ?_
    refine ce (t := 22) (b := r3) hF (fun hb => ?_) (fun hb => ?_)
    ·replace hm := if_t hm hb
     refine rg [] [] [4] [pl 4 (.bool true)] hF hS obs_nil (fun a w hF hS => ?_)
     refine wpIn_ret ?_
     refine block_r (then_r (then_r (block_r (then_r ?_))))
     rw [← hφ1] at hm
     replace hm := done_b hm
     unfold rf_MatesIn_K1 at hm
     try dsimp only at hm
     have hS := hS.pickN 3 [] (by decide)
     have hm : some true = some r := hm
     obtain rfl := Option.some.inj hm
     exact retV (rs := [.tmp 4]) (vs := [.bool true]) hF rfl rv1 rfl ⟨rfl, hS⟩
    ·replace hm := if_f hm hb
     refine wpIn_skip ?_
     refine block_n ?_
     refine then_n ?_
     have hS := hS.pickN 3 [1, 2] (by decide)
     exact ⟨hF.wk [1, 2, 5, 6], hS, hm⟩
  ·refine rg [] [] [1, 2, 5, 6, 12] [pl 1 (vi n2), pl 2 (pa g1 0), pl 5 (.slice A2 r1.length c2), pl 6 (vi i1), pl 12 (.bool (decide (i1 < (r1.length : Int))))] hF hS obs_nil (fun a w hF hS => ?_)
   refine ce (t := 12) (b := decide (i1 < (r1.length : Int))) hF (fun hb => ?_) (fun hb => ?_)
   ·replace hm := if_t hm hb
    refine wpIn_skip ?_
    refine then_n ?_
    exact ⟨hF.wk [1, 2, 5, 6], hS, hm⟩
   ·replace hm := if_f hm hb
    refine wpIn_exit ?_
    refine then_e (then_e (block_e (then_n ?_)))
    have hS := hS.pickN 2 [] (by decide)
    rw [← hφ1] at hm
    replace hm := done_b hm
    unfold rf_MatesIn_K1 at hm
    try dsimp only at hm
    have hm : (rf_MatesIn_J1).bind some = some r := hm
    exact ⟨hF.wk [], hS, hm⟩

set_option maxRecDepth 100000 in
theorem rf_MatesIn_J2_le_rf_movesMates {rec_rf_movesMates1 rec_rf_movesMates2 : List Int → Int → Int → Int → Int → Int → Int → Option Bool} (h_rec_rf_movesMates : ∀ a0 a1 a2 a3 a4 a5 a6, Le (rec_rf_movesMates1 a0 a1 a2 a3 a4 a5 a6) (rec_rf_movesMates2 a0 a1 a2 a3 a4 a5 a6)) (p1 : List Int) (p2 p3 : Int) (p4 p5 : Int) (p6 n2 : Int) (r1 : (List MvT)) (i1 : Int) : Le (rf_MatesIn_J2 rec_rf_movesMates1 p1 p2 p3 p4 p5 p6 n2 r1 i1) (rf_MatesIn_J2 rec_rf_movesMates2 p1 p2 p3 p4 p5 p6 n2 r1 i1) := by
 unfold rf_MatesIn_J2
 repeat' (first | with_reducible exact Le.refl _ | with_reducible exact h_rec_rf_movesMates _ _ _ _ _ _ _ | with_reducible refine Le.asrt ?_ | with_reducible refine Le.ite ?_ ?_ | refine Le.bind ?_ (fun _ => ?_) | refine Le.loop2 (fun _ => ?_) | refine Le.elim2 (fun _ => ?_) (fun _ => ?_))

set_option maxRecDepth 100000 in
theorem rf_MatesIn_L1_le_rf_movesMates {rec_rf_movesMates1 rec_rf_movesMates2 : List Int → Int → Int → Int → Int → Int → Int → Option Bool} (h_rec_rf_movesMates : ∀ a0 a1 a2 a3 a4 a5 a6, Le (rec_rf_movesMates1 a0 a1 a2 a3 a4 a5 a6) (rec_rf_movesMates2 a0 a1 a2 a3 a4 a5 a6)) (p1 : List Int) (p2 p3 : Int) (p4 p5 : Int) (p6 n2 : Int) (r1 : (List MvT)) (x : Int) : Le (rf_MatesIn_L1 rec_rf_movesMates1 p1 p2 p3 p4 p5 p6 n2 r1 x) (rf_MatesIn_L1 rec_rf_movesMates2 p1 p2 p3 p4 p5 p6 n2 r1 x) := by
 rcases x with i1
 all_goals
  unfold rf_MatesIn_L1
  try dsimp only
  repeat' (first | with_reducible exact Le.refl _ | with_reducible exact h_rec_rf_movesMates _ _ _ _ _ _ _ | with_reducible exact rf_MatesIn_J2_le_rf_movesMates h_rec_rf_movesMates _ _ _ _ _ _ _ _ _ | with_reducible refine Le.asrt ?_ | with_reducible refine Le.ite ?_ ?_ | refine Le.bind ?_ (fun _ => ?_) | refine Le.loop2 (fun _ => ?_) | refine Le.elim2 (fun _ => ?_) (fun _ => ?_))

set_option maxRecDepth 100000 in
theorem rf_MatesIn_m_le_rf_movesMates {rec_rf_movesMates1 rec_rf_movesMates2 : List Int → Int → Int → Int → Int → Int → Int → Option Bool} (h_rec_rf_movesMates : ∀ a0 a1 a2 a3 a4 a5 a6, Le (rec_rf_movesMates1 a0 a1 a2 a3 a4 a5 a6) (rec_rf_movesMates2 a0 a1 a2 a3 a4 a5 a6)) (p1 : List Int) (p2 p3 : Int) (p4 p5 : Int) (p6 n2 : Int) : Le (rf_MatesIn_m rec_rf_movesMates1 p1 p2 p3 p4 p5 p6 n2) (rf_MatesIn_m rec_rf_movesMates2 p1 p2 p3 p4 p5 p6 n2) := by
 unfold rf_MatesIn_m
 repeat' (first | with_reducible exact Le.refl _ | with_reducible exact h_rec_rf_movesMates _ _ _ _ _ _ _ | with_reducible exact rf_MatesIn_L1_le_rf_movesMates h_rec_rf_movesMates _ _ _ _ _ _ _ _ _ | with_reducible refine Le.asrt ?_ | with_reducible refine Le.ite ?_ ?_ | refine Le.bind ?_ (fun _ => ?_) | refine Le.loop2 (fun _ => ?_) | refine Le.elim2 (fun _ => ?_) (fun _ => ?_))

def rf_movesMates_J5  (i1 : Int) : Option (St Int (Fl Unit Bool)) :=
 some (.next (w64 (i1 + 1)))

def rf_movesMates_J4  (rec_rf_movesMates : List Int → Int → Int → Int → Int → Int → Int → Option Bool) (q1 : List Int) (q2 q3 : Int) (q4 q5 : Int) (q6 n2 : Int) (r1 : (List MvT)) (i1 : Int) : Option (St Int (Fl Unit Bool)) :=
 asrt (0 ≤ i1 ∧ i1 < (r1.length : Int)) <| (rf_MoveDone_m q1 q2 q3 q4 q5 q6 ((getd ((0, 0, 0) : MvT) r1 i1).1) ((getd ((0, 0, 0) : MvT) r1 i1).2.1) ((getd ((0, 0, 0) : MvT) r1 i1).2.2)).bind fun r3 => ((rf_MatesIn_m rec_rf_movesMates) r3.1 r3.2.1 r3.2.2.1 r3.2.2.2.1 r3.2.2.2.2.1 r3.2.2.2.2.2 (w64 (n2 - 1))).bind fun r4 => if (!r4) then (some (.done (.ret false))) else ((rf_movesMates_J5 i1))

def rf_movesMates_J3  : Option Bool :=
 some true

def rf_movesMates_K1  : (Fl Unit Bool) → Option Bool :=
 fun (x : (Fl Unit Bool)) => match x with | .go _ => rf_movesMates_J3 | .ret x => some x

def rf_movesMates_L1  (rec_rf_movesMates : List Int → Int → Int → Int → Int → Int → Int → Option Bool) (q1 : List Int) (q2 q3 : Int) (q4 q5 : Int) (q6 n2 : Int) (r1 : (List MvT)) : Int → Option (St Int (Fl Unit Bool)) :=
 fun (x : Int) => match x with | i1 => if (decide (i1 < (r1.length : Int))) then ((rf_movesMates_J4 rec_rf_movesMates q1 q2 q3 q4 q5 q6 n2 r1 i1)) else (some (.done (.go ())))

def rf_movesMates_J2  (rec_rf_movesMates : List Int → Int → Int → Int → Int → Int → Int → Option Bool) (q1 : List Int) (q2 q3 : Int) (q4 q5 : Int) (q6 n2 : Int) (r1 : (List MvT)) : Option Bool :=
 (loop (rf_movesMates_L1 rec_rf_movesMates q1 q2 q3 q4 q5 q6 n2 r1) 0).bind rf_movesMates_K1

def rf_movesMates_J1  (rec_rf_movesMates : List Int → Int → Int → Int → Int → Int → Int → Option Bool) (q1 : List Int) (q2 q3 : Int) (q4 q5 : Int) (q6 n2 : Int) (r1 : (List MvT)) : Option Bool :=
 if (n2 == 1) then (some false) else ((rf_movesMates_J2 rec_rf_movesMates q1 q2 q3 q4 q5 q6 n2 r1))

def rf_movesMates_B (rec_rf_movesMates : List Int → Int → Int → Int → Int → Int → Int → Option Bool) (q1 : List Int) (q2 q3 : Int) (q4 q5 : Int) (q6 n2 : Int) : Option Bool :=
 (rf_MovesAll_m q1 q2 q3 q4 q5 q6).bind fun r1 => if ((r1.length : Int) == 0) then ((rf_InCheck_m q1 q2).bind fun r2 => some r2) else ((rf_movesMates_J1 rec_rf_movesMates q1 q2 q3 q4 q5 q6 n2 r1))

def rf_movesMates_mF : Nat → List Int → Int → Int → Int → Int → Int → Int → Option Bool
 | 0 => fun _ _ _ _ _ _ _ => none
 | n + 1 => fun q1 q2 q3 q4 q5 q6 n2 => rf_movesMates_B (rf_movesMates_mF n) q1 q2 q3 q4 q5 q6 n2

def rf_movesMates_m (q1 : List Int) (q2 q3 : Int) (q4 q5 : Int) (q6 n2 : Int) : Option Bool :=
 recM fun n => rf_movesMates_mF n q1 q2 q3 q4 q5 q6 n2

theorem rf_movesMates_wB {rec_rf_movesMates : List Int → Int → Int → Int → Int → Int → Int → Option Bool} (ih_rf_movesMates : ∀ {A1 : Option Addr} {c1 n1 : Nat} {q1 : List Int} {q2 q3 : Int} {q4 q5 : Int} {q6 n2 : Int} {r : Bool} {w0 w : World} {B : Nat} {fs : List HP} (_ : rec_rf_movesMates q1 q2 q3 q4 q5 q6 n2 = some r) (_ : Sep w0 B w (fs)) (hr_q1 : RdF w0 B fs A1 (vI q1)) (_hc_q1 : q1.length ≤ c1) (_hn_q1 : n1 = q1.length), Calls Try.prog 147 #[.agg (ca A1 n1 c1 q2 q3 q4 q5 q6), vi n2] w fun e w' => e = .returned (.bool r) ∧ Sep w0 B w' (fs)) {A1 : Option Addr} {c1 n1 : Nat} {q1 : List Int} {q2 q3 : Int} {q4 q5 : Int} {q6 n2 : Int} {r : Bool} {w0 w : World} {B : Nat} {fs : List HP} (hm : rf_movesMates_B rec_rf_movesMates q1 q2 q3 q4 q5 q6 n2 = some r) (hS : Sep w0 B w (fs)) (hr_q1 : RdF w0 B fs A1 (vI q1)) (_hc_q1 : q1.length ≤ c1) (_hn_q1 : n1 = q1.length) :
  Calls Try.prog 147 #[.agg (ca A1 n1 c1 q2 q3 q4 q5 q6), vi n2] w fun e w' => e = .returned (.bool r) ∧ Sep w0 B w' (fs) := by
 obtain ⟨i3, hi3, hz3, hs3, hb3⟩ := info_parts Info3
 obtain ⟨i88, hi88, hz88, hs88, hb88⟩ := info_parts Info88
 obtain rfl := _hn_q1
 unfold rf_movesMates_B at hm
 replace hm := start_b hm
 refine enter (l := [.agg (ca A1 q1.length c1 q2 q3 q4 q5 q6), vi n2]) (n := 35) Try.func147 rfl rfl (by simp) (fun a hF => ?_)
 refine seqR ?_
 refine at_do (d := 2) (s := vS (Instr.box 75 (.agg (ca A1 q1.length c1 q2 q3 q4 q5 q6)))) (v := pa w.heap.size 0) (w' := w.alloc (.cells (ca A1 q1.length c1 q2 q3 q4 q5 q6) 75)) hF (by kernel_rfl) (by kernel_rfl) (by kernel_rfl) (fun a hF => ?_)
 have hS : Sep w0 B (w.alloc (.cells (ca A1 q1.length c1 q2 q3 q4 q5 q6) 75)) (blk w.heap.size 75 (ca A1 q1.length c1 q2 q3 q4 q5 q6) :: (fs)) := hS.box 75 (ca A1 q1.length c1 q2 q3 q4 q5 q6)
 generalize w.heap.size = g1 at hF hS
 generalize w.alloc (.cells (ca A1 q1.length c1 q2 q3 q4 q5 q6) 75) = w at hS ⊢
 refine ar 1 [] [] [1, 2] [pl 1 (vi n2), pl 2 (pa g1 0)] hF hS obs_nil (fun a w hF hS => ?_)
 refine ae [1, 2] [pl 1 (vi n2), pl 2 (pa g1 0)] hF rfl (fun hF => ?_)
 refine then_n (seqR ?_)
 obtain ⟨r1, hr1, hm⟩ := call_b hm
 refine ar 1 [⟨false, [], vS (Instr.loadAt 75 (pa g1 0)), .agg (ca A1 q1.length c1 q2 q3 q4 q5 q6)⟩] [some (.agg (ca A1 q1.length c1 q2 q3 q4 q5 q6))] [1, 2, 7] [pl 1 (vi n2), pl 2 (pa g1 0), pl 7 (.agg (ca A1 q1.length c1 q2 q3 q4 q5 q6))] hF hS ?_ (fun a w hF hS => ?_)
 ·exact obs_cons (oA (cs := (ca A1 q1.length c1 q2 q3 q4 q5 q6)) (fun _ _ hS => (hS.at_ 0 rfl).cellsAt 0 (by rfl))) <| obs_nil
 refine at_call (f := 58) (args := #[.agg (ca A1 q1.length c1 q2 q3 q4 q5 q6)]) (d := 8) hF (by kernel_rfl) (by kernel_rfl) Try.func58 (by kernel_rfl) rfl (rf_MovesAll_w hr1 hS (fun _ hS => (hr_q1 _ (hS.dropN 1))) _hc_q1 rfl) (fun v a w hR hF => ?_)
 clear hS
 obtain ⟨A2, c2, rfl, hS⟩ := hR
 have hS : Sep w0 B w (ownK 88 3 A2 r1.length c2 (List.flatMap enc88 r1) :: blk g1 75 (ca A1 q1.length c1 q2 q3 q4 q5 q6) :: fs) := hS
 refine ar 1 [] [] [1, 2, 5] [pl 1 (vi n2), pl 2 (pa g1 0), pl 5 (.slice A2 r1.length c2)] hF hS obs_nil (fun a w hF hS => ?_)
 refine ae [1, 2, 5] [pl 1 (vi n2), pl 2 (pa g1 0), pl 5 (.slice A2 r1.length c2)] hF rfl (fun hF => ?_)
 refine then_n ?_
 refine seq_cut (fun a w => Fr 35 [pl 1 (vi n2), pl 2 (pa g1 0), pl 5 (.slice A2 r1.length c2)] a ∧ Sep w0 B w (blk g1 75 (ca A1 q1.length c1 q2 q3 q4 q5 q6) :: ownK 88 3 A2 r1.length c2 (List.flatMap enc88 r1) :: fs) ∧ ((rf_movesMates_J1 rec_rf_movesMates q1 q2 q3 q4 q5 q6 n2 r1)).bind some = some r) ?_ ?_
 ·rintro a w ⟨hF, hS, hm⟩
  unfold rf_movesMates_J1 at hm
  refine seq_cut (fun a w => Fr 35 [pl 1 (vi n2), pl 2 (pa g1 0), pl 5 (.slice A2 r1.length c2)] a ∧ Sep w0 B w (blk g1 75 (ca A1 q1.length c1 q2 q3 q4 q5 q6) :: ownK 88 3 A2 r1.length c2 (List.flatMap enc88 r1) :: fs) ∧ ((rf_movesMates_J2 rec_rf_movesMates q1 q2 q3 q4 q5 q6 n2 r1)).bind some = some r) ?_ ?_
  ·rintro a w ⟨hF, hS, hm⟩
   unfold rf_movesMates_J2 at hm
   refine seq_cut (fun a w => Fr 35 [] a ∧ Sep w0 B w (fs) ∧ (rf_movesMates_J3).bind some = some r) ?_ ?_
   ·rintro a w ⟨hF, hS, hm⟩
    unfold rf_movesMates_J3 at hm
    refine rg [] [] [4] [pl 4 (.bool true)] hF hS obs_nil (fun a w hF hS => ?_)
    refine wpIn_ret ?_
    have hm : some true = some r := hm
    obtain rfl := Option.some.inj hm
    exact retV (rs := [.tmp 4]) (vs := [.bool true]) hF rfl rv1 rfl ⟨rfl, hS⟩
   ·refine rg [] [] [1, 2, 5, 6] [pl 1 (vi n2), pl 2 (pa g1 0), pl 5 (.slice A2 r1.length c2), pl 6 (vi 0)] hF hS obs_nil (fun a w hF hS => ?_)
    refine wpIn_block ?_
    refine wp_loop_model (S := Int) (R := (Fl Unit Bool)) (rf_movesMates_L1 rec_rf_movesMates q1 q2 q3 q4 q5 q6 n2 r1) (fun x => (rf_movesMates_K1 x).bind some) r (fun (x : Int) a w => Fr 35 [pl 1 (vi n2), pl 2 (pa g1 0), pl 5 (.slice A2 r1.length c2), pl 6 (vi x)] a ∧ Sep w0 B w (blk g1 75 (ca A1 q1.length c1 q2 q3 q4 q5 q6) :: ownK 88 3 A2 r1.length c2 (List.flatMap enc88 r1) :: fs)) (assoc_b hm) ⟨hF.wk [1, 2, 5, 6], hS⟩ ?_
    clear hF hS hm
    rintro nn1 i1 a w ⟨hF, hS⟩ hm
    generalize hφ1 : stK (rf_movesMates_L1 rec_rf_movesMates q1 q2 q3 q4 q5 q6 n2 r1) nn1 (fun x => (rf_movesMates_K1 x).bind some) = φ1 at hm
    unfold rf_movesMates_L1 at hm
    dsimp only at hm
    refine seq_cut (fun a w => Fr 35 [pl 1 (vi n2), pl 2 (pa g1 0), pl 5 (.slice A2 r1.length c2), pl 6 (vi i1)] a ∧ Sep w0 B w (blk g1 75 (ca A1 q1.length c1 q2 q3 q4 q5 q6) :: ownK 88 3 A2 r1.length c2 (List.flatMap enc88 r1) :: fs) ∧ ((rf_movesMates_J4 rec_rf_movesMates q1 q2 q3 q4 q5 q6 n2 r1 i1)).bind φ1 = some r) ?_ ?_
    ·rintro a w ⟨hF, hS, hm⟩
     unfold rf_movesMates_J4 at hm
     refine seq_cut (fun a w => Fr 35 [pl 1 (vi n2), pl 2 (pa g1 0), pl 5 (.slice A2 r1.length c2), pl 6 (vi i1)] a ∧ Sep w0 B w (blk g1 75 (ca A1 q1.length c1 q2 q3 q4 q5 q6) :: ownK 88 3 A2 r1.length c2 (List.flatMap enc88 r1) :: fs) ∧ ((rf_movesMates_J5 i1)).bind φ1 = some r) ?_ ?_
     ·rintro a w ⟨hF, hS, hm⟩
      unfold rf_movesMates_J5 at hm
      refine rg1 [] [] [1, 2, 5, 6] [pl 1 (vi n2), pl 2 (pa g1 0), pl 5 (.slice A2 r1.length c2), pl 6 (vi (w64 (i1 + 1)))] hF hS obs_nil (fun a w hF hS => ?_)
      refine then_n ?_
      rw [← hφ1] at hm
      exact ⟨(w64 (i1 + 1)), ⟨hF.wk [1, 2, 5, 6], hS⟩, hm⟩
     ·refine wpIn_block ?_
      refine wpIn_seq ?_
      obtain ⟨hp1, hm⟩ := asrt_b hm
      obtain ⟨r3, hr3, hm⟩ := call_b hm
      obtain ⟨r4, hr4, hm⟩ := call_b hm
      refine regMix4 [0, 1, 2, 3, 4, 6, 7] [5, 8, 9] [⟨false, [], vS (Instr.loadAt 75 (pa g1 0)), .agg (ca A1 q1.length c1 q2 q3 q4 q5 q6)⟩, ⟨true, [], vS (Instr.indexAt 81 (.slice A2 r1.length c2) (vi i1)), .pointer (some (sAddrK A2 3 i1))⟩, ⟨false, [], vS (Instr.loadAt 88 (.pointer (some (sAddrK A2 3 i1)))), .agg #[vi ((getd ((0, 0, 0) : MvT) r1 i1).1), vi ((getd ((0, 0, 0) : MvT) r1 i1).2.1), vi ((getd ((0, 0, 0) : MvT) r1 i1).2.2)]⟩] [some (.agg (ca A1 q1.length c1 q2 q3 q4 q5 q6)), none, none, some (.pointer (some (sAddrK A2 3 i1))), some (.agg #[vi ((getd ((0, 0, 0) : MvT) r1 i1).1), vi ((getd ((0, 0, 0) : MvT) r1 i1).2.1), vi ((getd ((0, 0, 0) : MvT) r1 i1).2.2)]), none, none] [1, 2, 5, 6, 25, 29, 32] [pl 1 (vi n2), pl 2 (pa g1 0), pl 5 (.slice A2 r1.length c2), pl 6 (vi i1), pl 25 (.agg (ca A1 q1.length c1 q2 q3 q4 q5 q6)), pl 29 (.agg #[vi ((getd ((0, 0, 0) : MvT) r1 i1).1), vi ((getd ((0, 0, 0) : MvT) r1 i1).2.1), vi ((getd ((0, 0, 0) : MvT) r1 i1).2.2)]), pl 32 (vi (w64 (n2 - 1)))] hF hS Fol (by kernel_rfl) (by kernel_rfl) (by kernel_rfl) (by kernel_rfl) (by kernel_rfl) ?_ (fun a w hF hS => ?_)
      ·exact obs_cons (oA (cs := (ca A1 q1.length c1 q2 q3 q4 q5 q6)) (fun _ _ hS => (hS.at_ 0 rfl).cellsAt 0 (by rfl))) <| obs_cons (ob_ixK (m := r1) encK88 Und81 hi88 hs88 (hS.at_ 1 rfl).rdK rfl (fun _ => hp1)) <| obs_cons (ob_getK (n := r1.length) (m := r1) encK88 ((0, 0, 0) : MvT) (by kernel_rfl) (by kernel_rfl) (fun _ hS => ⟨_, (hS.at_ 1 rfl).rdK⟩) (fun _ hS => rfl) (fun _ => hp1)) <| obs_nil
      refine at_call (f := 62) (args := #[.agg (ca A1 q1.length c1 q2 q3 q4 q5 q6), .agg #[vi ((getd ((0, 0, 0) : MvT) r1 i1).1), vi ((getd ((0, 0, 0) : MvT) r1 i1).2.1), vi ((getd ((0, 0, 0) : MvT) r1 i1).2.2)]]) (d := 30) hF (by kernel_rfl) (by kernel_rfl) Try.func62 (by kernel_rfl) rfl (rf_MoveDone_w hr3 hS (fun _ hS => (hr_q1 _ (hS.dropN 2))) _hc_q1 rfl) (fun v a w hR hF => ?_)
      clear hS
      obtain ⟨A3, c3, rfl, hS⟩ := hR
      have hS : Sep w0 B w (own 3 (.slice A3 r3.1.length c3) (vI r3.1) :: blk g1 75 (ca A1 q1.length c1 q2 q3 q4 q5 q6) :: ownK 88 3 A2 r1.length c2 (List.flatMap enc88 r1) :: fs) := hS
      refine ar 2 [⟨false, [], callFunc 215 #[.agg (ca A3 r3.1.length c3 r3.2.1 r3.2.2.1 r3.2.2.2.1 r3.2.2.2.2.1 r3.2.2.2.2.2), vi (w64 (n2 - 1))], .bool r4⟩] [some (.bool r4), none] [1, 2, 5, 6, 34] [pl 1 (vi n2), pl 2 (pa g1 0), pl 5 (.slice A2 r1.length c2), pl 6 (vi i1), pl 34 (.bool (!r4))] hF hS ?_ (fun a w hF hS => ?_)
      ·exact obs_cons (ob_call Try.func215 (by kernel_rfl) rfl (fun _ _ hS => rf_MatesIn_w ih_rf_movesMates hr4 hS (fun _ hS => (hS.at_ 0 rfl).rd) ((hS.at_ 0 rfl).cap1) rfl)) <| obs_nil
      refine ae [1, 2, 5, 6, 34] [pl 1 (vi n2), pl 2 (pa g1 0), pl 5 (.slice A2 r1.length c2), pl 6 (vi i1), pl 34 (.bool (!r4))] hF rfl (fun hF => ?_)
      refine np_n ?_
      refine then_n ?_
      refine ce (t := 34) (b := !r4) hF (fun hb => ?_) (fun hb => ?_)
      ·replace hm := if_t hm hb
       refine rg [] [] [4] [pl 4 (.bool false)] hF hS obs_nil (fun a w hF hS => ?_)
       refine wpIn_ret ?_
       refine block_r (then_r (then_r (block_r (then_r ?_))))
       rw [← hφ1] at hm
       replace hm := done_b hm
       unfold rf_movesMates_K1 at hm
       try dsimp only at hm
       have hS := hS.pickN 3 [] (by decide)
       have hm : some false = some r := hm
       obtain rfl := Option.some.inj hm
       exact retV (rs := [.tmp 4]) (vs := [.bool false]) hF rfl rv1 rfl ⟨rfl, hS⟩
      ·replace hm := if_f hm hb
       refine wpIn_skip ?_
       refine block_n ?_
       refine then_n ?_
       have hS := hS.pickN 3 [1, 2] (by decide)
       exact ⟨hF.wk [1, 2, 5, 6], hS, hm⟩
    ·refine rg [] [] [1, 2, 5, 6, 22] [pl 1 (vi n2), pl 2 (pa g1 0), pl 5 (.slice A2 r1.length c2), pl 6 (vi i1), pl 22 (.bool (decide (i1 < (r1.length : Int))))] hF hS obs_nil (fun a w hF hS => ?_)
     refine ce (t := 22) (b := decide (i1 < (r1.length : Int))) hF (fun hb => ?_) (fun hb => ?_)
     ·replace hm := if_t hm hb
      refine wpIn_skip ?_
      refine then_n ?_
      exact ⟨hF.wk [1, 2, 5, 6], hS, hm⟩
     ·replace hm := if_f hm hb
      refine wpIn_exit ?_
      refine then_e (then_e (block_e (then_n ?_)))
      have hS := hS.pickN 2 [] (by decide)
      rw [← hφ1] at hm
      replace hm := done_b hm
      unfold rf_movesMates_K1 at hm
      try dsimp only at hm
      have hm : (rf_movesMates_J3).bind some = some r := hm
      exact ⟨hF.wk [], hS, hm⟩
  ·refine rg [] [] [1, 2, 5, 18] [pl 1 (vi n2), pl 2 (pa g1 0), pl 5 (.slice A2 r1.length c2), pl 18 (.bool (n2 == 1))] hF hS obs_nil (fun a w hF hS => ?_)
   refine ce (t := 18) (b := (n2 == 1)) hF (fun hb => ?_) (fun hb => ?_)
   ·replace hm := if_t hm hb
    refine rg [] [] [4] [pl 4 (.bool false)] hF hS obs_nil (fun a w hF hS => ?_)
    refine wpIn_ret ?_
    refine then_r ?_
    have hS := hS.pickN 2 [] (by decide)
    have hm : some false = some r := hm
    obtain rfl := Option.some.inj hm
    exact retV (rs := [.tmp 4]) (vs := [.bool false]) hF rfl rv1 rfl ⟨rfl, hS⟩
   ·replace hm := if_f hm hb
    refine wpIn_skip ?_
    refine then_n ?_
    exact ⟨hF.wk [1, 2, 5], hS, hm⟩
 ·refine rg [] [] [1, 2, 5, 11] [pl 1 (vi n2), pl 2 (pa g1 0), pl 5 (.slice A2 r1.length c2), pl 11 (.bool ((r1.length : Int) == 0))] hF hS obs_nil (fun a w hF hS => ?_)
  refine ce (t := 11) (b := ((r1.length : Int) == 0)) hF (fun hb => ?_) (fun hb => ?_)
  ·replace hm := if_t hm hb
   obtain ⟨r2, hr2, hm⟩ := call_b hm
   refine rg [⟨false, [], vS (Instr.loadAt 27 (pa g1 0)), .slice A1 q1.length c1⟩, ⟨false, [], vS (Instr.loadAt 3 (pa g1 1)), vi q2⟩, ⟨false, [], callFunc 130 #[.slice A1 q1.length c1, vi q2], .bool r2⟩] [none, some (.slice A1 q1.length c1), none, some (vi q2), some (.bool r2), none] [4] [pl 4 (.bool r2)] hF hS ?_ (fun a w hF hS => ?_)
   ·exact obs_cons (ob_load Agg27 (fun _ _ hS => (hS.at_ 1 rfl).cell rfl)) <| obs_cons (ob_load Agg3 (fun _ _ hS => (hS.at_ 1 rfl).cell rfl)) <| obs_cons (ob_call Try.func130 (by kernel_rfl) rfl (fun _ _ hS => rf_InCheck_w hr2 hS (fun _ hS => (hr_q1 _ (hS.dropN 2))) _hc_q1 rfl)) <| obs_nil
   refine wpIn_ret ?_
   refine then_r ?_
   have hS := hS.pickN 2 [] (by decide)
   have hm : some r2 = some r := hm
   obtain rfl := Option.some.inj hm
   exact retV (rs := [.tmp 4]) (vs := [.bool r2]) hF rfl rv1 rfl ⟨rfl, hS⟩
  ·replace hm := if_f hm hb
   refine wpIn_skip ?_
   refine then_n ?_
   have hS := hS.pickN 2 [1, 0] (by decide)
   exact ⟨hF.wk [1, 2, 5], hS, hm⟩

theorem rf_movesMates_w {A1 : Option Addr} {c1 n1 : Nat} {q1 : List Int} {q2 q3 : Int} {q4 q5 : Int} {q6 n2 : Int} {r : Bool} {w0 w : World} {B : Nat} {fs : List HP} (hm : rf_movesMates_m q1 q2 q3 q4 q5 q6 n2 = some r) (hS : Sep w0 B w (fs)) (hr_q1 : RdF w0 B fs A1 (vI q1)) (_hc_q1 : q1.length ≤ c1) (_hn_q1 : n1 = q1.length) :
  Calls Try.prog 147 #[.agg (ca A1 n1 c1 q2 q3 q4 q5 q6), vi n2] w fun e w' => e = .returned (.bool r) ∧ Sep w0 B w' (fs) := by
 have key : ∀ (n : Nat) {A1 : Option Addr} {c1 n1 : Nat} {q1 : List Int} {q2 q3 : Int} {q4 q5 : Int} {q6 n2 : Int} {r : Bool} {w0 w : World} {B : Nat} {fs : List HP} (_ : rf_movesMates_mF n q1 q2 q3 q4 q5 q6 n2 = some r) (_ : Sep w0 B w (fs)) (hr_q1 : RdF w0 B fs A1 (vI q1)) (_hc_q1 : q1.length ≤ c1) (_hn_q1 : n1 = q1.length), Calls Try.prog 147 #[.agg (ca A1 n1 c1 q2 q3 q4 q5 q6), vi n2] w fun e w' => e = .returned (.bool r) ∧ Sep w0 B w' (fs) := by
  intro n
  induction n with
  | zero => intros; rename_i hm0 _ _ _ _; cases hm0
  | succ n ih => intros; rename_i hm0 hS0 h0 h1 h2; exact rf_movesMates_wB (rec_rf_movesMates := rf_movesMates_mF n) (fun hm hS h0 h1 h2 => ih hm hS h0 h1 h2) hm0 hS0 h0 h1 h2
 obtain ⟨n, hn⟩ := recM_some hm
 exact key n hn hS hr_q1 _hc_q1 _hn_q1

set_option maxRecDepth 100000 in
theorem rf_movesMates_J4_le_rf_movesMates {rec_rf_movesMates1 rec_rf_movesMates2 : List Int → Int → Int → Int → Int → Int → Int → Option Bool} (h_rec_rf_movesMates : ∀ a0 a1 a2 a3 a4 a5 a6, Le (rec_rf_movesMates1 a0 a1 a2 a3 a4 a5 a6) (rec_rf_movesMates2 a0 a1 a2 a3 a4 a5 a6)) (q1 : List Int) (q2 q3 : Int) (q4 q5 : Int) (q6 n2 : Int) (r1 : (List MvT)) (i1 : Int) : Le (rf_movesMates_J4 rec_rf_movesMates1 q1 q2 q3 q4 q5 q6 n2 r1 i1) (rf_movesMates_J4 rec_rf_movesMates2 q1 q2 q3 q4 q5 q6 n2 r1 i1) := by
 unfold rf_movesMates_J4
 repeat' (first | with_reducible exact Le.refl _ | with_reducible exact h_rec_rf_movesMates _ _ _ _ _ _ _ | with_reducible exact rf_MatesIn_m_le_rf_movesMates h_rec_rf_movesMates _ _ _ _ _ _ _ | with_reducible refine Le.asrt ?_ | with_reducible refine Le.ite ?_ ?_ | refine Le.bind ?_ (fun _ => ?_) | refine Le.loop2 (fun _ => ?_) | refine Le.elim2 (fun _ => ?_) (fun _ => ?_))

set_option maxRecDepth 100000 in
theorem rf_movesMates_L1_le_rf_movesMates {rec_rf_movesMates1 rec_rf_movesMates2 : List Int → Int → Int → Int → Int → Int → Int → Option Bool} (h_rec_rf_movesMates : ∀ a0 a1 a2 a3 a4 a5 a6, Le (rec_rf_movesMates1 a0 a1 a2 a3 a4 a5 a6) (rec_rf_movesMates2 a0 a1 a2 a3 a4 a5 a6)) (q1 : List Int) (q2 q3 : Int) (q4 q5 : Int) (q6 n2 : Int) (r1 : (List MvT)) (x : Int) : Le (rf_movesMates_L1 rec_rf_movesMates1 q1 q2 q3 q4 q5 q6 n2 r1 x) (rf_movesMates_L1 rec_rf_movesMates2 q1 q2 q3 q4 q5 q6 n2 r1 x) := by
 rcases x with i1
 all_goals
  unfold rf_movesMates_L1
  try dsimp only
  repeat' (first | with_reducible exact Le.refl _ | with_reducible exact h_rec_rf_movesMates _ _ _ _ _ _ _ | with_reducible exact rf_movesMates_J4_le_rf_movesMates h_rec_rf_movesMates _ _ _ _ _ _ _ _ _ | with_reducible refine Le.asrt ?_ | with_reducible refine Le.ite ?_ ?_ | refine Le.bind ?_ (fun _ => ?_) | refine Le.loop2 (fun _ => ?_) | refine Le.elim2 (fun _ => ?_) (fun _ => ?_))

set_option maxRecDepth 100000 in
theorem rf_movesMates_J2_le_rf_movesMates {rec_rf_movesMates1 rec_rf_movesMates2 : List Int → Int → Int → Int → Int → Int → Int → Option Bool} (h_rec_rf_movesMates : ∀ a0 a1 a2 a3 a4 a5 a6, Le (rec_rf_movesMates1 a0 a1 a2 a3 a4 a5 a6) (rec_rf_movesMates2 a0 a1 a2 a3 a4 a5 a6)) (q1 : List Int) (q2 q3 : Int) (q4 q5 : Int) (q6 n2 : Int) (r1 : (List MvT)) : Le (rf_movesMates_J2 rec_rf_movesMates1 q1 q2 q3 q4 q5 q6 n2 r1) (rf_movesMates_J2 rec_rf_movesMates2 q1 q2 q3 q4 q5 q6 n2 r1) := by
 unfold rf_movesMates_J2
 repeat' (first | with_reducible exact Le.refl _ | with_reducible exact h_rec_rf_movesMates _ _ _ _ _ _ _ | with_reducible exact rf_movesMates_L1_le_rf_movesMates h_rec_rf_movesMates _ _ _ _ _ _ _ _ _ | with_reducible refine Le.asrt ?_ | with_reducible refine Le.ite ?_ ?_ | refine Le.bind ?_ (fun _ => ?_) | refine Le.loop2 (fun _ => ?_) | refine Le.elim2 (fun _ => ?_) (fun _ => ?_))

set_option maxRecDepth 100000 in
theorem rf_movesMates_J1_le_rf_movesMates {rec_rf_movesMates1 rec_rf_movesMates2 : List Int → Int → Int → Int → Int → Int → Int → Option Bool} (h_rec_rf_movesMates : ∀ a0 a1 a2 a3 a4 a5 a6, Le (rec_rf_movesMates1 a0 a1 a2 a3 a4 a5 a6) (rec_rf_movesMates2 a0 a1 a2 a3 a4 a5 a6)) (q1 : List Int) (q2 q3 : Int) (q4 q5 : Int) (q6 n2 : Int) (r1 : (List MvT)) : Le (rf_movesMates_J1 rec_rf_movesMates1 q1 q2 q3 q4 q5 q6 n2 r1) (rf_movesMates_J1 rec_rf_movesMates2 q1 q2 q3 q4 q5 q6 n2 r1) := by
 unfold rf_movesMates_J1
 repeat' (first | with_reducible exact Le.refl _ | with_reducible exact h_rec_rf_movesMates _ _ _ _ _ _ _ | with_reducible exact rf_movesMates_J2_le_rf_movesMates h_rec_rf_movesMates _ _ _ _ _ _ _ _ | with_reducible refine Le.asrt ?_ | with_reducible refine Le.ite ?_ ?_ | refine Le.bind ?_ (fun _ => ?_) | refine Le.loop2 (fun _ => ?_) | refine Le.elim2 (fun _ => ?_) (fun _ => ?_))

set_option maxRecDepth 100000 in
theorem rf_movesMates_B_le {rec_rf_movesMates1 rec_rf_movesMates2 : List Int → Int → Int → Int → Int → Int → Int → Option Bool} (h_rec_rf_movesMates : ∀ a0 a1 a2 a3 a4 a5 a6, Le (rec_rf_movesMates1 a0 a1 a2 a3 a4 a5 a6) (rec_rf_movesMates2 a0 a1 a2 a3 a4 a5 a6)) (q1 : List Int) (q2 q3 : Int) (q4 q5 : Int) (q6 n2 : Int) : Le (rf_movesMates_B rec_rf_movesMates1 q1 q2 q3 q4 q5 q6 n2) (rf_movesMates_B rec_rf_movesMates2 q1 q2 q3 q4 q5 q6 n2) := by
 unfold rf_movesMates_B
 repeat' (first | with_reducible exact Le.refl _ | with_reducible exact h_rec_rf_movesMates _ _ _ _ _ _ _ | with_reducible exact rf_movesMates_J1_le_rf_movesMates h_rec_rf_movesMates _ _ _ _ _ _ _ _ | with_reducible refine Le.asrt ?_ | with_reducible refine Le.ite ?_ ?_ | refine Le.bind ?_ (fun _ => ?_) | refine Le.loop2 (fun _ => ?_) | refine Le.elim2 (fun _ => ?_) (fun _ => ?_))

set_option maxRecDepth 100000 in
theorem rf_movesMates_mF_le : ∀ (n : Nat) (q1 : List Int) (q2 q3 : Int) (q4 q5 : Int) (q6 n2 : Int), Le (rf_movesMates_mF n q1 q2 q3 q4 q5 q6 n2) (rf_movesMates_mF (n + 1) q1 q2 q3 q4 q5 q6 n2)
 | 0, _, _, _, _, _, _, _ => fun _ h => by cases h
 | n + 1, _, _, _, _, _, _, _ => rf_movesMates_B_le (fun a0 a1 a2 a3 a4 a5 a6 => rf_movesMates_mF_le n a0 a1 a2 a3 a4 a5 a6) _ _ _ _ _ _ _

set_option maxRecDepth 100000 in
theorem rf_movesMates_m_of (N : Nat) (q1 : List Int) (q2 q3 : Int) (q4 q5 : Int) (q6 n2 : Int) {r : Bool} (h : rf_movesMates_mF N q1 q2 q3 q4 q5 q6 n2 = some r) : rf_movesMates_m q1 q2 q3 q4 q5 q6 n2 = some r :=
 recM_mono (fun n => rf_movesMates_mF_le n _ _ _ _ _ _ _) h

def rf_MateOf_J6  (i1 : Int) (keys3 : List MvT) : Option (St (List MvT × Int) (List MvT)) :=
 some (.next (keys3, (w64 (i1 + 1))))

def rf_MateOf_J5  (p1 : List Int) (p2 p3 : Int) (p4 p5 p6 : Int) (r1 : (List MvT)) (n2 : Int) (keys1 : List MvT) (i1 : Int) : Option (St (List MvT × Int) (List MvT)) :=
 asrt (0 ≤ i1 ∧ i1 < (r1.length : Int)) <| (rf_MoveDone_m p1 p2 p3 p4 p5 p6 ((getd ((0, 0, 0) : MvT) r1 i1).1) ((getd ((0, 0, 0) : MvT) r1 i1).2.1) ((getd ((0, 0, 0) : MvT) r1 i1).2.2)).bind fun r2 => (rf_movesMates_m r2.1 r2.2.1 r2.2.2.1 r2.2.2.2.1 r2.2.2.2.2.1 r2.2.2.2.2.2 n2).bind fun r3 => if r3 then (asrt (0 ≤ i1 ∧ i1 < (r1.length : Int)) <| asrt ((keys1.length : Int) + 1 ≤ bigK) <| (rf_MateOf_J6 i1) (keys1 ++ ([(getd ((0, 0, 0) : MvT) r1 i1)] : List MvT))) else ((rf_MateOf_J6 i1) keys1)

def rf_MateOf_J3  (n2 : Int) : Option (St Int (Fl Unit (Int × List MvT))) :=
 some (.next (w64 (n2 + 1)))

def rf_MateOf_J4  (n2 : Int) (keys2 : List MvT) : Option (St Int (Fl Unit (Int × List MvT))) :=
 if (decide ((0 : Int) < (keys2.length : Int))) then (some (.done (.ret (n2, keys2)))) else ((rf_MateOf_J3 n2))

def rf_MateOf_K2  (n2 : Int) : (List MvT) → Option (St Int (Fl Unit (Int × List MvT))) :=
 fun (x : (List MvT)) => match x with | keys2 => (rf_MateOf_J4 n2) keys2

def rf_MateOf_L2  (p1 : List Int) (p2 p3 : Int) (p4 p5 p6 : Int) (r1 : (List MvT)) (n2 : Int) : (List MvT × Int) → Option (St (List MvT × Int) (List MvT)) :=
 fun (x : (List MvT × Int)) => match x with | (keys1, i1) => if (decide (i1 < (r1.length : Int))) then ((rf_MateOf_J5 p1 p2 p3 p4 p5 p6 r1 n2 keys1 i1)) else (some (.done keys1))

def rf_MateOf_J2  (p1 : List Int) (p2 p3 : Int) (p4 p5 p6 : Int) (r1 : (List MvT)) (n2 : Int) : Option (St Int (Fl Unit (Int × List MvT))) :=
 (loop (rf_MateOf_L2 p1 p2 p3 p4 p5 p6 r1 n2) (([] : List MvT), 0)).bind (rf_MateOf_K2 n2)

def rf_MateOf_J1  : Option (Int × List MvT) :=
 some (0, ([] : List MvT))

def rf_MateOf_K1  : (Fl Unit (Int × List MvT)) → Option (Int × List MvT) :=
 fun (x : (Fl Unit (Int × List MvT))) => match x with | .go _ => rf_MateOf_J1 | .ret x => some x

def rf_MateOf_L1  (p1 : List Int) (p2 p3 : Int) (p4 p5 : Int) (p6 most1 : Int) (r1 : (List MvT)) : Int → Option (St Int (Fl Unit (Int × List MvT))) :=
 fun (x : Int) => match x with | n2 => if (decide (n2 ≤ most1)) then ((rf_MateOf_J2 p1 p2 p3 p4 p5 p6 r1 n2)) else (some (.done (.go ())))

def rf_MateOf_m  (p1 : List Int) (p2 p3 : Int) (p4 p5 : Int) (p6 most1 : Int) : Option (Int × List MvT) :=
 (rf_MovesAll_m p1 p2 p3 p4 p5 p6).bind fun r1 => (loop (rf_MateOf_L1 p1 p2 p3 p4 p5 p6 most1 r1) 1).bind rf_MateOf_K1

theorem rf_MateOf_w {A1 : Option Addr} {c1 n1 : Nat} {p1 : List Int} {p2 p3 : Int} {p4 p5 : Int} {p6 most1 : Int} {r : (Int × List MvT)} {w0 w : World} {B : Nat} {fs : List HP} (hm : rf_MateOf_m p1 p2 p3 p4 p5 p6 most1 = some r) (hS : Sep w0 B w (fs)) (hr_p1 : RdF w0 B fs A1 (vI p1)) (_hc_p1 : p1.length ≤ c1) (_hn_p1 : n1 = p1.length) :
  Calls Try.prog 66 #[.agg (ca A1 n1 c1 p2 p3 p4 p5 p6), vi most1] w fun e w' => ∃ v, e = .returned v ∧ ∃ (A8 : Option Addr) (c8 : Nat), v = .tuple #[vi r.1, .slice A8 r.2.length c8] ∧ Sep w0 B w' (ownK 88 3 A8 r.2.length c8 (List.flatMap enc88 r.2) :: fs) := by
 obtain ⟨i3, hi3, hz3, hs3, hb3⟩ := info_parts Info3
 obtain ⟨i88, hi88, hz88, hs88, hb88⟩ := info_parts Info88
 obtain rfl := _hn_p1
 unfold rf_MateOf_m at hm
 replace hm := start_b hm
 refine enter (l := [.agg (ca A1 p1.length c1 p2 p3 p4 p5 p6), vi most1]) (n := 43) Try.func66 rfl rfl (by simp) (fun a hF => ?_)
 refine seqR ?_
 refine at_do (d := 2) (s := vS (Instr.box 75 (.agg (ca A1 p1.length c1 p2 p3 p4 p5 p6)))) (v := pa w.heap.size 0) (w' := w.alloc (.cells (ca A1 p1.length c1 p2 p3 p4 p5 p6) 75)) hF (by kernel_rfl) (by kernel_rfl) (by kernel_rfl) (fun a hF => ?_)
 have hS : Sep w0 B (w.alloc (.cells (ca A1 p1.length c1 p2 p3 p4 p5 p6) 75)) (blk w.heap.size 75 (ca A1 p1.length c1 p2 p3 p4 p5 p6) :: (fs)) := hS.box 75 (ca A1 p1.length c1 p2 p3 p4 p5 p6)
 generalize w.heap.size = g1 at hF hS
 generalize w.alloc (.cells (ca A1 p1.length c1 p2 p3 p4 p5 p6) 75) = w at hS ⊢
 refine ar 2 [] [] [1, 2] [pl 1 (vi most1), pl 2 (pa g1 0)] hF hS obs_nil (fun a w hF hS => ?_)
 refine ae [1, 2] [pl 1 (vi most1), pl 2 (pa g1 0)] hF rfl (fun hF => ?_)
 refine then_n (seqR ?_)
 obtain ⟨r1, hr1, hm⟩ := call_b hm
 refine ar 1 [⟨false, [], vS (Instr.loadAt 75 (pa g1 0)), .agg (ca A1 p1.length c1 p2 p3 p4 p5 p6)⟩] [some (.agg (ca A1 p1.length c1 p2 p3 p4 p5 p6))] [1, 2, 10] [pl 1 (vi most1), pl 2 (pa g1 0), pl 10 (.agg (ca A1 p1.length c1 p2 p3 p4 p5 p6))] hF hS ?_ (fun a w hF hS => ?_)
 ·exact obs_cons (oA (cs := (ca A1 p1.length c1 p2 p3 p4 p5 p6)) (fun _ _ hS => (hS.at_ 0 rfl).cellsAt 0 (by rfl))) <| obs_nil
 refine at_call (f := 58) (args := #[.agg (ca A1 p1.length c1 p2 p3 p4 p5 p6)]) (d := 11) hF (by kernel_rfl) (by kernel_rfl) Try.func58 (by kernel_rfl) rfl (rf_MovesAll_w hr1 hS (fun _ hS => (hr_p1 _ (hS.dropN 1))) _hc_p1 rfl) (fun v a w hR hF => ?_)
 clear hS
 obtain ⟨A2, c2, rfl, hS⟩ := hR
 have hS : Sep w0 B w (ownK 88 3 A2 r1.length c2 (List.flatMap enc88 r1) :: blk g1 75 (ca A1 p1.length c1 p2 p3 p4 p5 p6) :: fs) := hS
 refine ar 1 [] [] [1, 2, 6] [pl 1 (vi most1), pl 2 (pa g1 0), pl 6 (.slice A2 r1.length c2)] hF hS obs_nil (fun a w hF hS => ?_)
 refine ae [1, 2, 6] [pl 1 (vi most1), pl 2 (pa g1 0), pl 6 (.slice A2 r1.length c2)] hF rfl (fun hF => ?_)
 refine then_n ?_
 refine seq_cut (fun a w => Fr 43 [] a ∧ Sep w0 B w (fs) ∧ (rf_MateOf_J1).bind some = some r) ?_ ?_
 ·rintro a w ⟨hF, hS, hm⟩
  unfold rf_MateOf_J1 at hm
  refine rg [] [] [4, 5] [pl 4 (vi 0), pl 5 (.slice none 0 0)] hF hS obs_nil (fun a w hF hS => ?_)
  refine wpIn_ret ?_
  have hS : Sep w0 B w (ownK 88 3 none 0 0 (List.flatMap enc88 ([] : List MvT)) :: fs) := hS.nilK 88 3 enc88
  have hl2 := (hS.at_ 0 rfl).lenK encK88
  have hS := (hS.at_ 0 rfl).reNK hl2
  have hS : Sep w0 B w (ownK 88 3 none (([] : List MvT).length) 0 (List.flatMap enc88 ([] : List MvT)) :: fs) := hS
  have hm : some (0, ([] : List MvT)) = some r := hm
  obtain rfl := Option.some.inj hm
  exact retV (rs := [.tmp 4, .tmp 5]) (vs := [vi 0, .slice none (([] : List MvT).length) 0]) hF rfl (rv_t (by kernel_rfl) <| rv_t (by kernel_rfl) <| rv_nil) rfl ⟨_, rfl, none, 0, rfl, hS⟩
 ·refine rg [] [] [1, 2, 6, 7] [pl 1 (vi most1), pl 2 (pa g1 0), pl 6 (.slice A2 r1.length c2), pl 7 (vi 1)] hF hS obs_nil (fun a w hF hS => ?_)
  refine wpIn_block ?_
  have hS := hS.pickN 2 [1, 0] (by decide)
  refine wp_loop_model (S := Int) (R := (Fl Unit (Int × List MvT))) (rf_MateOf_L1 p1 p2 p3 p4 p5 p6 most1 r1) (fun x => (rf_MateOf_K1 x).bind some) r (fun (x : Int) a w => Fr 43 [pl 1 (vi most1), pl 2 (pa g1 0), pl 6 (.slice A2 r1.length c2), pl 7 (vi x)] a ∧ Sep w0 B w (blk g1 75 (ca A1 p1.length c1 p2 p3 p4 p5 p6) :: ownK 88 3 A2 r1.length c2 (List.flatMap enc88 r1) :: fs)) (assoc_b hm) ⟨hF.wk [1, 2, 6, 7], hS⟩ ?_
  clear hF hS hm
  rintro nn1 n2 a w ⟨hF, hS⟩ hm
  generalize hφ1 : stK (rf_MateOf_L1 p1 p2 p3 p4 p5 p6 most1 r1) nn1 (fun x => (rf_MateOf_K1 x).bind some) = φ1 at hm
  unfold rf_MateOf_L1 at hm
  dsimp only at hm
  refine seq_cut (fun a w => Fr 43 [pl 1 (vi most1), pl 2 (pa g1 0), pl 6 (.slice A2 r1.length c2), pl 7 (vi n2)] a ∧ Sep w0 B w (blk g1 75 (ca A1 p1.length c1 p2 p3 p4 p5 p6) :: ownK 88 3 A2 r1.length c2 (List.flatMap enc88 r1) :: fs) ∧ ((rf_MateOf_J2 p1 p2 p3 p4 p5 p6 r1 n2)).bind φ1 = some r) ?_ ?_
  ·rintro a w ⟨hF, hS, hm⟩
   unfold rf_MateOf_J2 at hm
   refine seq_cut (fun a w => Fr 43 [pl 1 (vi most1), pl 2 (pa g1 0), pl 6 (.slice A2 r1.length c2), pl 7 (vi n2)] a ∧ Sep w0 B w (blk g1 75 (ca A1 p1.length c1 p2 p3 p4 p5 p6) :: ownK 88 3 A2 r1.length c2 (List.flatMap enc88 r1) :: fs) ∧ ((rf_MateOf_J3 n2)).bind φ1 = some r) ?_ ?_
   ·rintro a w ⟨hF, hS, hm⟩
    unfold rf_MateOf_J3 at hm
    refine rg1 [] [] [1, 2, 6, 7] [pl 1 (vi most1), pl 2 (pa g1 0), pl 6 (.slice A2 r1.length c2), pl 7 (vi (w64 (n2 + 1)))] hF hS obs_nil (fun a w hF hS => ?_)
    refine then_n ?_
    rw [← hφ1] at hm
    exact ⟨(w64 (n2 + 1)), ⟨hF.wk [1, 2, 6, 7], hS⟩, hm⟩
   ·refine wpIn_block ?_
    refine rg [] [] [1, 2, 6, 7, 8] [pl 1 (vi most1), pl 2 (pa g1 0), pl 6 (.slice A2 r1.length c2), pl 7 (vi n2), pl 8 (.slice none 0 0)] hF hS obs_nil (fun a w hF hS => ?_)
    refine seq_cut (fun a w => ∃ (keys2 : List MvT) (A4 : Option Addr) (c4 : Nat), Fr 43 [pl 1 (vi most1), pl 2 (pa g1 0), pl 6 (.slice A2 r1.length c2), pl 7 (vi n2), pl 8 (.slice A4 keys2.length c4)] a ∧ Sep w0 B w (blk g1 75 (ca A1 p1.length c1 p2 p3 p4 p5 p6) :: ownK 88 3 A2 r1.length c2 (List.flatMap enc88 r1) :: ownK 88 3 A4 keys2.length c4 (List.flatMap enc88 keys2) :: fs) ∧ ((rf_MateOf_J4 n2) keys2).bind φ1 = some r) ?_ ?_
    ·rintro a w ⟨keys2, A4, c4, hF, hS, hm⟩
     unfold rf_MateOf_J4 at hm
     refine rg [] [] [1, 2, 6, 7, 8, 40] [pl 1 (vi most1), pl 2 (pa g1 0), pl 6 (.slice A2 r1.length c2), pl 7 (vi n2), pl 8 (.slice A4 keys2.length c4), pl 40 (.bool (decide ((0 : Int) < (keys2.length : Int))))] hF hS obs_nil (fun a w hF hS => ?_)
     refine ce (t := 40) (b := decide ((0 : Int) < (keys2.length : Int))) hF (fun hb => ?_) (fun hb => ?_)
     ·replace hm := if_t hm hb
      refine rg [] [] [4, 5] [pl 4 (vi n2), pl 5 (.slice A4 keys2.length c4)] hF hS obs_nil (fun a w hF hS => ?_)
      refine wpIn_ret ?_
      refine block_r (then_r (then_r (block_r (then_r ?_))))
      rw [← hφ1] at hm
      replace hm := done_b hm
      unfold rf_MateOf_K1 at hm
      try dsimp only at hm
      have hS := hS.pickN 3 [2] (by decide)
      have hm : some (n2, keys2) = some r := hm
      obtain rfl := Option.some.inj hm
      exact retV (rs := [.tmp 4, .tmp 5]) (vs := [vi n2, .slice A4 keys2.length c4]) hF rfl (rv_t (by kernel_rfl) <| rv_t (by kernel_rfl) <| rv_nil) rfl ⟨_, rfl, A4, c4, rfl, hS⟩
     ·replace hm := if_f hm hb
      refine wpIn_skip ?_
      refine block_n ?_
      refine then_n ?_
      have hS := hS.pickN 3 [0, 1] (by decide)
      exact ⟨hF.wk [1, 2, 6, 7], hS, hm⟩
    ·refine rg [] [] [1, 2, 6, 7, 8, 9] [pl 1 (vi most1), pl 2 (pa g1 0), pl 6 (.slice A2 r1.length c2), pl 7 (vi n2), pl 8 (.slice none 0 0), pl 9 (vi 0)] hF hS obs_nil (fun a w hF hS => ?_)
     refine wpIn_block ?_
     have hS : Sep w0 B w (ownK 88 3 none 0 0 (List.flatMap enc88 ([] : List MvT)) :: blk g1 75 (ca A1 p1.length c1 p2 p3 p4 p5 p6) :: ownK 88 3 A2 r1.length c2 (List.flatMap enc88 r1) :: fs) := hS.nilK 88 3 enc88
     have hl1 := (hS.at_ 0 rfl).lenK encK88
     have hS := (hS.at_ 0 rfl).reNK hl1
     have hS : Sep w0 B w (ownK 88 3 none (([] : List MvT).length) 0 (List.flatMap enc88 ([] : List MvT)) :: blk g1 75 (ca A1 p1.length c1 p2 p3 p4 p5 p6) :: ownK 88 3 A2 r1.length c2 (List.flatMap enc88 r1) :: fs) := hS
     have hF := hF.cast (t := 8) (v := .slice none 0 0) (v' := .slice none (([] : List MvT).length) 0) rfl rfl (congrArg (fun k => Value.slice none k 0) hl1)
     have hS := hS.pickN 3 [1, 2, 0] (by decide)
     refine wp_loop_model (S := (List MvT × Int)) (R := (List MvT)) (rf_MateOf_L2 p1 p2 p3 p4 p5 p6 r1 n2) (fun x => ((rf_MateOf_K2 n2) x).bind φ1) r (fun (x : (List MvT × Int)) a w => ∃ (A3 : Option Addr) (c3 : Nat), Fr 43 [pl 1 (vi most1), pl 2 (pa g1 0), pl 6 (.slice A2 r1.length c2), pl 7 (vi n2), pl 8 (.slice A3 x.1.length c3), pl 9 (vi x.2)] a ∧ Sep w0 B w (blk g1 75 (ca A1 p1.length c1 p2 p3 p4 p5 p6) :: ownK 88 3 A2 r1.length c2 (List.flatMap enc88 r1) :: ownK 88 3 A3 x.1.length c3 (List.flatMap enc88 x.1) :: fs)) (assoc_b hm) ⟨none, 0, hF.wk [1, 2, 6, 7, 8, 9], hS⟩ ?_
     clear hF hS hm
     rintro nn2 ⟨keys1, i1⟩ a w ⟨A3, c3, hF, hS⟩ hm
     generalize hφ2 : stK (rf_MateOf_L2 p1 p2 p3 p4 p5 p6 r1 n2) nn2 (fun x => ((rf_MateOf_K2 n2) x).bind φ1) = φ2 at hm
     unfold rf_MateOf_L2 at hm
     dsimp only at hF hS hm
     refine seq_cut (fun a w => Fr 43 [pl 1 (vi most1), pl 2 (pa g1 0), pl 6 (.slice A2 r1.length c2), pl 7 (vi n2), pl 8 (.slice A3 keys1.length c3), pl 9 (vi i1)] a ∧ Sep w0 B w (blk g1 75 (ca A1 p1.length c1 p2 p3 p4 p5 p6) :: ownK 88 3 A2 r1.length c2 (List.flatMap enc88 r1) :: ownK 88 3 A3 keys1.length c3 (List.flatMap enc88 keys1) :: fs) ∧ ((rf_MateOf_J5 p1 p2 p3 p4 p5 p6 r1 n2 keys1 i1)).bind φ2 = some r) ?_ ?_
     ·rintro a w ⟨hF, hS, hm⟩
      unfold rf_MateOf_J5 at hm
      refine seq_cut (fun a w => ∃ (keys3 : List MvT) (A7 : Option Addr) (c7 : Nat), Fr 43 [pl 1 (vi most1), pl 2 (pa g1 0), pl 6 (.slice A2 r1.length c2), pl 7 (vi n2), pl 8 (.slice A7 keys3.length c7), pl 9 (vi i1)] a ∧ Sep w0 B w (blk g1 75 (ca A1 p1.length c1 p2 p3 p4 p5 p6) :: ownK 88 3 A2 r1.length c2 (List.flatMap enc88 r1) :: ownK 88 3 A7 keys3.length c7 (List.flatMap enc88 keys3) :: fs) ∧ ((rf_MateOf_J6 i1) keys3).bind φ2 = some r) ?_ ?_
      ·rintro a w ⟨keys3, A7, c7, hF, hS, hm⟩
       unfold rf_MateOf_J6 at hm
       refine rg1 [] [] [1, 2, 6, 7, 8, 9] [pl 1 (vi most1), pl 2 (pa g1 0), pl 6 (.slice A2 r1.length c2), pl 7 (vi n2), pl 8 (.slice A7 keys3.length c7), pl 9 (vi (w64 (i1 + 1)))] hF hS obs_nil (fun a w hF hS => ?_)
       refine then_n ?_
       rw [← hφ2] at hm
       exact ⟨(keys3, (w64 (i1 + 1))), ⟨A7, c7, hF.wk [1, 2, 6, 7, 8, 9], hS⟩, hm⟩
      ·refine wpIn_block ?_
       refine wpIn_seq ?_
       obtain ⟨hp1, hm⟩ := asrt_b hm
       obtain ⟨r2, hr2, hm⟩ := call_b hm
       obtain ⟨r3, hr3, hm⟩ := call_b hm
       refine regMix4 [0, 1, 2, 3, 4, 6] [5, 7] [⟨false, [], vS (Instr.loadAt 75 (pa g1 0)), .agg (ca A1 p1.length c1 p2 p3 p4 p5 p6)⟩, ⟨true, [], vS (Instr.indexAt 81 (.slice A2 r1.length c2) (vi i1)), .pointer (some (sAddrK A2 3 i1))⟩, ⟨false, [], vS (Instr.loadAt 88 (.pointer (some (sAddrK A2 3 i1)))), .agg #[vi ((getd ((0, 0, 0) : MvT) r1 i1).1), vi ((getd ((0, 0, 0) : MvT) r1 i1).2.1), vi ((getd ((0, 0, 0) : MvT) r1 i1).2.2)]⟩] [some (.agg (ca A1 p1.length c1 p2 p3 p4 p5 p6)), none, none, some (.pointer (some (sAddrK A2 3 i1))), some (.agg #[vi ((getd ((0, 0, 0) : MvT) r1 i1).1), vi ((getd ((0, 0, 0) : MvT) r1 i1).2.1), vi ((getd ((0, 0, 0) : MvT) r1 i1).2.2)]), none] [1, 2, 6, 7, 8, 9, 23, 27, 29] [pl 1 (vi most1), pl 2 (pa g1 0), pl 6 (.slice A2 r1.length c2), pl 7 (vi n2), pl 8 (.slice A3 keys1.length c3), pl 9 (vi i1), pl 23 (.agg (ca A1 p1.length c1 p2 p3 p4 p5 p6)), pl 27 (.agg #[vi ((getd ((0, 0, 0) : MvT) r1 i1).1), vi ((getd ((0, 0, 0) : MvT) r1 i1).2.1), vi ((getd ((0, 0, 0) : MvT) r1 i1).2.2)]), pl 29 (vi n2)] hF hS Fol (by kernel_rfl) (by kernel_rfl) (by kernel_rfl) (by kernel_rfl) (by kernel_rfl) ?_ (fun a w hF hS => ?_)
       ·exact obs_cons (oA (cs := (ca A1 p1.length c1 p2 p3 p4 p5 p6)) (fun _ _ hS => (hS.at_ 0 rfl).cellsAt 0 (by rfl))) <| obs_cons (ob_ixK (m := r1) encK88 Und81 hi88 hs88 (hS.at_ 1 rfl).rdK rfl (fun _ => hp1)) <| obs_cons (ob_getK (n := r1.length) (m := r1) encK88 ((0, 0, 0) : MvT) (by kernel_rfl) (by kernel_rfl) (fun _ hS => ⟨_, (hS.at_ 1 rfl).rdK⟩) (fun _ hS => rfl) (fun _ => hp1)) <| obs_nil
       refine at_call (f := 62) (args := #[.agg (ca A1 p1.length c1 p2 p3 p4 p5 p6), .agg #[vi ((getd ((0, 0, 0) : MvT) r1 i1).1), vi ((getd ((0, 0, 0) : MvT) r1 i1).2.1), vi ((getd ((0, 0, 0) : MvT) r1 i1).2.2)]]) (d := 28) hF (by kernel_rfl) (by kernel_rfl) Try.func62 (by kernel_rfl) rfl (rf_MoveDone_w hr2 hS (fun _ hS => (hr_p1 _ (hS.dropN 3))) _hc_p1 rfl) (fun v a w hR hF => ?_)
       clear hS
       obtain ⟨A5, c5, rfl, hS⟩ := hR
       have hS : Sep w0 B w (own 3 (.slice A5 r2.1.length c5) (vI r2.1) :: blk g1 75 (ca A1 p1.length c1 p2 p3 p4 p5 p6) :: ownK 88 3 A2 r1.length c2 (List.flatMap enc88 r1) :: ownK 88 3 A3 keys1.length c3 (List.flatMap enc88 keys1) :: fs) := hS
       refine ar 1 [⟨false, [], callFunc 147 #[.agg (ca A5 r2.1.length c5 r2.2.1 r2.2.2.1 r2.2.2.2.1 r2.2.2.2.2.1 r2.2.2.2.2.2), vi n2], .bool r3⟩] [some (.bool r3)] [1, 2, 6, 7, 8, 9, 30] [pl 1 (vi most1), pl 2 (pa g1 0), pl 6 (.slice A2 r1.length c2), pl 7 (vi n2), pl 8 (.slice A3 keys1.length c3), pl 9 (vi i1), pl 30 (.bool r3)] hF hS ?_ (fun a w hF hS => ?_)
       ·exact obs_cons (ob_call Try.func147 (by kernel_rfl) rfl (fun _ _ hS => rf_movesMates_w hr3 hS (fun _ hS => (hS.at_ 0 rfl).rd) ((hS.at_ 0 rfl).cap1) rfl)) <| obs_nil
       refine ae [1, 2, 6, 7, 8, 9, 30] [pl 1 (vi most1), pl 2 (pa g1 0), pl 6 (.slice A2 r1.length c2), pl 7 (vi n2), pl 8 (.slice A3 keys1.length c3), pl 9 (vi i1), pl 30 (.bool r3)] hF rfl (fun hF => ?_)
       refine np_n ?_
       refine then_n ?_
       refine ce (t := 30) (b := r3) hF (fun hb => ?_) (fun hb => ?_)
       ·replace hm := if_t hm hb
        refine oneR ?_
        obtain ⟨hp2, hm⟩ := asrt_b hm
        obtain ⟨hp3, hm⟩ := asrt_b hm
        refine ar 5 [⟨true, [], vS (Instr.indexAt 81 (.slice A2 r1.length c2) (vi i1)), .pointer (some (sAddrK A2 3 i1))⟩, ⟨false, [], vS (Instr.loadAt 88 (.pointer (some (sAddrK A2 3 i1)))), .agg #[vi ((getd ((0, 0, 0) : MvT) r1 i1).1), vi ((getd ((0, 0, 0) : MvT) r1 i1).2.1), vi ((getd ((0, 0, 0) : MvT) r1 i1).2.2)]⟩] [none, none, none, some (.pointer (some (sAddrK A2 3 i1))), some (.agg #[vi ((getd ((0, 0, 0) : MvT) r1 i1).1), vi ((getd ((0, 0, 0) : MvT) r1 i1).2.1), vi ((getd ((0, 0, 0) : MvT) r1 i1).2.2)])] [1, 2, 6, 7, 9, 31, 35] [pl 1 (vi most1), pl 2 (pa g1 0), pl 6 (.slice A2 r1.length c2), pl 7 (vi n2), pl 9 (vi i1), pl 31 (.slice A3 keys1.length c3), pl 35 (.agg #[vi ((getd ((0, 0, 0) : MvT) r1 i1).1), vi ((getd ((0, 0, 0) : MvT) r1 i1).2.1), vi ((getd ((0, 0, 0) : MvT) r1 i1).2.2)])] hF hS ?_ (fun a w hF hS => ?_)
        ·exact obs_cons (ob_ixK (m := r1) encK88 Und81 hi88 hs88 (hS.at_ 2 rfl).rdK rfl (fun _ => hp2)) <| obs_cons (ob_getK (n := r1.length) (m := r1) encK88 ((0, 0, 0) : MvT) (by kernel_rfl) (by kernel_rfl) (fun _ hS => ⟨_, (hS.at_ 2 rfl).rdK⟩) (fun _ hS => rfl) (fun _ => hp2)) <| obs_nil
        refine at_do (d := 36) (s := vS (Instr.buildSlice 81 1 #[(0, .agg #[vi ((getd ((0, 0, 0) : MvT) r1 i1).1), vi ((getd ((0, 0, 0) : MvT) r1 i1).2.1), vi ((getd ((0, 0, 0) : MvT) r1 i1).2.2)])])) (v := .slice (some ⟨w.heap.size, 0, none⟩) 1 1) (w' := w.alloc (.cells #[vi ((getd ((0, 0, 0) : MvT) r1 i1).1), vi ((getd ((0, 0, 0) : MvT) r1 i1).2.1), vi ((getd ((0, 0, 0) : MvT) r1 i1).2.2)] 88)) hF (by kernel_rfl) (by kernel_rfl) (by kernel_rfl) (fun a hF => ?_)
        have hS : Sep w0 B (w.alloc (.cells #[vi ((getd ((0, 0, 0) : MvT) r1 i1).1), vi ((getd ((0, 0, 0) : MvT) r1 i1).2.1), vi ((getd ((0, 0, 0) : MvT) r1 i1).2.2)] 88)) (ownK 88 3 (some (⟨w.heap.size, 0, none⟩ : Addr)) 1 1 (List.flatMap enc88 ([(getd ((0, 0, 0) : MvT) r1 i1)] : List MvT)) :: (own 3 (.slice A5 r2.1.length c5) (vI r2.1) :: blk g1 75 (ca A1 p1.length c1 p2 p3 p4 p5 p6) :: ownK 88 3 A2 r1.length c2 (List.flatMap enc88 r1) :: ownK 88 3 A3 keys1.length c3 (List.flatMap enc88 keys1) :: fs)) := hS.litK 88 3 #[vi ((getd ((0, 0, 0) : MvT) r1 i1).1), vi ((getd ((0, 0, 0) : MvT) r1 i1).2.1), vi ((getd ((0, 0, 0) : MvT) r1 i1).2.2)] 1 rfl (by omega)
        generalize (some (⟨w.heap.size, 0, none⟩ : Addr)) = g2 at hF hS
        generalize w.alloc (.cells #[vi ((getd ((0, 0, 0) : MvT) r1 i1).1), vi ((getd ((0, 0, 0) : MvT) r1 i1).2.1), vi ((getd ((0, 0, 0) : MvT) r1 i1).2.2)] 88) = w at hS ⊢
        obtain ⟨A6, c6, w, hrun, hS⟩ := run_appK (P := Try.prog) (t := 81) (m := keys1) (ys := ([(getd ((0, 0, 0) : MvT) r1 i1)] : List MvT)) (A2 := g2) (m2 := 1) (c2 := 1) encK88 (hS.at_ 4 rfl) (hS.at_ 0 rfl).rdK ((hS.at_ 0 rfl).lenK encK88) 81 Und81 hi88 hz88 hs88 rfl (by omega) hp3
        have hS : Sep w0 B w (ownK 88 3 g2 1 1 (List.flatMap enc88 ([(getd ((0, 0, 0) : MvT) r1 i1)] : List MvT)) :: own 3 (.slice A5 r2.1.length c5) (vI r2.1) :: blk g1 75 (ca A1 p1.length c1 p2 p3 p4 p5 p6) :: ownK 88 3 A2 r1.length c2 (List.flatMap enc88 r1) :: ownK 88 3 A6 ((keys1 ++ ([(getd ((0, 0, 0) : MvT) r1 i1)] : List MvT)).length) c6 (List.flatMap enc88 (keys1 ++ ([(getd ((0, 0, 0) : MvT) r1 i1)] : List MvT))) :: fs) := hS
        refine ad (d := 37) hF hrun (fun a hF => ?_)
        refine ar 1 [] [] [1, 2, 6, 7, 8, 9] [pl 1 (vi most1), pl 2 (pa g1 0), pl 6 (.slice A2 r1.length c2), pl 7 (vi n2), pl 8 (.slice A6 ((keys1 ++ ([(getd ((0, 0, 0) : MvT) r1 i1)] : List MvT)).length) c6), pl 9 (vi i1)] hF hS obs_nil (fun a w hF hS => ?_)
        refine ae [1, 2, 6, 7, 8, 9] [pl 1 (vi most1), pl 2 (pa g1 0), pl 6 (.slice A2 r1.length c2), pl 7 (vi n2), pl 8 (.slice A6 ((keys1 ++ ([(getd ((0, 0, 0) : MvT) r1 i1)] : List MvT)).length) c6), pl 9 (vi i1)] hF rfl (fun hF => ?_)
        refine block_n ?_
        refine then_n ?_
        have hS := hS.pickN 5 [2, 3, 4] (by decide)
        exact ⟨(keys1 ++ ([(getd ((0, 0, 0) : MvT) r1 i1)] : List MvT)), A6, c6, hF.wk [1, 2, 6, 7, 8, 9], hS, hm⟩
       ·replace hm := if_f hm hb
        refine wpIn_skip ?_
        refine block_n ?_
        refine then_n ?_
        have hS := hS.pickN 4 [1, 2, 3] (by decide)
        exact ⟨keys1, A3, c3, hF.wk [1, 2, 6, 7, 8, 9], hS, hm⟩
     ·refine rg [] [] [1, 2, 6, 7, 8, 9, 20] [pl 1 (vi most1), pl 2 (pa g1 0), pl 6 (.slice A2 r1.length c2), pl 7 (vi n2), pl 8 (.slice A3 keys1.length c3), pl 9 (vi i1), pl 20 (.bool (decide (i1 < (r1.length : Int))))] hF hS obs_nil (fun a w hF hS => ?_)
      refine ce (t := 20) (b := decide (i1 < (r1.length : Int))) hF (fun hb => ?_) (fun hb => ?_)
      ·replace hm := if_t hm hb
       refine wpIn_skip ?_
       refine then_n ?_
       exact ⟨hF.wk [1, 2, 6, 7, 8, 9], hS, hm⟩
      ·replace hm := if_f hm hb
       refine wpIn_exit ?_
       refine then_e (then_e (block_e (then_n ?_)))
       rw [← hφ2] at hm
       replace hm := done_b hm
       unfold rf_MateOf_K2 at hm
       try dsimp only at hm
       have hm : ((rf_MateOf_J4 n2) keys1).bind φ1 = some r := hm
       exact ⟨keys1, A3, c3, hF.wk [1, 2, 6, 7, 8], hS, hm⟩
  ·refine rg [] [] [1, 2, 6, 7, 14] [pl 1 (vi most1), pl 2 (pa g1 0), pl 6 (.slice A2 r1.length c2), pl 7 (vi n2), pl 14 (.bool (decide (n2 ≤ most1)))] hF hS obs_nil (fun a w hF hS => ?_)
   refine ce (t := 14) (b := decide (n2 ≤ most1)) hF (fun hb => ?_) (fun hb => ?_)
   ·replace hm := if_t hm hb
    refine wpIn_skip ?_
    refine then_n ?_
    exact ⟨hF.wk [1, 2, 6, 7], hS, hm⟩
   ·replace hm := if_f hm hb
    refine wpIn_exit ?_
    refine then_e (then_e (block_e (then_n ?_)))
    have hS := hS.pickN 2 [] (by decide)
    rw [← hφ1] at hm
    replace hm := done_b hm
    unfold rf_MateOf_K1 at hm
    try dsimp only at hm
    have hm : (rf_MateOf_J1).bind some = some r := hm
    exact ⟨hF.wk [], hS, hm⟩

def lw_sameMoves_J4  (i1 : Int) : Option (St Int (Fl Unit Bool)) :=
 some (.next (w64 (i1 + 1)))

def lw_sameMoves_J3  (a1 : List MvT) (b1 : List MvT) (i1 : Int) : Option (St Int (Fl Unit Bool)) :=
 asrt (0 ≤ i1 ∧ i1 < (a1.length : Int)) <| asrt (0 ≤ i1 ∧ i1 < (b1.length : Int)) <| if (!((((getd ((0, 0, 0) : MvT) a1 i1).1) == ((getd ((0, 0, 0) : MvT) b1 i1).1)) && ((((getd ((0, 0, 0) : MvT) a1 i1).2.1) == ((getd ((0, 0, 0) : MvT) b1 i1).2.1)) && (((getd ((0, 0, 0) : MvT) a1 i1).2.2) == ((getd ((0, 0, 0) : MvT) b1 i1).2.2))))) then (some (.done (.ret false))) else ((lw_sameMoves_J4 i1))

def lw_sameMoves_J2  : Option Bool :=
 some true

def lw_sameMoves_K1  : (Fl Unit Bool) → Option Bool :=
 fun (x : (Fl Unit Bool)) => match x with | .go _ => lw_sameMoves_J2 | .ret x => some x

def lw_sameMoves_L1  (a1 : List MvT) (b1 : List MvT) : Int → Option (St Int (Fl Unit Bool)) :=
 fun (x : Int) => match x with | i1 => if (decide (i1 < (a1.length : Int))) then ((lw_sameMoves_J3 a1 b1 i1)) else (some (.done (.go ())))

def lw_sameMoves_J1  (a1 : List MvT) (b1 : List MvT) : Option Bool :=
 (loop (lw_sameMoves_L1 a1 b1) 0).bind lw_sameMoves_K1

def lw_sameMoves_m  (a1 : List MvT) (b1 : List MvT) : Option Bool :=
 if ((a1.length : Int) != (b1.length : Int)) then (some false) else ((lw_sameMoves_J1 a1 b1))

theorem lw_sameMoves_w {A1 : Option Addr} {c1 n1 : Nat} {a1 : List MvT} {A2 : Option Addr} {c2 n2 : Nat} {b1 : List MvT} {r : Bool} {w0 w : World} {B : Nat} {fs : List HP} (hm : lw_sameMoves_m a1 b1 = some r) (hS : Sep w0 B w (fs)) (hr_a1 : RdF w0 B fs A1 ((List.flatMap enc88 a1))) (_hc_a1 : a1.length ≤ c1) (_hn_a1 : n1 = a1.length) (hr_b1 : RdF w0 B fs A2 ((List.flatMap enc88 b1))) (_hc_b1 : b1.length ≤ c2) (_hn_b1 : n2 = b1.length) :
  Calls Try.prog 59 #[.slice A1 n1 c1, .slice A2 n2 c2] w fun e w' => e = .returned (.bool r) ∧ Sep w0 B w' (fs) := by
 obtain ⟨i88, hi88, hz88, hs88, hb88⟩ := info_parts Info88
 obtain rfl := _hn_a1
 obtain rfl := _hn_b1
 unfold lw_sameMoves_m at hm
 replace hm := start_b hm
 refine enter (l := [.slice A1 a1.length c1, .slice A2 b1.length c2]) (n := 26) Try.func59 rfl rfl (by simp) (fun a hF => ?_)
 refine rg [] [] [0, 1] [pl 0 (.slice A1 a1.length c1), pl 1 (.slice A2 b1.length c2)] hF hS obs_nil (fun a w hF hS => ?_)
 refine seq_cut (fun a w => Fr 26 [pl 0 (.slice A1 a1.length c1), pl 1 (.slice A2 b1.length c2)] a ∧ Sep w0 B w (fs) ∧ ((lw_sameMoves_J1 a1 b1)).bind some = some r) ?_ ?_
 ·rintro a w ⟨hF, hS, hm⟩
  unfold lw_sameMoves_J1 at hm
  refine seq_cut (fun a w => Fr 26 [] a ∧ Sep w0 B w (fs) ∧ (lw_sameMoves_J2).bind some = some r) ?_ ?_
  ·rintro a w ⟨hF, hS, hm⟩
   unfold lw_sameMoves_J2 at hm
   refine rg [] [] [4] [pl 4 (.bool true)] hF hS obs_nil (fun a w hF hS => ?_)
   refine wpIn_ret ?_
   have hm : some true = some r := hm
   obtain rfl := Option.some.inj hm
   exact retV (rs := [.tmp 4]) (vs := [.bool true]) hF rfl rv1 rfl ⟨rfl, hS⟩
  ·refine rg [] [] [0, 1, 5] [pl 0 (.slice A1 a1.length c1), pl 1 (.slice A2 b1.length c2), pl 5 (vi 0)] hF hS obs_nil (fun a w hF hS => ?_)
   refine wpIn_block ?_
   refine wp_loop_model (S := Int) (R := (Fl Unit Bool)) (lw_sameMoves_L1 a1 b1) (fun x => (lw_sameMoves_K1 x).bind some) r (fun (x : Int) a w => Fr 26 [pl 0 (.slice A1 a1.length c1), pl 1 (.slice A2 b1.length c2), pl 5 (vi x)] a ∧ Sep w0 B w (fs)) (assoc_b hm) ⟨hF.wk [0, 1, 5], hS⟩ ?_
   clear hF hS hm
   rintro nn1 i1 a w ⟨hF, hS⟩ hm
   generalize hφ1 : stK (lw_sameMoves_L1 a1 b1) nn1 (fun x => (lw_sameMoves_K1 x).bind some) = φ1 at hm
   unfold lw_sameMoves_L1 at hm
   dsimp only at hm
   refine seq_cut (fun a w => Fr 26 [pl 0 (.slice A1 a1.length c1), pl 1 (.slice A2 b1.length c2), pl 5 (vi i1)] a ∧ Sep w0 B w (fs) ∧ ((lw_sameMoves_J3 a1 b1 i1)).bind φ1 = some r) ?_ ?_
   ·rintro a w ⟨hF, hS, hm⟩
    unfold lw_sameMoves_J3 at hm
    refine seq_cut (fun a w => Fr 26 [pl 0 (.slice A1 a1.length c1), pl 1 (.slice A2 b1.length c2), pl 5 (vi i1)] a ∧ Sep w0 B w (fs) ∧ ((lw_sameMoves_J4 i1)).bind φ1 = some r) ?_ ?_
    ·rintro a w ⟨hF, hS, hm⟩
     unfold lw_sameMoves_J4 at hm
     refine rg1 [] [] [0, 1, 5] [pl 0 (.slice A1 a1.length c1), pl 1 (.slice A2 b1.length c2), pl 5 (vi (w64 (i1 + 1)))] hF hS obs_nil (fun a w hF hS => ?_)
     refine then_n ?_
     rw [← hφ1] at hm
     exact ⟨(w64 (i1 + 1)), ⟨hF.wk [0, 1, 5], hS⟩, hm⟩
    ·refine wpIn_block ?_
     obtain ⟨hp1, hm⟩ := asrt_b hm
     obtain ⟨hp2, hm⟩ := asrt_b hm
     refine rg [⟨true, [], vS (Instr.indexAt 81 (.slice A1 a1.length c1) (vi i1)), .pointer (some (sAddrK A1 3 i1))⟩, ⟨false, [], vS (Instr.loadAt 88 (.pointer (some (sAddrK A1 3 i1)))), .agg #[vi ((getd ((0, 0, 0) : MvT) a1 i1).1), vi ((getd ((0, 0, 0) : MvT) a1 i1).2.1), vi ((getd ((0, 0, 0) : MvT) a1 i1).2.2)]⟩, ⟨true, [], vS (Instr.indexAt 81 (.slice A2 b1.length c2) (vi i1)), .pointer (some (sAddrK A2 3 i1))⟩, ⟨false, [], vS (Instr.loadAt 88 (.pointer (some (sAddrK A2 3 i1)))), .agg #[vi ((getd ((0, 0, 0) : MvT) b1 i1).1), vi ((getd ((0, 0, 0) : MvT) b1 i1).2.1), vi ((getd ((0, 0, 0) : MvT) b1 i1).2.2)]⟩, ⟨true, [], vS (do eqGuard .neq 88 (.tmp 20) (.tmp 24) (.agg #[vi ((getd ((0, 0, 0) : MvT) a1 i1).1), vi ((getd ((0, 0, 0) : MvT) a1 i1).2.1), vi ((getd ((0, 0, 0) : MvT) a1 i1).2.2)]) (.agg #[vi ((getd ((0, 0, 0) : MvT) b1 i1).1), vi ((getd ((0, 0, 0) : MvT) b1 i1).2.1), vi ((getd ((0, 0, 0) : MvT) b1 i1).2.2)]); binOp .neq 88 (.agg #[vi ((getd ((0, 0, 0) : MvT) a1 i1).1), vi ((getd ((0, 0, 0) : MvT) a1 i1).2.1), vi ((getd ((0, 0, 0) : MvT) a1 i1).2.2)]) (.agg #[vi ((getd ((0, 0, 0) : MvT) b1 i1).1), vi ((getd ((0, 0, 0) : MvT) b1 i1).2.1), vi ((getd ((0, 0, 0) : MvT) b1 i1).2.2)])), .bool (!((((getd ((0, 0, 0) : MvT) a1 i1).1) == ((getd ((0, 0, 0) : MvT) b1 i1).1)) && ((((getd ((0, 0, 0) : MvT) a1 i1).2.1) == ((getd ((0, 0, 0) : MvT) b1 i1).2.1)) && (((getd ((0, 0, 0) : MvT) a1 i1).2.2) == ((getd ((0, 0, 0) : MvT) b1 i1).2.2)))))⟩] [none, none, some (.pointer (some (sAddrK A1 3 i1))), some (.agg #[vi ((getd ((0, 0, 0) : MvT) a1 i1).1), vi ((getd ((0, 0, 0) : MvT) a1 i1).2.1), vi ((getd ((0, 0, 0) : MvT) a1 i1).2.2)]), none, none, some (.pointer (some (sAddrK A2 3 i1))), some (.agg #[vi ((getd ((0, 0, 0) : MvT) b1 i1).1), vi ((getd ((0, 0, 0) : MvT) b1 i1).2.1), vi ((getd ((0, 0, 0) : MvT) b1 i1).2.2)]), some (.bool (!((((getd ((0, 0, 0) : MvT) a1 i1).1) == ((getd ((0, 0, 0) : MvT) b1 i1).1)) && ((((getd ((0, 0, 0) : MvT) a1 i1).2.1) == ((getd ((0, 0, 0) : MvT) b1 i1).2.1)) && (((getd ((0, 0, 0) : MvT) a1 i1).2.2) == ((getd ((0, 0, 0) : MvT) b1 i1).2.2))))))] [0, 1, 5, 25] [pl 0 (.slice A1 a1.length c1), pl 1 (.slice A2 b1.length c2), pl 5 (vi i1), pl 25 (.bool (!((((getd ((0, 0, 0) : MvT) a1 i1).1) == ((getd ((0, 0, 0) : MvT) b1 i1).1)) && ((((getd ((0, 0, 0) : MvT) a1 i1).2.1) == ((getd ((0, 0, 0) : MvT) b1 i1).2.1)) && (((getd ((0, 0, 0) : MvT) a1 i1).2.2) == ((getd ((0, 0, 0) : MvT) b1 i1).2.2))))))] hF hS ?_ (fun a w hF hS => ?_)
     ·exact obs_cons (ob_ixK (m := a1) encK88 Und81 hi88 hs88 (hr_a1 _ (hS.dropN 0)) rfl (fun _ => hp1)) <| obs_cons (ob_getK (n := a1.length) (m := a1) encK88 ((0, 0, 0) : MvT) (by kernel_rfl) (by kernel_rfl) (fun _ hS => ⟨_, (hr_a1 _ (hS.dropN 0))⟩) (fun _ hS => rfl) (fun _ => hp1)) <| obs_cons (ob_ixK (m := b1) encK88 Und81 hi88 hs88 (hr_b1 _ (hS.dropN 0)) rfl (fun _ => hp2)) <| obs_cons (ob_getK (n := b1.length) (m := b1) encK88 ((0, 0, 0) : MvT) (by kernel_rfl) (by kernel_rfl) (fun _ hS => ⟨_, (hr_b1 _ (hS.dropN 0))⟩) (fun _ hS => rfl) (fun _ => hp2)) <| obs_cons (ob_neq rfl (by kernel_rfl) (fun w => Eql88 w)) <| obs_nil
     refine ce (t := 25) (b := !((((getd ((0, 0, 0) : MvT) a1 i1).1) == ((getd ((0, 0, 0) : MvT) b1 i1).1)) && ((((getd ((0, 0, 0) : MvT) a1 i1).2.1) == ((getd ((0, 0, 0) : MvT) b1 i1).2.1)) && (((getd ((0, 0, 0) : MvT) a1 i1).2.2) == ((getd ((0, 0, 0) : MvT) b1 i1).2.2))))) hF (fun hb => ?_) (fun hb => ?_)
     ·replace hm := if_t hm hb
      refine rg [] [] [4] [pl 4 (.bool false)] hF hS obs_nil (fun a w hF hS => ?_)
      refine wpIn_ret ?_
      refine block_r (then_r (then_r (block_r (then_r ?_))))
      rw [← hφ1] at hm
      replace hm := done_b hm
      unfold lw_sameMoves_K1 at hm
      try dsimp only at hm
      have hm : some false = some r := hm
      obtain rfl := Option.some.inj hm
      exact retV (rs := [.tmp 4]) (vs := [.bool false]) hF rfl rv1 rfl ⟨rfl, hS⟩
     ·replace hm := if_f hm hb
      refine wpIn_skip ?_
      refine block_n ?_
      refine then_n ?_
      exact ⟨hF.wk [0, 1, 5], hS, hm⟩
   ·refine rg [] [] [0, 1, 5, 14] [pl 0 (.slice A1 a1.length c1), pl 1 (.slice A2 b1.length c2), pl 5 (vi i1), pl 14 (.bool (decide (i1 < (a1.length : Int))))] hF hS obs_nil (fun a w hF hS => ?_)
    refine ce (t := 14) (b := decide (i1 < (a1.length : Int))) hF (fun hb => ?_) (fun hb => ?_)
    ·replace hm := if_t hm hb
     refine wpIn_skip ?_
     refine then_n ?_
     exact ⟨hF.wk [0, 1, 5], hS, hm⟩
    ·replace hm := if_f hm hb
     refine wpIn_exit ?_
     refine then_e (then_e (block_e (then_n ?_)))
     rw [← hφ1] at hm
     replace hm := done_b hm
     unfold lw_sameMoves_K1 at hm
     try dsimp only at hm
     have hm : (lw_sameMoves_J2).bind some = some r := hm
     exact ⟨hF.wk [], hS, hm⟩
 ·refine rg [] [] [0, 1, 10] [pl 0 (.slice A1 a1.length c1), pl 1 (.slice A2 b1.length c2), pl 10 (.bool ((a1.length : Int) != (b1.length : Int)))] hF hS obs_nil (fun a w hF hS => ?_)
  refine ce (t := 10) (b := ((a1.length : Int) != (b1.length : Int))) hF (fun hb => ?_) (fun hb => ?_)
  ·replace hm := if_t hm hb
   refine rg [] [] [4] [pl 4 (.bool false)] hF hS obs_nil (fun a w hF hS => ?_)
   refine wpIn_ret ?_
   refine then_r ?_
   have hm : some false = some r := hm
   obtain rfl := Option.some.inj hm
   exact retV (rs := [.tmp 4]) (vs := [.bool false]) hF rfl rv1 rfl ⟨rfl, hS⟩
  ·replace hm := if_f hm hb
   refine wpIn_skip ?_
   refine then_n ?_
   exact ⟨hF.wk [0, 1], hS, hm⟩

def lw_ProblemsMates_J4  (p1 : List Int) (p2 p3 : Int) (p4 p5 : Int) (p6 most1 : Int) (r2 : (Int × List MvT × Int)) : Option Bool :=
 (rf_MateOf_m p1 p2 p3 p4 p5 p6 most1).bind fun r9 => ((if ((r2.2.2 == 0) && (r2.1 == r9.1)) then lw_sameMoves_m r2.2.1 r9.2 else some false)).bind fun r10 => some (((r2.2.2 == 0) && (r2.1 == r9.1)) && r10)

def lw_ProblemsMates_J2  (p1 : List Int) (p2 p3 : Int) (p4 p5 : Int) (p6 most1 : Int) (r2 : (Int × List MvT × Int)) : Option Bool :=
 if ((decide (most1 < 1)) || (decide ((2 : Int) < most1))) then (some (((r2.2.2 == 3) && (r2.1 == 0)) && ((r2.2.1.length : Int) == 0))) else ((lw_ProblemsMates_J4 p1 p2 p3 p4 p5 p6 most1 r2))

def lw_ProblemsMates_J3  (p1 : List Int) (p2 p3 : Int) (p4 p5 : Int) (p6 most1 : Int) (r2 : (Int × List MvT × Int)) (z1 : Bool) : Option Bool :=
 if z1 then (some false) else ((lw_ProblemsMates_J2 p1 p2 p3 p4 p5 p6 most1 r2))

def lw_ProblemsMates_J1  (p1 : List Int) (p2 p3 : Int) (p4 p5 : Int) (p6 most1 by1 : Int) (r2 : (Int × List MvT × Int)) (r4 : (List Int × Int)) : Option Bool :=
 if ((decide (by1 < 0)) || (decide ((1 : Int) < by1))) then (if ((r4.2 != 3) || (decide ((0 : Int) < (r4.1.length : Int)))) then (some false) else ((lw_ProblemsMates_J2 p1 p2 p3 p4 p5 p6 most1 r2))) else (if (r4.2 != 0) then (((if (!(r4.2 != 0)) then lw_sameInts_m r4.1 ([] : List Int) else some false)).bind fun r6 => (lw_ProblemsMates_J3 p1 p2 p3 p4 p5 p6 most1 r2) ((r4.2 != 0) || (!r6))) else ((rf_CoveredOf_m p1 p2 p3 p4 p5 p6 by1).bind fun r7 => ((if (!(r4.2 != 0)) then lw_sameInts_m r4.1 r7 else some false)).bind fun r8 => (lw_ProblemsMates_J3 p1 p2 p3 p4 p5 p6 most1 r2) ((r4.2 != 0) || (!r8))))

def lw_ProblemsMates_m  (p1 : List Int) (p2 p3 : Int) (p4 p5 : Int) (p6 most1 by1 : Int) : Option Bool :=
 (rf_ChessOf_m p1 p2 p3 p4 p5 p6).bind fun r1 => (problems_Mate_m r1.1 r1.2.1 r1.2.2.1 r1.2.2.2.1 r1.2.2.2.2.1 r1.2.2.2.2.2 most1).bind fun r2 => (rf_ChessOf_m p1 p2 p3 p4 p5 p6).bind fun r3 => (problems_Covered_m r3.1 r3.2.1 r3.2.2.1 r3.2.2.2.1 r3.2.2.2.2.1 r3.2.2.2.2.2 by1).bind fun r4 => (rf_ChessMay_m p1 p2 p3 p4 p5 p6).bind fun r5 => if (!r5) then (some (((((r2.2.2 == 12) && (r4.2 == 12)) && (r2.1 == 0)) && ((r2.2.1.length : Int) == 0)) && ((r4.1.length : Int) == 0))) else ((lw_ProblemsMates_J1 p1 p2 p3 p4 p5 p6 most1 by1 r2 r4))

theorem lw_ProblemsMates_w {A1 : Option Addr} {c1 n1 : Nat} {p1 : List Int} {p2 p3 : Int} {p4 p5 : Int} {p6 most1 by1 : Int} {r : Bool} {w0 w : World} {B : Nat} {fs : List HP} (hm : lw_ProblemsMates_m p1 p2 p3 p4 p5 p6 most1 by1 = some r) (hS : Sep w0 B w (fs)) (hr_p1 : RdF w0 B fs A1 (vI p1)) (_hc_p1 : p1.length ≤ c1) (_hn_p1 : n1 = p1.length) :
  Calls Try.prog 11 #[.agg (ca A1 n1 c1 p2 p3 p4 p5 p6), vi most1, vi by1] w fun e w' => e = .returned (.bool r) ∧ Sep w0 B w' (fs) := by
 obtain ⟨i3, hi3, hz3, hs3, hb3⟩ := info_parts Info3
 obtain rfl := _hn_p1
 unfold lw_ProblemsMates_m at hm
 replace hm := start_b hm
 refine enter (l := [.agg (ca A1 p1.length c1 p2 p3 p4 p5 p6), vi most1, vi by1]) (n := 110) Try.func11 rfl rfl (by simp) (fun a hF => ?_)
 refine seqR ?_
 refine at_do (d := 3) (s := vS (Instr.box 75 (.agg (ca A1 p1.length c1 p2 p3 p4 p5 p6)))) (v := pa w.heap.size 0) (w' := w.alloc (.cells (ca A1 p1.length c1 p2 p3 p4 p5 p6) 75)) hF (by kernel_rfl) (by kernel_rfl) (by kernel_rfl) (fun a hF => ?_)
 have hS : Sep w0 B (w.alloc (.cells (ca A1 p1.length c1 p2 p3 p4 p5 p6) 75)) (blk w.heap.size 75 (ca A1 p1.length c1 p2 p3 p4 p5 p6) :: (fs)) := hS.box 75 (ca A1 p1.length c1 p2 p3 p4 p5 p6)
 generalize w.heap.size = g1 at hF hS
 generalize w.alloc (.cells (ca A1 p1.length c1 p2 p3 p4 p5 p6) 75) = w at hS ⊢
 refine ar 1 [] [] [1, 2, 3] [pl 1 (vi most1), pl 2 (vi by1), pl 3 (pa g1 0)] hF hS obs_nil (fun a w hF hS => ?_)
 refine ae [1, 2, 3] [pl 1 (vi most1), pl 2 (vi by1), pl 3 (pa g1 0)] hF rfl (fun hF => ?_)
 refine then_n (seqR ?_)
 obtain ⟨r1, hr1, hm⟩ := call_b hm
 obtain ⟨r2, hr2, hm⟩ := call_b hm
 refine ar 1 [⟨false, [], vS (Instr.loadAt 75 (pa g1 0)), .agg (ca A1 p1.length c1 p2 p3 p4 p5 p6)⟩] [some (.agg (ca A1 p1.length c1 p2 p3 p4 p5 p6))] [1, 2, 3, 15] [pl 1 (vi most1), pl 2 (vi by1), pl 3 (pa g1 0), pl 15 (.agg (ca A1 p1.length c1 p2 p3 p4 p5 p6))] hF hS ?_ (fun a w hF hS => ?_)
 ·exact obs_cons (oA (cs := (ca A1 p1.length c1 p2 p3 p4 p5 p6)) (fun _ _ hS => (hS.at_ 0 rfl).cellsAt 0 (by rfl))) <| obs_nil
 refine at_call (f := 47) (args := #[.agg (ca A1 p1.length c1 p2 p3 p4 p5 p6)]) (d := 16) hF (by kernel_rfl) (by kernel_rfl) Try.func47 (by kernel_rfl) rfl (rf_ChessOf_w hr1 hS (fun _ hS => (hr_p1 _ (hS.dropN 1))) _hc_p1 rfl) (fun v a w hR hF => ?_)
 clear hS
 obtain ⟨A2, c2, rfl, hS⟩ := hR
 have hS : Sep w0 B w (own 3 (.slice A2 r1.1.length c2) (vI r1.1) :: blk g1 75 (ca A1 p1.length c1 p2 p3 p4 p5 p6) :: fs) := hS
 refine ar 1 [] [] [1, 2, 3, 16, 17] [pl 1 (vi most1), pl 2 (vi by1), pl 3 (pa g1 0), pl 16 (.agg (ca A2 r1.1.length c2 r1.2.1 r1.2.2.1 r1.2.2.2.1 r1.2.2.2.2.1 r1.2.2.2.2.2)), pl 17 (vi most1)] hF hS obs_nil (fun a w hF hS => ?_)
 refine at_call (f := 63) (args := #[.agg (ca A2 r1.1.length c2 r1.2.1 r1.2.2.1 r1.2.2.2.1 r1.2.2.2.2.1 r1.2.2.2.2.2), vi most1]) (d := 18) hF (by kernel_rfl) (by kernel_rfl) Try.func63 (by kernel_rfl) rfl (problems_Mate_w hr2 hS (fun _ hS => (hS.at_ 0 rfl).rd) ((hS.at_ 0 rfl).cap1) rfl) (fun v a w hR hF => ?_)
 clear hS
 obtain ⟨A3, c3, rfl, hS⟩ := hR
 have hS : Sep w0 B w (ownK 88 3 A3 r2.2.1.length c3 (List.flatMap enc88 r2.2.1) :: own 3 (.slice A2 r1.1.length c2) (vI r1.1) :: blk g1 75 (ca A1 p1.length c1 p2 p3 p4 p5 p6) :: fs) := hS
 refine ar 7 [] [] [1, 2, 3, 7, 8, 9] [pl 1 (vi most1), pl 2 (vi by1), pl 3 (pa g1 0), pl 7 (vi r2.1), pl 8 (.slice A3 r2.2.1.length c3), pl 9 (vi r2.2.2)] hF hS obs_nil (fun a w hF hS => ?_)
 refine ae [1, 2, 3, 7, 8, 9] [pl 1 (vi most1), pl 2 (vi by1), pl 3 (pa g1 0), pl 7 (vi r2.1), pl 8 (.slice A3 r2.2.1.length c3), pl 9 (vi r2.2.2)] hF rfl (fun hF => ?_)
 refine then_n (seqR ?_)
 obtain ⟨r3, hr3, hm⟩ := call_b hm
 obtain ⟨r4, hr4, hm⟩ := call_b hm
 refine ar 1 [⟨false, [], vS (Instr.loadAt 75 (pa g1 0)), .agg (ca A1 p1.length c1 p2 p3 p4 p5 p6)⟩] [some (.agg (ca A1 p1.length c1 p2 p3 p4 p5 p6))] [1, 2, 3, 7, 8, 9, 23] [pl 1 (vi most1), pl 2 (vi by1), pl 3 (pa g1 0), pl 7 (vi r2.1), pl 8 (.slice A3 r2.2.1.length c3), pl 9 (vi r2.2.2), pl 23 (.agg (ca A1 p1.length c1 p2 p3 p4 p5 p6))] hF hS ?_ (fun a w hF hS => ?_)
 ·exact obs_cons (oA (cs := (ca A1 p1.length c1 p2 p3 p4 p5 p6)) (fun _ _ hS => (hS.at_ 2 rfl).cellsAt 0 (by rfl))) <| obs_nil
 refine at_call (f := 47) (args := #[.agg (ca A1 p1.length c1 p2 p3 p4 p5 p6)]) (d := 24) hF (by kernel_rfl) (by kernel_rfl) Try.func47 (by kernel_rfl) rfl (rf_ChessOf_w hr3 hS (fun _ hS => (hr_p1 _ (hS.dropN 3))) _hc_p1 rfl) (fun v a w hR hF => ?_)
 clear hS
 obtain ⟨A4, c4, rfl, hS⟩ := hR
 have hS : Sep w0 B w (own 3 (.slice A4 r3.1.length c4) (vI r3.1) :: ownK 88 3 A3 r2.2.1.length c3 (List.flatMap enc88 r2.2.1) :: own 3 (.slice A2 r1.1.length c2) (vI r1.1) :: blk g1 75 (ca A1 p1.length c1 p2 p3 p4 p5 p6) :: fs) := hS
 refine ar 1 [] [] [1, 2, 3, 7, 8, 9, 24, 25] [pl 1 (vi most1), pl 2 (vi by1), pl 3 (pa g1 0), pl 7 (vi r2.1), pl 8 (.slice A3 r2.2.1.length c3), pl 9 (vi r2.2.2), pl 24 (.agg (ca A4 r3.1.length c4 r3.2.1 r3.2.2.1 r3.2.2.2.1 r3.2.2.2.2.1 r3.2.2.2.2.2)), pl 25 (vi by1)] hF hS obs_nil (fun a w hF hS => ?_)
 refine at_call (f := 64) (args := #[.agg (ca A4 r3.1.length c4 r3.2.1 r3.2.2.1 r3.2.2.2.1 r3.2.2.2.2.1 r3.2.2.2.2.2), vi by1]) (d := 26) hF (by kernel_rfl) (by kernel_rfl) Try.func64 (by kernel_rfl) rfl (problems_Covered_w hr4 hS (fun _ hS => (hS.at_ 0 rfl).rd) ((hS.at_ 0 rfl).cap1) rfl) (fun v a w hR hF => ?_)
 clear hS
 obtain ⟨A5, c5, rfl, hS⟩ := hR
 have hS : Sep w0 B w (own 3 (.slice A5 r4.1.length c5) (vI r4.1) :: own 3 (.slice A4 r3.1.length c4) (vI r3.1) :: ownK 88 3 A3 r2.2.1.length c3 (List.flatMap enc88 r2.2.1) :: own 3 (.slice A2 r1.1.length c2) (vI r1.1) :: blk g1 75 (ca A1 p1.length c1 p2 p3 p4 p5 p6) :: fs) := hS
 refine ar 5 [] [] [1, 2, 3, 7, 8, 9, 10, 11] [pl 1 (vi most1), pl 2 (vi by1), pl 3 (pa g1 0), pl 7 (vi r2.1), pl 8 (.slice A3 r2.2.1.length c3), pl 9 (vi r2.2.2), pl 10 (.slice A5 r4.1.length c5), pl 11 (vi r4.2)] hF hS obs_nil (fun a w hF hS => ?_)
 refine ae [1, 2, 3, 7, 8, 9, 10, 11] [pl 1 (vi most1), pl 2 (vi by1), pl 3 (pa g1 0), pl 7 (vi r2.1), pl 8 (.slice A3 r2.2.1.length c3), pl 9 (vi r2.2.2), pl 10 (.slice A5 r4.1.length c5), pl 11 (vi r4.2)] hF rfl (fun hF => ?_)
 refine then_n ?_
 refine seq_cut (fun a w => Fr 110 [pl 1 (vi most1), pl 2 (vi by1), pl 3 (pa g1 0), pl 7 (vi r2.1), pl 8 (.slice A3 r2.2.1.length c3), pl 9 (vi r2.2.2), pl 10 (.slice A5 r4.1.length c5), pl 11 (vi r4.2)] a ∧ Sep w0 B w (blk g1 75 (ca A1 p1.length c1 p2 p3 p4 p5 p6) :: ownK 88 3 A3 r2.2.1.length c3 (List.flatMap enc88 r2.2.1) :: own 3 (.slice A5 r4.1.length c5) (vI r4.1) :: fs) ∧ ((lw_ProblemsMates_J1 p1 p2 p3 p4 p5 p6 most1 by1 r2 r4)).bind some = some r) ?_ ?_
 ·rintro a w ⟨hF, hS, hm⟩
  unfold lw_ProblemsMates_J1 at hm
  refine seq_cut (fun a w => Fr 110 [pl 1 (vi most1), pl 3 (pa g1 0), pl 7 (vi r2.1), pl 8 (.slice A3 r2.2.1.length c3), pl 9 (vi r2.2.2)] a ∧ Sep w0 B w (blk g1 75 (ca A1 p1.length c1 p2 p3 p4 p5 p6) :: ownK 88 3 A3 r2.2.1.length c3 (List.flatMap enc88 r2.2.1) :: fs) ∧ ((lw_ProblemsMates_J2 p1 p2 p3 p4 p5 p6 most1 r2)).bind some = some r) ?_ ?_
  ·rintro a w ⟨hF, hS, hm⟩
   unfold lw_ProblemsMates_J2 at hm
   refine seq_cut (fun a w => Fr 110 [pl 1 (vi most1), pl 3 (pa g1 0), pl 7 (vi r2.1), pl 8 (.slice A3 r2.2.1.length c3), pl 9 (vi r2.2.2)] a ∧ Sep w0 B w (blk g1 75 (ca A1 p1.length c1 p2 p3 p4 p5 p6) :: ownK 88 3 A3 r2.2.1.length c3 (List.flatMap enc88 r2.2.1) :: fs) ∧ ((lw_ProblemsMates_J4 p1 p2 p3 p4 p5 p6 most1 r2)).bind some = some r) ?_ ?_
   ·rintro a w ⟨hF, hS, hm⟩
    unfold lw_ProblemsMates_J4 at hm
    refine seqR ?_
    obtain ⟨r9, hr9, hm⟩ := call_b hm
    refine ar 2 [⟨false, [], vS (Instr.loadAt 75 (pa g1 0)), .agg (ca A1 p1.length c1 p2 p3 p4 p5 p6)⟩] [some (.agg (ca A1 p1.length c1 p2 p3 p4 p5 p6)), none] [7, 8, 9, 93, 94] [pl 7 (vi r2.1), pl 8 (.slice A3 r2.2.1.length c3), pl 9 (vi r2.2.2), pl 93 (.agg (ca A1 p1.length c1 p2 p3 p4 p5 p6)), pl 94 (vi most1)] hF hS ?_ (fun a w hF hS => ?_)
    ·exact obs_cons (oA (cs := (ca A1 p1.length c1 p2 p3 p4 p5 p6)) (fun _ _ hS => (hS.at_ 0 rfl).cellsAt 0 (by rfl))) <| obs_nil
    refine at_call (f := 66) (args := #[.agg (ca A1 p1.length c1 p2 p3 p4 p5 p6), vi most1]) (d := 95) hF (by kernel_rfl) (by kernel_rfl) Try.func66 (by kernel_rfl) rfl (rf_MateOf_w hr9 hS (fun _ hS => (hr_p1 _ (hS.dropN 2))) _hc_p1 rfl) (fun v a w hR hF => ?_)
    clear hS
    obtain ⟨A7, c7, rfl, hS⟩ := hR
    have hS : Sep w0 B w (ownK 88 3 A7 r9.2.length c7 (List.flatMap enc88 r9.2) :: blk g1 75 (ca A1 p1.length c1 p2 p3 p4 p5 p6) :: ownK 88 3 A3 r2.2.1.length c3 (List.flatMap enc88 r2.2.1) :: fs) := hS
    refine ar 5 [] [] [7, 8, 9, 12, 13] [pl 7 (vi r2.1), pl 8 (.slice A3 r2.2.1.length c3), pl 9 (vi r2.2.2), pl 12 (vi r9.1), pl 13 (.slice A7 r9.2.length c7)] hF hS obs_nil (fun a w hF hS => ?_)
    refine ae [7, 8, 9, 12, 13] [pl 7 (vi r2.1), pl 8 (.slice A3 r2.2.1.length c3), pl 9 (vi r2.2.2), pl 12 (vi r9.1), pl 13 (.slice A7 r9.2.length c7)] hF rfl (fun hF => ?_)
    refine then_n ?_
    obtain ⟨r10, hr10, hm⟩ := call_b hm
    refine rg [⟨false, [((r2.2.2 == 0) && (r2.1 == r9.1), true)], callFunc 59 #[.slice A3 r2.2.1.length c3, .slice A7 r9.2.length c7], .bool r10⟩] [none, none, none, none, none, none, none, none, none, none, some (.bool r10), none, none] [6] [pl 6 (.bool (((r2.2.2 == 0) && (r2.1 == r9.1)) && r10))] hF hS ?_ (fun a w hF hS => ?_)
    ·exact obs_cons (ob_call Try.func59 (by kernel_rfl) rfl (fun hy _ hS => lw_sameMoves_w (ite_some hr10 (by rw [show ((r2.2.2 == 0) && (r2.1 == r9.1)) = true from hy ((r2.2.2 == 0) && (r2.1 == r9.1), true) (by simp)]; try rfl)) hS (fun _ hS => (hS.at_ 2 rfl).rdK) ((hS.at_ 2 rfl).capK encK88) rfl (fun _ hS => (hS.at_ 0 rfl).rdK) ((hS.at_ 0 rfl).capK encK88) rfl)) <| obs_nil
    refine wpIn_ret ?_
    have hS := hS.pickN 3 [] (by decide)
    have hm : some (((r2.2.2 == 0) && (r2.1 == r9.1)) && r10) = some r := hm
    obtain rfl := Option.some.inj hm
    exact retV (rs := [.tmp 6]) (vs := [.bool (((r2.2.2 == 0) && (r2.1 == r9.1)) && r10)]) hF rfl rv1 rfl ⟨rfl, hS⟩
   ·refine rg [] [] [1, 3, 7, 8, 9, 80] [pl 1 (vi most1), pl 3 (pa g1 0), pl 7 (vi r2.1), pl 8 (.slice A3 r2.2.1.length c3), pl 9 (vi r2.2.2), pl 80 (.bool ((decide (most1 < 1)) || (decide ((2 : Int) < most1))))] hF hS obs_nil (fun a w hF hS => ?_)
    refine ce (t := 80) (b := (decide (most1 < 1)) || (decide ((2 : Int) < most1))) hF (fun hb => ?_) (fun hb => ?_)
    ·replace hm := if_t hm hb
     refine rg [] [] [6] [pl 6 (.bool (((r2.2.2 == 3) && (r2.1 == 0)) && ((r2.2.1.length : Int) == 0)))] hF hS obs_nil (fun a w hF hS => ?_)
     refine wpIn_ret ?_
     refine then_r ?_
     have hS := hS.pickN 2 [] (by decide)
     have hm : some (((r2.2.2 == 3) && (r2.1 == 0)) && ((r2.2.1.length : Int) == 0)) = some r := hm
     obtain rfl := Option.some.inj hm
     exact retV (rs := [.tmp 6]) (vs := [.bool (((r2.2.2 == 3) && (r2.1 == 0)) && ((r2.2.1.length : Int) == 0))]) hF rfl rv1 rfl ⟨rfl, hS⟩
    ·replace hm := if_f hm hb
     refine wpIn_skip ?_
     refine then_n ?_
     exact ⟨hF.wk [1, 3, 7, 8, 9], hS, hm⟩
  ·refine rg [] [] [1, 2, 3, 7, 8, 9, 10, 11, 57] [pl 1 (vi most1), pl 2 (vi by1), pl 3 (pa g1 0), pl 7 (vi r2.1), pl 8 (.slice A3 r2.2.1.length c3), pl 9 (vi r2.2.2), pl 10 (.slice A5 r4.1.length c5), pl 11 (vi r4.2), pl 57 (.bool ((decide (by1 < 0)) || (decide ((1 : Int) < by1))))] hF hS obs_nil (fun a w hF hS => ?_)
   refine ce (t := 57) (b := (decide (by1 < 0)) || (decide ((1 : Int) < by1))) hF (fun hb => ?_) (fun hb => ?_)
   ·replace hm := if_t hm hb
    refine rg [] [] [1, 3, 7, 8, 9, 64] [pl 1 (vi most1), pl 3 (pa g1 0), pl 7 (vi r2.1), pl 8 (.slice A3 r2.2.1.length c3), pl 9 (vi r2.2.2), pl 64 (.bool ((r4.2 != 3) || (decide ((0 : Int) < (r4.1.length : Int)))))] hF hS obs_nil (fun a w hF hS => ?_)
    refine ce (t := 64) (b := (r4.2 != 3) || (decide ((0 : Int) < (r4.1.length : Int)))) hF (fun hb => ?_) (fun hb => ?_)
    ·replace hm := if_t hm hb
     refine rg [] [] [6] [pl 6 (.bool false)] hF hS obs_nil (fun a w hF hS => ?_)
     refine wpIn_ret ?_
     refine then_r ?_
     have hS := hS.pickN 3 [] (by decide)
     have hm : some false = some r := hm
     obtain rfl := Option.some.inj hm
     exact retV (rs := [.tmp 6]) (vs := [.bool false]) hF rfl rv1 rfl ⟨rfl, hS⟩
    ·replace hm := if_f hm hb
     refine wpIn_skip ?_
     refine then_n ?_
     have hS := hS.pickN 3 [0, 1] (by decide)
     exact ⟨hF.wk [1, 3, 7, 8, 9], hS, hm⟩
   ·replace hm := if_f hm hb
    refine seq_cut (fun a w => ∃ (z1 : Bool), Fr 110 [pl 1 (vi most1), pl 3 (pa g1 0), pl 7 (vi r2.1), pl 8 (.slice A3 r2.2.1.length c3), pl 9 (vi r2.2.2), pl 74 (.bool z1)] a ∧ Sep w0 B w (blk g1 75 (ca A1 p1.length c1 p2 p3 p4 p5 p6) :: ownK 88 3 A3 r2.2.1.length c3 (List.flatMap enc88 r2.2.1) :: fs) ∧ ((lw_ProblemsMates_J3 p1 p2 p3 p4 p5 p6 most1 r2) z1).bind some = some r) ?_ ?_
    ·rintro a w ⟨z1, hF, hS, hm⟩
     unfold lw_ProblemsMates_J3 at hm
     refine ce (t := 74) (b := z1) hF (fun hb => ?_) (fun hb => ?_)
     ·replace hm := if_t hm hb
      refine rg [] [] [6] [pl 6 (.bool false)] hF hS obs_nil (fun a w hF hS => ?_)
      refine wpIn_ret ?_
      refine then_r ?_
      have hS := hS.pickN 2 [] (by decide)
      have hm : some false = some r := hm
      obtain rfl := Option.some.inj hm
      exact retV (rs := [.tmp 6]) (vs := [.bool false]) hF rfl rv1 rfl ⟨rfl, hS⟩
     ·replace hm := if_f hm hb
      refine wpIn_skip ?_
      refine then_n ?_
      exact ⟨hF.wk [1, 3, 7, 8, 9], hS, hm⟩
    ·refine oneR ?_
     refine ar 6 [⟨false, [((r4.2 != 0), false)], vS (Instr.loadAt 75 (pa g1 0)), .agg (ca A1 p1.length c1 p2 p3 p4 p5 p6)⟩] [none, none, none, none, some (.agg (ca A1 p1.length c1 p2 p3 p4 p5 p6)), none] [1, 3, 7, 8, 9, 67, 68, 69, 70] [pl 1 (vi most1), pl 3 (pa g1 0), pl 7 (vi r2.1), pl 8 (.slice A3 r2.2.1.length c3), pl 9 (vi r2.2.2), pl 67 (.bool (r4.2 != 0)), ⟨68, [(67, false)], .slice A5 r4.1.length c5⟩, ⟨69, [(67, false)], .agg (ca A1 p1.length c1 p2 p3 p4 p5 p6)⟩, ⟨70, [(67, false)], vi by1⟩] hF hS ?_ (fun a w hF hS => ?_)
     ·exact obs_cons (oA (cs := (ca A1 p1.length c1 p2 p3 p4 p5 p6)) (fun _ _ hS => (hS.at_ 0 rfl).cellsAt 0 (by rfl))) <| obs_nil
     rcases Bool.eq_false_or_eq_true (r4.2 != 0) with hg1 | hg1
     ·replace hm := if_t hm hg1
      obtain ⟨r6, hr6, hm⟩ := call_b hm
      refine at_gskip (d := 71) (v := .slice none 0 0) (hs := [((r4.2 != 0), false)]) (ctx := [(67, false)]) hF (by kernel_rfl) (by kernel_rfl) (fun h => absurd (h ((r4.2 != 0), false) (by simp)) (by simp [hg1])) (fun a hF => ?_)
      refine ar 3 [⟨false, [((r4.2 != 0), false)], callFunc 25 #[.slice A5 r4.1.length c5, .slice none 0 0], .bool r6⟩] [some (.bool r6), none, none] [1, 3, 7, 8, 9, 74] [pl 1 (vi most1), pl 3 (pa g1 0), pl 7 (vi r2.1), pl 8 (.slice A3 r2.2.1.length c3), pl 9 (vi r2.2.2), pl 74 (.bool ((r4.2 != 0) || (!r6)))] hF hS ?_ (fun a w hF hS => ?_)
      ·exact obs_cons (Ob.vac (fun h => absurd (h ((r4.2 != 0), false) (by simp)) (by simp [hg1]))) <| obs_nil
      refine ae [1, 3, 7, 8, 9, 74] [pl 1 (vi most1), pl 3 (pa g1 0), pl 7 (vi r2.1), pl 8 (.slice A3 r2.2.1.length c3), pl 9 (vi r2.2.2), pl 74 (.bool ((r4.2 != 0) || (!r6)))] hF rfl (fun hF => ?_)
      refine then_n ?_
      have hS := hS.pickN 3 [0, 1] (by decide)
      exact ⟨((r4.2 != 0) || (!r6)), hF.wk [1, 3, 7, 8, 9, 74], hS, hm⟩
     ·replace hm := if_f hm hg1
      obtain ⟨r7, hr7, hm⟩ := call_b hm
      obtain ⟨r8, hr8, hm⟩ := call_b hm
      refine at_gcall (hs := [((r4.2 != 0), false)]) (fun y hy => by simp only [List.mem_cons, List.not_mem_nil, or_false] at hy; subst hy; first | exact hg1) (f := 65) (args := #[.agg (ca A1 p1.length c1 p2 p3 p4 p5 p6), vi by1]) (d := 71) hF (by kernel_rfl) (by kernel_rfl) Try.func65 (by kernel_rfl) rfl (rf_CoveredOf_w hr7 hS (fun _ hS => (hr_p1 _ (hS.dropN 3))) _hc_p1 rfl) (fun v a w hR hF => ?_)
      clear hS
      obtain ⟨A6, c6, rfl, hS⟩ := hR
      have hS : Sep w0 B w (own 3 (.slice A6 r7.length c6) (vI r7) :: blk g1 75 (ca A1 p1.length c1 p2 p3 p4 p5 p6) :: ownK 88 3 A3 r2.2.1.length c3 (List.flatMap enc88 r2.2.1) :: own 3 (.slice A5 r4.1.length c5) (vI r4.1) :: fs) := hS
      refine ar 3 [⟨false, [((r4.2 != 0), false)], callFunc 25 #[.slice A5 r4.1.length c5, .slice A6 r7.length c6], .bool r8⟩] [some (.bool r8), none, none] [1, 3, 7, 8, 9, 74] [pl 1 (vi most1), pl 3 (pa g1 0), pl 7 (vi r2.1), pl 8 (.slice A3 r2.2.1.length c3), pl 9 (vi r2.2.2), pl 74 (.bool ((r4.2 != 0) || (!r8)))] hF hS ?_ (fun a w hF hS => ?_)
      ·exact obs_cons (ob_call Try.func25 (by kernel_rfl) rfl (fun hy _ hS => lw_sameInts_w (ite_some hr8 (by rw [show (r4.2 != 0) = false from hy ((r4.2 != 0), false) (by simp)]; try rfl)) hS (fun _ hS => (hS.at_ 3 rfl).rd) ((hS.at_ 3 rfl).cap1) rfl (fun _ hS => (hS.at_ 0 rfl).rd) ((hS.at_ 0 rfl).cap1) rfl)) <| obs_nil
      refine ae [1, 3, 7, 8, 9, 74] [pl 1 (vi most1), pl 3 (pa g1 0), pl 7 (vi r2.1), pl 8 (.slice A3 r2.2.1.length c3), pl 9 (vi r2.2.2), pl 74 (.bool ((r4.2 != 0) || (!r8)))] hF rfl (fun hF => ?_)
      refine then_n ?_
      have hS := hS.pickN 4 [1, 2] (by decide)
      exact ⟨((r4.2 != 0) || (!r8)), hF.wk [1, 3, 7, 8, 9, 74], hS, hm⟩
 ·obtain ⟨r5, hr5, hm⟩ := call_b hm
  refine rg [⟨false, [], vS (Instr.loadAt 75 (pa g1 0)), .agg (ca A1 p1.length c1 p2 p3 p4 p5 p6)⟩, ⟨false, [], callFunc 48 #[.agg (ca A1 p1.length c1 p2 p3 p4 p5 p6)], .bool r5⟩] [some (.agg (ca A1 p1.length c1 p2 p3 p4 p5 p6)), some (.bool r5), none] [1, 2, 3, 7, 8, 9, 10, 11, 31] [pl 1 (vi most1), pl 2 (vi by1), pl 3 (pa g1 0), pl 7 (vi r2.1), pl 8 (.slice A3 r2.2.1.length c3), pl 9 (vi r2.2.2), pl 10 (.slice A5 r4.1.length c5), pl 11 (vi r4.2), pl 31 (.bool (!r5))] hF hS ?_ (fun a w hF hS => ?_)
  ·exact obs_cons (oA (cs := (ca A1 p1.length c1 p2 p3 p4 p5 p6)) (fun _ _ hS => (hS.at_ 4 rfl).cellsAt 0 (by rfl))) <| obs_cons (ob_call Try.func48 (by kernel_rfl) rfl (fun _ _ hS => rf_ChessMay_w hr5 hS (fun _ hS => (hr_p1 _ (hS.dropN 5))) _hc_p1 rfl)) <| obs_nil
  refine ce (t := 31) (b := !r5) hF (fun hb => ?_) (fun hb => ?_)
  ·replace hm := if_t hm hb
   refine rg [] [] [6] [pl 6 (.bool (((((r2.2.2 == 12) && (r4.2 == 12)) && (r2.1 == 0)) && ((r2.2.1.length : Int) == 0)) && ((r4.1.length : Int) == 0)))] hF hS obs_nil (fun a w hF hS => ?_)
   refine wpIn_ret ?_
   refine then_r ?_
   have hS := hS.pickN 5 [] (by decide)
   have hm : some (((((r2.2.2 == 12) && (r4.2 == 12)) && (r2.1 == 0)) && ((r2.2.1.length : Int) == 0)) && ((r4.1.length : Int) == 0)) = some r := hm
   obtain rfl := Option.some.inj hm
   exact retV (rs := [.tmp 6]) (vs := [.bool (((((r2.2.2 == 12) && (r4.2 == 12)) && (r2.1 == 0)) && ((r2.2.1.length : Int) == 0)) && ((r4.1.length : Int) == 0))]) hF rfl rv1 rfl ⟨rfl, hS⟩
  ·replace hm := if_f hm hb
   refine wpIn_skip ?_
   refine then_n ?_
   have hS := hS.pickN 5 [4, 2, 0] (by decide)
   exact ⟨hF.wk [1, 2, 3, 7, 8, 9, 10, 11], hS, hm⟩

end Go.Proofs.Ytfmmlmiakkjaiaa
