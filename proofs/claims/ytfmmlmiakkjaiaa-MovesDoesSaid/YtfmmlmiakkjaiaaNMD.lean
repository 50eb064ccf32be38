/-
  Models and walks, printed by our own program (wip/gen).
-/
import Derived.Test.YtfmmlmiakkjaiaaVI
import Derived.Test.YtfmmlmiakkjaiaaFB
import Derived.Test.YtfmmlmiakkjaiaaNMC
namespace Go.Proofs.Ytfmmlmiakkjaiaa
open Go Go.GL Go.RowKit
set_option maxRecDepth 100000
set_option maxHeartbeats 4000000

noncomputable def moves_All_J1  (p1 : List Int) (p2 p3 : Int) (p4 p5 p6 : Int) : Option (List MvT × Int) :=
  (board_Moves_m p1 p2 p3 p4 p5 p6).bind fun r2 => some (r2, 0)

noncomputable def moves_All_m  (p1 : List Int) (p2 p3 : Int) (p4 p5 p6 : Int) : Option (List MvT × Int) :=
  (board_May_m p1 p2 p3 p4 p5 p6).bind fun r1 => if (!r1) then (some (([] : List MvT), 12)) else ((moves_All_J1 p1 p2 p3 p4 p5 p6))

theorem moves_All_w {A1 : Option Addr} {c1 n1 : Nat} {p1 : List Int} {p2 p3 : Int} {p4 p5 p6 : Int} {r : (List MvT × Int)} {w0 w : World} {B : Nat} {fs : List HP} (hm : moves_All_m p1 p2 p3 p4 p5 p6 = some r) (hS : Sep w0 B w (fs)) (hr_p1 : RdF w0 B fs A1 (vI p1)) (_hc_p1 : p1.length ≤ c1) (_hn_p1 : n1 = p1.length) :
    Calls Try.prog 55 #[.agg (ca A1 n1 c1 p2 p3 p4 p5 p6)] w fun e w' => ∃ v, e = .returned v ∧ ∃ (A3 : Option Addr) (c3 : Nat), v = .tuple #[.slice A3 r.1.length c3, vi r.2] ∧ Sep w0 B w' (ownK 88 3 A3 r.1.length c3 (List.flatMap enc88 r.1) :: fs) := by
  obtain ⟨i3, hi3, hz3, hs3, hb3⟩ := info_parts Info3
  obtain ⟨i88, hi88, hz88, hs88, hb88⟩ := info_parts Info88
  obtain rfl := _hn_p1
  unfold moves_All_m at hm
  replace hm := start_b hm
  refine enter (l := [.agg (ca A1 p1.length c1 p2 p3 p4 p5 p6)]) (n := 9) Try.func55 rfl rfl (by simp) (fun a hF => ?_)
  refine seqR ?_
  refine at_do (d := 1) (s := vS (Instr.box 75 (.agg (ca A1 p1.length c1 p2 p3 p4 p5 p6)))) (v := pa w.heap.size 0) (w' := w.alloc (.cells (ca A1 p1.length c1 p2 p3 p4 p5 p6) 75)) hF (by kernel_rfl) (by kernel_rfl) (by kernel_rfl) (fun a hF => ?_)
  have hS : Sep w0 B (w.alloc (.cells (ca A1 p1.length c1 p2 p3 p4 p5 p6) 75)) (blk w.heap.size 75 (ca A1 p1.length c1 p2 p3 p4 p5 p6) :: (fs)) := hS.box 75 (ca A1 p1.length c1 p2 p3 p4 p5 p6)
  generalize w.heap.size = g1 at hF hS
  generalize w.alloc (.cells (ca A1 p1.length c1 p2 p3 p4 p5 p6) 75) = w at hS ⊢
  refine at_run 2 [] [] [1] [pl 1 (pa g1 0)] hF hS (by kernel_rfl) (by kernel_rfl) obs_nil (fun a w hF hS => ?_)
  refine at_end [1] [pl 1 (pa g1 0)] hF rfl (by kernel_rfl) (fun hF => ?_)
  refine then_n ?_
  refine seq_cut (fun a w => Fr 9 [pl 1 (pa g1 0)] a ∧ Sep w0 B w (blk g1 75 (ca A1 p1.length c1 p2 p3 p4 p5 p6) :: fs) ∧ ((moves_All_J1 p1 p2 p3 p4 p5 p6)).bind some = some r) ?_ ?_
  · rintro a w ⟨hF, hS, hm⟩
    unfold moves_All_J1 at hm
    refine seqR ?_
    obtain ⟨r2, hr2, hm⟩ := call_b hm
    refine at_run 1 [⟨false, [], vS (Instr.loadAt 75 (pa g1 0)), .agg (ca A1 p1.length c1 p2 p3 p4 p5 p6)⟩] [some (.agg (ca A1 p1.length c1 p2 p3 p4 p5 p6))] [7] [pl 7 (.agg (ca A1 p1.length c1 p2 p3 p4 p5 p6))] hF hS (by kernel_rfl) (by kernel_rfl) ?_ (fun a w hF hS => ?_)
    · exact obs_cons (ob_loadA (cs := (ca A1 p1.length c1 p2 p3 p4 p5 p6)) (by kernel_rfl) (by kernel_rfl) (fun _ _ hS => (hS.at_ 0 rfl).cellsAt 0 (by rfl))) <| obs_nil
    refine at_call (f := 133) (args := #[.agg (ca A1 p1.length c1 p2 p3 p4 p5 p6)]) (d := 8) hF (by kernel_rfl) (by kernel_rfl) Try.func133 (by kernel_rfl) rfl (board_Moves_w hr2 hS (fun _ hS => (hr_p1 _ (hS.dropN 1))) _hc_p1 rfl) (fun v a w hR hF => ?_)
    clear hS
    obtain ⟨A2, c2, rfl, hS⟩ := hR
    have hS : Sep w0 B w (ownK 88 3 A2 r2.length c2 (List.flatMap enc88 r2) :: blk g1 75 (ca A1 p1.length c1 p2 p3 p4 p5 p6) :: fs) := hS
    refine at_run 2 [] [] [2, 3] [pl 2 (.slice A2 r2.length c2), pl 3 (vi 0)] hF hS (by kernel_rfl) (by kernel_rfl) obs_nil (fun a w hF hS => ?_)
    refine at_end [2, 3] [pl 2 (.slice A2 r2.length c2), pl 3 (vi 0)] hF rfl (by kernel_rfl) (fun hF => ?_)
    refine then_n (wpIn_ret ?_)
    have hS := hS.pickN 2 [0] (by decide)
    have hm : some (r2, 0) = some r := hm
    obtain rfl := Option.some.inj hm
    exact retV (rs := [.tmp 2, .tmp 3]) (vs := [.slice A2 r2.length c2, vi 0]) hF rfl (rv_t (by kernel_rfl) <| rv_t (by kernel_rfl) <| rv_nil) rfl ⟨_, rfl, A2, c2, rfl, hS⟩
  · obtain ⟨r1, hr1, hm⟩ := call_b hm
    refine reg [⟨false, [], vS (Instr.loadAt 75 (pa g1 0)), .agg (ca A1 p1.length c1 p2 p3 p4 p5 p6)⟩, ⟨false, [], callFunc 127 #[.agg (ca A1 p1.length c1 p2 p3 p4 p5 p6)], .bool r1⟩] [some (.agg (ca A1 p1.length c1 p2 p3 p4 p5 p6)), some (.bool r1), none] [1, 6] [pl 1 (pa g1 0), pl 6 (.bool (!r1))] hF hS Fol (by kernel_rfl) (by kernel_rfl) (by kernel_rfl) ?_ (fun a w hF hS => ?_)
    · exact obs_cons (ob_loadA (cs := (ca A1 p1.length c1 p2 p3 p4 p5 p6)) (by kernel_rfl) (by kernel_rfl) (fun _ _ hS => (hS.at_ 0 rfl).cellsAt 0 (by rfl))) <| obs_cons (ob_call Try.func127 (by kernel_rfl) rfl (fun _ _ hS => board_May_w hr1 hS (fun _ hS => (hr_p1 _ (hS.dropN 1))) _hc_p1 rfl)) <| obs_nil
    refine cond_ev (t := 6) (b := !r1) hF (by kernel_rfl) (fun hb => ?_) (fun hb => ?_)
    · replace hm := if_t hm hb
      refine reg [] [] [2, 3] [pl 2 (.slice none 0 0), pl 3 (vi 12)] hF hS Fol (by kernel_rfl) (by kernel_rfl) (by kernel_rfl) obs_nil (fun a w hF hS => ?_)
      refine wpIn_ret ?_
      refine then_r ?_
      have hS : Sep w0 B w (ownK 88 3 none 0 0 (List.flatMap enc88 ([] : List MvT)) :: blk g1 75 (ca A1 p1.length c1 p2 p3 p4 p5 p6) :: fs) := hS.nilK 88 3 enc88
      have hl1 := (hS.at_ 0 rfl).lenK encK88
      have hS := (hS.at_ 0 rfl).reNK hl1
      have hS : Sep w0 B w (ownK 88 3 none (([] : List MvT).length) 0 (List.flatMap enc88 ([] : List MvT)) :: blk g1 75 (ca A1 p1.length c1 p2 p3 p4 p5 p6) :: fs) := hS
      have hS := hS.pickN 2 [0] (by decide)
      have hm : some (([] : List MvT), 12) = some r := hm
      obtain rfl := Option.some.inj hm
      exact retV (rs := [.tmp 2, .tmp 3]) (vs := [.slice none (([] : List MvT).length) 0, vi 12]) hF rfl (rv_t (by kernel_rfl) <| rv_t (by kernel_rfl) <| rv_nil) rfl ⟨_, rfl, none, 0, rfl, hS⟩
    · replace hm := if_f hm hb
      refine wpIn_skip ?_
      refine then_n ?_
      exact ⟨hF.weak [1] (by kernel_rfl), hS, hm⟩

noncomputable def api_Move_4_J3  (z1 : Int) : Option (St Int (Fl Unit Int)) :=
  some (.next (w64 (z1 + 1)))

noncomputable def api_Move_4_J2  (s1 : List MvT) (v1 v2 : Int) (v3 z1 : Int) : Option (St Int (Fl Unit Int)) :=
  asrt (0 ≤ z1 ∧ z1 < (s1.length : Int)) <| if ((v1 == ((getd ((0, 0, 0) : MvT) s1 z1).1)) && ((v2 == ((getd ((0, 0, 0) : MvT) s1 z1).2.1)) && (v3 == ((getd ((0, 0, 0) : MvT) s1 z1).2.2)))) then (some (.done (.ret z1))) else ((api_Move_4_J3 z1))

noncomputable def api_Move_4_J1  : Option Int :=
  some (-1)

noncomputable def api_Move_4_K1  : (Fl Unit Int) → Option Int :=
  fun (x : (Fl Unit Int)) => match x with | .go _ => api_Move_4_J1 | .ret x => some x

noncomputable def api_Move_4_L1  (s1 : List MvT) (v1 v2 v3 : Int) : Int → Option (St Int (Fl Unit Int)) :=
  fun (x : Int) => match x with | z1 => if (decide (z1 < (s1.length : Int))) then ((api_Move_4_J2 s1 v1 v2 v3 z1)) else (some (.done (.go ())))

noncomputable def api_Move_4_m  (s1 : List MvT) (v1 v2 v3 : Int) : Option Int :=
  (loop (api_Move_4_L1 s1 v1 v2 v3) 0).bind api_Move_4_K1

theorem api_Move_4_w {A1 : Option Addr} {c1 n1 : Nat} {s1 : List MvT} {v1 v2 : Int} {v3 r : Int} {w0 w : World} {B : Nat} {fs : List HP} (hm : api_Move_4_m s1 v1 v2 v3 = some r) (hS : Sep w0 B w (fs)) (hr_s1 : RdF w0 B fs A1 ((List.flatMap enc88 s1))) (_hc_s1 : s1.length ≤ c1) (_hn_s1 : n1 = s1.length) :
    Calls Try.prog 203 #[.slice A1 n1 c1, .agg #[vi v1, vi v2, vi v3]] w fun e w' => e = .returned (vi r) ∧ Sep w0 B w' (fs) := by
  obtain ⟨i88, hi88, hz88, hs88, hb88⟩ := info_parts Info88
  obtain rfl := _hn_s1
  unfold api_Move_4_m at hm
  replace hm := start_b hm
  refine enter (l := [.slice A1 s1.length c1, .agg #[vi v1, vi v2, vi v3]]) (n := 19) Try.func203 rfl rfl (by simp) (fun a hF => ?_)
  refine seqR ?_
  refine at_do (d := 3) (s := vS (Instr.box 88 (.agg #[vi v1, vi v2, vi v3]))) (v := pa w.heap.size 0) (w' := w.alloc (.cells #[vi v1, vi v2, vi v3] 88)) hF (by kernel_rfl) (by kernel_rfl) (by kernel_rfl) (fun a hF => ?_)
  have hS : Sep w0 B (w.alloc (.cells #[vi v1, vi v2, vi v3] 88)) (blk w.heap.size 88 #[vi v1, vi v2, vi v3] :: (fs)) := hS.box 88 #[vi v1, vi v2, vi v3]
  generalize w.heap.size = g1 at hF hS
  generalize w.alloc (.cells #[vi v1, vi v2, vi v3] 88) = w at hS ⊢
  refine at_run 1 [] [] [0, 3] [pl 0 (.slice A1 s1.length c1), pl 3 (pa g1 0)] hF hS (by kernel_rfl) (by kernel_rfl) obs_nil (fun a w hF hS => ?_)
  refine at_end [0, 3] [pl 0 (.slice A1 s1.length c1), pl 3 (pa g1 0)] hF rfl (by kernel_rfl) (fun hF => ?_)
  refine then_n ?_
  refine seq_cut (fun a w => Fr 19 [] a ∧ Sep w0 B w (fs) ∧ (api_Move_4_J1).bind some = some r) ?_ ?_
  · rintro a w ⟨hF, hS, hm⟩
    unfold api_Move_4_J1 at hm
    refine reg [] [] [4] [pl 4 (vi (-1))] hF hS Fol (by kernel_rfl) (by kernel_rfl) (by kernel_rfl) obs_nil (fun a w hF hS => ?_)
    refine wpIn_ret ?_
    have hm : some (-1) = some r := hm
    obtain rfl := Option.some.inj hm
    exact retV (rs := [.tmp 4]) (vs := [vi (-1)]) hF rfl (rv_t (by kernel_rfl) <| rv_nil) rfl ⟨rfl, hS⟩
  · refine reg [] [] [0, 3, 7, 8] [pl 0 (.slice A1 s1.length c1), pl 3 (pa g1 0), pl 7 (vi (s1.length : Int)), pl 8 (vi 0)] hF hS Fol (by kernel_rfl) (by kernel_rfl) (by kernel_rfl) obs_nil (fun a w hF hS => ?_)
    refine wpIn_block ?_
    refine wp_loop_model (S := Int) (R := (Fl Unit Int)) (api_Move_4_L1 s1 v1 v2 v3) (fun x => (api_Move_4_K1 x).bind some) r (fun (x : Int) a w => Fr 19 [pl 0 (.slice A1 s1.length c1), pl 3 (pa g1 0), pl 7 (vi (s1.length : Int)), pl 8 (vi x)] a ∧ Sep w0 B w (blk g1 88 #[vi v1, vi v2, vi v3] :: fs)) (assoc_b hm) ⟨hF.weak [0, 3, 7, 8] (by kernel_rfl), hS⟩ ?_
    clear hF hS hm
    rintro nn1 z1 a w ⟨hF, hS⟩ hm
    generalize hφ1 : stK (api_Move_4_L1 s1 v1 v2 v3) nn1 (fun x => (api_Move_4_K1 x).bind some) = φ1 at hm
    unfold api_Move_4_L1 at hm
    dsimp only at hm
    refine reg [] [] [0, 3, 7, 8, 9] [pl 0 (.slice A1 s1.length c1), pl 3 (pa g1 0), pl 7 (vi (s1.length : Int)), pl 8 (vi z1), pl 9 (.bool (decide (z1 < (s1.length : Int))))] hF hS Fol (by kernel_rfl) (by kernel_rfl) (by kernel_rfl) obs_nil (fun a w hF hS => ?_)
    refine seq_cut (fun a w => Fr 19 [pl 0 (.slice A1 s1.length c1), pl 3 (pa g1 0), pl 7 (vi (s1.length : Int)), pl 8 (vi z1)] a ∧ Sep w0 B w (blk g1 88 #[vi v1, vi v2, vi v3] :: fs) ∧ ((api_Move_4_J2 s1 v1 v2 v3 z1)).bind φ1 = some r) ?_ ?_
    · rintro a w ⟨hF, hS, hm⟩
      unfold api_Move_4_J2 at hm
      refine seq_cut (fun a w => Fr 19 [pl 0 (.slice A1 s1.length c1), pl 3 (pa g1 0), pl 7 (vi (s1.length : Int)), pl 8 (vi z1)] a ∧ Sep w0 B w (blk g1 88 #[vi v1, vi v2, vi v3] :: fs) ∧ ((api_Move_4_J3 z1)).bind φ1 = some r) ?_ ?_
      · rintro a w ⟨hF, hS, hm⟩
        unfold api_Move_4_J3 at hm
        refine reg1 [] [] [0, 3, 7, 8] [pl 0 (.slice A1 s1.length c1), pl 3 (pa g1 0), pl 7 (vi (s1.length : Int)), pl 8 (vi (w64 (z1 + 1)))] hF hS Fol (by kernel_rfl) (by kernel_rfl) (by kernel_rfl) obs_nil (fun a w hF hS => ?_)
        refine then_n ?_
        rw [← hφ1] at hm
        exact ⟨(w64 (z1 + 1)), ⟨hF.weak [0, 3, 7, 8] (by kernel_rfl), hS⟩, hm⟩
      · refine wpIn_block ?_
        refine reg [] [] [0, 3, 5, 7, 8] [pl 0 (.slice A1 s1.length c1), pl 3 (pa g1 0), pl 5 (vi z1), pl 7 (vi (s1.length : Int)), pl 8 (vi z1)] hF hS Fol (by kernel_rfl) (by kernel_rfl) (by kernel_rfl) obs_nil (fun a w hF hS => ?_)
        obtain ⟨hp1, hm⟩ := asrt_b hm
        refine reg [⟨false, [], vS (Instr.loadAt 88 (pa g1 0)), .agg #[vi v1, vi v2, vi v3]⟩, ⟨true, [], vS (Instr.indexAt 81 (.slice A1 s1.length c1) (vi z1)), .pointer (some (sAddrK A1 3 z1))⟩, ⟨false, [], vS (Instr.loadAt 88 (.pointer (some (sAddrK A1 3 z1)))), .agg #[vi ((getd ((0, 0, 0) : MvT) s1 z1).1), vi ((getd ((0, 0, 0) : MvT) s1 z1).2.1), vi ((getd ((0, 0, 0) : MvT) s1 z1).2.2)]⟩, ⟨true, [], vS (do eqGuard .eql 88 (.tmp 11) (.tmp 15) (.agg #[vi v1, vi v2, vi v3]) (.agg #[vi ((getd ((0, 0, 0) : MvT) s1 z1).1), vi ((getd ((0, 0, 0) : MvT) s1 z1).2.1), vi ((getd ((0, 0, 0) : MvT) s1 z1).2.2)]); binOp .eql 88 (.agg #[vi v1, vi v2, vi v3]) (.agg #[vi ((getd ((0, 0, 0) : MvT) s1 z1).1), vi ((getd ((0, 0, 0) : MvT) s1 z1).2.1), vi ((getd ((0, 0, 0) : MvT) s1 z1).2.2)])), .bool (((v1 == ((getd ((0, 0, 0) : MvT) s1 z1).1)) && ((v2 == ((getd ((0, 0, 0) : MvT) s1 z1).2.1)) && (v3 == ((getd ((0, 0, 0) : MvT) s1 z1).2.2)))))⟩] [some (.agg #[vi v1, vi v2, vi v3]), none, none, some (.pointer (some (sAddrK A1 3 z1))), some (.agg #[vi ((getd ((0, 0, 0) : MvT) s1 z1).1), vi ((getd ((0, 0, 0) : MvT) s1 z1).2.1), vi ((getd ((0, 0, 0) : MvT) s1 z1).2.2)]), some (.bool (((v1 == ((getd ((0, 0, 0) : MvT) s1 z1).1)) && ((v2 == ((getd ((0, 0, 0) : MvT) s1 z1).2.1)) && (v3 == ((getd ((0, 0, 0) : MvT) s1 z1).2.2))))))] [0, 3, 5, 7, 8, 16] [pl 0 (.slice A1 s1.length c1), pl 3 (pa g1 0), pl 5 (vi z1), pl 7 (vi (s1.length : Int)), pl 8 (vi z1), pl 16 (.bool ((v1 == ((getd ((0, 0, 0) : MvT) s1 z1).1)) && ((v2 == ((getd ((0, 0, 0) : MvT) s1 z1).2.1)) && (v3 == ((getd ((0, 0, 0) : MvT) s1 z1).2.2)))))] hF hS Fol (by kernel_rfl) (by kernel_rfl) (by kernel_rfl) ?_ (fun a w hF hS => ?_)
        · exact obs_cons (ob_loadA (cs := #[vi v1, vi v2, vi v3]) (by kernel_rfl) (by kernel_rfl) (fun _ _ hS => (hS.at_ 0 rfl).cellsAt 0 (by rfl))) <| obs_cons (ob_ixK (m := s1) encK88 Und81 hi88 hs88 (hr_s1 _ (hS.dropN 1)) rfl (fun _ => hp1)) <| obs_cons (ob_getK (n := s1.length) (m := s1) encK88 ((0, 0, 0) : MvT) (by kernel_rfl) (by kernel_rfl) (fun _ hS => ⟨_, (hr_s1 _ (hS.dropN 1))⟩) (fun _ hS => rfl) (fun _ => hp1)) <| obs_cons (ob_eql rfl (by kernel_rfl) (fun w => Eql88 w)) <| obs_nil
        refine cond_ev (t := 16) (b := ((v1 == ((getd ((0, 0, 0) : MvT) s1 z1).1)) && ((v2 == ((getd ((0, 0, 0) : MvT) s1 z1).2.1)) && (v3 == ((getd ((0, 0, 0) : MvT) s1 z1).2.2))))) hF (by kernel_rfl) (fun hb => ?_) (fun hb => ?_)
        · replace hm := if_t hm hb
          refine reg [] [] [4] [pl 4 (vi z1)] hF hS Fol (by kernel_rfl) (by kernel_rfl) (by kernel_rfl) obs_nil (fun a w hF hS => ?_)
          refine wpIn_ret ?_
          refine block_r (then_r (then_r (block_r (then_r ?_))))
          rw [← hφ1] at hm
          replace hm := done_b hm
          unfold api_Move_4_K1 at hm
          try dsimp only at hm
          have hS := hS.pickN 1 [] (by decide)
          have hm : some z1 = some r := hm
          obtain rfl := Option.some.inj hm
          exact retV (rs := [.tmp 4]) (vs := [vi z1]) hF rfl (rv_t (by kernel_rfl) <| rv_nil) rfl ⟨rfl, hS⟩
        · replace hm := if_f hm hb
          refine wpIn_skip ?_
          refine block_n ?_
          refine then_n ?_
          exact ⟨hF.weak [0, 3, 7, 8] (by kernel_rfl), hS, hm⟩
    · refine cond_ev (t := 9) (b := decide (z1 < (s1.length : Int))) hF (by kernel_rfl) (fun hb => ?_) (fun hb => ?_)
      · replace hm := if_t hm hb
        refine wpIn_skip ?_
        refine then_n ?_
        exact ⟨hF.weak [0, 3, 7, 8] (by kernel_rfl), hS, hm⟩
      · replace hm := if_f hm hb
        refine wpIn_exit ?_
        refine then_e (then_e (block_e (then_n ?_)))
        have hS := hS.pickN 1 [] (by decide)
        rw [← hφ1] at hm
        replace hm := done_b hm
        unfold api_Move_4_K1 at hm
        try dsimp only at hm
        have hm : (api_Move_4_J1).bind some = some r := hm
        exact ⟨hF.weak [] (by kernel_rfl), hS, hm⟩

noncomputable def api_Move_3_m  (s1 : List MvT) (v1 v2 v3 : Int) : Option Bool :=
  (api_Move_4_m s1 v1 v2 v3).bind fun r1 => some (decide ((0 : Int) ≤ r1))

theorem api_Move_3_w {A1 : Option Addr} {c1 n1 : Nat} {s1 : List MvT} {v1 v2 v3 : Int} {r : Bool} {w0 w : World} {B : Nat} {fs : List HP} (hm : api_Move_3_m s1 v1 v2 v3 = some r) (hS : Sep w0 B w (fs)) (hr_s1 : RdF w0 B fs A1 ((List.flatMap enc88 s1))) (_hc_s1 : s1.length ≤ c1) (_hn_s1 : n1 = s1.length) :
    Calls Try.prog 134 #[.slice A1 n1 c1, .agg #[vi v1, vi v2, vi v3]] w fun e w' => e = .returned (.bool r) ∧ Sep w0 B w' (fs) := by
  obtain ⟨i88, hi88, hz88, hs88, hb88⟩ := info_parts Info88
  obtain rfl := _hn_s1
  unfold api_Move_3_m at hm
  replace hm := start_b hm
  refine enter (l := [.slice A1 s1.length c1, .agg #[vi v1, vi v2, vi v3]]) (n := 9) Try.func134 rfl rfl (by simp) (fun a hF => ?_)
  refine seqR ?_
  refine at_do (d := 3) (s := vS (Instr.box 88 (.agg #[vi v1, vi v2, vi v3]))) (v := pa w.heap.size 0) (w' := w.alloc (.cells #[vi v1, vi v2, vi v3] 88)) hF (by kernel_rfl) (by kernel_rfl) (by kernel_rfl) (fun a hF => ?_)
  have hS : Sep w0 B (w.alloc (.cells #[vi v1, vi v2, vi v3] 88)) (blk w.heap.size 88 #[vi v1, vi v2, vi v3] :: (fs)) := hS.box 88 #[vi v1, vi v2, vi v3]
  generalize w.heap.size = g1 at hF hS
  generalize w.alloc (.cells #[vi v1, vi v2, vi v3] 88) = w at hS ⊢
  refine at_run 1 [] [] [0, 3] [pl 0 (.slice A1 s1.length c1), pl 3 (pa g1 0)] hF hS (by kernel_rfl) (by kernel_rfl) obs_nil (fun a w hF hS => ?_)
  refine at_end [0, 3] [pl 0 (.slice A1 s1.length c1), pl 3 (pa g1 0)] hF rfl (by kernel_rfl) (fun hF => ?_)
  refine then_n ?_
  obtain ⟨r1, hr1, hm⟩ := call_b hm
  refine reg [⟨false, [], vS (Instr.loadAt 88 (pa g1 0)), .agg #[vi v1, vi v2, vi v3]⟩, ⟨false, [], callFunc 203 #[.slice A1 s1.length c1, .agg #[vi v1, vi v2, vi v3]], vi r1⟩] [none, some (.agg #[vi v1, vi v2, vi v3]), some (vi r1), none, none] [4] [pl 4 (.bool (decide ((0 : Int) ≤ r1)))] hF hS Fol (by kernel_rfl) (by kernel_rfl) (by kernel_rfl) ?_ (fun a w hF hS => ?_)
  · exact obs_cons (ob_loadA (cs := #[vi v1, vi v2, vi v3]) (by kernel_rfl) (by kernel_rfl) (fun _ _ hS => (hS.at_ 0 rfl).cellsAt 0 (by rfl))) <| obs_cons (ob_call Try.func203 (by kernel_rfl) rfl (fun _ _ hS => api_Move_4_w hr1 hS (fun _ hS => (hr_s1 _ (hS.dropN 1))) _hc_s1 rfl)) <| obs_nil
  refine wpIn_ret ?_
  have hS := hS.pickN 1 [] (by decide)
  have hm : some (decide ((0 : Int) ≤ r1)) = some r := hm
  obtain rfl := Option.some.inj hm
  exact retV (rs := [.tmp 4]) (vs := [.bool (decide ((0 : Int) ≤ r1))]) hF rfl (rv_t (by kernel_rfl) <| rv_nil) rfl ⟨rfl, hS⟩

noncomputable def moves_Do_J1  (p1 : List Int) (p2 p3 : Int) (p4 p5 : Int) (p6 m1 : Int) (m2 m3 : Int) : Option (List Int × Int × Int × Int × Int × Int × Int) :=
  (board_After_m p1 p2 p3 p4 p5 p6 m1 m2 m3).bind fun r4 => some (r4.1, r4.2.1, r4.2.2.1, r4.2.2.2.1, r4.2.2.2.2.1, r4.2.2.2.2.2, 0)

noncomputable def moves_Do_J2  (p1 : List Int) (p2 p3 : Int) (p4 p5 : Int) (p6 m1 : Int) (m2 m3 : Int) (z1 : Bool) : Option (List Int × Int × Int × Int × Int × Int × Int) :=
  if z1 then (some (([] : List Int), 0, 0, 0, 0, 0, 8)) else ((moves_Do_J1 p1 p2 p3 p4 p5 p6 m1 m2 m3))

noncomputable def moves_Do_m  (p1 : List Int) (p2 p3 : Int) (p4 p5 : Int) (p6 m1 : Int) (m2 m3 : Int) : Option (List Int × Int × Int × Int × Int × Int × Int) :=
  (board_May_m p1 p2 p3 p4 p5 p6).bind fun r1 => if (!r1) then (some (([] : List Int), 0, 0, 0, 0, 0, 12)) else ((board_Moves_m p1 p2 p3 p4 p5 p6).bind fun r2 => (api_Move_3_m r2 m1 m2 m3).bind fun r3 => (moves_Do_J2 p1 p2 p3 p4 p5 p6 m1 m2 m3) (!r3))

theorem moves_Do_w {A1 : Option Addr} {c1 n1 : Nat} {p1 : List Int} {p2 p3 : Int} {p4 p5 : Int} {p6 m1 : Int} {m2 m3 : Int} {r : (List Int × Int × Int × Int × Int × Int × Int)} {w0 w : World} {B : Nat} {fs : List HP} (hm : moves_Do_m p1 p2 p3 p4 p5 p6 m1 m2 m3 = some r) (hS : Sep w0 B w (fs)) (hr_p1 : RdF w0 B fs A1 (vI p1)) (_hc_p1 : p1.length ≤ c1) (_hn_p1 : n1 = p1.length) :
    Calls Try.prog 56 #[.agg (ca A1 n1 c1 p2 p3 p4 p5 p6), .agg #[vi m1, vi m2, vi m3]] w fun e w' => ∃ v, e = .returned v ∧ ∃ (A5 : Option Addr) (c5 : Nat), v = .tuple #[.agg (ca A5 r.1.length c5 r.2.1 r.2.2.1 r.2.2.2.1 r.2.2.2.2.1 r.2.2.2.2.2.1), vi r.2.2.2.2.2.2] ∧ Sep w0 B w' (own 3 (.slice A5 r.1.length c5) (vI r.1) :: fs) := by
  obtain ⟨i3, hi3, hz3, hs3, hb3⟩ := info_parts Info3
  obtain rfl := _hn_p1
  unfold moves_Do_m at hm
  replace hm := start_b hm
  refine enter (l := [.agg (ca A1 p1.length c1 p2 p3 p4 p5 p6), .agg #[vi m1, vi m2, vi m3]]) (n := 21) Try.func56 rfl rfl (by simp) (fun a hF => ?_)
  refine seqR ?_
  refine at_do (d := 2) (s := vS (Instr.box 75 (.agg (ca A1 p1.length c1 p2 p3 p4 p5 p6)))) (v := pa w.heap.size 0) (w' := w.alloc (.cells (ca A1 p1.length c1 p2 p3 p4 p5 p6) 75)) hF (by kernel_rfl) (by kernel_rfl) (by kernel_rfl) (fun a hF => ?_)
  have hS : Sep w0 B (w.alloc (.cells (ca A1 p1.length c1 p2 p3 p4 p5 p6) 75)) (blk w.heap.size 75 (ca A1 p1.length c1 p2 p3 p4 p5 p6) :: (fs)) := hS.box 75 (ca A1 p1.length c1 p2 p3 p4 p5 p6)
  generalize w.heap.size = g1 at hF hS
  generalize w.alloc (.cells (ca A1 p1.length c1 p2 p3 p4 p5 p6) 75) = w at hS ⊢
  refine at_do (d := 3) (s := vS (Instr.box 88 (.agg #[vi m1, vi m2, vi m3]))) (v := pa w.heap.size 0) (w' := w.alloc (.cells #[vi m1, vi m2, vi m3] 88)) hF (by kernel_rfl) (by kernel_rfl) (by kernel_rfl) (fun a hF => ?_)
  have hS : Sep w0 B (w.alloc (.cells #[vi m1, vi m2, vi m3] 88)) (blk w.heap.size 88 #[vi m1, vi m2, vi m3] :: (blk g1 75 (ca A1 p1.length c1 p2 p3 p4 p5 p6) :: fs)) := hS.box 88 #[vi m1, vi m2, vi m3]
  generalize w.heap.size = g2 at hF hS
  generalize w.alloc (.cells #[vi m1, vi m2, vi m3] 88) = w at hS ⊢
  refine at_do (d := 4) (s := vS (Instr.alloc 75 true (.tuple #[]))) (v := pa w.heap.size 0) (w' := w.alloc (.cells (ca none 0 0 0 0 0 0 0) 75)) hF (by kernel_rfl) (by kernel_rfl) (by kernel_rfl) (fun a hF => ?_)
  have hS : Sep w0 B (w.alloc (.cells (ca none 0 0 0 0 0 0 0) 75)) (blk w.heap.size 75 (ca none 0 0 0 0 0 0 0) :: (blk g2 88 #[vi m1, vi m2, vi m3] :: blk g1 75 (ca A1 p1.length c1 p2 p3 p4 p5 p6) :: fs)) := hS.box 75 (ca none 0 0 0 0 0 0 0)
  generalize w.heap.size = g3 at hF hS
  generalize w.alloc (.cells (ca none 0 0 0 0 0 0 0) 75) = w at hS ⊢
  refine at_run 1 [] [] [2, 3, 4] [pl 2 (pa g1 0), pl 3 (pa g2 0), pl 4 (pa g3 0)] hF hS (by kernel_rfl) (by kernel_rfl) obs_nil (fun a w hF hS => ?_)
  refine at_end [2, 3, 4] [pl 2 (pa g1 0), pl 3 (pa g2 0), pl 4 (pa g3 0)] hF rfl (by kernel_rfl) (fun hF => ?_)
  refine then_n ?_
  refine seq_cut (fun a w => Fr 21 [pl 2 (pa g1 0), pl 3 (pa g2 0), pl 4 (pa g3 0)] a ∧ Sep w0 B w (blk g1 75 (ca A1 p1.length c1 p2 p3 p4 p5 p6) :: blk g2 88 #[vi m1, vi m2, vi m3] :: blk g3 75 (ca none 0 0 0 0 0 0 0) :: fs) ∧ ((moves_Do_J1 p1 p2 p3 p4 p5 p6 m1 m2 m3)).bind some = some r) ?_ ?_
  · rintro a w ⟨hF, hS, hm⟩
    unfold moves_Do_J1 at hm
    refine seqR ?_
    obtain ⟨r4, hr4, hm⟩ := call_b hm
    refine at_run 2 [⟨false, [], vS (Instr.loadAt 75 (pa g1 0)), .agg (ca A1 p1.length c1 p2 p3 p4 p5 p6)⟩, ⟨false, [], vS (Instr.loadAt 88 (pa g2 0)), .agg #[vi m1, vi m2, vi m3]⟩] [some (.agg (ca A1 p1.length c1 p2 p3 p4 p5 p6)), some (.agg #[vi m1, vi m2, vi m3])] [4, 18, 19] [pl 4 (pa g3 0), pl 18 (.agg (ca A1 p1.length c1 p2 p3 p4 p5 p6)), pl 19 (.agg #[vi m1, vi m2, vi m3])] hF hS (by kernel_rfl) (by kernel_rfl) ?_ (fun a w hF hS => ?_)
    · exact obs_cons (ob_loadA (cs := (ca A1 p1.length c1 p2 p3 p4 p5 p6)) (by kernel_rfl) (by kernel_rfl) (fun _ _ hS => (hS.at_ 0 rfl).cellsAt 0 (by rfl))) <| obs_cons (ob_loadA (cs := #[vi m1, vi m2, vi m3]) (by kernel_rfl) (by kernel_rfl) (fun _ _ hS => (hS.at_ 1 rfl).cellsAt 0 (by rfl))) <| obs_nil
    refine at_call (f := 135) (args := #[.agg (ca A1 p1.length c1 p2 p3 p4 p5 p6), .agg #[vi m1, vi m2, vi m3]]) (d := 20) hF (by kernel_rfl) (by kernel_rfl) Try.func135 (by kernel_rfl) rfl (board_After_w hr4 hS (fun _ hS => (hr_p1 _ (hS.dropN 3))) _hc_p1 rfl) (fun v a w hR hF => ?_)
    clear hS
    obtain ⟨A4, c4, rfl, hS⟩ := hR
    have hS : Sep w0 B w (own 3 (.slice A4 r4.1.length c4) (vI r4.1) :: blk g1 75 (ca A1 p1.length c1 p2 p3 p4 p5 p6) :: blk g2 88 #[vi m1, vi m2, vi m3] :: blk g3 75 (ca none 0 0 0 0 0 0 0) :: fs) := hS
    obtain ⟨w, hrun, hS⟩ := run_putA (P := Try.prog) (t := 75) (us := (ca A4 r4.1.length c4 r4.2.1 r4.2.2.1 r4.2.2.2.1 r4.2.2.2.2.1 r4.2.2.2.2.2)) (o := 0) (hS.at_ 3 rfl) (by kernel_rfl) (all_one (by kernel_rfl)) (Nat.le_of_ble_eq_true (by kernel_rfl))
    refine at_skip hF (by kernel_rfl) hrun ?_
    have hS : Sep w0 B w (own 3 (.slice A4 r4.1.length c4) (vI r4.1) :: blk g1 75 (ca A1 p1.length c1 p2 p3 p4 p5 p6) :: blk g2 88 #[vi m1, vi m2, vi m3] :: blk g3 75 (ca A4 r4.1.length c4 r4.2.1 r4.2.2.1 r4.2.2.2.1 r4.2.2.2.2.1 r4.2.2.2.2.2) :: fs) := hS
    refine at_run 1 [] [] [4, 5] [pl 4 (pa g3 0), pl 5 (vi 0)] hF hS (by kernel_rfl) (by kernel_rfl) obs_nil (fun a w hF hS => ?_)
    refine at_end [4, 5] [pl 4 (pa g3 0), pl 5 (vi 0)] hF rfl (by kernel_rfl) (fun hF => ?_)
    refine then_n (wpIn_ret ?_)
    have hld0 := run_loadVarA (P := Try.prog) (t := 75) (cs := (ca A4 r4.1.length c4 r4.2.1 r4.2.2.1 r4.2.2.2.1 r4.2.2.2.2.1 r4.2.2.2.2.2)) (by kernel_rfl) (by kernel_rfl) ((hS.at_ 3 rfl).cellsAt 0 (by rfl))
    have hS := hS.pickN 4 [0] (by decide)
    have hm : some (r4.1, r4.2.1, r4.2.2.1, r4.2.2.2.1, r4.2.2.2.2.1, r4.2.2.2.2.2, 0) = some r := hm
    obtain rfl := Option.some.inj hm
    exact retV (rs := [.cell 4 75, .tmp 5]) (vs := [.agg (ca A4 r4.1.length c4 r4.2.1 r4.2.2.1 r4.2.2.2.1 r4.2.2.2.2.1 r4.2.2.2.2.2), vi 0]) hF rfl (rv_c (by kernel_rfl) hld0 <| rv_t (by kernel_rfl) <| rv_nil) rfl ⟨_, rfl, A4, c4, rfl, hS⟩
  · refine wpIn_block ?_
    obtain ⟨r1, hr1, hm⟩ := call_b hm
    refine reg [⟨false, [], vS (Instr.loadAt 75 (pa g1 0)), .agg (ca A1 p1.length c1 p2 p3 p4 p5 p6)⟩, ⟨false, [], callFunc 127 #[.agg (ca A1 p1.length c1 p2 p3 p4 p5 p6)], .bool r1⟩] [some (.agg (ca A1 p1.length c1 p2 p3 p4 p5 p6)), some (.bool r1), none, none] [2, 3, 4, 6] [pl 2 (pa g1 0), pl 3 (pa g2 0), pl 4 (pa g3 0), pl 6 (.bool (!r1))] hF hS Fol (by kernel_rfl) (by kernel_rfl) (by kernel_rfl) ?_ (fun a w hF hS => ?_)
    · exact obs_cons (ob_loadA (cs := (ca A1 p1.length c1 p2 p3 p4 p5 p6)) (by kernel_rfl) (by kernel_rfl) (fun _ _ hS => (hS.at_ 2 rfl).cellsAt 0 (by rfl))) <| obs_cons (ob_call Try.func127 (by kernel_rfl) rfl (fun _ _ hS => board_May_w hr1 hS (fun _ hS => (hr_p1 _ (hS.dropN 3))) _hc_p1 rfl)) <| obs_nil
    refine cond_ev (t := 6) (b := !r1) hF (by kernel_rfl) (fun hb => ?_) (fun hb => ?_)
    · replace hm := if_t hm hb
      refine seqR ?_
      refine at_run 1 [] [] [4, 10] [pl 4 (pa g3 0), pl 10 (.agg (ca none 0 0 0 0 0 0 0))] hF hS (by kernel_rfl) (by kernel_rfl) obs_nil (fun a w hF hS => ?_)
      obtain ⟨w, hrun, hS⟩ := run_putA (P := Try.prog) (t := 75) (us := (ca none 0 0 0 0 0 0 0)) (o := 0) (hS.at_ 0 rfl) (by kernel_rfl) (all_one (by kernel_rfl)) (Nat.le_of_ble_eq_true (by kernel_rfl))
      refine at_skip hF (by kernel_rfl) hrun ?_
      have hS : Sep w0 B w (blk g3 75 (ca none 0 0 0 0 0 0 0) :: blk g2 88 #[vi m1, vi m2, vi m3] :: blk g1 75 (ca A1 p1.length c1 p2 p3 p4 p5 p6) :: fs) := hS
      refine at_run 1 [] [] [4, 5] [pl 4 (pa g3 0), pl 5 (vi 12)] hF hS (by kernel_rfl) (by kernel_rfl) obs_nil (fun a w hF hS => ?_)
      refine at_end [4, 5] [pl 4 (pa g3 0), pl 5 (vi 12)] hF rfl (by kernel_rfl) (fun hF => ?_)
      refine then_n (wpIn_ret ?_)
      refine block_r (then_r ?_)
      have hS : Sep w0 B w (own 3 (.slice none 0 0) (vI ([] : List Int)) :: blk g3 75 (ca none 0 0 0 0 0 0 0) :: blk g2 88 #[vi m1, vi m2, vi m3] :: blk g1 75 (ca A1 p1.length c1 p2 p3 p4 p5 p6) :: fs) := hS.nil 3
      have hl1 := (hS.at_ 0 rfl).len1
      have hS := (hS.at_ 0 rfl).reN hl1
      have hS : Sep w0 B w (own 3 (.slice none (([] : List Int).length) 0) (vI ([] : List Int)) :: blk g3 75 (ca none 0 0 0 0 0 0 0) :: blk g2 88 #[vi m1, vi m2, vi m3] :: blk g1 75 (ca A1 p1.length c1 p2 p3 p4 p5 p6) :: fs) := hS
      have hld0 := run_loadVarA (P := Try.prog) (t := 75) (cs := #[.slice none (([] : List Int).length) 0, vi 0, vi 0, vi 0, vi 0, vi 0]) (by kernel_rfl) (by kernel_rfl) ((hS.at_ 1 rfl).cellsAt 0 (by rfl))
      have hS := hS.pickN 4 [0] (by decide)
      have hm : some (([] : List Int), 0, 0, 0, 0, 0, 12) = some r := hm
      obtain rfl := Option.some.inj hm
      exact retV (rs := [.cell 4 75, .tmp 5]) (vs := [.agg #[.slice none (([] : List Int).length) 0, vi 0, vi 0, vi 0, vi 0, vi 0], vi 12]) hF rfl (rv_c (by kernel_rfl) hld0 <| rv_t (by kernel_rfl) <| rv_nil) rfl ⟨_, rfl, none, 0, rfl, hS⟩
    · replace hm := if_f hm hb
      refine seq_cut (fun a w => ∃ (z1 : Bool), Fr 21 [pl 2 (pa g1 0), pl 3 (pa g2 0), pl 4 (pa g3 0), pl 11 (.bool z1)] a ∧ Sep w0 B w (blk g1 75 (ca A1 p1.length c1 p2 p3 p4 p5 p6) :: blk g2 88 #[vi m1, vi m2, vi m3] :: blk g3 75 (ca none 0 0 0 0 0 0 0) :: fs) ∧ ((moves_Do_J2 p1 p2 p3 p4 p5 p6 m1 m2 m3) z1).bind some = some r) ?_ ?_
      · rintro a w ⟨z1, hF, hS, hm⟩
        unfold moves_Do_J2 at hm
        refine cond_ev (t := 11) (b := z1) hF (by kernel_rfl) (fun hb => ?_) (fun hb => ?_)
        · replace hm := if_t hm hb
          refine seqR ?_
          refine at_run 1 [] [] [4, 17] [pl 4 (pa g3 0), pl 17 (.agg (ca none 0 0 0 0 0 0 0))] hF hS (by kernel_rfl) (by kernel_rfl) obs_nil (fun a w hF hS => ?_)
          obtain ⟨w, hrun, hS⟩ := run_putA (P := Try.prog) (t := 75) (us := (ca none 0 0 0 0 0 0 0)) (o := 0) (hS.at_ 2 rfl) (by kernel_rfl) (all_one (by kernel_rfl)) (Nat.le_of_ble_eq_true (by kernel_rfl))
          refine at_skip hF (by kernel_rfl) hrun ?_
          have hS : Sep w0 B w (blk g1 75 (ca A1 p1.length c1 p2 p3 p4 p5 p6) :: blk g2 88 #[vi m1, vi m2, vi m3] :: blk g3 75 (ca none 0 0 0 0 0 0 0) :: fs) := hS
          refine at_run 1 [] [] [4, 5] [pl 4 (pa g3 0), pl 5 (vi 8)] hF hS (by kernel_rfl) (by kernel_rfl) obs_nil (fun a w hF hS => ?_)
          refine at_end [4, 5] [pl 4 (pa g3 0), pl 5 (vi 8)] hF rfl (by kernel_rfl) (fun hF => ?_)
          refine then_n (wpIn_ret ?_)
          refine block_r (then_r ?_)
          have hS : Sep w0 B w (own 3 (.slice none 0 0) (vI ([] : List Int)) :: blk g1 75 (ca A1 p1.length c1 p2 p3 p4 p5 p6) :: blk g2 88 #[vi m1, vi m2, vi m3] :: blk g3 75 (ca none 0 0 0 0 0 0 0) :: fs) := hS.nil 3
          have hl2 := (hS.at_ 0 rfl).len1
          have hS := (hS.at_ 0 rfl).reN hl2
          have hS : Sep w0 B w (own 3 (.slice none (([] : List Int).length) 0) (vI ([] : List Int)) :: blk g1 75 (ca A1 p1.length c1 p2 p3 p4 p5 p6) :: blk g2 88 #[vi m1, vi m2, vi m3] :: blk g3 75 (ca none 0 0 0 0 0 0 0) :: fs) := hS
          have hld0 := run_loadVarA (P := Try.prog) (t := 75) (cs := #[.slice none (([] : List Int).length) 0, vi 0, vi 0, vi 0, vi 0, vi 0]) (by kernel_rfl) (by kernel_rfl) ((hS.at_ 3 rfl).cellsAt 0 (by rfl))
          have hS := hS.pickN 4 [0] (by decide)
          have hm : some (([] : List Int), 0, 0, 0, 0, 0, 8) = some r := hm
          obtain rfl := Option.some.inj hm
          exact retV (rs := [.cell 4 75, .tmp 5]) (vs := [.agg #[.slice none (([] : List Int).length) 0, vi 0, vi 0, vi 0, vi 0, vi 0], vi 8]) hF rfl (rv_c (by kernel_rfl) hld0 <| rv_t (by kernel_rfl) <| rv_nil) rfl ⟨_, rfl, none, 0, rfl, hS⟩
        · replace hm := if_f hm hb
          refine wpIn_skip ?_
          refine block_n ?_
          refine then_n ?_
          exact ⟨hF.weak [2, 3, 4] (by kernel_rfl), hS, hm⟩
      · obtain ⟨r2, hr2, hm⟩ := call_b hm
        obtain ⟨r3, hr3, hm⟩ := call_b hm
        refine regMix5 [0, 2] [] 4 #[true, false, true, false, false, false] [⟨false, [], vS (Instr.loadAt 75 (pa g1 0)), .agg (ca A1 p1.length c1 p2 p3 p4 p5 p6)⟩, ⟨false, [], vS (Instr.loadAt 88 (pa g2 0)), .agg #[vi m1, vi m2, vi m3]⟩] [some (.agg (ca A1 p1.length c1 p2 p3 p4 p5 p6)), some (.agg #[vi m1, vi m2, vi m3])] [2, 3, 4, 12, 14] [pl 2 (pa g1 0), pl 3 (pa g2 0), pl 4 (pa g3 0), pl 12 (.agg (ca A1 p1.length c1 p2 p3 p4 p5 p6)), pl 14 (.agg #[vi m1, vi m2, vi m3])] hF hS Fol (by kernel_rfl) (by kernel_rfl) (by kernel_rfl) (by kernel_rfl) ?_ (fun a w hF hS => ?_)
        · exact obs_cons (ob_loadA (cs := (ca A1 p1.length c1 p2 p3 p4 p5 p6)) (by kernel_rfl) (by kernel_rfl) (fun _ _ hS => (hS.at_ 2 rfl).cellsAt 0 (by rfl))) <| obs_cons (ob_loadA (cs := #[vi m1, vi m2, vi m3]) (by kernel_rfl) (by kernel_rfl) (fun _ _ hS => (hS.at_ 1 rfl).cellsAt 0 (by rfl))) <| obs_nil
        refine any_step [1] (by kernel_rfl) rfl (all_cons ?_ all_nil)
        refine any_op (listed' := #[true, true, true, false, false, false]) (by kernel_rfl) (by kernel_rfl) ?_
        refine at_call (f := 133) (args := #[.agg (ca A1 p1.length c1 p2 p3 p4 p5 p6)]) (d := 13) hF (by kernel_rfl) (by kernel_rfl) Try.func133 (by kernel_rfl) rfl (board_Moves_w hr2 hS (fun _ hS => (hr_p1 _ (hS.dropN 3))) _hc_p1 rfl) (fun v a w hR hF => ?_)
        clear hS
        obtain ⟨A3, c3, rfl, hS⟩ := hR
        have hS : Sep w0 B w (ownK 88 3 A3 r2.length c3 (List.flatMap enc88 r2) :: blk g3 75 (ca none 0 0 0 0 0 0 0) :: blk g2 88 #[vi m1, vi m2, vi m3] :: blk g1 75 (ca A1 p1.length c1 p2 p3 p4 p5 p6) :: fs) := hS
        refine any_fin rfl (hS.pickN 4 [1, 2, 3] (by decide)) ?_
        refine any_step [3] (by kernel_rfl) rfl (all_cons ?_ all_nil)
        refine any_op (listed' := #[true, true, true, true, false, false]) (by kernel_rfl) (by kernel_rfl) ?_
        refine at_run 1 [⟨false, [], callFunc 134 #[.slice A3 r2.length c3, .agg #[vi m1, vi m2, vi m3]], .bool r3⟩] [some (.bool r3)] [2, 3, 4, 15] [pl 2 (pa g1 0), pl 3 (pa g2 0), pl 4 (pa g3 0), pl 15 (.bool r3)] hF hS (by kernel_rfl) (by kernel_rfl) ?_ (fun a w hF hS => ?_)
        · exact obs_cons (ob_call Try.func134 (by kernel_rfl) rfl (fun _ _ hS => api_Move_3_w hr3 hS (fun _ hS => (hS.at_ 0 rfl).rdK) ((hS.at_ 0 rfl).capK encK88) rfl)) <| obs_nil
        refine any_fin rfl (hS.pickN 4 [1, 2, 3] (by decide)) ?_
        refine any_step [4] (by kernel_rfl) rfl (all_cons ?_ all_nil)
        refine any_op (listed' := #[true, true, true, true, true, false]) (by kernel_rfl) (by kernel_rfl) ?_
        refine at_runW 1 [] [] [2, 3, 4, 16] [pl 2 (pa g1 0), pl 3 (pa g2 0), pl 4 (pa g3 0), pl 16 (.bool (!r3))] hF hS (by kernel_rfl) (by kernel_rfl) obs_nil (fun a hF => ?_)
        refine any_finI rfl (fun h => h) ?_
        refine any_step [5] (by kernel_rfl) rfl (all_cons ?_ all_nil)
        refine any_op (listed' := #[true, true, true, true, true, true]) (by kernel_rfl) (by kernel_rfl) ?_
        refine at_runW 1 [] [] [2, 3, 4, 11] [pl 2 (pa g1 0), pl 3 (pa g2 0), pl 4 (pa g3 0), pl 11 (.bool (!r3))] hF hS (by kernel_rfl) (by kernel_rfl) obs_nil (fun a hF => ?_)
        refine any_finI rfl (fun h => h) ?_
        refine any_end (by kernel_rfl) (np_n (then_n ?_))
        have hS := hS.pickN 4 [3, 2, 1] (by decide)
        exact ⟨(!r3), hF.weak [2, 3, 4, 11] (by kernel_rfl), hS, hm⟩

noncomputable def chess_May_m  (p1 : List Int) (p2 p3 : Int) (p4 p5 p6 : Int) : Option Bool :=
  (board_May_m p1 p2 p3 p4 p5 p6).bind fun r1 => some r1

theorem chess_May_w {A1 : Option Addr} {c1 n1 : Nat} {p1 : List Int} {p2 p3 : Int} {p4 p5 p6 : Int} {r : Bool} {w0 w : World} {B : Nat} {fs : List HP} (hm : chess_May_m p1 p2 p3 p4 p5 p6 = some r) (hS : Sep w0 B w (fs)) (hr_p1 : RdF w0 B fs A1 (vI p1)) (_hc_p1 : p1.length ≤ c1) (_hn_p1 : n1 = p1.length) :
    Calls Try.prog 204 #[.agg (ca A1 n1 c1 p2 p3 p4 p5 p6)] w fun e w' => e = .returned (.bool r) ∧ Sep w0 B w' (fs) := by
  obtain ⟨i3, hi3, hz3, hs3, hb3⟩ := info_parts Info3
  obtain rfl := _hn_p1
  unfold chess_May_m at hm
  replace hm := start_b hm
  refine enter (l := [.agg (ca A1 p1.length c1 p2 p3 p4 p5 p6)]) (n := 5) Try.func204 rfl rfl (by simp) (fun a hF => ?_)
  refine seqR ?_
  refine at_do (d := 1) (s := vS (Instr.box 75 (.agg (ca A1 p1.length c1 p2 p3 p4 p5 p6)))) (v := pa w.heap.size 0) (w' := w.alloc (.cells (ca A1 p1.length c1 p2 p3 p4 p5 p6) 75)) hF (by kernel_rfl) (by kernel_rfl) (by kernel_rfl) (fun a hF => ?_)
  have hS : Sep w0 B (w.alloc (.cells (ca A1 p1.length c1 p2 p3 p4 p5 p6) 75)) (blk w.heap.size 75 (ca A1 p1.length c1 p2 p3 p4 p5 p6) :: (fs)) := hS.box 75 (ca A1 p1.length c1 p2 p3 p4 p5 p6)
  generalize w.heap.size = g1 at hF hS
  generalize w.alloc (.cells (ca A1 p1.length c1 p2 p3 p4 p5 p6) 75) = w at hS ⊢
  refine at_run 1 [] [] [1] [pl 1 (pa g1 0)] hF hS (by kernel_rfl) (by kernel_rfl) obs_nil (fun a w hF hS => ?_)
  refine at_end [1] [pl 1 (pa g1 0)] hF rfl (by kernel_rfl) (fun hF => ?_)
  refine then_n ?_
  obtain ⟨r1, hr1, hm⟩ := call_b hm
  refine reg [⟨false, [], vS (Instr.loadAt 75 (pa g1 0)), .agg (ca A1 p1.length c1 p2 p3 p4 p5 p6)⟩, ⟨false, [], callFunc 127 #[.agg (ca A1 p1.length c1 p2 p3 p4 p5 p6)], .bool r1⟩] [some (.agg (ca A1 p1.length c1 p2 p3 p4 p5 p6)), some (.bool r1), none] [2] [pl 2 (.bool r1)] hF hS Fol (by kernel_rfl) (by kernel_rfl) (by kernel_rfl) ?_ (fun a w hF hS => ?_)
  · exact obs_cons (ob_loadA (cs := (ca A1 p1.length c1 p2 p3 p4 p5 p6)) (by kernel_rfl) (by kernel_rfl) (fun _ _ hS => (hS.at_ 0 rfl).cellsAt 0 (by rfl))) <| obs_cons (ob_call Try.func127 (by kernel_rfl) rfl (fun _ _ hS => board_May_w hr1 hS (fun _ hS => (hr_p1 _ (hS.dropN 1))) _hc_p1 rfl)) <| obs_nil
  refine wpIn_ret ?_
  have hS := hS.pickN 1 [] (by decide)
  have hm : some r1 = some r := hm
  obtain rfl := Option.some.inj hm
  exact retV (rs := [.tmp 2]) (vs := [.bool r1]) hF rfl (rv_t (by kernel_rfl) <| rv_nil) rfl ⟨rfl, hS⟩

noncomputable def chess_Material_J4  (z1 sum4 : Int) (great3 knights3 : Int) (bishops3 : List Int) : Option (St (Int × Int × Int × List Int × Int) (Int × Int × Int × List Int)) :=
  some (.next (sum4, great3, knights3, bishops3, (w64 (z1 + 1))))

noncomputable def chess_Material_J6  (great1 knights1 : Int) (bishops1 : List Int) (z1 r2 sum3 : Int) (z2 : Bool) : Option (St (Int × Int × Int × List Int × Int) (Int × Int × Int × List Int)) :=
  if z2 then ((chess_Material_J4 z1) sum3 (w64 (great1 + 1)) knights1 bishops1) else (if (r2 == 2) then ((chess_Material_J4 z1) sum3 great1 (w64 (knights1 + 1)) bishops1) else (if (r2 == 3) then (asrt (0 ≤ (bAnd (w64 ((bAnd z1 7) + (shrK .i64 z1 3))) 1) ∧ (bAnd (w64 ((bAnd z1 7) + (shrK .i64 z1 3))) 1) < 2) <| asrt (0 ≤ (bAnd (w64 ((bAnd z1 7) + (shrK .i64 z1 3))) 1) ∧ (bAnd (w64 ((bAnd z1 7) + (shrK .i64 z1 3))) 1) < 2) <| asrt ((bAnd (w64 ((bAnd z1 7) + (shrK .i64 z1 3))) 1) < (bishops1.length : Int)) <| (chess_Material_J4 z1) sum3 great1 knights1 (bishops1.set (Int.toNat (bAnd (w64 ((bAnd z1 7) + (shrK .i64 z1 3))) 1)) (w64 ((geti bishops1 (bAnd (w64 ((bAnd z1 7) + (shrK .i64 z1 3))) 1)) + 1)))) else ((chess_Material_J4 z1) sum3 great1 knights1 bishops1)))

noncomputable def chess_Material_J5  (great1 knights1 : Int) (bishops1 : List Int) (z1 r2 sum3 : Int) : Option (St (Int × Int × Int × List Int × Int) (Int × Int × Int × List Int)) :=
  if (r2 == 1) then ((chess_Material_J6 great1 knights1 bishops1 z1 r2 sum3) (r2 == 1)) else (if (r2 == 4) then ((chess_Material_J6 great1 knights1 bishops1 z1 r2 sum3) (r2 == 4)) else ((chess_Material_J6 great1 knights1 bishops1 z1 r2 sum3) (r2 == 5)))

noncomputable def chess_Material_J3  (p1 : List Int) (sum1 great1 knights1 : Int) (bishops1 : List Int) (z1 : Int) : Option (St (Int × Int × Int × List Int × Int) (Int × Int × Int × List Int)) :=
  asrt (0 ≤ z1 ∧ z1 < (p1.length : Int)) <| (board_Kind_m (geti p1 z1)).bind fun r2 => if (decide ((0 : Int) < (geti p1 z1))) then (asrt (0 ≤ r2 ∧ r2 < 7) <| (chess_Material_J5 great1 knights1 bishops1 z1 r2) (w64 (sum1 + (geti ([0, 1, 3, 3, 5, 9, 0] : List Int) r2)))) else (asrt (0 ≤ r2 ∧ r2 < 7) <| (chess_Material_J5 great1 knights1 bishops1 z1 r2) (w64 (sum1 - (geti ([0, 1, 3, 3, 5, 9, 0] : List Int) r2))))

noncomputable def chess_Material_J2  (sum2 great2 knights2 : Int) (bishops2 : List Int) : Option (Int × Bool × Int) :=
  asrt (0 ≤ (0 : Int) ∧ (0 : Int) < 2) <| asrt (0 ≤ (1 : Int) ∧ (1 : Int) < 2) <| asrt ((knights2 == 0) = true → (decide ((w64 ((w64 (knights2 + (geti bishops2 0))) + (geti bishops2 1))) ≤ 1)) = false → 0 ≤ (0 : Int) ∧ (0 : Int) < 2) <| asrt ((knights2 == 0) = true → (decide ((w64 ((w64 (knights2 + (geti bishops2 0))) + (geti bishops2 1))) ≤ 1)) = false → 0 ≤ (1 : Int) ∧ (1 : Int) < 2) <| some (sum2, ((great2 == 0) && ((decide ((w64 ((w64 (knights2 + (geti bishops2 0))) + (geti bishops2 1))) ≤ 1)) || ((knights2 == 0) && ((minI (geti bishops2 0) (geti bishops2 1)) == 0)))), 0)

noncomputable def chess_Material_K1  : (Int × Int × Int × List Int) → Option (Int × Bool × Int) :=
  fun (x : (Int × Int × Int × List Int)) => match x with | (sum2, great2, knights2, bishops2) => chess_Material_J2 sum2 great2 knights2 bishops2

noncomputable def chess_Material_L1  (p1 : List Int) : (Int × Int × Int × List Int × Int) → Option (St (Int × Int × Int × List Int × Int) (Int × Int × Int × List Int)) :=
  fun (x : (Int × Int × Int × List Int × Int)) => match x with | (sum1, great1, knights1, bishops1, z1) => if (decide (z1 < (p1.length : Int))) then ((chess_Material_J3 p1 sum1 great1 knights1 bishops1 z1)) else (some (.done (sum1, great1, knights1, bishops1)))

noncomputable def chess_Material_J1  (p1 : List Int) : Option (Int × Bool × Int) :=
  (loop (chess_Material_L1 p1) (0, 0, 0, (List.replicate 2 (0 : Int)), 0)).bind chess_Material_K1

noncomputable def chess_Material_m  (p1 : List Int) (p2 p3 : Int) (p4 p5 p6 : Int) : Option (Int × Bool × Int) :=
  (chess_May_m p1 p2 p3 p4 p5 p6).bind fun r1 => if (!r1) then (some (0, false, 12)) else ((chess_Material_J1 p1))

theorem chess_Material_w {A1 : Option Addr} {c1 n1 : Nat} {p1 : List Int} {p2 p3 : Int} {p4 p5 p6 : Int} {r : (Int × Bool × Int)} {w0 w : World} {B : Nat} {fs : List HP} (hm : chess_Material_m p1 p2 p3 p4 p5 p6 = some r) (hS : Sep w0 B w (fs)) (hr_p1 : RdF w0 B fs A1 (vI p1)) (_hc_p1 : p1.length ≤ c1) (_hn_p1 : n1 = p1.length) :
    Calls Try.prog 136 #[.agg (ca A1 n1 c1 p2 p3 p4 p5 p6)] w fun e w' => e = .returned (.tuple #[vi r.1, .bool r.2.1, vi r.2.2]) ∧ Sep w0 B w' (fs) := by
  obtain ⟨i3, hi3, hz3, hs3, hb3⟩ := info_parts Info3
  obtain rfl := _hn_p1
  unfold chess_Material_m at hm
  replace hm := start_b hm
  refine enter (l := [.agg (ca A1 p1.length c1 p2 p3 p4 p5 p6)]) (n := 90) Try.func136 rfl rfl (by simp) (fun a hF => ?_)
  refine seqR ?_
  refine at_do (d := 1) (s := vS (Instr.box 75 (.agg (ca A1 p1.length c1 p2 p3 p4 p5 p6)))) (v := pa w.heap.size 0) (w' := w.alloc (.cells (ca A1 p1.length c1 p2 p3 p4 p5 p6) 75)) hF (by kernel_rfl) (by kernel_rfl) (by kernel_rfl) (fun a hF => ?_)
  have hS : Sep w0 B (w.alloc (.cells (ca A1 p1.length c1 p2 p3 p4 p5 p6) 75)) (blk w.heap.size 75 (ca A1 p1.length c1 p2 p3 p4 p5 p6) :: (fs)) := hS.box 75 (ca A1 p1.length c1 p2 p3 p4 p5 p6)
  generalize w.heap.size = g1 at hF hS
  generalize w.alloc (.cells (ca A1 p1.length c1 p2 p3 p4 p5 p6) 75) = w at hS ⊢
  refine at_run 3 [] [] [1] [pl 1 (pa g1 0)] hF hS (by kernel_rfl) (by kernel_rfl) obs_nil (fun a w hF hS => ?_)
  refine at_end [1] [pl 1 (pa g1 0)] hF rfl (by kernel_rfl) (fun hF => ?_)
  refine then_n ?_
  refine seq_cut (fun a w => Fr 90 [pl 1 (pa g1 0)] a ∧ Sep w0 B w (blk g1 75 (ca A1 p1.length c1 p2 p3 p4 p5 p6) :: fs) ∧ ((chess_Material_J1 p1)).bind some = some r) ?_ ?_
  · rintro a w ⟨hF, hS, hm⟩
    unfold chess_Material_J1 at hm
    refine seqR ?_
    refine at_run 1 [] [] [1, 17] [pl 1 (pa g1 0), pl 17 (.agg (List.toArray (([] : List Value) ++ (arr1 (Value.int .i64) (0 : Int) 7 ([0, 1, 3, 3, 5, 9, 0] : List Int) ++ ([] : List Value)))))] hF hS (by kernel_rfl) (by kernel_rfl) obs_nil (fun a w hF hS => ?_)
    refine at_do (d := 5) (s := vS (Instr.alloc 221 true (.tuple #[]))) (v := pa w.heap.size 0) (w' := w.alloc (.cells (List.toArray (([] : List Value) ++ (arr1 (Value.int .i64) (0 : Int) 7 (List.replicate 7 (0 : Int)) ++ ([] : List Value)))) 221)) hF (by kernel_rfl) (by kernel_rfl) (by kernel_rfl) (fun a hF => ?_)
    have hS : Sep w0 B (w.alloc (.cells (List.toArray (([] : List Value) ++ (arr1 (Value.int .i64) (0 : Int) 7 (List.replicate 7 (0 : Int)) ++ ([] : List Value)))) 221)) (blk w.heap.size 221 (List.toArray (([] : List Value) ++ (arr1 (Value.int .i64) (0 : Int) 7 (List.replicate 7 (0 : Int)) ++ ([] : List Value)))) :: (blk g1 75 (ca A1 p1.length c1 p2 p3 p4 p5 p6) :: fs)) := hS.box 221 (List.toArray (([] : List Value) ++ (arr1 (Value.int .i64) (0 : Int) 7 (List.replicate 7 (0 : Int)) ++ ([] : List Value))))
    generalize w.heap.size = g2 at hF hS
    generalize w.alloc (.cells (List.toArray (([] : List Value) ++ (arr1 (Value.int .i64) (0 : Int) 7 (List.replicate 7 (0 : Int)) ++ ([] : List Value)))) 221) = w at hS ⊢
    obtain ⟨w, hrun, hS⟩ := run_putA (P := Try.prog) (t := 221) (us := (List.toArray (([] : List Value) ++ (arr1 (Value.int .i64) (0 : Int) 7 ([0, 1, 3, 3, 5, 9, 0] : List Int) ++ ([] : List Value))))) (o := 0) (hS.at_ 0 rfl) (by kernel_rfl) (all_one (by kernel_rfl)) (Nat.le_of_ble_eq_true (by kernel_rfl))
    refine at_skip hF (by kernel_rfl) hrun ?_
    have hS : Sep w0 B w (blk g2 221 (List.toArray (([] : List Value) ++ (arr1 (Value.int .i64) (0 : Int) 7 ([0, 1, 3, 3, 5, 9, 0] : List Int) ++ ([] : List Value)))) :: blk g1 75 (ca A1 p1.length c1 p2 p3 p4 p5 p6) :: fs) := hS
    refine at_end [1, 5] [pl 1 (pa g1 0), pl 5 (pa g2 0)] hF rfl (by kernel_rfl) (fun hF => ?_)
    refine then_n ?_
    refine reg [] [] [1, 5, 6, 7, 8] [pl 1 (pa g1 0), pl 5 (pa g2 0), pl 6 (vi 0), pl 7 (vi 0), pl 8 (vi 0)] hF hS Fol (by kernel_rfl) (by kernel_rfl) (by kernel_rfl) obs_nil (fun a w hF hS => ?_)
    refine seqR ?_
    refine at_do (d := 9) (s := vS (Instr.alloc 212 true (.tuple #[]))) (v := pa w.heap.size 0) (w' := w.alloc (.cells (List.toArray (([] : List Value) ++ (arr1 (Value.int .i64) (0 : Int) 2 (List.replicate 2 (0 : Int)) ++ ([] : List Value)))) 212)) hF (by kernel_rfl) (by kernel_rfl) (by kernel_rfl) (fun a hF => ?_)
    have hS : Sep w0 B (w.alloc (.cells (List.toArray (([] : List Value) ++ (arr1 (Value.int .i64) (0 : Int) 2 (List.replicate 2 (0 : Int)) ++ ([] : List Value)))) 212)) (blk w.heap.size 212 (List.toArray (([] : List Value) ++ (arr1 (Value.int .i64) (0 : Int) 2 (List.replicate 2 (0 : Int)) ++ ([] : List Value)))) :: (blk g2 221 (List.toArray (([] : List Value) ++ (arr1 (Value.int .i64) (0 : Int) 7 ([0, 1, 3, 3, 5, 9, 0] : List Int) ++ ([] : List Value)))) :: blk g1 75 (ca A1 p1.length c1 p2 p3 p4 p5 p6) :: fs)) := hS.box 212 (List.toArray (([] : List Value) ++ (arr1 (Value.int .i64) (0 : Int) 2 (List.replicate 2 (0 : Int)) ++ ([] : List Value))))
    generalize w.heap.size = g3 at hF hS
    generalize w.alloc (.cells (List.toArray (([] : List Value) ++ (arr1 (Value.int .i64) (0 : Int) 2 (List.replicate 2 (0 : Int)) ++ ([] : List Value)))) 212) = w at hS ⊢
    refine at_end [1, 5, 6, 7, 8, 9] [pl 1 (pa g1 0), pl 5 (pa g2 0), pl 6 (vi 0), pl 7 (vi 0), pl 8 (vi 0), pl 9 (pa g3 0)] hF rfl (by kernel_rfl) (fun hF => ?_)
    refine then_n ?_
    refine seq_cut (fun a w => ∃ (sum2 great2 knights2 : Int) (bishops2 : List Int), Fr 90 [pl 6 (vi sum2), pl 7 (vi great2), pl 8 (vi knights2), pl 9 (pa g3 0)] a ∧ Sep w0 B w (blk g3 212 (List.toArray (([] : List Value) ++ (arr1 (Value.int .i64) (0 : Int) 2 bishops2 ++ ([] : List Value)))) :: fs) ∧ (chess_Material_J2 sum2 great2 knights2 bishops2).bind some = some r) ?_ ?_
    · rintro a w ⟨sum2, great2, knights2, bishops2, hF, hS, hm⟩
      unfold chess_Material_J2 at hm
      obtain ⟨hp7, hm⟩ := asrt_b hm
      obtain ⟨hp8, hm⟩ := asrt_b hm
      obtain ⟨hp9, hm⟩ := asrt_b hm
      obtain ⟨hp10, hm⟩ := asrt_b hm
      refine reg [⟨true, [], vS (Instr.indexAt 212 (pa g3 0) (vi 0)), .pointer (some ((⟨g3, 0, none⟩ : Addr).add (Int.toNat 0 * 1)))⟩, ⟨false, [], vS (Instr.loadAt 3 (.pointer (some ((⟨g3, 0, none⟩ : Addr).add (Int.toNat 0 * 1))))), vi (geti bishops2 0)⟩, ⟨true, [], vS (Instr.indexAt 212 (pa g3 0) (vi 1)), .pointer (some ((⟨g3, 0, none⟩ : Addr).add (Int.toNat 1 * 1)))⟩, ⟨false, [], vS (Instr.loadAt 3 (.pointer (some ((⟨g3, 0, none⟩ : Addr).add (Int.toNat 1 * 1))))), vi (geti bishops2 1)⟩, ⟨true, [((knights2 == 0), true), (decide ((w64 ((w64 (knights2 + (geti bishops2 0))) + (geti bishops2 1))) ≤ 1), false)], vS (Instr.indexAt 212 (pa g3 0) (vi 0)), .pointer (some ((⟨g3, 0, none⟩ : Addr).add (Int.toNat 0 * 1)))⟩, ⟨false, [((knights2 == 0), true), (decide ((w64 ((w64 (knights2 + (geti bishops2 0))) + (geti bishops2 1))) ≤ 1), false)], vS (Instr.loadAt 3 (.pointer (some ((⟨g3, 0, none⟩ : Addr).add (Int.toNat 0 * 1))))), vi (geti bishops2 0)⟩, ⟨true, [((knights2 == 0), true), (decide ((w64 ((w64 (knights2 + (geti bishops2 0))) + (geti bishops2 1))) ≤ 1), false)], vS (Instr.indexAt 212 (pa g3 0) (vi 1)), .pointer (some ((⟨g3, 0, none⟩ : Addr).add (Int.toNat 1 * 1)))⟩, ⟨false, [((knights2 == 0), true), (decide ((w64 ((w64 (knights2 + (geti bishops2 0))) + (geti bishops2 1))) ≤ 1), false)], vS (Instr.loadAt 3 (.pointer (some ((⟨g3, 0, none⟩ : Addr).add (Int.toNat 1 * 1))))), vi (geti bishops2 1)⟩, ⟨true, [((knights2 == 0), true), (decide ((w64 ((w64 (knights2 + (geti bishops2 0))) + (geti bishops2 1))) ≤ 1), false)], vS (Builtin.min_ #[3, 3] 3 #[vi (geti bishops2 0), vi (geti bishops2 1)]), vi (minI (geti bishops2 0) (geti bishops2 1))⟩] [none, some (.pointer (some ((⟨g3, 0, none⟩ : Addr).add (Int.toNat 0 * 1)))), some (vi (geti bishops2 0)), none, some (.pointer (some ((⟨g3, 0, none⟩ : Addr).add (Int.toNat 1 * 1)))), some (vi (geti bishops2 1)), none, none, none, none, none, none, some (.pointer (some ((⟨g3, 0, none⟩ : Addr).add (Int.toNat 0 * 1)))), some (vi (geti bishops2 0)), some (.pointer (some ((⟨g3, 0, none⟩ : Addr).add (Int.toNat 1 * 1)))), some (vi (geti bishops2 1)), some (vi (minI (geti bishops2 0) (geti bishops2 1))), none, none, none, none] [6, 7, 13] [pl 6 (vi sum2), pl 7 (vi great2), pl 13 (.bool ((decide ((w64 ((w64 (knights2 + (geti bishops2 0))) + (geti bishops2 1))) ≤ 1)) || ((knights2 == 0) && ((minI (geti bishops2 0) (geti bishops2 1)) == 0))))] hF hS Fol (by kernel_rfl) (by kernel_rfl) (by kernel_rfl) ?_ (fun a w hF hS => ?_)
      · exact obs_cons (ob_ixA UndA212 hi3 hs3 (fun _ => hp7)) <| obs_cons (ob_getA (m := bishops2) (Value.int .i64) (0 : Int) 2 ([] : List Value) ([] : List Value) 0 Agg3 rfl (fun _ hS => ⟨_, _, _, _, _, hS.at_ 0 rfl⟩) (fun hy => by have h0 := hp7; omega)) <| obs_cons (ob_ixA UndA212 hi3 hs3 (fun _ => hp8)) <| obs_cons (ob_getA (m := bishops2) (Value.int .i64) (0 : Int) 2 ([] : List Value) ([] : List Value) 1 Agg3 rfl (fun _ hS => ⟨_, _, _, _, _, hS.at_ 0 rfl⟩) (fun hy => by have h0 := hp8; omega)) <| obs_cons (ob_ixA UndA212 hi3 hs3 (fun hy => hp9 (hy ((knights2 == 0), true) (by simp)) (hy (decide ((w64 ((w64 (knights2 + (geti bishops2 0))) + (geti bishops2 1))) ≤ 1), false) (by simp)))) <| obs_cons (ob_getA (m := bishops2) (Value.int .i64) (0 : Int) 2 ([] : List Value) ([] : List Value) 0 Agg3 rfl (fun _ hS => ⟨_, _, _, _, _, hS.at_ 0 rfl⟩) (fun hy => by have h0 := hp9 (hy ((knights2 == 0), true) (by simp)) (hy (decide ((w64 ((w64 (knights2 + (geti bishops2 0))) + (geti bishops2 1))) ≤ 1), false) (by simp)); omega)) <| obs_cons (ob_ixA UndA212 hi3 hs3 (fun hy => hp10 (hy ((knights2 == 0), true) (by simp)) (hy (decide ((w64 ((w64 (knights2 + (geti bishops2 0))) + (geti bishops2 1))) ≤ 1), false) (by simp)))) <| obs_cons (ob_getA (m := bishops2) (Value.int .i64) (0 : Int) 2 ([] : List Value) ([] : List Value) 1 Agg3 rfl (fun _ hS => ⟨_, _, _, _, _, hS.at_ 0 rfl⟩) (fun hy => by have h0 := hp10 (hy ((knights2 == 0), true) (by simp)) (hy (decide ((w64 ((w64 (knights2 + (geti bishops2 0))) + (geti bishops2 1))) ≤ 1), false) (by simp)); omega)) <| obs_cons (ob_min rfl) <| obs_nil
      refine reg [] [] [2, 3, 4] [pl 2 (vi sum2), pl 3 (.bool ((great2 == 0) && ((decide ((w64 ((w64 (knights2 + (geti bishops2 0))) + (geti bishops2 1))) ≤ 1)) || ((knights2 == 0) && ((minI (geti bishops2 0) (geti bishops2 1)) == 0))))), pl 4 (vi 0)] hF hS Fol (by kernel_rfl) (by kernel_rfl) (by kernel_rfl) obs_nil (fun a w hF hS => ?_)
      refine wpIn_ret ?_
      have hS := hS.pickN 1 [] (by decide)
      have hm : some (sum2, ((great2 == 0) && ((decide ((w64 ((w64 (knights2 + (geti bishops2 0))) + (geti bishops2 1))) ≤ 1)) || ((knights2 == 0) && ((minI (geti bishops2 0) (geti bishops2 1)) == 0)))), 0) = some r := hm
      obtain rfl := Option.some.inj hm
      exact retV (rs := [.tmp 2, .tmp 3, .tmp 4]) (vs := [vi sum2, .bool ((great2 == 0) && ((decide ((w64 ((w64 (knights2 + (geti bishops2 0))) + (geti bishops2 1))) ≤ 1)) || ((knights2 == 0) && ((minI (geti bishops2 0) (geti bishops2 1)) == 0)))), vi 0]) hF rfl (rv_t (by kernel_rfl) <| rv_t (by kernel_rfl) <| rv_t (by kernel_rfl) <| rv_nil) rfl ⟨rfl, hS⟩
    · refine reg [⟨false, [], vS (Instr.loadAt 27 (pa g1 0)), .slice A1 p1.length c1⟩] [none, some (.slice A1 p1.length c1), none, none] [5, 6, 7, 8, 9, 19, 20, 21] [pl 5 (pa g2 0), pl 6 (vi 0), pl 7 (vi 0), pl 8 (vi 0), pl 9 (pa g3 0), pl 19 (.slice A1 p1.length c1), pl 20 (vi (p1.length : Int)), pl 21 (vi 0)] hF hS Fol (by kernel_rfl) (by kernel_rfl) (by kernel_rfl) ?_ (fun a w hF hS => ?_)
      · exact obs_cons (ob_load Agg27 (fun _ _ hS => (hS.at_ 2 rfl).cell rfl)) <| obs_nil
      refine wpIn_block ?_
      have hS := hS.pickN 3 [1, 0] (by decide)
      refine wp_loop_model (S := (Int × Int × Int × List Int × Int)) (R := (Int × Int × Int × List Int)) (chess_Material_L1 p1) (fun x => (chess_Material_K1 x).bind some) r (fun (x : (Int × Int × Int × List Int × Int)) a w => Fr 90 [pl 5 (pa g2 0), pl 6 (vi x.1), pl 7 (vi x.2.1), pl 8 (vi x.2.2.1), pl 9 (pa g3 0), pl 19 (.slice A1 p1.length c1), pl 20 (vi (p1.length : Int)), pl 21 (vi x.2.2.2.2)] a ∧ Sep w0 B w (blk g2 221 (List.toArray (([] : List Value) ++ (arr1 (Value.int .i64) (0 : Int) 7 ([0, 1, 3, 3, 5, 9, 0] : List Int) ++ ([] : List Value)))) :: blk g3 212 (List.toArray (([] : List Value) ++ (arr1 (Value.int .i64) (0 : Int) 2 x.2.2.2.1 ++ ([] : List Value)))) :: fs)) (assoc_b hm) ⟨hF.weak [5, 6, 7, 8, 9, 19, 20, 21] (by kernel_rfl), hS⟩ ?_
      clear hF hS hm
      rintro nn1 ⟨sum1, great1, knights1, bishops1, z1⟩ a w ⟨hF, hS⟩ hm
      generalize hφ1 : stK (chess_Material_L1 p1) nn1 (fun x => (chess_Material_K1 x).bind some) = φ1 at hm
      unfold chess_Material_L1 at hm
      dsimp only at hF hS hm
      refine reg [] [] [5, 6, 7, 8, 9, 19, 20, 21, 22] [pl 5 (pa g2 0), pl 6 (vi sum1), pl 7 (vi great1), pl 8 (vi knights1), pl 9 (pa g3 0), pl 19 (.slice A1 p1.length c1), pl 20 (vi (p1.length : Int)), pl 21 (vi z1), pl 22 (.bool (decide (z1 < (p1.length : Int))))] hF hS Fol (by kernel_rfl) (by kernel_rfl) (by kernel_rfl) obs_nil (fun a w hF hS => ?_)
      refine seq_cut (fun a w => Fr 90 [pl 5 (pa g2 0), pl 6 (vi sum1), pl 7 (vi great1), pl 8 (vi knights1), pl 9 (pa g3 0), pl 19 (.slice A1 p1.length c1), pl 20 (vi (p1.length : Int)), pl 21 (vi z1)] a ∧ Sep w0 B w (blk g2 221 (List.toArray (([] : List Value) ++ (arr1 (Value.int .i64) (0 : Int) 7 ([0, 1, 3, 3, 5, 9, 0] : List Int) ++ ([] : List Value)))) :: blk g3 212 (List.toArray (([] : List Value) ++ (arr1 (Value.int .i64) (0 : Int) 2 bishops1 ++ ([] : List Value)))) :: fs) ∧ ((chess_Material_J3 p1 sum1 great1 knights1 bishops1 z1)).bind φ1 = some r) ?_ ?_
      · rintro a w ⟨hF, hS, hm⟩
        unfold chess_Material_J3 at hm
        refine seq_cut (fun a w => ∃ (sum4 great3 knights3 : Int) (bishops3 : List Int), Fr 90 [pl 5 (pa g2 0), pl 6 (vi sum4), pl 7 (vi great3), pl 8 (vi knights3), pl 9 (pa g3 0), pl 19 (.slice A1 p1.length c1), pl 20 (vi (p1.length : Int)), pl 21 (vi z1)] a ∧ Sep w0 B w (blk g2 221 (List.toArray (([] : List Value) ++ (arr1 (Value.int .i64) (0 : Int) 7 ([0, 1, 3, 3, 5, 9, 0] : List Int) ++ ([] : List Value)))) :: blk g3 212 (List.toArray (([] : List Value) ++ (arr1 (Value.int .i64) (0 : Int) 2 bishops3 ++ ([] : List Value)))) :: fs) ∧ ((chess_Material_J4 z1) sum4 great3 knights3 bishops3).bind φ1 = some r) ?_ ?_
        · rintro a w ⟨sum4, great3, knights3, bishops3, hF, hS, hm⟩
          unfold chess_Material_J4 at hm
          refine reg1 [] [] [5, 6, 7, 8, 9, 19, 20, 21] [pl 5 (pa g2 0), pl 6 (vi sum4), pl 7 (vi great3), pl 8 (vi knights3), pl 9 (pa g3 0), pl 19 (.slice A1 p1.length c1), pl 20 (vi (p1.length : Int)), pl 21 (vi (w64 (z1 + 1)))] hF hS Fol (by kernel_rfl) (by kernel_rfl) (by kernel_rfl) obs_nil (fun a w hF hS => ?_)
          refine then_n ?_
          rw [← hφ1] at hm
          exact ⟨(sum4, great3, knights3, bishops3, (w64 (z1 + 1))), ⟨hF.weak [5, 6, 7, 8, 9, 19, 20, 21] (by kernel_rfl), hS⟩, hm⟩
        · refine wpIn_block ?_
          obtain ⟨hp1, hm⟩ := asrt_b hm
          refine reg [⟨true, [], vS (Instr.indexAt 27 (.slice A1 p1.length c1) (vi z1)), .pointer (some (sAddr A1 z1))⟩, ⟨false, [], vS (Instr.loadAt 3 (.pointer (some (sAddr A1 z1)))), vi (geti p1 z1)⟩] [none, some (.pointer (some (sAddr A1 z1))), some (vi (geti p1 z1)), none, none] [5, 6, 7, 8, 9, 10, 11, 19, 20, 21] [pl 5 (pa g2 0), pl 6 (vi sum1), pl 7 (vi great1), pl 8 (vi knights1), pl 9 (pa g3 0), pl 10 (vi z1), pl 11 (vi (geti p1 z1)), pl 19 (.slice A1 p1.length c1), pl 20 (vi (p1.length : Int)), pl 21 (vi z1)] hF hS Fol (by kernel_rfl) (by kernel_rfl) (by kernel_rfl) ?_ (fun a w hF hS => ?_)
          · exact obs_cons (ob_ix1 (f := (Value.int .i64)) (m := p1) Und27 hi3 hs3 (hr_p1 _ (hS.dropN 2)) rfl (fun _ => hp1)) <| obs_cons (ob_get1 (n := p1.length) (m := p1) (Value.int .i64) (0 : Int) Agg3 (fun _ hS => ⟨_, (hr_p1 _ (hS.dropN 2))⟩) (fun _ hS => rfl) (fun _ => hp1)) <| obs_nil
          obtain ⟨r2, hr2, hm⟩ := call_b hm
          refine reg [⟨false, [], callFunc 190 #[vi (geti p1 z1)], vi r2⟩] [none, some (vi r2), none] [5, 6, 7, 8, 9, 10, 11, 12, 19, 20, 21] [pl 5 (pa g2 0), pl 6 (vi sum1), pl 7 (vi great1), pl 8 (vi knights1), pl 9 (pa g3 0), pl 10 (vi z1), pl 11 (vi (geti p1 z1)), pl 12 (vi r2), pl 19 (.slice A1 p1.length c1), pl 20 (vi (p1.length : Int)), pl 21 (vi z1)] hF hS Fol (by kernel_rfl) (by kernel_rfl) (by kernel_rfl) ?_ (fun a w hF hS => ?_)
          · exact obs_cons (ob_call Try.func190 (by kernel_rfl) rfl (fun _ _ hS => board_Kind_w hr2 hS )) <| obs_nil
          refine seq_cut (fun a w => ∃ (sum3 : Int), Fr 90 [pl 5 (pa g2 0), pl 6 (vi sum3), pl 7 (vi great1), pl 8 (vi knights1), pl 9 (pa g3 0), pl 10 (vi z1), pl 12 (vi r2), pl 19 (.slice A1 p1.length c1), pl 20 (vi (p1.length : Int)), pl 21 (vi z1)] a ∧ Sep w0 B w (blk g2 221 (List.toArray (([] : List Value) ++ (arr1 (Value.int .i64) (0 : Int) 7 ([0, 1, 3, 3, 5, 9, 0] : List Int) ++ ([] : List Value)))) :: blk g3 212 (List.toArray (([] : List Value) ++ (arr1 (Value.int .i64) (0 : Int) 2 bishops1 ++ ([] : List Value)))) :: fs) ∧ ((chess_Material_J5 great1 knights1 bishops1 z1 r2) sum3).bind φ1 = some r) ?_ ?_
          · rintro a w ⟨sum3, hF, hS, hm⟩
            unfold chess_Material_J5 at hm
            refine reg [] [] [5, 6, 7, 8, 9, 10, 19, 20, 21, 40] [pl 5 (pa g2 0), pl 6 (vi sum3), pl 7 (vi great1), pl 8 (vi knights1), pl 9 (pa g3 0), pl 10 (vi z1), pl 19 (.slice A1 p1.length c1), pl 20 (vi (p1.length : Int)), pl 21 (vi z1), pl 40 (vi r2)] hF hS Fol (by kernel_rfl) (by kernel_rfl) (by kernel_rfl) obs_nil (fun a w hF hS => ?_)
            refine wpIn_block ?_
            refine seq_cut (fun a w => ∃ (z2 : Bool), Fr 90 [pl 5 (pa g2 0), pl 6 (vi sum3), pl 7 (vi great1), pl 8 (vi knights1), pl 9 (pa g3 0), pl 10 (vi z1), pl 19 (.slice A1 p1.length c1), pl 20 (vi (p1.length : Int)), pl 21 (vi z1), pl 40 (vi r2), pl 41 (.bool z2)] a ∧ Sep w0 B w (blk g2 221 (List.toArray (([] : List Value) ++ (arr1 (Value.int .i64) (0 : Int) 7 ([0, 1, 3, 3, 5, 9, 0] : List Int) ++ ([] : List Value)))) :: blk g3 212 (List.toArray (([] : List Value) ++ (arr1 (Value.int .i64) (0 : Int) 2 bishops1 ++ ([] : List Value)))) :: fs) ∧ ((chess_Material_J6 great1 knights1 bishops1 z1 r2 sum3) z2).bind φ1 = some r) ?_ ?_
            · rintro a w ⟨z2, hF, hS, hm⟩
              unfold chess_Material_J6 at hm
              refine cond_ev (t := 41) (b := z2) hF (by kernel_rfl) (fun hb => ?_) (fun hb => ?_)
              · replace hm := if_t hm hb
                refine reg1 [] [] [5, 6, 7, 8, 9, 19, 20, 21] [pl 5 (pa g2 0), pl 6 (vi sum3), pl 7 (vi (w64 (great1 + 1))), pl 8 (vi knights1), pl 9 (pa g3 0), pl 19 (.slice A1 p1.length c1), pl 20 (vi (p1.length : Int)), pl 21 (vi z1)] hF hS Fol (by kernel_rfl) (by kernel_rfl) (by kernel_rfl) obs_nil (fun a w hF hS => ?_)
                refine block_n ?_
                refine block_n ?_
                refine then_n ?_
                exact ⟨sum3, (w64 (great1 + 1)), knights1, bishops1, hF.weak [5, 6, 7, 8, 9, 19, 20, 21] (by kernel_rfl), hS, hm⟩
              · replace hm := if_f hm hb
                refine reg [] [] [5, 6, 7, 8, 9, 10, 19, 20, 21, 40, 47] [pl 5 (pa g2 0), pl 6 (vi sum3), pl 7 (vi great1), pl 8 (vi knights1), pl 9 (pa g3 0), pl 10 (vi z1), pl 19 (.slice A1 p1.length c1), pl 20 (vi (p1.length : Int)), pl 21 (vi z1), pl 40 (vi r2), pl 47 (.bool (r2 == 2))] hF hS Fol (by kernel_rfl) (by kernel_rfl) (by kernel_rfl) obs_nil (fun a w hF hS => ?_)
                refine cond_ev (t := 47) (b := (r2 == 2)) hF (by kernel_rfl) (fun hb => ?_) (fun hb => ?_)
                · replace hm := if_t hm hb
                  refine reg1 [] [] [5, 6, 7, 8, 9, 19, 20, 21] [pl 5 (pa g2 0), pl 6 (vi sum3), pl 7 (vi great1), pl 8 (vi (w64 (knights1 + 1))), pl 9 (pa g3 0), pl 19 (.slice A1 p1.length c1), pl 20 (vi (p1.length : Int)), pl 21 (vi z1)] hF hS Fol (by kernel_rfl) (by kernel_rfl) (by kernel_rfl) obs_nil (fun a w hF hS => ?_)
                  refine block_n ?_
                  refine block_n ?_
                  refine then_n ?_
                  exact ⟨sum3, great1, (w64 (knights1 + 1)), bishops1, hF.weak [5, 6, 7, 8, 9, 19, 20, 21] (by kernel_rfl), hS, hm⟩
                · replace hm := if_f hm hb
                  refine reg [] [] [5, 6, 7, 8, 9, 10, 19, 20, 21, 51] [pl 5 (pa g2 0), pl 6 (vi sum3), pl 7 (vi great1), pl 8 (vi knights1), pl 9 (pa g3 0), pl 10 (vi z1), pl 19 (.slice A1 p1.length c1), pl 20 (vi (p1.length : Int)), pl 21 (vi z1), pl 51 (.bool (r2 == 3))] hF hS Fol (by kernel_rfl) (by kernel_rfl) (by kernel_rfl) obs_nil (fun a w hF hS => ?_)
                  refine cond_ev (t := 51) (b := (r2 == 3)) hF (by kernel_rfl) (fun hb => ?_) (fun hb => ?_)
                  · replace hm := if_t hm hb
                    refine oneR ?_
                    obtain ⟨hp4, hm⟩ := asrt_b hm
                    obtain ⟨hp5, hm⟩ := asrt_b hm
                    obtain ⟨hp6, hm⟩ := asrt_b hm
                    refine at_run 10 [⟨true, [], vS (Op.shift .shr .i64 z1 .u64 3), vi (shrK .i64 z1 3)⟩, ⟨true, [], vS (Instr.indexAt 212 (pa g3 0) (vi (bAnd (w64 ((bAnd z1 7) + (shrK .i64 z1 3))) 1))), .pointer (some ((⟨g3, 0, none⟩ : Addr).add (Int.toNat (bAnd (w64 ((bAnd z1 7) + (shrK .i64 z1 3))) 1) * 1)))⟩, ⟨false, [], vS (Instr.loadAt 3 (.pointer (some ((⟨g3, 0, none⟩ : Addr).add (Int.toNat (bAnd (w64 ((bAnd z1 7) + (shrK .i64 z1 3))) 1) * 1))))), vi (geti bishops1 (bAnd (w64 ((bAnd z1 7) + (shrK .i64 z1 3))) 1))⟩, ⟨true, [], vS (Instr.indexAt 212 (pa g3 0) (vi (bAnd (w64 ((bAnd z1 7) + (shrK .i64 z1 3))) 1))), .pointer (some ((⟨g3, 0, none⟩ : Addr).add (Int.toNat (bAnd (w64 ((bAnd z1 7) + (shrK .i64 z1 3))) 1) * 1)))⟩] [none, none, none, some (vi (shrK .i64 z1 3)), none, none, some (.pointer (some ((⟨g3, 0, none⟩ : Addr).add (Int.toNat (bAnd (w64 ((bAnd z1 7) + (shrK .i64 z1 3))) 1) * 1)))), some (vi (geti bishops1 (bAnd (w64 ((bAnd z1 7) + (shrK .i64 z1 3))) 1))), none, some (.pointer (some ((⟨g3, 0, none⟩ : Addr).add (Int.toNat (bAnd (w64 ((bAnd z1 7) + (shrK .i64 z1 3))) 1) * 1))))] [5, 6, 7, 8, 9, 19, 20, 21, 61, 62] [pl 5 (pa g2 0), pl 6 (vi sum3), pl 7 (vi great1), pl 8 (vi knights1), pl 9 (pa g3 0), pl 19 (.slice A1 p1.length c1), pl 20 (vi (p1.length : Int)), pl 21 (vi z1), pl 61 (vi (w64 ((geti bishops1 (bAnd (w64 ((bAnd z1 7) + (shrK .i64 z1 3))) 1)) + 1))), pl 62 (.pointer (some ((⟨g3, 0, none⟩ : Addr).add (Int.toNat (bAnd (w64 ((bAnd z1 7) + (shrK .i64 z1 3))) 1) * 1))))] hF hS (by kernel_rfl) (by kernel_rfl) ?_ (fun a w hF hS => ?_)
                    · exact obs_cons (ob_shr (fun _ => by decide)) <| obs_cons (ob_ixA UndA212 hi3 hs3 (fun _ => hp4)) <| obs_cons (ob_getA (m := bishops1) (Value.int .i64) (0 : Int) 2 ([] : List Value) ([] : List Value) (bAnd (w64 ((bAnd z1 7) + (shrK .i64 z1 3))) 1) Agg3 rfl (fun _ hS => ⟨_, _, _, _, _, hS.at_ 1 rfl⟩) (fun hy => by have h0 := hp4; omega)) <| obs_cons (ob_ixA UndA212 hi3 hs3 (fun _ => hp5)) <| obs_nil
                    obtain ⟨w, hrun, hS⟩ := run_setA (P := Try.prog) (t := 3) (x := (w64 ((geti bishops1 (bAnd (w64 ((bAnd z1 7) + (shrK .i64 z1 3))) 1)) + 1))) (i := (bAnd (w64 ((bAnd z1 7) + (shrK .i64 z1 3))) 1)) (m := bishops1) (d := Int.toNat (bAnd (w64 ((bAnd z1 7) + (shrK .i64 z1 3))) 1) * 1) (Value.int .i64) (0 : Int) 2 ([] : List Value) ([] : List Value) (hS.at_ 1 rfl) rfl hi3 hs3 rfl (by have h0 := hp5; omega) (by have h0 := hp5; have h9 := hp6; omega)
                    refine at_skip hF (by kernel_rfl) hrun ?_
                    have hS : Sep w0 B w (blk g2 221 (List.toArray (([] : List Value) ++ (arr1 (Value.int .i64) (0 : Int) 7 ([0, 1, 3, 3, 5, 9, 0] : List Int) ++ ([] : List Value)))) :: blk g3 212 (List.toArray (([] : List Value) ++ (arr1 (Value.int .i64) (0 : Int) 2 (bishops1.set (Int.toNat (bAnd (w64 ((bAnd z1 7) + (shrK .i64 z1 3))) 1)) (w64 ((geti bishops1 (bAnd (w64 ((bAnd z1 7) + (shrK .i64 z1 3))) 1)) + 1))) ++ ([] : List Value)))) :: fs) := hS
                    refine at_end [5, 6, 7, 8, 9, 19, 20, 21] [pl 5 (pa g2 0), pl 6 (vi sum3), pl 7 (vi great1), pl 8 (vi knights1), pl 9 (pa g3 0), pl 19 (.slice A1 p1.length c1), pl 20 (vi (p1.length : Int)), pl 21 (vi z1)] hF rfl (by kernel_rfl) (fun hF => ?_)
                    refine block_n ?_
                    refine block_n ?_
                    refine then_n ?_
                    exact ⟨sum3, great1, knights1, (bishops1.set (Int.toNat (bAnd (w64 ((bAnd z1 7) + (shrK .i64 z1 3))) 1)) (w64 ((geti bishops1 (bAnd (w64 ((bAnd z1 7) + (shrK .i64 z1 3))) 1)) + 1))), hF.weak [5, 6, 7, 8, 9, 19, 20, 21] (by kernel_rfl), hS, hm⟩
                  · replace hm := if_f hm hb
                    refine wpIn_skip ?_
                    refine block_n ?_
                    refine block_n ?_
                    refine then_n ?_
                    exact ⟨sum3, great1, knights1, bishops1, hF.weak [5, 6, 7, 8, 9, 19, 20, 21] (by kernel_rfl), hS, hm⟩
            · refine reg [] [] [5, 6, 7, 8, 9, 10, 19, 20, 21, 40, 41] [pl 5 (pa g2 0), pl 6 (vi sum3), pl 7 (vi great1), pl 8 (vi knights1), pl 9 (pa g3 0), pl 10 (vi z1), pl 19 (.slice A1 p1.length c1), pl 20 (vi (p1.length : Int)), pl 21 (vi z1), pl 40 (vi r2), pl 41 (.bool (r2 == 1))] hF hS Fol (by kernel_rfl) (by kernel_rfl) (by kernel_rfl) obs_nil (fun a w hF hS => ?_)
              refine cond_ev (t := 41) (b := (r2 == 1)) hF (by kernel_rfl) (fun hb => ?_) (fun hb => ?_)
              · replace hm := if_t hm hb
                refine wpIn_skip ?_
                refine then_n ?_
                exact ⟨(r2 == 1), hF.weak [5, 6, 7, 8, 9, 10, 19, 20, 21, 40, 41] (by kernel_rfl), hS, hm⟩
              · replace hm := if_f hm hb
                refine reg [] [] [5, 6, 7, 8, 9, 10, 19, 20, 21, 40, 41] [pl 5 (pa g2 0), pl 6 (vi sum3), pl 7 (vi great1), pl 8 (vi knights1), pl 9 (pa g3 0), pl 10 (vi z1), pl 19 (.slice A1 p1.length c1), pl 20 (vi (p1.length : Int)), pl 21 (vi z1), pl 40 (vi r2), pl 41 (.bool (r2 == 4))] hF hS Fol (by kernel_rfl) (by kernel_rfl) (by kernel_rfl) obs_nil (fun a w hF hS => ?_)
                refine cond_ev (t := 41) (b := (r2 == 4)) hF (by kernel_rfl) (fun hb => ?_) (fun hb => ?_)
                · replace hm := if_t hm hb
                  refine wpIn_skip ?_
                  refine then_n ?_
                  exact ⟨(r2 == 4), hF.weak [5, 6, 7, 8, 9, 10, 19, 20, 21, 40, 41] (by kernel_rfl), hS, hm⟩
                · replace hm := if_f hm hb
                  refine reg1 [] [] [5, 6, 7, 8, 9, 10, 19, 20, 21, 40, 41] [pl 5 (pa g2 0), pl 6 (vi sum3), pl 7 (vi great1), pl 8 (vi knights1), pl 9 (pa g3 0), pl 10 (vi z1), pl 19 (.slice A1 p1.length c1), pl 20 (vi (p1.length : Int)), pl 21 (vi z1), pl 40 (vi r2), pl 41 (.bool (r2 == 5))] hF hS Fol (by kernel_rfl) (by kernel_rfl) (by kernel_rfl) obs_nil (fun a w hF hS => ?_)
                  refine then_n ?_
                  exact ⟨(r2 == 5), hF.weak [5, 6, 7, 8, 9, 10, 19, 20, 21, 40, 41] (by kernel_rfl), hS, hm⟩
          · refine reg [] [] [5, 6, 7, 8, 9, 10, 12, 19, 20, 21, 29] [pl 5 (pa g2 0), pl 6 (vi sum1), pl 7 (vi great1), pl 8 (vi knights1), pl 9 (pa g3 0), pl 10 (vi z1), pl 12 (vi r2), pl 19 (.slice A1 p1.length c1), pl 20 (vi (p1.length : Int)), pl 21 (vi z1), pl 29 (.bool (decide ((0 : Int) < (geti p1 z1))))] hF hS Fol (by kernel_rfl) (by kernel_rfl) (by kernel_rfl) obs_nil (fun a w hF hS => ?_)
            refine cond_ev (t := 29) (b := decide ((0 : Int) < (geti p1 z1))) hF (by kernel_rfl) (fun hb => ?_) (fun hb => ?_)
            · replace hm := if_t hm hb
              obtain ⟨hp2, hm⟩ := asrt_b hm
              refine reg1 [⟨true, [], vS (Instr.indexAt 221 (pa g2 0) (vi r2)), .pointer (some ((⟨g2, 0, none⟩ : Addr).add (Int.toNat r2 * 1)))⟩, ⟨false, [], vS (Instr.loadAt 3 (.pointer (some ((⟨g2, 0, none⟩ : Addr).add (Int.toNat r2 * 1))))), vi (geti ([0, 1, 3, 3, 5, 9, 0] : List Int) r2)⟩] [none, none, some (.pointer (some ((⟨g2, 0, none⟩ : Addr).add (Int.toNat r2 * 1)))), some (vi (geti ([0, 1, 3, 3, 5, 9, 0] : List Int) r2)), none, none] [5, 6, 7, 8, 9, 10, 12, 19, 20, 21] [pl 5 (pa g2 0), pl 6 (vi (w64 (sum1 + (geti ([0, 1, 3, 3, 5, 9, 0] : List Int) r2)))), pl 7 (vi great1), pl 8 (vi knights1), pl 9 (pa g3 0), pl 10 (vi z1), pl 12 (vi r2), pl 19 (.slice A1 p1.length c1), pl 20 (vi (p1.length : Int)), pl 21 (vi z1)] hF hS Fol (by kernel_rfl) (by kernel_rfl) (by kernel_rfl) ?_ (fun a w hF hS => ?_)
              · exact obs_cons (ob_ixA UndA221 hi3 hs3 (fun _ => hp2)) <| obs_cons (ob_getA (m := ([0, 1, 3, 3, 5, 9, 0] : List Int)) (Value.int .i64) (0 : Int) 7 ([] : List Value) ([] : List Value) r2 Agg3 rfl (fun _ hS => ⟨_, _, _, _, _, hS.at_ 0 rfl⟩) (fun hy => by have h0 := hp2; omega)) <| obs_nil
              refine then_n ?_
              exact ⟨(w64 (sum1 + (geti ([0, 1, 3, 3, 5, 9, 0] : List Int) r2))), hF.weak [5, 6, 7, 8, 9, 10, 12, 19, 20, 21] (by kernel_rfl), hS, hm⟩
            · replace hm := if_f hm hb
              obtain ⟨hp3, hm⟩ := asrt_b hm
              refine reg1 [⟨true, [], vS (Instr.indexAt 221 (pa g2 0) (vi r2)), .pointer (some ((⟨g2, 0, none⟩ : Addr).add (Int.toNat r2 * 1)))⟩, ⟨false, [], vS (Instr.loadAt 3 (.pointer (some ((⟨g2, 0, none⟩ : Addr).add (Int.toNat r2 * 1))))), vi (geti ([0, 1, 3, 3, 5, 9, 0] : List Int) r2)⟩] [none, none, some (.pointer (some ((⟨g2, 0, none⟩ : Addr).add (Int.toNat r2 * 1)))), some (vi (geti ([0, 1, 3, 3, 5, 9, 0] : List Int) r2)), none, none] [5, 6, 7, 8, 9, 10, 12, 19, 20, 21] [pl 5 (pa g2 0), pl 6 (vi (w64 (sum1 - (geti ([0, 1, 3, 3, 5, 9, 0] : List Int) r2)))), pl 7 (vi great1), pl 8 (vi knights1), pl 9 (pa g3 0), pl 10 (vi z1), pl 12 (vi r2), pl 19 (.slice A1 p1.length c1), pl 20 (vi (p1.length : Int)), pl 21 (vi z1)] hF hS Fol (by kernel_rfl) (by kernel_rfl) (by kernel_rfl) ?_ (fun a w hF hS => ?_)
              · exact obs_cons (ob_ixA UndA221 hi3 hs3 (fun _ => hp3)) <| obs_cons (ob_getA (m := ([0, 1, 3, 3, 5, 9, 0] : List Int)) (Value.int .i64) (0 : Int) 7 ([] : List Value) ([] : List Value) r2 Agg3 rfl (fun _ hS => ⟨_, _, _, _, _, hS.at_ 0 rfl⟩) (fun hy => by have h0 := hp3; omega)) <| obs_nil
              refine then_n ?_
              exact ⟨(w64 (sum1 - (geti ([0, 1, 3, 3, 5, 9, 0] : List Int) r2))), hF.weak [5, 6, 7, 8, 9, 10, 12, 19, 20, 21] (by kernel_rfl), hS, hm⟩
      · refine cond_ev (t := 22) (b := decide (z1 < (p1.length : Int))) hF (by kernel_rfl) (fun hb => ?_) (fun hb => ?_)
        · replace hm := if_t hm hb
          refine wpIn_skip ?_
          refine then_n ?_
          exact ⟨hF.weak [5, 6, 7, 8, 9, 19, 20, 21] (by kernel_rfl), hS, hm⟩
        · replace hm := if_f hm hb
          refine wpIn_exit ?_
          refine then_e (then_e (block_e (then_n ?_)))
          have hS := hS.pickN 2 [1] (by decide)
          rw [← hφ1] at hm
          replace hm := done_b hm
          unfold chess_Material_K1 at hm
          try dsimp only at hm
          have hm : (chess_Material_J2 sum1 great1 knights1 bishops1).bind some = some r := hm
          exact ⟨sum1, great1, knights1, bishops1, hF.weak [6, 7, 8, 9] (by kernel_rfl), hS, hm⟩
  · obtain ⟨r1, hr1, hm⟩ := call_b hm
    refine reg [⟨false, [], vS (Instr.loadAt 75 (pa g1 0)), .agg (ca A1 p1.length c1 p2 p3 p4 p5 p6)⟩, ⟨false, [], callFunc 204 #[.agg (ca A1 p1.length c1 p2 p3 p4 p5 p6)], .bool r1⟩] [some (.agg (ca A1 p1.length c1 p2 p3 p4 p5 p6)), some (.bool r1), none] [1, 16] [pl 1 (pa g1 0), pl 16 (.bool (!r1))] hF hS Fol (by kernel_rfl) (by kernel_rfl) (by kernel_rfl) ?_ (fun a w hF hS => ?_)
    · exact obs_cons (ob_loadA (cs := (ca A1 p1.length c1 p2 p3 p4 p5 p6)) (by kernel_rfl) (by kernel_rfl) (fun _ _ hS => (hS.at_ 0 rfl).cellsAt 0 (by rfl))) <| obs_cons (ob_call Try.func204 (by kernel_rfl) rfl (fun _ _ hS => chess_May_w hr1 hS (fun _ hS => (hr_p1 _ (hS.dropN 1))) _hc_p1 rfl)) <| obs_nil
    refine cond_ev (t := 16) (b := !r1) hF (by kernel_rfl) (fun hb => ?_) (fun hb => ?_)
    · replace hm := if_t hm hb
      refine reg [] [] [2, 3, 4] [pl 2 (vi 0), pl 3 (.bool false), pl 4 (vi 12)] hF hS Fol (by kernel_rfl) (by kernel_rfl) (by kernel_rfl) obs_nil (fun a w hF hS => ?_)
      refine wpIn_ret ?_
      refine then_r ?_
      have hS := hS.pickN 1 [] (by decide)
      have hm : some (0, false, 12) = some r := hm
      obtain rfl := Option.some.inj hm
      exact retV (rs := [.tmp 2, .tmp 3, .tmp 4]) (vs := [vi 0, .bool false, vi 12]) hF rfl (rv_t (by kernel_rfl) <| rv_t (by kernel_rfl) <| rv_t (by kernel_rfl) <| rv_nil) rfl ⟨rfl, hS⟩
    · replace hm := if_f hm hb
      refine wpIn_skip ?_
      refine then_n ?_
      exact ⟨hF.weak [1] (by kernel_rfl), hS, hm⟩

noncomputable def moves_Result_J2  : Option (Int × Int) :=
  some (0, 0)

noncomputable def moves_Result_J1  (p1 : List Int) (p2 p3 : Int) (p4 p5 p6 : Int) (r1 : (Int × Bool × Int)) : Option (Int × Int) :=
  (board_Moves_m p1 p2 p3 p4 p5 p6).bind fun r2 => ((if ((r2.length : Int) == 0) then board_Checked_m p1 p2 else some false)).bind fun r3 => if (((r2.length : Int) == 0) && r3) then (some (1, 0)) else ((board_Moves_m p1 p2 p3 p4 p5 p6).bind fun r4 => if ((r4.length : Int) == 0) then (some (2, 0)) else (if r1.2.1 then (some (3, 0)) else (if (decide ((100 : Int) ≤ p5)) then (some (4, 0)) else (moves_Result_J2))))

noncomputable def moves_Result_m  (p1 : List Int) (p2 p3 : Int) (p4 p5 p6 : Int) : Option (Int × Int) :=
  (chess_Material_m p1 p2 p3 p4 p5 p6).bind fun r1 => if (r1.2.2 != 0) then (some (0, r1.2.2)) else ((moves_Result_J1 p1 p2 p3 p4 p5 p6 r1))

theorem moves_Result_w {A1 : Option Addr} {c1 n1 : Nat} {p1 : List Int} {p2 p3 : Int} {p4 p5 p6 : Int} {r : (Int × Int)} {w0 w : World} {B : Nat} {fs : List HP} (hm : moves_Result_m p1 p2 p3 p4 p5 p6 = some r) (hS : Sep w0 B w (fs)) (hr_p1 : RdF w0 B fs A1 (vI p1)) (_hc_p1 : p1.length ≤ c1) (_hn_p1 : n1 = p1.length) :
    Calls Try.prog 57 #[.agg (ca A1 n1 c1 p2 p3 p4 p5 p6)] w fun e w' => e = .returned (.tuple #[vi r.1, vi r.2]) ∧ Sep w0 B w' (fs) := by
  obtain ⟨i3, hi3, hz3, hs3, hb3⟩ := info_parts Info3
  obtain rfl := _hn_p1
  unfold moves_Result_m at hm
  replace hm := start_b hm
  refine enter (l := [.agg (ca A1 p1.length c1 p2 p3 p4 p5 p6)]) (n := 39) Try.func57 rfl rfl (by simp) (fun a hF => ?_)
  refine seqR ?_
  refine at_do (d := 1) (s := vS (Instr.box 75 (.agg (ca A1 p1.length c1 p2 p3 p4 p5 p6)))) (v := pa w.heap.size 0) (w' := w.alloc (.cells (ca A1 p1.length c1 p2 p3 p4 p5 p6) 75)) hF (by kernel_rfl) (by kernel_rfl) (by kernel_rfl) (fun a hF => ?_)
  have hS : Sep w0 B (w.alloc (.cells (ca A1 p1.length c1 p2 p3 p4 p5 p6) 75)) (blk w.heap.size 75 (ca A1 p1.length c1 p2 p3 p4 p5 p6) :: (fs)) := hS.box 75 (ca A1 p1.length c1 p2 p3 p4 p5 p6)
  generalize w.heap.size = g1 at hF hS
  generalize w.alloc (.cells (ca A1 p1.length c1 p2 p3 p4 p5 p6) 75) = w at hS ⊢
  refine at_run 2 [] [] [1] [pl 1 (pa g1 0)] hF hS (by kernel_rfl) (by kernel_rfl) obs_nil (fun a w hF hS => ?_)
  refine at_end [1] [pl 1 (pa g1 0)] hF rfl (by kernel_rfl) (fun hF => ?_)
  refine then_n ?_
  obtain ⟨r1, hr1, hm⟩ := call_b hm
  refine reg [⟨false, [], vS (Instr.loadAt 75 (pa g1 0)), .agg (ca A1 p1.length c1 p2 p3 p4 p5 p6)⟩, ⟨false, [], callFunc 136 #[.agg (ca A1 p1.length c1 p2 p3 p4 p5 p6)], .tuple #[vi r1.1, .bool r1.2.1, vi r1.2.2]⟩] [some (.agg (ca A1 p1.length c1 p2 p3 p4 p5 p6)), some (.tuple #[vi r1.1, .bool r1.2.1, vi r1.2.2]), none, none, none, none, none, none, none] [1, 5, 6] [pl 1 (pa g1 0), pl 5 (.bool r1.2.1), pl 6 (vi r1.2.2)] hF hS Fol (by kernel_rfl) (by kernel_rfl) (by kernel_rfl) ?_ (fun a w hF hS => ?_)
  · exact obs_cons (ob_loadA (cs := (ca A1 p1.length c1 p2 p3 p4 p5 p6)) (by kernel_rfl) (by kernel_rfl) (fun _ _ hS => (hS.at_ 0 rfl).cellsAt 0 (by rfl))) <| obs_cons (ob_call Try.func136 (by kernel_rfl) rfl (fun _ _ hS => chess_Material_w hr1 hS (fun _ hS => (hr_p1 _ (hS.dropN 1))) _hc_p1 rfl)) <| obs_nil
  refine seq_cut (fun a w => Fr 39 [pl 1 (pa g1 0), pl 5 (.bool r1.2.1)] a ∧ Sep w0 B w (blk g1 75 (ca A1 p1.length c1 p2 p3 p4 p5 p6) :: fs) ∧ ((moves_Result_J1 p1 p2 p3 p4 p5 p6 r1)).bind some = some r) ?_ ?_
  · rintro a w ⟨hF, hS, hm⟩
    unfold moves_Result_J1 at hm
    refine seq_cut (fun a w => Fr 39 [] a ∧ Sep w0 B w (fs) ∧ (moves_Result_J2).bind some = some r) ?_ ?_
    · rintro a w ⟨hF, hS, hm⟩
      unfold moves_Result_J2 at hm
      refine reg [] [] [2, 3] [pl 2 (vi 0), pl 3 (vi 0)] hF hS Fol (by kernel_rfl) (by kernel_rfl) (by kernel_rfl) obs_nil (fun a w hF hS => ?_)
      refine wpIn_ret ?_
      have hm : some (0, 0) = some r := hm
      obtain rfl := Option.some.inj hm
      exact retV (rs := [.tmp 2, .tmp 3]) (vs := [vi 0, vi 0]) hF rfl (rv_t (by kernel_rfl) <| rv_t (by kernel_rfl) <| rv_nil) rfl ⟨rfl, hS⟩
    · refine wpIn_block ?_
      refine seqR ?_
      obtain ⟨r2, hr2, hm⟩ := call_b hm
      obtain ⟨r3, hr3, hm⟩ := call_b hm
      refine at_run 1 [⟨false, [], vS (Instr.loadAt 75 (pa g1 0)), .agg (ca A1 p1.length c1 p2 p3 p4 p5 p6)⟩] [some (.agg (ca A1 p1.length c1 p2 p3 p4 p5 p6))] [1, 5, 17] [pl 1 (pa g1 0), pl 5 (.bool r1.2.1), pl 17 (.agg (ca A1 p1.length c1 p2 p3 p4 p5 p6))] hF hS (by kernel_rfl) (by kernel_rfl) ?_ (fun a w hF hS => ?_)
      · exact obs_cons (ob_loadA (cs := (ca A1 p1.length c1 p2 p3 p4 p5 p6)) (by kernel_rfl) (by kernel_rfl) (fun _ _ hS => (hS.at_ 0 rfl).cellsAt 0 (by rfl))) <| obs_nil
      refine at_call (f := 133) (args := #[.agg (ca A1 p1.length c1 p2 p3 p4 p5 p6)]) (d := 18) hF (by kernel_rfl) (by kernel_rfl) Try.func133 (by kernel_rfl) rfl (board_Moves_w hr2 hS (fun _ hS => (hr_p1 _ (hS.dropN 1))) _hc_p1 rfl) (fun v a w hR hF => ?_)
      clear hS
      obtain ⟨A2, c2, rfl, hS⟩ := hR
      have hS : Sep w0 B w (ownK 88 3 A2 r2.length c2 (List.flatMap enc88 r2) :: blk g1 75 (ca A1 p1.length c1 p2 p3 p4 p5 p6) :: fs) := hS
      refine at_run 10 [⟨false, [(((r2.length : Int) == 0), true)], vS (Instr.loadAt 27 (pa g1 0)), .slice A1 p1.length c1⟩, ⟨false, [(((r2.length : Int) == 0), true)], vS (Instr.loadAt 3 (pa g1 1)), vi p2⟩, ⟨false, [(((r2.length : Int) == 0), true)], callFunc 137 #[.slice A1 p1.length c1, vi p2], .bool r3⟩] [none, none, none, none, some (.slice A1 p1.length c1), none, some (vi p2), some (.bool r3), none, none] [1, 5, 16] [pl 1 (pa g1 0), pl 5 (.bool r1.2.1), pl 16 (.bool (((r2.length : Int) == 0) && r3))] hF hS (by kernel_rfl) (by kernel_rfl) ?_ (fun a w hF hS => ?_)
      · exact obs_cons (ob_load Agg27 (fun _ _ hS => (hS.at_ 1 rfl).cell rfl)) <| obs_cons (ob_load Agg3 (fun _ _ hS => (hS.at_ 1 rfl).cell rfl)) <| obs_cons (ob_call Try.func137 (by kernel_rfl) rfl (fun hy _ hS => board_Checked_w (ite_some hr3 (by rw [show ((r2.length : Int) == 0) = true from hy (((r2.length : Int) == 0), true) (by simp)]; try rfl)) hS (fun _ hS => (hr_p1 _ (hS.dropN 2))) _hc_p1 rfl)) <| obs_nil
      refine at_end [1, 5, 16] [pl 1 (pa g1 0), pl 5 (.bool r1.2.1), pl 16 (.bool (((r2.length : Int) == 0) && r3))] hF rfl (by kernel_rfl) (fun hF => ?_)
      refine then_n ?_
      refine cond_ev (t := 16) (b := ((r2.length : Int) == 0) && r3) hF (by kernel_rfl) (fun hb => ?_) (fun hb => ?_)
      · replace hm := if_t hm hb
        refine reg [] [] [2, 3] [pl 2 (vi 1), pl 3 (vi 0)] hF hS Fol (by kernel_rfl) (by kernel_rfl) (by kernel_rfl) obs_nil (fun a w hF hS => ?_)
        refine wpIn_ret ?_
        refine block_r (then_r ?_)
        have hS := hS.pickN 2 [] (by decide)
        have hm : some (1, 0) = some r := hm
        obtain rfl := Option.some.inj hm
        exact retV (rs := [.tmp 2, .tmp 3]) (vs := [vi 1, vi 0]) hF rfl (rv_t (by kernel_rfl) <| rv_t (by kernel_rfl) <| rv_nil) rfl ⟨rfl, hS⟩
      · replace hm := if_f hm hb
        refine seqR ?_
        obtain ⟨r4, hr4, hm⟩ := call_b hm
        refine at_run 1 [⟨false, [], vS (Instr.loadAt 75 (pa g1 0)), .agg (ca A1 p1.length c1 p2 p3 p4 p5 p6)⟩] [some (.agg (ca A1 p1.length c1 p2 p3 p4 p5 p6))] [1, 5, 29] [pl 1 (pa g1 0), pl 5 (.bool r1.2.1), pl 29 (.agg (ca A1 p1.length c1 p2 p3 p4 p5 p6))] hF hS (by kernel_rfl) (by kernel_rfl) ?_ (fun a w hF hS => ?_)
        · exact obs_cons (ob_loadA (cs := (ca A1 p1.length c1 p2 p3 p4 p5 p6)) (by kernel_rfl) (by kernel_rfl) (fun _ _ hS => (hS.at_ 1 rfl).cellsAt 0 (by rfl))) <| obs_nil
        refine at_call (f := 133) (args := #[.agg (ca A1 p1.length c1 p2 p3 p4 p5 p6)]) (d := 30) hF (by kernel_rfl) (by kernel_rfl) Try.func133 (by kernel_rfl) rfl (board_Moves_w hr4 hS (fun _ hS => (hr_p1 _ (hS.dropN 2))) _hc_p1 rfl) (fun v a w hR hF => ?_)
        clear hS
        obtain ⟨A3, c3, rfl, hS⟩ := hR
        have hS : Sep w0 B w (ownK 88 3 A3 r4.length c3 (List.flatMap enc88 r4) :: ownK 88 3 A2 r2.length c2 (List.flatMap enc88 r2) :: blk g1 75 (ca A1 p1.length c1 p2 p3 p4 p5 p6) :: fs) := hS
        refine at_run 3 [] [] [1, 5, 28] [pl 1 (pa g1 0), pl 5 (.bool r1.2.1), pl 28 (.bool ((r4.length : Int) == 0))] hF hS (by kernel_rfl) (by kernel_rfl) obs_nil (fun a w hF hS => ?_)
        refine at_end [1, 5, 28] [pl 1 (pa g1 0), pl 5 (.bool r1.2.1), pl 28 (.bool ((r4.length : Int) == 0))] hF rfl (by kernel_rfl) (fun hF => ?_)
        refine then_n ?_
        refine cond_ev (t := 28) (b := ((r4.length : Int) == 0)) hF (by kernel_rfl) (fun hb => ?_) (fun hb => ?_)
        · replace hm := if_t hm hb
          refine reg [] [] [2, 3] [pl 2 (vi 2), pl 3 (vi 0)] hF hS Fol (by kernel_rfl) (by kernel_rfl) (by kernel_rfl) obs_nil (fun a w hF hS => ?_)
          refine wpIn_ret ?_
          refine block_r (then_r ?_)
          have hS := hS.pickN 3 [] (by decide)
          have hm : some (2, 0) = some r := hm
          obtain rfl := Option.some.inj hm
          exact retV (rs := [.tmp 2, .tmp 3]) (vs := [vi 2, vi 0]) hF rfl (rv_t (by kernel_rfl) <| rv_t (by kernel_rfl) <| rv_nil) rfl ⟨rfl, hS⟩
        · replace hm := if_f hm hb
          refine reg [] [] [1, 33] [pl 1 (pa g1 0), pl 33 (.bool r1.2.1)] hF hS Fol (by kernel_rfl) (by kernel_rfl) (by kernel_rfl) obs_nil (fun a w hF hS => ?_)
          refine cond_ev (t := 33) (b := r1.2.1) hF (by kernel_rfl) (fun hb => ?_) (fun hb => ?_)
          · replace hm := if_t hm hb
            refine reg [] [] [2, 3] [pl 2 (vi 3), pl 3 (vi 0)] hF hS Fol (by kernel_rfl) (by kernel_rfl) (by kernel_rfl) obs_nil (fun a w hF hS => ?_)
            refine wpIn_ret ?_
            refine block_r (then_r ?_)
            have hS := hS.pickN 3 [] (by decide)
            have hm : some (3, 0) = some r := hm
            obtain rfl := Option.some.inj hm
            exact retV (rs := [.tmp 2, .tmp 3]) (vs := [vi 3, vi 0]) hF rfl (rv_t (by kernel_rfl) <| rv_t (by kernel_rfl) <| rv_nil) rfl ⟨rfl, hS⟩
          · replace hm := if_f hm hb
            refine reg [⟨false, [], vS (Instr.loadAt 3 (pa g1 4)), vi p5⟩] [none, some (vi p5), none, none] [35] [pl 35 (.bool (decide ((100 : Int) ≤ p5)))] hF hS Fol (by kernel_rfl) (by kernel_rfl) (by kernel_rfl) ?_ (fun a w hF hS => ?_)
            · exact obs_cons (ob_load Agg3 (fun _ _ hS => (hS.at_ 2 rfl).cell rfl)) <| obs_nil
            refine cond_ev (t := 35) (b := decide ((100 : Int) ≤ p5)) hF (by kernel_rfl) (fun hb => ?_) (fun hb => ?_)
            · replace hm := if_t hm hb
              refine reg [] [] [2, 3] [pl 2 (vi 4), pl 3 (vi 0)] hF hS Fol (by kernel_rfl) (by kernel_rfl) (by kernel_rfl) obs_nil (fun a w hF hS => ?_)
              refine wpIn_ret ?_
              refine block_r (then_r ?_)
              have hS := hS.pickN 3 [] (by decide)
              have hm : some (4, 0) = some r := hm
              obtain rfl := Option.some.inj hm
              exact retV (rs := [.tmp 2, .tmp 3]) (vs := [vi 4, vi 0]) hF rfl (rv_t (by kernel_rfl) <| rv_t (by kernel_rfl) <| rv_nil) rfl ⟨rfl, hS⟩
            · replace hm := if_f hm hb
              refine wpIn_skip ?_
              refine block_n ?_
              refine then_n ?_
              have hS := hS.pickN 3 [] (by decide)
              exact ⟨hF.weak [] (by kernel_rfl), hS, hm⟩
  · refine reg [] [] [1, 5, 6, 14] [pl 1 (pa g1 0), pl 5 (.bool r1.2.1), pl 6 (vi r1.2.2), pl 14 (.bool (r1.2.2 != 0))] hF hS Fol (by kernel_rfl) (by kernel_rfl) (by kernel_rfl) obs_nil (fun a w hF hS => ?_)
    refine cond_ev (t := 14) (b := (r1.2.2 != 0)) hF (by kernel_rfl) (fun hb => ?_) (fun hb => ?_)
    · replace hm := if_t hm hb
      refine reg [] [] [2, 3] [pl 2 (vi 0), pl 3 (vi r1.2.2)] hF hS Fol (by kernel_rfl) (by kernel_rfl) (by kernel_rfl) obs_nil (fun a w hF hS => ?_)
      refine wpIn_ret ?_
      refine then_r ?_
      have hS := hS.pickN 1 [] (by decide)
      have hm : some (0, r1.2.2) = some r := hm
      obtain rfl := Option.some.inj hm
      exact retV (rs := [.tmp 2, .tmp 3]) (vs := [vi 0, vi r1.2.2]) hF rfl (rv_t (by kernel_rfl) <| rv_t (by kernel_rfl) <| rv_nil) rfl ⟨rfl, hS⟩
    · replace hm := if_f hm hb
      refine wpIn_skip ?_
      refine then_n ?_
      exact ⟨hF.weak [1, 5] (by kernel_rfl), hS, hm⟩

noncomputable def lw_noChess_m  (p1 : List Int) (p2 p3 : Int) (p4 p5 p6 : Int) : Option Bool :=
  some (((((((p1.length : Int) == 0) && (p2 == 0)) && (p3 == 0)) && (p4 == 0)) && (p5 == 0)) && (p6 == 0))

theorem lw_noChess_w {A1 : Option Addr} {c1 n1 : Nat} {p1 : List Int} {p2 p3 : Int} {p4 p5 p6 : Int} {r : Bool} {w0 w : World} {B : Nat} {fs : List HP} (hm : lw_noChess_m p1 p2 p3 p4 p5 p6 = some r) (hS : Sep w0 B w (fs)) (hr_p1 : RdF w0 B fs A1 (vI p1)) (_hc_p1 : p1.length ≤ c1) (_hn_p1 : n1 = p1.length) :
    Calls Try.prog 52 #[.agg (ca A1 n1 c1 p2 p3 p4 p5 p6)] w fun e w' => e = .returned (.bool r) ∧ Sep w0 B w' (fs) := by
  obtain ⟨i3, hi3, hz3, hs3, hb3⟩ := info_parts Info3
  obtain rfl := _hn_p1
  unfold lw_noChess_m at hm
  replace hm := start_b hm
  refine enter (l := [.agg (ca A1 p1.length c1 p2 p3 p4 p5 p6)]) (n := 32) Try.func52 rfl rfl (by simp) (fun a hF => ?_)
  refine seqR ?_
  refine at_do (d := 1) (s := vS (Instr.box 75 (.agg (ca A1 p1.length c1 p2 p3 p4 p5 p6)))) (v := pa w.heap.size 0) (w' := w.alloc (.cells (ca A1 p1.length c1 p2 p3 p4 p5 p6) 75)) hF (by kernel_rfl) (by kernel_rfl) (by kernel_rfl) (fun a hF => ?_)
  have hS : Sep w0 B (w.alloc (.cells (ca A1 p1.length c1 p2 p3 p4 p5 p6) 75)) (blk w.heap.size 75 (ca A1 p1.length c1 p2 p3 p4 p5 p6) :: (fs)) := hS.box 75 (ca A1 p1.length c1 p2 p3 p4 p5 p6)
  generalize w.heap.size = g1 at hF hS
  generalize w.alloc (.cells (ca A1 p1.length c1 p2 p3 p4 p5 p6) 75) = w at hS ⊢
  refine at_run 1 [] [] [1] [pl 1 (pa g1 0)] hF hS (by kernel_rfl) (by kernel_rfl) obs_nil (fun a w hF hS => ?_)
  refine at_end [1] [pl 1 (pa g1 0)] hF rfl (by kernel_rfl) (fun hF => ?_)
  refine then_n ?_
  refine reg [⟨false, [], vS (Instr.loadAt 27 (pa g1 0)), .slice A1 p1.length c1⟩, ⟨false, [(((p1.length : Int) == 0), true)], vS (Instr.loadAt 3 (pa g1 1)), vi p2⟩, ⟨false, [(((p1.length : Int) == 0) && (p2 == 0), true)], vS (Instr.loadAt 3 (pa g1 2)), vi p3⟩, ⟨false, [((((p1.length : Int) == 0) && (p2 == 0)) && (p3 == 0), true)], vS (Instr.loadAt 3 (pa g1 3)), vi p4⟩, ⟨false, [(((((p1.length : Int) == 0) && (p2 == 0)) && (p3 == 0)) && (p4 == 0), true)], vS (Instr.loadAt 3 (pa g1 4)), vi p5⟩, ⟨false, [((((((p1.length : Int) == 0) && (p2 == 0)) && (p3 == 0)) && (p4 == 0)) && (p5 == 0), true)], vS (Instr.loadAt 3 (pa g1 5)), vi p6⟩] [none, some (.slice A1 p1.length c1), none, none, none, none, some (vi p2), none, none, none, none, some (vi p3), none, none, none, none, some (vi p4), none, none, none, none, some (vi p5), none, none, none, none, some (vi p6), none, none, none] [2] [pl 2 (.bool (((((((p1.length : Int) == 0) && (p2 == 0)) && (p3 == 0)) && (p4 == 0)) && (p5 == 0)) && (p6 == 0)))] hF hS Fol (by kernel_rfl) (by kernel_rfl) (by kernel_rfl) ?_ (fun a w hF hS => ?_)
  · exact obs_cons (ob_load Agg27 (fun _ _ hS => (hS.at_ 0 rfl).cell rfl)) <| obs_cons (ob_load Agg3 (fun _ _ hS => (hS.at_ 0 rfl).cell rfl)) <| obs_cons (ob_load Agg3 (fun _ _ hS => (hS.at_ 0 rfl).cell rfl)) <| obs_cons (ob_load Agg3 (fun _ _ hS => (hS.at_ 0 rfl).cell rfl)) <| obs_cons (ob_load Agg3 (fun _ _ hS => (hS.at_ 0 rfl).cell rfl)) <| obs_cons (ob_load Agg3 (fun _ _ hS => (hS.at_ 0 rfl).cell rfl)) <| obs_nil
  refine wpIn_ret ?_
  have hS := hS.pickN 1 [] (by decide)
  have hm : some (((((((p1.length : Int) == 0) && (p2 == 0)) && (p3 == 0)) && (p4 == 0)) && (p5 == 0)) && (p6 == 0)) = some r := hm
  obtain rfl := Option.some.inj hm
  exact retV (rs := [.tmp 2]) (vs := [.bool (((((((p1.length : Int) == 0) && (p2 == 0)) && (p3 == 0)) && (p4 == 0)) && (p5 == 0)) && (p6 == 0))]) hF rfl (rv_t (by kernel_rfl) <| rv_nil) rfl ⟨rfl, hS⟩

noncomputable def lw_sameMoves_J4  (i1 : Int) : Option (St Int (Fl Unit Bool)) :=
  some (.next (w64 (i1 + 1)))

noncomputable def lw_sameMoves_J3  (a1 : List MvT) (b1 : List MvT) (i1 : Int) : Option (St Int (Fl Unit Bool)) :=
  asrt (0 ≤ i1 ∧ i1 < (a1.length : Int)) <| asrt (0 ≤ i1 ∧ i1 < (b1.length : Int)) <| if (!((((getd ((0, 0, 0) : MvT) a1 i1).1) == ((getd ((0, 0, 0) : MvT) b1 i1).1)) && ((((getd ((0, 0, 0) : MvT) a1 i1).2.1) == ((getd ((0, 0, 0) : MvT) b1 i1).2.1)) && (((getd ((0, 0, 0) : MvT) a1 i1).2.2) == ((getd ((0, 0, 0) : MvT) b1 i1).2.2))))) then (some (.done (.ret false))) else ((lw_sameMoves_J4 i1))

noncomputable def lw_sameMoves_J2  : Option Bool :=
  some true

noncomputable def lw_sameMoves_K1  : (Fl Unit Bool) → Option Bool :=
  fun (x : (Fl Unit Bool)) => match x with | .go _ => lw_sameMoves_J2 | .ret x => some x

noncomputable def lw_sameMoves_L1  (a1 : List MvT) (b1 : List MvT) : Int → Option (St Int (Fl Unit Bool)) :=
  fun (x : Int) => match x with | i1 => if (decide (i1 < (a1.length : Int))) then ((lw_sameMoves_J3 a1 b1 i1)) else (some (.done (.go ())))

noncomputable def lw_sameMoves_J1  (a1 : List MvT) (b1 : List MvT) : Option Bool :=
  (loop (lw_sameMoves_L1 a1 b1) 0).bind lw_sameMoves_K1

noncomputable def lw_sameMoves_m  (a1 : List MvT) (b1 : List MvT) : Option Bool :=
  if ((a1.length : Int) != (b1.length : Int)) then (some false) else ((lw_sameMoves_J1 a1 b1))

theorem lw_sameMoves_w {A1 : Option Addr} {c1 n1 : Nat} {a1 : List MvT} {A2 : Option Addr} {c2 n2 : Nat} {b1 : List MvT} {r : Bool} {w0 w : World} {B : Nat} {fs : List HP} (hm : lw_sameMoves_m a1 b1 = some r) (hS : Sep w0 B w (fs)) (hr_a1 : RdF w0 B fs A1 ((List.flatMap enc88 a1))) (_hc_a1 : a1.length ≤ c1) (_hn_a1 : n1 = a1.length) (hr_b1 : RdF w0 B fs A2 ((List.flatMap enc88 b1))) (_hc_b1 : b1.length ≤ c2) (_hn_b1 : n2 = b1.length) :
    Calls Try.prog 59 #[.slice A1 n1 c1, .slice A2 n2 c2] w fun e w' => e = .returned (.bool r) ∧ Sep w0 B w' (fs) := by
  obtain ⟨i88, hi88, hz88, hs88, hb88⟩ := info_parts Info88
  obtain rfl := _hn_a1
  obtain rfl := _hn_b1
  unfold lw_sameMoves_m at hm
  replace hm := start_b hm
  refine enter (l := [.slice A1 a1.length c1, .slice A2 b1.length c2]) (n := 26) Try.func59 rfl rfl (by simp) (fun a hF => ?_)
  refine reg [] [] [0, 1] [pl 0 (.slice A1 a1.length c1), pl 1 (.slice A2 b1.length c2)] hF hS Fol (by kernel_rfl) (by kernel_rfl) (by kernel_rfl) obs_nil (fun a w hF hS => ?_)
  refine seq_cut (fun a w => Fr 26 [pl 0 (.slice A1 a1.length c1), pl 1 (.slice A2 b1.length c2)] a ∧ Sep w0 B w (fs) ∧ ((lw_sameMoves_J1 a1 b1)).bind some = some r) ?_ ?_
  · rintro a w ⟨hF, hS, hm⟩
    unfold lw_sameMoves_J1 at hm
    refine seq_cut (fun a w => Fr 26 [] a ∧ Sep w0 B w (fs) ∧ (lw_sameMoves_J2).bind some = some r) ?_ ?_
    · rintro a w ⟨hF, hS, hm⟩
      unfold lw_sameMoves_J2 at hm
      refine reg [] [] [4] [pl 4 (.bool true)] hF hS Fol (by kernel_rfl) (by kernel_rfl) (by kernel_rfl) obs_nil (fun a w hF hS => ?_)
      refine wpIn_ret ?_
      have hm : some true = some r := hm
      obtain rfl := Option.some.inj hm
      exact retV (rs := [.tmp 4]) (vs := [.bool true]) hF rfl (rv_t (by kernel_rfl) <| rv_nil) rfl ⟨rfl, hS⟩
    · refine reg [] [] [0, 1, 5] [pl 0 (.slice A1 a1.length c1), pl 1 (.slice A2 b1.length c2), pl 5 (vi 0)] hF hS Fol (by kernel_rfl) (by kernel_rfl) (by kernel_rfl) obs_nil (fun a w hF hS => ?_)
      refine wpIn_block ?_
      refine wp_loop_model (S := Int) (R := (Fl Unit Bool)) (lw_sameMoves_L1 a1 b1) (fun x => (lw_sameMoves_K1 x).bind some) r (fun (x : Int) a w => Fr 26 [pl 0 (.slice A1 a1.length c1), pl 1 (.slice A2 b1.length c2), pl 5 (vi x)] a ∧ Sep w0 B w (fs)) (assoc_b hm) ⟨hF.weak [0, 1, 5] (by kernel_rfl), hS⟩ ?_
      clear hF hS hm
      rintro nn1 i1 a w ⟨hF, hS⟩ hm
      generalize hφ1 : stK (lw_sameMoves_L1 a1 b1) nn1 (fun x => (lw_sameMoves_K1 x).bind some) = φ1 at hm
      unfold lw_sameMoves_L1 at hm
      dsimp only at hm
      refine seq_cut (fun a w => Fr 26 [pl 0 (.slice A1 a1.length c1), pl 1 (.slice A2 b1.length c2), pl 5 (vi i1)] a ∧ Sep w0 B w (fs) ∧ ((lw_sameMoves_J3 a1 b1 i1)).bind φ1 = some r) ?_ ?_
      · rintro a w ⟨hF, hS, hm⟩
        unfold lw_sameMoves_J3 at hm
        refine seq_cut (fun a w => Fr 26 [pl 0 (.slice A1 a1.length c1), pl 1 (.slice A2 b1.length c2), pl 5 (vi i1)] a ∧ Sep w0 B w (fs) ∧ ((lw_sameMoves_J4 i1)).bind φ1 = some r) ?_ ?_
        · rintro a w ⟨hF, hS, hm⟩
          unfold lw_sameMoves_J4 at hm
          refine reg1 [] [] [0, 1, 5] [pl 0 (.slice A1 a1.length c1), pl 1 (.slice A2 b1.length c2), pl 5 (vi (w64 (i1 + 1)))] hF hS Fol (by kernel_rfl) (by kernel_rfl) (by kernel_rfl) obs_nil (fun a w hF hS => ?_)
          refine then_n ?_
          rw [← hφ1] at hm
          exact ⟨(w64 (i1 + 1)), ⟨hF.weak [0, 1, 5] (by kernel_rfl), hS⟩, hm⟩
        · refine wpIn_block ?_
          obtain ⟨hp1, hm⟩ := asrt_b hm
          obtain ⟨hp2, hm⟩ := asrt_b hm
          refine reg [⟨true, [], vS (Instr.indexAt 81 (.slice A1 a1.length c1) (vi i1)), .pointer (some (sAddrK A1 3 i1))⟩, ⟨false, [], vS (Instr.loadAt 88 (.pointer (some (sAddrK A1 3 i1)))), .agg #[vi ((getd ((0, 0, 0) : MvT) a1 i1).1), vi ((getd ((0, 0, 0) : MvT) a1 i1).2.1), vi ((getd ((0, 0, 0) : MvT) a1 i1).2.2)]⟩, ⟨true, [], vS (Instr.indexAt 81 (.slice A2 b1.length c2) (vi i1)), .pointer (some (sAddrK A2 3 i1))⟩, ⟨false, [], vS (Instr.loadAt 88 (.pointer (some (sAddrK A2 3 i1)))), .agg #[vi ((getd ((0, 0, 0) : MvT) b1 i1).1), vi ((getd ((0, 0, 0) : MvT) b1 i1).2.1), vi ((getd ((0, 0, 0) : MvT) b1 i1).2.2)]⟩, ⟨true, [], vS (do eqGuard .neq 88 (.tmp 20) (.tmp 24) (.agg #[vi ((getd ((0, 0, 0) : MvT) a1 i1).1), vi ((getd ((0, 0, 0) : MvT) a1 i1).2.1), vi ((getd ((0, 0, 0) : MvT) a1 i1).2.2)]) (.agg #[vi ((getd ((0, 0, 0) : MvT) b1 i1).1), vi ((getd ((0, 0, 0) : MvT) b1 i1).2.1), vi ((getd ((0, 0, 0) : MvT) b1 i1).2.2)]); binOp .neq 88 (.agg #[vi ((getd ((0, 0, 0) : MvT) a1 i1).1), vi ((getd ((0, 0, 0) : MvT) a1 i1).2.1), vi ((getd ((0, 0, 0) : MvT) a1 i1).2.2)]) (.agg #[vi ((getd ((0, 0, 0) : MvT) b1 i1).1), vi ((getd ((0, 0, 0) : MvT) b1 i1).2.1), vi ((getd ((0, 0, 0) : MvT) b1 i1).2.2)])), .bool (!((((getd ((0, 0, 0) : MvT) a1 i1).1) == ((getd ((0, 0, 0) : MvT) b1 i1).1)) && ((((getd ((0, 0, 0) : MvT) a1 i1).2.1) == ((getd ((0, 0, 0) : MvT) b1 i1).2.1)) && (((getd ((0, 0, 0) : MvT) a1 i1).2.2) == ((getd ((0, 0, 0) : MvT) b1 i1).2.2)))))⟩] [none, none, some (.pointer (some (sAddrK A1 3 i1))), some (.agg #[vi ((getd ((0, 0, 0) : MvT) a1 i1).1), vi ((getd ((0, 0, 0) : MvT) a1 i1).2.1), vi ((getd ((0, 0, 0) : MvT) a1 i1).2.2)]), none, none, some (.pointer (some (sAddrK A2 3 i1))), some (.agg #[vi ((getd ((0, 0, 0) : MvT) b1 i1).1), vi ((getd ((0, 0, 0) : MvT) b1 i1).2.1), vi ((getd ((0, 0, 0) : MvT) b1 i1).2.2)]), some (.bool (!((((getd ((0, 0, 0) : MvT) a1 i1).1) == ((getd ((0, 0, 0) : MvT) b1 i1).1)) && ((((getd ((0, 0, 0) : MvT) a1 i1).2.1) == ((getd ((0, 0, 0) : MvT) b1 i1).2.1)) && (((getd ((0, 0, 0) : MvT) a1 i1).2.2) == ((getd ((0, 0, 0) : MvT) b1 i1).2.2))))))] [0, 1, 5, 25] [pl 0 (.slice A1 a1.length c1), pl 1 (.slice A2 b1.length c2), pl 5 (vi i1), pl 25 (.bool (!((((getd ((0, 0, 0) : MvT) a1 i1).1) == ((getd ((0, 0, 0) : MvT) b1 i1).1)) && ((((getd ((0, 0, 0) : MvT) a1 i1).2.1) == ((getd ((0, 0, 0) : MvT) b1 i1).2.1)) && (((getd ((0, 0, 0) : MvT) a1 i1).2.2) == ((getd ((0, 0, 0) : MvT) b1 i1).2.2))))))] hF hS Fol (by kernel_rfl) (by kernel_rfl) (by kernel_rfl) ?_ (fun a w hF hS => ?_)
          · exact obs_cons (ob_ixK (m := a1) encK88 Und81 hi88 hs88 (hr_a1 _ (hS.dropN 0)) rfl (fun _ => hp1)) <| obs_cons (ob_getK (n := a1.length) (m := a1) encK88 ((0, 0, 0) : MvT) (by kernel_rfl) (by kernel_rfl) (fun _ hS => ⟨_, (hr_a1 _ (hS.dropN 0))⟩) (fun _ hS => rfl) (fun _ => hp1)) <| obs_cons (ob_ixK (m := b1) encK88 Und81 hi88 hs88 (hr_b1 _ (hS.dropN 0)) rfl (fun _ => hp2)) <| obs_cons (ob_getK (n := b1.length) (m := b1) encK88 ((0, 0, 0) : MvT) (by kernel_rfl) (by kernel_rfl) (fun _ hS => ⟨_, (hr_b1 _ (hS.dropN 0))⟩) (fun _ hS => rfl) (fun _ => hp2)) <| obs_cons (ob_neq rfl (by kernel_rfl) (fun w => Eql88 w)) <| obs_nil
          refine cond_ev (t := 25) (b := !((((getd ((0, 0, 0) : MvT) a1 i1).1) == ((getd ((0, 0, 0) : MvT) b1 i1).1)) && ((((getd ((0, 0, 0) : MvT) a1 i1).2.1) == ((getd ((0, 0, 0) : MvT) b1 i1).2.1)) && (((getd ((0, 0, 0) : MvT) a1 i1).2.2) == ((getd ((0, 0, 0) : MvT) b1 i1).2.2))))) hF (by kernel_rfl) (fun hb => ?_) (fun hb => ?_)
          · replace hm := if_t hm hb
            refine reg [] [] [4] [pl 4 (.bool false)] hF hS Fol (by kernel_rfl) (by kernel_rfl) (by kernel_rfl) obs_nil (fun a w hF hS => ?_)
            refine wpIn_ret ?_
            refine block_r (then_r (then_r (block_r (then_r ?_))))
            rw [← hφ1] at hm
            replace hm := done_b hm
            unfold lw_sameMoves_K1 at hm
            try dsimp only at hm
            have hm : some false = some r := hm
            obtain rfl := Option.some.inj hm
            exact retV (rs := [.tmp 4]) (vs := [.bool false]) hF rfl (rv_t (by kernel_rfl) <| rv_nil) rfl ⟨rfl, hS⟩
          · replace hm := if_f hm hb
            refine wpIn_skip ?_
            refine block_n ?_
            refine then_n ?_
            exact ⟨hF.weak [0, 1, 5] (by kernel_rfl), hS, hm⟩
      · refine reg [] [] [0, 1, 5, 14] [pl 0 (.slice A1 a1.length c1), pl 1 (.slice A2 b1.length c2), pl 5 (vi i1), pl 14 (.bool (decide (i1 < (a1.length : Int))))] hF hS Fol (by kernel_rfl) (by kernel_rfl) (by kernel_rfl) obs_nil (fun a w hF hS => ?_)
        refine cond_ev (t := 14) (b := decide (i1 < (a1.length : Int))) hF (by kernel_rfl) (fun hb => ?_) (fun hb => ?_)
        · replace hm := if_t hm hb
          refine wpIn_skip ?_
          refine then_n ?_
          exact ⟨hF.weak [0, 1, 5] (by kernel_rfl), hS, hm⟩
        · replace hm := if_f hm hb
          refine wpIn_exit ?_
          refine then_e (then_e (block_e (then_n ?_)))
          rw [← hφ1] at hm
          replace hm := done_b hm
          unfold lw_sameMoves_K1 at hm
          try dsimp only at hm
          have hm : (lw_sameMoves_J2).bind some = some r := hm
          exact ⟨hF.weak [] (by kernel_rfl), hS, hm⟩
  · refine reg [] [] [0, 1, 10] [pl 0 (.slice A1 a1.length c1), pl 1 (.slice A2 b1.length c2), pl 10 (.bool ((a1.length : Int) != (b1.length : Int)))] hF hS Fol (by kernel_rfl) (by kernel_rfl) (by kernel_rfl) obs_nil (fun a w hF hS => ?_)
    refine cond_ev (t := 10) (b := ((a1.length : Int) != (b1.length : Int))) hF (by kernel_rfl) (fun hb => ?_) (fun hb => ?_)
    · replace hm := if_t hm hb
      refine reg [] [] [4] [pl 4 (.bool false)] hF hS Fol (by kernel_rfl) (by kernel_rfl) (by kernel_rfl) obs_nil (fun a w hF hS => ?_)
      refine wpIn_ret ?_
      refine then_r ?_
      have hm : some false = some r := hm
      obtain rfl := Option.some.inj hm
      exact retV (rs := [.tmp 4]) (vs := [.bool false]) hF rfl (rv_t (by kernel_rfl) <| rv_nil) rfl ⟨rfl, hS⟩
    · replace hm := if_f hm hb
      refine wpIn_skip ?_
      refine then_n ?_
      exact ⟨hF.weak [0, 1] (by kernel_rfl), hS, hm⟩

noncomputable def rf_MaterialOf_J3  (i1 sum3 : Int) (minor3 knights3 : Int) (light3 dark3 : Int) (dead3 : Bool) : Option (St (Int × Int × Int × Int × Int × Bool × Int) (Int × Int × Int × Int × Int × Bool)) :=
  some (.next (sum3, minor3, knights3, light3, dark3, dead3, (w64 (i1 + 1))))

noncomputable def rf_MaterialOf_J4  (sum1 minor1 : Int) (knights1 light1 dark1 : Int) (dead1 : Bool) (i1 r1 : Int) (r2 r3 : Int) (z1 : Bool) : Option (St (Int × Int × Int × Int × Int × Bool × Int) (Int × Int × Int × Int × Int × Bool)) :=
  if z1 then ((rf_MaterialOf_J3 i1) (w64 (sum1 + (w64 (r1 * (geti ([0, 1, 3, 3, 5, 9, 0] : List Int) r2))))) minor1 knights1 light1 dark1 false) else (if (r3 == 2) then ((rf_MaterialOf_J3 i1) (w64 (sum1 + (w64 (r1 * (geti ([0, 1, 3, 3, 5, 9, 0] : List Int) r2))))) (w64 (minor1 + 1)) (w64 (knights1 + 1)) light1 dark1 dead1) else (if (r3 == 3) then (if ((Int.tmod (w64 ((Int.tmod i1 8) + (w64 (Int.tdiv i1 8)))) 2) == 0) then ((rf_MaterialOf_J3 i1) (w64 (sum1 + (w64 (r1 * (geti ([0, 1, 3, 3, 5, 9, 0] : List Int) r2))))) (w64 (minor1 + 1)) knights1 light1 (w64 (dark1 + 1)) dead1) else ((rf_MaterialOf_J3 i1) (w64 (sum1 + (w64 (r1 * (geti ([0, 1, 3, 3, 5, 9, 0] : List Int) r2))))) (w64 (minor1 + 1)) knights1 (w64 (light1 + 1)) dark1 dead1)) else ((rf_MaterialOf_J3 i1) (w64 (sum1 + (w64 (r1 * (geti ([0, 1, 3, 3, 5, 9, 0] : List Int) r2))))) minor1 knights1 light1 dark1 dead1)))

noncomputable def rf_MaterialOf_J2  (p1 : List Int) (sum1 minor1 : Int) (knights1 light1 dark1 : Int) (dead1 : Bool) (i1 : Int) : Option (St (Int × Int × Int × Int × Int × Bool × Int) (Int × Int × Int × Int × Int × Bool)) :=
  asrt (0 ≤ i1 ∧ i1 < (p1.length : Int)) <| (rf_signOf_m (geti p1 i1)).bind fun r1 => (rf_size_m (geti p1 i1)).bind fun r2 => asrt (0 ≤ r2 ∧ r2 < 7) <| (rf_size_m (geti p1 i1)).bind fun r3 => if (r3 == 1) then ((rf_MaterialOf_J4 sum1 minor1 knights1 light1 dark1 dead1 i1 r1 r2 r3) (r3 == 1)) else (if (r3 == 4) then ((rf_MaterialOf_J4 sum1 minor1 knights1 light1 dark1 dead1 i1 r1 r2 r3) (r3 == 4)) else ((rf_MaterialOf_J4 sum1 minor1 knights1 light1 dark1 dead1 i1 r1 r2 r3) (r3 == 5)))

noncomputable def rf_MaterialOf_J1  (sum2 minor2 : Int) (knights2 light2 dark2 : Int) (dead2 : Bool) : Option (Int × Bool) :=
  some (sum2, (dead2 && ((decide (minor2 ≤ 1)) || ((knights2 == 0) && ((light2 == 0) || (dark2 == 0))))))

noncomputable def rf_MaterialOf_K1  : (Int × Int × Int × Int × Int × Bool) → Option (Int × Bool) :=
  fun (x : (Int × Int × Int × Int × Int × Bool)) => match x with | (sum2, minor2, knights2, light2, dark2, dead2) => rf_MaterialOf_J1 sum2 minor2 knights2 light2 dark2 dead2

noncomputable def rf_MaterialOf_L1  (p1 : List Int) : (Int × Int × Int × Int × Int × Bool × Int) → Option (St (Int × Int × Int × Int × Int × Bool × Int) (Int × Int × Int × Int × Int × Bool)) :=
  fun (x : (Int × Int × Int × Int × Int × Bool × Int)) => match x with | (sum1, minor1, knights1, light1, dark1, dead1, i1) => if (decide (i1 < 64)) then ((rf_MaterialOf_J2 p1 sum1 minor1 knights1 light1 dark1 dead1 i1)) else (some (.done (sum1, minor1, knights1, light1, dark1, dead1)))

noncomputable def rf_MaterialOf_m  (p1 : List Int) (p2 p3 : Int) (p4 p5 p6 : Int) : Option (Int × Bool) :=
  (loop (rf_MaterialOf_L1 p1) (0, 0, 0, 0, 0, true, 0)).bind rf_MaterialOf_K1

theorem rf_MaterialOf_w {A1 : Option Addr} {c1 n1 : Nat} {p1 : List Int} {p2 p3 : Int} {p4 p5 p6 : Int} {r : (Int × Bool)} {w0 w : World} {B : Nat} {fs : List HP} (hm : rf_MaterialOf_m p1 p2 p3 p4 p5 p6 = some r) (hS : Sep w0 B w (fs)) (hr_p1 : RdF w0 B fs A1 (vI p1)) (_hc_p1 : p1.length ≤ c1) (_hn_p1 : n1 = p1.length) :
    Calls Try.prog 141 #[.agg (ca A1 n1 c1 p2 p3 p4 p5 p6)] w fun e w' => e = .returned (.tuple #[vi r.1, .bool r.2]) ∧ Sep w0 B w' (fs) := by
  obtain ⟨i3, hi3, hz3, hs3, hb3⟩ := info_parts Info3
  obtain rfl := _hn_p1
  unfold rf_MaterialOf_m at hm
  replace hm := start_b hm
  refine enter (l := [.agg (ca A1 p1.length c1 p2 p3 p4 p5 p6)]) (n := 76) Try.func141 rfl rfl (by simp) (fun a hF => ?_)
  refine seqR ?_
  refine at_do (d := 1) (s := vS (Instr.box 75 (.agg (ca A1 p1.length c1 p2 p3 p4 p5 p6)))) (v := pa w.heap.size 0) (w' := w.alloc (.cells (ca A1 p1.length c1 p2 p3 p4 p5 p6) 75)) hF (by kernel_rfl) (by kernel_rfl) (by kernel_rfl) (fun a hF => ?_)
  have hS : Sep w0 B (w.alloc (.cells (ca A1 p1.length c1 p2 p3 p4 p5 p6) 75)) (blk w.heap.size 75 (ca A1 p1.length c1 p2 p3 p4 p5 p6) :: (fs)) := hS.box 75 (ca A1 p1.length c1 p2 p3 p4 p5 p6)
  generalize w.heap.size = g1 at hF hS
  generalize w.alloc (.cells (ca A1 p1.length c1 p2 p3 p4 p5 p6) 75) = w at hS ⊢
  refine at_run 2 [] [] [1] [pl 1 (pa g1 0)] hF hS (by kernel_rfl) (by kernel_rfl) obs_nil (fun a w hF hS => ?_)
  refine at_end [1] [pl 1 (pa g1 0)] hF rfl (by kernel_rfl) (fun hF => ?_)
  refine then_n ?_
  refine reg [] [] [1, 4, 5, 6, 7, 8] [pl 1 (pa g1 0), pl 4 (vi 0), pl 5 (vi 0), pl 6 (vi 0), pl 7 (vi 0), pl 8 (vi 0)] hF hS Fol (by kernel_rfl) (by kernel_rfl) (by kernel_rfl) obs_nil (fun a w hF hS => ?_)
  refine reg [] [] [1, 4, 5, 6, 7, 8, 9] [pl 1 (pa g1 0), pl 4 (vi 0), pl 5 (vi 0), pl 6 (vi 0), pl 7 (vi 0), pl 8 (vi 0), pl 9 (.bool true)] hF hS Fol (by kernel_rfl) (by kernel_rfl) (by kernel_rfl) obs_nil (fun a w hF hS => ?_)
  refine seq_cut (fun a w => ∃ (sum2 minor2 : Int) (knights2 light2 dark2 : Int) (dead2 : Bool), Fr 76 [pl 4 (vi sum2), pl 5 (vi minor2), pl 6 (vi knights2), pl 7 (vi light2), pl 8 (vi dark2), pl 9 (.bool dead2)] a ∧ Sep w0 B w (fs) ∧ (rf_MaterialOf_J1 sum2 minor2 knights2 light2 dark2 dead2).bind some = some r) ?_ ?_
  · rintro a w ⟨sum2, minor2, knights2, light2, dark2, dead2, hF, hS, hm⟩
    unfold rf_MaterialOf_J1 at hm
    refine reg [] [] [2, 3] [pl 2 (vi sum2), pl 3 (.bool (dead2 && ((decide (minor2 ≤ 1)) || ((knights2 == 0) && ((light2 == 0) || (dark2 == 0))))))] hF hS Fol (by kernel_rfl) (by kernel_rfl) (by kernel_rfl) obs_nil (fun a w hF hS => ?_)
    refine wpIn_ret ?_
    have hm : some (sum2, (dead2 && ((decide (minor2 ≤ 1)) || ((knights2 == 0) && ((light2 == 0) || (dark2 == 0)))))) = some r := hm
    obtain rfl := Option.some.inj hm
    exact retV (rs := [.tmp 2, .tmp 3]) (vs := [vi sum2, .bool (dead2 && ((decide (minor2 ≤ 1)) || ((knights2 == 0) && ((light2 == 0) || (dark2 == 0)))))]) hF rfl (rv_t (by kernel_rfl) <| rv_t (by kernel_rfl) <| rv_nil) rfl ⟨rfl, hS⟩
  · refine reg [] [] [1, 4, 5, 6, 7, 8, 9, 10] [pl 1 (pa g1 0), pl 4 (vi 0), pl 5 (vi 0), pl 6 (vi 0), pl 7 (vi 0), pl 8 (vi 0), pl 9 (.bool true), pl 10 (vi 0)] hF hS Fol (by kernel_rfl) (by kernel_rfl) (by kernel_rfl) obs_nil (fun a w hF hS => ?_)
    refine wpIn_block ?_
    refine wp_loop_model (S := (Int × Int × Int × Int × Int × Bool × Int)) (R := (Int × Int × Int × Int × Int × Bool)) (rf_MaterialOf_L1 p1) (fun x => (rf_MaterialOf_K1 x).bind some) r (fun (x : (Int × Int × Int × Int × Int × Bool × Int)) a w => Fr 76 [pl 1 (pa g1 0), pl 4 (vi x.1), pl 5 (vi x.2.1), pl 6 (vi x.2.2.1), pl 7 (vi x.2.2.2.1), pl 8 (vi x.2.2.2.2.1), pl 9 (.bool x.2.2.2.2.2.1), pl 10 (vi x.2.2.2.2.2.2)] a ∧ Sep w0 B w (blk g1 75 (ca A1 p1.length c1 p2 p3 p4 p5 p6) :: fs)) (assoc_b hm) ⟨hF.weak [1, 4, 5, 6, 7, 8, 9, 10] (by kernel_rfl), hS⟩ ?_
    clear hF hS hm
    rintro nn1 ⟨sum1, minor1, knights1, light1, dark1, dead1, i1⟩ a w ⟨hF, hS⟩ hm
    generalize hφ1 : stK (rf_MaterialOf_L1 p1) nn1 (fun x => (rf_MaterialOf_K1 x).bind some) = φ1 at hm
    unfold rf_MaterialOf_L1 at hm
    dsimp only at hF hS hm
    refine seq_cut (fun a w => Fr 76 [pl 1 (pa g1 0), pl 4 (vi sum1), pl 5 (vi minor1), pl 6 (vi knights1), pl 7 (vi light1), pl 8 (vi dark1), pl 9 (.bool dead1), pl 10 (vi i1)] a ∧ Sep w0 B w (blk g1 75 (ca A1 p1.length c1 p2 p3 p4 p5 p6) :: fs) ∧ ((rf_MaterialOf_J2 p1 sum1 minor1 knights1 light1 dark1 dead1 i1)).bind φ1 = some r) ?_ ?_
    · rintro a w ⟨hF, hS, hm⟩
      unfold rf_MaterialOf_J2 at hm
      refine seq_cut (fun a w => ∃ (sum3 minor3 : Int) (knights3 light3 dark3 : Int) (dead3 : Bool), Fr 76 [pl 1 (pa g1 0), pl 4 (vi sum3), pl 5 (vi minor3), pl 6 (vi knights3), pl 7 (vi light3), pl 8 (vi dark3), pl 9 (.bool dead3), pl 10 (vi i1)] a ∧ Sep w0 B w (blk g1 75 (ca A1 p1.length c1 p2 p3 p4 p5 p6) :: fs) ∧ ((rf_MaterialOf_J3 i1) sum3 minor3 knights3 light3 dark3 dead3).bind φ1 = some r) ?_ ?_
      · rintro a w ⟨sum3, minor3, knights3, light3, dark3, dead3, hF, hS, hm⟩
        unfold rf_MaterialOf_J3 at hm
        refine reg1 [] [] [1, 4, 5, 6, 7, 8, 9, 10] [pl 1 (pa g1 0), pl 4 (vi sum3), pl 5 (vi minor3), pl 6 (vi knights3), pl 7 (vi light3), pl 8 (vi dark3), pl 9 (.bool dead3), pl 10 (vi (w64 (i1 + 1)))] hF hS Fol (by kernel_rfl) (by kernel_rfl) (by kernel_rfl) obs_nil (fun a w hF hS => ?_)
        refine then_n ?_
        rw [← hφ1] at hm
        exact ⟨(sum3, minor3, knights3, light3, dark3, dead3, (w64 (i1 + 1))), ⟨hF.weak [1, 4, 5, 6, 7, 8, 9, 10] (by kernel_rfl), hS⟩, hm⟩
      · refine wpIn_block ?_
        obtain ⟨hp1, hm⟩ := asrt_b hm
        refine reg [⟨false, [], vS (Instr.loadAt 27 (pa g1 0)), .slice A1 p1.length c1⟩, ⟨true, [], vS (Instr.indexAt 27 (.slice A1 p1.length c1) (vi i1)), .pointer (some (sAddr A1 i1))⟩, ⟨false, [], vS (Instr.loadAt 3 (.pointer (some (sAddr A1 i1)))), vi (geti p1 i1)⟩] [none, some (.slice A1 p1.length c1), none, some (.pointer (some (sAddr A1 i1))), some (vi (geti p1 i1)), none] [1, 4, 5, 6, 7, 8, 9, 10, 11] [pl 1 (pa g1 0), pl 4 (vi sum1), pl 5 (vi minor1), pl 6 (vi knights1), pl 7 (vi light1), pl 8 (vi dark1), pl 9 (.bool dead1), pl 10 (vi i1), pl 11 (vi (geti p1 i1))] hF hS Fol (by kernel_rfl) (by kernel_rfl) (by kernel_rfl) ?_ (fun a w hF hS => ?_)
        · exact obs_cons (ob_load Agg27 (fun _ _ hS => (hS.at_ 0 rfl).cell rfl)) <| obs_cons (ob_ix1 (f := (Value.int .i64)) (m := p1) Und27 hi3 hs3 (hr_p1 _ (hS.dropN 1)) rfl (fun _ => hp1)) <| obs_cons (ob_get1 (n := p1.length) (m := p1) (Value.int .i64) (0 : Int) Agg3 (fun _ hS => ⟨_, (hr_p1 _ (hS.dropN 1))⟩) (fun _ hS => rfl) (fun _ => hp1)) <| obs_nil
        refine seqR ?_
        obtain ⟨r1, hr1, hm⟩ := call_b hm
        obtain ⟨r2, hr2, hm⟩ := call_b hm
        obtain ⟨hp2, hm⟩ := asrt_b hm
        refine at_run 3 [⟨false, [], callFunc 208 #[vi (geti p1 i1)], vi r1⟩] [none, none, some (vi r1)] [1, 5, 6, 7, 8, 9, 10, 11, 21, 23] [pl 1 (pa g1 0), pl 5 (vi minor1), pl 6 (vi knights1), pl 7 (vi light1), pl 8 (vi dark1), pl 9 (.bool dead1), pl 10 (vi i1), pl 11 (vi (geti p1 i1)), pl 21 (vi sum1), pl 23 (vi r1)] hF hS (by kernel_rfl) (by kernel_rfl) ?_ (fun a w hF hS => ?_)
        · exact obs_cons (ob_call Try.func208 (by kernel_rfl) rfl (fun _ _ hS => rf_signOf_w hr1 hS )) <| obs_nil
        refine at_do (d := 24) (s := vS (Instr.buildSlice 27 7 #[(0, vi 0), (1, vi 1), (2, vi 3), (3, vi 3), (4, vi 5), (5, vi 9), (6, vi 0)])) (v := .slice (some ⟨w.heap.size, 0, none⟩) 7 7) (w' := w.alloc (.cells #[vi 0, vi 1, vi 3, vi 3, vi 5, vi 9, vi 0] 3)) hF (by kernel_rfl) (by kernel_rfl) (by kernel_rfl) (fun a hF => ?_)
        have hS : Sep w0 B (w.alloc (.cells #[vi 0, vi 1, vi 3, vi 3, vi 5, vi 9, vi 0] 3)) (own 3 (.slice (some (⟨w.heap.size, 0, none⟩ : Addr)) 7 7) (vI ([0, 1, 3, 3, 5, 9, 0] : List Int)) :: (blk g1 75 (ca A1 p1.length c1 p2 p3 p4 p5 p6) :: fs)) := hS.lit 3 #[vi 0, vi 1, vi 3, vi 3, vi 5, vi 9, vi 0] 7 rfl (by omega)
        generalize (some (⟨w.heap.size, 0, none⟩ : Addr)) = g2 at hF hS
        generalize w.alloc (.cells #[vi 0, vi 1, vi 3, vi 3, vi 5, vi 9, vi 0] 3) = w at hS ⊢
        refine at_run 7 [⟨false, [], callFunc 129 #[vi (geti p1 i1)], vi r2⟩, ⟨true, [], vS (Instr.indexAt 27 (.slice g2 7 7) (vi r2)), .pointer (some (sAddr g2 r2))⟩, ⟨false, [], vS (Instr.loadAt 3 (.pointer (some (sAddr g2 r2)))), vi (geti ([0, 1, 3, 3, 5, 9, 0] : List Int) r2)⟩] [none, some (vi r2), some (.pointer (some (sAddr g2 r2))), some (vi (geti ([0, 1, 3, 3, 5, 9, 0] : List Int) r2)), none, none, none] [1, 4, 5, 6, 7, 8, 9, 10, 11] [pl 1 (pa g1 0), pl 4 (vi (w64 (sum1 + (w64 (r1 * (geti ([0, 1, 3, 3, 5, 9, 0] : List Int) r2)))))), pl 5 (vi minor1), pl 6 (vi knights1), pl 7 (vi light1), pl 8 (vi dark1), pl 9 (.bool dead1), pl 10 (vi i1), pl 11 (vi (geti p1 i1))] hF hS (by kernel_rfl) (by kernel_rfl) ?_ (fun a w hF hS => ?_)
        · exact obs_cons (ob_call Try.func129 (by kernel_rfl) rfl (fun _ _ hS => rf_size_w hr2 hS )) <| obs_cons (ob_ix1 (f := (Value.int .i64)) (m := ([0, 1, 3, 3, 5, 9, 0] : List Int)) Und27 hi3 hs3 (hS.at_ 0 rfl).rd ((hS.at_ 0 rfl).len1) (fun _ => hp2)) <| obs_cons (ob_get1 (n := 7) (m := ([0, 1, 3, 3, 5, 9, 0] : List Int)) (Value.int .i64) (0 : Int) Agg3 (fun _ hS => ⟨_, (hS.at_ 0 rfl).rd⟩) (fun _ hS => ((hS.at_ 0 rfl).len1)) (fun _ => hp2)) <| obs_nil
        refine at_end [1, 4, 5, 6, 7, 8, 9, 10, 11] [pl 1 (pa g1 0), pl 4 (vi (w64 (sum1 + (w64 (r1 * (geti ([0, 1, 3, 3, 5, 9, 0] : List Int) r2)))))), pl 5 (vi minor1), pl 6 (vi knights1), pl 7 (vi light1), pl 8 (vi dark1), pl 9 (.bool dead1), pl 10 (vi i1), pl 11 (vi (geti p1 i1))] hF rfl (by kernel_rfl) (fun hF => ?_)
        refine then_n ?_
        obtain ⟨r3, hr3, hm⟩ := call_b hm
        refine reg [⟨false, [], callFunc 129 #[vi (geti p1 i1)], vi r3⟩] [none, some (vi r3)] [1, 4, 5, 6, 7, 8, 9, 10, 32] [pl 1 (pa g1 0), pl 4 (vi (w64 (sum1 + (w64 (r1 * (geti ([0, 1, 3, 3, 5, 9, 0] : List Int) r2)))))), pl 5 (vi minor1), pl 6 (vi knights1), pl 7 (vi light1), pl 8 (vi dark1), pl 9 (.bool dead1), pl 10 (vi i1), pl 32 (vi r3)] hF hS Fol (by kernel_rfl) (by kernel_rfl) (by kernel_rfl) ?_ (fun a w hF hS => ?_)
        · exact obs_cons (ob_call Try.func129 (by kernel_rfl) rfl (fun _ _ hS => rf_size_w hr3 hS )) <| obs_nil
        refine wpIn_block ?_
        refine seq_cut (fun a w => ∃ (z1 : Bool), Fr 76 [pl 1 (pa g1 0), pl 4 (vi (w64 (sum1 + (w64 (r1 * (geti ([0, 1, 3, 3, 5, 9, 0] : List Int) r2)))))), pl 5 (vi minor1), pl 6 (vi knights1), pl 7 (vi light1), pl 8 (vi dark1), pl 9 (.bool dead1), pl 10 (vi i1), pl 32 (vi r3), pl 33 (.bool z1)] a ∧ Sep w0 B w (blk g1 75 (ca A1 p1.length c1 p2 p3 p4 p5 p6) :: fs) ∧ ((rf_MaterialOf_J4 sum1 minor1 knights1 light1 dark1 dead1 i1 r1 r2 r3) z1).bind φ1 = some r) ?_ ?_
        · rintro a w ⟨z1, hF, hS, hm⟩
          unfold rf_MaterialOf_J4 at hm
          refine cond_ev (t := 33) (b := z1) hF (by kernel_rfl) (fun hb => ?_) (fun hb => ?_)
          · replace hm := if_t hm hb
            refine reg1 [] [] [1, 4, 5, 6, 7, 8, 9, 10] [pl 1 (pa g1 0), pl 4 (vi (w64 (sum1 + (w64 (r1 * (geti ([0, 1, 3, 3, 5, 9, 0] : List Int) r2)))))), pl 5 (vi minor1), pl 6 (vi knights1), pl 7 (vi light1), pl 8 (vi dark1), pl 9 (.bool false), pl 10 (vi i1)] hF hS Fol (by kernel_rfl) (by kernel_rfl) (by kernel_rfl) obs_nil (fun a w hF hS => ?_)
            refine block_n ?_
            refine block_n ?_
            refine then_n ?_
            exact ⟨(w64 (sum1 + (w64 (r1 * (geti ([0, 1, 3, 3, 5, 9, 0] : List Int) r2))))), minor1, knights1, light1, dark1, false, hF.weak [1, 4, 5, 6, 7, 8, 9, 10] (by kernel_rfl), hS, hm⟩
          · replace hm := if_f hm hb
            refine reg [] [] [1, 4, 5, 6, 7, 8, 9, 10, 32, 37] [pl 1 (pa g1 0), pl 4 (vi (w64 (sum1 + (w64 (r1 * (geti ([0, 1, 3, 3, 5, 9, 0] : List Int) r2)))))), pl 5 (vi minor1), pl 6 (vi knights1), pl 7 (vi light1), pl 8 (vi dark1), pl 9 (.bool dead1), pl 10 (vi i1), pl 32 (vi r3), pl 37 (.bool (r3 == 2))] hF hS Fol (by kernel_rfl) (by kernel_rfl) (by kernel_rfl) obs_nil (fun a w hF hS => ?_)
            refine cond_ev (t := 37) (b := (r3 == 2)) hF (by kernel_rfl) (fun hb => ?_) (fun hb => ?_)
            · replace hm := if_t hm hb
              refine reg [] [] [1, 4, 5, 6, 7, 8, 9, 10] [pl 1 (pa g1 0), pl 4 (vi (w64 (sum1 + (w64 (r1 * (geti ([0, 1, 3, 3, 5, 9, 0] : List Int) r2)))))), pl 5 (vi minor1), pl 6 (vi (w64 (knights1 + 1))), pl 7 (vi light1), pl 8 (vi dark1), pl 9 (.bool dead1), pl 10 (vi i1)] hF hS Fol (by kernel_rfl) (by kernel_rfl) (by kernel_rfl) obs_nil (fun a w hF hS => ?_)
              refine reg1 [] [] [1, 4, 5, 6, 7, 8, 9, 10] [pl 1 (pa g1 0), pl 4 (vi (w64 (sum1 + (w64 (r1 * (geti ([0, 1, 3, 3, 5, 9, 0] : List Int) r2)))))), pl 5 (vi (w64 (minor1 + 1))), pl 6 (vi (w64 (knights1 + 1))), pl 7 (vi light1), pl 8 (vi dark1), pl 9 (.bool dead1), pl 10 (vi i1)] hF hS Fol (by kernel_rfl) (by kernel_rfl) (by kernel_rfl) obs_nil (fun a w hF hS => ?_)
              refine block_n ?_
              refine block_n ?_
              refine then_n ?_
              exact ⟨(w64 (sum1 + (w64 (r1 * (geti ([0, 1, 3, 3, 5, 9, 0] : List Int) r2))))), (w64 (minor1 + 1)), (w64 (knights1 + 1)), light1, dark1, dead1, hF.weak [1, 4, 5, 6, 7, 8, 9, 10] (by kernel_rfl), hS, hm⟩
            · replace hm := if_f hm hb
              refine reg [] [] [1, 4, 5, 6, 7, 8, 9, 10, 43] [pl 1 (pa g1 0), pl 4 (vi (w64 (sum1 + (w64 (r1 * (geti ([0, 1, 3, 3, 5, 9, 0] : List Int) r2)))))), pl 5 (vi minor1), pl 6 (vi knights1), pl 7 (vi light1), pl 8 (vi dark1), pl 9 (.bool dead1), pl 10 (vi i1), pl 43 (.bool (r3 == 3))] hF hS Fol (by kernel_rfl) (by kernel_rfl) (by kernel_rfl) obs_nil (fun a w hF hS => ?_)
              refine cond_ev (t := 43) (b := (r3 == 3)) hF (by kernel_rfl) (fun hb => ?_) (fun hb => ?_)
              · replace hm := if_t hm hb
                refine reg [] [] [1, 4, 5, 6, 7, 8, 9, 10] [pl 1 (pa g1 0), pl 4 (vi (w64 (sum1 + (w64 (r1 * (geti ([0, 1, 3, 3, 5, 9, 0] : List Int) r2)))))), pl 5 (vi (w64 (minor1 + 1))), pl 6 (vi knights1), pl 7 (vi light1), pl 8 (vi dark1), pl 9 (.bool dead1), pl 10 (vi i1)] hF hS Fol (by kernel_rfl) (by kernel_rfl) (by kernel_rfl) obs_nil (fun a w hF hS => ?_)
                refine reg [] [] [1, 4, 5, 6, 7, 8, 9, 10, 53] [pl 1 (pa g1 0), pl 4 (vi (w64 (sum1 + (w64 (r1 * (geti ([0, 1, 3, 3, 5, 9, 0] : List Int) r2)))))), pl 5 (vi (w64 (minor1 + 1))), pl 6 (vi knights1), pl 7 (vi light1), pl 8 (vi dark1), pl 9 (.bool dead1), pl 10 (vi i1), pl 53 (.bool ((Int.tmod (w64 ((Int.tmod i1 8) + (w64 (Int.tdiv i1 8)))) 2) == 0))] hF hS Fol (by kernel_rfl) (by kernel_rfl) (by kernel_rfl) obs_nil (fun a w hF hS => ?_)
                refine cond_ev (t := 53) (b := ((Int.tmod (w64 ((Int.tmod i1 8) + (w64 (Int.tdiv i1 8)))) 2) == 0)) hF (by kernel_rfl) (fun hb => ?_) (fun hb => ?_)
                · replace hm := if_t hm hb
                  refine reg1 [] [] [1, 4, 5, 6, 7, 8, 9, 10] [pl 1 (pa g1 0), pl 4 (vi (w64 (sum1 + (w64 (r1 * (geti ([0, 1, 3, 3, 5, 9, 0] : List Int) r2)))))), pl 5 (vi (w64 (minor1 + 1))), pl 6 (vi knights1), pl 7 (vi light1), pl 8 (vi (w64 (dark1 + 1))), pl 9 (.bool dead1), pl 10 (vi i1)] hF hS Fol (by kernel_rfl) (by kernel_rfl) (by kernel_rfl) obs_nil (fun a w hF hS => ?_)
                  refine block_n ?_
                  refine block_n ?_
                  refine then_n ?_
                  exact ⟨(w64 (sum1 + (w64 (r1 * (geti ([0, 1, 3, 3, 5, 9, 0] : List Int) r2))))), (w64 (minor1 + 1)), knights1, light1, (w64 (dark1 + 1)), dead1, hF.weak [1, 4, 5, 6, 7, 8, 9, 10] (by kernel_rfl), hS, hm⟩
                · replace hm := if_f hm hb
                  refine reg1 [] [] [1, 4, 5, 6, 7, 8, 9, 10] [pl 1 (pa g1 0), pl 4 (vi (w64 (sum1 + (w64 (r1 * (geti ([0, 1, 3, 3, 5, 9, 0] : List Int) r2)))))), pl 5 (vi (w64 (minor1 + 1))), pl 6 (vi knights1), pl 7 (vi (w64 (light1 + 1))), pl 8 (vi dark1), pl 9 (.bool dead1), pl 10 (vi i1)] hF hS Fol (by kernel_rfl) (by kernel_rfl) (by kernel_rfl) obs_nil (fun a w hF hS => ?_)
                  refine block_n ?_
                  refine block_n ?_
                  refine then_n ?_
                  exact ⟨(w64 (sum1 + (w64 (r1 * (geti ([0, 1, 3, 3, 5, 9, 0] : List Int) r2))))), (w64 (minor1 + 1)), knights1, (w64 (light1 + 1)), dark1, dead1, hF.weak [1, 4, 5, 6, 7, 8, 9, 10] (by kernel_rfl), hS, hm⟩
              · replace hm := if_f hm hb
                refine wpIn_skip ?_
                refine block_n ?_
                refine block_n ?_
                refine then_n ?_
                exact ⟨(w64 (sum1 + (w64 (r1 * (geti ([0, 1, 3, 3, 5, 9, 0] : List Int) r2))))), minor1, knights1, light1, dark1, dead1, hF.weak [1, 4, 5, 6, 7, 8, 9, 10] (by kernel_rfl), hS, hm⟩
        · refine reg [] [] [1, 4, 5, 6, 7, 8, 9, 10, 32, 33] [pl 1 (pa g1 0), pl 4 (vi (w64 (sum1 + (w64 (r1 * (geti ([0, 1, 3, 3, 5, 9, 0] : List Int) r2)))))), pl 5 (vi minor1), pl 6 (vi knights1), pl 7 (vi light1), pl 8 (vi dark1), pl 9 (.bool dead1), pl 10 (vi i1), pl 32 (vi r3), pl 33 (.bool (r3 == 1))] hF hS Fol (by kernel_rfl) (by kernel_rfl) (by kernel_rfl) obs_nil (fun a w hF hS => ?_)
          refine cond_ev (t := 33) (b := (r3 == 1)) hF (by kernel_rfl) (fun hb => ?_) (fun hb => ?_)
          · replace hm := if_t hm hb
            refine wpIn_skip ?_
            refine then_n ?_
            have hS := hS.pickN 2 [1] (by decide)
            exact ⟨(r3 == 1), hF.weak [1, 4, 5, 6, 7, 8, 9, 10, 32, 33] (by kernel_rfl), hS, hm⟩
          · replace hm := if_f hm hb
            refine reg [] [] [1, 4, 5, 6, 7, 8, 9, 10, 32, 33] [pl 1 (pa g1 0), pl 4 (vi (w64 (sum1 + (w64 (r1 * (geti ([0, 1, 3, 3, 5, 9, 0] : List Int) r2)))))), pl 5 (vi minor1), pl 6 (vi knights1), pl 7 (vi light1), pl 8 (vi dark1), pl 9 (.bool dead1), pl 10 (vi i1), pl 32 (vi r3), pl 33 (.bool (r3 == 4))] hF hS Fol (by kernel_rfl) (by kernel_rfl) (by kernel_rfl) obs_nil (fun a w hF hS => ?_)
            refine cond_ev (t := 33) (b := (r3 == 4)) hF (by kernel_rfl) (fun hb => ?_) (fun hb => ?_)
            · replace hm := if_t hm hb
              refine wpIn_skip ?_
              refine then_n ?_
              have hS := hS.pickN 2 [1] (by decide)
              exact ⟨(r3 == 4), hF.weak [1, 4, 5, 6, 7, 8, 9, 10, 32, 33] (by kernel_rfl), hS, hm⟩
            · replace hm := if_f hm hb
              refine reg1 [] [] [1, 4, 5, 6, 7, 8, 9, 10, 32, 33] [pl 1 (pa g1 0), pl 4 (vi (w64 (sum1 + (w64 (r1 * (geti ([0, 1, 3, 3, 5, 9, 0] : List Int) r2)))))), pl 5 (vi minor1), pl 6 (vi knights1), pl 7 (vi light1), pl 8 (vi dark1), pl 9 (.bool dead1), pl 10 (vi i1), pl 32 (vi r3), pl 33 (.bool (r3 == 5))] hF hS Fol (by kernel_rfl) (by kernel_rfl) (by kernel_rfl) obs_nil (fun a w hF hS => ?_)
              refine then_n ?_
              have hS := hS.pickN 2 [1] (by decide)
              exact ⟨(r3 == 5), hF.weak [1, 4, 5, 6, 7, 8, 9, 10, 32, 33] (by kernel_rfl), hS, hm⟩
    · refine reg [] [] [1, 4, 5, 6, 7, 8, 9, 10, 13] [pl 1 (pa g1 0), pl 4 (vi sum1), pl 5 (vi minor1), pl 6 (vi knights1), pl 7 (vi light1), pl 8 (vi dark1), pl 9 (.bool dead1), pl 10 (vi i1), pl 13 (.bool (decide (i1 < 64)))] hF hS Fol (by kernel_rfl) (by kernel_rfl) (by kernel_rfl) obs_nil (fun a w hF hS => ?_)
      refine cond_ev (t := 13) (b := decide (i1 < 64)) hF (by kernel_rfl) (fun hb => ?_) (fun hb => ?_)
      · replace hm := if_t hm hb
        refine wpIn_skip ?_
        refine then_n ?_
        exact ⟨hF.weak [1, 4, 5, 6, 7, 8, 9, 10] (by kernel_rfl), hS, hm⟩
      · replace hm := if_f hm hb
        refine wpIn_exit ?_
        refine then_e (then_e (block_e (then_n ?_)))
        have hS := hS.pickN 1 [] (by decide)
        rw [← hφ1] at hm
        replace hm := done_b hm
        unfold rf_MaterialOf_K1 at hm
        try dsimp only at hm
        have hm : (rf_MaterialOf_J1 sum1 minor1 knights1 light1 dark1 dead1).bind some = some r := hm
        exact ⟨sum1, minor1, knights1, light1, dark1, dead1, hF.weak [4, 5, 6, 7, 8, 9] (by kernel_rfl), hS, hm⟩

noncomputable def rf_ResultOf_J2  : Option Int :=
  some 2

noncomputable def rf_ResultOf_J4  : Option Int :=
  some 0

noncomputable def rf_ResultOf_J3  (p5 : Int) : Option Int :=
  if (decide ((100 : Int) ≤ p5)) then (some 4) else (rf_ResultOf_J4)

noncomputable def rf_ResultOf_J1  (p1 : List Int) (p2 p3 : Int) (p4 p5 p6 : Int) : Option Int :=
  (rf_MaterialOf_m p1 p2 p3 p4 p5 p6).bind fun r3 => if r3.2 then (some 3) else ((rf_ResultOf_J3 p5))

noncomputable def rf_ResultOf_m  (p1 : List Int) (p2 p3 : Int) (p4 p5 p6 : Int) : Option Int :=
  (rf_MovesAll_m p1 p2 p3 p4 p5 p6).bind fun r1 => if ((r1.length : Int) == 0) then ((rf_InCheck_m p1 p2).bind fun r2 => if r2 then (some 1) else (rf_ResultOf_J2)) else ((rf_ResultOf_J1 p1 p2 p3 p4 p5 p6))

theorem rf_ResultOf_w {A1 : Option Addr} {c1 n1 : Nat} {p1 : List Int} {p2 p3 : Int} {p4 p5 : Int} {p6 r : Int} {w0 w : World} {B : Nat} {fs : List HP} (hm : rf_ResultOf_m p1 p2 p3 p4 p5 p6 = some r) (hS : Sep w0 B w (fs)) (hr_p1 : RdF w0 B fs A1 (vI p1)) (_hc_p1 : p1.length ≤ c1) (_hn_p1 : n1 = p1.length) :
    Calls Try.prog 60 #[.agg (ca A1 n1 c1 p2 p3 p4 p5 p6)] w fun e w' => e = .returned (vi r) ∧ Sep w0 B w' (fs) := by
  obtain ⟨i3, hi3, hz3, hs3, hb3⟩ := info_parts Info3
  obtain rfl := _hn_p1
  unfold rf_ResultOf_m at hm
  replace hm := start_b hm
  refine enter (l := [.agg (ca A1 p1.length c1 p2 p3 p4 p5 p6)]) (n := 23) Try.func60 rfl rfl (by simp) (fun a hF => ?_)
  refine seqR ?_
  refine at_do (d := 1) (s := vS (Instr.box 75 (.agg (ca A1 p1.length c1 p2 p3 p4 p5 p6)))) (v := pa w.heap.size 0) (w' := w.alloc (.cells (ca A1 p1.length c1 p2 p3 p4 p5 p6) 75)) hF (by kernel_rfl) (by kernel_rfl) (by kernel_rfl) (fun a hF => ?_)
  have hS : Sep w0 B (w.alloc (.cells (ca A1 p1.length c1 p2 p3 p4 p5 p6) 75)) (blk w.heap.size 75 (ca A1 p1.length c1 p2 p3 p4 p5 p6) :: (fs)) := hS.box 75 (ca A1 p1.length c1 p2 p3 p4 p5 p6)
  generalize w.heap.size = g1 at hF hS
  generalize w.alloc (.cells (ca A1 p1.length c1 p2 p3 p4 p5 p6) 75) = w at hS ⊢
  refine at_run 1 [] [] [1] [pl 1 (pa g1 0)] hF hS (by kernel_rfl) (by kernel_rfl) obs_nil (fun a w hF hS => ?_)
  refine at_end [1] [pl 1 (pa g1 0)] hF rfl (by kernel_rfl) (fun hF => ?_)
  refine then_n ?_
  refine seq_cut (fun a w => Fr 23 [pl 1 (pa g1 0)] a ∧ Sep w0 B w (blk g1 75 (ca A1 p1.length c1 p2 p3 p4 p5 p6) :: fs) ∧ ((rf_ResultOf_J1 p1 p2 p3 p4 p5 p6)).bind some = some r) ?_ ?_
  · rintro a w ⟨hF, hS, hm⟩
    unfold rf_ResultOf_J1 at hm
    obtain ⟨r3, hr3, hm⟩ := call_b hm
    refine reg [⟨false, [], vS (Instr.loadAt 75 (pa g1 0)), .agg (ca A1 p1.length c1 p2 p3 p4 p5 p6)⟩, ⟨false, [], callFunc 141 #[.agg (ca A1 p1.length c1 p2 p3 p4 p5 p6)], .tuple #[vi r3.1, .bool r3.2]⟩] [some (.agg (ca A1 p1.length c1 p2 p3 p4 p5 p6)), some (.tuple #[vi r3.1, .bool r3.2]), none, none, none, none, none] [1, 4] [pl 1 (pa g1 0), pl 4 (.bool r3.2)] hF hS Fol (by kernel_rfl) (by kernel_rfl) (by kernel_rfl) ?_ (fun a w hF hS => ?_)
    · exact obs_cons (ob_loadA (cs := (ca A1 p1.length c1 p2 p3 p4 p5 p6)) (by kernel_rfl) (by kernel_rfl) (fun _ _ hS => (hS.at_ 0 rfl).cellsAt 0 (by rfl))) <| obs_cons (ob_call Try.func141 (by kernel_rfl) rfl (fun _ _ hS => rf_MaterialOf_w hr3 hS (fun _ hS => (hr_p1 _ (hS.dropN 1))) _hc_p1 rfl)) <| obs_nil
    refine seq_cut (fun a w => Fr 23 [pl 1 (pa g1 0)] a ∧ Sep w0 B w (blk g1 75 (ca A1 p1.length c1 p2 p3 p4 p5 p6) :: fs) ∧ ((rf_ResultOf_J3 p5)).bind some = some r) ?_ ?_
    · rintro a w ⟨hF, hS, hm⟩
      unfold rf_ResultOf_J3 at hm
      refine seq_cut (fun a w => Fr 23 [] a ∧ Sep w0 B w (fs) ∧ (rf_ResultOf_J4).bind some = some r) ?_ ?_
      · rintro a w ⟨hF, hS, hm⟩
        unfold rf_ResultOf_J4 at hm
        refine reg [] [] [2] [pl 2 (vi 0)] hF hS Fol (by kernel_rfl) (by kernel_rfl) (by kernel_rfl) obs_nil (fun a w hF hS => ?_)
        refine wpIn_ret ?_
        have hm : some 0 = some r := hm
        obtain rfl := Option.some.inj hm
        exact retV (rs := [.tmp 2]) (vs := [vi 0]) hF rfl (rv_t (by kernel_rfl) <| rv_nil) rfl ⟨rfl, hS⟩
      · refine reg [⟨false, [], vS (Instr.loadAt 3 (pa g1 4)), vi p5⟩] [none, some (vi p5), none] [22] [pl 22 (.bool (decide ((100 : Int) ≤ p5)))] hF hS Fol (by kernel_rfl) (by kernel_rfl) (by kernel_rfl) ?_ (fun a w hF hS => ?_)
        · exact obs_cons (ob_load Agg3 (fun _ _ hS => (hS.at_ 0 rfl).cell rfl)) <| obs_nil
        refine cond_ev (t := 22) (b := decide ((100 : Int) ≤ p5)) hF (by kernel_rfl) (fun hb => ?_) (fun hb => ?_)
        · replace hm := if_t hm hb
          refine reg [] [] [2] [pl 2 (vi 4)] hF hS Fol (by kernel_rfl) (by kernel_rfl) (by kernel_rfl) obs_nil (fun a w hF hS => ?_)
          refine wpIn_ret ?_
          refine then_r ?_
          have hS := hS.pickN 1 [] (by decide)
          have hm : some 4 = some r := hm
          obtain rfl := Option.some.inj hm
          exact retV (rs := [.tmp 2]) (vs := [vi 4]) hF rfl (rv_t (by kernel_rfl) <| rv_nil) rfl ⟨rfl, hS⟩
        · replace hm := if_f hm hb
          refine wpIn_skip ?_
          refine then_n ?_
          have hS := hS.pickN 1 [] (by decide)
          exact ⟨hF.weak [] (by kernel_rfl), hS, hm⟩
    · refine reg [] [] [1, 19] [pl 1 (pa g1 0), pl 19 (.bool r3.2)] hF hS Fol (by kernel_rfl) (by kernel_rfl) (by kernel_rfl) obs_nil (fun a w hF hS => ?_)
      refine cond_ev (t := 19) (b := r3.2) hF (by kernel_rfl) (fun hb => ?_) (fun hb => ?_)
      · replace hm := if_t hm hb
        refine reg [] [] [2] [pl 2 (vi 3)] hF hS Fol (by kernel_rfl) (by kernel_rfl) (by kernel_rfl) obs_nil (fun a w hF hS => ?_)
        refine wpIn_ret ?_
        refine then_r ?_
        have hS := hS.pickN 1 [] (by decide)
        have hm : some 3 = some r := hm
        obtain rfl := Option.some.inj hm
        exact retV (rs := [.tmp 2]) (vs := [vi 3]) hF rfl (rv_t (by kernel_rfl) <| rv_nil) rfl ⟨rfl, hS⟩
      · replace hm := if_f hm hb
        refine wpIn_skip ?_
        refine then_n ?_
        exact ⟨hF.weak [1] (by kernel_rfl), hS, hm⟩
  · refine seqR ?_
    obtain ⟨r1, hr1, hm⟩ := call_b hm
    refine at_run 1 [⟨false, [], vS (Instr.loadAt 75 (pa g1 0)), .agg (ca A1 p1.length c1 p2 p3 p4 p5 p6)⟩] [some (.agg (ca A1 p1.length c1 p2 p3 p4 p5 p6))] [1, 5] [pl 1 (pa g1 0), pl 5 (.agg (ca A1 p1.length c1 p2 p3 p4 p5 p6))] hF hS (by kernel_rfl) (by kernel_rfl) ?_ (fun a w hF hS => ?_)
    · exact obs_cons (ob_loadA (cs := (ca A1 p1.length c1 p2 p3 p4 p5 p6)) (by kernel_rfl) (by kernel_rfl) (fun _ _ hS => (hS.at_ 0 rfl).cellsAt 0 (by rfl))) <| obs_nil
    refine at_call (f := 58) (args := #[.agg (ca A1 p1.length c1 p2 p3 p4 p5 p6)]) (d := 6) hF (by kernel_rfl) (by kernel_rfl) Try.func58 (by kernel_rfl) rfl (rf_MovesAll_w hr1 hS (fun _ hS => (hr_p1 _ (hS.dropN 1))) _hc_p1 rfl) (fun v a w hR hF => ?_)
    clear hS
    obtain ⟨A2, c2, rfl, hS⟩ := hR
    have hS : Sep w0 B w (ownK 88 3 A2 r1.length c2 (List.flatMap enc88 r1) :: blk g1 75 (ca A1 p1.length c1 p2 p3 p4 p5 p6) :: fs) := hS
    refine at_run 2 [] [] [1, 8] [pl 1 (pa g1 0), pl 8 (.bool ((r1.length : Int) == 0))] hF hS (by kernel_rfl) (by kernel_rfl) obs_nil (fun a w hF hS => ?_)
    refine at_end [1, 8] [pl 1 (pa g1 0), pl 8 (.bool ((r1.length : Int) == 0))] hF rfl (by kernel_rfl) (fun hF => ?_)
    refine then_n ?_
    refine cond_ev (t := 8) (b := ((r1.length : Int) == 0)) hF (by kernel_rfl) (fun hb => ?_) (fun hb => ?_)
    · replace hm := if_t hm hb
      refine seq_cut (fun a w => Fr 23 [] a ∧ Sep w0 B w (fs) ∧ (rf_ResultOf_J2).bind some = some r) ?_ ?_
      · rintro a w ⟨hF, hS, hm⟩
        unfold rf_ResultOf_J2 at hm
        refine reg [] [] [2] [pl 2 (vi 2)] hF hS Fol (by kernel_rfl) (by kernel_rfl) (by kernel_rfl) obs_nil (fun a w hF hS => ?_)
        refine wpIn_ret ?_
        refine then_r ?_
        have hm : some 2 = some r := hm
        obtain rfl := Option.some.inj hm
        exact retV (rs := [.tmp 2]) (vs := [vi 2]) hF rfl (rv_t (by kernel_rfl) <| rv_nil) rfl ⟨rfl, hS⟩
      · obtain ⟨r2, hr2, hm⟩ := call_b hm
        refine reg [⟨false, [], vS (Instr.loadAt 27 (pa g1 0)), .slice A1 p1.length c1⟩, ⟨false, [], vS (Instr.loadAt 3 (pa g1 1)), vi p2⟩, ⟨false, [], callFunc 130 #[.slice A1 p1.length c1, vi p2], .bool r2⟩] [none, some (.slice A1 p1.length c1), none, some (vi p2), some (.bool r2)] [13] [pl 13 (.bool r2)] hF hS Fol (by kernel_rfl) (by kernel_rfl) (by kernel_rfl) ?_ (fun a w hF hS => ?_)
        · exact obs_cons (ob_load Agg27 (fun _ _ hS => (hS.at_ 1 rfl).cell rfl)) <| obs_cons (ob_load Agg3 (fun _ _ hS => (hS.at_ 1 rfl).cell rfl)) <| obs_cons (ob_call Try.func130 (by kernel_rfl) rfl (fun _ _ hS => rf_InCheck_w hr2 hS (fun _ hS => (hr_p1 _ (hS.dropN 2))) _hc_p1 rfl)) <| obs_nil
        refine cond_ev (t := 13) (b := r2) hF (by kernel_rfl) (fun hb => ?_) (fun hb => ?_)
        · replace hm := if_t hm hb
          refine reg [] [] [2] [pl 2 (vi 1)] hF hS Fol (by kernel_rfl) (by kernel_rfl) (by kernel_rfl) obs_nil (fun a w hF hS => ?_)
          refine wpIn_ret ?_
          refine then_r (then_r ?_)
          have hS := hS.pickN 2 [] (by decide)
          have hm : some 1 = some r := hm
          obtain rfl := Option.some.inj hm
          exact retV (rs := [.tmp 2]) (vs := [vi 1]) hF rfl (rv_t (by kernel_rfl) <| rv_nil) rfl ⟨rfl, hS⟩
        · replace hm := if_f hm hb
          refine wpIn_skip ?_
          refine then_n ?_
          have hS := hS.pickN 2 [] (by decide)
          exact ⟨hF.weak [] (by kernel_rfl), hS, hm⟩
    · replace hm := if_f hm hb
      refine wpIn_skip ?_
      refine then_n ?_
      have hS := hS.pickN 2 [1] (by decide)
      exact ⟨hF.weak [1] (by kernel_rfl), hS, hm⟩

noncomputable def rf_MoveAt_J3  (i1 : Int) : Option (St Int (Fl Unit Int)) :=
  some (.next (w64 (i1 + 1)))

noncomputable def rf_MoveAt_J2  (l1 : List MvT) (m1 m2 : Int) (m3 i1 : Int) : Option (St Int (Fl Unit Int)) :=
  asrt (0 ≤ i1 ∧ i1 < (l1.length : Int)) <| if ((((getd ((0, 0, 0) : MvT) l1 i1).1) == m1) && ((((getd ((0, 0, 0) : MvT) l1 i1).2.1) == m2) && (((getd ((0, 0, 0) : MvT) l1 i1).2.2) == m3))) then (some (.done (.ret i1))) else ((rf_MoveAt_J3 i1))

noncomputable def rf_MoveAt_J1  : Option Int :=
  some (-1)

noncomputable def rf_MoveAt_K1  : (Fl Unit Int) → Option Int :=
  fun (x : (Fl Unit Int)) => match x with | .go _ => rf_MoveAt_J1 | .ret x => some x

noncomputable def rf_MoveAt_L1  (l1 : List MvT) (m1 m2 m3 : Int) : Int → Option (St Int (Fl Unit Int)) :=
  fun (x : Int) => match x with | i1 => if (decide (i1 < (l1.length : Int))) then ((rf_MoveAt_J2 l1 m1 m2 m3 i1)) else (some (.done (.go ())))

noncomputable def rf_MoveAt_m  (l1 : List MvT) (m1 m2 m3 : Int) : Option Int :=
  (loop (rf_MoveAt_L1 l1 m1 m2 m3) 0).bind rf_MoveAt_K1

theorem rf_MoveAt_w {A1 : Option Addr} {c1 n1 : Nat} {l1 : List MvT} {m1 m2 : Int} {m3 r : Int} {w0 w : World} {B : Nat} {fs : List HP} (hm : rf_MoveAt_m l1 m1 m2 m3 = some r) (hS : Sep w0 B w (fs)) (hr_l1 : RdF w0 B fs A1 ((List.flatMap enc88 l1))) (_hc_l1 : l1.length ≤ c1) (_hn_l1 : n1 = l1.length) :
    Calls Try.prog 61 #[.slice A1 n1 c1, .agg #[vi m1, vi m2, vi m3]] w fun e w' => e = .returned (vi r) ∧ Sep w0 B w' (fs) := by
  obtain ⟨i88, hi88, hz88, hs88, hb88⟩ := info_parts Info88
  obtain rfl := _hn_l1
  unfold rf_MoveAt_m at hm
  replace hm := start_b hm
  refine enter (l := [.slice A1 l1.length c1, .agg #[vi m1, vi m2, vi m3]]) (n := 19) Try.func61 rfl rfl (by simp) (fun a hF => ?_)
  refine seqR ?_
  refine at_do (d := 3) (s := vS (Instr.box 88 (.agg #[vi m1, vi m2, vi m3]))) (v := pa w.heap.size 0) (w' := w.alloc (.cells #[vi m1, vi m2, vi m3] 88)) hF (by kernel_rfl) (by kernel_rfl) (by kernel_rfl) (fun a hF => ?_)
  have hS : Sep w0 B (w.alloc (.cells #[vi m1, vi m2, vi m3] 88)) (blk w.heap.size 88 #[vi m1, vi m2, vi m3] :: (fs)) := hS.box 88 #[vi m1, vi m2, vi m3]
  generalize w.heap.size = g1 at hF hS
  generalize w.alloc (.cells #[vi m1, vi m2, vi m3] 88) = w at hS ⊢
  refine at_run 1 [] [] [0, 3] [pl 0 (.slice A1 l1.length c1), pl 3 (pa g1 0)] hF hS (by kernel_rfl) (by kernel_rfl) obs_nil (fun a w hF hS => ?_)
  refine at_end [0, 3] [pl 0 (.slice A1 l1.length c1), pl 3 (pa g1 0)] hF rfl (by kernel_rfl) (fun hF => ?_)
  refine then_n ?_
  refine seq_cut (fun a w => Fr 19 [] a ∧ Sep w0 B w (fs) ∧ (rf_MoveAt_J1).bind some = some r) ?_ ?_
  · rintro a w ⟨hF, hS, hm⟩
    unfold rf_MoveAt_J1 at hm
    refine reg [] [] [4] [pl 4 (vi (-1))] hF hS Fol (by kernel_rfl) (by kernel_rfl) (by kernel_rfl) obs_nil (fun a w hF hS => ?_)
    refine wpIn_ret ?_
    have hm : some (-1) = some r := hm
    obtain rfl := Option.some.inj hm
    exact retV (rs := [.tmp 4]) (vs := [vi (-1)]) hF rfl (rv_t (by kernel_rfl) <| rv_nil) rfl ⟨rfl, hS⟩
  · refine reg [] [] [0, 3, 5] [pl 0 (.slice A1 l1.length c1), pl 3 (pa g1 0), pl 5 (vi 0)] hF hS Fol (by kernel_rfl) (by kernel_rfl) (by kernel_rfl) obs_nil (fun a w hF hS => ?_)
    refine wpIn_block ?_
    refine wp_loop_model (S := Int) (R := (Fl Unit Int)) (rf_MoveAt_L1 l1 m1 m2 m3) (fun x => (rf_MoveAt_K1 x).bind some) r (fun (x : Int) a w => Fr 19 [pl 0 (.slice A1 l1.length c1), pl 3 (pa g1 0), pl 5 (vi x)] a ∧ Sep w0 B w (blk g1 88 #[vi m1, vi m2, vi m3] :: fs)) (assoc_b hm) ⟨hF.weak [0, 3, 5] (by kernel_rfl), hS⟩ ?_
    clear hF hS hm
    rintro nn1 i1 a w ⟨hF, hS⟩ hm
    generalize hφ1 : stK (rf_MoveAt_L1 l1 m1 m2 m3) nn1 (fun x => (rf_MoveAt_K1 x).bind some) = φ1 at hm
    unfold rf_MoveAt_L1 at hm
    dsimp only at hm
    refine seq_cut (fun a w => Fr 19 [pl 0 (.slice A1 l1.length c1), pl 3 (pa g1 0), pl 5 (vi i1)] a ∧ Sep w0 B w (blk g1 88 #[vi m1, vi m2, vi m3] :: fs) ∧ ((rf_MoveAt_J2 l1 m1 m2 m3 i1)).bind φ1 = some r) ?_ ?_
    · rintro a w ⟨hF, hS, hm⟩
      unfold rf_MoveAt_J2 at hm
      refine seq_cut (fun a w => Fr 19 [pl 0 (.slice A1 l1.length c1), pl 3 (pa g1 0), pl 5 (vi i1)] a ∧ Sep w0 B w (blk g1 88 #[vi m1, vi m2, vi m3] :: fs) ∧ ((rf_MoveAt_J3 i1)).bind φ1 = some r) ?_ ?_
      · rintro a w ⟨hF, hS, hm⟩
        unfold rf_MoveAt_J3 at hm
        refine reg1 [] [] [0, 3, 5] [pl 0 (.slice A1 l1.length c1), pl 3 (pa g1 0), pl 5 (vi (w64 (i1 + 1)))] hF hS Fol (by kernel_rfl) (by kernel_rfl) (by kernel_rfl) obs_nil (fun a w hF hS => ?_)
        refine then_n ?_
        rw [← hφ1] at hm
        exact ⟨(w64 (i1 + 1)), ⟨hF.weak [0, 3, 5] (by kernel_rfl), hS⟩, hm⟩
      · refine wpIn_block ?_
        obtain ⟨hp1, hm⟩ := asrt_b hm
        refine reg [⟨true, [], vS (Instr.indexAt 81 (.slice A1 l1.length c1) (vi i1)), .pointer (some (sAddrK A1 3 i1))⟩, ⟨false, [], vS (Instr.loadAt 88 (.pointer (some (sAddrK A1 3 i1)))), .agg #[vi ((getd ((0, 0, 0) : MvT) l1 i1).1), vi ((getd ((0, 0, 0) : MvT) l1 i1).2.1), vi ((getd ((0, 0, 0) : MvT) l1 i1).2.2)]⟩, ⟨false, [], vS (Instr.loadAt 88 (pa g1 0)), .agg #[vi m1, vi m2, vi m3]⟩, ⟨true, [], vS (do eqGuard .eql 88 (.tmp 15) (.tmp 16) (.agg #[vi ((getd ((0, 0, 0) : MvT) l1 i1).1), vi ((getd ((0, 0, 0) : MvT) l1 i1).2.1), vi ((getd ((0, 0, 0) : MvT) l1 i1).2.2)]) (.agg #[vi m1, vi m2, vi m3]); binOp .eql 88 (.agg #[vi ((getd ((0, 0, 0) : MvT) l1 i1).1), vi ((getd ((0, 0, 0) : MvT) l1 i1).2.1), vi ((getd ((0, 0, 0) : MvT) l1 i1).2.2)]) (.agg #[vi m1, vi m2, vi m3])), .bool (((((getd ((0, 0, 0) : MvT) l1 i1).1) == m1) && ((((getd ((0, 0, 0) : MvT) l1 i1).2.1) == m2) && (((getd ((0, 0, 0) : MvT) l1 i1).2.2) == m3))))⟩] [none, none, some (.pointer (some (sAddrK A1 3 i1))), some (.agg #[vi ((getd ((0, 0, 0) : MvT) l1 i1).1), vi ((getd ((0, 0, 0) : MvT) l1 i1).2.1), vi ((getd ((0, 0, 0) : MvT) l1 i1).2.2)]), some (.agg #[vi m1, vi m2, vi m3]), some (.bool (((((getd ((0, 0, 0) : MvT) l1 i1).1) == m1) && ((((getd ((0, 0, 0) : MvT) l1 i1).2.1) == m2) && (((getd ((0, 0, 0) : MvT) l1 i1).2.2) == m3)))))] [0, 3, 5, 17] [pl 0 (.slice A1 l1.length c1), pl 3 (pa g1 0), pl 5 (vi i1), pl 17 (.bool ((((getd ((0, 0, 0) : MvT) l1 i1).1) == m1) && ((((getd ((0, 0, 0) : MvT) l1 i1).2.1) == m2) && (((getd ((0, 0, 0) : MvT) l1 i1).2.2) == m3))))] hF hS Fol (by kernel_rfl) (by kernel_rfl) (by kernel_rfl) ?_ (fun a w hF hS => ?_)
        · exact obs_cons (ob_ixK (m := l1) encK88 Und81 hi88 hs88 (hr_l1 _ (hS.dropN 1)) rfl (fun _ => hp1)) <| obs_cons (ob_getK (n := l1.length) (m := l1) encK88 ((0, 0, 0) : MvT) (by kernel_rfl) (by kernel_rfl) (fun _ hS => ⟨_, (hr_l1 _ (hS.dropN 1))⟩) (fun _ hS => rfl) (fun _ => hp1)) <| obs_cons (ob_loadA (cs := #[vi m1, vi m2, vi m3]) (by kernel_rfl) (by kernel_rfl) (fun _ _ hS => (hS.at_ 0 rfl).cellsAt 0 (by rfl))) <| obs_cons (ob_eql rfl (by kernel_rfl) (fun w => Eql88 w)) <| obs_nil
        refine cond_ev (t := 17) (b := ((((getd ((0, 0, 0) : MvT) l1 i1).1) == m1) && ((((getd ((0, 0, 0) : MvT) l1 i1).2.1) == m2) && (((getd ((0, 0, 0) : MvT) l1 i1).2.2) == m3)))) hF (by kernel_rfl) (fun hb => ?_) (fun hb => ?_)
        · replace hm := if_t hm hb
          refine reg [] [] [4] [pl 4 (vi i1)] hF hS Fol (by kernel_rfl) (by kernel_rfl) (by kernel_rfl) obs_nil (fun a w hF hS => ?_)
          refine wpIn_ret ?_
          refine block_r (then_r (then_r (block_r (then_r ?_))))
          rw [← hφ1] at hm
          replace hm := done_b hm
          unfold rf_MoveAt_K1 at hm
          try dsimp only at hm
          have hS := hS.pickN 1 [] (by decide)
          have hm : some i1 = some r := hm
          obtain rfl := Option.some.inj hm
          exact retV (rs := [.tmp 4]) (vs := [vi i1]) hF rfl (rv_t (by kernel_rfl) <| rv_nil) rfl ⟨rfl, hS⟩
        · replace hm := if_f hm hb
          refine wpIn_skip ?_
          refine block_n ?_
          refine then_n ?_
          exact ⟨hF.weak [0, 3, 5] (by kernel_rfl), hS, hm⟩
    · refine reg [] [] [0, 3, 5, 9] [pl 0 (.slice A1 l1.length c1), pl 3 (pa g1 0), pl 5 (vi i1), pl 9 (.bool (decide (i1 < (l1.length : Int))))] hF hS Fol (by kernel_rfl) (by kernel_rfl) (by kernel_rfl) obs_nil (fun a w hF hS => ?_)
      refine cond_ev (t := 9) (b := decide (i1 < (l1.length : Int))) hF (by kernel_rfl) (fun hb => ?_) (fun hb => ?_)
      · replace hm := if_t hm hb
        refine wpIn_skip ?_
        refine then_n ?_
        exact ⟨hF.weak [0, 3, 5] (by kernel_rfl), hS, hm⟩
      · replace hm := if_f hm hb
        refine wpIn_exit ?_
        refine then_e (then_e (block_e (then_n ?_)))
        have hS := hS.pickN 1 [] (by decide)
        rw [← hφ1] at hm
        replace hm := done_b hm
        unfold rf_MoveAt_K1 at hm
        try dsimp only at hm
        have hm : (rf_MoveAt_J1).bind some = some r := hm
        exact ⟨hF.weak [] (by kernel_rfl), hS, hm⟩

noncomputable def rf_sameInts_J4  (i1 : Int) : Option (St Int (Fl Unit Bool)) :=
  some (.next (w64 (i1 + 1)))

noncomputable def rf_sameInts_J3  (a1 b1 : List Int) (i1 : Int) : Option (St Int (Fl Unit Bool)) :=
  asrt (0 ≤ i1 ∧ i1 < (a1.length : Int)) <| asrt (0 ≤ i1 ∧ i1 < (b1.length : Int)) <| if ((geti a1 i1) != (geti b1 i1)) then (some (.done (.ret false))) else ((rf_sameInts_J4 i1))

noncomputable def rf_sameInts_J2  : Option Bool :=
  some true

noncomputable def rf_sameInts_K1  : (Fl Unit Bool) → Option Bool :=
  fun (x : (Fl Unit Bool)) => match x with | .go _ => rf_sameInts_J2 | .ret x => some x

noncomputable def rf_sameInts_L1  (a1 b1 : List Int) : Int → Option (St Int (Fl Unit Bool)) :=
  fun (x : Int) => match x with | i1 => if (decide (i1 < (a1.length : Int))) then ((rf_sameInts_J3 a1 b1 i1)) else (some (.done (.go ())))

noncomputable def rf_sameInts_J1  (a1 b1 : List Int) : Option Bool :=
  (loop (rf_sameInts_L1 a1 b1) 0).bind rf_sameInts_K1

noncomputable def rf_sameInts_m  (a1 b1 : List Int) : Option Bool :=
  if ((a1.length : Int) != (b1.length : Int)) then (some false) else ((rf_sameInts_J1 a1 b1))

theorem rf_sameInts_w {A1 : Option Addr} {c1 n1 : Nat} {a1 : List Int} {A2 : Option Addr} {c2 n2 : Nat} {b1 : List Int} {r : Bool} {w0 w : World} {B : Nat} {fs : List HP} (hm : rf_sameInts_m a1 b1 = some r) (hS : Sep w0 B w (fs)) (hr_a1 : RdF w0 B fs A1 (vI a1)) (_hc_a1 : a1.length ≤ c1) (_hn_a1 : n1 = a1.length) (hr_b1 : RdF w0 B fs A2 (vI b1)) (_hc_b1 : b1.length ≤ c2) (_hn_b1 : n2 = b1.length) :
    Calls Try.prog 104 #[.slice A1 n1 c1, .slice A2 n2 c2] w fun e w' => e = .returned (.bool r) ∧ Sep w0 B w' (fs) := by
  obtain ⟨i3, hi3, hz3, hs3, hb3⟩ := info_parts Info3
  obtain rfl := _hn_a1
  obtain rfl := _hn_b1
  unfold rf_sameInts_m at hm
  replace hm := start_b hm
  refine enter (l := [.slice A1 a1.length c1, .slice A2 b1.length c2]) (n := 26) Try.func104 rfl rfl (by simp) (fun a hF => ?_)
  refine reg [] [] [0, 1] [pl 0 (.slice A1 a1.length c1), pl 1 (.slice A2 b1.length c2)] hF hS Fol (by kernel_rfl) (by kernel_rfl) (by kernel_rfl) obs_nil (fun a w hF hS => ?_)
  refine seq_cut (fun a w => Fr 26 [pl 0 (.slice A1 a1.length c1), pl 1 (.slice A2 b1.length c2)] a ∧ Sep w0 B w (fs) ∧ ((rf_sameInts_J1 a1 b1)).bind some = some r) ?_ ?_
  · rintro a w ⟨hF, hS, hm⟩
    unfold rf_sameInts_J1 at hm
    refine seq_cut (fun a w => Fr 26 [] a ∧ Sep w0 B w (fs) ∧ (rf_sameInts_J2).bind some = some r) ?_ ?_
    · rintro a w ⟨hF, hS, hm⟩
      unfold rf_sameInts_J2 at hm
      refine reg [] [] [4] [pl 4 (.bool true)] hF hS Fol (by kernel_rfl) (by kernel_rfl) (by kernel_rfl) obs_nil (fun a w hF hS => ?_)
      refine wpIn_ret ?_
      have hm : some true = some r := hm
      obtain rfl := Option.some.inj hm
      exact retV (rs := [.tmp 4]) (vs := [.bool true]) hF rfl (rv_t (by kernel_rfl) <| rv_nil) rfl ⟨rfl, hS⟩
    · refine reg [] [] [0, 1, 5] [pl 0 (.slice A1 a1.length c1), pl 1 (.slice A2 b1.length c2), pl 5 (vi 0)] hF hS Fol (by kernel_rfl) (by kernel_rfl) (by kernel_rfl) obs_nil (fun a w hF hS => ?_)
      refine wpIn_block ?_
      refine wp_loop_model (S := Int) (R := (Fl Unit Bool)) (rf_sameInts_L1 a1 b1) (fun x => (rf_sameInts_K1 x).bind some) r (fun (x : Int) a w => Fr 26 [pl 0 (.slice A1 a1.length c1), pl 1 (.slice A2 b1.length c2), pl 5 (vi x)] a ∧ Sep w0 B w (fs)) (assoc_b hm) ⟨hF.weak [0, 1, 5] (by kernel_rfl), hS⟩ ?_
      clear hF hS hm
      rintro nn1 i1 a w ⟨hF, hS⟩ hm
      generalize hφ1 : stK (rf_sameInts_L1 a1 b1) nn1 (fun x => (rf_sameInts_K1 x).bind some) = φ1 at hm
      unfold rf_sameInts_L1 at hm
      dsimp only at hm
      refine seq_cut (fun a w => Fr 26 [pl 0 (.slice A1 a1.length c1), pl 1 (.slice A2 b1.length c2), pl 5 (vi i1)] a ∧ Sep w0 B w (fs) ∧ ((rf_sameInts_J3 a1 b1 i1)).bind φ1 = some r) ?_ ?_
      · rintro a w ⟨hF, hS, hm⟩
        unfold rf_sameInts_J3 at hm
        refine seq_cut (fun a w => Fr 26 [pl 0 (.slice A1 a1.length c1), pl 1 (.slice A2 b1.length c2), pl 5 (vi i1)] a ∧ Sep w0 B w (fs) ∧ ((rf_sameInts_J4 i1)).bind φ1 = some r) ?_ ?_
        · rintro a w ⟨hF, hS, hm⟩
          unfold rf_sameInts_J4 at hm
          refine reg1 [] [] [0, 1, 5] [pl 0 (.slice A1 a1.length c1), pl 1 (.slice A2 b1.length c2), pl 5 (vi (w64 (i1 + 1)))] hF hS Fol (by kernel_rfl) (by kernel_rfl) (by kernel_rfl) obs_nil (fun a w hF hS => ?_)
          refine then_n ?_
          rw [← hφ1] at hm
          exact ⟨(w64 (i1 + 1)), ⟨hF.weak [0, 1, 5] (by kernel_rfl), hS⟩, hm⟩
        · refine wpIn_block ?_
          obtain ⟨hp1, hm⟩ := asrt_b hm
          obtain ⟨hp2, hm⟩ := asrt_b hm
          refine reg [⟨true, [], vS (Instr.indexAt 27 (.slice A1 a1.length c1) (vi i1)), .pointer (some (sAddr A1 i1))⟩, ⟨false, [], vS (Instr.loadAt 3 (.pointer (some (sAddr A1 i1)))), vi (geti a1 i1)⟩, ⟨true, [], vS (Instr.indexAt 27 (.slice A2 b1.length c2) (vi i1)), .pointer (some (sAddr A2 i1))⟩, ⟨false, [], vS (Instr.loadAt 3 (.pointer (some (sAddr A2 i1)))), vi (geti b1 i1)⟩] [none, none, some (.pointer (some (sAddr A1 i1))), some (vi (geti a1 i1)), none, none, some (.pointer (some (sAddr A2 i1))), some (vi (geti b1 i1)), none] [0, 1, 5, 25] [pl 0 (.slice A1 a1.length c1), pl 1 (.slice A2 b1.length c2), pl 5 (vi i1), pl 25 (.bool ((geti a1 i1) != (geti b1 i1)))] hF hS Fol (by kernel_rfl) (by kernel_rfl) (by kernel_rfl) ?_ (fun a w hF hS => ?_)
          · exact obs_cons (ob_ix1 (f := (Value.int .i64)) (m := a1) Und27 hi3 hs3 (hr_a1 _ (hS.dropN 0)) rfl (fun _ => hp1)) <| obs_cons (ob_get1 (n := a1.length) (m := a1) (Value.int .i64) (0 : Int) Agg3 (fun _ hS => ⟨_, (hr_a1 _ (hS.dropN 0))⟩) (fun _ hS => rfl) (fun _ => hp1)) <| obs_cons (ob_ix1 (f := (Value.int .i64)) (m := b1) Und27 hi3 hs3 (hr_b1 _ (hS.dropN 0)) rfl (fun _ => hp2)) <| obs_cons (ob_get1 (n := b1.length) (m := b1) (Value.int .i64) (0 : Int) Agg3 (fun _ hS => ⟨_, (hr_b1 _ (hS.dropN 0))⟩) (fun _ hS => rfl) (fun _ => hp2)) <| obs_nil
          refine cond_ev (t := 25) (b := ((geti a1 i1) != (geti b1 i1))) hF (by kernel_rfl) (fun hb => ?_) (fun hb => ?_)
          · replace hm := if_t hm hb
            refine reg [] [] [4] [pl 4 (.bool false)] hF hS Fol (by kernel_rfl) (by kernel_rfl) (by kernel_rfl) obs_nil (fun a w hF hS => ?_)
            refine wpIn_ret ?_
            refine block_r (then_r (then_r (block_r (then_r ?_))))
            rw [← hφ1] at hm
            replace hm := done_b hm
            unfold rf_sameInts_K1 at hm
            try dsimp only at hm
            have hm : some false = some r := hm
            obtain rfl := Option.some.inj hm
            exact retV (rs := [.tmp 4]) (vs := [.bool false]) hF rfl (rv_t (by kernel_rfl) <| rv_nil) rfl ⟨rfl, hS⟩
          · replace hm := if_f hm hb
            refine wpIn_skip ?_
            refine block_n ?_
            refine then_n ?_
            exact ⟨hF.weak [0, 1, 5] (by kernel_rfl), hS, hm⟩
      · refine reg [] [] [0, 1, 5, 14] [pl 0 (.slice A1 a1.length c1), pl 1 (.slice A2 b1.length c2), pl 5 (vi i1), pl 14 (.bool (decide (i1 < (a1.length : Int))))] hF hS Fol (by kernel_rfl) (by kernel_rfl) (by kernel_rfl) obs_nil (fun a w hF hS => ?_)
        refine cond_ev (t := 14) (b := decide (i1 < (a1.length : Int))) hF (by kernel_rfl) (fun hb => ?_) (fun hb => ?_)
        · replace hm := if_t hm hb
          refine wpIn_skip ?_
          refine then_n ?_
          exact ⟨hF.weak [0, 1, 5] (by kernel_rfl), hS, hm⟩
        · replace hm := if_f hm hb
          refine wpIn_exit ?_
          refine then_e (then_e (block_e (then_n ?_)))
          rw [← hφ1] at hm
          replace hm := done_b hm
          unfold rf_sameInts_K1 at hm
          try dsimp only at hm
          have hm : (rf_sameInts_J2).bind some = some r := hm
          exact ⟨hF.weak [] (by kernel_rfl), hS, hm⟩
  · refine reg [] [] [0, 1, 10] [pl 0 (.slice A1 a1.length c1), pl 1 (.slice A2 b1.length c2), pl 10 (.bool ((a1.length : Int) != (b1.length : Int)))] hF hS Fol (by kernel_rfl) (by kernel_rfl) (by kernel_rfl) obs_nil (fun a w hF hS => ?_)
    refine cond_ev (t := 10) (b := ((a1.length : Int) != (b1.length : Int))) hF (by kernel_rfl) (fun hb => ?_) (fun hb => ?_)
    · replace hm := if_t hm hb
      refine reg [] [] [4] [pl 4 (.bool false)] hF hS Fol (by kernel_rfl) (by kernel_rfl) (by kernel_rfl) obs_nil (fun a w hF hS => ?_)
      refine wpIn_ret ?_
      refine then_r ?_
      have hm : some false = some r := hm
      obtain rfl := Option.some.inj hm
      exact retV (rs := [.tmp 4]) (vs := [.bool false]) hF rfl (rv_t (by kernel_rfl) <| rv_nil) rfl ⟨rfl, hS⟩
    · replace hm := if_f hm hb
      refine wpIn_skip ?_
      refine then_n ?_
      exact ⟨hF.weak [0, 1] (by kernel_rfl), hS, hm⟩

noncomputable def rf_SameChess_m  (a1 : List Int) (a2 a3 : Int) (a4 a5 a6 : Int) (b1 : List Int) (b2 b3 : Int) (b4 b5 b6 : Int) : Option Bool :=
  (rf_sameInts_m a1 b1).bind fun r1 => some (((((r1 && (a2 == b2)) && (a3 == b3)) && (a4 == b4)) && (a5 == b5)) && (a6 == b6))

theorem rf_SameChess_w {A1 : Option Addr} {c1 n1 : Nat} {a1 : List Int} {a2 a3 : Int} {a4 a5 a6 : Int} {A2 : Option Addr} {c2 n2 : Nat} {b1 : List Int} {b2 b3 : Int} {b4 b5 b6 : Int} {r : Bool} {w0 w : World} {B : Nat} {fs : List HP} (hm : rf_SameChess_m a1 a2 a3 a4 a5 a6 b1 b2 b3 b4 b5 b6 = some r) (hS : Sep w0 B w (fs)) (hr_a1 : RdF w0 B fs A1 (vI a1)) (_hc_a1 : a1.length ≤ c1) (_hn_a1 : n1 = a1.length) (hr_b1 : RdF w0 B fs A2 (vI b1)) (_hc_b1 : b1.length ≤ c2) (_hn_b1 : n2 = b1.length) :
    Calls Try.prog 54 #[.agg (ca A1 n1 c1 a2 a3 a4 a5 a6), .agg (ca A2 n2 c2 b2 b3 b4 b5 b6)] w fun e w' => e = .returned (.bool r) ∧ Sep w0 B w' (fs) := by
  obtain ⟨i3, hi3, hz3, hs3, hb3⟩ := info_parts Info3
  obtain rfl := _hn_a1
  obtain rfl := _hn_b1
  unfold rf_SameChess_m at hm
  replace hm := start_b hm
  refine enter (l := [.agg (ca A1 a1.length c1 a2 a3 a4 a5 a6), .agg (ca A2 b1.length c2 b2 b3 b4 b5 b6)]) (n := 45) Try.func54 rfl rfl (by simp) (fun a hF => ?_)
  refine seqR ?_
  refine at_do (d := 2) (s := vS (Instr.box 75 (.agg (ca A1 a1.length c1 a2 a3 a4 a5 a6)))) (v := pa w.heap.size 0) (w' := w.alloc (.cells (ca A1 a1.length c1 a2 a3 a4 a5 a6) 75)) hF (by kernel_rfl) (by kernel_rfl) (by kernel_rfl) (fun a hF => ?_)
  have hS : Sep w0 B (w.alloc (.cells (ca A1 a1.length c1 a2 a3 a4 a5 a6) 75)) (blk w.heap.size 75 (ca A1 a1.length c1 a2 a3 a4 a5 a6) :: (fs)) := hS.box 75 (ca A1 a1.length c1 a2 a3 a4 a5 a6)
  generalize w.heap.size = g1 at hF hS
  generalize w.alloc (.cells (ca A1 a1.length c1 a2 a3 a4 a5 a6) 75) = w at hS ⊢
  refine at_do (d := 3) (s := vS (Instr.box 75 (.agg (ca A2 b1.length c2 b2 b3 b4 b5 b6)))) (v := pa w.heap.size 0) (w' := w.alloc (.cells (ca A2 b1.length c2 b2 b3 b4 b5 b6) 75)) hF (by kernel_rfl) (by kernel_rfl) (by kernel_rfl) (fun a hF => ?_)
  have hS : Sep w0 B (w.alloc (.cells (ca A2 b1.length c2 b2 b3 b4 b5 b6) 75)) (blk w.heap.size 75 (ca A2 b1.length c2 b2 b3 b4 b5 b6) :: (blk g1 75 (ca A1 a1.length c1 a2 a3 a4 a5 a6) :: fs)) := hS.box 75 (ca A2 b1.length c2 b2 b3 b4 b5 b6)
  generalize w.heap.size = g2 at hF hS
  generalize w.alloc (.cells (ca A2 b1.length c2 b2 b3 b4 b5 b6) 75) = w at hS ⊢
  refine at_run 1 [] [] [2, 3] [pl 2 (pa g1 0), pl 3 (pa g2 0)] hF hS (by kernel_rfl) (by kernel_rfl) obs_nil (fun a w hF hS => ?_)
  refine at_end [2, 3] [pl 2 (pa g1 0), pl 3 (pa g2 0)] hF rfl (by kernel_rfl) (fun hF => ?_)
  refine then_n ?_
  obtain ⟨r1, hr1, hm⟩ := call_b hm
  refine reg [⟨false, [], vS (Instr.loadAt 27 (pa g1 0)), .slice A1 a1.length c1⟩, ⟨false, [], vS (Instr.loadAt 27 (pa g2 0)), .slice A2 b1.length c2⟩, ⟨false, [], callFunc 104 #[.slice A1 a1.length c1, .slice A2 b1.length c2], .bool r1⟩, ⟨false, [(r1, true)], vS (Instr.loadAt 3 (pa g1 1)), vi a2⟩, ⟨false, [(r1, true)], vS (Instr.loadAt 3 (pa g2 1)), vi b2⟩, ⟨false, [(r1 && (a2 == b2), true)], vS (Instr.loadAt 3 (pa g1 2)), vi a3⟩, ⟨false, [(r1 && (a2 == b2), true)], vS (Instr.loadAt 3 (pa g2 2)), vi b3⟩, ⟨false, [((r1 && (a2 == b2)) && (a3 == b3), true)], vS (Instr.loadAt 3 (pa g1 3)), vi a4⟩, ⟨false, [((r1 && (a2 == b2)) && (a3 == b3), true)], vS (Instr.loadAt 3 (pa g2 3)), vi b4⟩, ⟨false, [(((r1 && (a2 == b2)) && (a3 == b3)) && (a4 == b4), true)], vS (Instr.loadAt 3 (pa g1 4)), vi a5⟩, ⟨false, [(((r1 && (a2 == b2)) && (a3 == b3)) && (a4 == b4), true)], vS (Instr.loadAt 3 (pa g2 4)), vi b5⟩, ⟨false, [((((r1 && (a2 == b2)) && (a3 == b3)) && (a4 == b4)) && (a5 == b5), true)], vS (Instr.loadAt 3 (pa g1 5)), vi a6⟩, ⟨false, [((((r1 && (a2 == b2)) && (a3 == b3)) && (a4 == b4)) && (a5 == b5), true)], vS (Instr.loadAt 3 (pa g2 5)), vi b6⟩] [none, some (.slice A1 a1.length c1), none, some (.slice A2 b1.length c2), some (.bool r1), none, none, some (vi a2), none, some (vi b2), none, none, none, none, some (vi a3), none, some (vi b3), none, none, none, none, some (vi a4), none, some (vi b4), none, none, none, none, some (vi a5), none, some (vi b5), none, none, none, none, some (vi a6), none, some (vi b6), none, none, none] [4] [pl 4 (.bool (((((r1 && (a2 == b2)) && (a3 == b3)) && (a4 == b4)) && (a5 == b5)) && (a6 == b6)))] hF hS Fol (by kernel_rfl) (by kernel_rfl) (by kernel_rfl) ?_ (fun a w hF hS => ?_)
  · exact obs_cons (ob_load Agg27 (fun _ _ hS => (hS.at_ 1 rfl).cell rfl)) <| obs_cons (ob_load Agg27 (fun _ _ hS => (hS.at_ 0 rfl).cell rfl)) <| obs_cons (ob_call Try.func104 (by kernel_rfl) rfl (fun _ _ hS => rf_sameInts_w hr1 hS (fun _ hS => (hr_a1 _ (hS.dropN 2))) _hc_a1 rfl (fun _ hS => (hr_b1 _ (hS.dropN 2))) _hc_b1 rfl)) <| obs_cons (ob_load Agg3 (fun _ _ hS => (hS.at_ 1 rfl).cell rfl)) <| obs_cons (ob_load Agg3 (fun _ _ hS => (hS.at_ 0 rfl).cell rfl)) <| obs_cons (ob_load Agg3 (fun _ _ hS => (hS.at_ 1 rfl).cell rfl)) <| obs_cons (ob_load Agg3 (fun _ _ hS => (hS.at_ 0 rfl).cell rfl)) <| obs_cons (ob_load Agg3 (fun _ _ hS => (hS.at_ 1 rfl).cell rfl)) <| obs_cons (ob_load Agg3 (fun _ _ hS => (hS.at_ 0 rfl).cell rfl)) <| obs_cons (ob_load Agg3 (fun _ _ hS => (hS.at_ 1 rfl).cell rfl)) <| obs_cons (ob_load Agg3 (fun _ _ hS => (hS.at_ 0 rfl).cell rfl)) <| obs_cons (ob_load Agg3 (fun _ _ hS => (hS.at_ 1 rfl).cell rfl)) <| obs_cons (ob_load Agg3 (fun _ _ hS => (hS.at_ 0 rfl).cell rfl)) <| obs_nil
  refine wpIn_ret ?_
  have hS := hS.pickN 2 [] (by decide)
  have hm : some (((((r1 && (a2 == b2)) && (a3 == b3)) && (a4 == b4)) && (a5 == b5)) && (a6 == b6)) = some r := hm
  obtain rfl := Option.some.inj hm
  exact retV (rs := [.tmp 4]) (vs := [.bool (((((r1 && (a2 == b2)) && (a3 == b3)) && (a4 == b4)) && (a5 == b5)) && (a6 == b6))]) hF rfl (rv_t (by kernel_rfl) <| rv_nil) rfl ⟨rfl, hS⟩

noncomputable def lw_MovesDoes_J5  (z1 : Bool) : Option Bool :=
  some z1

noncomputable def lw_MovesDoes_J4  (p1 : List Int) (p2 p3 : Int) (p4 p5 : Int) (p6 m1 : Int) (m2 m3 : Int) (x1 : List Int) (x2 x3 : Int) (x4 x5 : Int) (x6 f1 : Int) : Option Bool :=
  if (f1 == 0) then ((rf_MoveDone_m p1 p2 p3 p4 p5 p6 m1 m2 m3).bind fun r14 => ((if (f1 == 0) then rf_SameChess_m x1 x2 x3 x4 x5 x6 r14.1 r14.2.1 r14.2.2.1 r14.2.2.2.1 r14.2.2.2.2.1 r14.2.2.2.2.2 else some false)).bind fun r15 => lw_MovesDoes_J5 ((f1 == 0) && r15)) else (((if (f1 == 0) then rf_SameChess_m x1 x2 x3 x4 x5 x6 ([] : List Int) 0 0 0 0 0 else some false)).bind fun r16 => lw_MovesDoes_J5 ((f1 == 0) && r16))

noncomputable def lw_MovesDoes_J3  (p1 : List Int) (p2 p3 : Int) (p4 p5 : Int) (p6 m1 : Int) (m2 m3 : Int) (x1 : List Int) (x2 x3 : Int) (x4 x5 : Int) (x6 f1 : Int) (r9 : (List MvT)) : Option Bool :=
  (rf_MoveAt_m r9 m1 m2 m3).bind fun r12 => if (decide (r12 < 0)) then (((if (f1 == 8) then lw_noChess_m x1 x2 x3 x4 x5 x6 else some false)).bind fun r13 => some ((f1 == 8) && r13)) else ((lw_MovesDoes_J4 p1 p2 p3 p4 p5 p6 m1 m2 m3 x1 x2 x3 x4 x5 x6 f1))

noncomputable def lw_MovesDoes_J2  (p1 : List Int) (p2 p3 : Int) (p4 p5 : Int) (p6 m1 : Int) (m2 m3 : Int) (r2 : (List MvT × Int)) (x1 : List Int) (x2 x3 : Int) (x4 x5 : Int) (x6 f1 : Int) (r6 : (Int × Int)) : Option Bool :=
  (rf_MovesAll_m p1 p2 p3 p4 p5 p6).bind fun r9 => ((if (!(r2.2 != 0)) then lw_sameMoves_m r2.1 r9 else some false)).bind fun r10 => ((if (!(((r2.2 != 0) || (!r10)) || (r6.2 != 0))) then rf_ResultOf_m p1 p2 p3 p4 p5 p6 else some 0)).bind fun r11 => if ((((r2.2 != 0) || (!r10)) || (r6.2 != 0)) || (r6.1 != r11)) then (some false) else ((lw_MovesDoes_J3 p1 p2 p3 p4 p5 p6 m1 m2 m3 x1 x2 x3 x4 x5 x6 f1 r9))

noncomputable def lw_MovesDoes_J1  (p1 : List Int) (p2 p3 : Int) (p4 p5 : Int) (p6 m1 : Int) (m2 m3 : Int) (r2 : (List MvT × Int)) (x1 : List Int) (x2 x3 : Int) (x4 x5 : Int) (x6 f1 : Int) : Option Bool :=
  (rf_ChessOf_m p1 p2 p3 p4 p5 p6).bind fun r5 => (moves_Result_m r5.1 r5.2.1 r5.2.2.1 r5.2.2.2.1 r5.2.2.2.2.1 r5.2.2.2.2.2).bind fun r6 => (rf_ChessMay_m p1 p2 p3 p4 p5 p6).bind fun r7 => if (!r7) then (((if ((((r2.2 == 12) && (f1 == 12)) && (r6.2 == 12)) && ((r2.1.length : Int) == 0)) then lw_noChess_m x1 x2 x3 x4 x5 x6 else some false)).bind fun r8 => some ((((((r2.2 == 12) && (f1 == 12)) && (r6.2 == 12)) && ((r2.1.length : Int) == 0)) && r8) && (r6.1 == 0))) else ((lw_MovesDoes_J2 p1 p2 p3 p4 p5 p6 m1 m2 m3 r2 x1 x2 x3 x4 x5 x6 f1 r6))

noncomputable def lw_MovesDoes_m  (p1 : List Int) (p2 p3 : Int) (p4 p5 : Int) (p6 m1 : Int) (m2 m3 : Int) : Option Bool :=
  (rf_ChessOf_m p1 p2 p3 p4 p5 p6).bind fun r1 => (moves_All_m r1.1 r1.2.1 r1.2.2.1 r1.2.2.2.1 r1.2.2.2.2.1 r1.2.2.2.2.2).bind fun r2 => (rf_ChessOf_m p1 p2 p3 p4 p5 p6).bind fun r3 => (moves_Do_m r3.1 r3.2.1 r3.2.2.1 r3.2.2.2.1 r3.2.2.2.2.1 r3.2.2.2.2.2 m1 m2 m3).bind fun r4 => (lw_MovesDoes_J1 p1 p2 p3 p4 p5 p6 m1 m2 m3 r2) r4.1 r4.2.1 r4.2.2.1 r4.2.2.2.1 r4.2.2.2.2.1 r4.2.2.2.2.2.1 r4.2.2.2.2.2.2

theorem lw_MovesDoes_w {A1 : Option Addr} {c1 n1 : Nat} {p1 : List Int} {p2 p3 : Int} {p4 p5 : Int} {p6 m1 : Int} {m2 m3 : Int} {r : Bool} {w0 w : World} {B : Nat} {fs : List HP} (hm : lw_MovesDoes_m p1 p2 p3 p4 p5 p6 m1 m2 m3 = some r) (hS : Sep w0 B w (fs)) (hr_p1 : RdF w0 B fs A1 (vI p1)) (_hc_p1 : p1.length ≤ c1) (_hn_p1 : n1 = p1.length) :
    Calls Try.prog 10 #[.agg (ca A1 n1 c1 p2 p3 p4 p5 p6), .agg #[vi m1, vi m2, vi m3]] w fun e w' => e = .returned (.bool r) ∧ Sep w0 B w' (fs) := by
  obtain ⟨i3, hi3, hz3, hs3, hb3⟩ := info_parts Info3
  obtain rfl := _hn_p1
  unfold lw_MovesDoes_m at hm
  replace hm := start_b hm
  refine enter (l := [.agg (ca A1 p1.length c1 p2 p3 p4 p5 p6), .agg #[vi m1, vi m2, vi m3]]) (n := 96) Try.func10 rfl rfl (by simp) (fun a hF => ?_)
  refine seqR ?_
  refine at_do (d := 2) (s := vS (Instr.box 75 (.agg (ca A1 p1.length c1 p2 p3 p4 p5 p6)))) (v := pa w.heap.size 0) (w' := w.alloc (.cells (ca A1 p1.length c1 p2 p3 p4 p5 p6) 75)) hF (by kernel_rfl) (by kernel_rfl) (by kernel_rfl) (fun a hF => ?_)
  have hS : Sep w0 B (w.alloc (.cells (ca A1 p1.length c1 p2 p3 p4 p5 p6) 75)) (blk w.heap.size 75 (ca A1 p1.length c1 p2 p3 p4 p5 p6) :: (fs)) := hS.box 75 (ca A1 p1.length c1 p2 p3 p4 p5 p6)
  generalize w.heap.size = g1 at hF hS
  generalize w.alloc (.cells (ca A1 p1.length c1 p2 p3 p4 p5 p6) 75) = w at hS ⊢
  refine at_do (d := 3) (s := vS (Instr.box 88 (.agg #[vi m1, vi m2, vi m3]))) (v := pa w.heap.size 0) (w' := w.alloc (.cells #[vi m1, vi m2, vi m3] 88)) hF (by kernel_rfl) (by kernel_rfl) (by kernel_rfl) (fun a hF => ?_)
  have hS : Sep w0 B (w.alloc (.cells #[vi m1, vi m2, vi m3] 88)) (blk w.heap.size 88 #[vi m1, vi m2, vi m3] :: (blk g1 75 (ca A1 p1.length c1 p2 p3 p4 p5 p6) :: fs)) := hS.box 88 #[vi m1, vi m2, vi m3]
  generalize w.heap.size = g2 at hF hS
  generalize w.alloc (.cells #[vi m1, vi m2, vi m3] 88) = w at hS ⊢
  refine at_run 1 [] [] [2, 3] [pl 2 (pa g1 0), pl 3 (pa g2 0)] hF hS (by kernel_rfl) (by kernel_rfl) obs_nil (fun a w hF hS => ?_)
  refine at_end [2, 3] [pl 2 (pa g1 0), pl 3 (pa g2 0)] hF rfl (by kernel_rfl) (fun hF => ?_)
  refine then_n (seqR ?_)
  obtain ⟨r1, hr1, hm⟩ := call_b hm
  obtain ⟨r2, hr2, hm⟩ := call_b hm
  refine at_run 1 [⟨false, [], vS (Instr.loadAt 75 (pa g1 0)), .agg (ca A1 p1.length c1 p2 p3 p4 p5 p6)⟩] [some (.agg (ca A1 p1.length c1 p2 p3 p4 p5 p6))] [2, 3, 13] [pl 2 (pa g1 0), pl 3 (pa g2 0), pl 13 (.agg (ca A1 p1.length c1 p2 p3 p4 p5 p6))] hF hS (by kernel_rfl) (by kernel_rfl) ?_ (fun a w hF hS => ?_)
  · exact obs_cons (ob_loadA (cs := (ca A1 p1.length c1 p2 p3 p4 p5 p6)) (by kernel_rfl) (by kernel_rfl) (fun _ _ hS => (hS.at_ 1 rfl).cellsAt 0 (by rfl))) <| obs_nil
  refine at_call (f := 47) (args := #[.agg (ca A1 p1.length c1 p2 p3 p4 p5 p6)]) (d := 14) hF (by kernel_rfl) (by kernel_rfl) Try.func47 (by kernel_rfl) rfl (rf_ChessOf_w hr1 hS (fun _ hS => (hr_p1 _ (hS.dropN 2))) _hc_p1 rfl) (fun v a w hR hF => ?_)
  clear hS
  obtain ⟨A2, c2, rfl, hS⟩ := hR
  have hS : Sep w0 B w (own 3 (.slice A2 r1.1.length c2) (vI r1.1) :: blk g2 88 #[vi m1, vi m2, vi m3] :: blk g1 75 (ca A1 p1.length c1 p2 p3 p4 p5 p6) :: fs) := hS
  refine at_call (f := 55) (args := #[.agg (ca A2 r1.1.length c2 r1.2.1 r1.2.2.1 r1.2.2.2.1 r1.2.2.2.2.1 r1.2.2.2.2.2)]) (d := 15) hF (by kernel_rfl) (by kernel_rfl) Try.func55 (by kernel_rfl) rfl (moves_All_w hr2 hS (fun _ hS => (hS.at_ 0 rfl).rd) ((hS.at_ 0 rfl).cap1) rfl) (fun v a w hR hF => ?_)
  clear hS
  obtain ⟨A3, c3, rfl, hS⟩ := hR
  have hS : Sep w0 B w (ownK 88 3 A3 r2.1.length c3 (List.flatMap enc88 r2.1) :: own 3 (.slice A2 r1.1.length c2) (vI r1.1) :: blk g2 88 #[vi m1, vi m2, vi m3] :: blk g1 75 (ca A1 p1.length c1 p2 p3 p4 p5 p6) :: fs) := hS
  refine at_run 5 [] [] [2, 3, 5, 6] [pl 2 (pa g1 0), pl 3 (pa g2 0), pl 5 (.slice A3 r2.1.length c3), pl 6 (vi r2.2)] hF hS (by kernel_rfl) (by kernel_rfl) obs_nil (fun a w hF hS => ?_)
  refine at_end [2, 3, 5, 6] [pl 2 (pa g1 0), pl 3 (pa g2 0), pl 5 (.slice A3 r2.1.length c3), pl 6 (vi r2.2)] hF rfl (by kernel_rfl) (fun hF => ?_)
  refine then_n ?_
  refine seq_cut (fun a w => ∃ (x1 : List Int) (x2 x3 : Int) (x4 x5 : Int) (x6 f1 : Int) (g4 : Nat) (A8 : Option Addr) (c8 : Nat), Fr 96 [pl 2 (pa g1 0), pl 3 (pa g2 0), pl 5 (.slice A3 r2.1.length c3), pl 6 (vi r2.2), pl 7 (pa g4 0), pl 8 (vi f1)] a ∧ Sep w0 B w (blk g1 75 (ca A1 p1.length c1 p2 p3 p4 p5 p6) :: blk g2 88 #[vi m1, vi m2, vi m3] :: ownK 88 3 A3 r2.1.length c3 (List.flatMap enc88 r2.1) :: blk g4 75 (ca A8 x1.length c8 x2 x3 x4 x5 x6) :: own 3 (.slice A8 x1.length c8) (vI x1) :: fs) ∧ ((lw_MovesDoes_J1 p1 p2 p3 p4 p5 p6 m1 m2 m3 r2) x1 x2 x3 x4 x5 x6 f1).bind some = some r) ?_ ?_
  · rintro a w ⟨x1, x2, x3, x4, x5, x6, f1, g4, A8, c8, hF, hS, hm⟩
    unfold lw_MovesDoes_J1 at hm
    refine seqR ?_
    obtain ⟨r5, hr5, hm⟩ := call_b hm
    obtain ⟨r6, hr6, hm⟩ := call_b hm
    refine at_run 1 [⟨false, [], vS (Instr.loadAt 75 (pa g1 0)), .agg (ca A1 p1.length c1 p2 p3 p4 p5 p6)⟩] [some (.agg (ca A1 p1.length c1 p2 p3 p4 p5 p6))] [2, 3, 5, 6, 7, 8, 26] [pl 2 (pa g1 0), pl 3 (pa g2 0), pl 5 (.slice A3 r2.1.length c3), pl 6 (vi r2.2), pl 7 (pa g4 0), pl 8 (vi f1), pl 26 (.agg (ca A1 p1.length c1 p2 p3 p4 p5 p6))] hF hS (by kernel_rfl) (by kernel_rfl) ?_ (fun a w hF hS => ?_)
    · exact obs_cons (ob_loadA (cs := (ca A1 p1.length c1 p2 p3 p4 p5 p6)) (by kernel_rfl) (by kernel_rfl) (fun _ _ hS => (hS.at_ 0 rfl).cellsAt 0 (by rfl))) <| obs_nil
    refine at_call (f := 47) (args := #[.agg (ca A1 p1.length c1 p2 p3 p4 p5 p6)]) (d := 27) hF (by kernel_rfl) (by kernel_rfl) Try.func47 (by kernel_rfl) rfl (rf_ChessOf_w hr5 hS (fun _ hS => (hr_p1 _ (hS.dropN 5))) _hc_p1 rfl) (fun v a w hR hF => ?_)
    clear hS
    obtain ⟨A12, c12, rfl, hS⟩ := hR
    have hS : Sep w0 B w (own 3 (.slice A12 r5.1.length c12) (vI r5.1) :: blk g1 75 (ca A1 p1.length c1 p2 p3 p4 p5 p6) :: blk g2 88 #[vi m1, vi m2, vi m3] :: ownK 88 3 A3 r2.1.length c3 (List.flatMap enc88 r2.1) :: blk g4 75 (ca A8 x1.length c8 x2 x3 x4 x5 x6) :: own 3 (.slice A8 x1.length c8) (vI x1) :: fs) := hS
    refine at_run 6 [⟨false, [], callFunc 57 #[.agg (ca A12 r5.1.length c12 r5.2.1 r5.2.2.1 r5.2.2.2.1 r5.2.2.2.2.1 r5.2.2.2.2.2)], .tuple #[vi r6.1, vi r6.2]⟩] [some (.tuple #[vi r6.1, vi r6.2]), none, none, none, none, none] [2, 3, 5, 6, 7, 8, 9, 10] [pl 2 (pa g1 0), pl 3 (pa g2 0), pl 5 (.slice A3 r2.1.length c3), pl 6 (vi r2.2), pl 7 (pa g4 0), pl 8 (vi f1), pl 9 (vi r6.1), pl 10 (vi r6.2)] hF hS (by kernel_rfl) (by kernel_rfl) ?_ (fun a w hF hS => ?_)
    · exact obs_cons (ob_call Try.func57 (by kernel_rfl) rfl (fun _ _ hS => moves_Result_w hr6 hS (fun _ hS => (hS.at_ 0 rfl).rd) ((hS.at_ 0 rfl).cap1) rfl)) <| obs_nil
    refine at_end [2, 3, 5, 6, 7, 8, 9, 10] [pl 2 (pa g1 0), pl 3 (pa g2 0), pl 5 (.slice A3 r2.1.length c3), pl 6 (vi r2.2), pl 7 (pa g4 0), pl 8 (vi f1), pl 9 (vi r6.1), pl 10 (vi r6.2)] hF rfl (by kernel_rfl) (fun hF => ?_)
    refine then_n ?_
    refine seq_cut (fun a w => Fr 96 [pl 2 (pa g1 0), pl 3 (pa g2 0), pl 5 (.slice A3 r2.1.length c3), pl 6 (vi r2.2), pl 7 (pa g4 0), pl 8 (vi f1), pl 9 (vi r6.1), pl 10 (vi r6.2)] a ∧ Sep w0 B w (blk g1 75 (ca A1 p1.length c1 p2 p3 p4 p5 p6) :: blk g2 88 #[vi m1, vi m2, vi m3] :: ownK 88 3 A3 r2.1.length c3 (List.flatMap enc88 r2.1) :: blk g4 75 (ca A8 x1.length c8 x2 x3 x4 x5 x6) :: own 3 (.slice A8 x1.length c8) (vI x1) :: fs) ∧ ((lw_MovesDoes_J2 p1 p2 p3 p4 p5 p6 m1 m2 m3 r2 x1 x2 x3 x4 x5 x6 f1 r6)).bind some = some r) ?_ ?_
    · rintro a w ⟨hF, hS, hm⟩
      unfold lw_MovesDoes_J2 at hm
      refine seqR ?_
      obtain ⟨r9, hr9, hm⟩ := call_b hm
      refine at_run 1 [⟨false, [], vS (Instr.loadAt 75 (pa g1 0)), .agg (ca A1 p1.length c1 p2 p3 p4 p5 p6)⟩] [some (.agg (ca A1 p1.length c1 p2 p3 p4 p5 p6))] [2, 3, 5, 6, 7, 8, 9, 10, 57] [pl 2 (pa g1 0), pl 3 (pa g2 0), pl 5 (.slice A3 r2.1.length c3), pl 6 (vi r2.2), pl 7 (pa g4 0), pl 8 (vi f1), pl 9 (vi r6.1), pl 10 (vi r6.2), pl 57 (.agg (ca A1 p1.length c1 p2 p3 p4 p5 p6))] hF hS (by kernel_rfl) (by kernel_rfl) ?_ (fun a w hF hS => ?_)
      · exact obs_cons (ob_loadA (cs := (ca A1 p1.length c1 p2 p3 p4 p5 p6)) (by kernel_rfl) (by kernel_rfl) (fun _ _ hS => (hS.at_ 0 rfl).cellsAt 0 (by rfl))) <| obs_nil
      refine at_call (f := 58) (args := #[.agg (ca A1 p1.length c1 p2 p3 p4 p5 p6)]) (d := 58) hF (by kernel_rfl) (by kernel_rfl) Try.func58 (by kernel_rfl) rfl (rf_MovesAll_w hr9 hS (fun _ hS => (hr_p1 _ (hS.dropN 5))) _hc_p1 rfl) (fun v a w hR hF => ?_)
      clear hS
      obtain ⟨A13, c13, rfl, hS⟩ := hR
      have hS : Sep w0 B w (ownK 88 3 A13 r9.length c13 (List.flatMap enc88 r9) :: blk g1 75 (ca A1 p1.length c1 p2 p3 p4 p5 p6) :: blk g2 88 #[vi m1, vi m2, vi m3] :: ownK 88 3 A3 r2.1.length c3 (List.flatMap enc88 r2.1) :: blk g4 75 (ca A8 x1.length c8 x2 x3 x4 x5 x6) :: own 3 (.slice A8 x1.length c8) (vI x1) :: fs) := hS
      refine at_run 1 [] [] [2, 3, 5, 6, 7, 8, 9, 10, 11] [pl 2 (pa g1 0), pl 3 (pa g2 0), pl 5 (.slice A3 r2.1.length c3), pl 6 (vi r2.2), pl 7 (pa g4 0), pl 8 (vi f1), pl 9 (vi r6.1), pl 10 (vi r6.2), pl 11 (.slice A13 r9.length c13)] hF hS (by kernel_rfl) (by kernel_rfl) obs_nil (fun a w hF hS => ?_)
      refine at_end [2, 3, 5, 6, 7, 8, 9, 10, 11] [pl 2 (pa g1 0), pl 3 (pa g2 0), pl 5 (.slice A3 r2.1.length c3), pl 6 (vi r2.2), pl 7 (pa g4 0), pl 8 (vi f1), pl 9 (vi r6.1), pl 10 (vi r6.2), pl 11 (.slice A13 r9.length c13)] hF rfl (by kernel_rfl) (fun hF => ?_)
      refine then_n ?_
      refine seq_cut (fun a w => Fr 96 [pl 2 (pa g1 0), pl 3 (pa g2 0), pl 7 (pa g4 0), pl 8 (vi f1), pl 11 (.slice A13 r9.length c13)] a ∧ Sep w0 B w (blk g1 75 (ca A1 p1.length c1 p2 p3 p4 p5 p6) :: blk g2 88 #[vi m1, vi m2, vi m3] :: blk g4 75 (ca A8 x1.length c8 x2 x3 x4 x5 x6) :: own 3 (.slice A8 x1.length c8) (vI x1) :: ownK 88 3 A13 r9.length c13 (List.flatMap enc88 r9) :: fs) ∧ ((lw_MovesDoes_J3 p1 p2 p3 p4 p5 p6 m1 m2 m3 x1 x2 x3 x4 x5 x6 f1 r9)).bind some = some r) ?_ ?_
      · rintro a w ⟨hF, hS, hm⟩
        unfold lw_MovesDoes_J3 at hm
        refine seq_cut (fun a w => Fr 96 [pl 2 (pa g1 0), pl 3 (pa g2 0), pl 7 (pa g4 0), pl 8 (vi f1)] a ∧ Sep w0 B w (blk g1 75 (ca A1 p1.length c1 p2 p3 p4 p5 p6) :: blk g2 88 #[vi m1, vi m2, vi m3] :: blk g4 75 (ca A8 x1.length c8 x2 x3 x4 x5 x6) :: own 3 (.slice A8 x1.length c8) (vI x1) :: fs) ∧ ((lw_MovesDoes_J4 p1 p2 p3 p4 p5 p6 m1 m2 m3 x1 x2 x3 x4 x5 x6 f1)).bind some = some r) ?_ ?_
        · rintro a w ⟨hF, hS, hm⟩
          unfold lw_MovesDoes_J4 at hm
          refine seq_cut (fun a w => ∃ (z1 : Bool), Fr 96 [pl 4 (.bool z1)] a ∧ Sep w0 B w (fs) ∧ (lw_MovesDoes_J5 z1).bind some = some r) ?_ ?_
          · rintro a w ⟨z1, hF, hS, hm⟩
            unfold lw_MovesDoes_J5 at hm
            refine wpIn_ret ?_
            have hm : some z1 = some r := hm
            obtain rfl := Option.some.inj hm
            exact retV (rs := [.tmp 4]) (vs := [.bool z1]) hF rfl (rv_t (by kernel_rfl) <| rv_nil) rfl ⟨rfl, hS⟩
          · refine regMix3 [0, 1, 2, 3, 4, 5] 6 [7, 8, 9] [⟨false, [((f1 == 0), true)], vS (Instr.loadAt 75 (pa g4 0)), .agg (ca A8 x1.length c8 x2 x3 x4 x5 x6)⟩, ⟨false, [((f1 == 0), true)], vS (Instr.loadAt 75 (pa g1 0)), .agg (ca A1 p1.length c1 p2 p3 p4 p5 p6)⟩, ⟨false, [((f1 == 0), true)], vS (Instr.loadAt 88 (pa g2 0)), .agg #[vi m1, vi m2, vi m3]⟩] [none, none, none, some (.agg (ca A8 x1.length c8 x2 x3 x4 x5 x6)), some (.agg (ca A1 p1.length c1 p2 p3 p4 p5 p6)), some (.agg #[vi m1, vi m2, vi m3])] [89, 90, 91, 92] [pl 89 (.bool (f1 == 0)), ⟨90, [(89, true)], .agg (ca A8 x1.length c8 x2 x3 x4 x5 x6)⟩, ⟨91, [(89, true)], .agg (ca A1 p1.length c1 p2 p3 p4 p5 p6)⟩, ⟨92, [(89, true)], .agg #[vi m1, vi m2, vi m3]⟩] hF hS Fol (by kernel_rfl) (by kernel_rfl) (by kernel_rfl) (by kernel_rfl) (by kernel_rfl) (by kernel_rfl) ?_ (fun a w hF hS => ?_)
            · exact obs_cons (ob_loadA (cs := (ca A8 x1.length c8 x2 x3 x4 x5 x6)) (by kernel_rfl) (by kernel_rfl) (fun _ _ hS => (hS.at_ 2 rfl).cellsAt 0 (by rfl))) <| obs_cons (ob_loadA (cs := (ca A1 p1.length c1 p2 p3 p4 p5 p6)) (by kernel_rfl) (by kernel_rfl) (fun _ _ hS => (hS.at_ 0 rfl).cellsAt 0 (by rfl))) <| obs_cons (ob_loadA (cs := #[vi m1, vi m2, vi m3]) (by kernel_rfl) (by kernel_rfl) (fun _ _ hS => (hS.at_ 1 rfl).cellsAt 0 (by rfl))) <| obs_nil
            rcases Bool.eq_false_or_eq_true (f1 == 0) with hg1 | hg1
            · replace hm := if_t hm hg1
              obtain ⟨r14, hr14, hm⟩ := call_b hm
              obtain ⟨r15, hr15, hm⟩ := call_b hm
              refine at_gcall (hs := [((f1 == 0), true)]) (fun y hy => by simp only [List.mem_cons, List.not_mem_nil, or_false] at hy; subst hy; first | exact hg1) (f := 62) (args := #[.agg (ca A1 p1.length c1 p2 p3 p4 p5 p6), .agg #[vi m1, vi m2, vi m3]]) (d := 93) hF (by kernel_rfl) (by kernel_rfl) Try.func62 (by kernel_rfl) rfl (rf_MoveDone_w hr14 hS (fun _ hS => (hr_p1 _ (hS.dropN 4))) _hc_p1 rfl) (fun v a w hR hF => ?_)
              clear hS
              obtain ⟨A14, c14, rfl, hS⟩ := hR
              have hS : Sep w0 B w (own 3 (.slice A14 r14.1.length c14) (vI r14.1) :: blk g1 75 (ca A1 p1.length c1 p2 p3 p4 p5 p6) :: blk g2 88 #[vi m1, vi m2, vi m3] :: blk g4 75 (ca A8 x1.length c8 x2 x3 x4 x5 x6) :: own 3 (.slice A8 x1.length c8) (vI x1) :: fs) := hS
              refine at_fin3 rfl (hS.pickN 5 [1, 2, 3, 4] (by decide)) ?_
              refine at_run 3 [⟨false, [((f1 == 0), true)], callFunc 54 #[.agg (ca A8 x1.length c8 x2 x3 x4 x5 x6), .agg (ca A14 r14.1.length c14 r14.2.1 r14.2.2.1 r14.2.2.2.1 r14.2.2.2.2.1 r14.2.2.2.2.2)], .bool r15⟩] [some (.bool r15), none, none] [4] [pl 4 (.bool ((f1 == 0) && r15))] hF hS (by kernel_rfl) (by kernel_rfl) ?_ (fun a w hF hS => ?_)
              · exact obs_cons (ob_call Try.func54 (by kernel_rfl) rfl (fun hy _ hS => rf_SameChess_w (ite_some hr15 (by rw [show (f1 == 0) = true from hy ((f1 == 0), true) (by simp)]; try rfl)) hS (fun _ hS => (hS.at_ 4 rfl).rd) ((hS.at_ 4 rfl).cap1) rfl (fun _ hS => (hS.at_ 0 rfl).rd) ((hS.at_ 0 rfl).cap1) rfl)) <| obs_nil
              refine at_end [4] [pl 4 (.bool ((f1 == 0) && r15))] hF rfl (by kernel_rfl) (fun hF => ?_)
              refine np_n ?_
              refine then_n ?_
              have hS := hS.pickN 5 [] (by decide)
              exact ⟨((f1 == 0) && r15), hF.weak [4] (by kernel_rfl), hS, hm⟩
            · replace hm := if_f hm hg1
              obtain ⟨r16, hr16, hm⟩ := call_b hm
              refine at_gskip (d := 93) (v := .agg (ca none 0 0 0 0 0 0 0)) (hs := [((f1 == 0), true)]) (ctx := [(89, true)]) hF (by kernel_rfl) (by kernel_rfl) (fun h => absurd (h ((f1 == 0), true) (by simp)) (by simp [hg1])) (fun a hF => ?_)
              refine at_fin3 rfl (hS) ?_
              refine at_run 3 [⟨false, [((f1 == 0), true)], callFunc 54 #[.agg (ca A8 x1.length c8 x2 x3 x4 x5 x6), .agg (ca none 0 0 0 0 0 0 0)], .bool r16⟩] [some (.bool r16), none, none] [4] [pl 4 (.bool ((f1 == 0) && r16))] hF hS (by kernel_rfl) (by kernel_rfl) ?_ (fun a w hF hS => ?_)
              · exact obs_cons (Ob.vac (fun h => absurd (h ((f1 == 0), true) (by simp)) (by simp [hg1]))) <| obs_nil
              refine at_end [4] [pl 4 (.bool ((f1 == 0) && r16))] hF rfl (by kernel_rfl) (fun hF => ?_)
              refine np_n ?_
              refine then_n ?_
              have hS := hS.pickN 4 [] (by decide)
              exact ⟨((f1 == 0) && r16), hF.weak [4] (by kernel_rfl), hS, hm⟩
        · obtain ⟨r12, hr12, hm⟩ := call_b hm
          refine reg [⟨false, [], vS (Instr.loadAt 88 (pa g2 0)), .agg #[vi m1, vi m2, vi m3]⟩, ⟨false, [], callFunc 61 #[.slice A13 r9.length c13, .agg #[vi m1, vi m2, vi m3]], vi r12⟩] [none, some (.agg #[vi m1, vi m2, vi m3]), some (vi r12), none] [2, 3, 7, 8, 80] [pl 2 (pa g1 0), pl 3 (pa g2 0), pl 7 (pa g4 0), pl 8 (vi f1), pl 80 (.bool (decide (r12 < 0)))] hF hS Fol (by kernel_rfl) (by kernel_rfl) (by kernel_rfl) ?_ (fun a w hF hS => ?_)
          · exact obs_cons (ob_loadA (cs := #[vi m1, vi m2, vi m3]) (by kernel_rfl) (by kernel_rfl) (fun _ _ hS => (hS.at_ 1 rfl).cellsAt 0 (by rfl))) <| obs_cons (ob_call Try.func61 (by kernel_rfl) rfl (fun _ _ hS => rf_MoveAt_w hr12 hS (fun _ hS => (hS.at_ 4 rfl).rdK) ((hS.at_ 4 rfl).capK encK88) rfl)) <| obs_nil
          refine cond_ev (t := 80) (b := decide (r12 < 0)) hF (by kernel_rfl) (fun hb => ?_) (fun hb => ?_)
          · replace hm := if_t hm hb
            obtain ⟨r13, hr13, hm⟩ := call_b hm
            refine reg [⟨false, [((f1 == 8), true)], vS (Instr.loadAt 75 (pa g4 0)), .agg (ca A8 x1.length c8 x2 x3 x4 x5 x6)⟩, ⟨false, [((f1 == 8), true)], callFunc 52 #[.agg (ca A8 x1.length c8 x2 x3 x4 x5 x6)], .bool r13⟩] [none, none, none, some (.agg (ca A8 x1.length c8 x2 x3 x4 x5 x6)), some (.bool r13), none, none] [4] [pl 4 (.bool ((f1 == 8) && r13))] hF hS Fol (by kernel_rfl) (by kernel_rfl) (by kernel_rfl) ?_ (fun a w hF hS => ?_)
            · exact obs_cons (ob_loadA (cs := (ca A8 x1.length c8 x2 x3 x4 x5 x6)) (by kernel_rfl) (by kernel_rfl) (fun _ _ hS => (hS.at_ 2 rfl).cellsAt 0 (by rfl))) <| obs_cons (ob_call Try.func52 (by kernel_rfl) rfl (fun hy _ hS => lw_noChess_w (ite_some hr13 (by rw [show (f1 == 8) = true from hy ((f1 == 8), true) (by simp)]; try rfl)) hS (fun _ hS => (hS.at_ 3 rfl).rd) ((hS.at_ 3 rfl).cap1) rfl)) <| obs_nil
            refine wpIn_ret ?_
            refine then_r ?_
            have hS := hS.pickN 5 [] (by decide)
            have hm : some ((f1 == 8) && r13) = some r := hm
            obtain rfl := Option.some.inj hm
            exact retV (rs := [.tmp 4]) (vs := [.bool ((f1 == 8) && r13)]) hF rfl (rv_t (by kernel_rfl) <| rv_nil) rfl ⟨rfl, hS⟩
          · replace hm := if_f hm hb
            refine wpIn_skip ?_
            refine then_n ?_
            have hS := hS.pickN 5 [0, 1, 2, 3] (by decide)
            exact ⟨hF.weak [2, 3, 7, 8] (by kernel_rfl), hS, hm⟩
      · obtain ⟨r10, hr10, hm⟩ := call_b hm
        obtain ⟨r11, hr11, hm⟩ := call_b hm
        refine reg [⟨false, [((r2.2 != 0), false)], callFunc 59 #[.slice A3 r2.1.length c3, .slice A13 r9.length c13], .bool r10⟩, ⟨false, [(((r2.2 != 0) || (!r10)) || (r6.2 != 0), false)], vS (Instr.loadAt 75 (pa g1 0)), .agg (ca A1 p1.length c1 p2 p3 p4 p5 p6)⟩, ⟨false, [(((r2.2 != 0) || (!r10)) || (r6.2 != 0), false)], callFunc 60 #[.agg (ca A1 p1.length c1 p2 p3 p4 p5 p6)], vi r11⟩] [none, none, none, none, none, some (.bool r10), none, none, none, none, none, none, none, none, some (.agg (ca A1 p1.length c1 p2 p3 p4 p5 p6)), some (vi r11), none, none] [2, 3, 7, 8, 11, 76] [pl 2 (pa g1 0), pl 3 (pa g2 0), pl 7 (pa g4 0), pl 8 (vi f1), pl 11 (.slice A13 r9.length c13), pl 76 (.bool ((((r2.2 != 0) || (!r10)) || (r6.2 != 0)) || (r6.1 != r11)))] hF hS Fol (by kernel_rfl) (by kernel_rfl) (by kernel_rfl) ?_ (fun a w hF hS => ?_)
        · exact obs_cons (ob_call Try.func59 (by kernel_rfl) rfl (fun hy _ hS => lw_sameMoves_w (ite_some hr10 (by rw [show (r2.2 != 0) = false from hy ((r2.2 != 0), false) (by simp)]; try rfl)) hS (fun _ hS => (hS.at_ 3 rfl).rdK) ((hS.at_ 3 rfl).capK encK88) rfl (fun _ hS => (hS.at_ 0 rfl).rdK) ((hS.at_ 0 rfl).capK encK88) rfl)) <| obs_cons (ob_loadA (cs := (ca A1 p1.length c1 p2 p3 p4 p5 p6)) (by kernel_rfl) (by kernel_rfl) (fun _ _ hS => (hS.at_ 1 rfl).cellsAt 0 (by rfl))) <| obs_cons (ob_call Try.func60 (by kernel_rfl) rfl (fun hy _ hS => rf_ResultOf_w (ite_some hr11 (by rw [show (((r2.2 != 0) || (!r10)) || (r6.2 != 0)) = false from hy (((r2.2 != 0) || (!r10)) || (r6.2 != 0), false) (by simp)]; try rfl)) hS (fun _ hS => (hr_p1 _ (hS.dropN 6))) _hc_p1 rfl)) <| obs_nil
        refine cond_ev (t := 76) (b := (((r2.2 != 0) || (!r10)) || (r6.2 != 0)) || (r6.1 != r11)) hF (by kernel_rfl) (fun hb => ?_) (fun hb => ?_)
        · replace hm := if_t hm hb
          refine reg [] [] [4] [pl 4 (.bool false)] hF hS Fol (by kernel_rfl) (by kernel_rfl) (by kernel_rfl) obs_nil (fun a w hF hS => ?_)
          refine wpIn_ret ?_
          refine then_r ?_
          have hS := hS.pickN 6 [] (by decide)
          have hm : some false = some r := hm
          obtain rfl := Option.some.inj hm
          exact retV (rs := [.tmp 4]) (vs := [.bool false]) hF rfl (rv_t (by kernel_rfl) <| rv_nil) rfl ⟨rfl, hS⟩
        · replace hm := if_f hm hb
          refine wpIn_skip ?_
          refine then_n ?_
          have hS := hS.pickN 6 [1, 2, 4, 5, 0] (by decide)
          exact ⟨hF.weak [2, 3, 7, 8, 11] (by kernel_rfl), hS, hm⟩
    · obtain ⟨r7, hr7, hm⟩ := call_b hm
      refine reg [⟨false, [], vS (Instr.loadAt 75 (pa g1 0)), .agg (ca A1 p1.length c1 p2 p3 p4 p5 p6)⟩, ⟨false, [], callFunc 48 #[.agg (ca A1 p1.length c1 p2 p3 p4 p5 p6)], .bool r7⟩] [some (.agg (ca A1 p1.length c1 p2 p3 p4 p5 p6)), some (.bool r7), none] [2, 3, 5, 6, 7, 8, 9, 10, 33] [pl 2 (pa g1 0), pl 3 (pa g2 0), pl 5 (.slice A3 r2.1.length c3), pl 6 (vi r2.2), pl 7 (pa g4 0), pl 8 (vi f1), pl 9 (vi r6.1), pl 10 (vi r6.2), pl 33 (.bool (!r7))] hF hS Fol (by kernel_rfl) (by kernel_rfl) (by kernel_rfl) ?_ (fun a w hF hS => ?_)
      · exact obs_cons (ob_loadA (cs := (ca A1 p1.length c1 p2 p3 p4 p5 p6)) (by kernel_rfl) (by kernel_rfl) (fun _ _ hS => (hS.at_ 1 rfl).cellsAt 0 (by rfl))) <| obs_cons (ob_call Try.func48 (by kernel_rfl) rfl (fun _ _ hS => rf_ChessMay_w hr7 hS (fun _ hS => (hr_p1 _ (hS.dropN 6))) _hc_p1 rfl)) <| obs_nil
      refine cond_ev (t := 33) (b := !r7) hF (by kernel_rfl) (fun hb => ?_) (fun hb => ?_)
      · replace hm := if_t hm hb
        obtain ⟨r8, hr8, hm⟩ := call_b hm
        refine reg [⟨false, [((((r2.2 == 12) && (f1 == 12)) && (r6.2 == 12)) && ((r2.1.length : Int) == 0), true)], vS (Instr.loadAt 75 (pa g4 0)), .agg (ca A8 x1.length c8 x2 x3 x4 x5 x6)⟩, ⟨false, [((((r2.2 == 12) && (f1 == 12)) && (r6.2 == 12)) && ((r2.1.length : Int) == 0), true)], callFunc 52 #[.agg (ca A8 x1.length c8 x2 x3 x4 x5 x6)], .bool r8⟩] [none, none, none, none, none, none, none, none, none, none, none, none, none, none, none, none, some (.agg (ca A8 x1.length c8 x2 x3 x4 x5 x6)), some (.bool r8), none, none, none, none, none, none] [4] [pl 4 (.bool ((((((r2.2 == 12) && (f1 == 12)) && (r6.2 == 12)) && ((r2.1.length : Int) == 0)) && r8) && (r6.1 == 0)))] hF hS Fol (by kernel_rfl) (by kernel_rfl) (by kernel_rfl) ?_ (fun a w hF hS => ?_)
        · exact obs_cons (ob_loadA (cs := (ca A8 x1.length c8 x2 x3 x4 x5 x6)) (by kernel_rfl) (by kernel_rfl) (fun _ _ hS => (hS.at_ 4 rfl).cellsAt 0 (by rfl))) <| obs_cons (ob_call Try.func52 (by kernel_rfl) rfl (fun hy _ hS => lw_noChess_w (ite_some hr8 (by rw [show ((((r2.2 == 12) && (f1 == 12)) && (r6.2 == 12)) && ((r2.1.length : Int) == 0)) = true from hy ((((r2.2 == 12) && (f1 == 12)) && (r6.2 == 12)) && ((r2.1.length : Int) == 0), true) (by simp)]; try rfl)) hS (fun _ hS => (hS.at_ 5 rfl).rd) ((hS.at_ 5 rfl).cap1) rfl)) <| obs_nil
        refine wpIn_ret ?_
        refine then_r ?_
        have hS := hS.pickN 6 [] (by decide)
        have hm : some ((((((r2.2 == 12) && (f1 == 12)) && (r6.2 == 12)) && ((r2.1.length : Int) == 0)) && r8) && (r6.1 == 0)) = some r := hm
        obtain rfl := Option.some.inj hm
        exact retV (rs := [.tmp 4]) (vs := [.bool ((((((r2.2 == 12) && (f1 == 12)) && (r6.2 == 12)) && ((r2.1.length : Int) == 0)) && r8) && (r6.1 == 0))]) hF rfl (rv_t (by kernel_rfl) <| rv_nil) rfl ⟨rfl, hS⟩
      · replace hm := if_f hm hb
        refine wpIn_skip ?_
        refine then_n ?_
        have hS := hS.pickN 6 [1, 2, 3, 4, 5] (by decide)
        exact ⟨hF.weak [2, 3, 5, 6, 7, 8, 9, 10] (by kernel_rfl), hS, hm⟩
  · obtain ⟨r3, hr3, hm⟩ := call_b hm
    obtain ⟨r4, hr4, hm⟩ := call_b hm
    refine regMix5 [0, 2] [] 8 #[true, false, true, false, false, false, false, false, false, false] [⟨false, [], vS (Instr.loadAt 75 (pa g1 0)), .agg (ca A1 p1.length c1 p2 p3 p4 p5 p6)⟩, ⟨false, [], vS (Instr.loadAt 88 (pa g2 0)), .agg #[vi m1, vi m2, vi m3]⟩] [some (.agg (ca A1 p1.length c1 p2 p3 p4 p5 p6)), some (.agg #[vi m1, vi m2, vi m3])] [2, 3, 5, 6, 19, 21] [pl 2 (pa g1 0), pl 3 (pa g2 0), pl 5 (.slice A3 r2.1.length c3), pl 6 (vi r2.2), pl 19 (.agg (ca A1 p1.length c1 p2 p3 p4 p5 p6)), pl 21 (.agg #[vi m1, vi m2, vi m3])] hF hS Fol (by kernel_rfl) (by kernel_rfl) (by kernel_rfl) (by kernel_rfl) ?_ (fun a w hF hS => ?_)
    · exact obs_cons (ob_loadA (cs := (ca A1 p1.length c1 p2 p3 p4 p5 p6)) (by kernel_rfl) (by kernel_rfl) (fun _ _ hS => (hS.at_ 3 rfl).cellsAt 0 (by rfl))) <| obs_cons (ob_loadA (cs := #[vi m1, vi m2, vi m3]) (by kernel_rfl) (by kernel_rfl) (fun _ _ hS => (hS.at_ 2 rfl).cellsAt 0 (by rfl))) <| obs_nil
    refine any_step [1, 7] (by kernel_rfl) rfl ?_
    refine (all_cons ?_ (all_cons ?_ all_nil))
    · refine any_op (listed' := #[true, true, true, false, false, false, false, false, false, false]) (by kernel_rfl) (by kernel_rfl) ?_
      refine at_call (f := 47) (args := #[.agg (ca A1 p1.length c1 p2 p3 p4 p5 p6)]) (d := 20) hF (by kernel_rfl) (by kernel_rfl) Try.func47 (by kernel_rfl) rfl (rf_ChessOf_w hr3 hS (fun _ hS => (hr_p1 _ (hS.dropN 4))) _hc_p1 rfl) (fun v a w hR hF => ?_)
      clear hS
      obtain ⟨A6, c6, rfl, hS⟩ := hR
      have hS : Sep w0 B w (own 3 (.slice A6 r3.1.length c6) (vI r3.1) :: ownK 88 3 A3 r2.1.length c3 (List.flatMap enc88 r2.1) :: own 3 (.slice A2 r1.1.length c2) (vI r1.1) :: blk g2 88 #[vi m1, vi m2, vi m3] :: blk g1 75 (ca A1 p1.length c1 p2 p3 p4 p5 p6) :: fs) := hS
      refine any_fin rfl (hS.pickN 5 [1, 2, 3, 4] (by decide)) ?_
      refine any_step [3, 7] (by kernel_rfl) rfl ?_
      refine (all_cons ?_ (all_cons ?_ all_nil))
      · refine any_op (listed' := #[true, true, true, true, false, false, false, false, false, false]) (by kernel_rfl) (by kernel_rfl) ?_
        refine at_call (f := 56) (args := #[.agg (ca A6 r3.1.length c6 r3.2.1 r3.2.2.1 r3.2.2.2.1 r3.2.2.2.2.1 r3.2.2.2.2.2), .agg #[vi m1, vi m2, vi m3]]) (d := 22) hF (by kernel_rfl) (by kernel_rfl) Try.func56 (by kernel_rfl) rfl (moves_Do_w hr4 hS (fun _ hS => (hS.at_ 0 rfl).rd) ((hS.at_ 0 rfl).cap1) rfl) (fun v a w hR hF => ?_)
        clear hS
        obtain ⟨A7, c7, rfl, hS⟩ := hR
        have hS : Sep w0 B w (own 3 (.slice A7 r4.1.length c7) (vI r4.1) :: own 3 (.slice A6 r3.1.length c6) (vI r3.1) :: ownK 88 3 A3 r2.1.length c3 (List.flatMap enc88 r2.1) :: own 3 (.slice A2 r1.1.length c2) (vI r1.1) :: blk g2 88 #[vi m1, vi m2, vi m3] :: blk g1 75 (ca A1 p1.length c1 p2 p3 p4 p5 p6) :: fs) := hS
        refine any_fin rfl (hS.pickN 6 [2, 3, 4, 5] (by decide)) ?_
        refine any_step [4, 7] (by kernel_rfl) rfl ?_
        refine (all_cons ?_ (all_cons ?_ all_nil))
        · refine any_op (listed' := #[true, true, true, true, true, false, false, false, false, false]) (by kernel_rfl) (by kernel_rfl) ?_
          refine at_runW 1 [] [] [2, 3, 5, 6, 18] [pl 2 (pa g1 0), pl 3 (pa g2 0), pl 5 (.slice A3 r2.1.length c3), pl 6 (vi r2.2), pl 18 (.tuple #[.agg (ca A7 r4.1.length c7 r4.2.1 r4.2.2.1 r4.2.2.2.1 r4.2.2.2.2.1 r4.2.2.2.2.2.1), vi r4.2.2.2.2.2.2])] hF hS (by kernel_rfl) (by kernel_rfl) obs_nil (fun a hF => ?_)
          refine any_finI rfl (fun h => h) ?_
          refine any_step [5, 6, 7] (by kernel_rfl) rfl ?_
          refine (all_cons ?_ (all_cons ?_ (all_cons ?_ all_nil)))
          · refine any_op (listed' := #[true, true, true, true, true, true, false, false, false, false]) (by kernel_rfl) (by kernel_rfl) ?_
            refine at_runW 1 [] [] [2, 3, 5, 6, 18, 23] [pl 2 (pa g1 0), pl 3 (pa g2 0), pl 5 (.slice A3 r2.1.length c3), pl 6 (vi r2.2), pl 18 (.tuple #[.agg (ca A7 r4.1.length c7 r4.2.1 r4.2.2.1 r4.2.2.2.1 r4.2.2.2.2.1 r4.2.2.2.2.2.1), vi r4.2.2.2.2.2.2]), pl 23 (.agg (ca A7 r4.1.length c7 r4.2.1 r4.2.2.1 r4.2.2.2.1 r4.2.2.2.2.1 r4.2.2.2.2.2.1))] hF hS (by kernel_rfl) (by kernel_rfl) obs_nil (fun a hF => ?_)
            refine any_finI rfl (fun h => h) ?_
            refine any_step [6, 7] (by kernel_rfl) rfl ?_
            refine (all_cons ?_ (all_cons ?_ all_nil))
            · refine any_op (listed' := #[true, true, true, true, true, true, true, false, false, false]) (by kernel_rfl) (by kernel_rfl) ?_
              refine at_runW 1 [] [] [2, 3, 5, 6, 23, 24] [pl 2 (pa g1 0), pl 3 (pa g2 0), pl 5 (.slice A3 r2.1.length c3), pl 6 (vi r2.2), pl 23 (.agg (ca A7 r4.1.length c7 r4.2.1 r4.2.2.1 r4.2.2.2.1 r4.2.2.2.2.1 r4.2.2.2.2.2.1)), pl 24 (vi r4.2.2.2.2.2.2)] hF hS (by kernel_rfl) (by kernel_rfl) obs_nil (fun a hF => ?_)
              refine any_finI rfl (fun h => h) ?_
              refine any_step [7] (by kernel_rfl) rfl (all_cons ?_ all_nil)
              refine any_op (listed' := #[true, true, true, true, true, true, true, true, false, false]) (by kernel_rfl) (by kernel_rfl) ?_
              refine at_do (d := 7) (s := vS (Instr.alloc 75 true (.tuple #[]))) (v := pa w.heap.size 0) (w' := w.alloc (.cells (ca none 0 0 0 0 0 0 0) 75)) hF (by kernel_rfl) (by kernel_rfl) (by kernel_rfl) (fun a hF => ?_)
              have hS : Sep w0 B (w.alloc (.cells (ca none 0 0 0 0 0 0 0) 75)) (blk w.heap.size 75 (ca none 0 0 0 0 0 0 0) :: (own 3 (.slice A7 r4.1.length c7) (vI r4.1) :: own 3 (.slice A6 r3.1.length c6) (vI r3.1) :: ownK 88 3 A3 r2.1.length c3 (List.flatMap enc88 r2.1) :: own 3 (.slice A2 r1.1.length c2) (vI r1.1) :: blk g2 88 #[vi m1, vi m2, vi m3] :: blk g1 75 (ca A1 p1.length c1 p2 p3 p4 p5 p6) :: fs)) := hS.box 75 (ca none 0 0 0 0 0 0 0)
              generalize w.heap.size = g3 at hF hS
              generalize w.alloc (.cells (ca none 0 0 0 0 0 0 0) 75) = w at hS ⊢
              refine any_fin rfl (hS.pickN 7 [3, 4, 5, 6] (by decide)) ?_
              refine any_step [8] (by kernel_rfl) rfl (all_cons ?_ all_nil)
              refine any_op (listed' := #[true, true, true, true, true, true, true, true, true, false]) (by kernel_rfl) (by kernel_rfl) ?_
              obtain ⟨w, hrun, hS⟩ := run_putA (P := Try.prog) (t := 75) (us := (ca A7 r4.1.length c7 r4.2.1 r4.2.2.1 r4.2.2.2.1 r4.2.2.2.2.1 r4.2.2.2.2.2.1)) (o := 0) (hS.at_ 0 rfl) (by kernel_rfl) (all_one (by kernel_rfl)) (Nat.le_of_ble_eq_true (by kernel_rfl))
              refine at_skip hF (by kernel_rfl) hrun ?_
              have hS : Sep w0 B w (blk g3 75 (ca A7 r4.1.length c7 r4.2.1 r4.2.2.1 r4.2.2.2.1 r4.2.2.2.2.1 r4.2.2.2.2.2.1) :: own 3 (.slice A7 r4.1.length c7) (vI r4.1) :: own 3 (.slice A6 r3.1.length c6) (vI r3.1) :: ownK 88 3 A3 r2.1.length c3 (List.flatMap enc88 r2.1) :: own 3 (.slice A2 r1.1.length c2) (vI r1.1) :: blk g2 88 #[vi m1, vi m2, vi m3] :: blk g1 75 (ca A1 p1.length c1 p2 p3 p4 p5 p6) :: fs) := hS
              refine any_fin rfl (hS.pickN 7 [3, 4, 5, 6] (by decide)) ?_
              refine any_step [9] (by kernel_rfl) rfl (all_cons ?_ all_nil)
              refine any_op (listed' := #[true, true, true, true, true, true, true, true, true, true]) (by kernel_rfl) (by kernel_rfl) ?_
              refine at_runW 1 [] [] [2, 3, 5, 6, 7, 8] [pl 2 (pa g1 0), pl 3 (pa g2 0), pl 5 (.slice A3 r2.1.length c3), pl 6 (vi r2.2), pl 7 (pa g3 0), pl 8 (vi r4.2.2.2.2.2.2)] hF hS (by kernel_rfl) (by kernel_rfl) obs_nil (fun a hF => ?_)
              refine any_finI rfl (fun h => h) ?_
              refine any_end (by kernel_rfl) (np_n (then_n ?_))
              have hS := hS.pickN 7 [6, 5, 3, 0, 1] (by decide)
              exact ⟨r4.1, r4.2.1, r4.2.2.1, r4.2.2.2.1, r4.2.2.2.2.1, r4.2.2.2.2.2.1, r4.2.2.2.2.2.2, g3, A7, c7, hF.weak [2, 3, 5, 6, 7, 8] (by kernel_rfl), hS, hm⟩
            · refine any_op (listed' := #[true, true, true, true, true, true, false, true, false, false]) (by kernel_rfl) (by kernel_rfl) ?_
              refine at_do (d := 7) (s := vS (Instr.alloc 75 true (.tuple #[]))) (v := pa w.heap.size 0) (w' := w.alloc (.cells (ca none 0 0 0 0 0 0 0) 75)) hF (by kernel_rfl) (by kernel_rfl) (by kernel_rfl) (fun a hF => ?_)
              have hS : Sep w0 B (w.alloc (.cells (ca none 0 0 0 0 0 0 0) 75)) (blk w.heap.size 75 (ca none 0 0 0 0 0 0 0) :: (own 3 (.slice A7 r4.1.length c7) (vI r4.1) :: own 3 (.slice A6 r3.1.length c6) (vI r3.1) :: ownK 88 3 A3 r2.1.length c3 (List.flatMap enc88 r2.1) :: own 3 (.slice A2 r1.1.length c2) (vI r1.1) :: blk g2 88 #[vi m1, vi m2, vi m3] :: blk g1 75 (ca A1 p1.length c1 p2 p3 p4 p5 p6) :: fs)) := hS.box 75 (ca none 0 0 0 0 0 0 0)
              generalize w.heap.size = g3 at hF hS
              generalize w.alloc (.cells (ca none 0 0 0 0 0 0 0) 75) = w at hS ⊢
              refine any_fin rfl (hS.pickN 7 [3, 4, 5, 6] (by decide)) ?_
              refine any_step [6, 8] (by kernel_rfl) rfl ?_
              refine (all_cons ?_ (all_cons ?_ all_nil))
              · refine any_op (listed' := #[true, true, true, true, true, true, true, true, false, false]) (by kernel_rfl) (by kernel_rfl) ?_
                refine at_runW 1 [] [] [2, 3, 5, 6, 7, 23, 24] [pl 2 (pa g1 0), pl 3 (pa g2 0), pl 5 (.slice A3 r2.1.length c3), pl 6 (vi r2.2), pl 7 (pa g3 0), pl 23 (.agg (ca A7 r4.1.length c7 r4.2.1 r4.2.2.1 r4.2.2.2.1 r4.2.2.2.2.1 r4.2.2.2.2.2.1)), pl 24 (vi r4.2.2.2.2.2.2)] hF hS (by kernel_rfl) (by kernel_rfl) obs_nil (fun a hF => ?_)
                refine any_finI rfl (fun h => h) ?_
                refine any_step [8] (by kernel_rfl) rfl (all_cons ?_ all_nil)
                refine any_op (listed' := #[true, true, true, true, true, true, true, true, true, false]) (by kernel_rfl) (by kernel_rfl) ?_
                obtain ⟨w, hrun, hS⟩ := run_putA (P := Try.prog) (t := 75) (us := (ca A7 r4.1.length c7 r4.2.1 r4.2.2.1 r4.2.2.2.1 r4.2.2.2.2.1 r4.2.2.2.2.2.1)) (o := 0) (hS.at_ 0 rfl) (by kernel_rfl) (all_one (by kernel_rfl)) (Nat.le_of_ble_eq_true (by kernel_rfl))
                refine at_skip hF (by kernel_rfl) hrun ?_
                have hS : Sep w0 B w (blk g3 75 (ca A7 r4.1.length c7 r4.2.1 r4.2.2.1 r4.2.2.2.1 r4.2.2.2.2.1 r4.2.2.2.2.2.1) :: own 3 (.slice A7 r4.1.length c7) (vI r4.1) :: own 3 (.slice A6 r3.1.length c6) (vI r3.1) :: ownK 88 3 A3 r2.1.length c3 (List.flatMap enc88 r2.1) :: own 3 (.slice A2 r1.1.length c2) (vI r1.1) :: blk g2 88 #[vi m1, vi m2, vi m3] :: blk g1 75 (ca A1 p1.length c1 p2 p3 p4 p5 p6) :: fs) := hS
                refine any_fin rfl (hS.pickN 7 [3, 4, 5, 6] (by decide)) ?_
                refine any_step [9] (by kernel_rfl) rfl (all_cons ?_ all_nil)
                refine any_op (listed' := #[true, true, true, true, true, true, true, true, true, true]) (by kernel_rfl) (by kernel_rfl) ?_
                refine at_runW 1 [] [] [2, 3, 5, 6, 7, 8] [pl 2 (pa g1 0), pl 3 (pa g2 0), pl 5 (.slice A3 r2.1.length c3), pl 6 (vi r2.2), pl 7 (pa g3 0), pl 8 (vi r4.2.2.2.2.2.2)] hF hS (by kernel_rfl) (by kernel_rfl) obs_nil (fun a hF => ?_)
                refine any_finI rfl (fun h => h) ?_
                refine any_end (by kernel_rfl) (np_n (then_n ?_))
                have hS := hS.pickN 7 [6, 5, 3, 0, 1] (by decide)
                exact ⟨r4.1, r4.2.1, r4.2.2.1, r4.2.2.2.1, r4.2.2.2.2.1, r4.2.2.2.2.2.1, r4.2.2.2.2.2.2, g3, A7, c7, hF.weak [2, 3, 5, 6, 7, 8] (by kernel_rfl), hS, hm⟩
              · refine any_op (listed' := #[true, true, true, true, true, true, false, true, true, false]) (by kernel_rfl) (by kernel_rfl) ?_
                obtain ⟨w, hrun, hS⟩ := run_putA (P := Try.prog) (t := 75) (us := (ca A7 r4.1.length c7 r4.2.1 r4.2.2.1 r4.2.2.2.1 r4.2.2.2.2.1 r4.2.2.2.2.2.1)) (o := 0) (hS.at_ 0 rfl) (by kernel_rfl) (all_one (by kernel_rfl)) (Nat.le_of_ble_eq_true (by kernel_rfl))
                refine at_skip hF (by kernel_rfl) hrun ?_
                have hS : Sep w0 B w (blk g3 75 (ca A7 r4.1.length c7 r4.2.1 r4.2.2.1 r4.2.2.2.1 r4.2.2.2.2.1 r4.2.2.2.2.2.1) :: own 3 (.slice A7 r4.1.length c7) (vI r4.1) :: own 3 (.slice A6 r3.1.length c6) (vI r3.1) :: ownK 88 3 A3 r2.1.length c3 (List.flatMap enc88 r2.1) :: own 3 (.slice A2 r1.1.length c2) (vI r1.1) :: blk g2 88 #[vi m1, vi m2, vi m3] :: blk g1 75 (ca A1 p1.length c1 p2 p3 p4 p5 p6) :: fs) := hS
                refine any_fin rfl (hS.pickN 7 [3, 4, 5, 6] (by decide)) ?_
                refine any_step [6] (by kernel_rfl) rfl (all_cons ?_ all_nil)
                refine any_op (listed' := #[true, true, true, true, true, true, true, true, true, false]) (by kernel_rfl) (by kernel_rfl) ?_
                refine at_runW 1 [] [] [2, 3, 5, 6, 7, 24] [pl 2 (pa g1 0), pl 3 (pa g2 0), pl 5 (.slice A3 r2.1.length c3), pl 6 (vi r2.2), pl 7 (pa g3 0), pl 24 (vi r4.2.2.2.2.2.2)] hF hS (by kernel_rfl) (by kernel_rfl) obs_nil (fun a hF => ?_)
                refine any_finI rfl (fun h => h) ?_
                refine any_step [9] (by kernel_rfl) rfl (all_cons ?_ all_nil)
                refine any_op (listed' := #[true, true, true, true, true, true, true, true, true, true]) (by kernel_rfl) (by kernel_rfl) ?_
                refine at_runW 1 [] [] [2, 3, 5, 6, 7, 8] [pl 2 (pa g1 0), pl 3 (pa g2 0), pl 5 (.slice A3 r2.1.length c3), pl 6 (vi r2.2), pl 7 (pa g3 0), pl 8 (vi r4.2.2.2.2.2.2)] hF hS (by kernel_rfl) (by kernel_rfl) obs_nil (fun a hF => ?_)
                refine any_finI rfl (fun h => h) ?_
                refine any_end (by kernel_rfl) (np_n (then_n ?_))
                have hS := hS.pickN 7 [6, 5, 3, 0, 1] (by decide)
                exact ⟨r4.1, r4.2.1, r4.2.2.1, r4.2.2.2.1, r4.2.2.2.2.1, r4.2.2.2.2.2.1, r4.2.2.2.2.2.2, g3, A7, c7, hF.weak [2, 3, 5, 6, 7, 8] (by kernel_rfl), hS, hm⟩
          · refine any_op (listed' := #[true, true, true, true, true, false, true, false, false, false]) (by kernel_rfl) (by kernel_rfl) ?_
            refine at_runW 1 [] [] [2, 3, 5, 6, 18, 24] [pl 2 (pa g1 0), pl 3 (pa g2 0), pl 5 (.slice A3 r2.1.length c3), pl 6 (vi r2.2), pl 18 (.tuple #[.agg (ca A7 r4.1.length c7 r4.2.1 r4.2.2.1 r4.2.2.2.1 r4.2.2.2.2.1 r4.2.2.2.2.2.1), vi r4.2.2.2.2.2.2]), pl 24 (vi r4.2.2.2.2.2.2)] hF hS (by kernel_rfl) (by kernel_rfl) obs_nil (fun a hF => ?_)
            refine any_finI rfl (fun h => h) ?_
            refine any_step [5, 7] (by kernel_rfl) rfl ?_
            refine (all_cons ?_ (all_cons ?_ all_nil))
            · refine any_op (listed' := #[true, true, true, true, true, true, true, false, false, false]) (by kernel_rfl) (by kernel_rfl) ?_
              refine at_runW 1 [] [] [2, 3, 5, 6, 23, 24] [pl 2 (pa g1 0), pl 3 (pa g2 0), pl 5 (.slice A3 r2.1.length c3), pl 6 (vi r2.2), pl 23 (.agg (ca A7 r4.1.length c7 r4.2.1 r4.2.2.1 r4.2.2.2.1 r4.2.2.2.2.1 r4.2.2.2.2.2.1)), pl 24 (vi r4.2.2.2.2.2.2)] hF hS (by kernel_rfl) (by kernel_rfl) obs_nil (fun a hF => ?_)
              refine any_finI rfl (fun h => h) ?_
              refine any_step [7] (by kernel_rfl) rfl (all_cons ?_ all_nil)
              refine any_op (listed' := #[true, true, true, true, true, true, true, true, false, false]) (by kernel_rfl) (by kernel_rfl) ?_
              refine at_do (d := 7) (s := vS (Instr.alloc 75 true (.tuple #[]))) (v := pa w.heap.size 0) (w' := w.alloc (.cells (ca none 0 0 0 0 0 0 0) 75)) hF (by kernel_rfl) (by kernel_rfl) (by kernel_rfl) (fun a hF => ?_)
              have hS : Sep w0 B (w.alloc (.cells (ca none 0 0 0 0 0 0 0) 75)) (blk w.heap.size 75 (ca none 0 0 0 0 0 0 0) :: (own 3 (.slice A7 r4.1.length c7) (vI r4.1) :: own 3 (.slice A6 r3.1.length c6) (vI r3.1) :: ownK 88 3 A3 r2.1.length c3 (List.flatMap enc88 r2.1) :: own 3 (.slice A2 r1.1.length c2) (vI r1.1) :: blk g2 88 #[vi m1, vi m2, vi m3] :: blk g1 75 (ca A1 p1.length c1 p2 p3 p4 p5 p6) :: fs)) := hS.box 75 (ca none 0 0 0 0 0 0 0)
              generalize w.heap.size = g3 at hF hS
              generalize w.alloc (.cells (ca none 0 0 0 0 0 0 0) 75) = w at hS ⊢
              refine any_fin rfl (hS.pickN 7 [3, 4, 5, 6] (by decide)) ?_
              refine any_step [8] (by kernel_rfl) rfl (all_cons ?_ all_nil)
              refine any_op (listed' := #[true, true, true, true, true, true, true, true, true, false]) (by kernel_rfl) (by kernel_rfl) ?_
              obtain ⟨w, hrun, hS⟩ := run_putA (P := Try.prog) (t := 75) (us := (ca A7 r4.1.length c7 r4.2.1 r4.2.2.1 r4.2.2.2.1 r4.2.2.2.2.1 r4.2.2.2.2.2.1)) (o := 0) (hS.at_ 0 rfl) (by kernel_rfl) (all_one (by kernel_rfl)) (Nat.le_of_ble_eq_true (by kernel_rfl))
              refine at_skip hF (by kernel_rfl) hrun ?_
              have hS : Sep w0 B w (blk g3 75 (ca A7 r4.1.length c7 r4.2.1 r4.2.2.1 r4.2.2.2.1 r4.2.2.2.2.1 r4.2.2.2.2.2.1) :: own 3 (.slice A7 r4.1.length c7) (vI r4.1) :: own 3 (.slice A6 r3.1.length c6) (vI r3.1) :: ownK 88 3 A3 r2.1.length c3 (List.flatMap enc88 r2.1) :: own 3 (.slice A2 r1.1.length c2) (vI r1.1) :: blk g2 88 #[vi m1, vi m2, vi m3] :: blk g1 75 (ca A1 p1.length c1 p2 p3 p4 p5 p6) :: fs) := hS
              refine any_fin rfl (hS.pickN 7 [3, 4, 5, 6] (by decide)) ?_
              refine any_step [9] (by kernel_rfl) rfl (all_cons ?_ all_nil)
              refine any_op (listed' := #[true, true, true, true, true, true, true, true, true, true]) (by kernel_rfl) (by kernel_rfl) ?_
              refine at_runW 1 [] [] [2, 3, 5, 6, 7, 8] [pl 2 (pa g1 0), pl 3 (pa g2 0), pl 5 (.slice A3 r2.1.length c3), pl 6 (vi r2.2), pl 7 (pa g3 0), pl 8 (vi r4.2.2.2.2.2.2)] hF hS (by kernel_rfl) (by kernel_rfl) obs_nil (fun a hF => ?_)
              refine any_finI rfl (fun h => h) ?_
              refine any_end (by kernel_rfl) (np_n (then_n ?_))
              have hS := hS.pickN 7 [6, 5, 3, 0, 1] (by decide)
              exact ⟨r4.1, r4.2.1, r4.2.2.1, r4.2.2.2.1, r4.2.2.2.2.1, r4.2.2.2.2.2.1, r4.2.2.2.2.2.2, g3, A7, c7, hF.weak [2, 3, 5, 6, 7, 8] (by kernel_rfl), hS, hm⟩
            · refine any_op (listed' := #[true, true, true, true, true, false, true, true, false, false]) (by kernel_rfl) (by kernel_rfl) ?_
              refine at_do (d := 7) (s := vS (Instr.alloc 75 true (.tuple #[]))) (v := pa w.heap.size 0) (w' := w.alloc (.cells (ca none 0 0 0 0 0 0 0) 75)) hF (by kernel_rfl) (by kernel_rfl) (by kernel_rfl) (fun a hF => ?_)
              have hS : Sep w0 B (w.alloc (.cells (ca none 0 0 0 0 0 0 0) 75)) (blk w.heap.size 75 (ca none 0 0 0 0 0 0 0) :: (own 3 (.slice A7 r4.1.length c7) (vI r4.1) :: own 3 (.slice A6 r3.1.length c6) (vI r3.1) :: ownK 88 3 A3 r2.1.length c3 (List.flatMap enc88 r2.1) :: own 3 (.slice A2 r1.1.length c2) (vI r1.1) :: blk g2 88 #[vi m1, vi m2, vi m3] :: blk g1 75 (ca A1 p1.length c1 p2 p3 p4 p5 p6) :: fs)) := hS.box 75 (ca none 0 0 0 0 0 0 0)
              generalize w.heap.size = g3 at hF hS
              generalize w.alloc (.cells (ca none 0 0 0 0 0 0 0) 75) = w at hS ⊢
              refine any_fin rfl (hS.pickN 7 [3, 4, 5, 6] (by decide)) ?_
              refine any_step [5] (by kernel_rfl) rfl (all_cons ?_ all_nil)
              refine any_op (listed' := #[true, true, true, true, true, true, true, true, false, false]) (by kernel_rfl) (by kernel_rfl) ?_
              refine at_runW 1 [] [] [2, 3, 5, 6, 7, 23, 24] [pl 2 (pa g1 0), pl 3 (pa g2 0), pl 5 (.slice A3 r2.1.length c3), pl 6 (vi r2.2), pl 7 (pa g3 0), pl 23 (.agg (ca A7 r4.1.length c7 r4.2.1 r4.2.2.1 r4.2.2.2.1 r4.2.2.2.2.1 r4.2.2.2.2.2.1)), pl 24 (vi r4.2.2.2.2.2.2)] hF hS (by kernel_rfl) (by kernel_rfl) obs_nil (fun a hF => ?_)
              refine any_finI rfl (fun h => h) ?_
              refine any_step [8] (by kernel_rfl) rfl (all_cons ?_ all_nil)
              refine any_op (listed' := #[true, true, true, true, true, true, true, true, true, false]) (by kernel_rfl) (by kernel_rfl) ?_
              obtain ⟨w, hrun, hS⟩ := run_putA (P := Try.prog) (t := 75) (us := (ca A7 r4.1.length c7 r4.2.1 r4.2.2.1 r4.2.2.2.1 r4.2.2.2.2.1 r4.2.2.2.2.2.1)) (o := 0) (hS.at_ 0 rfl) (by kernel_rfl) (all_one (by kernel_rfl)) (Nat.le_of_ble_eq_true (by kernel_rfl))
              refine at_skip hF (by kernel_rfl) hrun ?_
              have hS : Sep w0 B w (blk g3 75 (ca A7 r4.1.length c7 r4.2.1 r4.2.2.1 r4.2.2.2.1 r4.2.2.2.2.1 r4.2.2.2.2.2.1) :: own 3 (.slice A7 r4.1.length c7) (vI r4.1) :: own 3 (.slice A6 r3.1.length c6) (vI r3.1) :: ownK 88 3 A3 r2.1.length c3 (List.flatMap enc88 r2.1) :: own 3 (.slice A2 r1.1.length c2) (vI r1.1) :: blk g2 88 #[vi m1, vi m2, vi m3] :: blk g1 75 (ca A1 p1.length c1 p2 p3 p4 p5 p6) :: fs) := hS
              refine any_fin rfl (hS.pickN 7 [3, 4, 5, 6] (by decide)) ?_
              refine any_step [9] (by kernel_rfl) rfl (all_cons ?_ all_nil)
              refine any_op (listed' := #[true, true, true, true, true, true, true, true, true, true]) (by kernel_rfl) (by kernel_rfl) ?_
              refine at_runW 1 [] [] [2, 3, 5, 6, 7, 8] [pl 2 (pa g1 0), pl 3 (pa g2 0), pl 5 (.slice A3 r2.1.length c3), pl 6 (vi r2.2), pl 7 (pa g3 0), pl 8 (vi r4.2.2.2.2.2.2)] hF hS (by kernel_rfl) (by kernel_rfl) obs_nil (fun a hF => ?_)
              refine any_finI rfl (fun h => h) ?_
              refine any_end (by kernel_rfl) (np_n (then_n ?_))
              have hS := hS.pickN 7 [6, 5, 3, 0, 1] (by decide)
              exact ⟨r4.1, r4.2.1, r4.2.2.1, r4.2.2.2.1, r4.2.2.2.2.1, r4.2.2.2.2.2.1, r4.2.2.2.2.2.2, g3, A7, c7, hF.weak [2, 3, 5, 6, 7, 8] (by kernel_rfl), hS, hm⟩
          · refine any_op (listed' := #[true, true, true, true, true, false, false, true, false, false]) (by kernel_rfl) (by kernel_rfl) ?_
            refine at_do (d := 7) (s := vS (Instr.alloc 75 true (.tuple #[]))) (v := pa w.heap.size 0) (w' := w.alloc (.cells (ca none 0 0 0 0 0 0 0) 75)) hF (by kernel_rfl) (by kernel_rfl) (by kernel_rfl) (fun a hF => ?_)
            have hS : Sep w0 B (w.alloc (.cells (ca none 0 0 0 0 0 0 0) 75)) (blk w.heap.size 75 (ca none 0 0 0 0 0 0 0) :: (own 3 (.slice A7 r4.1.length c7) (vI r4.1) :: own 3 (.slice A6 r3.1.length c6) (vI r3.1) :: ownK 88 3 A3 r2.1.length c3 (List.flatMap enc88 r2.1) :: own 3 (.slice A2 r1.1.length c2) (vI r1.1) :: blk g2 88 #[vi m1, vi m2, vi m3] :: blk g1 75 (ca A1 p1.length c1 p2 p3 p4 p5 p6) :: fs)) := hS.box 75 (ca none 0 0 0 0 0 0 0)
            generalize w.heap.size = g3 at hF hS
            generalize w.alloc (.cells (ca none 0 0 0 0 0 0 0) 75) = w at hS ⊢
            refine any_fin rfl (hS.pickN 7 [3, 4, 5, 6] (by decide)) ?_
            refine any_step [5, 6] (by kernel_rfl) rfl ?_
            refine (all_cons ?_ (all_cons ?_ all_nil))
            · refine any_op (listed' := #[true, true, true, true, true, true, false, true, false, false]) (by kernel_rfl) (by kernel_rfl) ?_
              refine at_runW 1 [] [] [2, 3, 5, 6, 7, 18, 23] [pl 2 (pa g1 0), pl 3 (pa g2 0), pl 5 (.slice A3 r2.1.length c3), pl 6 (vi r2.2), pl 7 (pa g3 0), pl 18 (.tuple #[.agg (ca A7 r4.1.length c7 r4.2.1 r4.2.2.1 r4.2.2.2.1 r4.2.2.2.2.1 r4.2.2.2.2.2.1), vi r4.2.2.2.2.2.2]), pl 23 (.agg (ca A7 r4.1.length c7 r4.2.1 r4.2.2.1 r4.2.2.2.1 r4.2.2.2.2.1 r4.2.2.2.2.2.1))] hF hS (by kernel_rfl) (by kernel_rfl) obs_nil (fun a hF => ?_)
              refine any_finI rfl (fun h => h) ?_
              refine any_step [6, 8] (by kernel_rfl) rfl ?_
              refine (all_cons ?_ (all_cons ?_ all_nil))
              · refine any_op (listed' := #[true, true, true, true, true, true, true, true, false, false]) (by kernel_rfl) (by kernel_rfl) ?_
                refine at_runW 1 [] [] [2, 3, 5, 6, 7, 23, 24] [pl 2 (pa g1 0), pl 3 (pa g2 0), pl 5 (.slice A3 r2.1.length c3), pl 6 (vi r2.2), pl 7 (pa g3 0), pl 23 (.agg (ca A7 r4.1.length c7 r4.2.1 r4.2.2.1 r4.2.2.2.1 r4.2.2.2.2.1 r4.2.2.2.2.2.1)), pl 24 (vi r4.2.2.2.2.2.2)] hF hS (by kernel_rfl) (by kernel_rfl) obs_nil (fun a hF => ?_)
                refine any_finI rfl (fun h => h) ?_
                refine any_step [8] (by kernel_rfl) rfl (all_cons ?_ all_nil)
                refine any_op (listed' := #[true, true, true, true, true, true, true, true, true, false]) (by kernel_rfl) (by kernel_rfl) ?_
                obtain ⟨w, hrun, hS⟩ := run_putA (P := Try.prog) (t := 75) (us := (ca A7 r4.1.length c7 r4.2.1 r4.2.2.1 r4.2.2.2.1 r4.2.2.2.2.1 r4.2.2.2.2.2.1)) (o := 0) (hS.at_ 0 rfl) (by kernel_rfl) (all_one (by kernel_rfl)) (Nat.le_of_ble_eq_true (by kernel_rfl))
                refine at_skip hF (by kernel_rfl) hrun ?_
                have hS : Sep w0 B w (blk g3 75 (ca A7 r4.1.length c7 r4.2.1 r4.2.2.1 r4.2.2.2.1 r4.2.2.2.2.1 r4.2.2.2.2.2.1) :: own 3 (.slice A7 r4.1.length c7) (vI r4.1) :: own 3 (.slice A6 r3.1.length c6) (vI r3.1) :: ownK 88 3 A3 r2.1.length c3 (List.flatMap enc88 r2.1) :: own 3 (.slice A2 r1.1.length c2) (vI r1.1) :: blk g2 88 #[vi m1, vi m2, vi m3] :: blk g1 75 (ca A1 p1.length c1 p2 p3 p4 p5 p6) :: fs) := hS
                refine any_fin rfl (hS.pickN 7 [3, 4, 5, 6] (by decide)) ?_
                refine any_step [9] (by kernel_rfl) rfl (all_cons ?_ all_nil)
                refine any_op (listed' := #[true, true, true, true, true, true, true, true, true, true]) (by kernel_rfl) (by kernel_rfl) ?_
                refine at_runW 1 [] [] [2, 3, 5, 6, 7, 8] [pl 2 (pa g1 0), pl 3 (pa g2 0), pl 5 (.slice A3 r2.1.length c3), pl 6 (vi r2.2), pl 7 (pa g3 0), pl 8 (vi r4.2.2.2.2.2.2)] hF hS (by kernel_rfl) (by kernel_rfl) obs_nil (fun a hF => ?_)
                refine any_finI rfl (fun h => h) ?_
                refine any_end (by kernel_rfl) (np_n (then_n ?_))
                have hS := hS.pickN 7 [6, 5, 3, 0, 1] (by decide)
                exact ⟨r4.1, r4.2.1, r4.2.2.1, r4.2.2.2.1, r4.2.2.2.2.1, r4.2.2.2.2.2.1, r4.2.2.2.2.2.2, g3, A7, c7, hF.weak [2, 3, 5, 6, 7, 8] (by kernel_rfl), hS, hm⟩
              · refine any_op (listed' := #[true, true, true, true, true, true, false, true, true, false]) (by kernel_rfl) (by kernel_rfl) ?_
                obtain ⟨w, hrun, hS⟩ := run_putA (P := Try.prog) (t := 75) (us := (ca A7 r4.1.length c7 r4.2.1 r4.2.2.1 r4.2.2.2.1 r4.2.2.2.2.1 r4.2.2.2.2.2.1)) (o := 0) (hS.at_ 0 rfl) (by kernel_rfl) (all_one (by kernel_rfl)) (Nat.le_of_ble_eq_true (by kernel_rfl))
                refine at_skip hF (by kernel_rfl) hrun ?_
                have hS : Sep w0 B w (blk g3 75 (ca A7 r4.1.length c7 r4.2.1 r4.2.2.1 r4.2.2.2.1 r4.2.2.2.2.1 r4.2.2.2.2.2.1) :: own 3 (.slice A7 r4.1.length c7) (vI r4.1) :: own 3 (.slice A6 r3.1.length c6) (vI r3.1) :: ownK 88 3 A3 r2.1.length c3 (List.flatMap enc88 r2.1) :: own 3 (.slice A2 r1.1.length c2) (vI r1.1) :: blk g2 88 #[vi m1, vi m2, vi m3] :: blk g1 75 (ca A1 p1.length c1 p2 p3 p4 p5 p6) :: fs) := hS
                refine any_fin rfl (hS.pickN 7 [3, 4, 5, 6] (by decide)) ?_
                refine any_step [6] (by kernel_rfl) rfl (all_cons ?_ all_nil)
                refine any_op (listed' := #[true, true, true, true, true, true, true, true, true, false]) (by kernel_rfl) (by kernel_rfl) ?_
                refine at_runW 1 [] [] [2, 3, 5, 6, 7, 24] [pl 2 (pa g1 0), pl 3 (pa g2 0), pl 5 (.slice A3 r2.1.length c3), pl 6 (vi r2.2), pl 7 (pa g3 0), pl 24 (vi r4.2.2.2.2.2.2)] hF hS (by kernel_rfl) (by kernel_rfl) obs_nil (fun a hF => ?_)
                refine any_finI rfl (fun h => h) ?_
                refine any_step [9] (by kernel_rfl) rfl (all_cons ?_ all_nil)
                refine any_op (listed' := #[true, true, true, true, true, true, true, true, true, true]) (by kernel_rfl) (by kernel_rfl) ?_
                refine at_runW 1 [] [] [2, 3, 5, 6, 7, 8] [pl 2 (pa g1 0), pl 3 (pa g2 0), pl 5 (.slice A3 r2.1.length c3), pl 6 (vi r2.2), pl 7 (pa g3 0), pl 8 (vi r4.2.2.2.2.2.2)] hF hS (by kernel_rfl) (by kernel_rfl) obs_nil (fun a hF => ?_)
                refine any_finI rfl (fun h => h) ?_
                refine any_end (by kernel_rfl) (np_n (then_n ?_))
                have hS := hS.pickN 7 [6, 5, 3, 0, 1] (by decide)
                exact ⟨r4.1, r4.2.1, r4.2.2.1, r4.2.2.2.1, r4.2.2.2.2.1, r4.2.2.2.2.2.1, r4.2.2.2.2.2.2, g3, A7, c7, hF.weak [2, 3, 5, 6, 7, 8] (by kernel_rfl), hS, hm⟩
            · refine any_op (listed' := #[true, true, true, true, true, false, true, true, false, false]) (by kernel_rfl) (by kernel_rfl) ?_
              refine at_runW 1 [] [] [2, 3, 5, 6, 7, 18, 24] [pl 2 (pa g1 0), pl 3 (pa g2 0), pl 5 (.slice A3 r2.1.length c3), pl 6 (vi r2.2), pl 7 (pa g3 0), pl 18 (.tuple #[.agg (ca A7 r4.1.length c7 r4.2.1 r4.2.2.1 r4.2.2.2.1 r4.2.2.2.2.1 r4.2.2.2.2.2.1), vi r4.2.2.2.2.2.2]), pl 24 (vi r4.2.2.2.2.2.2)] hF hS (by kernel_rfl) (by kernel_rfl) obs_nil (fun a hF => ?_)
              refine any_finI rfl (fun h => h) ?_
              refine any_step [5] (by kernel_rfl) rfl (all_cons ?_ all_nil)
              refine any_op (listed' := #[true, true, true, true, true, true, true, true, false, false]) (by kernel_rfl) (by kernel_rfl) ?_
              refine at_runW 1 [] [] [2, 3, 5, 6, 7, 23, 24] [pl 2 (pa g1 0), pl 3 (pa g2 0), pl 5 (.slice A3 r2.1.length c3), pl 6 (vi r2.2), pl 7 (pa g3 0), pl 23 (.agg (ca A7 r4.1.length c7 r4.2.1 r4.2.2.1 r4.2.2.2.1 r4.2.2.2.2.1 r4.2.2.2.2.2.1)), pl 24 (vi r4.2.2.2.2.2.2)] hF hS (by kernel_rfl) (by kernel_rfl) obs_nil (fun a hF => ?_)
              refine any_finI rfl (fun h => h) ?_
              refine any_step [8] (by kernel_rfl) rfl (all_cons ?_ all_nil)
              refine any_op (listed' := #[true, true, true, true, true, true, true, true, true, false]) (by kernel_rfl) (by kernel_rfl) ?_
              obtain ⟨w, hrun, hS⟩ := run_putA (P := Try.prog) (t := 75) (us := (ca A7 r4.1.length c7 r4.2.1 r4.2.2.1 r4.2.2.2.1 r4.2.2.2.2.1 r4.2.2.2.2.2.1)) (o := 0) (hS.at_ 0 rfl) (by kernel_rfl) (all_one (by kernel_rfl)) (Nat.le_of_ble_eq_true (by kernel_rfl))
              refine at_skip hF (by kernel_rfl) hrun ?_
              have hS : Sep w0 B w (blk g3 75 (ca A7 r4.1.length c7 r4.2.1 r4.2.2.1 r4.2.2.2.1 r4.2.2.2.2.1 r4.2.2.2.2.2.1) :: own 3 (.slice A7 r4.1.length c7) (vI r4.1) :: own 3 (.slice A6 r3.1.length c6) (vI r3.1) :: ownK 88 3 A3 r2.1.length c3 (List.flatMap enc88 r2.1) :: own 3 (.slice A2 r1.1.length c2) (vI r1.1) :: blk g2 88 #[vi m1, vi m2, vi m3] :: blk g1 75 (ca A1 p1.length c1 p2 p3 p4 p5 p6) :: fs) := hS
              refine any_fin rfl (hS.pickN 7 [3, 4, 5, 6] (by decide)) ?_
              refine any_step [9] (by kernel_rfl) rfl (all_cons ?_ all_nil)
              refine any_op (listed' := #[true, true, true, true, true, true, true, true, true, true]) (by kernel_rfl) (by kernel_rfl) ?_
              refine at_runW 1 [] [] [2, 3, 5, 6, 7, 8] [pl 2 (pa g1 0), pl 3 (pa g2 0), pl 5 (.slice A3 r2.1.length c3), pl 6 (vi r2.2), pl 7 (pa g3 0), pl 8 (vi r4.2.2.2.2.2.2)] hF hS (by kernel_rfl) (by kernel_rfl) obs_nil (fun a hF => ?_)
              refine any_finI rfl (fun h => h) ?_
              refine any_end (by kernel_rfl) (np_n (then_n ?_))
              have hS := hS.pickN 7 [6, 5, 3, 0, 1] (by decide)
              exact ⟨r4.1, r4.2.1, r4.2.2.1, r4.2.2.2.1, r4.2.2.2.2.1, r4.2.2.2.2.2.1, r4.2.2.2.2.2.2, g3, A7, c7, hF.weak [2, 3, 5, 6, 7, 8] (by kernel_rfl), hS, hm⟩
        · refine any_op (listed' := #[true, true, true, true, false, false, false, true, false, false]) (by kernel_rfl) (by kernel_rfl) ?_
          refine at_do (d := 7) (s := vS (Instr.alloc 75 true (.tuple #[]))) (v := pa w.heap.size 0) (w' := w.alloc (.cells (ca none 0 0 0 0 0 0 0) 75)) hF (by kernel_rfl) (by kernel_rfl) (by kernel_rfl) (fun a hF => ?_)
          have hS : Sep w0 B (w.alloc (.cells (ca none 0 0 0 0 0 0 0) 75)) (blk w.heap.size 75 (ca none 0 0 0 0 0 0 0) :: (own 3 (.slice A7 r4.1.length c7) (vI r4.1) :: own 3 (.slice A6 r3.1.length c6) (vI r3.1) :: ownK 88 3 A3 r2.1.length c3 (List.flatMap enc88 r2.1) :: own 3 (.slice A2 r1.1.length c2) (vI r1.1) :: blk g2 88 #[vi m1, vi m2, vi m3] :: blk g1 75 (ca A1 p1.length c1 p2 p3 p4 p5 p6) :: fs)) := hS.box 75 (ca none 0 0 0 0 0 0 0)
          generalize w.heap.size = g3 at hF hS
          generalize w.alloc (.cells (ca none 0 0 0 0 0 0 0) 75) = w at hS ⊢
          refine any_fin rfl (hS.pickN 7 [3, 4, 5, 6] (by decide)) ?_
          refine any_step [4] (by kernel_rfl) rfl (all_cons ?_ all_nil)
          refine any_op (listed' := #[true, true, true, true, true, false, false, true, false, false]) (by kernel_rfl) (by kernel_rfl) ?_
          refine at_runW 1 [] [] [2, 3, 5, 6, 7, 18] [pl 2 (pa g1 0), pl 3 (pa g2 0), pl 5 (.slice A3 r2.1.length c3), pl 6 (vi r2.2), pl 7 (pa g3 0), pl 18 (.tuple #[.agg (ca A7 r4.1.length c7 r4.2.1 r4.2.2.1 r4.2.2.2.1 r4.2.2.2.2.1 r4.2.2.2.2.2.1), vi r4.2.2.2.2.2.2])] hF hS (by kernel_rfl) (by kernel_rfl) obs_nil (fun a hF => ?_)
          refine any_finI rfl (fun h => h) ?_
          refine any_step [5, 6] (by kernel_rfl) rfl ?_
          refine (all_cons ?_ (all_cons ?_ all_nil))
          · refine any_op (listed' := #[true, true, true, true, true, true, false, true, false, false]) (by kernel_rfl) (by kernel_rfl) ?_
            refine at_runW 1 [] [] [2, 3, 5, 6, 7, 18, 23] [pl 2 (pa g1 0), pl 3 (pa g2 0), pl 5 (.slice A3 r2.1.length c3), pl 6 (vi r2.2), pl 7 (pa g3 0), pl 18 (.tuple #[.agg (ca A7 r4.1.length c7 r4.2.1 r4.2.2.1 r4.2.2.2.1 r4.2.2.2.2.1 r4.2.2.2.2.2.1), vi r4.2.2.2.2.2.2]), pl 23 (.agg (ca A7 r4.1.length c7 r4.2.1 r4.2.2.1 r4.2.2.2.1 r4.2.2.2.2.1 r4.2.2.2.2.2.1))] hF hS (by kernel_rfl) (by kernel_rfl) obs_nil (fun a hF => ?_)
            refine any_finI rfl (fun h => h) ?_
            refine any_step [6, 8] (by kernel_rfl) rfl ?_
            refine (all_cons ?_ (all_cons ?_ all_nil))
            · refine any_op (listed' := #[true, true, true, true, true, true, true, true, false, false]) (by kernel_rfl) (by kernel_rfl) ?_
              refine at_runW 1 [] [] [2, 3, 5, 6, 7, 23, 24] [pl 2 (pa g1 0), pl 3 (pa g2 0), pl 5 (.slice A3 r2.1.length c3), pl 6 (vi r2.2), pl 7 (pa g3 0), pl 23 (.agg (ca A7 r4.1.length c7 r4.2.1 r4.2.2.1 r4.2.2.2.1 r4.2.2.2.2.1 r4.2.2.2.2.2.1)), pl 24 (vi r4.2.2.2.2.2.2)] hF hS (by kernel_rfl) (by kernel_rfl) obs_nil (fun a hF => ?_)
              refine any_finI rfl (fun h => h) ?_
              refine any_step [8] (by kernel_rfl) rfl (all_cons ?_ all_nil)
              refine any_op (listed' := #[true, true, true, true, true, true, true, true, true, false]) (by kernel_rfl) (by kernel_rfl) ?_
              obtain ⟨w, hrun, hS⟩ := run_putA (P := Try.prog) (t := 75) (us := (ca A7 r4.1.length c7 r4.2.1 r4.2.2.1 r4.2.2.2.1 r4.2.2.2.2.1 r4.2.2.2.2.2.1)) (o := 0) (hS.at_ 0 rfl) (by kernel_rfl) (all_one (by kernel_rfl)) (Nat.le_of_ble_eq_true (by kernel_rfl))
              refine at_skip hF (by kernel_rfl) hrun ?_
              have hS : Sep w0 B w (blk g3 75 (ca A7 r4.1.length c7 r4.2.1 r4.2.2.1 r4.2.2.2.1 r4.2.2.2.2.1 r4.2.2.2.2.2.1) :: own 3 (.slice A7 r4.1.length c7) (vI r4.1) :: own 3 (.slice A6 r3.1.length c6) (vI r3.1) :: ownK 88 3 A3 r2.1.length c3 (List.flatMap enc88 r2.1) :: own 3 (.slice A2 r1.1.length c2) (vI r1.1) :: blk g2 88 #[vi m1, vi m2, vi m3] :: blk g1 75 (ca A1 p1.length c1 p2 p3 p4 p5 p6) :: fs) := hS
              refine any_fin rfl (hS.pickN 7 [3, 4, 5, 6] (by decide)) ?_
              refine any_step [9] (by kernel_rfl) rfl (all_cons ?_ all_nil)
              refine any_op (listed' := #[true, true, true, true, true, true, true, true, true, true]) (by kernel_rfl) (by kernel_rfl) ?_
              refine at_runW 1 [] [] [2, 3, 5, 6, 7, 8] [pl 2 (pa g1 0), pl 3 (pa g2 0), pl 5 (.slice A3 r2.1.length c3), pl 6 (vi r2.2), pl 7 (pa g3 0), pl 8 (vi r4.2.2.2.2.2.2)] hF hS (by kernel_rfl) (by kernel_rfl) obs_nil (fun a hF => ?_)
              refine any_finI rfl (fun h => h) ?_
              refine any_end (by kernel_rfl) (np_n (then_n ?_))
              have hS := hS.pickN 7 [6, 5, 3, 0, 1] (by decide)
              exact ⟨r4.1, r4.2.1, r4.2.2.1, r4.2.2.2.1, r4.2.2.2.2.1, r4.2.2.2.2.2.1, r4.2.2.2.2.2.2, g3, A7, c7, hF.weak [2, 3, 5, 6, 7, 8] (by kernel_rfl), hS, hm⟩
            · refine any_op (listed' := #[true, true, true, true, true, true, false, true, true, false]) (by kernel_rfl) (by kernel_rfl) ?_
              obtain ⟨w, hrun, hS⟩ := run_putA (P := Try.prog) (t := 75) (us := (ca A7 r4.1.length c7 r4.2.1 r4.2.2.1 r4.2.2.2.1 r4.2.2.2.2.1 r4.2.2.2.2.2.1)) (o := 0) (hS.at_ 0 rfl) (by kernel_rfl) (all_one (by kernel_rfl)) (Nat.le_of_ble_eq_true (by kernel_rfl))
              refine at_skip hF (by kernel_rfl) hrun ?_
              have hS : Sep w0 B w (blk g3 75 (ca A7 r4.1.length c7 r4.2.1 r4.2.2.1 r4.2.2.2.1 r4.2.2.2.2.1 r4.2.2.2.2.2.1) :: own 3 (.slice A7 r4.1.length c7) (vI r4.1) :: own 3 (.slice A6 r3.1.length c6) (vI r3.1) :: ownK 88 3 A3 r2.1.length c3 (List.flatMap enc88 r2.1) :: own 3 (.slice A2 r1.1.length c2) (vI r1.1) :: blk g2 88 #[vi m1, vi m2, vi m3] :: blk g1 75 (ca A1 p1.length c1 p2 p3 p4 p5 p6) :: fs) := hS
              refine any_fin rfl (hS.pickN 7 [3, 4, 5, 6] (by decide)) ?_
              refine any_step [6] (by kernel_rfl) rfl (all_cons ?_ all_nil)
              refine any_op (listed' := #[true, true, true, true, true, true, true, true, true, false]) (by kernel_rfl) (by kernel_rfl) ?_
              refine at_runW 1 [] [] [2, 3, 5, 6, 7, 24] [pl 2 (pa g1 0), pl 3 (pa g2 0), pl 5 (.slice A3 r2.1.length c3), pl 6 (vi r2.2), pl 7 (pa g3 0), pl 24 (vi r4.2.2.2.2.2.2)] hF hS (by kernel_rfl) (by kernel_rfl) obs_nil (fun a hF => ?_)
              refine any_finI rfl (fun h => h) ?_
              refine any_step [9] (by kernel_rfl) rfl (all_cons ?_ all_nil)
              refine any_op (listed' := #[true, true, true, true, true, true, true, true, true, true]) (by kernel_rfl) (by kernel_rfl) ?_
              refine at_runW 1 [] [] [2, 3, 5, 6, 7, 8] [pl 2 (pa g1 0), pl 3 (pa g2 0), pl 5 (.slice A3 r2.1.length c3), pl 6 (vi r2.2), pl 7 (pa g3 0), pl 8 (vi r4.2.2.2.2.2.2)] hF hS (by kernel_rfl) (by kernel_rfl) obs_nil (fun a hF => ?_)
              refine any_finI rfl (fun h => h) ?_
              refine any_end (by kernel_rfl) (np_n (then_n ?_))
              have hS := hS.pickN 7 [6, 5, 3, 0, 1] (by decide)
              exact ⟨r4.1, r4.2.1, r4.2.2.1, r4.2.2.2.1, r4.2.2.2.2.1, r4.2.2.2.2.2.1, r4.2.2.2.2.2.2, g3, A7, c7, hF.weak [2, 3, 5, 6, 7, 8] (by kernel_rfl), hS, hm⟩
          · refine any_op (listed' := #[true, true, true, true, true, false, true, true, false, false]) (by kernel_rfl) (by kernel_rfl) ?_
            refine at_runW 1 [] [] [2, 3, 5, 6, 7, 18, 24] [pl 2 (pa g1 0), pl 3 (pa g2 0), pl 5 (.slice A3 r2.1.length c3), pl 6 (vi r2.2), pl 7 (pa g3 0), pl 18 (.tuple #[.agg (ca A7 r4.1.length c7 r4.2.1 r4.2.2.1 r4.2.2.2.1 r4.2.2.2.2.1 r4.2.2.2.2.2.1), vi r4.2.2.2.2.2.2]), pl 24 (vi r4.2.2.2.2.2.2)] hF hS (by kernel_rfl) (by kernel_rfl) obs_nil (fun a hF => ?_)
            refine any_finI rfl (fun h => h) ?_
            refine any_step [5] (by kernel_rfl) rfl (all_cons ?_ all_nil)
            refine any_op (listed' := #[true, true, true, true, true, true, true, true, false, false]) (by kernel_rfl) (by kernel_rfl) ?_
            refine at_runW 1 [] [] [2, 3, 5, 6, 7, 23, 24] [pl 2 (pa g1 0), pl 3 (pa g2 0), pl 5 (.slice A3 r2.1.length c3), pl 6 (vi r2.2), pl 7 (pa g3 0), pl 23 (.agg (ca A7 r4.1.length c7 r4.2.1 r4.2.2.1 r4.2.2.2.1 r4.2.2.2.2.1 r4.2.2.2.2.2.1)), pl 24 (vi r4.2.2.2.2.2.2)] hF hS (by kernel_rfl) (by kernel_rfl) obs_nil (fun a hF => ?_)
            refine any_finI rfl (fun h => h) ?_
            refine any_step [8] (by kernel_rfl) rfl (all_cons ?_ all_nil)
            refine any_op (listed' := #[true, true, true, true, true, true, true, true, true, false]) (by kernel_rfl) (by kernel_rfl) ?_
            obtain ⟨w, hrun, hS⟩ := run_putA (P := Try.prog) (t := 75) (us := (ca A7 r4.1.length c7 r4.2.1 r4.2.2.1 r4.2.2.2.1 r4.2.2.2.2.1 r4.2.2.2.2.2.1)) (o := 0) (hS.at_ 0 rfl) (by kernel_rfl) (all_one (by kernel_rfl)) (Nat.le_of_ble_eq_true (by kernel_rfl))
            refine at_skip hF (by kernel_rfl) hrun ?_
            have hS : Sep w0 B w (blk g3 75 (ca A7 r4.1.length c7 r4.2.1 r4.2.2.1 r4.2.2.2.1 r4.2.2.2.2.1 r4.2.2.2.2.2.1) :: own 3 (.slice A7 r4.1.length c7) (vI r4.1) :: own 3 (.slice A6 r3.1.length c6) (vI r3.1) :: ownK 88 3 A3 r2.1.length c3 (List.flatMap enc88 r2.1) :: own 3 (.slice A2 r1.1.length c2) (vI r1.1) :: blk g2 88 #[vi m1, vi m2, vi m3] :: blk g1 75 (ca A1 p1.length c1 p2 p3 p4 p5 p6) :: fs) := hS
            refine any_fin rfl (hS.pickN 7 [3, 4, 5, 6] (by decide)) ?_
            refine any_step [9] (by kernel_rfl) rfl (all_cons ?_ all_nil)
            refine any_op (listed' := #[true, true, true, true, true, true, true, true, true, true]) (by kernel_rfl) (by kernel_rfl) ?_
            refine at_runW 1 [] [] [2, 3, 5, 6, 7, 8] [pl 2 (pa g1 0), pl 3 (pa g2 0), pl 5 (.slice A3 r2.1.length c3), pl 6 (vi r2.2), pl 7 (pa g3 0), pl 8 (vi r4.2.2.2.2.2.2)] hF hS (by kernel_rfl) (by kernel_rfl) obs_nil (fun a hF => ?_)
            refine any_finI rfl (fun h => h) ?_
            refine any_end (by kernel_rfl) (np_n (then_n ?_))
            have hS := hS.pickN 7 [6, 5, 3, 0, 1] (by decide)
            exact ⟨r4.1, r4.2.1, r4.2.2.1, r4.2.2.2.1, r4.2.2.2.2.1, r4.2.2.2.2.2.1, r4.2.2.2.2.2.2, g3, A7, c7, hF.weak [2, 3, 5, 6, 7, 8] (by kernel_rfl), hS, hm⟩
      · refine any_op (listed' := #[true, true, true, false, false, false, false, true, false, false]) (by kernel_rfl) (by kernel_rfl) ?_
        refine at_do (d := 7) (s := vS (Instr.alloc 75 true (.tuple #[]))) (v := pa w.heap.size 0) (w' := w.alloc (.cells (ca none 0 0 0 0 0 0 0) 75)) hF (by kernel_rfl) (by kernel_rfl) (by kernel_rfl) (fun a hF => ?_)
        have hS : Sep w0 B (w.alloc (.cells (ca none 0 0 0 0 0 0 0) 75)) (blk w.heap.size 75 (ca none 0 0 0 0 0 0 0) :: (own 3 (.slice A6 r3.1.length c6) (vI r3.1) :: ownK 88 3 A3 r2.1.length c3 (List.flatMap enc88 r2.1) :: own 3 (.slice A2 r1.1.length c2) (vI r1.1) :: blk g2 88 #[vi m1, vi m2, vi m3] :: blk g1 75 (ca A1 p1.length c1 p2 p3 p4 p5 p6) :: fs)) := hS.box 75 (ca none 0 0 0 0 0 0 0)
        generalize w.heap.size = g3 at hF hS
        generalize w.alloc (.cells (ca none 0 0 0 0 0 0 0) 75) = w at hS ⊢
        refine any_fin rfl (hS.pickN 6 [2, 3, 4, 5] (by decide)) ?_
        refine any_step [3] (by kernel_rfl) rfl (all_cons ?_ all_nil)
        refine any_op (listed' := #[true, true, true, true, false, false, false, true, false, false]) (by kernel_rfl) (by kernel_rfl) ?_
        refine at_call (f := 56) (args := #[.agg (ca A6 r3.1.length c6 r3.2.1 r3.2.2.1 r3.2.2.2.1 r3.2.2.2.2.1 r3.2.2.2.2.2), .agg #[vi m1, vi m2, vi m3]]) (d := 22) hF (by kernel_rfl) (by kernel_rfl) Try.func56 (by kernel_rfl) rfl (moves_Do_w hr4 hS (fun _ hS => (hS.at_ 1 rfl).rd) ((hS.at_ 1 rfl).cap1) rfl) (fun v a w hR hF => ?_)
        clear hS
        obtain ⟨A9, c9, rfl, hS⟩ := hR
        have hS : Sep w0 B w (own 3 (.slice A9 r4.1.length c9) (vI r4.1) :: blk g3 75 (ca none 0 0 0 0 0 0 0) :: own 3 (.slice A6 r3.1.length c6) (vI r3.1) :: ownK 88 3 A3 r2.1.length c3 (List.flatMap enc88 r2.1) :: own 3 (.slice A2 r1.1.length c2) (vI r1.1) :: blk g2 88 #[vi m1, vi m2, vi m3] :: blk g1 75 (ca A1 p1.length c1 p2 p3 p4 p5 p6) :: fs) := hS
        refine any_fin rfl (hS.pickN 7 [3, 4, 5, 6] (by decide)) ?_
        refine any_step [4] (by kernel_rfl) rfl (all_cons ?_ all_nil)
        refine any_op (listed' := #[true, true, true, true, true, false, false, true, false, false]) (by kernel_rfl) (by kernel_rfl) ?_
        refine at_runW 1 [] [] [2, 3, 5, 6, 7, 18] [pl 2 (pa g1 0), pl 3 (pa g2 0), pl 5 (.slice A3 r2.1.length c3), pl 6 (vi r2.2), pl 7 (pa g3 0), pl 18 (.tuple #[.agg (ca A9 r4.1.length c9 r4.2.1 r4.2.2.1 r4.2.2.2.1 r4.2.2.2.2.1 r4.2.2.2.2.2.1), vi r4.2.2.2.2.2.2])] hF hS (by kernel_rfl) (by kernel_rfl) obs_nil (fun a hF => ?_)
        refine any_finI rfl (fun h => h) ?_
        refine any_step [5, 6] (by kernel_rfl) rfl ?_
        refine (all_cons ?_ (all_cons ?_ all_nil))
        · refine any_op (listed' := #[true, true, true, true, true, true, false, true, false, false]) (by kernel_rfl) (by kernel_rfl) ?_
          refine at_runW 1 [] [] [2, 3, 5, 6, 7, 18, 23] [pl 2 (pa g1 0), pl 3 (pa g2 0), pl 5 (.slice A3 r2.1.length c3), pl 6 (vi r2.2), pl 7 (pa g3 0), pl 18 (.tuple #[.agg (ca A9 r4.1.length c9 r4.2.1 r4.2.2.1 r4.2.2.2.1 r4.2.2.2.2.1 r4.2.2.2.2.2.1), vi r4.2.2.2.2.2.2]), pl 23 (.agg (ca A9 r4.1.length c9 r4.2.1 r4.2.2.1 r4.2.2.2.1 r4.2.2.2.2.1 r4.2.2.2.2.2.1))] hF hS (by kernel_rfl) (by kernel_rfl) obs_nil (fun a hF => ?_)
          refine any_finI rfl (fun h => h) ?_
          refine any_step [6, 8] (by kernel_rfl) rfl ?_
          refine (all_cons ?_ (all_cons ?_ all_nil))
          · refine any_op (listed' := #[true, true, true, true, true, true, true, true, false, false]) (by kernel_rfl) (by kernel_rfl) ?_
            refine at_runW 1 [] [] [2, 3, 5, 6, 7, 23, 24] [pl 2 (pa g1 0), pl 3 (pa g2 0), pl 5 (.slice A3 r2.1.length c3), pl 6 (vi r2.2), pl 7 (pa g3 0), pl 23 (.agg (ca A9 r4.1.length c9 r4.2.1 r4.2.2.1 r4.2.2.2.1 r4.2.2.2.2.1 r4.2.2.2.2.2.1)), pl 24 (vi r4.2.2.2.2.2.2)] hF hS (by kernel_rfl) (by kernel_rfl) obs_nil (fun a hF => ?_)
            refine any_finI rfl (fun h => h) ?_
            refine any_step [8] (by kernel_rfl) rfl (all_cons ?_ all_nil)
            refine any_op (listed' := #[true, true, true, true, true, true, true, true, true, false]) (by kernel_rfl) (by kernel_rfl) ?_
            obtain ⟨w, hrun, hS⟩ := run_putA (P := Try.prog) (t := 75) (us := (ca A9 r4.1.length c9 r4.2.1 r4.2.2.1 r4.2.2.2.1 r4.2.2.2.2.1 r4.2.2.2.2.2.1)) (o := 0) (hS.at_ 1 rfl) (by kernel_rfl) (all_one (by kernel_rfl)) (Nat.le_of_ble_eq_true (by kernel_rfl))
            refine at_skip hF (by kernel_rfl) hrun ?_
            have hS : Sep w0 B w (own 3 (.slice A9 r4.1.length c9) (vI r4.1) :: blk g3 75 (ca A9 r4.1.length c9 r4.2.1 r4.2.2.1 r4.2.2.2.1 r4.2.2.2.2.1 r4.2.2.2.2.2.1) :: own 3 (.slice A6 r3.1.length c6) (vI r3.1) :: ownK 88 3 A3 r2.1.length c3 (List.flatMap enc88 r2.1) :: own 3 (.slice A2 r1.1.length c2) (vI r1.1) :: blk g2 88 #[vi m1, vi m2, vi m3] :: blk g1 75 (ca A1 p1.length c1 p2 p3 p4 p5 p6) :: fs) := hS
            refine any_fin rfl (hS.pickN 7 [3, 4, 5, 6] (by decide)) ?_
            refine any_step [9] (by kernel_rfl) rfl (all_cons ?_ all_nil)
            refine any_op (listed' := #[true, true, true, true, true, true, true, true, true, true]) (by kernel_rfl) (by kernel_rfl) ?_
            refine at_runW 1 [] [] [2, 3, 5, 6, 7, 8] [pl 2 (pa g1 0), pl 3 (pa g2 0), pl 5 (.slice A3 r2.1.length c3), pl 6 (vi r2.2), pl 7 (pa g3 0), pl 8 (vi r4.2.2.2.2.2.2)] hF hS (by kernel_rfl) (by kernel_rfl) obs_nil (fun a hF => ?_)
            refine any_finI rfl (fun h => h) ?_
            refine any_end (by kernel_rfl) (np_n (then_n ?_))
            have hS := hS.pickN 7 [6, 5, 3, 1, 0] (by decide)
            exact ⟨r4.1, r4.2.1, r4.2.2.1, r4.2.2.2.1, r4.2.2.2.2.1, r4.2.2.2.2.2.1, r4.2.2.2.2.2.2, g3, A9, c9, hF.weak [2, 3, 5, 6, 7, 8] (by kernel_rfl), hS, hm⟩
          · refine any_op (listed' := #[true, true, true, true, true, true, false, true, true, false]) (by kernel_rfl) (by kernel_rfl) ?_
            obtain ⟨w, hrun, hS⟩ := run_putA (P := Try.prog) (t := 75) (us := (ca A9 r4.1.length c9 r4.2.1 r4.2.2.1 r4.2.2.2.1 r4.2.2.2.2.1 r4.2.2.2.2.2.1)) (o := 0) (hS.at_ 1 rfl) (by kernel_rfl) (all_one (by kernel_rfl)) (Nat.le_of_ble_eq_true (by kernel_rfl))
            refine at_skip hF (by kernel_rfl) hrun ?_
            have hS : Sep w0 B w (own 3 (.slice A9 r4.1.length c9) (vI r4.1) :: blk g3 75 (ca A9 r4.1.length c9 r4.2.1 r4.2.2.1 r4.2.2.2.1 r4.2.2.2.2.1 r4.2.2.2.2.2.1) :: own 3 (.slice A6 r3.1.length c6) (vI r3.1) :: ownK 88 3 A3 r2.1.length c3 (List.flatMap enc88 r2.1) :: own 3 (.slice A2 r1.1.length c2) (vI r1.1) :: blk g2 88 #[vi m1, vi m2, vi m3] :: blk g1 75 (ca A1 p1.length c1 p2 p3 p4 p5 p6) :: fs) := hS
            refine any_fin rfl (hS.pickN 7 [3, 4, 5, 6] (by decide)) ?_
            refine any_step [6] (by kernel_rfl) rfl (all_cons ?_ all_nil)
            refine any_op (listed' := #[true, true, true, true, true, true, true, true, true, false]) (by kernel_rfl) (by kernel_rfl) ?_
            refine at_runW 1 [] [] [2, 3, 5, 6, 7, 24] [pl 2 (pa g1 0), pl 3 (pa g2 0), pl 5 (.slice A3 r2.1.length c3), pl 6 (vi r2.2), pl 7 (pa g3 0), pl 24 (vi r4.2.2.2.2.2.2)] hF hS (by kernel_rfl) (by kernel_rfl) obs_nil (fun a hF => ?_)
            refine any_finI rfl (fun h => h) ?_
            refine any_step [9] (by kernel_rfl) rfl (all_cons ?_ all_nil)
            refine any_op (listed' := #[true, true, true, true, true, true, true, true, true, true]) (by kernel_rfl) (by kernel_rfl) ?_
            refine at_runW 1 [] [] [2, 3, 5, 6, 7, 8] [pl 2 (pa g1 0), pl 3 (pa g2 0), pl 5 (.slice A3 r2.1.length c3), pl 6 (vi r2.2), pl 7 (pa g3 0), pl 8 (vi r4.2.2.2.2.2.2)] hF hS (by kernel_rfl) (by kernel_rfl) obs_nil (fun a hF => ?_)
            refine any_finI rfl (fun h => h) ?_
            refine any_end (by kernel_rfl) (np_n (then_n ?_))
            have hS := hS.pickN 7 [6, 5, 3, 1, 0] (by decide)
            exact ⟨r4.1, r4.2.1, r4.2.2.1, r4.2.2.2.1, r4.2.2.2.2.1, r4.2.2.2.2.2.1, r4.2.2.2.2.2.2, g3, A9, c9, hF.weak [2, 3, 5, 6, 7, 8] (by kernel_rfl), hS, hm⟩
        · refine any_op (listed' := #[true, true, true, true, true, false, true, true, false, false]) (by kernel_rfl) (by kernel_rfl) ?_
          refine at_runW 1 [] [] [2, 3, 5, 6, 7, 18, 24] [pl 2 (pa g1 0), pl 3 (pa g2 0), pl 5 (.slice A3 r2.1.length c3), pl 6 (vi r2.2), pl 7 (pa g3 0), pl 18 (.tuple #[.agg (ca A9 r4.1.length c9 r4.2.1 r4.2.2.1 r4.2.2.2.1 r4.2.2.2.2.1 r4.2.2.2.2.2.1), vi r4.2.2.2.2.2.2]), pl 24 (vi r4.2.2.2.2.2.2)] hF hS (by kernel_rfl) (by kernel_rfl) obs_nil (fun a hF => ?_)
          refine any_finI rfl (fun h => h) ?_
          refine any_step [5] (by kernel_rfl) rfl (all_cons ?_ all_nil)
          refine any_op (listed' := #[true, true, true, true, true, true, true, true, false, false]) (by kernel_rfl) (by kernel_rfl) ?_
          refine at_runW 1 [] [] [2, 3, 5, 6, 7, 23, 24] [pl 2 (pa g1 0), pl 3 (pa g2 0), pl 5 (.slice A3 r2.1.length c3), pl 6 (vi r2.2), pl 7 (pa g3 0), pl 23 (.agg (ca A9 r4.1.length c9 r4.2.1 r4.2.2.1 r4.2.2.2.1 r4.2.2.2.2.1 r4.2.2.2.2.2.1)), pl 24 (vi r4.2.2.2.2.2.2)] hF hS (by kernel_rfl) (by kernel_rfl) obs_nil (fun a hF => ?_)
          refine any_finI rfl (fun h => h) ?_
          refine any_step [8] (by kernel_rfl) rfl (all_cons ?_ all_nil)
          refine any_op (listed' := #[true, true, true, true, true, true, true, true, true, false]) (by kernel_rfl) (by kernel_rfl) ?_
          obtain ⟨w, hrun, hS⟩ := run_putA (P := Try.prog) (t := 75) (us := (ca A9 r4.1.length c9 r4.2.1 r4.2.2.1 r4.2.2.2.1 r4.2.2.2.2.1 r4.2.2.2.2.2.1)) (o := 0) (hS.at_ 1 rfl) (by kernel_rfl) (all_one (by kernel_rfl)) (Nat.le_of_ble_eq_true (by kernel_rfl))
          refine at_skip hF (by kernel_rfl) hrun ?_
          have hS : Sep w0 B w (own 3 (.slice A9 r4.1.length c9) (vI r4.1) :: blk g3 75 (ca A9 r4.1.length c9 r4.2.1 r4.2.2.1 r4.2.2.2.1 r4.2.2.2.2.1 r4.2.2.2.2.2.1) :: own 3 (.slice A6 r3.1.length c6) (vI r3.1) :: ownK 88 3 A3 r2.1.length c3 (List.flatMap enc88 r2.1) :: own 3 (.slice A2 r1.1.length c2) (vI r1.1) :: blk g2 88 #[vi m1, vi m2, vi m3] :: blk g1 75 (ca A1 p1.length c1 p2 p3 p4 p5 p6) :: fs) := hS
          refine any_fin rfl (hS.pickN 7 [3, 4, 5, 6] (by decide)) ?_
          refine any_step [9] (by kernel_rfl) rfl (all_cons ?_ all_nil)
          refine any_op (listed' := #[true, true, true, true, true, true, true, true, true, true]) (by kernel_rfl) (by kernel_rfl) ?_
          refine at_runW 1 [] [] [2, 3, 5, 6, 7, 8] [pl 2 (pa g1 0), pl 3 (pa g2 0), pl 5 (.slice A3 r2.1.length c3), pl 6 (vi r2.2), pl 7 (pa g3 0), pl 8 (vi r4.2.2.2.2.2.2)] hF hS (by kernel_rfl) (by kernel_rfl) obs_nil (fun a hF => ?_)
          refine any_finI rfl (fun h => h) ?_
          refine any_end (by kernel_rfl) (np_n (then_n ?_))
          have hS := hS.pickN 7 [6, 5, 3, 1, 0] (by decide)
          exact ⟨r4.1, r4.2.1, r4.2.2.1, r4.2.2.2.1, r4.2.2.2.2.1, r4.2.2.2.2.2.1, r4.2.2.2.2.2.2, g3, A9, c9, hF.weak [2, 3, 5, 6, 7, 8] (by kernel_rfl), hS, hm⟩
    · refine any_op (listed' := #[true, false, true, false, false, false, false, true, false, false]) (by kernel_rfl) (by kernel_rfl) ?_
      refine at_do (d := 7) (s := vS (Instr.alloc 75 true (.tuple #[]))) (v := pa w.heap.size 0) (w' := w.alloc (.cells (ca none 0 0 0 0 0 0 0) 75)) hF (by kernel_rfl) (by kernel_rfl) (by kernel_rfl) (fun a hF => ?_)
      have hS : Sep w0 B (w.alloc (.cells (ca none 0 0 0 0 0 0 0) 75)) (blk w.heap.size 75 (ca none 0 0 0 0 0 0 0) :: (ownK 88 3 A3 r2.1.length c3 (List.flatMap enc88 r2.1) :: own 3 (.slice A2 r1.1.length c2) (vI r1.1) :: blk g2 88 #[vi m1, vi m2, vi m3] :: blk g1 75 (ca A1 p1.length c1 p2 p3 p4 p5 p6) :: fs)) := hS.box 75 (ca none 0 0 0 0 0 0 0)
      generalize w.heap.size = g3 at hF hS
      generalize w.alloc (.cells (ca none 0 0 0 0 0 0 0) 75) = w at hS ⊢
      refine any_fin rfl (hS.pickN 5 [1, 2, 3, 4] (by decide)) ?_
      refine any_step [1] (by kernel_rfl) rfl (all_cons ?_ all_nil)
      refine any_op (listed' := #[true, true, true, false, false, false, false, true, false, false]) (by kernel_rfl) (by kernel_rfl) ?_
      refine at_call (f := 47) (args := #[.agg (ca A1 p1.length c1 p2 p3 p4 p5 p6)]) (d := 20) hF (by kernel_rfl) (by kernel_rfl) Try.func47 (by kernel_rfl) rfl (rf_ChessOf_w hr3 hS (fun _ hS => (hr_p1 _ (hS.dropN 5))) _hc_p1 rfl) (fun v a w hR hF => ?_)
      clear hS
      obtain ⟨A10, c10, rfl, hS⟩ := hR
      have hS : Sep w0 B w (own 3 (.slice A10 r3.1.length c10) (vI r3.1) :: blk g3 75 (ca none 0 0 0 0 0 0 0) :: ownK 88 3 A3 r2.1.length c3 (List.flatMap enc88 r2.1) :: own 3 (.slice A2 r1.1.length c2) (vI r1.1) :: blk g2 88 #[vi m1, vi m2, vi m3] :: blk g1 75 (ca A1 p1.length c1 p2 p3 p4 p5 p6) :: fs) := hS
      refine any_fin rfl (hS.pickN 6 [2, 3, 4, 5] (by decide)) ?_
      refine any_step [3] (by kernel_rfl) rfl (all_cons ?_ all_nil)
      refine any_op (listed' := #[true, true, true, true, false, false, false, true, false, false]) (by kernel_rfl) (by kernel_rfl) ?_
      refine at_call (f := 56) (args := #[.agg (ca A10 r3.1.length c10 r3.2.1 r3.2.2.1 r3.2.2.2.1 r3.2.2.2.2.1 r3.2.2.2.2.2), .agg #[vi m1, vi m2, vi m3]]) (d := 22) hF (by kernel_rfl) (by kernel_rfl) Try.func56 (by kernel_rfl) rfl (moves_Do_w hr4 hS (fun _ hS => (hS.at_ 0 rfl).rd) ((hS.at_ 0 rfl).cap1) rfl) (fun v a w hR hF => ?_)
      clear hS
      obtain ⟨A11, c11, rfl, hS⟩ := hR
      have hS : Sep w0 B w (own 3 (.slice A11 r4.1.length c11) (vI r4.1) :: own 3 (.slice A10 r3.1.length c10) (vI r3.1) :: blk g3 75 (ca none 0 0 0 0 0 0 0) :: ownK 88 3 A3 r2.1.length c3 (List.flatMap enc88 r2.1) :: own 3 (.slice A2 r1.1.length c2) (vI r1.1) :: blk g2 88 #[vi m1, vi m2, vi m3] :: blk g1 75 (ca A1 p1.length c1 p2 p3 p4 p5 p6) :: fs) := hS
      refine any_fin rfl (hS.pickN 7 [3, 4, 5, 6] (by decide)) ?_
      refine any_step [4] (by kernel_rfl) rfl (all_cons ?_ all_nil)
      refine any_op (listed' := #[true, true, true, true, true, false, false, true, false, false]) (by kernel_rfl) (by kernel_rfl) ?_
      refine at_runW 1 [] [] [2, 3, 5, 6, 7, 18] [pl 2 (pa g1 0), pl 3 (pa g2 0), pl 5 (.slice A3 r2.1.length c3), pl 6 (vi r2.2), pl 7 (pa g3 0), pl 18 (.tuple #[.agg (ca A11 r4.1.length c11 r4.2.1 r4.2.2.1 r4.2.2.2.1 r4.2.2.2.2.1 r4.2.2.2.2.2.1), vi r4.2.2.2.2.2.2])] hF hS (by kernel_rfl) (by kernel_rfl) obs_nil (fun a hF => ?_)
      refine any_finI rfl (fun h => h) ?_
      refine any_step [5, 6] (by kernel_rfl) rfl ?_
      refine (all_cons ?_ (all_cons ?_ all_nil))
      · refine any_op (listed' := #[true, true, true, true, true, true, false, true, false, false]) (by kernel_rfl) (by kernel_rfl) ?_
        refine at_runW 1 [] [] [2, 3, 5, 6, 7, 18, 23] [pl 2 (pa g1 0), pl 3 (pa g2 0), pl 5 (.slice A3 r2.1.length c3), pl 6 (vi r2.2), pl 7 (pa g3 0), pl 18 (.tuple #[.agg (ca A11 r4.1.length c11 r4.2.1 r4.2.2.1 r4.2.2.2.1 r4.2.2.2.2.1 r4.2.2.2.2.2.1), vi r4.2.2.2.2.2.2]), pl 23 (.agg (ca A11 r4.1.length c11 r4.2.1 r4.2.2.1 r4.2.2.2.1 r4.2.2.2.2.1 r4.2.2.2.2.2.1))] hF hS (by kernel_rfl) (by kernel_rfl) obs_nil (fun a hF => ?_)
        refine any_finI rfl (fun h => h) ?_
        refine any_step [6, 8] (by kernel_rfl) rfl ?_
        refine (all_cons ?_ (all_cons ?_ all_nil))
        · refine any_op (listed' := #[true, true, true, true, true, true, true, true, false, false]) (by kernel_rfl) (by kernel_rfl) ?_
          refine at_runW 1 [] [] [2, 3, 5, 6, 7, 23, 24] [pl 2 (pa g1 0), pl 3 (pa g2 0), pl 5 (.slice A3 r2.1.length c3), pl 6 (vi r2.2), pl 7 (pa g3 0), pl 23 (.agg (ca A11 r4.1.length c11 r4.2.1 r4.2.2.1 r4.2.2.2.1 r4.2.2.2.2.1 r4.2.2.2.2.2.1)), pl 24 (vi r4.2.2.2.2.2.2)] hF hS (by kernel_rfl) (by kernel_rfl) obs_nil (fun a hF => ?_)
          refine any_finI rfl (fun h => h) ?_
          refine any_step [8] (by kernel_rfl) rfl (all_cons ?_ all_nil)
          refine any_op (listed' := #[true, true, true, true, true, true, true, true, true, false]) (by kernel_rfl) (by kernel_rfl) ?_
          obtain ⟨w, hrun, hS⟩ := run_putA (P := Try.prog) (t := 75) (us := (ca A11 r4.1.length c11 r4.2.1 r4.2.2.1 r4.2.2.2.1 r4.2.2.2.2.1 r4.2.2.2.2.2.1)) (o := 0) (hS.at_ 2 rfl) (by kernel_rfl) (all_one (by kernel_rfl)) (Nat.le_of_ble_eq_true (by kernel_rfl))
          refine at_skip hF (by kernel_rfl) hrun ?_
          have hS : Sep w0 B w (own 3 (.slice A11 r4.1.length c11) (vI r4.1) :: own 3 (.slice A10 r3.1.length c10) (vI r3.1) :: blk g3 75 (ca A11 r4.1.length c11 r4.2.1 r4.2.2.1 r4.2.2.2.1 r4.2.2.2.2.1 r4.2.2.2.2.2.1) :: ownK 88 3 A3 r2.1.length c3 (List.flatMap enc88 r2.1) :: own 3 (.slice A2 r1.1.length c2) (vI r1.1) :: blk g2 88 #[vi m1, vi m2, vi m3] :: blk g1 75 (ca A1 p1.length c1 p2 p3 p4 p5 p6) :: fs) := hS
          refine any_fin rfl (hS.pickN 7 [3, 4, 5, 6] (by decide)) ?_
          refine any_step [9] (by kernel_rfl) rfl (all_cons ?_ all_nil)
          refine any_op (listed' := #[true, true, true, true, true, true, true, true, true, true]) (by kernel_rfl) (by kernel_rfl) ?_
          refine at_runW 1 [] [] [2, 3, 5, 6, 7, 8] [pl 2 (pa g1 0), pl 3 (pa g2 0), pl 5 (.slice A3 r2.1.length c3), pl 6 (vi r2.2), pl 7 (pa g3 0), pl 8 (vi r4.2.2.2.2.2.2)] hF hS (by kernel_rfl) (by kernel_rfl) obs_nil (fun a hF => ?_)
          refine any_finI rfl (fun h => h) ?_
          refine any_end (by kernel_rfl) (np_n (then_n ?_))
          have hS := hS.pickN 7 [6, 5, 3, 2, 0] (by decide)
          exact ⟨r4.1, r4.2.1, r4.2.2.1, r4.2.2.2.1, r4.2.2.2.2.1, r4.2.2.2.2.2.1, r4.2.2.2.2.2.2, g3, A11, c11, hF.weak [2, 3, 5, 6, 7, 8] (by kernel_rfl), hS, hm⟩
        · refine any_op (listed' := #[true, true, true, true, true, true, false, true, true, false]) (by kernel_rfl) (by kernel_rfl) ?_
          obtain ⟨w, hrun, hS⟩ := run_putA (P := Try.prog) (t := 75) (us := (ca A11 r4.1.length c11 r4.2.1 r4.2.2.1 r4.2.2.2.1 r4.2.2.2.2.1 r4.2.2.2.2.2.1)) (o := 0) (hS.at_ 2 rfl) (by kernel_rfl) (all_one (by kernel_rfl)) (Nat.le_of_ble_eq_true (by kernel_rfl))
          refine at_skip hF (by kernel_rfl) hrun ?_
          have hS : Sep w0 B w (own 3 (.slice A11 r4.1.length c11) (vI r4.1) :: own 3 (.slice A10 r3.1.length c10) (vI r3.1) :: blk g3 75 (ca A11 r4.1.length c11 r4.2.1 r4.2.2.1 r4.2.2.2.1 r4.2.2.2.2.1 r4.2.2.2.2.2.1) :: ownK 88 3 A3 r2.1.length c3 (List.flatMap enc88 r2.1) :: own 3 (.slice A2 r1.1.length c2) (vI r1.1) :: blk g2 88 #[vi m1, vi m2, vi m3] :: blk g1 75 (ca A1 p1.length c1 p2 p3 p4 p5 p6) :: fs) := hS
          refine any_fin rfl (hS.pickN 7 [3, 4, 5, 6] (by decide)) ?_
          refine any_step [6] (by kernel_rfl) rfl (all_cons ?_ all_nil)
          refine any_op (listed' := #[true, true, true, true, true, true, true, true, true, false]) (by kernel_rfl) (by kernel_rfl) ?_
          refine at_runW 1 [] [] [2, 3, 5, 6, 7, 24] [pl 2 (pa g1 0), pl 3 (pa g2 0), pl 5 (.slice A3 r2.1.length c3), pl 6 (vi r2.2), pl 7 (pa g3 0), pl 24 (vi r4.2.2.2.2.2.2)] hF hS (by kernel_rfl) (by kernel_rfl) obs_nil (fun a hF => ?_)
          refine any_finI rfl (fun h => h) ?_
          refine any_step [9] (by kernel_rfl) rfl (all_cons ?_ all_nil)
          refine any_op (listed' := #[true, true, true, true, true, true, true, true, true, true]) (by kernel_rfl) (by kernel_rfl) ?_
          refine at_runW 1 [] [] [2, 3, 5, 6, 7, 8] [pl 2 (pa g1 0), pl 3 (pa g2 0), pl 5 (.slice A3 r2.1.length c3), pl 6 (vi r2.2), pl 7 (pa g3 0), pl 8 (vi r4.2.2.2.2.2.2)] hF hS (by kernel_rfl) (by kernel_rfl) obs_nil (fun a hF => ?_)
          refine any_finI rfl (fun h => h) ?_
          refine any_end (by kernel_rfl) (np_n (then_n ?_))
          have hS := hS.pickN 7 [6, 5, 3, 2, 0] (by decide)
          exact ⟨r4.1, r4.2.1, r4.2.2.1, r4.2.2.2.1, r4.2.2.2.2.1, r4.2.2.2.2.2.1, r4.2.2.2.2.2.2, g3, A11, c11, hF.weak [2, 3, 5, 6, 7, 8] (by kernel_rfl), hS, hm⟩
      · refine any_op (listed' := #[true, true, true, true, true, false, true, true, false, false]) (by kernel_rfl) (by kernel_rfl) ?_
        refine at_runW 1 [] [] [2, 3, 5, 6, 7, 18, 24] [pl 2 (pa g1 0), pl 3 (pa g2 0), pl 5 (.slice A3 r2.1.length c3), pl 6 (vi r2.2), pl 7 (pa g3 0), pl 18 (.tuple #[.agg (ca A11 r4.1.length c11 r4.2.1 r4.2.2.1 r4.2.2.2.1 r4.2.2.2.2.1 r4.2.2.2.2.2.1), vi r4.2.2.2.2.2.2]), pl 24 (vi r4.2.2.2.2.2.2)] hF hS (by kernel_rfl) (by kernel_rfl) obs_nil (fun a hF => ?_)
        refine any_finI rfl (fun h => h) ?_
        refine any_step [5] (by kernel_rfl) rfl (all_cons ?_ all_nil)
        refine any_op (listed' := #[true, true, true, true, true, true, true, true, false, false]) (by kernel_rfl) (by kernel_rfl) ?_
        refine at_runW 1 [] [] [2, 3, 5, 6, 7, 23, 24] [pl 2 (pa g1 0), pl 3 (pa g2 0), pl 5 (.slice A3 r2.1.length c3), pl 6 (vi r2.2), pl 7 (pa g3 0), pl 23 (.agg (ca A11 r4.1.length c11 r4.2.1 r4.2.2.1 r4.2.2.2.1 r4.2.2.2.2.1 r4.2.2.2.2.2.1)), pl 24 (vi r4.2.2.2.2.2.2)] hF hS (by kernel_rfl) (by kernel_rfl) obs_nil (fun a hF => ?_)
        refine any_finI rfl (fun h => h) ?_
        refine any_step [8] (by kernel_rfl) rfl (all_cons ?_ all_nil)
        refine any_op (listed' := #[true, true, true, true, true, true, true, true, true, false]) (by kernel_rfl) (by kernel_rfl) ?_
        obtain ⟨w, hrun, hS⟩ := run_putA (P := Try.prog) (t := 75) (us := (ca A11 r4.1.length c11 r4.2.1 r4.2.2.1 r4.2.2.2.1 r4.2.2.2.2.1 r4.2.2.2.2.2.1)) (o := 0) (hS.at_ 2 rfl) (by kernel_rfl) (all_one (by kernel_rfl)) (Nat.le_of_ble_eq_true (by kernel_rfl))
        refine at_skip hF (by kernel_rfl) hrun ?_
        have hS : Sep w0 B w (own 3 (.slice A11 r4.1.length c11) (vI r4.1) :: own 3 (.slice A10 r3.1.length c10) (vI r3.1) :: blk g3 75 (ca A11 r4.1.length c11 r4.2.1 r4.2.2.1 r4.2.2.2.1 r4.2.2.2.2.1 r4.2.2.2.2.2.1) :: ownK 88 3 A3 r2.1.length c3 (List.flatMap enc88 r2.1) :: own 3 (.slice A2 r1.1.length c2) (vI r1.1) :: blk g2 88 #[vi m1, vi m2, vi m3] :: blk g1 75 (ca A1 p1.length c1 p2 p3 p4 p5 p6) :: fs) := hS
        refine any_fin rfl (hS.pickN 7 [3, 4, 5, 6] (by decide)) ?_
        refine any_step [9] (by kernel_rfl) rfl (all_cons ?_ all_nil)
        refine any_op (listed' := #[true, true, true, true, true, true, true, true, true, true]) (by kernel_rfl) (by kernel_rfl) ?_
        refine at_runW 1 [] [] [2, 3, 5, 6, 7, 8] [pl 2 (pa g1 0), pl 3 (pa g2 0), pl 5 (.slice A3 r2.1.length c3), pl 6 (vi r2.2), pl 7 (pa g3 0), pl 8 (vi r4.2.2.2.2.2.2)] hF hS (by kernel_rfl) (by kernel_rfl) obs_nil (fun a hF => ?_)
        refine any_finI rfl (fun h => h) ?_
        refine any_end (by kernel_rfl) (np_n (then_n ?_))
        have hS := hS.pickN 7 [6, 5, 3, 2, 0] (by decide)
        exact ⟨r4.1, r4.2.1, r4.2.2.1, r4.2.2.2.1, r4.2.2.2.2.1, r4.2.2.2.2.2.1, r4.2.2.2.2.2.2, g3, A11, c11, hF.weak [2, 3, 5, 6, 7, 8] (by kernel_rfl), hS, hm⟩

end Go.Proofs.Ytfmmlmiakkjaiaa
