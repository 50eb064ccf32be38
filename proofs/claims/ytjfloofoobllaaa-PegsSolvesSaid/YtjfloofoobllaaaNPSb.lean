/-
  Models and walks, printed by our own program (wip/gen).
-/
import Derived.Test.YtjfloofoobllaaaFB
import Derived.Test.YtjfloofoobllaaaLibMV
import Derived.Test.YtjfloofoobllaaaLibSk
import Derived.Test.YtjfloofoobllaaaLibSu
import Derived.Test.YtjfloofoobllaaaFM
import Derived.Test.YtjfloofoobllaaaLibSt
import Derived.Test.YtjfloofoobllaaaSF
import Derived.Test.YtjfloofoobllaaaNPSa
namespace Go.Proofs.Ytjfloofoobllaaa
open Go Go.GL Go.RowKit

noncomputable def pegs_search_run_2_m  (s_cells1 : List Int) (s_all1 : List (Int × Int × Int)) (s_tried1 : List (List UInt8 × Bool)) (row1 : List (Int × Int × Int)) (v1 : Int) (v2 : Int) (v3 : List (Int × Int × Int)) : Option (Bool × List Int × List (List UInt8 × Bool) × List (Int × Int × Int)) :=
  recM fun n => pegs_search_run_2_mF n s_cells1 s_all1 s_tried1 row1 v1 v2 v3

set_option maxRecDepth 100000 in
set_option maxHeartbeats 4000000 in
theorem pegs_search_run_2_wB  {rec_pegs_search_run_2 : List Int → List (Int × Int × Int) → List (List UInt8 × Bool) → List (Int × Int × Int) → Int → Int → List (Int × Int × Int) → Option (Bool × List Int × List (List UInt8 × Bool) × List (Int × Int × Int))} (ih_pegs_search_run_2 : ∀ {g1 : Nat} {A1 : Option Addr} {c1 : Nat} {n1 : Nat} {s_cells1 : List Int} {A2 : Option Addr} {c2 : Nat} {n2 : Nat} {s_all1 : List (Int × Int × Int)} {g2 : Nat} {s_tried1 : List (List UInt8 × Bool)} {A3 : Option Addr} {c3 : Nat} {n3 : Nat} {row1 : List (Int × Int × Int)} {es1 : List Sk} {g3 : Nat} {v1 : Int} {g4 : Nat} {v2 : Int} {g5 : Nat} {g6 : Nat} {A4 : Option Addr} {c4 : Nat} {n4 : Nat} {v3 : List (Int × Int × Int)} {r : (Bool × List Int × List (List UInt8 × Bool) × List (Int × Int × Int))} {w0 w : World} {B : Nat} {fs : List HP} (_ : rec_pegs_search_run_2 s_cells1 s_all1 s_tried1 row1 v1 v2 v3 = some r) (_ : Sep w0 B w (blk g1 117 #[.slice A1 n1 c1, .slice A2 n2 c2, .map (some g2)] :: own 3 (.slice A1 n1 c1) (vI s_cells1) :: ownK 119 3 A2 n2 c2 (List.flatMap enc119 s_all1) :: mapH kf9 Value.bool g2 s_tried1 :: stk 119 3 (fun m => List.flatMap enc119 m) A3 n3 c3 es1 row1 :: blk g3 3 #[.int .i64 v1] :: blk g4 3 #[.int .i64 v2] :: blk g5 111 #[.pointer (some ⟨g1, 0, none⟩)] :: blk g6 53 #[.slice A4 n4 c4] :: ownK 61 3 A4 n4 c4 (List.flatMap enc61 v3) :: fs)), Calls Try.prog 70 #[.pointer (some ⟨g1, 0, none⟩), .slice A3 n3 c3, .func (.func 71) #[] #[.pointer (some ⟨g3, 0, none⟩), .pointer (some ⟨g4, 0, none⟩), .pointer (some ⟨g5, 0, none⟩), .pointer (some ⟨g6, 0, none⟩)]] w fun e w' => ∃ v, e = .returned v ∧ ∃ (A5 : Option Addr) (c5 : Nat), v = .bool r.1 ∧ Sep w0 B w' (blk g1 117 #[.slice A1 n1 c1, .slice A2 n2 c2, .map (some g2)] :: own 3 (.slice A1 n1 c1) (vI r.2.1) :: ownK 119 3 A2 n2 c2 (List.flatMap enc119 s_all1) :: mapH kf9 Value.bool g2 r.2.2.1 :: stk 119 3 (fun m => List.flatMap enc119 m) A3 n3 c3 es1 row1 :: blk g3 3 #[.int .i64 v1] :: blk g4 3 #[.int .i64 v2] :: blk g5 111 #[.pointer (some ⟨g1, 0, none⟩)] :: blk g6 53 #[.slice A5 r.2.2.2.length c5] :: ownK 61 3 A5 r.2.2.2.length c5 (List.flatMap enc61 r.2.2.2) :: fs)) {g1 : Nat} {A1 : Option Addr} {c1 : Nat} {n1 : Nat} {s_cells1 : List Int} {A2 : Option Addr} {c2 : Nat} {n2 : Nat} {s_all1 : List (Int × Int × Int)} {g2 : Nat} {s_tried1 : List (List UInt8 × Bool)} {A3 : Option Addr} {c3 : Nat} {n3 : Nat} {row1 : List (Int × Int × Int)} {es1 : List Sk} {g3 : Nat} {v1 : Int} {g4 : Nat} {v2 : Int} {g5 : Nat} {g6 : Nat} {A4 : Option Addr} {c4 : Nat} {n4 : Nat} {v3 : List (Int × Int × Int)} {r : (Bool × List Int × List (List UInt8 × Bool) × List (Int × Int × Int))} {w0 w : World} {B : Nat} {fs : List HP} (hm : pegs_search_run_2_B rec_pegs_search_run_2 s_cells1 s_all1 s_tried1 row1 v1 v2 v3 = some r) (hS : Sep w0 B w (blk g1 117 #[.slice A1 n1 c1, .slice A2 n2 c2, .map (some g2)] :: own 3 (.slice A1 n1 c1) (vI s_cells1) :: ownK 119 3 A2 n2 c2 (List.flatMap enc119 s_all1) :: mapH kf9 Value.bool g2 s_tried1 :: stk 119 3 (fun m => List.flatMap enc119 m) A3 n3 c3 es1 row1 :: blk g3 3 #[.int .i64 v1] :: blk g4 3 #[.int .i64 v2] :: blk g5 111 #[.pointer (some ⟨g1, 0, none⟩)] :: blk g6 53 #[.slice A4 n4 c4] :: ownK 61 3 A4 n4 c4 (List.flatMap enc61 v3) :: fs)) :
    Calls Try.prog 70 #[.pointer (some ⟨g1, 0, none⟩), .slice A3 n3 c3, .func (.func 71) #[] #[.pointer (some ⟨g3, 0, none⟩), .pointer (some ⟨g4, 0, none⟩), .pointer (some ⟨g5, 0, none⟩), .pointer (some ⟨g6, 0, none⟩)]] w fun e w' => ∃ v, e = .returned v ∧ ∃ (A5 : Option Addr) (c5 : Nat), v = .bool r.1 ∧ Sep w0 B w' (blk g1 117 #[.slice A1 n1 c1, .slice A2 n2 c2, .map (some g2)] :: own 3 (.slice A1 n1 c1) (vI r.2.1) :: ownK 119 3 A2 n2 c2 (List.flatMap enc119 s_all1) :: mapH kf9 Value.bool g2 r.2.2.1 :: stk 119 3 (fun m => List.flatMap enc119 m) A3 n3 c3 es1 row1 :: blk g3 3 #[.int .i64 v1] :: blk g4 3 #[.int .i64 v2] :: blk g5 111 #[.pointer (some ⟨g1, 0, none⟩)] :: blk g6 53 #[.slice A5 r.2.2.2.length c5] :: ownK 61 3 A5 r.2.2.2.length c5 (List.flatMap enc61 r.2.2.2) :: fs) := by
  obtain ⟨i3, hi3, hz3, hs3, hb3⟩ := info_parts Info3
  obtain ⟨i61, hi61, hz61, hs61, hb61⟩ := info_parts Info61
  obtain ⟨i119, hi119, hz119, hs119, hb119⟩ := info_parts Info119
  obtain rfl := (hS.at_ 1 rfl).len1
  obtain rfl := (hS.at_ 2 rfl).lenK encK119
  obtain rfl := (hS.at_ 4 rfl).lenSk
  obtain rfl := (hS.at_ 9 rfl).lenK encK61
  unfold pegs_search_run_2_B at hm
  replace hm := start_b hm
  refine enter (l := [.pointer (some ⟨g1, 0, none⟩), .slice A3 row1.length c3, .func (.func 71) #[] #[.pointer (some ⟨g3, 0, none⟩), .pointer (some ⟨g4, 0, none⟩), .pointer (some ⟨g5, 0, none⟩), .pointer (some ⟨g6, 0, none⟩)]]) (n := 64) Try.func70 rfl rfl (by simp) (fun a hF => ?_)
  refine reg [] [] [0, 1, 2] [pl 0 (.pointer (some ⟨g1, 0, none⟩)), pl 1 (.slice A3 row1.length c3), pl 2 (.func (.func 71) #[] #[.pointer (some ⟨g3, 0, none⟩), .pointer (some ⟨g4, 0, none⟩), .pointer (some ⟨g5, 0, none⟩), .pointer (some ⟨g6, 0, none⟩)])] hF hS Fol (by kernel_rfl) (by kernel_rfl) (by kernel_rfl) ?_ (fun a w hF hS => ?_)
  · exact obs_nil
  refine seq_cut (fun a w => ∃ (done1 : List (Int × Int × Int)) (A7 : Option Addr) (c7 : Nat), Fr 64 [pl 0 (.pointer (some ⟨g1, 0, none⟩)), pl 1 (.slice A3 row1.length c3), pl 2 (.func (.func 71) #[] #[.pointer (some ⟨g3, 0, none⟩), .pointer (some ⟨g4, 0, none⟩), .pointer (some ⟨g5, 0, none⟩), .pointer (some ⟨g6, 0, none⟩)])] a ∧ Sep w0 B w (blk g1 117 #[.slice A1 s_cells1.length c1, .slice A2 s_all1.length c2, .map (some g2)] :: own 3 (.slice A1 s_cells1.length c1) (vI s_cells1) :: ownK 119 3 A2 s_all1.length c2 (List.flatMap enc119 s_all1) :: mapH kf9 Value.bool g2 s_tried1 :: stk 119 3 (fun m => List.flatMap enc119 m) A3 row1.length c3 es1 row1 :: blk g3 3 #[.int .i64 v1] :: blk g4 3 #[.int .i64 v2] :: blk g5 111 #[.pointer (some ⟨g1, 0, none⟩)] :: blk g6 53 #[.slice A7 done1.length c7] :: ownK 61 3 A7 done1.length c7 (List.flatMap enc61 done1) :: fs) ∧ ((pegs_search_run_2_J1 rec_pegs_search_run_2 s_cells1 s_all1 s_tried1 row1 v1 v2) done1).bind some = some r) ?_ ?_
  · rintro a w ⟨done1, A7, c7, hF, hS, hm⟩
    unfold pegs_search_run_2_J1 at hm
    obtain ⟨r2, hr2, hm⟩ := call_b hm
    refine reg [⟨false, [], callFunc 106 #[.pointer (some ⟨g1, 0, none⟩)], strV r2⟩] [none, some (strV r2), none] [0, 1, 2, 7] [pl 0 (.pointer (some ⟨g1, 0, none⟩)), pl 1 (.slice A3 row1.length c3), pl 2 (.func (.func 71) #[] #[.pointer (some ⟨g3, 0, none⟩), .pointer (some ⟨g4, 0, none⟩), .pointer (some ⟨g5, 0, none⟩), .pointer (some ⟨g6, 0, none⟩)]), pl 7 (strV r2)] hF hS Fol (by kernel_rfl) (by kernel_rfl) (by kernel_rfl) ?_ (fun a w hF hS => ?_)
    · exact obs_cons (ob_call Try.func106 (by kernel_rfl) rfl (fun _ _ hS => pegs_search_name_w hr2 hS )) <| obs_nil
    refine seq_cut (fun a w => Fr 64 [pl 0 (.pointer (some ⟨g1, 0, none⟩)), pl 1 (.slice A3 row1.length c3), pl 2 (.func (.func 71) #[] #[.pointer (some ⟨g3, 0, none⟩), .pointer (some ⟨g4, 0, none⟩), .pointer (some ⟨g5, 0, none⟩), .pointer (some ⟨g6, 0, none⟩)]), pl 7 (strV r2)] a ∧ Sep w0 B w (blk g1 117 #[.slice A1 s_cells1.length c1, .slice A2 s_all1.length c2, .map (some g2)] :: own 3 (.slice A1 s_cells1.length c1) (vI s_cells1) :: ownK 119 3 A2 s_all1.length c2 (List.flatMap enc119 s_all1) :: mapH kf9 Value.bool g2 s_tried1 :: stk 119 3 (fun m => List.flatMap enc119 m) A3 row1.length c3 es1 row1 :: blk g3 3 #[.int .i64 v1] :: blk g4 3 #[.int .i64 v2] :: blk g5 111 #[.pointer (some ⟨g1, 0, none⟩)] :: blk g6 53 #[.slice A7 done1.length c7] :: ownK 61 3 A7 done1.length c7 (List.flatMap enc61 done1) :: fs) ∧ ((pegs_search_run_2_J2 rec_pegs_search_run_2 s_cells1 s_all1 s_tried1 row1 v1 v2 done1 r2)).bind some = some r) ?_ ?_
    · rintro a w ⟨hF, hS, hm⟩
      unfold pegs_search_run_2_J2 at hm
      refine seqR ?_
      refine at_run 5 [⟨false, [], vS (Instr.loadAt 115 (.pointer (some ⟨g1, 2, none⟩))), .map (some g2)⟩] [none, none, none, some (.map (some g2)), none] [0, 1, 2, 25, 26] [pl 0 (.pointer (some ⟨g1, 0, none⟩)), pl 1 (.slice A3 row1.length c3), pl 2 (.func (.func 71) #[] #[.pointer (some ⟨g3, 0, none⟩), .pointer (some ⟨g4, 0, none⟩), .pointer (some ⟨g5, 0, none⟩), .pointer (some ⟨g6, 0, none⟩)]), pl 25 (.map (some g2)), pl 26 (strV r2)] hF hS (by kernel_rfl) (by kernel_rfl) ?_ (fun a w hF hS => ?_)
      · exact obs_cons (ob_load Agg115 (fun _ _ hS => (hS.at_ 0 rfl).cell rfl)) <| obs_nil
      obtain ⟨w, hrun, hS⟩ := run_mput (P := Try.prog) (t := 115) (vf := Value.bool) MK9 UndM115 r2 true (hS.at_ 3 rfl)
      refine at_skip hF (by kernel_rfl) hrun ?_
      have hS : Sep w0 B w (blk g1 117 #[.slice A1 s_cells1.length c1, .slice A2 s_all1.length c2, .map (some g2)] :: own 3 (.slice A1 s_cells1.length c1) (vI s_cells1) :: ownK 119 3 A2 s_all1.length c2 (List.flatMap enc119 s_all1) :: mapH kf9 Value.bool g2 (mput r2 true s_tried1) :: stk 119 3 (fun m => List.flatMap enc119 m) A3 row1.length c3 es1 row1 :: blk g3 3 #[.int .i64 v1] :: blk g4 3 #[.int .i64 v2] :: blk g5 111 #[.pointer (some ⟨g1, 0, none⟩)] :: blk g6 53 #[.slice A7 done1.length c7] :: ownK 61 3 A7 done1.length c7 (List.flatMap enc61 done1) :: fs) := hS
      refine at_end [0, 1, 2] [pl 0 (.pointer (some ⟨g1, 0, none⟩)), pl 1 (.slice A3 row1.length c3), pl 2 (.func (.func 71) #[] #[.pointer (some ⟨g3, 0, none⟩), .pointer (some ⟨g4, 0, none⟩), .pointer (some ⟨g5, 0, none⟩), .pointer (some ⟨g6, 0, none⟩)])] hF rfl (by kernel_rfl) (fun hF => ?_)
      refine then_n ?_
      refine seq_cut (fun a w => ∃ (s5 : List Int) (s6 : List (List UInt8 × Bool)) (v5 : List (Int × Int × Int)) (A9 : Option Addr) (c9 : Nat), Fr 64 [] a ∧ Sep w0 B w (blk g1 117 #[.slice A1 s_cells1.length c1, .slice A2 s_all1.length c2, .map (some g2)] :: own 3 (.slice A1 s_cells1.length c1) (vI s5) :: ownK 119 3 A2 s_all1.length c2 (List.flatMap enc119 s_all1) :: mapH kf9 Value.bool g2 s6 :: stk 119 3 (fun m => List.flatMap enc119 m) A3 row1.length c3 es1 row1 :: blk g3 3 #[.int .i64 v1] :: blk g4 3 #[.int .i64 v2] :: blk g5 111 #[.pointer (some ⟨g1, 0, none⟩)] :: blk g6 53 #[.slice A9 v5.length c9] :: ownK 61 3 A9 v5.length c9 (List.flatMap enc61 v5) :: fs) ∧ (pegs_search_run_2_J3 s5 s6 v5).bind some = some r) ?_ ?_
      · rintro a w ⟨s5, s6, v5, A9, c9, hF, hS, hm⟩
        unfold pegs_search_run_2_J3 at hm
        refine reg [] [] [6] [pl 6 (.bool false)] hF hS Fol (by kernel_rfl) (by kernel_rfl) (by kernel_rfl) ?_ (fun a w hF hS => ?_)
        · exact obs_nil
        refine wpIn_ret ?_
        have hm : some (false, s5, s6, v5) = some r := hm
        obtain rfl := Option.some.inj hm
        exact retV (rs := [.tmp 6]) (vs := [.bool false]) hF rfl (rv_t (by kernel_rfl) <| rv_nil) rfl ⟨_, rfl, A9, c9, rfl, hS⟩
      · refine reg [⟨false, [], vS (Instr.loadAt 114 (.pointer (some ⟨g1, 1, none⟩))), .slice A2 s_all1.length c2⟩] [none, none, none, some (.slice A2 s_all1.length c2), none, none] [0, 1, 2, 30, 31, 32] [pl 0 (.pointer (some ⟨g1, 0, none⟩)), pl 1 (.slice A3 row1.length c3), pl 2 (.func (.func 71) #[] #[.pointer (some ⟨g3, 0, none⟩), .pointer (some ⟨g4, 0, none⟩), .pointer (some ⟨g5, 0, none⟩), .pointer (some ⟨g6, 0, none⟩)]), pl 30 (.slice A2 s_all1.length c2), pl 31 (.int .i64 (s_all1.length : Int)), pl 32 (.int .i64 0)] hF hS Fol (by kernel_rfl) (by kernel_rfl) (by kernel_rfl) ?_ (fun a w hF hS => ?_)
        · exact obs_cons (ob_load Agg114 (fun _ _ hS => (hS.at_ 0 rfl).cell rfl)) <| obs_nil
        refine wpIn_block ?_
        refine wp_loop_model (S := (List Int × List (List UInt8 × Bool) × List (Int × Int × Int) × Int)) (R := (Fl (List Int × List (List UInt8 × Bool) × List (Int × Int × Int)) (Bool × List Int × List (List UInt8 × Bool) × List (Int × Int × Int)))) (pegs_search_run_2_L1 rec_pegs_search_run_2 s_all1 row1 v1 v2) (fun x => (pegs_search_run_2_K1 x).bind some) r (fun (x : (List Int × List (List UInt8 × Bool) × List (Int × Int × Int) × Int)) a w => ∃ (A8 : Option Addr) (c8 : Nat), Fr 64 [pl 0 (.pointer (some ⟨g1, 0, none⟩)), pl 1 (.slice A3 row1.length c3), pl 2 (.func (.func 71) #[] #[.pointer (some ⟨g3, 0, none⟩), .pointer (some ⟨g4, 0, none⟩), .pointer (some ⟨g5, 0, none⟩), .pointer (some ⟨g6, 0, none⟩)]), pl 30 (.slice A2 s_all1.length c2), pl 31 (.int .i64 (s_all1.length : Int)), pl 32 (.int .i64 x.2.2.2)] a ∧ Sep w0 B w (blk g1 117 #[.slice A1 s_cells1.length c1, .slice A2 s_all1.length c2, .map (some g2)] :: own 3 (.slice A1 s_cells1.length c1) (vI x.1) :: ownK 119 3 A2 s_all1.length c2 (List.flatMap enc119 s_all1) :: mapH kf9 Value.bool g2 x.2.1 :: stk 119 3 (fun m => List.flatMap enc119 m) A3 row1.length c3 es1 row1 :: blk g3 3 #[.int .i64 v1] :: blk g4 3 #[.int .i64 v2] :: blk g5 111 #[.pointer (some ⟨g1, 0, none⟩)] :: blk g6 53 #[.slice A8 x.2.2.1.length c8] :: ownK 61 3 A8 x.2.2.1.length c8 (List.flatMap enc61 x.2.2.1) :: fs)) (assoc_b hm) ⟨A7, c7, hF.weak [0, 1, 2, 30, 31, 32] (by kernel_rfl), hS⟩ ?_
        clear hF hS hm
        rintro nn1 ⟨s3, s4, done2, z1⟩ a w ⟨A8, c8, hF, hS⟩ hm
        generalize hφ1 : stK (pegs_search_run_2_L1 rec_pegs_search_run_2 s_all1 row1 v1 v2) nn1 (fun x => (pegs_search_run_2_K1 x).bind some) = φ1 at hm
        unfold pegs_search_run_2_L1 at hm
        dsimp only at hF hS hm
        refine reg [] [] [0, 1, 2, 30, 31, 32, 33] [pl 0 (.pointer (some ⟨g1, 0, none⟩)), pl 1 (.slice A3 row1.length c3), pl 2 (.func (.func 71) #[] #[.pointer (some ⟨g3, 0, none⟩), .pointer (some ⟨g4, 0, none⟩), .pointer (some ⟨g5, 0, none⟩), .pointer (some ⟨g6, 0, none⟩)]), pl 30 (.slice A2 s_all1.length c2), pl 31 (.int .i64 (s_all1.length : Int)), pl 32 (.int .i64 z1), pl 33 (.bool (decide (z1 < (s_all1.length : Int))))] hF hS Fol (by kernel_rfl) (by kernel_rfl) (by kernel_rfl) ?_ (fun a w hF hS => ?_)
        · exact obs_nil
        refine seq_cut (fun a w => Fr 64 [pl 0 (.pointer (some ⟨g1, 0, none⟩)), pl 1 (.slice A3 row1.length c3), pl 2 (.func (.func 71) #[] #[.pointer (some ⟨g3, 0, none⟩), .pointer (some ⟨g4, 0, none⟩), .pointer (some ⟨g5, 0, none⟩), .pointer (some ⟨g6, 0, none⟩)]), pl 30 (.slice A2 s_all1.length c2), pl 31 (.int .i64 (s_all1.length : Int)), pl 32 (.int .i64 z1)] a ∧ Sep w0 B w (blk g1 117 #[.slice A1 s_cells1.length c1, .slice A2 s_all1.length c2, .map (some g2)] :: own 3 (.slice A1 s_cells1.length c1) (vI s3) :: ownK 119 3 A2 s_all1.length c2 (List.flatMap enc119 s_all1) :: mapH kf9 Value.bool g2 s4 :: stk 119 3 (fun m => List.flatMap enc119 m) A3 row1.length c3 es1 row1 :: blk g3 3 #[.int .i64 v1] :: blk g4 3 #[.int .i64 v2] :: blk g5 111 #[.pointer (some ⟨g1, 0, none⟩)] :: blk g6 53 #[.slice A8 done2.length c8] :: ownK 61 3 A8 done2.length c8 (List.flatMap enc61 done2) :: fs) ∧ ((pegs_search_run_2_J4 rec_pegs_search_run_2 s_all1 row1 v1 v2 s3 s4 done2 z1)).bind φ1 = some r) ?_ ?_
        · rintro a w ⟨hF, hS, hm⟩
          unfold pegs_search_run_2_J4 at hm
          refine seq_cut (fun a w => ∃ (s7 : List Int) (s8 : List (List UInt8 × Bool)) (done3 : List (Int × Int × Int)) (A10 : Option Addr) (c10 : Nat), Fr 64 [pl 0 (.pointer (some ⟨g1, 0, none⟩)), pl 1 (.slice A3 row1.length c3), pl 2 (.func (.func 71) #[] #[.pointer (some ⟨g3, 0, none⟩), .pointer (some ⟨g4, 0, none⟩), .pointer (some ⟨g5, 0, none⟩), .pointer (some ⟨g6, 0, none⟩)]), pl 30 (.slice A2 s_all1.length c2), pl 31 (.int .i64 (s_all1.length : Int)), pl 32 (.int .i64 z1)] a ∧ Sep w0 B w (blk g1 117 #[.slice A1 s_cells1.length c1, .slice A2 s_all1.length c2, .map (some g2)] :: own 3 (.slice A1 s_cells1.length c1) (vI s7) :: ownK 119 3 A2 s_all1.length c2 (List.flatMap enc119 s_all1) :: mapH kf9 Value.bool g2 s8 :: stk 119 3 (fun m => List.flatMap enc119 m) A3 row1.length c3 es1 row1 :: blk g3 3 #[.int .i64 v1] :: blk g4 3 #[.int .i64 v2] :: blk g5 111 #[.pointer (some ⟨g1, 0, none⟩)] :: blk g6 53 #[.slice A10 done3.length c10] :: ownK 61 3 A10 done3.length c10 (List.flatMap enc61 done3) :: fs) ∧ ((pegs_search_run_2_J5 z1) s7 s8 done3).bind φ1 = some r) ?_ ?_
          · rintro a w ⟨s7, s8, done3, A10, c10, hF, hS, hm⟩
            unfold pegs_search_run_2_J5 at hm
            refine reg1 [] [] [0, 1, 2, 30, 31, 32] [pl 0 (.pointer (some ⟨g1, 0, none⟩)), pl 1 (.slice A3 row1.length c3), pl 2 (.func (.func 71) #[] #[.pointer (some ⟨g3, 0, none⟩), .pointer (some ⟨g4, 0, none⟩), .pointer (some ⟨g5, 0, none⟩), .pointer (some ⟨g6, 0, none⟩)]), pl 30 (.slice A2 s_all1.length c2), pl 31 (.int .i64 (s_all1.length : Int)), pl 32 (.int .i64 (w64 (z1 + 1)))] hF hS Fol (by kernel_rfl) (by kernel_rfl) (by kernel_rfl) ?_ (fun a w hF hS => ?_)
            · exact obs_nil
            refine then_n ?_
            rw [← hφ1] at hm
            exact ⟨(s7, s8, done3, (w64 (z1 + 1))), ⟨A10, c10, hF.weak [0, 1, 2, 30, 31, 32] (by kernel_rfl), hS⟩, hm⟩
          · refine wpIn_block ?_
            refine seqR ?_
            obtain ⟨hp1, hm⟩ := asrt_b hm
            refine at_run 2 [⟨true, [], vS (Instr.indexAt 114 (.slice A2 s_all1.length c2) (.int .i64 z1)), .pointer (some (sAddrK A2 3 z1))⟩, ⟨false, [], vS (Instr.loadAt 119 (.pointer (some (sAddrK A2 3 z1)))), .agg #[.int .i64 ((getd ((0, 0, 0) : (Int × Int × Int)) s_all1 z1).1), .int .i64 ((getd ((0, 0, 0) : (Int × Int × Int)) s_all1 z1).2.1), .int .i64 ((getd ((0, 0, 0) : (Int × Int × Int)) s_all1 z1).2.2)]⟩] [some (.pointer (some (sAddrK A2 3 z1))), some (.agg #[.int .i64 ((getd ((0, 0, 0) : (Int × Int × Int)) s_all1 z1).1), .int .i64 ((getd ((0, 0, 0) : (Int × Int × Int)) s_all1 z1).2.1), .int .i64 ((getd ((0, 0, 0) : (Int × Int × Int)) s_all1 z1).2.2)])] [0, 1, 2, 30, 31, 32, 35] [pl 0 (.pointer (some ⟨g1, 0, none⟩)), pl 1 (.slice A3 row1.length c3), pl 2 (.func (.func 71) #[] #[.pointer (some ⟨g3, 0, none⟩), .pointer (some ⟨g4, 0, none⟩), .pointer (some ⟨g5, 0, none⟩), .pointer (some ⟨g6, 0, none⟩)]), pl 30 (.slice A2 s_all1.length c2), pl 31 (.int .i64 (s_all1.length : Int)), pl 32 (.int .i64 z1), pl 35 (.agg #[.int .i64 ((getd ((0, 0, 0) : (Int × Int × Int)) s_all1 z1).1), .int .i64 ((getd ((0, 0, 0) : (Int × Int × Int)) s_all1 z1).2.1), .int .i64 ((getd ((0, 0, 0) : (Int × Int × Int)) s_all1 z1).2.2)])] hF hS (by kernel_rfl) (by kernel_rfl) ?_ (fun a w hF hS => ?_)
            · exact obs_cons (ob_ixK (m := s_all1) encK119 Und114 hi119 hs119 (hS.at_ 2 rfl).rdK rfl (fun _ => hp1)) <| obs_cons (ob_getK (n := s_all1.length) (m := s_all1) encK119 ((0, 0, 0) : (Int × Int × Int)) (by kernel_rfl) (by kernel_rfl) (fun _ hS => ⟨_, (hS.at_ 2 rfl).rdK⟩) (fun _ hS => rfl) (fun _ => hp1)) <| obs_nil
            refine at_do (d := 9) (s := vS (Instr.alloc 119 true (.tuple #[]))) (v := .pointer (some ⟨w.heap.size, 0, none⟩)) (w' := w.alloc (.cells #[.int .i64 0, .int .i64 0, .int .i64 0] 119)) hF (by kernel_rfl) (by kernel_rfl) (by kernel_rfl) (fun a hF => ?_)
            have hS : Sep w0 B (w.alloc (.cells #[.int .i64 0, .int .i64 0, .int .i64 0] 119)) (blk w.heap.size 119 #[.int .i64 0, .int .i64 0, .int .i64 0] :: (blk g1 117 #[.slice A1 s_cells1.length c1, .slice A2 s_all1.length c2, .map (some g2)] :: own 3 (.slice A1 s_cells1.length c1) (vI s3) :: ownK 119 3 A2 s_all1.length c2 (List.flatMap enc119 s_all1) :: mapH kf9 Value.bool g2 s4 :: stk 119 3 (fun m => List.flatMap enc119 m) A3 row1.length c3 es1 row1 :: blk g3 3 #[.int .i64 v1] :: blk g4 3 #[.int .i64 v2] :: blk g5 111 #[.pointer (some ⟨g1, 0, none⟩)] :: blk g6 53 #[.slice A8 done2.length c8] :: ownK 61 3 A8 done2.length c8 (List.flatMap enc61 done2) :: fs)) := hS.box 119 #[.int .i64 0, .int .i64 0, .int .i64 0]
            generalize w.heap.size = g7 at hF hS
            generalize w.alloc (.cells #[.int .i64 0, .int .i64 0, .int .i64 0] 119) = w at hS ⊢
            obtain ⟨w, hrun, hS⟩ := run_putA (P := Try.prog) (t := 119) (us := #[.int .i64 ((getd ((0, 0, 0) : (Int × Int × Int)) s_all1 z1).1), .int .i64 ((getd ((0, 0, 0) : (Int × Int × Int)) s_all1 z1).2.1), .int .i64 ((getd ((0, 0, 0) : (Int × Int × Int)) s_all1 z1).2.2)]) (o := 0) (hS.at_ 0 rfl) (by kernel_rfl) (all_one (by kernel_rfl)) (Nat.le_of_ble_eq_true (by kernel_rfl))
            refine at_skip hF (by kernel_rfl) hrun ?_
            have hS : Sep w0 B w (blk g7 119 #[.int .i64 ((getd ((0, 0, 0) : (Int × Int × Int)) s_all1 z1).1), .int .i64 ((getd ((0, 0, 0) : (Int × Int × Int)) s_all1 z1).2.1), .int .i64 ((getd ((0, 0, 0) : (Int × Int × Int)) s_all1 z1).2.2)] :: blk g1 117 #[.slice A1 s_cells1.length c1, .slice A2 s_all1.length c2, .map (some g2)] :: own 3 (.slice A1 s_cells1.length c1) (vI s3) :: ownK 119 3 A2 s_all1.length c2 (List.flatMap enc119 s_all1) :: mapH kf9 Value.bool g2 s4 :: stk 119 3 (fun m => List.flatMap enc119 m) A3 row1.length c3 es1 row1 :: blk g3 3 #[.int .i64 v1] :: blk g4 3 #[.int .i64 v2] :: blk g5 111 #[.pointer (some ⟨g1, 0, none⟩)] :: blk g6 53 #[.slice A8 done2.length c8] :: ownK 61 3 A8 done2.length c8 (List.flatMap enc61 done2) :: fs) := hS
            refine at_end [0, 1, 2, 9, 30, 31, 32] [pl 0 (.pointer (some ⟨g1, 0, none⟩)), pl 1 (.slice A3 row1.length c3), pl 2 (.func (.func 71) #[] #[.pointer (some ⟨g3, 0, none⟩), .pointer (some ⟨g4, 0, none⟩), .pointer (some ⟨g5, 0, none⟩), .pointer (some ⟨g6, 0, none⟩)]), pl 9 (.pointer (some ⟨g7, 0, none⟩)), pl 30 (.slice A2 s_all1.length c2), pl 31 (.int .i64 (s_all1.length : Int)), pl 32 (.int .i64 z1)] hF rfl (by kernel_rfl) (fun hF => ?_)
            refine then_n ?_
            refine seq_cut (fun a w => Fr 64 [pl 0 (.pointer (some ⟨g1, 0, none⟩)), pl 1 (.slice A3 row1.length c3), pl 2 (.func (.func 71) #[] #[.pointer (some ⟨g3, 0, none⟩), .pointer (some ⟨g4, 0, none⟩), .pointer (some ⟨g5, 0, none⟩), .pointer (some ⟨g6, 0, none⟩)]), pl 9 (.pointer (some ⟨g7, 0, none⟩)), pl 30 (.slice A2 s_all1.length c2), pl 31 (.int .i64 (s_all1.length : Int)), pl 32 (.int .i64 z1)] a ∧ Sep w0 B w (blk g1 117 #[.slice A1 s_cells1.length c1, .slice A2 s_all1.length c2, .map (some g2)] :: own 3 (.slice A1 s_cells1.length c1) (vI s3) :: ownK 119 3 A2 s_all1.length c2 (List.flatMap enc119 s_all1) :: mapH kf9 Value.bool g2 s4 :: stk 119 3 (fun m => List.flatMap enc119 m) A3 row1.length c3 es1 row1 :: blk g3 3 #[.int .i64 v1] :: blk g4 3 #[.int .i64 v2] :: blk g5 111 #[.pointer (some ⟨g1, 0, none⟩)] :: blk g6 53 #[.slice A8 done2.length c8] :: ownK 61 3 A8 done2.length c8 (List.flatMap enc61 done2) :: blk g7 119 #[.int .i64 ((getd ((0, 0, 0) : (Int × Int × Int)) s_all1 z1).1), .int .i64 ((getd ((0, 0, 0) : (Int × Int × Int)) s_all1 z1).2.1), .int .i64 ((getd ((0, 0, 0) : (Int × Int × Int)) s_all1 z1).2.2)] :: fs) ∧ ((pegs_search_run_2_J6 rec_pegs_search_run_2 s_all1 row1 v1 v2 s3 s4 done2 z1)).bind φ1 = some r) ?_ ?_
            · rintro a w ⟨hF, hS, hm⟩
              unfold pegs_search_run_2_J6 at hm
              refine wpIn_seq ?_
              obtain ⟨r4, hr4, hm⟩ := call_b hm
              refine regMix4 [0, 1, 2, 3, 4] [5] [⟨false, [], vS (Instr.loadAt 119 (.pointer (some ⟨g7, 0, none⟩))), .agg #[.int .i64 ((getd ((0, 0, 0) : (Int × Int × Int)) s_all1 z1).1), .int .i64 ((getd ((0, 0, 0) : (Int × Int × Int)) s_all1 z1).2.1), .int .i64 ((getd ((0, 0, 0) : (Int × Int × Int)) s_all1 z1).2.2)]⟩, ⟨false, [], vS (Instr.loadAt 22 (.pointer (some ⟨g1, 0, none⟩))), .slice A1 s_cells1.length c1⟩] [some (.agg #[.int .i64 ((getd ((0, 0, 0) : (Int × Int × Int)) s_all1 z1).1), .int .i64 ((getd ((0, 0, 0) : (Int × Int × Int)) s_all1 z1).2.1), .int .i64 ((getd ((0, 0, 0) : (Int × Int × Int)) s_all1 z1).2.2)]), none, none, none, some (.slice A1 s_cells1.length c1)] [0, 1, 2, 9, 30, 31, 32, 43, 47] [pl 0 (.pointer (some ⟨g1, 0, none⟩)), pl 1 (.slice A3 row1.length c3), pl 2 (.func (.func 71) #[] #[.pointer (some ⟨g3, 0, none⟩), .pointer (some ⟨g4, 0, none⟩), .pointer (some ⟨g5, 0, none⟩), .pointer (some ⟨g6, 0, none⟩)]), pl 9 (.pointer (some ⟨g7, 0, none⟩)), pl 30 (.slice A2 s_all1.length c2), pl 31 (.int .i64 (s_all1.length : Int)), pl 32 (.int .i64 z1), pl 43 (.agg #[.int .i64 ((getd ((0, 0, 0) : (Int × Int × Int)) s_all1 z1).1), .int .i64 ((getd ((0, 0, 0) : (Int × Int × Int)) s_all1 z1).2.1), .int .i64 ((getd ((0, 0, 0) : (Int × Int × Int)) s_all1 z1).2.2)]), pl 47 (.slice A1 s_cells1.length c1)] hF hS Fol (by kernel_rfl) (by kernel_rfl) (by kernel_rfl) (by kernel_rfl) (by kernel_rfl) ?_ (fun a w hF hS => ?_)
              · exact obs_cons (ob_loadA (cs := #[.int .i64 ((getd ((0, 0, 0) : (Int × Int × Int)) s_all1 z1).1), .int .i64 ((getd ((0, 0, 0) : (Int × Int × Int)) s_all1 z1).2.1), .int .i64 ((getd ((0, 0, 0) : (Int × Int × Int)) s_all1 z1).2.2)]) (by kernel_rfl) (by kernel_rfl) (fun _ _ hS => (hS.at_ 10 rfl).cellsAt 0 (by rfl))) <| obs_cons (ob_load Agg22 (fun _ _ hS => (hS.at_ 0 rfl).cell rfl)) <| obs_nil
              have hS : Sep w0 B w (own 3 (.slice A1 s_cells1.length c1) (vI s3) :: blk g1 117 #[.slice A1 s_cells1.length c1, .slice A2 s_all1.length c2, .map (some g2)] :: ownK 119 3 A2 s_all1.length c2 (List.flatMap enc119 s_all1) :: mapH kf9 Value.bool g2 s4 :: stk 119 3 (fun m => List.flatMap enc119 m) A3 row1.length c3 es1 row1 :: blk g3 3 #[.int .i64 v1] :: blk g4 3 #[.int .i64 v2] :: blk g5 111 #[.pointer (some ⟨g1, 0, none⟩)] :: blk g6 53 #[.slice A8 done2.length c8] :: ownK 61 3 A8 done2.length c8 (List.flatMap enc61 done2) :: blk g7 119 #[.int .i64 ((getd ((0, 0, 0) : (Int × Int × Int)) s_all1 z1).1), .int .i64 ((getd ((0, 0, 0) : (Int × Int × Int)) s_all1 z1).2.1), .int .i64 ((getd ((0, 0, 0) : (Int × Int × Int)) s_all1 z1).2.2)] :: fs) := hS.pickN 11 [1, 0, 2, 3, 4, 5, 6, 7, 8, 9, 10] (by decide)
              refine at_call (f := 108) (args := #[.agg #[.int .i64 ((getd ((0, 0, 0) : (Int × Int × Int)) s_all1 z1).1), .int .i64 ((getd ((0, 0, 0) : (Int × Int × Int)) s_all1 z1).2.1), .int .i64 ((getd ((0, 0, 0) : (Int × Int × Int)) s_all1 z1).2.2)], .slice A1 s_cells1.length c1]) (d := 48) hF (by kernel_rfl) (by kernel_rfl) Try.func108 (by kernel_rfl) rfl (pegs_jump_turn_2_w hr4 hS ) (fun v a w hR hF => ?_)
              clear hS
              obtain ⟨rfl, hS⟩ := hR
              have hS : Sep w0 B w (own 3 (.slice A1 s_cells1.length c1) (vI r4) :: blk g1 117 #[.slice A1 s_cells1.length c1, .slice A2 s_all1.length c2, .map (some g2)] :: ownK 119 3 A2 s_all1.length c2 (List.flatMap enc119 s_all1) :: mapH kf9 Value.bool g2 s4 :: stk 119 3 (fun m => List.flatMap enc119 m) A3 row1.length c3 es1 row1 :: blk g3 3 #[.int .i64 v1] :: blk g4 3 #[.int .i64 v2] :: blk g5 111 #[.pointer (some ⟨g1, 0, none⟩)] :: blk g6 53 #[.slice A8 done2.length c8] :: ownK 61 3 A8 done2.length c8 (List.flatMap enc61 done2) :: blk g7 119 #[.int .i64 ((getd ((0, 0, 0) : (Int × Int × Int)) s_all1 z1).1), .int .i64 ((getd ((0, 0, 0) : (Int × Int × Int)) s_all1 z1).2.1), .int .i64 ((getd ((0, 0, 0) : (Int × Int × Int)) s_all1 z1).2.2)] :: fs) := hS
              refine at_end [0, 1, 2, 9, 30, 31, 32] [pl 0 (.pointer (some ⟨g1, 0, none⟩)), pl 1 (.slice A3 row1.length c3), pl 2 (.func (.func 71) #[] #[.pointer (some ⟨g3, 0, none⟩), .pointer (some ⟨g4, 0, none⟩), .pointer (some ⟨g5, 0, none⟩), .pointer (some ⟨g6, 0, none⟩)]), pl 9 (.pointer (some ⟨g7, 0, none⟩)), pl 30 (.slice A2 s_all1.length c2), pl 31 (.int .i64 (s_all1.length : Int)), pl 32 (.int .i64 z1)] hF rfl (by kernel_rfl) (fun hF => ?_)
              refine np_n ?_
              refine then_n ?_
              refine seqR ?_
              obtain ⟨hp2, hm⟩ := asrt_b hm
              obtain ⟨r5, hr5, hm⟩ := call_b hm
              refine at_run 3 [⟨false, [], vS (Instr.loadAt 119 (.pointer (some ⟨g7, 0, none⟩))), .agg #[.int .i64 ((getd ((0, 0, 0) : (Int × Int × Int)) s_all1 z1).1), .int .i64 ((getd ((0, 0, 0) : (Int × Int × Int)) s_all1 z1).2.1), .int .i64 ((getd ((0, 0, 0) : (Int × Int × Int)) s_all1 z1).2.2)]⟩] [none, none, some (.agg #[.int .i64 ((getd ((0, 0, 0) : (Int × Int × Int)) s_all1 z1).1), .int .i64 ((getd ((0, 0, 0) : (Int × Int × Int)) s_all1 z1).2.1), .int .i64 ((getd ((0, 0, 0) : (Int × Int × Int)) s_all1 z1).2.2)])] [0, 1, 2, 9, 30, 31, 32, 49, 50, 51] [pl 0 (.pointer (some ⟨g1, 0, none⟩)), pl 1 (.slice A3 row1.length c3), pl 2 (.func (.func 71) #[] #[.pointer (some ⟨g3, 0, none⟩), .pointer (some ⟨g4, 0, none⟩), .pointer (some ⟨g5, 0, none⟩), .pointer (some ⟨g6, 0, none⟩)]), pl 9 (.pointer (some ⟨g7, 0, none⟩)), pl 30 (.slice A2 s_all1.length c2), pl 31 (.int .i64 (s_all1.length : Int)), pl 32 (.int .i64 z1), pl 49 (.pointer (some ⟨g1, 0, none⟩)), pl 50 (.slice A3 row1.length c3), pl 51 (.agg #[.int .i64 ((getd ((0, 0, 0) : (Int × Int × Int)) s_all1 z1).1), .int .i64 ((getd ((0, 0, 0) : (Int × Int × Int)) s_all1 z1).2.1), .int .i64 ((getd ((0, 0, 0) : (Int × Int × Int)) s_all1 z1).2.2)])] hF hS (by kernel_rfl) (by kernel_rfl) ?_ (fun a w hF hS => ?_)
              · exact obs_cons (ob_loadA (cs := #[.int .i64 ((getd ((0, 0, 0) : (Int × Int × Int)) s_all1 z1).1), .int .i64 ((getd ((0, 0, 0) : (Int × Int × Int)) s_all1 z1).2.1), .int .i64 ((getd ((0, 0, 0) : (Int × Int × Int)) s_all1 z1).2.2)]) (by kernel_rfl) (by kernel_rfl) (fun _ _ hS => (hS.at_ 10 rfl).cellsAt 0 (by rfl))) <| obs_nil
              refine at_do (d := 52) (s := vS (Instr.buildSlice 114 1 #[(0, .agg #[.int .i64 ((getd ((0, 0, 0) : (Int × Int × Int)) s_all1 z1).1), .int .i64 ((getd ((0, 0, 0) : (Int × Int × Int)) s_all1 z1).2.1), .int .i64 ((getd ((0, 0, 0) : (Int × Int × Int)) s_all1 z1).2.2)])])) (v := .slice (some ⟨w.heap.size, 0, none⟩) 1 1) (w' := w.alloc (.cells #[.int .i64 ((getd ((0, 0, 0) : (Int × Int × Int)) s_all1 z1).1), .int .i64 ((getd ((0, 0, 0) : (Int × Int × Int)) s_all1 z1).2.1), .int .i64 ((getd ((0, 0, 0) : (Int × Int × Int)) s_all1 z1).2.2)] 119)) hF (by kernel_rfl) (by kernel_rfl) (by kernel_rfl) (fun a hF => ?_)
              have hS : Sep w0 B (w.alloc (.cells #[.int .i64 ((getd ((0, 0, 0) : (Int × Int × Int)) s_all1 z1).1), .int .i64 ((getd ((0, 0, 0) : (Int × Int × Int)) s_all1 z1).2.1), .int .i64 ((getd ((0, 0, 0) : (Int × Int × Int)) s_all1 z1).2.2)] 119)) (ownK 119 3 (some (⟨w.heap.size, 0, none⟩ : Addr)) 1 1 (List.flatMap enc119 ([(getd ((0, 0, 0) : (Int × Int × Int)) s_all1 z1)] : List (Int × Int × Int))) :: (own 3 (.slice A1 s_cells1.length c1) (vI r4) :: blk g1 117 #[.slice A1 s_cells1.length c1, .slice A2 s_all1.length c2, .map (some g2)] :: ownK 119 3 A2 s_all1.length c2 (List.flatMap enc119 s_all1) :: mapH kf9 Value.bool g2 s4 :: stk 119 3 (fun m => List.flatMap enc119 m) A3 row1.length c3 es1 row1 :: blk g3 3 #[.int .i64 v1] :: blk g4 3 #[.int .i64 v2] :: blk g5 111 #[.pointer (some ⟨g1, 0, none⟩)] :: blk g6 53 #[.slice A8 done2.length c8] :: ownK 61 3 A8 done2.length c8 (List.flatMap enc61 done2) :: blk g7 119 #[.int .i64 ((getd ((0, 0, 0) : (Int × Int × Int)) s_all1 z1).1), .int .i64 ((getd ((0, 0, 0) : (Int × Int × Int)) s_all1 z1).2.1), .int .i64 ((getd ((0, 0, 0) : (Int × Int × Int)) s_all1 z1).2.2)] :: fs)) := hS.litK 119 3 #[.int .i64 ((getd ((0, 0, 0) : (Int × Int × Int)) s_all1 z1).1), .int .i64 ((getd ((0, 0, 0) : (Int × Int × Int)) s_all1 z1).2.1), .int .i64 ((getd ((0, 0, 0) : (Int × Int × Int)) s_all1 z1).2.2)] 1 rfl (by omega)
              generalize (some (⟨w.heap.size, 0, none⟩ : Addr)) = g8 at hF hS
              generalize w.alloc (.cells #[.int .i64 ((getd ((0, 0, 0) : (Int × Int × Int)) s_all1 z1).1), .int .i64 ((getd ((0, 0, 0) : (Int × Int × Int)) s_all1 z1).2.1), .int .i64 ((getd ((0, 0, 0) : (Int × Int × Int)) s_all1 z1).2.2)] 119) = w at hS ⊢
              obtain ⟨A11, c11, w, hrun, hS⟩ := run_appSk (P := Try.prog) (t := 114) (ys := ([(getd ((0, 0, 0) : (Int × Int × Int)) s_all1 z1)] : List (Int × Int × Int))) (A2 := g8) (m2 := 1) (c2 := 1) 5864062014805 (EncK.encL encK119) (hS.at_ 5 rfl) (hS.at_ 0 rfl).rdK (by simp) ((hS.at_ 0 rfl).lenK encK119) 114 Und114 hi119 hz119 hs119 rfl (by rw [hb119]; decide) (by decide) hp2
              have hS : Sep w0 B w (ownK 119 3 g8 1 1 (List.flatMap enc119 ([(getd ((0, 0, 0) : (Int × Int × Int)) s_all1 z1)] : List (Int × Int × Int))) :: own 3 (.slice A1 s_cells1.length c1) (vI r4) :: blk g1 117 #[.slice A1 s_cells1.length c1, .slice A2 s_all1.length c2, .map (some g2)] :: ownK 119 3 A2 s_all1.length c2 (List.flatMap enc119 s_all1) :: mapH kf9 Value.bool g2 s4 :: stk 119 3 (fun m => List.flatMap enc119 m) A11 ((row1 ++ ([(getd ((0, 0, 0) : (Int × Int × Int)) s_all1 z1)] : List (Int × Int × Int))).length) c11 ((A3, row1.length, c3) :: es1) (row1 ++ ([(getd ((0, 0, 0) : (Int × Int × Int)) s_all1 z1)] : List (Int × Int × Int))) :: blk g3 3 #[.int .i64 v1] :: blk g4 3 #[.int .i64 v2] :: blk g5 111 #[.pointer (some ⟨g1, 0, none⟩)] :: blk g6 53 #[.slice A8 done2.length c8] :: ownK 61 3 A8 done2.length c8 (List.flatMap enc61 done2) :: blk g7 119 #[.int .i64 ((getd ((0, 0, 0) : (Int × Int × Int)) s_all1 z1).1), .int .i64 ((getd ((0, 0, 0) : (Int × Int × Int)) s_all1 z1).2.1), .int .i64 ((getd ((0, 0, 0) : (Int × Int × Int)) s_all1 z1).2.2)] :: fs) := hS
              refine at_do (d := 53) hF (by kernel_rfl) (by kernel_rfl) hrun (fun a hF => ?_)
              refine at_run 1 [] [] [0, 1, 2, 9, 30, 31, 32, 49, 53, 54] [pl 0 (.pointer (some ⟨g1, 0, none⟩)), pl 1 (.slice A3 row1.length c3), pl 2 (.func (.func 71) #[] #[.pointer (some ⟨g3, 0, none⟩), .pointer (some ⟨g4, 0, none⟩), .pointer (some ⟨g5, 0, none⟩), .pointer (some ⟨g6, 0, none⟩)]), pl 9 (.pointer (some ⟨g7, 0, none⟩)), pl 30 (.slice A2 s_all1.length c2), pl 31 (.int .i64 (s_all1.length : Int)), pl 32 (.int .i64 z1), pl 49 (.pointer (some ⟨g1, 0, none⟩)), pl 53 (.slice A11 ((row1 ++ ([(getd ((0, 0, 0) : (Int × Int × Int)) s_all1 z1)] : List (Int × Int × Int))).length) c11), pl 54 (.func (.func 71) #[] #[.pointer (some ⟨g3, 0, none⟩), .pointer (some ⟨g4, 0, none⟩), .pointer (some ⟨g5, 0, none⟩), .pointer (some ⟨g6, 0, none⟩)])] hF hS (by kernel_rfl) (by kernel_rfl) ?_ (fun a w hF hS => ?_)
              · exact obs_nil
              have hS : Sep w0 B w (blk g1 117 #[.slice A1 s_cells1.length c1, .slice A2 s_all1.length c2, .map (some g2)] :: own 3 (.slice A1 s_cells1.length c1) (vI r4) :: ownK 119 3 A2 s_all1.length c2 (List.flatMap enc119 s_all1) :: mapH kf9 Value.bool g2 s4 :: stk 119 3 (fun m => List.flatMap enc119 m) A11 ((row1 ++ ([(getd ((0, 0, 0) : (Int × Int × Int)) s_all1 z1)] : List (Int × Int × Int))).length) c11 ((A3, row1.length, c3) :: es1) (row1 ++ ([(getd ((0, 0, 0) : (Int × Int × Int)) s_all1 z1)] : List (Int × Int × Int))) :: blk g3 3 #[.int .i64 v1] :: blk g4 3 #[.int .i64 v2] :: blk g5 111 #[.pointer (some ⟨g1, 0, none⟩)] :: blk g6 53 #[.slice A8 done2.length c8] :: ownK 61 3 A8 done2.length c8 (List.flatMap enc61 done2) :: ownK 119 3 g8 1 1 (List.flatMap enc119 ([(getd ((0, 0, 0) : (Int × Int × Int)) s_all1 z1)] : List (Int × Int × Int))) :: blk g7 119 #[.int .i64 ((getd ((0, 0, 0) : (Int × Int × Int)) s_all1 z1).1), .int .i64 ((getd ((0, 0, 0) : (Int × Int × Int)) s_all1 z1).2.1), .int .i64 ((getd ((0, 0, 0) : (Int × Int × Int)) s_all1 z1).2.2)] :: fs) := hS.pickN 12 [2, 1, 3, 4, 5, 6, 7, 8, 9, 10, 0, 11] (by decide)
              refine at_call (f := 70) (args := #[.pointer (some ⟨g1, 0, none⟩), .slice A11 ((row1 ++ ([(getd ((0, 0, 0) : (Int × Int × Int)) s_all1 z1)] : List (Int × Int × Int))).length) c11, .func (.func 71) #[] #[.pointer (some ⟨g3, 0, none⟩), .pointer (some ⟨g4, 0, none⟩), .pointer (some ⟨g5, 0, none⟩), .pointer (some ⟨g6, 0, none⟩)]]) (d := 55) hF (by kernel_rfl) (by kernel_rfl) Try.func70 (by kernel_rfl) rfl (ih_pegs_search_run_2 hr5 hS ) (fun v a w hR hF => ?_)
              clear hS
              obtain ⟨A12, c12, rfl, hS⟩ := hR
              have hS : Sep w0 B w (blk g1 117 #[.slice A1 s_cells1.length c1, .slice A2 s_all1.length c2, .map (some g2)] :: own 3 (.slice A1 s_cells1.length c1) (vI r5.2.1) :: ownK 119 3 A2 s_all1.length c2 (List.flatMap enc119 s_all1) :: mapH kf9 Value.bool g2 r5.2.2.1 :: stk 119 3 (fun m => List.flatMap enc119 m) A11 ((row1 ++ ([(getd ((0, 0, 0) : (Int × Int × Int)) s_all1 z1)] : List (Int × Int × Int))).length) c11 ((A3, row1.length, c3) :: es1) (row1 ++ ([(getd ((0, 0, 0) : (Int × Int × Int)) s_all1 z1)] : List (Int × Int × Int))) :: blk g3 3 #[.int .i64 v1] :: blk g4 3 #[.int .i64 v2] :: blk g5 111 #[.pointer (some ⟨g1, 0, none⟩)] :: blk g6 53 #[.slice A12 r5.2.2.2.length c12] :: ownK 61 3 A12 r5.2.2.2.length c12 (List.flatMap enc61 r5.2.2.2) :: ownK 119 3 g8 1 1 (List.flatMap enc119 ([(getd ((0, 0, 0) : (Int × Int × Int)) s_all1 z1)] : List (Int × Int × Int))) :: blk g7 119 #[.int .i64 ((getd ((0, 0, 0) : (Int × Int × Int)) s_all1 z1).1), .int .i64 ((getd ((0, 0, 0) : (Int × Int × Int)) s_all1 z1).2.1), .int .i64 ((getd ((0, 0, 0) : (Int × Int × Int)) s_all1 z1).2.2)] :: fs) := hS
              refine at_run 1 [] [] [0, 1, 2, 9, 10, 30, 31, 32] [pl 0 (.pointer (some ⟨g1, 0, none⟩)), pl 1 (.slice A3 row1.length c3), pl 2 (.func (.func 71) #[] #[.pointer (some ⟨g3, 0, none⟩), .pointer (some ⟨g4, 0, none⟩), .pointer (some ⟨g5, 0, none⟩), .pointer (some ⟨g6, 0, none⟩)]), pl 9 (.pointer (some ⟨g7, 0, none⟩)), pl 10 (.bool r5.1), pl 30 (.slice A2 s_all1.length c2), pl 31 (.int .i64 (s_all1.length : Int)), pl 32 (.int .i64 z1)] hF hS (by kernel_rfl) (by kernel_rfl) ?_ (fun a w hF hS => ?_)
              · exact obs_nil
              refine at_end [0, 1, 2, 9, 10, 30, 31, 32] [pl 0 (.pointer (some ⟨g1, 0, none⟩)), pl 1 (.slice A3 row1.length c3), pl 2 (.func (.func 71) #[] #[.pointer (some ⟨g3, 0, none⟩), .pointer (some ⟨g4, 0, none⟩), .pointer (some ⟨g5, 0, none⟩), .pointer (some ⟨g6, 0, none⟩)]), pl 9 (.pointer (some ⟨g7, 0, none⟩)), pl 10 (.bool r5.1), pl 30 (.slice A2 s_all1.length c2), pl 31 (.int .i64 (s_all1.length : Int)), pl 32 (.int .i64 z1)] hF rfl (by kernel_rfl) (fun hF => ?_)
              refine then_n ?_
              refine wpIn_seq ?_
              obtain ⟨r6, hr6, hm⟩ := call_b hm
              refine regMix4 [0, 1, 2, 3, 4] [5] [⟨false, [], vS (Instr.loadAt 119 (.pointer (some ⟨g7, 0, none⟩))), .agg #[.int .i64 ((getd ((0, 0, 0) : (Int × Int × Int)) s_all1 z1).1), .int .i64 ((getd ((0, 0, 0) : (Int × Int × Int)) s_all1 z1).2.1), .int .i64 ((getd ((0, 0, 0) : (Int × Int × Int)) s_all1 z1).2.2)]⟩, ⟨false, [], vS (Instr.loadAt 22 (.pointer (some ⟨g1, 0, none⟩))), .slice A1 s_cells1.length c1⟩] [some (.agg #[.int .i64 ((getd ((0, 0, 0) : (Int × Int × Int)) s_all1 z1).1), .int .i64 ((getd ((0, 0, 0) : (Int × Int × Int)) s_all1 z1).2.1), .int .i64 ((getd ((0, 0, 0) : (Int × Int × Int)) s_all1 z1).2.2)]), none, none, none, some (.slice A1 s_cells1.length c1)] [0, 1, 2, 10, 30, 31, 32, 56, 60] [pl 0 (.pointer (some ⟨g1, 0, none⟩)), pl 1 (.slice A3 row1.length c3), pl 2 (.func (.func 71) #[] #[.pointer (some ⟨g3, 0, none⟩), .pointer (some ⟨g4, 0, none⟩), .pointer (some ⟨g5, 0, none⟩), .pointer (some ⟨g6, 0, none⟩)]), pl 10 (.bool r5.1), pl 30 (.slice A2 s_all1.length c2), pl 31 (.int .i64 (s_all1.length : Int)), pl 32 (.int .i64 z1), pl 56 (.agg #[.int .i64 ((getd ((0, 0, 0) : (Int × Int × Int)) s_all1 z1).1), .int .i64 ((getd ((0, 0, 0) : (Int × Int × Int)) s_all1 z1).2.1), .int .i64 ((getd ((0, 0, 0) : (Int × Int × Int)) s_all1 z1).2.2)]), pl 60 (.slice A1 s_cells1.length c1)] hF hS Fol (by kernel_rfl) (by kernel_rfl) (by kernel_rfl) (by kernel_rfl) (by kernel_rfl) ?_ (fun a w hF hS => ?_)
              · exact obs_cons (ob_loadA (cs := #[.int .i64 ((getd ((0, 0, 0) : (Int × Int × Int)) s_all1 z1).1), .int .i64 ((getd ((0, 0, 0) : (Int × Int × Int)) s_all1 z1).2.1), .int .i64 ((getd ((0, 0, 0) : (Int × Int × Int)) s_all1 z1).2.2)]) (by kernel_rfl) (by kernel_rfl) (fun _ _ hS => (hS.at_ 11 rfl).cellsAt 0 (by rfl))) <| obs_cons (ob_load Agg22 (fun _ _ hS => (hS.at_ 0 rfl).cell rfl)) <| obs_nil
              have hS : Sep w0 B w (own 3 (.slice A1 s_cells1.length c1) (vI r5.2.1) :: blk g1 117 #[.slice A1 s_cells1.length c1, .slice A2 s_all1.length c2, .map (some g2)] :: ownK 119 3 A2 s_all1.length c2 (List.flatMap enc119 s_all1) :: mapH kf9 Value.bool g2 r5.2.2.1 :: stk 119 3 (fun m => List.flatMap enc119 m) A11 ((row1 ++ ([(getd ((0, 0, 0) : (Int × Int × Int)) s_all1 z1)] : List (Int × Int × Int))).length) c11 ((A3, row1.length, c3) :: es1) (row1 ++ ([(getd ((0, 0, 0) : (Int × Int × Int)) s_all1 z1)] : List (Int × Int × Int))) :: blk g3 3 #[.int .i64 v1] :: blk g4 3 #[.int .i64 v2] :: blk g5 111 #[.pointer (some ⟨g1, 0, none⟩)] :: blk g6 53 #[.slice A12 r5.2.2.2.length c12] :: ownK 61 3 A12 r5.2.2.2.length c12 (List.flatMap enc61 r5.2.2.2) :: ownK 119 3 g8 1 1 (List.flatMap enc119 ([(getd ((0, 0, 0) : (Int × Int × Int)) s_all1 z1)] : List (Int × Int × Int))) :: blk g7 119 #[.int .i64 ((getd ((0, 0, 0) : (Int × Int × Int)) s_all1 z1).1), .int .i64 ((getd ((0, 0, 0) : (Int × Int × Int)) s_all1 z1).2.1), .int .i64 ((getd ((0, 0, 0) : (Int × Int × Int)) s_all1 z1).2.2)] :: fs) := hS.pickN 12 [1, 0, 2, 3, 4, 5, 6, 7, 8, 9, 10, 11] (by decide)
              refine at_call (f := 108) (args := #[.agg #[.int .i64 ((getd ((0, 0, 0) : (Int × Int × Int)) s_all1 z1).1), .int .i64 ((getd ((0, 0, 0) : (Int × Int × Int)) s_all1 z1).2.1), .int .i64 ((getd ((0, 0, 0) : (Int × Int × Int)) s_all1 z1).2.2)], .slice A1 s_cells1.length c1]) (d := 61) hF (by kernel_rfl) (by kernel_rfl) Try.func108 (by kernel_rfl) rfl (pegs_jump_turn_2_w hr6 hS ) (fun v a w hR hF => ?_)
              clear hS
              obtain ⟨rfl, hS⟩ := hR
              have hS : Sep w0 B w (own 3 (.slice A1 s_cells1.length c1) (vI r6) :: blk g1 117 #[.slice A1 s_cells1.length c1, .slice A2 s_all1.length c2, .map (some g2)] :: ownK 119 3 A2 s_all1.length c2 (List.flatMap enc119 s_all1) :: mapH kf9 Value.bool g2 r5.2.2.1 :: stk 119 3 (fun m => List.flatMap enc119 m) A11 ((row1 ++ ([(getd ((0, 0, 0) : (Int × Int × Int)) s_all1 z1)] : List (Int × Int × Int))).length) c11 ((A3, row1.length, c3) :: es1) (row1 ++ ([(getd ((0, 0, 0) : (Int × Int × Int)) s_all1 z1)] : List (Int × Int × Int))) :: blk g3 3 #[.int .i64 v1] :: blk g4 3 #[.int .i64 v2] :: blk g5 111 #[.pointer (some ⟨g1, 0, none⟩)] :: blk g6 53 #[.slice A12 r5.2.2.2.length c12] :: ownK 61 3 A12 r5.2.2.2.length c12 (List.flatMap enc61 r5.2.2.2) :: ownK 119 3 g8 1 1 (List.flatMap enc119 ([(getd ((0, 0, 0) : (Int × Int × Int)) s_all1 z1)] : List (Int × Int × Int))) :: blk g7 119 #[.int .i64 ((getd ((0, 0, 0) : (Int × Int × Int)) s_all1 z1).1), .int .i64 ((getd ((0, 0, 0) : (Int × Int × Int)) s_all1 z1).2.1), .int .i64 ((getd ((0, 0, 0) : (Int × Int × Int)) s_all1 z1).2.2)] :: fs) := hS
              refine at_end [0, 1, 2, 10, 30, 31, 32] [pl 0 (.pointer (some ⟨g1, 0, none⟩)), pl 1 (.slice A3 row1.length c3), pl 2 (.func (.func 71) #[] #[.pointer (some ⟨g3, 0, none⟩), .pointer (some ⟨g4, 0, none⟩), .pointer (some ⟨g5, 0, none⟩), .pointer (some ⟨g6, 0, none⟩)]), pl 10 (.bool r5.1), pl 30 (.slice A2 s_all1.length c2), pl 31 (.int .i64 (s_all1.length : Int)), pl 32 (.int .i64 z1)] hF rfl (by kernel_rfl) (fun hF => ?_)
              refine np_n ?_
              refine then_n ?_
              refine reg [] [] [0, 1, 2, 30, 31, 32, 62] [pl 0 (.pointer (some ⟨g1, 0, none⟩)), pl 1 (.slice A3 row1.length c3), pl 2 (.func (.func 71) #[] #[.pointer (some ⟨g3, 0, none⟩), .pointer (some ⟨g4, 0, none⟩), .pointer (some ⟨g5, 0, none⟩), .pointer (some ⟨g6, 0, none⟩)]), pl 30 (.slice A2 s_all1.length c2), pl 31 (.int .i64 (s_all1.length : Int)), pl 32 (.int .i64 z1), pl 62 (.bool r5.1)] hF hS Fol (by kernel_rfl) (by kernel_rfl) (by kernel_rfl) ?_ (fun a w hF hS => ?_)
              · exact obs_nil
              refine cond_ev (t := 62) (b := r5.1) hF (by kernel_rfl) (fun hb => ?_) (fun hb => ?_)
              · replace hm := if_t hm hb
                refine reg [] [] [6] [pl 6 (.bool true)] hF hS Fol (by kernel_rfl) (by kernel_rfl) (by kernel_rfl) ?_ (fun a w hF hS => ?_)
                · exact obs_nil
                refine wpIn_ret ?_
                refine block_r (then_r (then_r (block_r (then_r ?_))))
                rw [← hφ1] at hm
                replace hm := done_b hm
                unfold pegs_search_run_2_K1 at hm
                try dsimp only at hm
                have hS : Sep w0 B w (own 3 (.slice A1 s_cells1.length c1) (vI r6) :: blk g1 117 #[.slice A1 s_cells1.length c1, .slice A2 s_all1.length c2, .map (some g2)] :: ownK 119 3 A2 s_all1.length c2 (List.flatMap enc119 s_all1) :: mapH kf9 Value.bool g2 r5.2.2.1 :: stk 119 3 (fun m => List.flatMap enc119 m) A3 row1.length c3 es1 row1 :: blk g3 3 #[.int .i64 v1] :: blk g4 3 #[.int .i64 v2] :: blk g5 111 #[.pointer (some ⟨g1, 0, none⟩)] :: blk g6 53 #[.slice A12 r5.2.2.2.length c12] :: ownK 61 3 A12 r5.2.2.2.length c12 (List.flatMap enc61 r5.2.2.2) :: ownK 119 3 g8 1 1 (List.flatMap enc119 ([(getd ((0, 0, 0) : (Int × Int × Int)) s_all1 z1)] : List (Int × Int × Int))) :: blk g7 119 #[.int .i64 ((getd ((0, 0, 0) : (Int × Int × Int)) s_all1 z1).1), .int .i64 ((getd ((0, 0, 0) : (Int × Int × Int)) s_all1 z1).2.1), .int .i64 ((getd ((0, 0, 0) : (Int × Int × Int)) s_all1 z1).2.2)] :: fs) := (hS.at_ 4 rfl).popSk rfl
                have hS := hS.pickN 12 [1, 0, 2, 3, 4, 5, 6, 7, 8, 9] (by decide)
                have hm : some (true, r6, r5.2.2.1, r5.2.2.2) = some r := hm
                obtain rfl := Option.some.inj hm
                exact retV (rs := [.tmp 6]) (vs := [.bool true]) hF rfl (rv_t (by kernel_rfl) <| rv_nil) rfl ⟨_, rfl, A12, c12, rfl, hS⟩
              · replace hm := if_f hm hb
                refine wpIn_skip ?_
                refine block_n ?_
                refine then_n ?_
                have hS : Sep w0 B w (own 3 (.slice A1 s_cells1.length c1) (vI r6) :: blk g1 117 #[.slice A1 s_cells1.length c1, .slice A2 s_all1.length c2, .map (some g2)] :: ownK 119 3 A2 s_all1.length c2 (List.flatMap enc119 s_all1) :: mapH kf9 Value.bool g2 r5.2.2.1 :: stk 119 3 (fun m => List.flatMap enc119 m) A3 row1.length c3 es1 row1 :: blk g3 3 #[.int .i64 v1] :: blk g4 3 #[.int .i64 v2] :: blk g5 111 #[.pointer (some ⟨g1, 0, none⟩)] :: blk g6 53 #[.slice A12 r5.2.2.2.length c12] :: ownK 61 3 A12 r5.2.2.2.length c12 (List.flatMap enc61 r5.2.2.2) :: ownK 119 3 g8 1 1 (List.flatMap enc119 ([(getd ((0, 0, 0) : (Int × Int × Int)) s_all1 z1)] : List (Int × Int × Int))) :: blk g7 119 #[.int .i64 ((getd ((0, 0, 0) : (Int × Int × Int)) s_all1 z1).1), .int .i64 ((getd ((0, 0, 0) : (Int × Int × Int)) s_all1 z1).2.1), .int .i64 ((getd ((0, 0, 0) : (Int × Int × Int)) s_all1 z1).2.2)] :: fs) := (hS.at_ 4 rfl).popSk rfl
                have hS := hS.pickN 12 [1, 0, 2, 3, 4, 5, 6, 7, 8, 9] (by decide)
                exact ⟨r6, r5.2.2.1, r5.2.2.2, A12, c12, hF.weak [0, 1, 2, 30, 31, 32] (by kernel_rfl), hS, hm⟩
            · obtain ⟨r3, hr3, hm⟩ := call_b hm
              refine reg [⟨false, [], vS (Instr.loadAt 119 (.pointer (some ⟨g7, 0, none⟩))), .agg #[.int .i64 ((getd ((0, 0, 0) : (Int × Int × Int)) s_all1 z1).1), .int .i64 ((getd ((0, 0, 0) : (Int × Int × Int)) s_all1 z1).2.1), .int .i64 ((getd ((0, 0, 0) : (Int × Int × Int)) s_all1 z1).2.2)]⟩, ⟨false, [], vS (Instr.loadAt 22 (.pointer (some ⟨g1, 0, none⟩))), .slice A1 s_cells1.length c1⟩, ⟨false, [], callFunc 107 #[.agg #[.int .i64 ((getd ((0, 0, 0) : (Int × Int × Int)) s_all1 z1).1), .int .i64 ((getd ((0, 0, 0) : (Int × Int × Int)) s_all1 z1).2.1), .int .i64 ((getd ((0, 0, 0) : (Int × Int × Int)) s_all1 z1).2.2)], .slice A1 s_cells1.length c1], .bool r3⟩] [some (.agg #[.int .i64 ((getd ((0, 0, 0) : (Int × Int × Int)) s_all1 z1).1), .int .i64 ((getd ((0, 0, 0) : (Int × Int × Int)) s_all1 z1).2.1), .int .i64 ((getd ((0, 0, 0) : (Int × Int × Int)) s_all1 z1).2.2)]), none, none, none, some (.slice A1 s_cells1.length c1), some (.bool r3), none] [0, 1, 2, 9, 30, 31, 32, 42] [pl 0 (.pointer (some ⟨g1, 0, none⟩)), pl 1 (.slice A3 row1.length c3), pl 2 (.func (.func 71) #[] #[.pointer (some ⟨g3, 0, none⟩), .pointer (some ⟨g4, 0, none⟩), .pointer (some ⟨g5, 0, none⟩), .pointer (some ⟨g6, 0, none⟩)]), pl 9 (.pointer (some ⟨g7, 0, none⟩)), pl 30 (.slice A2 s_all1.length c2), pl 31 (.int .i64 (s_all1.length : Int)), pl 32 (.int .i64 z1), pl 42 (.bool (!r3))] hF hS Fol (by kernel_rfl) (by kernel_rfl) (by kernel_rfl) ?_ (fun a w hF hS => ?_)
              · exact obs_cons (ob_loadA (cs := #[.int .i64 ((getd ((0, 0, 0) : (Int × Int × Int)) s_all1 z1).1), .int .i64 ((getd ((0, 0, 0) : (Int × Int × Int)) s_all1 z1).2.1), .int .i64 ((getd ((0, 0, 0) : (Int × Int × Int)) s_all1 z1).2.2)]) (by kernel_rfl) (by kernel_rfl) (fun _ _ hS => (hS.at_ 0 rfl).cellsAt 0 (by rfl))) <| obs_cons (ob_load Agg22 (fun _ _ hS => (hS.at_ 1 rfl).cell rfl)) <| obs_cons (ob_call Try.func107 (by kernel_rfl) rfl (fun _ _ hS => pegs_jump_can_w hr3 hS (fun _ hS => (hS.at_ 2 rfl).rd) ((hS.at_ 2 rfl).cap1) ((hS.at_ 2 rfl).len1))) <| obs_nil
              refine cond_ev (t := 42) (b := !r3) hF (by kernel_rfl) (fun hb => ?_) (fun hb => ?_)
              · replace hm := if_t hm hb
                refine wpIn_exit ?_
                refine then_e (block_e (then_n ?_))
                have hS := hS.pickN 11 [1, 2, 3, 4, 5, 6, 7, 8, 9, 10] (by decide)
                exact ⟨s3, s4, done2, A8, c8, hF.weak [0, 1, 2, 30, 31, 32] (by kernel_rfl), hS, hm⟩
              · replace hm := if_f hm hb
                refine wpIn_skip ?_
                refine then_n ?_
                have hS := hS.pickN 11 [1, 2, 3, 4, 5, 6, 7, 8, 9, 10, 0] (by decide)
                exact ⟨hF.weak [0, 1, 2, 9, 30, 31, 32] (by kernel_rfl), hS, hm⟩
        · refine cond_ev (t := 33) (b := decide (z1 < (s_all1.length : Int))) hF (by kernel_rfl) (fun hb => ?_) (fun hb => ?_)
          · replace hm := if_t hm hb
            refine wpIn_skip ?_
            refine then_n ?_
            exact ⟨hF.weak [0, 1, 2, 30, 31, 32] (by kernel_rfl), hS, hm⟩
          · replace hm := if_f hm hb
            refine wpIn_exit ?_
            refine then_e (then_e (block_e (then_n ?_)))
            rw [← hφ1] at hm
            replace hm := done_b hm
            unfold pegs_search_run_2_K1 at hm
            try dsimp only at hm
            have hm : (pegs_search_run_2_J3 s3 s4 done2).bind some = some r := hm
            exact ⟨s3, s4, done2, A8, c8, hF.weak [] (by kernel_rfl), hS, hm⟩
    · refine reg [⟨false, [], vS (Instr.loadAt 115 (.pointer (some ⟨g1, 2, none⟩))), .map (some g2)⟩, ⟨false, [], vS (Instr.lookup 115 (.map (some g2)) (strV r2) false), .bool (mget false r2 s_tried1)⟩] [none, none, none, some (.map (some g2)), none, some (.bool (mget false r2 s_tried1))] [0, 1, 2, 7, 21] [pl 0 (.pointer (some ⟨g1, 0, none⟩)), pl 1 (.slice A3 row1.length c3), pl 2 (.func (.func 71) #[] #[.pointer (some ⟨g3, 0, none⟩), .pointer (some ⟨g4, 0, none⟩), .pointer (some ⟨g5, 0, none⟩), .pointer (some ⟨g6, 0, none⟩)]), pl 7 (strV r2), pl 21 (.bool (mget false r2 s_tried1))] hF hS Fol (by kernel_rfl) (by kernel_rfl) (by kernel_rfl) ?_ (fun a w hF hS => ?_)
      · exact obs_cons (ob_load Agg115 (fun _ _ hS => (hS.at_ 0 rfl).cell rfl)) <| obs_cons (ob_look (k := r2) (m := s_tried1) MK9 UndM115 (z := false) MZ4 (fun _ hS => ⟨_, _, _, _, hS.at_ 3 rfl⟩)) <| obs_nil
      refine cond_ev (t := 21) (b := (mget false r2 s_tried1)) hF (by kernel_rfl) (fun hb => ?_) (fun hb => ?_)
      · replace hm := if_t hm hb
        refine reg [] [] [6] [pl 6 (.bool false)] hF hS Fol (by kernel_rfl) (by kernel_rfl) (by kernel_rfl) ?_ (fun a w hF hS => ?_)
        · exact obs_nil
        refine wpIn_ret ?_
        refine then_r ?_
        have hm : some (false, s_cells1, s_tried1, done1) = some r := hm
        obtain rfl := Option.some.inj hm
        exact retV (rs := [.tmp 6]) (vs := [.bool false]) hF rfl (rv_t (by kernel_rfl) <| rv_nil) rfl ⟨_, rfl, A7, c7, rfl, hS⟩
      · replace hm := if_f hm hb
        refine wpIn_skip ?_
        refine then_n ?_
        exact ⟨hF.weak [0, 1, 2, 7] (by kernel_rfl), hS, hm⟩
  · refine seqR ?_
    obtain ⟨r1, hr1, hm⟩ := call_b hm
    refine at_run 2 [] [] [0, 1, 2, 11, 12] [pl 0 (.pointer (some ⟨g1, 0, none⟩)), pl 1 (.slice A3 row1.length c3), pl 2 (.func (.func 71) #[] #[.pointer (some ⟨g3, 0, none⟩), .pointer (some ⟨g4, 0, none⟩), .pointer (some ⟨g5, 0, none⟩), .pointer (some ⟨g6, 0, none⟩)]), pl 11 (.func (.func 71) #[] #[.pointer (some ⟨g3, 0, none⟩), .pointer (some ⟨g4, 0, none⟩), .pointer (some ⟨g5, 0, none⟩), .pointer (some ⟨g6, 0, none⟩)]), pl 12 (.slice A3 row1.length c3)] hF hS (by kernel_rfl) (by kernel_rfl) ?_ (fun a w hF hS => ?_)
    · exact obs_nil
    have hS : Sep w0 B w (blk g3 3 #[.int .i64 v1] :: blk g4 3 #[.int .i64 v2] :: blk g5 111 #[.pointer (some ⟨g1, 0, none⟩)] :: blk g1 117 #[.slice A1 s_cells1.length c1, .slice A2 s_all1.length c2, .map (some g2)] :: own 3 (.slice A1 s_cells1.length c1) (vI s_cells1) :: ownK 119 3 A2 s_all1.length c2 (List.flatMap enc119 s_all1) :: mapH kf9 Value.bool g2 s_tried1 :: blk g6 53 #[.slice A4 v3.length c4] :: ownK 61 3 A4 v3.length c4 (List.flatMap enc61 v3) :: stk 119 3 (fun m => List.flatMap enc119 m) A3 row1.length c3 es1 row1 :: fs) := hS.pickN 10 [5, 6, 7, 0, 1, 2, 3, 8, 9, 4] (by decide)
    refine at_call (f := 71) (args := #[.slice A3 row1.length c3, .pointer (some ⟨g3, 0, none⟩), .pointer (some ⟨g4, 0, none⟩), .pointer (some ⟨g5, 0, none⟩), .pointer (some ⟨g6, 0, none⟩)]) (d := 13) hF (by kernel_rfl) (by kernel_rfl) Try.func71 (by kernel_rfl) rfl (pegs_Solve_1_w hr1 hS (fun _ hS => (hS.at_ 0 rfl).rdSk) (((hS.dropN 9).at_ 0 rfl).capSk) rfl) (fun v a w hR hF => ?_)
    clear hS
    obtain ⟨A6, c6, rfl, hS⟩ := hR
    have hS : Sep w0 B w (blk g3 3 #[.int .i64 v1] :: blk g4 3 #[.int .i64 v2] :: blk g5 111 #[.pointer (some ⟨g1, 0, none⟩)] :: blk g1 117 #[.slice A1 s_cells1.length c1, .slice A2 s_all1.length c2, .map (some g2)] :: own 3 (.slice A1 s_cells1.length c1) (vI s_cells1) :: ownK 119 3 A2 s_all1.length c2 (List.flatMap enc119 s_all1) :: mapH kf9 Value.bool g2 s_tried1 :: blk g6 53 #[.slice A6 r1.2.length c6] :: ownK 61 3 A6 r1.2.length c6 (List.flatMap enc61 r1.2) :: stk 119 3 (fun m => List.flatMap enc119 m) A3 row1.length c3 es1 row1 :: fs) := hS
    refine at_end [0, 1, 2, 13] [pl 0 (.pointer (some ⟨g1, 0, none⟩)), pl 1 (.slice A3 row1.length c3), pl 2 (.func (.func 71) #[] #[.pointer (some ⟨g3, 0, none⟩), .pointer (some ⟨g4, 0, none⟩), .pointer (some ⟨g5, 0, none⟩), .pointer (some ⟨g6, 0, none⟩)]), pl 13 (.bool r1.1)] hF rfl (by kernel_rfl) (fun hF => ?_)
    refine then_n ?_
    refine cond_ev (t := 13) (b := r1.1) hF (by kernel_rfl) (fun hb => ?_) (fun hb => ?_)
    · replace hm := if_t hm hb
      refine reg [] [] [6] [pl 6 (.bool true)] hF hS Fol (by kernel_rfl) (by kernel_rfl) (by kernel_rfl) ?_ (fun a w hF hS => ?_)
      · exact obs_nil
      refine wpIn_ret ?_
      refine then_r ?_
      have hS := hS.pickN 10 [3, 4, 5, 6, 9, 0, 1, 2, 7, 8] (by decide)
      have hm : some (true, s_cells1, s_tried1, r1.2) = some r := hm
      obtain rfl := Option.some.inj hm
      exact retV (rs := [.tmp 6]) (vs := [.bool true]) hF rfl (rv_t (by kernel_rfl) <| rv_nil) rfl ⟨_, rfl, A6, c6, rfl, hS⟩
    · replace hm := if_f hm hb
      refine wpIn_skip ?_
      refine then_n ?_
      have hS := hS.pickN 10 [3, 4, 5, 6, 9, 0, 1, 2, 7, 8] (by decide)
      exact ⟨r1.2, A6, c6, hF.weak [0, 1, 2] (by kernel_rfl), hS, hm⟩

theorem pegs_search_run_2_w  {g1 : Nat} {A1 : Option Addr} {c1 : Nat} {n1 : Nat} {s_cells1 : List Int} {A2 : Option Addr} {c2 : Nat} {n2 : Nat} {s_all1 : List (Int × Int × Int)} {g2 : Nat} {s_tried1 : List (List UInt8 × Bool)} {A3 : Option Addr} {c3 : Nat} {n3 : Nat} {row1 : List (Int × Int × Int)} {es1 : List Sk} {g3 : Nat} {v1 : Int} {g4 : Nat} {v2 : Int} {g5 : Nat} {g6 : Nat} {A4 : Option Addr} {c4 : Nat} {n4 : Nat} {v3 : List (Int × Int × Int)} {r : (Bool × List Int × List (List UInt8 × Bool) × List (Int × Int × Int))} {w0 w : World} {B : Nat} {fs : List HP} (hm : pegs_search_run_2_m s_cells1 s_all1 s_tried1 row1 v1 v2 v3 = some r) (hS : Sep w0 B w (blk g1 117 #[.slice A1 n1 c1, .slice A2 n2 c2, .map (some g2)] :: own 3 (.slice A1 n1 c1) (vI s_cells1) :: ownK 119 3 A2 n2 c2 (List.flatMap enc119 s_all1) :: mapH kf9 Value.bool g2 s_tried1 :: stk 119 3 (fun m => List.flatMap enc119 m) A3 n3 c3 es1 row1 :: blk g3 3 #[.int .i64 v1] :: blk g4 3 #[.int .i64 v2] :: blk g5 111 #[.pointer (some ⟨g1, 0, none⟩)] :: blk g6 53 #[.slice A4 n4 c4] :: ownK 61 3 A4 n4 c4 (List.flatMap enc61 v3) :: fs)) :
    Calls Try.prog 70 #[.pointer (some ⟨g1, 0, none⟩), .slice A3 n3 c3, .func (.func 71) #[] #[.pointer (some ⟨g3, 0, none⟩), .pointer (some ⟨g4, 0, none⟩), .pointer (some ⟨g5, 0, none⟩), .pointer (some ⟨g6, 0, none⟩)]] w fun e w' => ∃ v, e = .returned v ∧ ∃ (A5 : Option Addr) (c5 : Nat), v = .bool r.1 ∧ Sep w0 B w' (blk g1 117 #[.slice A1 n1 c1, .slice A2 n2 c2, .map (some g2)] :: own 3 (.slice A1 n1 c1) (vI r.2.1) :: ownK 119 3 A2 n2 c2 (List.flatMap enc119 s_all1) :: mapH kf9 Value.bool g2 r.2.2.1 :: stk 119 3 (fun m => List.flatMap enc119 m) A3 n3 c3 es1 row1 :: blk g3 3 #[.int .i64 v1] :: blk g4 3 #[.int .i64 v2] :: blk g5 111 #[.pointer (some ⟨g1, 0, none⟩)] :: blk g6 53 #[.slice A5 r.2.2.2.length c5] :: ownK 61 3 A5 r.2.2.2.length c5 (List.flatMap enc61 r.2.2.2) :: fs) := by
  have key : ∀ (n : Nat) {g1 : Nat} {A1 : Option Addr} {c1 : Nat} {n1 : Nat} {s_cells1 : List Int} {A2 : Option Addr} {c2 : Nat} {n2 : Nat} {s_all1 : List (Int × Int × Int)} {g2 : Nat} {s_tried1 : List (List UInt8 × Bool)} {A3 : Option Addr} {c3 : Nat} {n3 : Nat} {row1 : List (Int × Int × Int)} {es1 : List Sk} {g3 : Nat} {v1 : Int} {g4 : Nat} {v2 : Int} {g5 : Nat} {g6 : Nat} {A4 : Option Addr} {c4 : Nat} {n4 : Nat} {v3 : List (Int × Int × Int)} {r : (Bool × List Int × List (List UInt8 × Bool) × List (Int × Int × Int))} {w0 w : World} {B : Nat} {fs : List HP} (_ : pegs_search_run_2_mF n s_cells1 s_all1 s_tried1 row1 v1 v2 v3 = some r) (_ : Sep w0 B w (blk g1 117 #[.slice A1 n1 c1, .slice A2 n2 c2, .map (some g2)] :: own 3 (.slice A1 n1 c1) (vI s_cells1) :: ownK 119 3 A2 n2 c2 (List.flatMap enc119 s_all1) :: mapH kf9 Value.bool g2 s_tried1 :: stk 119 3 (fun m => List.flatMap enc119 m) A3 n3 c3 es1 row1 :: blk g3 3 #[.int .i64 v1] :: blk g4 3 #[.int .i64 v2] :: blk g5 111 #[.pointer (some ⟨g1, 0, none⟩)] :: blk g6 53 #[.slice A4 n4 c4] :: ownK 61 3 A4 n4 c4 (List.flatMap enc61 v3) :: fs)), Calls Try.prog 70 #[.pointer (some ⟨g1, 0, none⟩), .slice A3 n3 c3, .func (.func 71) #[] #[.pointer (some ⟨g3, 0, none⟩), .pointer (some ⟨g4, 0, none⟩), .pointer (some ⟨g5, 0, none⟩), .pointer (some ⟨g6, 0, none⟩)]] w fun e w' => ∃ v, e = .returned v ∧ ∃ (A5 : Option Addr) (c5 : Nat), v = .bool r.1 ∧ Sep w0 B w' (blk g1 117 #[.slice A1 n1 c1, .slice A2 n2 c2, .map (some g2)] :: own 3 (.slice A1 n1 c1) (vI r.2.1) :: ownK 119 3 A2 n2 c2 (List.flatMap enc119 s_all1) :: mapH kf9 Value.bool g2 r.2.2.1 :: stk 119 3 (fun m => List.flatMap enc119 m) A3 n3 c3 es1 row1 :: blk g3 3 #[.int .i64 v1] :: blk g4 3 #[.int .i64 v2] :: blk g5 111 #[.pointer (some ⟨g1, 0, none⟩)] :: blk g6 53 #[.slice A5 r.2.2.2.length c5] :: ownK 61 3 A5 r.2.2.2.length c5 (List.flatMap enc61 r.2.2.2) :: fs) := by
    intro n
    induction n with
    | zero => intros; rename_i hm0 _; cases hm0
    | succ n ih => intros; rename_i hm0 hS0; exact pegs_search_run_2_wB (rec_pegs_search_run_2 := pegs_search_run_2_mF n) (fun hm hS => ih hm hS) hm0 hS0
  obtain ⟨n, hn⟩ := recM_some hm
  exact key n hn hS

set_option maxRecDepth 100000 in
theorem pegs_search_run_2_J6_le_pegs_search_run_2 {rec_pegs_search_run_21 rec_pegs_search_run_22 : List Int → List (Int × Int × Int) → List (List UInt8 × Bool) → List (Int × Int × Int) → Int → Int → List (Int × Int × Int) → Option (Bool × List Int × List (List UInt8 × Bool) × List (Int × Int × Int))} (h_rec_pegs_search_run_2 : ∀ a0 a1 a2 a3 a4 a5 a6, Le (rec_pegs_search_run_21 a0 a1 a2 a3 a4 a5 a6) (rec_pegs_search_run_22 a0 a1 a2 a3 a4 a5 a6)) (s_all1 : List (Int × Int × Int)) (row1 : List (Int × Int × Int)) (v1 : Int) (v2 : Int) (s3 : List Int) (s4 : List (List UInt8 × Bool)) (done2 : List (Int × Int × Int)) (z1 : Int) : Le (pegs_search_run_2_J6 rec_pegs_search_run_21 s_all1 row1 v1 v2 s3 s4 done2 z1) (pegs_search_run_2_J6 rec_pegs_search_run_22 s_all1 row1 v1 v2 s3 s4 done2 z1) := by
  unfold pegs_search_run_2_J6
  repeat' (first | with_reducible exact Le.refl _ | with_reducible exact h_rec_pegs_search_run_2 _ _ _ _ _ _ _ | with_reducible refine Le.asrt ?_ | with_reducible refine Le.ite ?_ ?_ | refine Le.bind ?_ (fun _ => ?_) | refine Le.loop2 (fun _ => ?_) | refine Le.elim2 (fun _ => ?_) (fun _ => ?_))

set_option maxRecDepth 100000 in
theorem pegs_search_run_2_J4_le_pegs_search_run_2 {rec_pegs_search_run_21 rec_pegs_search_run_22 : List Int → List (Int × Int × Int) → List (List UInt8 × Bool) → List (Int × Int × Int) → Int → Int → List (Int × Int × Int) → Option (Bool × List Int × List (List UInt8 × Bool) × List (Int × Int × Int))} (h_rec_pegs_search_run_2 : ∀ a0 a1 a2 a3 a4 a5 a6, Le (rec_pegs_search_run_21 a0 a1 a2 a3 a4 a5 a6) (rec_pegs_search_run_22 a0 a1 a2 a3 a4 a5 a6)) (s_all1 : List (Int × Int × Int)) (row1 : List (Int × Int × Int)) (v1 : Int) (v2 : Int) (s3 : List Int) (s4 : List (List UInt8 × Bool)) (done2 : List (Int × Int × Int)) (z1 : Int) : Le (pegs_search_run_2_J4 rec_pegs_search_run_21 s_all1 row1 v1 v2 s3 s4 done2 z1) (pegs_search_run_2_J4 rec_pegs_search_run_22 s_all1 row1 v1 v2 s3 s4 done2 z1) := by
  unfold pegs_search_run_2_J4
  repeat' (first | with_reducible exact Le.refl _ | with_reducible exact h_rec_pegs_search_run_2 _ _ _ _ _ _ _ | with_reducible exact pegs_search_run_2_J6_le_pegs_search_run_2 h_rec_pegs_search_run_2 _ _ _ _ _ _ _ _ | with_reducible refine Le.asrt ?_ | with_reducible refine Le.ite ?_ ?_ | refine Le.bind ?_ (fun _ => ?_) | refine Le.loop2 (fun _ => ?_) | refine Le.elim2 (fun _ => ?_) (fun _ => ?_))

set_option maxRecDepth 100000 in
theorem pegs_search_run_2_L1_le_pegs_search_run_2 {rec_pegs_search_run_21 rec_pegs_search_run_22 : List Int → List (Int × Int × Int) → List (List UInt8 × Bool) → List (Int × Int × Int) → Int → Int → List (Int × Int × Int) → Option (Bool × List Int × List (List UInt8 × Bool) × List (Int × Int × Int))} (h_rec_pegs_search_run_2 : ∀ a0 a1 a2 a3 a4 a5 a6, Le (rec_pegs_search_run_21 a0 a1 a2 a3 a4 a5 a6) (rec_pegs_search_run_22 a0 a1 a2 a3 a4 a5 a6)) (s_all1 : List (Int × Int × Int)) (row1 : List (Int × Int × Int)) (v1 : Int) (v2 : Int) (x : (List Int × List (List UInt8 × Bool) × List (Int × Int × Int) × Int)) : Le (pegs_search_run_2_L1 rec_pegs_search_run_21 s_all1 row1 v1 v2 x) (pegs_search_run_2_L1 rec_pegs_search_run_22 s_all1 row1 v1 v2 x) := by
  rcases x with ⟨s3, s4, done2, z1⟩
  all_goals
    unfold pegs_search_run_2_L1
    try dsimp only
    repeat' (first | with_reducible exact Le.refl _ | with_reducible exact h_rec_pegs_search_run_2 _ _ _ _ _ _ _ | with_reducible exact pegs_search_run_2_J4_le_pegs_search_run_2 h_rec_pegs_search_run_2 _ _ _ _ _ _ _ _ | with_reducible refine Le.asrt ?_ | with_reducible refine Le.ite ?_ ?_ | refine Le.bind ?_ (fun _ => ?_) | refine Le.loop2 (fun _ => ?_) | refine Le.elim2 (fun _ => ?_) (fun _ => ?_))

set_option maxRecDepth 100000 in
theorem pegs_search_run_2_J2_le_pegs_search_run_2 {rec_pegs_search_run_21 rec_pegs_search_run_22 : List Int → List (Int × Int × Int) → List (List UInt8 × Bool) → List (Int × Int × Int) → Int → Int → List (Int × Int × Int) → Option (Bool × List Int × List (List UInt8 × Bool) × List (Int × Int × Int))} (h_rec_pegs_search_run_2 : ∀ a0 a1 a2 a3 a4 a5 a6, Le (rec_pegs_search_run_21 a0 a1 a2 a3 a4 a5 a6) (rec_pegs_search_run_22 a0 a1 a2 a3 a4 a5 a6)) (s_cells1 : List Int) (s_all1 : List (Int × Int × Int)) (s_tried1 : List (List UInt8 × Bool)) (row1 : List (Int × Int × Int)) (v1 : Int) (v2 : Int) (done1 : List (Int × Int × Int)) (r2 : (List UInt8)) : Le (pegs_search_run_2_J2 rec_pegs_search_run_21 s_cells1 s_all1 s_tried1 row1 v1 v2 done1 r2) (pegs_search_run_2_J2 rec_pegs_search_run_22 s_cells1 s_all1 s_tried1 row1 v1 v2 done1 r2) := by
  unfold pegs_search_run_2_J2
  repeat' (first | with_reducible exact Le.refl _ | with_reducible exact h_rec_pegs_search_run_2 _ _ _ _ _ _ _ | with_reducible exact pegs_search_run_2_L1_le_pegs_search_run_2 h_rec_pegs_search_run_2 _ _ _ _ _ | with_reducible refine Le.asrt ?_ | with_reducible refine Le.ite ?_ ?_ | refine Le.bind ?_ (fun _ => ?_) | refine Le.loop2 (fun _ => ?_) | refine Le.elim2 (fun _ => ?_) (fun _ => ?_))

set_option maxRecDepth 100000 in
theorem pegs_search_run_2_J1_le_pegs_search_run_2 {rec_pegs_search_run_21 rec_pegs_search_run_22 : List Int → List (Int × Int × Int) → List (List UInt8 × Bool) → List (Int × Int × Int) → Int → Int → List (Int × Int × Int) → Option (Bool × List Int × List (List UInt8 × Bool) × List (Int × Int × Int))} (h_rec_pegs_search_run_2 : ∀ a0 a1 a2 a3 a4 a5 a6, Le (rec_pegs_search_run_21 a0 a1 a2 a3 a4 a5 a6) (rec_pegs_search_run_22 a0 a1 a2 a3 a4 a5 a6)) (s_cells1 : List Int) (s_all1 : List (Int × Int × Int)) (s_tried1 : List (List UInt8 × Bool)) (row1 : List (Int × Int × Int)) (v1 : Int) (v2 : Int) (done1 : List (Int × Int × Int)) : Le (pegs_search_run_2_J1 rec_pegs_search_run_21 s_cells1 s_all1 s_tried1 row1 v1 v2 done1) (pegs_search_run_2_J1 rec_pegs_search_run_22 s_cells1 s_all1 s_tried1 row1 v1 v2 done1) := by
  unfold pegs_search_run_2_J1
  repeat' (first | with_reducible exact Le.refl _ | with_reducible exact h_rec_pegs_search_run_2 _ _ _ _ _ _ _ | with_reducible exact pegs_search_run_2_J2_le_pegs_search_run_2 h_rec_pegs_search_run_2 _ _ _ _ _ _ _ _ | with_reducible refine Le.asrt ?_ | with_reducible refine Le.ite ?_ ?_ | refine Le.bind ?_ (fun _ => ?_) | refine Le.loop2 (fun _ => ?_) | refine Le.elim2 (fun _ => ?_) (fun _ => ?_))

set_option maxRecDepth 100000 in
theorem pegs_search_run_2_B_le {rec_pegs_search_run_21 rec_pegs_search_run_22 : List Int → List (Int × Int × Int) → List (List UInt8 × Bool) → List (Int × Int × Int) → Int → Int → List (Int × Int × Int) → Option (Bool × List Int × List (List UInt8 × Bool) × List (Int × Int × Int))} (h_rec_pegs_search_run_2 : ∀ a0 a1 a2 a3 a4 a5 a6, Le (rec_pegs_search_run_21 a0 a1 a2 a3 a4 a5 a6) (rec_pegs_search_run_22 a0 a1 a2 a3 a4 a5 a6)) (s_cells1 : List Int) (s_all1 : List (Int × Int × Int)) (s_tried1 : List (List UInt8 × Bool)) (row1 : List (Int × Int × Int)) (v1 : Int) (v2 : Int) (v3 : List (Int × Int × Int)) : Le (pegs_search_run_2_B rec_pegs_search_run_21 s_cells1 s_all1 s_tried1 row1 v1 v2 v3) (pegs_search_run_2_B rec_pegs_search_run_22 s_cells1 s_all1 s_tried1 row1 v1 v2 v3) := by
  unfold pegs_search_run_2_B
  repeat' (first | with_reducible exact Le.refl _ | with_reducible exact h_rec_pegs_search_run_2 _ _ _ _ _ _ _ | with_reducible exact pegs_search_run_2_J1_le_pegs_search_run_2 h_rec_pegs_search_run_2 _ _ _ _ _ _ _ | with_reducible refine Le.asrt ?_ | with_reducible refine Le.ite ?_ ?_ | refine Le.bind ?_ (fun _ => ?_) | refine Le.loop2 (fun _ => ?_) | refine Le.elim2 (fun _ => ?_) (fun _ => ?_))

set_option maxRecDepth 100000 in
theorem pegs_search_run_2_mF_le : ∀ (n : Nat) (s_cells1 : List Int) (s_all1 : List (Int × Int × Int)) (s_tried1 : List (List UInt8 × Bool)) (row1 : List (Int × Int × Int)) (v1 : Int) (v2 : Int) (v3 : List (Int × Int × Int)), Le (pegs_search_run_2_mF n s_cells1 s_all1 s_tried1 row1 v1 v2 v3) (pegs_search_run_2_mF (n + 1) s_cells1 s_all1 s_tried1 row1 v1 v2 v3)
  | 0, _, _, _, _, _, _, _ => fun _ h => by cases h
  | n + 1, _, _, _, _, _, _, _ => pegs_search_run_2_B_le (fun a0 a1 a2 a3 a4 a5 a6 => pegs_search_run_2_mF_le n a0 a1 a2 a3 a4 a5 a6) _ _ _ _ _ _ _

set_option maxRecDepth 100000 in
theorem pegs_search_run_2_m_of (N : Nat) (s_cells1 : List Int) (s_all1 : List (Int × Int × Int)) (s_tried1 : List (List UInt8 × Bool)) (row1 : List (Int × Int × Int)) (v1 : Int) (v2 : Int) (v3 : List (Int × Int × Int)) {r : (Bool × List Int × List (List UInt8 × Bool) × List (Int × Int × Int))} (h : pegs_search_run_2_mF N s_cells1 s_all1 s_tried1 row1 v1 v2 v3 = some r) : pegs_search_run_2_m s_cells1 s_all1 s_tried1 row1 v1 v2 v3 = some r :=
  recM_mono (fun n => pegs_search_run_2_mF_le n _ _ _ _ _ _ _) h

noncomputable def pegs_Solve_J2  (r5 : (Bool × List Int × List (List UInt8 × Bool) × List (Int × Int × Int))) : Option (List (Int × Int × Int) × Int) :=
  some (r5.2.2.2, 0)

noncomputable def pegs_Solve_J1  (g1 : Int) (g2 : Int) (g3 : List Int) (last1 : Int) : Option (List (Int × Int × Int) × Int) :=
  (pegs_newSearch_m g1 g2 g3).bind fun r3 => (pegs_many_m g1 g2 g3 1).bind fun r4 => (pegs_search_run_2_m r3.1 r3.2.1 r3.2.2 ([] : List (Int × Int × Int)) r4 last1 ([] : List (Int × Int × Int))).bind fun r5 => if (!r5.1) then (some (([] : List (Int × Int × Int)), 10)) else ((pegs_Solve_J2 r5))

noncomputable def pegs_Solve_m  (g1 : Int) (g2 : Int) (g3 : List Int) (last1 : Int) : Option (List (Int × Int × Int) × Int) :=
  (rows_May_m g1 g2 g3).bind fun r1 => if (!r1) then (some (([] : List (Int × Int × Int)), 12)) else (asrt ((decide ((0 : Int) ≤ last1)) = true → ((decide (last1 < (-1))) || (decide ((g3.length : Int) ≤ last1))) = false → 0 ≤ last1 ∧ last1 < (g3.length : Int)) <| if (((decide (last1 < (-1))) || (decide ((g3.length : Int) ≤ last1))) || ((decide ((0 : Int) ≤ last1)) && ((geti g3 last1) == 2))) then (some (([] : List (Int × Int × Int)), 3)) else ((pegs_great_m g1 g2 g3).bind fun r2 => if r2 then (some (([] : List (Int × Int × Int)), 2)) else ((pegs_Solve_J1 g1 g2 g3 last1))))

set_option maxRecDepth 100000 in
set_option maxHeartbeats 4000000 in
theorem pegs_Solve_w  {g1 : Int} {g2 : Int} {A1 : Option Addr} {c1 : Nat} {n1 : Nat} {g3 : List Int} {last1 : Int} {r : (List (Int × Int × Int) × Int)} {w0 w : World} {B : Nat} {fs : List HP} (hm : pegs_Solve_m g1 g2 g3 last1 = some r) (hS : Sep w0 B w (fs)) (hr_g3 : RdF w0 B fs A1 (vI g3)) (_hc_g3 : g3.length ≤ c1) (_hn_g3 : n1 = g3.length) :
    Calls Try.prog 26 #[.agg #[.int .i64 g1, .int .i64 g2, .slice A1 n1 c1], .int .i64 last1] w fun e w' => ∃ v, e = .returned v ∧ ∃ (A5 : Option Addr) (c5 : Nat), v = .tuple #[.slice A5 r.1.length c5, .int .i64 r.2] ∧ Sep w0 B w' (ownK 61 3 A5 r.1.length c5 (List.flatMap enc61 r.1) :: fs) := by
  obtain ⟨i3, hi3, hz3, hs3, hb3⟩ := info_parts Info3
  obtain ⟨i61, hi61, hz61, hs61, hb61⟩ := info_parts Info61
  obtain ⟨i111, hi111, hz111, hs111, hb111⟩ := info_parts Info111
  obtain rfl := _hn_g3
  unfold pegs_Solve_m at hm
  replace hm := start_b hm
  refine enter (l := [.agg #[.int .i64 g1, .int .i64 g2, .slice A1 g3.length c1], .int .i64 last1]) (n := 49) Try.func26 rfl rfl (by simp) (fun a hF => ?_)
  refine seqR ?_
  refine at_do (d := 2) (s := vS (Instr.box 24 (.agg #[.int .i64 g1, .int .i64 g2, .slice A1 g3.length c1]))) (v := .pointer (some ⟨w.heap.size, 0, none⟩)) (w' := w.alloc (.cells #[.int .i64 g1, .int .i64 g2, .slice A1 g3.length c1] 24)) hF (by kernel_rfl) (by kernel_rfl) (by kernel_rfl) (fun a hF => ?_)
  have hS : Sep w0 B (w.alloc (.cells #[.int .i64 g1, .int .i64 g2, .slice A1 g3.length c1] 24)) (blk w.heap.size 24 #[.int .i64 g1, .int .i64 g2, .slice A1 g3.length c1] :: (fs)) := hS.box 24 #[.int .i64 g1, .int .i64 g2, .slice A1 g3.length c1]
  generalize w.heap.size = g4 at hF hS
  generalize w.alloc (.cells #[.int .i64 g1, .int .i64 g2, .slice A1 g3.length c1] 24) = w at hS ⊢
  refine at_do (d := 3) (s := vS (Instr.box 3 (.int .i64 last1))) (v := .pointer (some ⟨w.heap.size, 0, none⟩)) (w' := w.alloc (.cells #[.int .i64 last1] 3)) hF (by kernel_rfl) (by kernel_rfl) (by kernel_rfl) (fun a hF => ?_)
  have hS : Sep w0 B (w.alloc (.cells #[.int .i64 last1] 3)) (blk w.heap.size 3 #[.int .i64 last1] :: (blk g4 24 #[.int .i64 g1, .int .i64 g2, .slice A1 g3.length c1] :: fs)) := hS.box 3 #[.int .i64 last1]
  generalize w.heap.size = g5 at hF hS
  generalize w.alloc (.cells #[.int .i64 last1] 3) = w at hS ⊢
  refine at_run 2 [] [] [2, 3] [pl 2 (.pointer (some ⟨g4, 0, none⟩)), pl 3 (.pointer (some ⟨g5, 0, none⟩))] hF hS (by kernel_rfl) (by kernel_rfl) ?_ (fun a w hF hS => ?_)
  · exact obs_nil
  refine at_end [2, 3] [pl 2 (.pointer (some ⟨g4, 0, none⟩)), pl 3 (.pointer (some ⟨g5, 0, none⟩))] hF rfl (by kernel_rfl) (fun hF => ?_)
  refine then_n ?_
  refine seq_cut (fun a w => Fr 49 [pl 2 (.pointer (some ⟨g4, 0, none⟩)), pl 3 (.pointer (some ⟨g5, 0, none⟩))] a ∧ Sep w0 B w (blk g4 24 #[.int .i64 g1, .int .i64 g2, .slice A1 g3.length c1] :: blk g5 3 #[.int .i64 last1] :: fs) ∧ ((pegs_Solve_J1 g1 g2 g3 last1)).bind some = some r) ?_ ?_
  · rintro a w ⟨hF, hS, hm⟩
    unfold pegs_Solve_J1 at hm
    refine seqR ?_
    obtain ⟨r3, hr3, hm⟩ := call_b hm
    refine at_run 1 [⟨false, [], vS (Instr.loadAt 24 (.pointer (some ⟨g4, 0, none⟩))), .agg #[.int .i64 g1, .int .i64 g2, .slice A1 g3.length c1]⟩] [some (.agg #[.int .i64 g1, .int .i64 g2, .slice A1 g3.length c1])] [2, 3, 39] [pl 2 (.pointer (some ⟨g4, 0, none⟩)), pl 3 (.pointer (some ⟨g5, 0, none⟩)), pl 39 (.agg #[.int .i64 g1, .int .i64 g2, .slice A1 g3.length c1])] hF hS (by kernel_rfl) (by kernel_rfl) ?_ (fun a w hF hS => ?_)
    · exact obs_cons (ob_loadA (cs := #[.int .i64 g1, .int .i64 g2, .slice A1 g3.length c1]) (by kernel_rfl) (by kernel_rfl) (fun _ _ hS => (hS.at_ 0 rfl).cellsAt 0 (by rfl))) <| obs_nil
    refine at_call (f := 68) (args := #[.agg #[.int .i64 g1, .int .i64 g2, .slice A1 g3.length c1]]) (d := 40) hF (by kernel_rfl) (by kernel_rfl) Try.func68 (by kernel_rfl) rfl (pegs_newSearch_w hr3 hS (fun _ hS => (hr_g3 _ (hS.dropN 2))) _hc_g3 rfl) (fun v a w hR hF => ?_)
    clear hS
    obtain ⟨g6, A2, c2, A3, c3, g7, rfl, hS⟩ := hR
    have hS : Sep w0 B w (blk g6 117 #[.slice A2 r3.1.length c2, .slice A3 r3.2.1.length c3, .map (some g7)] :: own 3 (.slice A2 r3.1.length c2) (vI r3.1) :: ownK 119 3 A3 r3.2.1.length c3 (List.flatMap enc119 r3.2.1) :: mapH kf9 Value.bool g7 r3.2.2 :: blk g4 24 #[.int .i64 g1, .int .i64 g2, .slice A1 g3.length c1] :: blk g5 3 #[.int .i64 last1] :: fs) := hS
    refine at_do (d := 6) (s := vS (Instr.alloc 111 true (.tuple #[]))) (v := .pointer (some ⟨w.heap.size, 0, none⟩)) (w' := w.alloc (.cells #[.pointer none] 111)) hF (by kernel_rfl) (by kernel_rfl) (by kernel_rfl) (fun a hF => ?_)
    have hS : Sep w0 B (w.alloc (.cells #[.pointer none] 111)) (blk w.heap.size 111 #[.pointer none] :: (blk g6 117 #[.slice A2 r3.1.length c2, .slice A3 r3.2.1.length c3, .map (some g7)] :: own 3 (.slice A2 r3.1.length c2) (vI r3.1) :: ownK 119 3 A3 r3.2.1.length c3 (List.flatMap enc119 r3.2.1) :: mapH kf9 Value.bool g7 r3.2.2 :: blk g4 24 #[.int .i64 g1, .int .i64 g2, .slice A1 g3.length c1] :: blk g5 3 #[.int .i64 last1] :: fs)) := hS.box 111 #[.pointer none]
    generalize w.heap.size = g8 at hF hS
    generalize w.alloc (.cells #[.pointer none] 111) = w at hS ⊢
    obtain ⟨w, hrun, hS⟩ := run_put (P := Try.prog) (t := 111) (u := .pointer (some ⟨g6, 0, none⟩)) (i := 0) (hS.at_ 0 rfl) hi111 hs111 rfl (Nat.lt_of_lt_of_eq (Nat.lt_of_succ_le (Nat.le_of_ble_eq_true (by kernel_rfl))) rfl)
    refine at_skip hF (by kernel_rfl) hrun ?_
    have hS : Sep w0 B w (blk g8 111 #[.pointer (some ⟨g6, 0, none⟩)] :: blk g6 117 #[.slice A2 r3.1.length c2, .slice A3 r3.2.1.length c3, .map (some g7)] :: own 3 (.slice A2 r3.1.length c2) (vI r3.1) :: ownK 119 3 A3 r3.2.1.length c3 (List.flatMap enc119 r3.2.1) :: mapH kf9 Value.bool g7 r3.2.2 :: blk g4 24 #[.int .i64 g1, .int .i64 g2, .slice A1 g3.length c1] :: blk g5 3 #[.int .i64 last1] :: fs) := hS
    refine at_end [2, 3, 6] [pl 2 (.pointer (some ⟨g4, 0, none⟩)), pl 3 (.pointer (some ⟨g5, 0, none⟩)), pl 6 (.pointer (some ⟨g8, 0, none⟩))] hF rfl (by kernel_rfl) (fun hF => ?_)
    refine then_n ?_
    refine seqR ?_
    obtain ⟨r4, hr4, hm⟩ := call_b hm
    refine at_run 2 [⟨false, [], vS (Instr.loadAt 24 (.pointer (some ⟨g4, 0, none⟩))), .agg #[.int .i64 g1, .int .i64 g2, .slice A1 g3.length c1]⟩, ⟨false, [], callFunc 69 #[.agg #[.int .i64 g1, .int .i64 g2, .slice A1 g3.length c1], .int .i64 1], .int .i64 r4⟩] [some (.agg #[.int .i64 g1, .int .i64 g2, .slice A1 g3.length c1]), some (.int .i64 r4)] [3, 6, 42] [pl 3 (.pointer (some ⟨g5, 0, none⟩)), pl 6 (.pointer (some ⟨g8, 0, none⟩)), pl 42 (.int .i64 r4)] hF hS (by kernel_rfl) (by kernel_rfl) ?_ (fun a w hF hS => ?_)
    · exact obs_cons (ob_loadA (cs := #[.int .i64 g1, .int .i64 g2, .slice A1 g3.length c1]) (by kernel_rfl) (by kernel_rfl) (fun _ _ hS => (hS.at_ 5 rfl).cellsAt 0 (by rfl))) <| obs_cons (ob_call Try.func69 (by kernel_rfl) rfl (fun _ _ hS => pegs_many_w hr4 hS (fun _ hS => (hr_g3 _ (hS.dropN 7))) _hc_g3 rfl)) <| obs_nil
    refine at_do (d := 7) (s := vS (Instr.alloc 3 true (.tuple #[]))) (v := .pointer (some ⟨w.heap.size, 0, none⟩)) (w' := w.alloc (.cells #[.int .i64 0] 3)) hF (by kernel_rfl) (by kernel_rfl) (by kernel_rfl) (fun a hF => ?_)
    have hS : Sep w0 B (w.alloc (.cells #[.int .i64 0] 3)) (blk w.heap.size 3 #[.int .i64 0] :: (blk g8 111 #[.pointer (some ⟨g6, 0, none⟩)] :: blk g6 117 #[.slice A2 r3.1.length c2, .slice A3 r3.2.1.length c3, .map (some g7)] :: own 3 (.slice A2 r3.1.length c2) (vI r3.1) :: ownK 119 3 A3 r3.2.1.length c3 (List.flatMap enc119 r3.2.1) :: mapH kf9 Value.bool g7 r3.2.2 :: blk g4 24 #[.int .i64 g1, .int .i64 g2, .slice A1 g3.length c1] :: blk g5 3 #[.int .i64 last1] :: fs)) := hS.box 3 #[.int .i64 0]
    generalize w.heap.size = g9 at hF hS
    generalize w.alloc (.cells #[.int .i64 0] 3) = w at hS ⊢
    obtain ⟨w, hrun, hS⟩ := run_put (P := Try.prog) (t := 3) (u := .int .i64 r4) (i := 0) (hS.at_ 0 rfl) hi3 hs3 rfl (Nat.lt_of_lt_of_eq (Nat.lt_of_succ_le (Nat.le_of_ble_eq_true (by kernel_rfl))) rfl)
    refine at_skip hF (by kernel_rfl) hrun ?_
    have hS : Sep w0 B w (blk g9 3 #[.int .i64 r4] :: blk g8 111 #[.pointer (some ⟨g6, 0, none⟩)] :: blk g6 117 #[.slice A2 r3.1.length c2, .slice A3 r3.2.1.length c3, .map (some g7)] :: own 3 (.slice A2 r3.1.length c2) (vI r3.1) :: ownK 119 3 A3 r3.2.1.length c3 (List.flatMap enc119 r3.2.1) :: mapH kf9 Value.bool g7 r3.2.2 :: blk g4 24 #[.int .i64 g1, .int .i64 g2, .slice A1 g3.length c1] :: blk g5 3 #[.int .i64 last1] :: fs) := hS
    refine at_end [3, 6, 7] [pl 3 (.pointer (some ⟨g5, 0, none⟩)), pl 6 (.pointer (some ⟨g8, 0, none⟩)), pl 7 (.pointer (some ⟨g9, 0, none⟩))] hF rfl (by kernel_rfl) (fun hF => ?_)
    refine then_n ?_
    refine seqR ?_
    refine at_do (d := 8) (s := vS (Instr.alloc 53 true (.tuple #[]))) (v := .pointer (some ⟨w.heap.size, 0, none⟩)) (w' := w.alloc (.cells #[.slice none 0 0] 53)) hF (by kernel_rfl) (by kernel_rfl) (by kernel_rfl) (fun a hF => ?_)
    have hS : Sep w0 B (w.alloc (.cells #[.slice none 0 0] 53)) (blk w.heap.size 53 #[.slice none 0 0] :: (blk g9 3 #[.int .i64 r4] :: blk g8 111 #[.pointer (some ⟨g6, 0, none⟩)] :: blk g6 117 #[.slice A2 r3.1.length c2, .slice A3 r3.2.1.length c3, .map (some g7)] :: own 3 (.slice A2 r3.1.length c2) (vI r3.1) :: ownK 119 3 A3 r3.2.1.length c3 (List.flatMap enc119 r3.2.1) :: mapH kf9 Value.bool g7 r3.2.2 :: blk g4 24 #[.int .i64 g1, .int .i64 g2, .slice A1 g3.length c1] :: blk g5 3 #[.int .i64 last1] :: fs)) := hS.box 53 #[.slice none 0 0]
    generalize w.heap.size = g10 at hF hS
    generalize w.alloc (.cells #[.slice none 0 0] 53) = w at hS ⊢
    refine at_end [3, 6, 7, 8] [pl 3 (.pointer (some ⟨g5, 0, none⟩)), pl 6 (.pointer (some ⟨g8, 0, none⟩)), pl 7 (.pointer (some ⟨g9, 0, none⟩)), pl 8 (.pointer (some ⟨g10, 0, none⟩))] hF rfl (by kernel_rfl) (fun hF => ?_)
    refine then_n ?_
    refine seqR ?_
    obtain ⟨r5, hr5, hm⟩ := call_b hm
    refine at_run 2 [⟨false, [], vS (Instr.loadAt 111 (.pointer (some ⟨g8, 0, none⟩))), .pointer (some ⟨g6, 0, none⟩)⟩] [some (.pointer (some ⟨g6, 0, none⟩)), none] [8, 43, 44] [pl 8 (.pointer (some ⟨g10, 0, none⟩)), pl 43 (.pointer (some ⟨g6, 0, none⟩)), pl 44 (.func (.func 71) #[] #[.pointer (some ⟨g9, 0, none⟩), .pointer (some ⟨g5, 0, none⟩), .pointer (some ⟨g8, 0, none⟩), .pointer (some ⟨g10, 0, none⟩)])] hF hS (by kernel_rfl) (by kernel_rfl) ?_ (fun a w hF hS => ?_)
    · exact obs_cons (ob_load Agg111 (fun _ _ hS => (hS.at_ 2 rfl).cell rfl)) <| obs_nil
    have hS : Sep w0 B w (ownK 61 3 none 0 0 (List.flatMap enc61 ([] : List (Int × Int × Int))) :: blk g10 53 #[.slice none 0 0] :: blk g9 3 #[.int .i64 r4] :: blk g8 111 #[.pointer (some ⟨g6, 0, none⟩)] :: blk g6 117 #[.slice A2 r3.1.length c2, .slice A3 r3.2.1.length c3, .map (some g7)] :: own 3 (.slice A2 r3.1.length c2) (vI r3.1) :: ownK 119 3 A3 r3.2.1.length c3 (List.flatMap enc119 r3.2.1) :: mapH kf9 Value.bool g7 r3.2.2 :: blk g4 24 #[.int .i64 g1, .int .i64 g2, .slice A1 g3.length c1] :: blk g5 3 #[.int .i64 last1] :: fs) := hS.nilK 61 3 enc61
    have hS : Sep w0 B w (ownK 61 3 none 0 0 (List.flatMap enc61 ([] : List (Int × Int × Int))) :: blk g10 53 #[.slice none 0 0] :: blk g9 3 #[.int .i64 r4] :: blk g8 111 #[.pointer (some ⟨g6, 0, none⟩)] :: blk g6 117 #[.slice A2 r3.1.length c2, .slice A3 r3.2.1.length c3, .map (some g7)] :: own 3 (.slice A2 r3.1.length c2) (vI r3.1) :: ownK 119 3 A3 r3.2.1.length c3 (List.flatMap enc119 r3.2.1) :: mapH kf9 Value.bool g7 r3.2.2 :: blk g4 24 #[.int .i64 g1, .int .i64 g2, .slice A1 g3.length c1] :: blk g5 3 #[.int .i64 last1] :: fs) := hS
    have hS : Sep w0 B w (stk 119 3 (fun m => List.flatMap enc119 m) none 0 0 ([] : List Sk) ([] : List (Int × Int × Int)) :: ownK 61 3 none 0 0 (List.flatMap enc61 ([] : List (Int × Int × Int))) :: blk g10 53 #[.slice none 0 0] :: blk g9 3 #[.int .i64 r4] :: blk g8 111 #[.pointer (some ⟨g6, 0, none⟩)] :: blk g6 117 #[.slice A2 r3.1.length c2, .slice A3 r3.2.1.length c3, .map (some g7)] :: own 3 (.slice A2 r3.1.length c2) (vI r3.1) :: ownK 119 3 A3 r3.2.1.length c3 (List.flatMap enc119 r3.2.1) :: mapH kf9 Value.bool g7 r3.2.2 :: blk g4 24 #[.int .i64 g1, .int .i64 g2, .slice A1 g3.length c1] :: blk g5 3 #[.int .i64 last1] :: fs) := hS.nilSk (EncK.encL encK119) 119
    have hS : Sep w0 B w (blk g6 117 #[.slice A2 r3.1.length c2, .slice A3 r3.2.1.length c3, .map (some g7)] :: own 3 (.slice A2 r3.1.length c2) (vI r3.1) :: ownK 119 3 A3 r3.2.1.length c3 (List.flatMap enc119 r3.2.1) :: mapH kf9 Value.bool g7 r3.2.2 :: stk 119 3 (fun m => List.flatMap enc119 m) none 0 0 ([] : List Sk) ([] : List (Int × Int × Int)) :: blk g9 3 #[.int .i64 r4] :: blk g5 3 #[.int .i64 last1] :: blk g8 111 #[.pointer (some ⟨g6, 0, none⟩)] :: blk g10 53 #[.slice none 0 0] :: ownK 61 3 none 0 0 (List.flatMap enc61 ([] : List (Int × Int × Int))) :: blk g4 24 #[.int .i64 g1, .int .i64 g2, .slice A1 g3.length c1] :: fs) := hS.pickN 11 [5, 6, 7, 8, 0, 3, 10, 4, 2, 1, 9] (by decide)
    refine at_call (f := 70) (args := #[.pointer (some ⟨g6, 0, none⟩), .slice none 0 0, .func (.func 71) #[] #[.pointer (some ⟨g9, 0, none⟩), .pointer (some ⟨g5, 0, none⟩), .pointer (some ⟨g8, 0, none⟩), .pointer (some ⟨g10, 0, none⟩)]]) (d := 45) hF (by kernel_rfl) (by kernel_rfl) Try.func70 (by kernel_rfl) rfl (pegs_search_run_2_w hr5 hS ) (fun v a w hR hF => ?_)
    clear hS
    obtain ⟨A4, c4, rfl, hS⟩ := hR
    have hS : Sep w0 B w (blk g6 117 #[.slice A2 r3.1.length c2, .slice A3 r3.2.1.length c3, .map (some g7)] :: own 3 (.slice A2 r3.1.length c2) (vI r5.2.1) :: ownK 119 3 A3 r3.2.1.length c3 (List.flatMap enc119 r3.2.1) :: mapH kf9 Value.bool g7 r5.2.2.1 :: stk 119 3 (fun m => List.flatMap enc119 m) none 0 0 ([] : List Sk) ([] : List (Int × Int × Int)) :: blk g9 3 #[.int .i64 r4] :: blk g5 3 #[.int .i64 last1] :: blk g8 111 #[.pointer (some ⟨g6, 0, none⟩)] :: blk g10 53 #[.slice A4 r5.2.2.2.length c4] :: ownK 61 3 A4 r5.2.2.2.length c4 (List.flatMap enc61 r5.2.2.2) :: blk g4 24 #[.int .i64 g1, .int .i64 g2, .slice A1 g3.length c1] :: fs) := hS
    refine at_run 1 [] [] [8, 9] [pl 8 (.pointer (some ⟨g10, 0, none⟩)), pl 9 (.bool r5.1)] hF hS (by kernel_rfl) (by kernel_rfl) ?_ (fun a w hF hS => ?_)
    · exact obs_nil
    refine at_end [8, 9] [pl 8 (.pointer (some ⟨g10, 0, none⟩)), pl 9 (.bool r5.1)] hF rfl (by kernel_rfl) (fun hF => ?_)
    refine then_n ?_
    refine seq_cut (fun a w => Fr 49 [pl 8 (.pointer (some ⟨g10, 0, none⟩))] a ∧ Sep w0 B w (blk g10 53 #[.slice A4 r5.2.2.2.length c4] :: ownK 61 3 A4 r5.2.2.2.length c4 (List.flatMap enc61 r5.2.2.2) :: fs) ∧ ((pegs_Solve_J2 r5)).bind some = some r) ?_ ?_
    · rintro a w ⟨hF, hS, hm⟩
      unfold pegs_Solve_J2 at hm
      refine reg [⟨false, [], vS (Instr.loadAt 53 (.pointer (some ⟨g10, 0, none⟩))), .slice A4 r5.2.2.2.length c4⟩] [some (.slice A4 r5.2.2.2.length c4), none, none] [4, 5] [pl 4 (.slice A4 r5.2.2.2.length c4), pl 5 (.int .i64 0)] hF hS Fol (by kernel_rfl) (by kernel_rfl) (by kernel_rfl) ?_ (fun a w hF hS => ?_)
      · exact obs_cons (ob_load Agg53 (fun _ _ hS => (hS.at_ 0 rfl).cell rfl)) <| obs_nil
      refine wpIn_ret ?_
      have hS := hS.pickN 2 [1] (by decide)
      have hm : some (r5.2.2.2, 0) = some r := hm
      obtain rfl := Option.some.inj hm
      exact retV (rs := [.tmp 4, .tmp 5]) (vs := [.slice A4 r5.2.2.2.length c4, .int .i64 0]) hF rfl (rv_t (by kernel_rfl) <| rv_t (by kernel_rfl) <| rv_nil) rfl ⟨_, rfl, A4, c4, rfl, hS⟩
    · refine reg [] [] [8, 47] [pl 8 (.pointer (some ⟨g10, 0, none⟩)), pl 47 (.bool (!r5.1))] hF hS Fol (by kernel_rfl) (by kernel_rfl) (by kernel_rfl) ?_ (fun a w hF hS => ?_)
      · exact obs_nil
      refine cond_ev (t := 47) (b := !r5.1) hF (by kernel_rfl) (fun hb => ?_) (fun hb => ?_)
      · replace hm := if_t hm hb
        refine reg [] [] [4, 5] [pl 4 (.slice none 0 0), pl 5 (.int .i64 10)] hF hS Fol (by kernel_rfl) (by kernel_rfl) (by kernel_rfl) ?_ (fun a w hF hS => ?_)
        · exact obs_nil
        refine wpIn_ret ?_
        refine then_r ?_
        have hS : Sep w0 B w (ownK 61 3 none 0 0 (List.flatMap enc61 ([] : List (Int × Int × Int))) :: blk g6 117 #[.slice A2 r3.1.length c2, .slice A3 r3.2.1.length c3, .map (some g7)] :: own 3 (.slice A2 r3.1.length c2) (vI r5.2.1) :: ownK 119 3 A3 r3.2.1.length c3 (List.flatMap enc119 r3.2.1) :: mapH kf9 Value.bool g7 r5.2.2.1 :: stk 119 3 (fun m => List.flatMap enc119 m) none 0 0 ([] : List Sk) ([] : List (Int × Int × Int)) :: blk g9 3 #[.int .i64 r4] :: blk g5 3 #[.int .i64 last1] :: blk g8 111 #[.pointer (some ⟨g6, 0, none⟩)] :: blk g10 53 #[.slice A4 r5.2.2.2.length c4] :: ownK 61 3 A4 r5.2.2.2.length c4 (List.flatMap enc61 r5.2.2.2) :: blk g4 24 #[.int .i64 g1, .int .i64 g2, .slice A1 g3.length c1] :: fs) := hS.nilK 61 3 enc61
        have hl4 := (hS.at_ 0 rfl).lenK encK61
        have hS := (hS.at_ 0 rfl).reNK hl4
        have hS : Sep w0 B w (ownK 61 3 none (([] : List (Int × Int × Int)).length) 0 (List.flatMap enc61 ([] : List (Int × Int × Int))) :: blk g6 117 #[.slice A2 r3.1.length c2, .slice A3 r3.2.1.length c3, .map (some g7)] :: own 3 (.slice A2 r3.1.length c2) (vI r5.2.1) :: ownK 119 3 A3 r3.2.1.length c3 (List.flatMap enc119 r3.2.1) :: mapH kf9 Value.bool g7 r5.2.2.1 :: stk 119 3 (fun m => List.flatMap enc119 m) none 0 0 ([] : List Sk) ([] : List (Int × Int × Int)) :: blk g9 3 #[.int .i64 r4] :: blk g5 3 #[.int .i64 last1] :: blk g8 111 #[.pointer (some ⟨g6, 0, none⟩)] :: blk g10 53 #[.slice A4 r5.2.2.2.length c4] :: ownK 61 3 A4 r5.2.2.2.length c4 (List.flatMap enc61 r5.2.2.2) :: blk g4 24 #[.int .i64 g1, .int .i64 g2, .slice A1 g3.length c1] :: fs) := hS
        have hS := hS.pickN 12 [0] (by decide)
        have hm : some (([] : List (Int × Int × Int)), 10) = some r := hm
        obtain rfl := Option.some.inj hm
        exact retV (rs := [.tmp 4, .tmp 5]) (vs := [.slice none (([] : List (Int × Int × Int)).length) 0, .int .i64 10]) hF rfl (rv_t (by kernel_rfl) <| rv_t (by kernel_rfl) <| rv_nil) rfl ⟨_, rfl, none, 0, rfl, hS⟩
      · replace hm := if_f hm hb
        refine wpIn_skip ?_
        refine then_n ?_
        have hS := hS.pickN 11 [8, 9] (by decide)
        exact ⟨hF.weak [8] (by kernel_rfl), hS, hm⟩
  · refine wpIn_block ?_
    obtain ⟨r1, hr1, hm⟩ := call_b hm
    refine reg [⟨false, [], vS (Instr.loadAt 24 (.pointer (some ⟨g4, 0, none⟩))), .agg #[.int .i64 g1, .int .i64 g2, .slice A1 g3.length c1]⟩, ⟨false, [], callFunc 38 #[.agg #[.int .i64 g1, .int .i64 g2, .slice A1 g3.length c1]], .bool r1⟩] [some (.agg #[.int .i64 g1, .int .i64 g2, .slice A1 g3.length c1]), some (.bool r1), none, none] [2, 3, 10] [pl 2 (.pointer (some ⟨g4, 0, none⟩)), pl 3 (.pointer (some ⟨g5, 0, none⟩)), pl 10 (.bool (!r1))] hF hS Fol (by kernel_rfl) (by kernel_rfl) (by kernel_rfl) ?_ (fun a w hF hS => ?_)
    · exact obs_cons (ob_loadA (cs := #[.int .i64 g1, .int .i64 g2, .slice A1 g3.length c1]) (by kernel_rfl) (by kernel_rfl) (fun _ _ hS => (hS.at_ 1 rfl).cellsAt 0 (by rfl))) <| obs_cons (ob_call Try.func38 (by kernel_rfl) rfl (fun _ _ hS => rows_May_w hr1 hS (fun _ hS => (hr_g3 _ (hS.dropN 2))) _hc_g3 rfl)) <| obs_nil
    refine cond_ev (t := 10) (b := !r1) hF (by kernel_rfl) (fun hb => ?_) (fun hb => ?_)
    · replace hm := if_t hm hb
      refine reg [] [] [4, 5] [pl 4 (.slice none 0 0), pl 5 (.int .i64 12)] hF hS Fol (by kernel_rfl) (by kernel_rfl) (by kernel_rfl) ?_ (fun a w hF hS => ?_)
      · exact obs_nil
      refine wpIn_ret ?_
      refine block_r (then_r ?_)
      have hS : Sep w0 B w (ownK 61 3 none 0 0 (List.flatMap enc61 ([] : List (Int × Int × Int))) :: blk g5 3 #[.int .i64 last1] :: blk g4 24 #[.int .i64 g1, .int .i64 g2, .slice A1 g3.length c1] :: fs) := hS.nilK 61 3 enc61
      have hl1 := (hS.at_ 0 rfl).lenK encK61
      have hS := (hS.at_ 0 rfl).reNK hl1
      have hS : Sep w0 B w (ownK 61 3 none (([] : List (Int × Int × Int)).length) 0 (List.flatMap enc61 ([] : List (Int × Int × Int))) :: blk g5 3 #[.int .i64 last1] :: blk g4 24 #[.int .i64 g1, .int .i64 g2, .slice A1 g3.length c1] :: fs) := hS
      have hS := hS.pickN 3 [0] (by decide)
      have hm : some (([] : List (Int × Int × Int)), 12) = some r := hm
      obtain rfl := Option.some.inj hm
      exact retV (rs := [.tmp 4, .tmp 5]) (vs := [.slice none (([] : List (Int × Int × Int)).length) 0, .int .i64 12]) hF rfl (rv_t (by kernel_rfl) <| rv_t (by kernel_rfl) <| rv_nil) rfl ⟨_, rfl, none, 0, rfl, hS⟩
    · replace hm := if_f hm hb
      obtain ⟨hp1, hm⟩ := asrt_b hm
      refine reg [⟨false, [], vS (Instr.loadAt 3 (.pointer (some ⟨g5, 0, none⟩))), .int .i64 last1⟩, ⟨false, [(decide (last1 < (-1)), false)], vS (Instr.loadAt 3 (.pointer (some ⟨g5, 0, none⟩))), .int .i64 last1⟩, ⟨false, [(decide (last1 < (-1)), false)], vS (Instr.loadAt 22 (.pointer (some ⟨g4, 2, none⟩))), .slice A1 g3.length c1⟩, ⟨false, [((decide (last1 < (-1))) || (decide ((g3.length : Int) ≤ last1)), false)], vS (Instr.loadAt 3 (.pointer (some ⟨g5, 0, none⟩))), .int .i64 last1⟩, ⟨false, [(decide ((0 : Int) ≤ last1), true), ((decide (last1 < (-1))) || (decide ((g3.length : Int) ≤ last1)), false)], vS (Instr.loadAt 22 (.pointer (some ⟨g4, 2, none⟩))), .slice A1 g3.length c1⟩, ⟨false, [(decide ((0 : Int) ≤ last1), true), ((decide (last1 < (-1))) || (decide ((g3.length : Int) ≤ last1)), false)], vS (Instr.loadAt 3 (.pointer (some ⟨g5, 0, none⟩))), .int .i64 last1⟩, ⟨true, [(decide ((0 : Int) ≤ last1), true), ((decide (last1 < (-1))) || (decide ((g3.length : Int) ≤ last1)), false)], vS (Instr.indexAt 22 (.slice A1 g3.length c1) (.int .i64 last1)), .pointer (some (sAddr A1 last1))⟩, ⟨false, [(decide ((0 : Int) ≤ last1), true), ((decide (last1 < (-1))) || (decide ((g3.length : Int) ≤ last1)), false)], vS (Instr.loadAt 3 (.pointer (some (sAddr A1 last1)))), .int .i64 (geti g3 last1)⟩] [some (.int .i64 last1), none, none, some (.int .i64 last1), none, some (.slice A1 g3.length c1), none, none, none, none, some (.int .i64 last1), none, none, none, some (.slice A1 g3.length c1), some (.int .i64 last1), some (.pointer (some (sAddr A1 last1))), some (.int .i64 (geti g3 last1)), none, none, none, none] [2, 3, 14] [pl 2 (.pointer (some ⟨g4, 0, none⟩)), pl 3 (.pointer (some ⟨g5, 0, none⟩)), pl 14 (.bool (((decide (last1 < (-1))) || (decide ((g3.length : Int) ≤ last1))) || ((decide ((0 : Int) ≤ last1)) && ((geti g3 last1) == 2))))] hF hS Fol (by kernel_rfl) (by kernel_rfl) (by kernel_rfl) ?_ (fun a w hF hS => ?_)
      · exact obs_cons (ob_load Agg3 (fun _ _ hS => (hS.at_ 0 rfl).cell rfl)) <| obs_cons (ob_load Agg3 (fun _ _ hS => (hS.at_ 0 rfl).cell rfl)) <| obs_cons (ob_load Agg22 (fun _ _ hS => (hS.at_ 1 rfl).cell rfl)) <| obs_cons (ob_load Agg3 (fun _ _ hS => (hS.at_ 0 rfl).cell rfl)) <| obs_cons (ob_load Agg22 (fun _ _ hS => (hS.at_ 1 rfl).cell rfl)) <| obs_cons (ob_load Agg3 (fun _ _ hS => (hS.at_ 0 rfl).cell rfl)) <| obs_cons (ob_ix1 (f := (Value.int .i64)) (m := g3) Und22 hi3 hs3 (hr_g3 _ (hS.dropN 2)) rfl (fun hy => hp1 (hy (decide ((0 : Int) ≤ last1), true) (by simp)) (hy ((decide (last1 < (-1))) || (decide ((g3.length : Int) ≤ last1)), false) (by simp)))) <| obs_cons (ob_get1 (n := g3.length) (m := g3) (Value.int .i64) (0 : Int) Agg3 (fun _ hS => ⟨_, (hr_g3 _ (hS.dropN 2))⟩) (fun _ hS => rfl) (fun hy => hp1 (hy (decide ((0 : Int) ≤ last1), true) (by simp)) (hy ((decide (last1 < (-1))) || (decide ((g3.length : Int) ≤ last1)), false) (by simp)))) <| obs_nil
      refine cond_ev (t := 14) (b := ((decide (last1 < (-1))) || (decide ((g3.length : Int) ≤ last1))) || ((decide ((0 : Int) ≤ last1)) && ((geti g3 last1) == 2))) hF (by kernel_rfl) (fun hb => ?_) (fun hb => ?_)
      · replace hm := if_t hm hb
        refine reg [] [] [4, 5] [pl 4 (.slice none 0 0), pl 5 (.int .i64 3)] hF hS Fol (by kernel_rfl) (by kernel_rfl) (by kernel_rfl) ?_ (fun a w hF hS => ?_)
        · exact obs_nil
        refine wpIn_ret ?_
        refine block_r (then_r ?_)
        have hS : Sep w0 B w (ownK 61 3 none 0 0 (List.flatMap enc61 ([] : List (Int × Int × Int))) :: blk g5 3 #[.int .i64 last1] :: blk g4 24 #[.int .i64 g1, .int .i64 g2, .slice A1 g3.length c1] :: fs) := hS.nilK 61 3 enc61
        have hl2 := (hS.at_ 0 rfl).lenK encK61
        have hS := (hS.at_ 0 rfl).reNK hl2
        have hS : Sep w0 B w (ownK 61 3 none (([] : List (Int × Int × Int)).length) 0 (List.flatMap enc61 ([] : List (Int × Int × Int))) :: blk g5 3 #[.int .i64 last1] :: blk g4 24 #[.int .i64 g1, .int .i64 g2, .slice A1 g3.length c1] :: fs) := hS
        have hS := hS.pickN 3 [0] (by decide)
        have hm : some (([] : List (Int × Int × Int)), 3) = some r := hm
        obtain rfl := Option.some.inj hm
        exact retV (rs := [.tmp 4, .tmp 5]) (vs := [.slice none (([] : List (Int × Int × Int)).length) 0, .int .i64 3]) hF rfl (rv_t (by kernel_rfl) <| rv_t (by kernel_rfl) <| rv_nil) rfl ⟨_, rfl, none, 0, rfl, hS⟩
      · replace hm := if_f hm hb
        obtain ⟨r2, hr2, hm⟩ := call_b hm
        refine reg [⟨false, [], vS (Instr.loadAt 24 (.pointer (some ⟨g4, 0, none⟩))), .agg #[.int .i64 g1, .int .i64 g2, .slice A1 g3.length c1]⟩, ⟨false, [], callFunc 67 #[.agg #[.int .i64 g1, .int .i64 g2, .slice A1 g3.length c1]], .bool r2⟩] [some (.agg #[.int .i64 g1, .int .i64 g2, .slice A1 g3.length c1]), some (.bool r2), none] [2, 3, 36] [pl 2 (.pointer (some ⟨g4, 0, none⟩)), pl 3 (.pointer (some ⟨g5, 0, none⟩)), pl 36 (.bool r2)] hF hS Fol (by kernel_rfl) (by kernel_rfl) (by kernel_rfl) ?_ (fun a w hF hS => ?_)
        · exact obs_cons (ob_loadA (cs := #[.int .i64 g1, .int .i64 g2, .slice A1 g3.length c1]) (by kernel_rfl) (by kernel_rfl) (fun _ _ hS => (hS.at_ 1 rfl).cellsAt 0 (by rfl))) <| obs_cons (ob_call Try.func67 (by kernel_rfl) rfl (fun _ _ hS => pegs_great_w hr2 hS (fun _ hS => (hr_g3 _ (hS.dropN 2))) _hc_g3 rfl)) <| obs_nil
        refine cond_ev (t := 36) (b := r2) hF (by kernel_rfl) (fun hb => ?_) (fun hb => ?_)
        · replace hm := if_t hm hb
          refine reg [] [] [4, 5] [pl 4 (.slice none 0 0), pl 5 (.int .i64 2)] hF hS Fol (by kernel_rfl) (by kernel_rfl) (by kernel_rfl) ?_ (fun a w hF hS => ?_)
          · exact obs_nil
          refine wpIn_ret ?_
          refine block_r (then_r ?_)
          have hS : Sep w0 B w (ownK 61 3 none 0 0 (List.flatMap enc61 ([] : List (Int × Int × Int))) :: blk g5 3 #[.int .i64 last1] :: blk g4 24 #[.int .i64 g1, .int .i64 g2, .slice A1 g3.length c1] :: fs) := hS.nilK 61 3 enc61
          have hl3 := (hS.at_ 0 rfl).lenK encK61
          have hS := (hS.at_ 0 rfl).reNK hl3
          have hS : Sep w0 B w (ownK 61 3 none (([] : List (Int × Int × Int)).length) 0 (List.flatMap enc61 ([] : List (Int × Int × Int))) :: blk g5 3 #[.int .i64 last1] :: blk g4 24 #[.int .i64 g1, .int .i64 g2, .slice A1 g3.length c1] :: fs) := hS
          have hS := hS.pickN 3 [0] (by decide)
          have hm : some (([] : List (Int × Int × Int)), 2) = some r := hm
          obtain rfl := Option.some.inj hm
          exact retV (rs := [.tmp 4, .tmp 5]) (vs := [.slice none (([] : List (Int × Int × Int)).length) 0, .int .i64 2]) hF rfl (rv_t (by kernel_rfl) <| rv_t (by kernel_rfl) <| rv_nil) rfl ⟨_, rfl, none, 0, rfl, hS⟩
        · replace hm := if_f hm hb
          refine wpIn_skip ?_
          refine block_n ?_
          refine then_n ?_
          have hS := hS.pickN 2 [1, 0] (by decide)
          exact ⟨hF.weak [2, 3] (by kernel_rfl), hS, hm⟩

noncomputable def pegs_Fewest_1_m  (row1 : List (Int × Int × Int)) (p11 : Int) : Option (Bool × Int) :=
  some (false, (maxI p11 (row1.length : Int)))

set_option maxRecDepth 100000 in
set_option maxHeartbeats 4000000 in
theorem pegs_Fewest_1_w  {A1 : Option Addr} {c1 : Nat} {n1 : Nat} {row1 : List (Int × Int × Int)} {g1 : Nat} {p11 : Int} {r : (Bool × Int)} {w0 w : World} {B : Nat} {fs : List HP} (hm : pegs_Fewest_1_m row1 p11 = some r) (hS : Sep w0 B w (blk g1 3 #[.int .i64 p11] :: fs)) (hr_row1 : RdF w0 B fs A1 ((List.flatMap enc119 row1))) (_hc_row1 : row1.length ≤ c1) (_hn_row1 : n1 = row1.length) :
    Calls Try.prog 73 #[.slice A1 n1 c1, .pointer (some ⟨g1, 0, none⟩)] w fun e w' => ∃ v, e = .returned v ∧ v = .bool r.1 ∧ Sep w0 B w' (blk g1 3 #[.int .i64 r.2] :: fs) := by
  obtain ⟨i3, hi3, hz3, hs3, hb3⟩ := info_parts Info3
  obtain ⟨i119, hi119, hz119, hs119, hb119⟩ := info_parts Info119
  obtain rfl := _hn_row1
  unfold pegs_Fewest_1_m at hm
  replace hm := start_b hm
  refine enter (l := [.slice A1 row1.length c1, .pointer (some ⟨g1, 0, none⟩)]) (n := 8) Try.func73 rfl rfl (by simp) (fun a hF => ?_)
  refine reg [] [] [0, 1] [pl 0 (.slice A1 row1.length c1), pl 1 (.pointer (some ⟨g1, 0, none⟩))] hF hS Fol (by kernel_rfl) (by kernel_rfl) (by kernel_rfl) ?_ (fun a w hF hS => ?_)
  · exact obs_nil
  refine seqR ?_
  refine at_run 4 [⟨false, [], vS (Instr.loadAt 3 (.pointer (some ⟨g1, 0, none⟩))), .int .i64 p11⟩, ⟨true, [], vS (Builtin.max_ #[3, 3] 3 #[.int .i64 p11, .int .i64 (row1.length : Int)]), .int .i64 (maxI p11 (row1.length : Int))⟩] [some (.int .i64 p11), none, none, some (.int .i64 (maxI p11 (row1.length : Int)))] [1, 7] [pl 1 (.pointer (some ⟨g1, 0, none⟩)), pl 7 (.int .i64 (maxI p11 (row1.length : Int)))] hF hS (by kernel_rfl) (by kernel_rfl) ?_ (fun a w hF hS => ?_)
  · exact obs_cons (ob_load Agg3 (fun _ _ hS => (hS.at_ 0 rfl).cell rfl)) <| obs_cons (ob_max rfl) <| obs_nil
  obtain ⟨w, hrun, hS⟩ := run_put (P := Try.prog) (t := 3) (u := .int .i64 (maxI p11 (row1.length : Int))) (i := 0) (hS.at_ 0 rfl) hi3 hs3 rfl (Nat.lt_of_lt_of_eq (Nat.lt_of_succ_le (Nat.le_of_ble_eq_true (by kernel_rfl))) rfl)
  refine at_skip hF (by kernel_rfl) hrun ?_
  have hS : Sep w0 B w (blk g1 3 #[.int .i64 (maxI p11 (row1.length : Int))] :: fs) := hS
  refine at_end [] [] hF rfl (by kernel_rfl) (fun hF => ?_)
  refine then_n ?_
  refine reg [] [] [3] [pl 3 (.bool false)] hF hS Fol (by kernel_rfl) (by kernel_rfl) (by kernel_rfl) ?_ (fun a w hF hS => ?_)
  · exact obs_nil
  refine wpIn_ret ?_
  have hm : some (false, (maxI p11 (row1.length : Int))) = some r := hm
  obtain rfl := Option.some.inj hm
  exact retV (rs := [.tmp 3]) (vs := [.bool false]) hF rfl (rv_t (by kernel_rfl) <| rv_nil) rfl ⟨_, rfl, rfl, hS⟩

noncomputable def pegs_search_run_4_J5  (z1 : Int) (s7 : List Int) (s8 : List (List UInt8 × Bool)) (done3 : Int) : Option (St (List Int × List (List UInt8 × Bool) × Int × Int) (Fl (List Int × List (List UInt8 × Bool) × Int) (Bool × List Int × List (List UInt8 × Bool) × Int))) :=
  some (.next (s7, s8, done3, (w64 (z1 + 1))))

noncomputable def pegs_search_run_4_J6  (rec_pegs_search_run_4 : List Int → List (Int × Int × Int) → List (List UInt8 × Bool) → List (Int × Int × Int) → Int → Option (Bool × List Int × List (List UInt8 × Bool) × Int)) (s_all1 : List (Int × Int × Int)) (row1 : List (Int × Int × Int)) (s3 : List Int) (s4 : List (List UInt8 × Bool)) (done2 : Int) (z1 : Int) : Option (St (List Int × List (List UInt8 × Bool) × Int × Int) (Fl (List Int × List (List UInt8 × Bool) × Int) (Bool × List Int × List (List UInt8 × Bool) × Int))) :=
  (pegs_jump_turn_2_m ((getd ((0, 0, 0) : (Int × Int × Int)) s_all1 z1).1) ((getd ((0, 0, 0) : (Int × Int × Int)) s_all1 z1).2.1) ((getd ((0, 0, 0) : (Int × Int × Int)) s_all1 z1).2.2) s3).bind fun r4 => asrt ((row1.length : Int) + 1 ≤ bigT) <| (rec_pegs_search_run_4 r4 s_all1 s4 (row1 ++ ([(getd ((0, 0, 0) : (Int × Int × Int)) s_all1 z1)] : List (Int × Int × Int))) done2).bind fun r5 => (pegs_jump_turn_2_m ((getd ((0, 0, 0) : (Int × Int × Int)) s_all1 z1).1) ((getd ((0, 0, 0) : (Int × Int × Int)) s_all1 z1).2.1) ((getd ((0, 0, 0) : (Int × Int × Int)) s_all1 z1).2.2) r5.2.1).bind fun r6 => if r5.1 then (some (.done (.ret (true, r6, r5.2.2.1, r5.2.2.2)))) else ((pegs_search_run_4_J5 z1) r6 r5.2.2.1 r5.2.2.2)

noncomputable def pegs_search_run_4_J4  (rec_pegs_search_run_4 : List Int → List (Int × Int × Int) → List (List UInt8 × Bool) → List (Int × Int × Int) → Int → Option (Bool × List Int × List (List UInt8 × Bool) × Int)) (s_all1 : List (Int × Int × Int)) (row1 : List (Int × Int × Int)) (s3 : List Int) (s4 : List (List UInt8 × Bool)) (done2 : Int) (z1 : Int) : Option (St (List Int × List (List UInt8 × Bool) × Int × Int) (Fl (List Int × List (List UInt8 × Bool) × Int) (Bool × List Int × List (List UInt8 × Bool) × Int))) :=
  asrt (0 ≤ z1 ∧ z1 < (s_all1.length : Int)) <| (pegs_jump_can_m ((getd ((0, 0, 0) : (Int × Int × Int)) s_all1 z1).1) ((getd ((0, 0, 0) : (Int × Int × Int)) s_all1 z1).2.1) ((getd ((0, 0, 0) : (Int × Int × Int)) s_all1 z1).2.2) s3).bind fun r3 => if (!r3) then ((pegs_search_run_4_J5 z1) s3 s4 done2) else ((pegs_search_run_4_J6 rec_pegs_search_run_4 s_all1 row1 s3 s4 done2 z1))

noncomputable def pegs_search_run_4_J3  (s5 : List Int) (s6 : List (List UInt8 × Bool)) (v3 : Int) : Option (Bool × List Int × List (List UInt8 × Bool) × Int) :=
  some (false, s5, s6, v3)

noncomputable def pegs_search_run_4_K1  : (Fl (List Int × List (List UInt8 × Bool) × Int) (Bool × List Int × List (List UInt8 × Bool) × Int)) → Option (Bool × List Int × List (List UInt8 × Bool) × Int) :=
  fun (x : (Fl (List Int × List (List UInt8 × Bool) × Int) (Bool × List Int × List (List UInt8 × Bool) × Int))) => match x with | .go (s5, s6, v3) => pegs_search_run_4_J3 s5 s6 v3 | .ret x => some x

noncomputable def pegs_search_run_4_L1  (rec_pegs_search_run_4 : List Int → List (Int × Int × Int) → List (List UInt8 × Bool) → List (Int × Int × Int) → Int → Option (Bool × List Int × List (List UInt8 × Bool) × Int)) (s_all1 : List (Int × Int × Int)) (row1 : List (Int × Int × Int)) : (List Int × List (List UInt8 × Bool) × Int × Int) → Option (St (List Int × List (List UInt8 × Bool) × Int × Int) (Fl (List Int × List (List UInt8 × Bool) × Int) (Bool × List Int × List (List UInt8 × Bool) × Int))) :=
  fun (x : (List Int × List (List UInt8 × Bool) × Int × Int)) => match x with | (s3, s4, done2, z1) => if (decide (z1 < (s_all1.length : Int))) then ((pegs_search_run_4_J4 rec_pegs_search_run_4 s_all1 row1 s3 s4 done2 z1)) else (some (.done (.go (s3, s4, done2))))

noncomputable def pegs_search_run_4_J2  (rec_pegs_search_run_4 : List Int → List (Int × Int × Int) → List (List UInt8 × Bool) → List (Int × Int × Int) → Int → Option (Bool × List Int × List (List UInt8 × Bool) × Int)) (s_cells1 : List Int) (s_all1 : List (Int × Int × Int)) (s_tried1 : List (List UInt8 × Bool)) (row1 : List (Int × Int × Int)) (done1 : Int) (r2 : (List UInt8)) : Option (Bool × List Int × List (List UInt8 × Bool) × Int) :=
  (loop (pegs_search_run_4_L1 rec_pegs_search_run_4 s_all1 row1) (s_cells1, (mput r2 true s_tried1), done1, 0)).bind pegs_search_run_4_K1

noncomputable def pegs_search_run_4_J1  (rec_pegs_search_run_4 : List Int → List (Int × Int × Int) → List (List UInt8 × Bool) → List (Int × Int × Int) → Int → Option (Bool × List Int × List (List UInt8 × Bool) × Int)) (s_cells1 : List Int) (s_all1 : List (Int × Int × Int)) (s_tried1 : List (List UInt8 × Bool)) (row1 : List (Int × Int × Int)) (done1 : Int) : Option (Bool × List Int × List (List UInt8 × Bool) × Int) :=
  (pegs_search_name_m s_cells1 s_all1 s_tried1).bind fun r2 => if (mget false r2 s_tried1) then (some (false, s_cells1, s_tried1, done1)) else ((pegs_search_run_4_J2 rec_pegs_search_run_4 s_cells1 s_all1 s_tried1 row1 done1 r2))

noncomputable def pegs_search_run_4_B  (rec_pegs_search_run_4 : List Int → List (Int × Int × Int) → List (List UInt8 × Bool) → List (Int × Int × Int) → Int → Option (Bool × List Int × List (List UInt8 × Bool) × Int)) (s_cells1 : List Int) (s_all1 : List (Int × Int × Int)) (s_tried1 : List (List UInt8 × Bool)) (row1 : List (Int × Int × Int)) (v1 : Int) : Option (Bool × List Int × List (List UInt8 × Bool) × Int) :=
  (pegs_Fewest_1_m row1 v1).bind fun r1 => if r1.1 then (some (true, s_cells1, s_tried1, r1.2)) else ((pegs_search_run_4_J1 rec_pegs_search_run_4 s_cells1 s_all1 s_tried1 row1) r1.2)

noncomputable def pegs_search_run_4_mF  : Nat → List Int → List (Int × Int × Int) → List (List UInt8 × Bool) → List (Int × Int × Int) → Int → Option (Bool × List Int × List (List UInt8 × Bool) × Int)
  | 0 => fun _ _ _ _ _ => none
  | n + 1 => fun s_cells1 s_all1 s_tried1 row1 v1 => pegs_search_run_4_B (pegs_search_run_4_mF n) s_cells1 s_all1 s_tried1 row1 v1

noncomputable def pegs_search_run_4_m  (s_cells1 : List Int) (s_all1 : List (Int × Int × Int)) (s_tried1 : List (List UInt8 × Bool)) (row1 : List (Int × Int × Int)) (v1 : Int) : Option (Bool × List Int × List (List UInt8 × Bool) × Int) :=
  recM fun n => pegs_search_run_4_mF n s_cells1 s_all1 s_tried1 row1 v1

set_option maxRecDepth 100000 in
set_option maxHeartbeats 4000000 in
theorem pegs_search_run_4_wB  {rec_pegs_search_run_4 : List Int → List (Int × Int × Int) → List (List UInt8 × Bool) → List (Int × Int × Int) → Int → Option (Bool × List Int × List (List UInt8 × Bool) × Int)} (ih_pegs_search_run_4 : ∀ {g1 : Nat} {A1 : Option Addr} {c1 : Nat} {n1 : Nat} {s_cells1 : List Int} {A2 : Option Addr} {c2 : Nat} {n2 : Nat} {s_all1 : List (Int × Int × Int)} {g2 : Nat} {s_tried1 : List (List UInt8 × Bool)} {A3 : Option Addr} {c3 : Nat} {n3 : Nat} {row1 : List (Int × Int × Int)} {es1 : List Sk} {g3 : Nat} {v1 : Int} {r : (Bool × List Int × List (List UInt8 × Bool) × Int)} {w0 w : World} {B : Nat} {fs : List HP} (_ : rec_pegs_search_run_4 s_cells1 s_all1 s_tried1 row1 v1 = some r) (_ : Sep w0 B w (blk g1 117 #[.slice A1 n1 c1, .slice A2 n2 c2, .map (some g2)] :: own 3 (.slice A1 n1 c1) (vI s_cells1) :: ownK 119 3 A2 n2 c2 (List.flatMap enc119 s_all1) :: mapH kf9 Value.bool g2 s_tried1 :: stk 119 3 (fun m => List.flatMap enc119 m) A3 n3 c3 es1 row1 :: blk g3 3 #[.int .i64 v1] :: fs)), Calls Try.prog 70 #[.pointer (some ⟨g1, 0, none⟩), .slice A3 n3 c3, .func (.func 73) #[] #[.pointer (some ⟨g3, 0, none⟩)]] w fun e w' => ∃ v, e = .returned v ∧ v = .bool r.1 ∧ Sep w0 B w' (blk g1 117 #[.slice A1 n1 c1, .slice A2 n2 c2, .map (some g2)] :: own 3 (.slice A1 n1 c1) (vI r.2.1) :: ownK 119 3 A2 n2 c2 (List.flatMap enc119 s_all1) :: mapH kf9 Value.bool g2 r.2.2.1 :: stk 119 3 (fun m => List.flatMap enc119 m) A3 n3 c3 es1 row1 :: blk g3 3 #[.int .i64 r.2.2.2] :: fs)) {g1 : Nat} {A1 : Option Addr} {c1 : Nat} {n1 : Nat} {s_cells1 : List Int} {A2 : Option Addr} {c2 : Nat} {n2 : Nat} {s_all1 : List (Int × Int × Int)} {g2 : Nat} {s_tried1 : List (List UInt8 × Bool)} {A3 : Option Addr} {c3 : Nat} {n3 : Nat} {row1 : List (Int × Int × Int)} {es1 : List Sk} {g3 : Nat} {v1 : Int} {r : (Bool × List Int × List (List UInt8 × Bool) × Int)} {w0 w : World} {B : Nat} {fs : List HP} (hm : pegs_search_run_4_B rec_pegs_search_run_4 s_cells1 s_all1 s_tried1 row1 v1 = some r) (hS : Sep w0 B w (blk g1 117 #[.slice A1 n1 c1, .slice A2 n2 c2, .map (some g2)] :: own 3 (.slice A1 n1 c1) (vI s_cells1) :: ownK 119 3 A2 n2 c2 (List.flatMap enc119 s_all1) :: mapH kf9 Value.bool g2 s_tried1 :: stk 119 3 (fun m => List.flatMap enc119 m) A3 n3 c3 es1 row1 :: blk g3 3 #[.int .i64 v1] :: fs)) :
    Calls Try.prog 70 #[.pointer (some ⟨g1, 0, none⟩), .slice A3 n3 c3, .func (.func 73) #[] #[.pointer (some ⟨g3, 0, none⟩)]] w fun e w' => ∃ v, e = .returned v ∧ v = .bool r.1 ∧ Sep w0 B w' (blk g1 117 #[.slice A1 n1 c1, .slice A2 n2 c2, .map (some g2)] :: own 3 (.slice A1 n1 c1) (vI r.2.1) :: ownK 119 3 A2 n2 c2 (List.flatMap enc119 s_all1) :: mapH kf9 Value.bool g2 r.2.2.1 :: stk 119 3 (fun m => List.flatMap enc119 m) A3 n3 c3 es1 row1 :: blk g3 3 #[.int .i64 r.2.2.2] :: fs) := by
  obtain ⟨i3, hi3, hz3, hs3, hb3⟩ := info_parts Info3
  obtain ⟨i119, hi119, hz119, hs119, hb119⟩ := info_parts Info119
  obtain rfl := (hS.at_ 1 rfl).len1
  obtain rfl := (hS.at_ 2 rfl).lenK encK119
  obtain rfl := (hS.at_ 4 rfl).lenSk
  unfold pegs_search_run_4_B at hm
  replace hm := start_b hm
  refine enter (l := [.pointer (some ⟨g1, 0, none⟩), .slice A3 row1.length c3, .func (.func 73) #[] #[.pointer (some ⟨g3, 0, none⟩)]]) (n := 64) Try.func70 rfl rfl (by simp) (fun a hF => ?_)
  refine reg [] [] [0, 1, 2] [pl 0 (.pointer (some ⟨g1, 0, none⟩)), pl 1 (.slice A3 row1.length c3), pl 2 (.func (.func 73) #[] #[.pointer (some ⟨g3, 0, none⟩)])] hF hS Fol (by kernel_rfl) (by kernel_rfl) (by kernel_rfl) ?_ (fun a w hF hS => ?_)
  · exact obs_nil
  refine seq_cut (fun a w => ∃ (done1 : Int), Fr 64 [pl 0 (.pointer (some ⟨g1, 0, none⟩)), pl 1 (.slice A3 row1.length c3), pl 2 (.func (.func 73) #[] #[.pointer (some ⟨g3, 0, none⟩)])] a ∧ Sep w0 B w (blk g1 117 #[.slice A1 s_cells1.length c1, .slice A2 s_all1.length c2, .map (some g2)] :: own 3 (.slice A1 s_cells1.length c1) (vI s_cells1) :: ownK 119 3 A2 s_all1.length c2 (List.flatMap enc119 s_all1) :: mapH kf9 Value.bool g2 s_tried1 :: stk 119 3 (fun m => List.flatMap enc119 m) A3 row1.length c3 es1 row1 :: blk g3 3 #[.int .i64 done1] :: fs) ∧ ((pegs_search_run_4_J1 rec_pegs_search_run_4 s_cells1 s_all1 s_tried1 row1) done1).bind some = some r) ?_ ?_
  · rintro a w ⟨done1, hF, hS, hm⟩
    unfold pegs_search_run_4_J1 at hm
    obtain ⟨r2, hr2, hm⟩ := call_b hm
    refine reg [⟨false, [], callFunc 106 #[.pointer (some ⟨g1, 0, none⟩)], strV r2⟩] [none, some (strV r2), none] [0, 1, 2, 7] [pl 0 (.pointer (some ⟨g1, 0, none⟩)), pl 1 (.slice A3 row1.length c3), pl 2 (.func (.func 73) #[] #[.pointer (some ⟨g3, 0, none⟩)]), pl 7 (strV r2)] hF hS Fol (by kernel_rfl) (by kernel_rfl) (by kernel_rfl) ?_ (fun a w hF hS => ?_)
    · exact obs_cons (ob_call Try.func106 (by kernel_rfl) rfl (fun _ _ hS => pegs_search_name_w hr2 hS )) <| obs_nil
    refine seq_cut (fun a w => Fr 64 [pl 0 (.pointer (some ⟨g1, 0, none⟩)), pl 1 (.slice A3 row1.length c3), pl 2 (.func (.func 73) #[] #[.pointer (some ⟨g3, 0, none⟩)]), pl 7 (strV r2)] a ∧ Sep w0 B w (blk g1 117 #[.slice A1 s_cells1.length c1, .slice A2 s_all1.length c2, .map (some g2)] :: own 3 (.slice A1 s_cells1.length c1) (vI s_cells1) :: ownK 119 3 A2 s_all1.length c2 (List.flatMap enc119 s_all1) :: mapH kf9 Value.bool g2 s_tried1 :: stk 119 3 (fun m => List.flatMap enc119 m) A3 row1.length c3 es1 row1 :: blk g3 3 #[.int .i64 done1] :: fs) ∧ ((pegs_search_run_4_J2 rec_pegs_search_run_4 s_cells1 s_all1 s_tried1 row1 done1 r2)).bind some = some r) ?_ ?_
    · rintro a w ⟨hF, hS, hm⟩
      unfold pegs_search_run_4_J2 at hm
      refine seqR ?_
      refine at_run 5 [⟨false, [], vS (Instr.loadAt 115 (.pointer (some ⟨g1, 2, none⟩))), .map (some g2)⟩] [none, none, none, some (.map (some g2)), none] [0, 1, 2, 25, 26] [pl 0 (.pointer (some ⟨g1, 0, none⟩)), pl 1 (.slice A3 row1.length c3), pl 2 (.func (.func 73) #[] #[.pointer (some ⟨g3, 0, none⟩)]), pl 25 (.map (some g2)), pl 26 (strV r2)] hF hS (by kernel_rfl) (by kernel_rfl) ?_ (fun a w hF hS => ?_)
      · exact obs_cons (ob_load Agg115 (fun _ _ hS => (hS.at_ 0 rfl).cell rfl)) <| obs_nil
      obtain ⟨w, hrun, hS⟩ := run_mput (P := Try.prog) (t := 115) (vf := Value.bool) MK9 UndM115 r2 true (hS.at_ 3 rfl)
      refine at_skip hF (by kernel_rfl) hrun ?_
      have hS : Sep w0 B w (blk g1 117 #[.slice A1 s_cells1.length c1, .slice A2 s_all1.length c2, .map (some g2)] :: own 3 (.slice A1 s_cells1.length c1) (vI s_cells1) :: ownK 119 3 A2 s_all1.length c2 (List.flatMap enc119 s_all1) :: mapH kf9 Value.bool g2 (mput r2 true s_tried1) :: stk 119 3 (fun m => List.flatMap enc119 m) A3 row1.length c3 es1 row1 :: blk g3 3 #[.int .i64 done1] :: fs) := hS
      refine at_end [0, 1, 2] [pl 0 (.pointer (some ⟨g1, 0, none⟩)), pl 1 (.slice A3 row1.length c3), pl 2 (.func (.func 73) #[] #[.pointer (some ⟨g3, 0, none⟩)])] hF rfl (by kernel_rfl) (fun hF => ?_)
      refine then_n ?_
      refine seq_cut (fun a w => ∃ (s5 : List Int) (s6 : List (List UInt8 × Bool)) (v3 : Int), Fr 64 [] a ∧ Sep w0 B w (blk g1 117 #[.slice A1 s_cells1.length c1, .slice A2 s_all1.length c2, .map (some g2)] :: own 3 (.slice A1 s_cells1.length c1) (vI s5) :: ownK 119 3 A2 s_all1.length c2 (List.flatMap enc119 s_all1) :: mapH kf9 Value.bool g2 s6 :: stk 119 3 (fun m => List.flatMap enc119 m) A3 row1.length c3 es1 row1 :: blk g3 3 #[.int .i64 v3] :: fs) ∧ (pegs_search_run_4_J3 s5 s6 v3).bind some = some r) ?_ ?_
      · rintro a w ⟨s5, s6, v3, hF, hS, hm⟩
        unfold pegs_search_run_4_J3 at hm
        refine reg [] [] [6] [pl 6 (.bool false)] hF hS Fol (by kernel_rfl) (by kernel_rfl) (by kernel_rfl) ?_ (fun a w hF hS => ?_)
        · exact obs_nil
        refine wpIn_ret ?_
        have hm : some (false, s5, s6, v3) = some r := hm
        obtain rfl := Option.some.inj hm
        exact retV (rs := [.tmp 6]) (vs := [.bool false]) hF rfl (rv_t (by kernel_rfl) <| rv_nil) rfl ⟨_, rfl, rfl, hS⟩
      · refine reg [⟨false, [], vS (Instr.loadAt 114 (.pointer (some ⟨g1, 1, none⟩))), .slice A2 s_all1.length c2⟩] [none, none, none, some (.slice A2 s_all1.length c2), none, none] [0, 1, 2, 30, 31, 32] [pl 0 (.pointer (some ⟨g1, 0, none⟩)), pl 1 (.slice A3 row1.length c3), pl 2 (.func (.func 73) #[] #[.pointer (some ⟨g3, 0, none⟩)]), pl 30 (.slice A2 s_all1.length c2), pl 31 (.int .i64 (s_all1.length : Int)), pl 32 (.int .i64 0)] hF hS Fol (by kernel_rfl) (by kernel_rfl) (by kernel_rfl) ?_ (fun a w hF hS => ?_)
        · exact obs_cons (ob_load Agg114 (fun _ _ hS => (hS.at_ 0 rfl).cell rfl)) <| obs_nil
        refine wpIn_block ?_
        refine wp_loop_model (S := (List Int × List (List UInt8 × Bool) × Int × Int)) (R := (Fl (List Int × List (List UInt8 × Bool) × Int) (Bool × List Int × List (List UInt8 × Bool) × Int))) (pegs_search_run_4_L1 rec_pegs_search_run_4 s_all1 row1) (fun x => (pegs_search_run_4_K1 x).bind some) r (fun (x : (List Int × List (List UInt8 × Bool) × Int × Int)) a w => Fr 64 [pl 0 (.pointer (some ⟨g1, 0, none⟩)), pl 1 (.slice A3 row1.length c3), pl 2 (.func (.func 73) #[] #[.pointer (some ⟨g3, 0, none⟩)]), pl 30 (.slice A2 s_all1.length c2), pl 31 (.int .i64 (s_all1.length : Int)), pl 32 (.int .i64 x.2.2.2)] a ∧ Sep w0 B w (blk g1 117 #[.slice A1 s_cells1.length c1, .slice A2 s_all1.length c2, .map (some g2)] :: own 3 (.slice A1 s_cells1.length c1) (vI x.1) :: ownK 119 3 A2 s_all1.length c2 (List.flatMap enc119 s_all1) :: mapH kf9 Value.bool g2 x.2.1 :: stk 119 3 (fun m => List.flatMap enc119 m) A3 row1.length c3 es1 row1 :: blk g3 3 #[.int .i64 x.2.2.1] :: fs)) (assoc_b hm) ⟨hF.weak [0, 1, 2, 30, 31, 32] (by kernel_rfl), hS⟩ ?_
        clear hF hS hm
        rintro nn1 ⟨s3, s4, done2, z1⟩ a w ⟨hF, hS⟩ hm
        generalize hφ1 : stK (pegs_search_run_4_L1 rec_pegs_search_run_4 s_all1 row1) nn1 (fun x => (pegs_search_run_4_K1 x).bind some) = φ1 at hm
        unfold pegs_search_run_4_L1 at hm
        dsimp only at hF hS hm
        refine reg [] [] [0, 1, 2, 30, 31, 32, 33] [pl 0 (.pointer (some ⟨g1, 0, none⟩)), pl 1 (.slice A3 row1.length c3), pl 2 (.func (.func 73) #[] #[.pointer (some ⟨g3, 0, none⟩)]), pl 30 (.slice A2 s_all1.length c2), pl 31 (.int .i64 (s_all1.length : Int)), pl 32 (.int .i64 z1), pl 33 (.bool (decide (z1 < (s_all1.length : Int))))] hF hS Fol (by kernel_rfl) (by kernel_rfl) (by kernel_rfl) ?_ (fun a w hF hS => ?_)
        · exact obs_nil
        refine seq_cut (fun a w => Fr 64 [pl 0 (.pointer (some ⟨g1, 0, none⟩)), pl 1 (.slice A3 row1.length c3), pl 2 (.func (.func 73) #[] #[.pointer (some ⟨g3, 0, none⟩)]), pl 30 (.slice A2 s_all1.length c2), pl 31 (.int .i64 (s_all1.length : Int)), pl 32 (.int .i64 z1)] a ∧ Sep w0 B w (blk g1 117 #[.slice A1 s_cells1.length c1, .slice A2 s_all1.length c2, .map (some g2)] :: own 3 (.slice A1 s_cells1.length c1) (vI s3) :: ownK 119 3 A2 s_all1.length c2 (List.flatMap enc119 s_all1) :: mapH kf9 Value.bool g2 s4 :: stk 119 3 (fun m => List.flatMap enc119 m) A3 row1.length c3 es1 row1 :: blk g3 3 #[.int .i64 done2] :: fs) ∧ ((pegs_search_run_4_J4 rec_pegs_search_run_4 s_all1 row1 s3 s4 done2 z1)).bind φ1 = some r) ?_ ?_
        · rintro a w ⟨hF, hS, hm⟩
          unfold pegs_search_run_4_J4 at hm
          refine seq_cut (fun a w => ∃ (s7 : List Int) (s8 : List (List UInt8 × Bool)) (done3 : Int), Fr 64 [pl 0 (.pointer (some ⟨g1, 0, none⟩)), pl 1 (.slice A3 row1.length c3), pl 2 (.func (.func 73) #[] #[.pointer (some ⟨g3, 0, none⟩)]), pl 30 (.slice A2 s_all1.length c2), pl 31 (.int .i64 (s_all1.length : Int)), pl 32 (.int .i64 z1)] a ∧ Sep w0 B w (blk g1 117 #[.slice A1 s_cells1.length c1, .slice A2 s_all1.length c2, .map (some g2)] :: own 3 (.slice A1 s_cells1.length c1) (vI s7) :: ownK 119 3 A2 s_all1.length c2 (List.flatMap enc119 s_all1) :: mapH kf9 Value.bool g2 s8 :: stk 119 3 (fun m => List.flatMap enc119 m) A3 row1.length c3 es1 row1 :: blk g3 3 #[.int .i64 done3] :: fs) ∧ ((pegs_search_run_4_J5 z1) s7 s8 done3).bind φ1 = some r) ?_ ?_
          · rintro a w ⟨s7, s8, done3, hF, hS, hm⟩
            unfold pegs_search_run_4_J5 at hm
            refine reg1 [] [] [0, 1, 2, 30, 31, 32] [pl 0 (.pointer (some ⟨g1, 0, none⟩)), pl 1 (.slice A3 row1.length c3), pl 2 (.func (.func 73) #[] #[.pointer (some ⟨g3, 0, none⟩)]), pl 30 (.slice A2 s_all1.length c2), pl 31 (.int .i64 (s_all1.length : Int)), pl 32 (.int .i64 (w64 (z1 + 1)))] hF hS Fol (by kernel_rfl) (by kernel_rfl) (by kernel_rfl) ?_ (fun a w hF hS => ?_)
            · exact obs_nil
            refine then_n ?_
            rw [← hφ1] at hm
            exact ⟨(s7, s8, done3, (w64 (z1 + 1))), ⟨hF.weak [0, 1, 2, 30, 31, 32] (by kernel_rfl), hS⟩, hm⟩
          · refine wpIn_block ?_
            refine seqR ?_
            obtain ⟨hp1, hm⟩ := asrt_b hm
            refine at_run 2 [⟨true, [], vS (Instr.indexAt 114 (.slice A2 s_all1.length c2) (.int .i64 z1)), .pointer (some (sAddrK A2 3 z1))⟩, ⟨false, [], vS (Instr.loadAt 119 (.pointer (some (sAddrK A2 3 z1)))), .agg #[.int .i64 ((getd ((0, 0, 0) : (Int × Int × Int)) s_all1 z1).1), .int .i64 ((getd ((0, 0, 0) : (Int × Int × Int)) s_all1 z1).2.1), .int .i64 ((getd ((0, 0, 0) : (Int × Int × Int)) s_all1 z1).2.2)]⟩] [some (.pointer (some (sAddrK A2 3 z1))), some (.agg #[.int .i64 ((getd ((0, 0, 0) : (Int × Int × Int)) s_all1 z1).1), .int .i64 ((getd ((0, 0, 0) : (Int × Int × Int)) s_all1 z1).2.1), .int .i64 ((getd ((0, 0, 0) : (Int × Int × Int)) s_all1 z1).2.2)])] [0, 1, 2, 30, 31, 32, 35] [pl 0 (.pointer (some ⟨g1, 0, none⟩)), pl 1 (.slice A3 row1.length c3), pl 2 (.func (.func 73) #[] #[.pointer (some ⟨g3, 0, none⟩)]), pl 30 (.slice A2 s_all1.length c2), pl 31 (.int .i64 (s_all1.length : Int)), pl 32 (.int .i64 z1), pl 35 (.agg #[.int .i64 ((getd ((0, 0, 0) : (Int × Int × Int)) s_all1 z1).1), .int .i64 ((getd ((0, 0, 0) : (Int × Int × Int)) s_all1 z1).2.1), .int .i64 ((getd ((0, 0, 0) : (Int × Int × Int)) s_all1 z1).2.2)])] hF hS (by kernel_rfl) (by kernel_rfl) ?_ (fun a w hF hS => ?_)
            · exact obs_cons (ob_ixK (m := s_all1) encK119 Und114 hi119 hs119 (hS.at_ 2 rfl).rdK rfl (fun _ => hp1)) <| obs_cons (ob_getK (n := s_all1.length) (m := s_all1) encK119 ((0, 0, 0) : (Int × Int × Int)) (by kernel_rfl) (by kernel_rfl) (fun _ hS => ⟨_, (hS.at_ 2 rfl).rdK⟩) (fun _ hS => rfl) (fun _ => hp1)) <| obs_nil
            refine at_do (d := 9) (s := vS (Instr.alloc 119 true (.tuple #[]))) (v := .pointer (some ⟨w.heap.size, 0, none⟩)) (w' := w.alloc (.cells #[.int .i64 0, .int .i64 0, .int .i64 0] 119)) hF (by kernel_rfl) (by kernel_rfl) (by kernel_rfl) (fun a hF => ?_)
            have hS : Sep w0 B (w.alloc (.cells #[.int .i64 0, .int .i64 0, .int .i64 0] 119)) (blk w.heap.size 119 #[.int .i64 0, .int .i64 0, .int .i64 0] :: (blk g1 117 #[.slice A1 s_cells1.length c1, .slice A2 s_all1.length c2, .map (some g2)] :: own 3 (.slice A1 s_cells1.length c1) (vI s3) :: ownK 119 3 A2 s_all1.length c2 (List.flatMap enc119 s_all1) :: mapH kf9 Value.bool g2 s4 :: stk 119 3 (fun m => List.flatMap enc119 m) A3 row1.length c3 es1 row1 :: blk g3 3 #[.int .i64 done2] :: fs)) := hS.box 119 #[.int .i64 0, .int .i64 0, .int .i64 0]
            generalize w.heap.size = g4 at hF hS
            generalize w.alloc (.cells #[.int .i64 0, .int .i64 0, .int .i64 0] 119) = w at hS ⊢
            obtain ⟨w, hrun, hS⟩ := run_putA (P := Try.prog) (t := 119) (us := #[.int .i64 ((getd ((0, 0, 0) : (Int × Int × Int)) s_all1 z1).1), .int .i64 ((getd ((0, 0, 0) : (Int × Int × Int)) s_all1 z1).2.1), .int .i64 ((getd ((0, 0, 0) : (Int × Int × Int)) s_all1 z1).2.2)]) (o := 0) (hS.at_ 0 rfl) (by kernel_rfl) (all_one (by kernel_rfl)) (Nat.le_of_ble_eq_true (by kernel_rfl))
            refine at_skip hF (by kernel_rfl) hrun ?_
            have hS : Sep w0 B w (blk g4 119 #[.int .i64 ((getd ((0, 0, 0) : (Int × Int × Int)) s_all1 z1).1), .int .i64 ((getd ((0, 0, 0) : (Int × Int × Int)) s_all1 z1).2.1), .int .i64 ((getd ((0, 0, 0) : (Int × Int × Int)) s_all1 z1).2.2)] :: blk g1 117 #[.slice A1 s_cells1.length c1, .slice A2 s_all1.length c2, .map (some g2)] :: own 3 (.slice A1 s_cells1.length c1) (vI s3) :: ownK 119 3 A2 s_all1.length c2 (List.flatMap enc119 s_all1) :: mapH kf9 Value.bool g2 s4 :: stk 119 3 (fun m => List.flatMap enc119 m) A3 row1.length c3 es1 row1 :: blk g3 3 #[.int .i64 done2] :: fs) := hS
            refine at_end [0, 1, 2, 9, 30, 31, 32] [pl 0 (.pointer (some ⟨g1, 0, none⟩)), pl 1 (.slice A3 row1.length c3), pl 2 (.func (.func 73) #[] #[.pointer (some ⟨g3, 0, none⟩)]), pl 9 (.pointer (some ⟨g4, 0, none⟩)), pl 30 (.slice A2 s_all1.length c2), pl 31 (.int .i64 (s_all1.length : Int)), pl 32 (.int .i64 z1)] hF rfl (by kernel_rfl) (fun hF => ?_)
            refine then_n ?_
            refine seq_cut (fun a w => Fr 64 [pl 0 (.pointer (some ⟨g1, 0, none⟩)), pl 1 (.slice A3 row1.length c3), pl 2 (.func (.func 73) #[] #[.pointer (some ⟨g3, 0, none⟩)]), pl 9 (.pointer (some ⟨g4, 0, none⟩)), pl 30 (.slice A2 s_all1.length c2), pl 31 (.int .i64 (s_all1.length : Int)), pl 32 (.int .i64 z1)] a ∧ Sep w0 B w (blk g1 117 #[.slice A1 s_cells1.length c1, .slice A2 s_all1.length c2, .map (some g2)] :: own 3 (.slice A1 s_cells1.length c1) (vI s3) :: ownK 119 3 A2 s_all1.length c2 (List.flatMap enc119 s_all1) :: mapH kf9 Value.bool g2 s4 :: stk 119 3 (fun m => List.flatMap enc119 m) A3 row1.length c3 es1 row1 :: blk g3 3 #[.int .i64 done2] :: blk g4 119 #[.int .i64 ((getd ((0, 0, 0) : (Int × Int × Int)) s_all1 z1).1), .int .i64 ((getd ((0, 0, 0) : (Int × Int × Int)) s_all1 z1).2.1), .int .i64 ((getd ((0, 0, 0) : (Int × Int × Int)) s_all1 z1).2.2)] :: fs) ∧ ((pegs_search_run_4_J6 rec_pegs_search_run_4 s_all1 row1 s3 s4 done2 z1)).bind φ1 = some r) ?_ ?_
            · rintro a w ⟨hF, hS, hm⟩
              unfold pegs_search_run_4_J6 at hm
              refine wpIn_seq ?_
              obtain ⟨r4, hr4, hm⟩ := call_b hm
              refine regMix4 [0, 1, 2, 3, 4] [5] [⟨false, [], vS (Instr.loadAt 119 (.pointer (some ⟨g4, 0, none⟩))), .agg #[.int .i64 ((getd ((0, 0, 0) : (Int × Int × Int)) s_all1 z1).1), .int .i64 ((getd ((0, 0, 0) : (Int × Int × Int)) s_all1 z1).2.1), .int .i64 ((getd ((0, 0, 0) : (Int × Int × Int)) s_all1 z1).2.2)]⟩, ⟨false, [], vS (Instr.loadAt 22 (.pointer (some ⟨g1, 0, none⟩))), .slice A1 s_cells1.length c1⟩] [some (.agg #[.int .i64 ((getd ((0, 0, 0) : (Int × Int × Int)) s_all1 z1).1), .int .i64 ((getd ((0, 0, 0) : (Int × Int × Int)) s_all1 z1).2.1), .int .i64 ((getd ((0, 0, 0) : (Int × Int × Int)) s_all1 z1).2.2)]), none, none, none, some (.slice A1 s_cells1.length c1)] [0, 1, 2, 9, 30, 31, 32, 43, 47] [pl 0 (.pointer (some ⟨g1, 0, none⟩)), pl 1 (.slice A3 row1.length c3), pl 2 (.func (.func 73) #[] #[.pointer (some ⟨g3, 0, none⟩)]), pl 9 (.pointer (some ⟨g4, 0, none⟩)), pl 30 (.slice A2 s_all1.length c2), pl 31 (.int .i64 (s_all1.length : Int)), pl 32 (.int .i64 z1), pl 43 (.agg #[.int .i64 ((getd ((0, 0, 0) : (Int × Int × Int)) s_all1 z1).1), .int .i64 ((getd ((0, 0, 0) : (Int × Int × Int)) s_all1 z1).2.1), .int .i64 ((getd ((0, 0, 0) : (Int × Int × Int)) s_all1 z1).2.2)]), pl 47 (.slice A1 s_cells1.length c1)] hF hS Fol (by kernel_rfl) (by kernel_rfl) (by kernel_rfl) (by kernel_rfl) (by kernel_rfl) ?_ (fun a w hF hS => ?_)
              · exact obs_cons (ob_loadA (cs := #[.int .i64 ((getd ((0, 0, 0) : (Int × Int × Int)) s_all1 z1).1), .int .i64 ((getd ((0, 0, 0) : (Int × Int × Int)) s_all1 z1).2.1), .int .i64 ((getd ((0, 0, 0) : (Int × Int × Int)) s_all1 z1).2.2)]) (by kernel_rfl) (by kernel_rfl) (fun _ _ hS => (hS.at_ 6 rfl).cellsAt 0 (by rfl))) <| obs_cons (ob_load Agg22 (fun _ _ hS => (hS.at_ 0 rfl).cell rfl)) <| obs_nil
              have hS : Sep w0 B w (own 3 (.slice A1 s_cells1.length c1) (vI s3) :: blk g1 117 #[.slice A1 s_cells1.length c1, .slice A2 s_all1.length c2, .map (some g2)] :: ownK 119 3 A2 s_all1.length c2 (List.flatMap enc119 s_all1) :: mapH kf9 Value.bool g2 s4 :: stk 119 3 (fun m => List.flatMap enc119 m) A3 row1.length c3 es1 row1 :: blk g3 3 #[.int .i64 done2] :: blk g4 119 #[.int .i64 ((getd ((0, 0, 0) : (Int × Int × Int)) s_all1 z1).1), .int .i64 ((getd ((0, 0, 0) : (Int × Int × Int)) s_all1 z1).2.1), .int .i64 ((getd ((0, 0, 0) : (Int × Int × Int)) s_all1 z1).2.2)] :: fs) := hS.pickN 7 [1, 0, 2, 3, 4, 5, 6] (by decide)
              refine at_call (f := 108) (args := #[.agg #[.int .i64 ((getd ((0, 0, 0) : (Int × Int × Int)) s_all1 z1).1), .int .i64 ((getd ((0, 0, 0) : (Int × Int × Int)) s_all1 z1).2.1), .int .i64 ((getd ((0, 0, 0) : (Int × Int × Int)) s_all1 z1).2.2)], .slice A1 s_cells1.length c1]) (d := 48) hF (by kernel_rfl) (by kernel_rfl) Try.func108 (by kernel_rfl) rfl (pegs_jump_turn_2_w hr4 hS ) (fun v a w hR hF => ?_)
              clear hS
              obtain ⟨rfl, hS⟩ := hR
              have hS : Sep w0 B w (own 3 (.slice A1 s_cells1.length c1) (vI r4) :: blk g1 117 #[.slice A1 s_cells1.length c1, .slice A2 s_all1.length c2, .map (some g2)] :: ownK 119 3 A2 s_all1.length c2 (List.flatMap enc119 s_all1) :: mapH kf9 Value.bool g2 s4 :: stk 119 3 (fun m => List.flatMap enc119 m) A3 row1.length c3 es1 row1 :: blk g3 3 #[.int .i64 done2] :: blk g4 119 #[.int .i64 ((getd ((0, 0, 0) : (Int × Int × Int)) s_all1 z1).1), .int .i64 ((getd ((0, 0, 0) : (Int × Int × Int)) s_all1 z1).2.1), .int .i64 ((getd ((0, 0, 0) : (Int × Int × Int)) s_all1 z1).2.2)] :: fs) := hS
              refine at_end [0, 1, 2, 9, 30, 31, 32] [pl 0 (.pointer (some ⟨g1, 0, none⟩)), pl 1 (.slice A3 row1.length c3), pl 2 (.func (.func 73) #[] #[.pointer (some ⟨g3, 0, none⟩)]), pl 9 (.pointer (some ⟨g4, 0, none⟩)), pl 30 (.slice A2 s_all1.length c2), pl 31 (.int .i64 (s_all1.length : Int)), pl 32 (.int .i64 z1)] hF rfl (by kernel_rfl) (fun hF => ?_)
              refine np_n ?_
              refine then_n ?_
              refine seqR ?_
              obtain ⟨hp2, hm⟩ := asrt_b hm
              obtain ⟨r5, hr5, hm⟩ := call_b hm
              refine at_run 3 [⟨false, [], vS (Instr.loadAt 119 (.pointer (some ⟨g4, 0, none⟩))), .agg #[.int .i64 ((getd ((0, 0, 0) : (Int × Int × Int)) s_all1 z1).1), .int .i64 ((getd ((0, 0, 0) : (Int × Int × Int)) s_all1 z1).2.1), .int .i64 ((getd ((0, 0, 0) : (Int × Int × Int)) s_all1 z1).2.2)]⟩] [none, none, some (.agg #[.int .i64 ((getd ((0, 0, 0) : (Int × Int × Int)) s_all1 z1).1), .int .i64 ((getd ((0, 0, 0) : (Int × Int × Int)) s_all1 z1).2.1), .int .i64 ((getd ((0, 0, 0) : (Int × Int × Int)) s_all1 z1).2.2)])] [0, 1, 2, 9, 30, 31, 32, 49, 50, 51] [pl 0 (.pointer (some ⟨g1, 0, none⟩)), pl 1 (.slice A3 row1.length c3), pl 2 (.func (.func 73) #[] #[.pointer (some ⟨g3, 0, none⟩)]), pl 9 (.pointer (some ⟨g4, 0, none⟩)), pl 30 (.slice A2 s_all1.length c2), pl 31 (.int .i64 (s_all1.length : Int)), pl 32 (.int .i64 z1), pl 49 (.pointer (some ⟨g1, 0, none⟩)), pl 50 (.slice A3 row1.length c3), pl 51 (.agg #[.int .i64 ((getd ((0, 0, 0) : (Int × Int × Int)) s_all1 z1).1), .int .i64 ((getd ((0, 0, 0) : (Int × Int × Int)) s_all1 z1).2.1), .int .i64 ((getd ((0, 0, 0) : (Int × Int × Int)) s_all1 z1).2.2)])] hF hS (by kernel_rfl) (by kernel_rfl) ?_ (fun a w hF hS => ?_)
              · exact obs_cons (ob_loadA (cs := #[.int .i64 ((getd ((0, 0, 0) : (Int × Int × Int)) s_all1 z1).1), .int .i64 ((getd ((0, 0, 0) : (Int × Int × Int)) s_all1 z1).2.1), .int .i64 ((getd ((0, 0, 0) : (Int × Int × Int)) s_all1 z1).2.2)]) (by kernel_rfl) (by kernel_rfl) (fun _ _ hS => (hS.at_ 6 rfl).cellsAt 0 (by rfl))) <| obs_nil
              refine at_do (d := 52) (s := vS (Instr.buildSlice 114 1 #[(0, .agg #[.int .i64 ((getd ((0, 0, 0) : (Int × Int × Int)) s_all1 z1).1), .int .i64 ((getd ((0, 0, 0) : (Int × Int × Int)) s_all1 z1).2.1), .int .i64 ((getd ((0, 0, 0) : (Int × Int × Int)) s_all1 z1).2.2)])])) (v := .slice (some ⟨w.heap.size, 0, none⟩) 1 1) (w' := w.alloc (.cells #[.int .i64 ((getd ((0, 0, 0) : (Int × Int × Int)) s_all1 z1).1), .int .i64 ((getd ((0, 0, 0) : (Int × Int × Int)) s_all1 z1).2.1), .int .i64 ((getd ((0, 0, 0) : (Int × Int × Int)) s_all1 z1).2.2)] 119)) hF (by kernel_rfl) (by kernel_rfl) (by kernel_rfl) (fun a hF => ?_)
              have hS : Sep w0 B (w.alloc (.cells #[.int .i64 ((getd ((0, 0, 0) : (Int × Int × Int)) s_all1 z1).1), .int .i64 ((getd ((0, 0, 0) : (Int × Int × Int)) s_all1 z1).2.1), .int .i64 ((getd ((0, 0, 0) : (Int × Int × Int)) s_all1 z1).2.2)] 119)) (ownK 119 3 (some (⟨w.heap.size, 0, none⟩ : Addr)) 1 1 (List.flatMap enc119 ([(getd ((0, 0, 0) : (Int × Int × Int)) s_all1 z1)] : List (Int × Int × Int))) :: (own 3 (.slice A1 s_cells1.length c1) (vI r4) :: blk g1 117 #[.slice A1 s_cells1.length c1, .slice A2 s_all1.length c2, .map (some g2)] :: ownK 119 3 A2 s_all1.length c2 (List.flatMap enc119 s_all1) :: mapH kf9 Value.bool g2 s4 :: stk 119 3 (fun m => List.flatMap enc119 m) A3 row1.length c3 es1 row1 :: blk g3 3 #[.int .i64 done2] :: blk g4 119 #[.int .i64 ((getd ((0, 0, 0) : (Int × Int × Int)) s_all1 z1).1), .int .i64 ((getd ((0, 0, 0) : (Int × Int × Int)) s_all1 z1).2.1), .int .i64 ((getd ((0, 0, 0) : (Int × Int × Int)) s_all1 z1).2.2)] :: fs)) := hS.litK 119 3 #[.int .i64 ((getd ((0, 0, 0) : (Int × Int × Int)) s_all1 z1).1), .int .i64 ((getd ((0, 0, 0) : (Int × Int × Int)) s_all1 z1).2.1), .int .i64 ((getd ((0, 0, 0) : (Int × Int × Int)) s_all1 z1).2.2)] 1 rfl (by omega)
              generalize (some (⟨w.heap.size, 0, none⟩ : Addr)) = g5 at hF hS
              generalize w.alloc (.cells #[.int .i64 ((getd ((0, 0, 0) : (Int × Int × Int)) s_all1 z1).1), .int .i64 ((getd ((0, 0, 0) : (Int × Int × Int)) s_all1 z1).2.1), .int .i64 ((getd ((0, 0, 0) : (Int × Int × Int)) s_all1 z1).2.2)] 119) = w at hS ⊢
              obtain ⟨A4, c4, w, hrun, hS⟩ := run_appSk (P := Try.prog) (t := 114) (ys := ([(getd ((0, 0, 0) : (Int × Int × Int)) s_all1 z1)] : List (Int × Int × Int))) (A2 := g5) (m2 := 1) (c2 := 1) 5864062014805 (EncK.encL encK119) (hS.at_ 5 rfl) (hS.at_ 0 rfl).rdK (by simp) ((hS.at_ 0 rfl).lenK encK119) 114 Und114 hi119 hz119 hs119 rfl (by rw [hb119]; decide) (by decide) hp2
              have hS : Sep w0 B w (ownK 119 3 g5 1 1 (List.flatMap enc119 ([(getd ((0, 0, 0) : (Int × Int × Int)) s_all1 z1)] : List (Int × Int × Int))) :: own 3 (.slice A1 s_cells1.length c1) (vI r4) :: blk g1 117 #[.slice A1 s_cells1.length c1, .slice A2 s_all1.length c2, .map (some g2)] :: ownK 119 3 A2 s_all1.length c2 (List.flatMap enc119 s_all1) :: mapH kf9 Value.bool g2 s4 :: stk 119 3 (fun m => List.flatMap enc119 m) A4 ((row1 ++ ([(getd ((0, 0, 0) : (Int × Int × Int)) s_all1 z1)] : List (Int × Int × Int))).length) c4 ((A3, row1.length, c3) :: es1) (row1 ++ ([(getd ((0, 0, 0) : (Int × Int × Int)) s_all1 z1)] : List (Int × Int × Int))) :: blk g3 3 #[.int .i64 done2] :: blk g4 119 #[.int .i64 ((getd ((0, 0, 0) : (Int × Int × Int)) s_all1 z1).1), .int .i64 ((getd ((0, 0, 0) : (Int × Int × Int)) s_all1 z1).2.1), .int .i64 ((getd ((0, 0, 0) : (Int × Int × Int)) s_all1 z1).2.2)] :: fs) := hS
              refine at_do (d := 53) hF (by kernel_rfl) (by kernel_rfl) hrun (fun a hF => ?_)
              refine at_run 1 [] [] [0, 1, 2, 9, 30, 31, 32, 49, 53, 54] [pl 0 (.pointer (some ⟨g1, 0, none⟩)), pl 1 (.slice A3 row1.length c3), pl 2 (.func (.func 73) #[] #[.pointer (some ⟨g3, 0, none⟩)]), pl 9 (.pointer (some ⟨g4, 0, none⟩)), pl 30 (.slice A2 s_all1.length c2), pl 31 (.int .i64 (s_all1.length : Int)), pl 32 (.int .i64 z1), pl 49 (.pointer (some ⟨g1, 0, none⟩)), pl 53 (.slice A4 ((row1 ++ ([(getd ((0, 0, 0) : (Int × Int × Int)) s_all1 z1)] : List (Int × Int × Int))).length) c4), pl 54 (.func (.func 73) #[] #[.pointer (some ⟨g3, 0, none⟩)])] hF hS (by kernel_rfl) (by kernel_rfl) ?_ (fun a w hF hS => ?_)
              · exact obs_nil
              have hS : Sep w0 B w (blk g1 117 #[.slice A1 s_cells1.length c1, .slice A2 s_all1.length c2, .map (some g2)] :: own 3 (.slice A1 s_cells1.length c1) (vI r4) :: ownK 119 3 A2 s_all1.length c2 (List.flatMap enc119 s_all1) :: mapH kf9 Value.bool g2 s4 :: stk 119 3 (fun m => List.flatMap enc119 m) A4 ((row1 ++ ([(getd ((0, 0, 0) : (Int × Int × Int)) s_all1 z1)] : List (Int × Int × Int))).length) c4 ((A3, row1.length, c3) :: es1) (row1 ++ ([(getd ((0, 0, 0) : (Int × Int × Int)) s_all1 z1)] : List (Int × Int × Int))) :: blk g3 3 #[.int .i64 done2] :: ownK 119 3 g5 1 1 (List.flatMap enc119 ([(getd ((0, 0, 0) : (Int × Int × Int)) s_all1 z1)] : List (Int × Int × Int))) :: blk g4 119 #[.int .i64 ((getd ((0, 0, 0) : (Int × Int × Int)) s_all1 z1).1), .int .i64 ((getd ((0, 0, 0) : (Int × Int × Int)) s_all1 z1).2.1), .int .i64 ((getd ((0, 0, 0) : (Int × Int × Int)) s_all1 z1).2.2)] :: fs) := hS.pickN 8 [2, 1, 3, 4, 5, 6, 0, 7] (by decide)
              refine at_call (f := 70) (args := #[.pointer (some ⟨g1, 0, none⟩), .slice A4 ((row1 ++ ([(getd ((0, 0, 0) : (Int × Int × Int)) s_all1 z1)] : List (Int × Int × Int))).length) c4, .func (.func 73) #[] #[.pointer (some ⟨g3, 0, none⟩)]]) (d := 55) hF (by kernel_rfl) (by kernel_rfl) Try.func70 (by kernel_rfl) rfl (ih_pegs_search_run_4 hr5 hS ) (fun v a w hR hF => ?_)
              clear hS
              obtain ⟨rfl, hS⟩ := hR
              have hS : Sep w0 B w (blk g1 117 #[.slice A1 s_cells1.length c1, .slice A2 s_all1.length c2, .map (some g2)] :: own 3 (.slice A1 s_cells1.length c1) (vI r5.2.1) :: ownK 119 3 A2 s_all1.length c2 (List.flatMap enc119 s_all1) :: mapH kf9 Value.bool g2 r5.2.2.1 :: stk 119 3 (fun m => List.flatMap enc119 m) A4 ((row1 ++ ([(getd ((0, 0, 0) : (Int × Int × Int)) s_all1 z1)] : List (Int × Int × Int))).length) c4 ((A3, row1.length, c3) :: es1) (row1 ++ ([(getd ((0, 0, 0) : (Int × Int × Int)) s_all1 z1)] : List (Int × Int × Int))) :: blk g3 3 #[.int .i64 r5.2.2.2] :: ownK 119 3 g5 1 1 (List.flatMap enc119 ([(getd ((0, 0, 0) : (Int × Int × Int)) s_all1 z1)] : List (Int × Int × Int))) :: blk g4 119 #[.int .i64 ((getd ((0, 0, 0) : (Int × Int × Int)) s_all1 z1).1), .int .i64 ((getd ((0, 0, 0) : (Int × Int × Int)) s_all1 z1).2.1), .int .i64 ((getd ((0, 0, 0) : (Int × Int × Int)) s_all1 z1).2.2)] :: fs) := hS
              refine at_run 1 [] [] [0, 1, 2, 9, 10, 30, 31, 32] [pl 0 (.pointer (some ⟨g1, 0, none⟩)), pl 1 (.slice A3 row1.length c3), pl 2 (.func (.func 73) #[] #[.pointer (some ⟨g3, 0, none⟩)]), pl 9 (.pointer (some ⟨g4, 0, none⟩)), pl 10 (.bool r5.1), pl 30 (.slice A2 s_all1.length c2), pl 31 (.int .i64 (s_all1.length : Int)), pl 32 (.int .i64 z1)] hF hS (by kernel_rfl) (by kernel_rfl) ?_ (fun a w hF hS => ?_)
              · exact obs_nil
              refine at_end [0, 1, 2, 9, 10, 30, 31, 32] [pl 0 (.pointer (some ⟨g1, 0, none⟩)), pl 1 (.slice A3 row1.length c3), pl 2 (.func (.func 73) #[] #[.pointer (some ⟨g3, 0, none⟩)]), pl 9 (.pointer (some ⟨g4, 0, none⟩)), pl 10 (.bool r5.1), pl 30 (.slice A2 s_all1.length c2), pl 31 (.int .i64 (s_all1.length : Int)), pl 32 (.int .i64 z1)] hF rfl (by kernel_rfl) (fun hF => ?_)
              refine then_n ?_
              refine wpIn_seq ?_
              obtain ⟨r6, hr6, hm⟩ := call_b hm
              refine regMix4 [0, 1, 2, 3, 4] [5] [⟨false, [], vS (Instr.loadAt 119 (.pointer (some ⟨g4, 0, none⟩))), .agg #[.int .i64 ((getd ((0, 0, 0) : (Int × Int × Int)) s_all1 z1).1), .int .i64 ((getd ((0, 0, 0) : (Int × Int × Int)) s_all1 z1).2.1), .int .i64 ((getd ((0, 0, 0) : (Int × Int × Int)) s_all1 z1).2.2)]⟩, ⟨false, [], vS (Instr.loadAt 22 (.pointer (some ⟨g1, 0, none⟩))), .slice A1 s_cells1.length c1⟩] [some (.agg #[.int .i64 ((getd ((0, 0, 0) : (Int × Int × Int)) s_all1 z1).1), .int .i64 ((getd ((0, 0, 0) : (Int × Int × Int)) s_all1 z1).2.1), .int .i64 ((getd ((0, 0, 0) : (Int × Int × Int)) s_all1 z1).2.2)]), none, none, none, some (.slice A1 s_cells1.length c1)] [0, 1, 2, 10, 30, 31, 32, 56, 60] [pl 0 (.pointer (some ⟨g1, 0, none⟩)), pl 1 (.slice A3 row1.length c3), pl 2 (.func (.func 73) #[] #[.pointer (some ⟨g3, 0, none⟩)]), pl 10 (.bool r5.1), pl 30 (.slice A2 s_all1.length c2), pl 31 (.int .i64 (s_all1.length : Int)), pl 32 (.int .i64 z1), pl 56 (.agg #[.int .i64 ((getd ((0, 0, 0) : (Int × Int × Int)) s_all1 z1).1), .int .i64 ((getd ((0, 0, 0) : (Int × Int × Int)) s_all1 z1).2.1), .int .i64 ((getd ((0, 0, 0) : (Int × Int × Int)) s_all1 z1).2.2)]), pl 60 (.slice A1 s_cells1.length c1)] hF hS Fol (by kernel_rfl) (by kernel_rfl) (by kernel_rfl) (by kernel_rfl) (by kernel_rfl) ?_ (fun a w hF hS => ?_)
              · exact obs_cons (ob_loadA (cs := #[.int .i64 ((getd ((0, 0, 0) : (Int × Int × Int)) s_all1 z1).1), .int .i64 ((getd ((0, 0, 0) : (Int × Int × Int)) s_all1 z1).2.1), .int .i64 ((getd ((0, 0, 0) : (Int × Int × Int)) s_all1 z1).2.2)]) (by kernel_rfl) (by kernel_rfl) (fun _ _ hS => (hS.at_ 7 rfl).cellsAt 0 (by rfl))) <| obs_cons (ob_load Agg22 (fun _ _ hS => (hS.at_ 0 rfl).cell rfl)) <| obs_nil
              have hS : Sep w0 B w (own 3 (.slice A1 s_cells1.length c1) (vI r5.2.1) :: blk g1 117 #[.slice A1 s_cells1.length c1, .slice A2 s_all1.length c2, .map (some g2)] :: ownK 119 3 A2 s_all1.length c2 (List.flatMap enc119 s_all1) :: mapH kf9 Value.bool g2 r5.2.2.1 :: stk 119 3 (fun m => List.flatMap enc119 m) A4 ((row1 ++ ([(getd ((0, 0, 0) : (Int × Int × Int)) s_all1 z1)] : List (Int × Int × Int))).length) c4 ((A3, row1.length, c3) :: es1) (row1 ++ ([(getd ((0, 0, 0) : (Int × Int × Int)) s_all1 z1)] : List (Int × Int × Int))) :: blk g3 3 #[.int .i64 r5.2.2.2] :: ownK 119 3 g5 1 1 (List.flatMap enc119 ([(getd ((0, 0, 0) : (Int × Int × Int)) s_all1 z1)] : List (Int × Int × Int))) :: blk g4 119 #[.int .i64 ((getd ((0, 0, 0) : (Int × Int × Int)) s_all1 z1).1), .int .i64 ((getd ((0, 0, 0) : (Int × Int × Int)) s_all1 z1).2.1), .int .i64 ((getd ((0, 0, 0) : (Int × Int × Int)) s_all1 z1).2.2)] :: fs) := hS.pickN 8 [1, 0, 2, 3, 4, 5, 6, 7] (by decide)
              refine at_call (f := 108) (args := #[.agg #[.int .i64 ((getd ((0, 0, 0) : (Int × Int × Int)) s_all1 z1).1), .int .i64 ((getd ((0, 0, 0) : (Int × Int × Int)) s_all1 z1).2.1), .int .i64 ((getd ((0, 0, 0) : (Int × Int × Int)) s_all1 z1).2.2)], .slice A1 s_cells1.length c1]) (d := 61) hF (by kernel_rfl) (by kernel_rfl) Try.func108 (by kernel_rfl) rfl (pegs_jump_turn_2_w hr6 hS ) (fun v a w hR hF => ?_)
              clear hS
              obtain ⟨rfl, hS⟩ := hR
              have hS : Sep w0 B w (own 3 (.slice A1 s_cells1.length c1) (vI r6) :: blk g1 117 #[.slice A1 s_cells1.length c1, .slice A2 s_all1.length c2, .map (some g2)] :: ownK 119 3 A2 s_all1.length c2 (List.flatMap enc119 s_all1) :: mapH kf9 Value.bool g2 r5.2.2.1 :: stk 119 3 (fun m => List.flatMap enc119 m) A4 ((row1 ++ ([(getd ((0, 0, 0) : (Int × Int × Int)) s_all1 z1)] : List (Int × Int × Int))).length) c4 ((A3, row1.length, c3) :: es1) (row1 ++ ([(getd ((0, 0, 0) : (Int × Int × Int)) s_all1 z1)] : List (Int × Int × Int))) :: blk g3 3 #[.int .i64 r5.2.2.2] :: ownK 119 3 g5 1 1 (List.flatMap enc119 ([(getd ((0, 0, 0) : (Int × Int × Int)) s_all1 z1)] : List (Int × Int × Int))) :: blk g4 119 #[.int .i64 ((getd ((0, 0, 0) : (Int × Int × Int)) s_all1 z1).1), .int .i64 ((getd ((0, 0, 0) : (Int × Int × Int)) s_all1 z1).2.1), .int .i64 ((getd ((0, 0, 0) : (Int × Int × Int)) s_all1 z1).2.2)] :: fs) := hS
              refine at_end [0, 1, 2, 10, 30, 31, 32] [pl 0 (.pointer (some ⟨g1, 0, none⟩)), pl 1 (.slice A3 row1.length c3), pl 2 (.func (.func 73) #[] #[.pointer (some ⟨g3, 0, none⟩)]), pl 10 (.bool r5.1), pl 30 (.slice A2 s_all1.length c2), pl 31 (.int .i64 (s_all1.length : Int)), pl 32 (.int .i64 z1)] hF rfl (by kernel_rfl) (fun hF => ?_)
              refine np_n ?_
              refine then_n ?_
              refine reg [] [] [0, 1, 2, 30, 31, 32, 62] [pl 0 (.pointer (some ⟨g1, 0, none⟩)), pl 1 (.slice A3 row1.length c3), pl 2 (.func (.func 73) #[] #[.pointer (some ⟨g3, 0, none⟩)]), pl 30 (.slice A2 s_all1.length c2), pl 31 (.int .i64 (s_all1.length : Int)), pl 32 (.int .i64 z1), pl 62 (.bool r5.1)] hF hS Fol (by kernel_rfl) (by kernel_rfl) (by kernel_rfl) ?_ (fun a w hF hS => ?_)
              · exact obs_nil
              refine cond_ev (t := 62) (b := r5.1) hF (by kernel_rfl) (fun hb => ?_) (fun hb => ?_)
              · replace hm := if_t hm hb
                refine reg [] [] [6] [pl 6 (.bool true)] hF hS Fol (by kernel_rfl) (by kernel_rfl) (by kernel_rfl) ?_ (fun a w hF hS => ?_)
                · exact obs_nil
                refine wpIn_ret ?_
                refine block_r (then_r (then_r (block_r (then_r ?_))))
                rw [← hφ1] at hm
                replace hm := done_b hm
                unfold pegs_search_run_4_K1 at hm
                try dsimp only at hm
                have hS : Sep w0 B w (own 3 (.slice A1 s_cells1.length c1) (vI r6) :: blk g1 117 #[.slice A1 s_cells1.length c1, .slice A2 s_all1.length c2, .map (some g2)] :: ownK 119 3 A2 s_all1.length c2 (List.flatMap enc119 s_all1) :: mapH kf9 Value.bool g2 r5.2.2.1 :: stk 119 3 (fun m => List.flatMap enc119 m) A3 row1.length c3 es1 row1 :: blk g3 3 #[.int .i64 r5.2.2.2] :: ownK 119 3 g5 1 1 (List.flatMap enc119 ([(getd ((0, 0, 0) : (Int × Int × Int)) s_all1 z1)] : List (Int × Int × Int))) :: blk g4 119 #[.int .i64 ((getd ((0, 0, 0) : (Int × Int × Int)) s_all1 z1).1), .int .i64 ((getd ((0, 0, 0) : (Int × Int × Int)) s_all1 z1).2.1), .int .i64 ((getd ((0, 0, 0) : (Int × Int × Int)) s_all1 z1).2.2)] :: fs) := (hS.at_ 4 rfl).popSk rfl
                have hS := hS.pickN 8 [1, 0, 2, 3, 4, 5] (by decide)
                have hm : some (true, r6, r5.2.2.1, r5.2.2.2) = some r := hm
                obtain rfl := Option.some.inj hm
                exact retV (rs := [.tmp 6]) (vs := [.bool true]) hF rfl (rv_t (by kernel_rfl) <| rv_nil) rfl ⟨_, rfl, rfl, hS⟩
              · replace hm := if_f hm hb
                refine wpIn_skip ?_
                refine block_n ?_
                refine then_n ?_
                have hS : Sep w0 B w (own 3 (.slice A1 s_cells1.length c1) (vI r6) :: blk g1 117 #[.slice A1 s_cells1.length c1, .slice A2 s_all1.length c2, .map (some g2)] :: ownK 119 3 A2 s_all1.length c2 (List.flatMap enc119 s_all1) :: mapH kf9 Value.bool g2 r5.2.2.1 :: stk 119 3 (fun m => List.flatMap enc119 m) A3 row1.length c3 es1 row1 :: blk g3 3 #[.int .i64 r5.2.2.2] :: ownK 119 3 g5 1 1 (List.flatMap enc119 ([(getd ((0, 0, 0) : (Int × Int × Int)) s_all1 z1)] : List (Int × Int × Int))) :: blk g4 119 #[.int .i64 ((getd ((0, 0, 0) : (Int × Int × Int)) s_all1 z1).1), .int .i64 ((getd ((0, 0, 0) : (Int × Int × Int)) s_all1 z1).2.1), .int .i64 ((getd ((0, 0, 0) : (Int × Int × Int)) s_all1 z1).2.2)] :: fs) := (hS.at_ 4 rfl).popSk rfl
                have hS := hS.pickN 8 [1, 0, 2, 3, 4, 5] (by decide)
                exact ⟨r6, r5.2.2.1, r5.2.2.2, hF.weak [0, 1, 2, 30, 31, 32] (by kernel_rfl), hS, hm⟩
            · obtain ⟨r3, hr3, hm⟩ := call_b hm
              refine reg [⟨false, [], vS (Instr.loadAt 119 (.pointer (some ⟨g4, 0, none⟩))), .agg #[.int .i64 ((getd ((0, 0, 0) : (Int × Int × Int)) s_all1 z1).1), .int .i64 ((getd ((0, 0, 0) : (Int × Int × Int)) s_all1 z1).2.1), .int .i64 ((getd ((0, 0, 0) : (Int × Int × Int)) s_all1 z1).2.2)]⟩, ⟨false, [], vS (Instr.loadAt 22 (.pointer (some ⟨g1, 0, none⟩))), .slice A1 s_cells1.length c1⟩, ⟨false, [], callFunc 107 #[.agg #[.int .i64 ((getd ((0, 0, 0) : (Int × Int × Int)) s_all1 z1).1), .int .i64 ((getd ((0, 0, 0) : (Int × Int × Int)) s_all1 z1).2.1), .int .i64 ((getd ((0, 0, 0) : (Int × Int × Int)) s_all1 z1).2.2)], .slice A1 s_cells1.length c1], .bool r3⟩] [some (.agg #[.int .i64 ((getd ((0, 0, 0) : (Int × Int × Int)) s_all1 z1).1), .int .i64 ((getd ((0, 0, 0) : (Int × Int × Int)) s_all1 z1).2.1), .int .i64 ((getd ((0, 0, 0) : (Int × Int × Int)) s_all1 z1).2.2)]), none, none, none, some (.slice A1 s_cells1.length c1), some (.bool r3), none] [0, 1, 2, 9, 30, 31, 32, 42] [pl 0 (.pointer (some ⟨g1, 0, none⟩)), pl 1 (.slice A3 row1.length c3), pl 2 (.func (.func 73) #[] #[.pointer (some ⟨g3, 0, none⟩)]), pl 9 (.pointer (some ⟨g4, 0, none⟩)), pl 30 (.slice A2 s_all1.length c2), pl 31 (.int .i64 (s_all1.length : Int)), pl 32 (.int .i64 z1), pl 42 (.bool (!r3))] hF hS Fol (by kernel_rfl) (by kernel_rfl) (by kernel_rfl) ?_ (fun a w hF hS => ?_)
              · exact obs_cons (ob_loadA (cs := #[.int .i64 ((getd ((0, 0, 0) : (Int × Int × Int)) s_all1 z1).1), .int .i64 ((getd ((0, 0, 0) : (Int × Int × Int)) s_all1 z1).2.1), .int .i64 ((getd ((0, 0, 0) : (Int × Int × Int)) s_all1 z1).2.2)]) (by kernel_rfl) (by kernel_rfl) (fun _ _ hS => (hS.at_ 0 rfl).cellsAt 0 (by rfl))) <| obs_cons (ob_load Agg22 (fun _ _ hS => (hS.at_ 1 rfl).cell rfl)) <| obs_cons (ob_call Try.func107 (by kernel_rfl) rfl (fun _ _ hS => pegs_jump_can_w hr3 hS (fun _ hS => (hS.at_ 2 rfl).rd) ((hS.at_ 2 rfl).cap1) ((hS.at_ 2 rfl).len1))) <| obs_nil
              refine cond_ev (t := 42) (b := !r3) hF (by kernel_rfl) (fun hb => ?_) (fun hb => ?_)
              · replace hm := if_t hm hb
                refine wpIn_exit ?_
                refine then_e (block_e (then_n ?_))
                have hS := hS.pickN 7 [1, 2, 3, 4, 5, 6] (by decide)
                exact ⟨s3, s4, done2, hF.weak [0, 1, 2, 30, 31, 32] (by kernel_rfl), hS, hm⟩
              · replace hm := if_f hm hb
                refine wpIn_skip ?_
                refine then_n ?_
                have hS := hS.pickN 7 [1, 2, 3, 4, 5, 6, 0] (by decide)
                exact ⟨hF.weak [0, 1, 2, 9, 30, 31, 32] (by kernel_rfl), hS, hm⟩
        · refine cond_ev (t := 33) (b := decide (z1 < (s_all1.length : Int))) hF (by kernel_rfl) (fun hb => ?_) (fun hb => ?_)
          · replace hm := if_t hm hb
            refine wpIn_skip ?_
            refine then_n ?_
            exact ⟨hF.weak [0, 1, 2, 30, 31, 32] (by kernel_rfl), hS, hm⟩
          · replace hm := if_f hm hb
            refine wpIn_exit ?_
            refine then_e (then_e (block_e (then_n ?_)))
            rw [← hφ1] at hm
            replace hm := done_b hm
            unfold pegs_search_run_4_K1 at hm
            try dsimp only at hm
            have hm : (pegs_search_run_4_J3 s3 s4 done2).bind some = some r := hm
            exact ⟨s3, s4, done2, hF.weak [] (by kernel_rfl), hS, hm⟩
    · refine reg [⟨false, [], vS (Instr.loadAt 115 (.pointer (some ⟨g1, 2, none⟩))), .map (some g2)⟩, ⟨false, [], vS (Instr.lookup 115 (.map (some g2)) (strV r2) false), .bool (mget false r2 s_tried1)⟩] [none, none, none, some (.map (some g2)), none, some (.bool (mget false r2 s_tried1))] [0, 1, 2, 7, 21] [pl 0 (.pointer (some ⟨g1, 0, none⟩)), pl 1 (.slice A3 row1.length c3), pl 2 (.func (.func 73) #[] #[.pointer (some ⟨g3, 0, none⟩)]), pl 7 (strV r2), pl 21 (.bool (mget false r2 s_tried1))] hF hS Fol (by kernel_rfl) (by kernel_rfl) (by kernel_rfl) ?_ (fun a w hF hS => ?_)
      · exact obs_cons (ob_load Agg115 (fun _ _ hS => (hS.at_ 0 rfl).cell rfl)) <| obs_cons (ob_look (k := r2) (m := s_tried1) MK9 UndM115 (z := false) MZ4 (fun _ hS => ⟨_, _, _, _, hS.at_ 3 rfl⟩)) <| obs_nil
      refine cond_ev (t := 21) (b := (mget false r2 s_tried1)) hF (by kernel_rfl) (fun hb => ?_) (fun hb => ?_)
      · replace hm := if_t hm hb
        refine reg [] [] [6] [pl 6 (.bool false)] hF hS Fol (by kernel_rfl) (by kernel_rfl) (by kernel_rfl) ?_ (fun a w hF hS => ?_)
        · exact obs_nil
        refine wpIn_ret ?_
        refine then_r ?_
        have hm : some (false, s_cells1, s_tried1, done1) = some r := hm
        obtain rfl := Option.some.inj hm
        exact retV (rs := [.tmp 6]) (vs := [.bool false]) hF rfl (rv_t (by kernel_rfl) <| rv_nil) rfl ⟨_, rfl, rfl, hS⟩
      · replace hm := if_f hm hb
        refine wpIn_skip ?_
        refine then_n ?_
        exact ⟨hF.weak [0, 1, 2, 7] (by kernel_rfl), hS, hm⟩
  · refine seqR ?_
    obtain ⟨r1, hr1, hm⟩ := call_b hm
    refine at_run 2 [] [] [0, 1, 2, 11, 12] [pl 0 (.pointer (some ⟨g1, 0, none⟩)), pl 1 (.slice A3 row1.length c3), pl 2 (.func (.func 73) #[] #[.pointer (some ⟨g3, 0, none⟩)]), pl 11 (.func (.func 73) #[] #[.pointer (some ⟨g3, 0, none⟩)]), pl 12 (.slice A3 row1.length c3)] hF hS (by kernel_rfl) (by kernel_rfl) ?_ (fun a w hF hS => ?_)
    · exact obs_nil
    have hS : Sep w0 B w (blk g3 3 #[.int .i64 v1] :: blk g1 117 #[.slice A1 s_cells1.length c1, .slice A2 s_all1.length c2, .map (some g2)] :: own 3 (.slice A1 s_cells1.length c1) (vI s_cells1) :: ownK 119 3 A2 s_all1.length c2 (List.flatMap enc119 s_all1) :: mapH kf9 Value.bool g2 s_tried1 :: stk 119 3 (fun m => List.flatMap enc119 m) A3 row1.length c3 es1 row1 :: fs) := hS.pickN 6 [5, 0, 1, 2, 3, 4] (by decide)
    refine at_call (f := 73) (args := #[.slice A3 row1.length c3, .pointer (some ⟨g3, 0, none⟩)]) (d := 13) hF (by kernel_rfl) (by kernel_rfl) Try.func73 (by kernel_rfl) rfl (pegs_Fewest_1_w hr1 hS (fun _ hS => (hS.at_ 4 rfl).rdSk) (((hS.dropN 1).at_ 4 rfl).capSk) rfl) (fun v a w hR hF => ?_)
    clear hS
    obtain ⟨rfl, hS⟩ := hR
    have hS : Sep w0 B w (blk g3 3 #[.int .i64 r1.2] :: blk g1 117 #[.slice A1 s_cells1.length c1, .slice A2 s_all1.length c2, .map (some g2)] :: own 3 (.slice A1 s_cells1.length c1) (vI s_cells1) :: ownK 119 3 A2 s_all1.length c2 (List.flatMap enc119 s_all1) :: mapH kf9 Value.bool g2 s_tried1 :: stk 119 3 (fun m => List.flatMap enc119 m) A3 row1.length c3 es1 row1 :: fs) := hS
    refine at_end [0, 1, 2, 13] [pl 0 (.pointer (some ⟨g1, 0, none⟩)), pl 1 (.slice A3 row1.length c3), pl 2 (.func (.func 73) #[] #[.pointer (some ⟨g3, 0, none⟩)]), pl 13 (.bool r1.1)] hF rfl (by kernel_rfl) (fun hF => ?_)
    refine then_n ?_
    refine cond_ev (t := 13) (b := r1.1) hF (by kernel_rfl) (fun hb => ?_) (fun hb => ?_)
    · replace hm := if_t hm hb
      refine reg [] [] [6] [pl 6 (.bool true)] hF hS Fol (by kernel_rfl) (by kernel_rfl) (by kernel_rfl) ?_ (fun a w hF hS => ?_)
      · exact obs_nil
      refine wpIn_ret ?_
      refine then_r ?_
      have hS := hS.pickN 6 [1, 2, 3, 4, 5, 0] (by decide)
      have hm : some (true, s_cells1, s_tried1, r1.2) = some r := hm
      obtain rfl := Option.some.inj hm
      exact retV (rs := [.tmp 6]) (vs := [.bool true]) hF rfl (rv_t (by kernel_rfl) <| rv_nil) rfl ⟨_, rfl, rfl, hS⟩
    · replace hm := if_f hm hb
      refine wpIn_skip ?_
      refine then_n ?_
      have hS := hS.pickN 6 [1, 2, 3, 4, 5, 0] (by decide)
      exact ⟨r1.2, hF.weak [0, 1, 2] (by kernel_rfl), hS, hm⟩

theorem pegs_search_run_4_w  {g1 : Nat} {A1 : Option Addr} {c1 : Nat} {n1 : Nat} {s_cells1 : List Int} {A2 : Option Addr} {c2 : Nat} {n2 : Nat} {s_all1 : List (Int × Int × Int)} {g2 : Nat} {s_tried1 : List (List UInt8 × Bool)} {A3 : Option Addr} {c3 : Nat} {n3 : Nat} {row1 : List (Int × Int × Int)} {es1 : List Sk} {g3 : Nat} {v1 : Int} {r : (Bool × List Int × List (List UInt8 × Bool) × Int)} {w0 w : World} {B : Nat} {fs : List HP} (hm : pegs_search_run_4_m s_cells1 s_all1 s_tried1 row1 v1 = some r) (hS : Sep w0 B w (blk g1 117 #[.slice A1 n1 c1, .slice A2 n2 c2, .map (some g2)] :: own 3 (.slice A1 n1 c1) (vI s_cells1) :: ownK 119 3 A2 n2 c2 (List.flatMap enc119 s_all1) :: mapH kf9 Value.bool g2 s_tried1 :: stk 119 3 (fun m => List.flatMap enc119 m) A3 n3 c3 es1 row1 :: blk g3 3 #[.int .i64 v1] :: fs)) :
    Calls Try.prog 70 #[.pointer (some ⟨g1, 0, none⟩), .slice A3 n3 c3, .func (.func 73) #[] #[.pointer (some ⟨g3, 0, none⟩)]] w fun e w' => ∃ v, e = .returned v ∧ v = .bool r.1 ∧ Sep w0 B w' (blk g1 117 #[.slice A1 n1 c1, .slice A2 n2 c2, .map (some g2)] :: own 3 (.slice A1 n1 c1) (vI r.2.1) :: ownK 119 3 A2 n2 c2 (List.flatMap enc119 s_all1) :: mapH kf9 Value.bool g2 r.2.2.1 :: stk 119 3 (fun m => List.flatMap enc119 m) A3 n3 c3 es1 row1 :: blk g3 3 #[.int .i64 r.2.2.2] :: fs) := by
  have key : ∀ (n : Nat) {g1 : Nat} {A1 : Option Addr} {c1 : Nat} {n1 : Nat} {s_cells1 : List Int} {A2 : Option Addr} {c2 : Nat} {n2 : Nat} {s_all1 : List (Int × Int × Int)} {g2 : Nat} {s_tried1 : List (List UInt8 × Bool)} {A3 : Option Addr} {c3 : Nat} {n3 : Nat} {row1 : List (Int × Int × Int)} {es1 : List Sk} {g3 : Nat} {v1 : Int} {r : (Bool × List Int × List (List UInt8 × Bool) × Int)} {w0 w : World} {B : Nat} {fs : List HP} (_ : pegs_search_run_4_mF n s_cells1 s_all1 s_tried1 row1 v1 = some r) (_ : Sep w0 B w (blk g1 117 #[.slice A1 n1 c1, .slice A2 n2 c2, .map (some g2)] :: own 3 (.slice A1 n1 c1) (vI s_cells1) :: ownK 119 3 A2 n2 c2 (List.flatMap enc119 s_all1) :: mapH kf9 Value.bool g2 s_tried1 :: stk 119 3 (fun m => List.flatMap enc119 m) A3 n3 c3 es1 row1 :: blk g3 3 #[.int .i64 v1] :: fs)), Calls Try.prog 70 #[.pointer (some ⟨g1, 0, none⟩), .slice A3 n3 c3, .func (.func 73) #[] #[.pointer (some ⟨g3, 0, none⟩)]] w fun e w' => ∃ v, e = .returned v ∧ v = .bool r.1 ∧ Sep w0 B w' (blk g1 117 #[.slice A1 n1 c1, .slice A2 n2 c2, .map (some g2)] :: own 3 (.slice A1 n1 c1) (vI r.2.1) :: ownK 119 3 A2 n2 c2 (List.flatMap enc119 s_all1) :: mapH kf9 Value.bool g2 r.2.2.1 :: stk 119 3 (fun m => List.flatMap enc119 m) A3 n3 c3 es1 row1 :: blk g3 3 #[.int .i64 r.2.2.2] :: fs) := by
    intro n
    induction n with
    | zero => intros; rename_i hm0 _; cases hm0
    | succ n ih => intros; rename_i hm0 hS0; exact pegs_search_run_4_wB (rec_pegs_search_run_4 := pegs_search_run_4_mF n) (fun hm hS => ih hm hS) hm0 hS0
  obtain ⟨n, hn⟩ := recM_some hm
  exact key n hn hS

set_option maxRecDepth 100000 in
theorem pegs_search_run_4_J6_le_pegs_search_run_4 {rec_pegs_search_run_41 rec_pegs_search_run_42 : List Int → List (Int × Int × Int) → List (List UInt8 × Bool) → List (Int × Int × Int) → Int → Option (Bool × List Int × List (List UInt8 × Bool) × Int)} (h_rec_pegs_search_run_4 : ∀ a0 a1 a2 a3 a4, Le (rec_pegs_search_run_41 a0 a1 a2 a3 a4) (rec_pegs_search_run_42 a0 a1 a2 a3 a4)) (s_all1 : List (Int × Int × Int)) (row1 : List (Int × Int × Int)) (s3 : List Int) (s4 : List (List UInt8 × Bool)) (done2 : Int) (z1 : Int) : Le (pegs_search_run_4_J6 rec_pegs_search_run_41 s_all1 row1 s3 s4 done2 z1) (pegs_search_run_4_J6 rec_pegs_search_run_42 s_all1 row1 s3 s4 done2 z1) := by
  unfold pegs_search_run_4_J6
  repeat' (first | with_reducible exact Le.refl _ | with_reducible exact h_rec_pegs_search_run_4 _ _ _ _ _ | with_reducible refine Le.asrt ?_ | with_reducible refine Le.ite ?_ ?_ | refine Le.bind ?_ (fun _ => ?_) | refine Le.loop2 (fun _ => ?_) | refine Le.elim2 (fun _ => ?_) (fun _ => ?_))

set_option maxRecDepth 100000 in
theorem pegs_search_run_4_J4_le_pegs_search_run_4 {rec_pegs_search_run_41 rec_pegs_search_run_42 : List Int → List (Int × Int × Int) → List (List UInt8 × Bool) → List (Int × Int × Int) → Int → Option (Bool × List Int × List (List UInt8 × Bool) × Int)} (h_rec_pegs_search_run_4 : ∀ a0 a1 a2 a3 a4, Le (rec_pegs_search_run_41 a0 a1 a2 a3 a4) (rec_pegs_search_run_42 a0 a1 a2 a3 a4)) (s_all1 : List (Int × Int × Int)) (row1 : List (Int × Int × Int)) (s3 : List Int) (s4 : List (List UInt8 × Bool)) (done2 : Int) (z1 : Int) : Le (pegs_search_run_4_J4 rec_pegs_search_run_41 s_all1 row1 s3 s4 done2 z1) (pegs_search_run_4_J4 rec_pegs_search_run_42 s_all1 row1 s3 s4 done2 z1) := by
  unfold pegs_search_run_4_J4
  repeat' (first | with_reducible exact Le.refl _ | with_reducible exact h_rec_pegs_search_run_4 _ _ _ _ _ | with_reducible exact pegs_search_run_4_J6_le_pegs_search_run_4 h_rec_pegs_search_run_4 _ _ _ _ _ _ | with_reducible refine Le.asrt ?_ | with_reducible refine Le.ite ?_ ?_ | refine Le.bind ?_ (fun _ => ?_) | refine Le.loop2 (fun _ => ?_) | refine Le.elim2 (fun _ => ?_) (fun _ => ?_))

set_option maxRecDepth 100000 in
theorem pegs_search_run_4_L1_le_pegs_search_run_4 {rec_pegs_search_run_41 rec_pegs_search_run_42 : List Int → List (Int × Int × Int) → List (List UInt8 × Bool) → List (Int × Int × Int) → Int → Option (Bool × List Int × List (List UInt8 × Bool) × Int)} (h_rec_pegs_search_run_4 : ∀ a0 a1 a2 a3 a4, Le (rec_pegs_search_run_41 a0 a1 a2 a3 a4) (rec_pegs_search_run_42 a0 a1 a2 a3 a4)) (s_all1 : List (Int × Int × Int)) (row1 : List (Int × Int × Int)) (x : (List Int × List (List UInt8 × Bool) × Int × Int)) : Le (pegs_search_run_4_L1 rec_pegs_search_run_41 s_all1 row1 x) (pegs_search_run_4_L1 rec_pegs_search_run_42 s_all1 row1 x) := by
  rcases x with ⟨s3, s4, done2, z1⟩
  all_goals
    unfold pegs_search_run_4_L1
    try dsimp only
    repeat' (first | with_reducible exact Le.refl _ | with_reducible exact h_rec_pegs_search_run_4 _ _ _ _ _ | with_reducible exact pegs_search_run_4_J4_le_pegs_search_run_4 h_rec_pegs_search_run_4 _ _ _ _ _ _ | with_reducible refine Le.asrt ?_ | with_reducible refine Le.ite ?_ ?_ | refine Le.bind ?_ (fun _ => ?_) | refine Le.loop2 (fun _ => ?_) | refine Le.elim2 (fun _ => ?_) (fun _ => ?_))

set_option maxRecDepth 100000 in
theorem pegs_search_run_4_J2_le_pegs_search_run_4 {rec_pegs_search_run_41 rec_pegs_search_run_42 : List Int → List (Int × Int × Int) → List (List UInt8 × Bool) → List (Int × Int × Int) → Int → Option (Bool × List Int × List (List UInt8 × Bool) × Int)} (h_rec_pegs_search_run_4 : ∀ a0 a1 a2 a3 a4, Le (rec_pegs_search_run_41 a0 a1 a2 a3 a4) (rec_pegs_search_run_42 a0 a1 a2 a3 a4)) (s_cells1 : List Int) (s_all1 : List (Int × Int × Int)) (s_tried1 : List (List UInt8 × Bool)) (row1 : List (Int × Int × Int)) (done1 : Int) (r2 : (List UInt8)) : Le (pegs_search_run_4_J2 rec_pegs_search_run_41 s_cells1 s_all1 s_tried1 row1 done1 r2) (pegs_search_run_4_J2 rec_pegs_search_run_42 s_cells1 s_all1 s_tried1 row1 done1 r2) := by
  unfold pegs_search_run_4_J2
  repeat' (first | with_reducible exact Le.refl _ | with_reducible exact h_rec_pegs_search_run_4 _ _ _ _ _ | with_reducible exact pegs_search_run_4_L1_le_pegs_search_run_4 h_rec_pegs_search_run_4 _ _ _ | with_reducible refine Le.asrt ?_ | with_reducible refine Le.ite ?_ ?_ | refine Le.bind ?_ (fun _ => ?_) | refine Le.loop2 (fun _ => ?_) | refine Le.elim2 (fun _ => ?_) (fun _ => ?_))

set_option maxRecDepth 100000 in
theorem pegs_search_run_4_J1_le_pegs_search_run_4 {rec_pegs_search_run_41 rec_pegs_search_run_42 : List Int → List (Int × Int × Int) → List (List UInt8 × Bool) → List (Int × Int × Int) → Int → Option (Bool × List Int × List (List UInt8 × Bool) × Int)} (h_rec_pegs_search_run_4 : ∀ a0 a1 a2 a3 a4, Le (rec_pegs_search_run_41 a0 a1 a2 a3 a4) (rec_pegs_search_run_42 a0 a1 a2 a3 a4)) (s_cells1 : List Int) (s_all1 : List (Int × Int × Int)) (s_tried1 : List (List UInt8 × Bool)) (row1 : List (Int × Int × Int)) (done1 : Int) : Le (pegs_search_run_4_J1 rec_pegs_search_run_41 s_cells1 s_all1 s_tried1 row1 done1) (pegs_search_run_4_J1 rec_pegs_search_run_42 s_cells1 s_all1 s_tried1 row1 done1) := by
  unfold pegs_search_run_4_J1
  repeat' (first | with_reducible exact Le.refl _ | with_reducible exact h_rec_pegs_search_run_4 _ _ _ _ _ | with_reducible exact pegs_search_run_4_J2_le_pegs_search_run_4 h_rec_pegs_search_run_4 _ _ _ _ _ _ | with_reducible refine Le.asrt ?_ | with_reducible refine Le.ite ?_ ?_ | refine Le.bind ?_ (fun _ => ?_) | refine Le.loop2 (fun _ => ?_) | refine Le.elim2 (fun _ => ?_) (fun _ => ?_))

set_option maxRecDepth 100000 in
theorem pegs_search_run_4_B_le {rec_pegs_search_run_41 rec_pegs_search_run_42 : List Int → List (Int × Int × Int) → List (List UInt8 × Bool) → List (Int × Int × Int) → Int → Option (Bool × List Int × List (List UInt8 × Bool) × Int)} (h_rec_pegs_search_run_4 : ∀ a0 a1 a2 a3 a4, Le (rec_pegs_search_run_41 a0 a1 a2 a3 a4) (rec_pegs_search_run_42 a0 a1 a2 a3 a4)) (s_cells1 : List Int) (s_all1 : List (Int × Int × Int)) (s_tried1 : List (List UInt8 × Bool)) (row1 : List (Int × Int × Int)) (v1 : Int) : Le (pegs_search_run_4_B rec_pegs_search_run_41 s_cells1 s_all1 s_tried1 row1 v1) (pegs_search_run_4_B rec_pegs_search_run_42 s_cells1 s_all1 s_tried1 row1 v1) := by
  unfold pegs_search_run_4_B
  repeat' (first | with_reducible exact Le.refl _ | with_reducible exact h_rec_pegs_search_run_4 _ _ _ _ _ | with_reducible exact pegs_search_run_4_J1_le_pegs_search_run_4 h_rec_pegs_search_run_4 _ _ _ _ _ | with_reducible refine Le.asrt ?_ | with_reducible refine Le.ite ?_ ?_ | refine Le.bind ?_ (fun _ => ?_) | refine Le.loop2 (fun _ => ?_) | refine Le.elim2 (fun _ => ?_) (fun _ => ?_))

set_option maxRecDepth 100000 in
theorem pegs_search_run_4_mF_le : ∀ (n : Nat) (s_cells1 : List Int) (s_all1 : List (Int × Int × Int)) (s_tried1 : List (List UInt8 × Bool)) (row1 : List (Int × Int × Int)) (v1 : Int), Le (pegs_search_run_4_mF n s_cells1 s_all1 s_tried1 row1 v1) (pegs_search_run_4_mF (n + 1) s_cells1 s_all1 s_tried1 row1 v1)
  | 0, _, _, _, _, _ => fun _ h => by cases h
  | n + 1, _, _, _, _, _ => pegs_search_run_4_B_le (fun a0 a1 a2 a3 a4 => pegs_search_run_4_mF_le n a0 a1 a2 a3 a4) _ _ _ _ _

set_option maxRecDepth 100000 in
theorem pegs_search_run_4_m_of (N : Nat) (s_cells1 : List Int) (s_all1 : List (Int × Int × Int)) (s_tried1 : List (List UInt8 × Bool)) (row1 : List (Int × Int × Int)) (v1 : Int) {r : (Bool × List Int × List (List UInt8 × Bool) × Int)} (h : pegs_search_run_4_mF N s_cells1 s_all1 s_tried1 row1 v1 = some r) : pegs_search_run_4_m s_cells1 s_all1 s_tried1 row1 v1 = some r :=
  recM_mono (fun n => pegs_search_run_4_mF_le n _ _ _ _ _) h

noncomputable def pegs_Fewest_J1  (g1 : Int) (g2 : Int) (g3 : List Int) : Option (Int × Int) :=
  (pegs_newSearch_m g1 g2 g3).bind fun r3 => (pegs_search_run_4_m r3.1 r3.2.1 r3.2.2 ([] : List (Int × Int × Int)) 0).bind fun r4 => (pegs_many_m g1 g2 g3 1).bind fun r5 => some ((w64 (r5 - r4.2.2.2)), 0)

noncomputable def pegs_Fewest_m  (g1 : Int) (g2 : Int) (g3 : List Int) : Option (Int × Int) :=
  (rows_May_m g1 g2 g3).bind fun r1 => if (!r1) then (some (0, 12)) else ((pegs_great_m g1 g2 g3).bind fun r2 => if r2 then (some (0, 2)) else ((pegs_Fewest_J1 g1 g2 g3)))

set_option maxRecDepth 100000 in
set_option maxHeartbeats 4000000 in
theorem pegs_Fewest_w  {g1 : Int} {g2 : Int} {A1 : Option Addr} {c1 : Nat} {n1 : Nat} {g3 : List Int} {r : (Int × Int)} {w0 w : World} {B : Nat} {fs : List HP} (hm : pegs_Fewest_m g1 g2 g3 = some r) (hS : Sep w0 B w (fs)) (hr_g3 : RdF w0 B fs A1 (vI g3)) (_hc_g3 : g3.length ≤ c1) (_hn_g3 : n1 = g3.length) :
    Calls Try.prog 27 #[.agg #[.int .i64 g1, .int .i64 g2, .slice A1 n1 c1]] w fun e w' => e = .returned (.tuple #[.int .i64 r.1, .int .i64 r.2]) ∧ Sep w0 B w' (fs) := by
  obtain ⟨i3, hi3, hz3, hs3, hb3⟩ := info_parts Info3
  obtain rfl := _hn_g3
  unfold pegs_Fewest_m at hm
  replace hm := start_b hm
  refine enter (l := [.agg #[.int .i64 g1, .int .i64 g2, .slice A1 g3.length c1]]) (n := 20) Try.func27 rfl rfl (by simp) (fun a hF => ?_)
  refine seqR ?_
  refine at_do (d := 1) (s := vS (Instr.box 24 (.agg #[.int .i64 g1, .int .i64 g2, .slice A1 g3.length c1]))) (v := .pointer (some ⟨w.heap.size, 0, none⟩)) (w' := w.alloc (.cells #[.int .i64 g1, .int .i64 g2, .slice A1 g3.length c1] 24)) hF (by kernel_rfl) (by kernel_rfl) (by kernel_rfl) (fun a hF => ?_)
  have hS : Sep w0 B (w.alloc (.cells #[.int .i64 g1, .int .i64 g2, .slice A1 g3.length c1] 24)) (blk w.heap.size 24 #[.int .i64 g1, .int .i64 g2, .slice A1 g3.length c1] :: (fs)) := hS.box 24 #[.int .i64 g1, .int .i64 g2, .slice A1 g3.length c1]
  generalize w.heap.size = g4 at hF hS
  generalize w.alloc (.cells #[.int .i64 g1, .int .i64 g2, .slice A1 g3.length c1] 24) = w at hS ⊢
  refine at_run 2 [] [] [1] [pl 1 (.pointer (some ⟨g4, 0, none⟩))] hF hS (by kernel_rfl) (by kernel_rfl) ?_ (fun a w hF hS => ?_)
  · exact obs_nil
  refine at_end [1] [pl 1 (.pointer (some ⟨g4, 0, none⟩))] hF rfl (by kernel_rfl) (fun hF => ?_)
  refine then_n ?_
  refine seq_cut (fun a w => Fr 20 [pl 1 (.pointer (some ⟨g4, 0, none⟩))] a ∧ Sep w0 B w (blk g4 24 #[.int .i64 g1, .int .i64 g2, .slice A1 g3.length c1] :: fs) ∧ ((pegs_Fewest_J1 g1 g2 g3)).bind some = some r) ?_ ?_
  · rintro a w ⟨hF, hS, hm⟩
    unfold pegs_Fewest_J1 at hm
    refine seqR ?_
    refine at_do (d := 4) (s := vS (Instr.alloc 3 true (.tuple #[]))) (v := .pointer (some ⟨w.heap.size, 0, none⟩)) (w' := w.alloc (.cells #[.int .i64 0] 3)) hF (by kernel_rfl) (by kernel_rfl) (by kernel_rfl) (fun a hF => ?_)
    have hS : Sep w0 B (w.alloc (.cells #[.int .i64 0] 3)) (blk w.heap.size 3 #[.int .i64 0] :: (blk g4 24 #[.int .i64 g1, .int .i64 g2, .slice A1 g3.length c1] :: fs)) := hS.box 3 #[.int .i64 0]
    generalize w.heap.size = g5 at hF hS
    generalize w.alloc (.cells #[.int .i64 0] 3) = w at hS ⊢
    obtain ⟨w, hrun, hS⟩ := run_put (P := Try.prog) (t := 3) (u := .int .i64 0) (i := 0) (hS.at_ 0 rfl) hi3 hs3 rfl (Nat.lt_of_lt_of_eq (Nat.lt_of_succ_le (Nat.le_of_ble_eq_true (by kernel_rfl))) rfl)
    refine at_skip hF (by kernel_rfl) hrun ?_
    have hS : Sep w0 B w (blk g5 3 #[.int .i64 0] :: blk g4 24 #[.int .i64 g1, .int .i64 g2, .slice A1 g3.length c1] :: fs) := hS
    refine at_end [1, 4] [pl 1 (.pointer (some ⟨g4, 0, none⟩)), pl 4 (.pointer (some ⟨g5, 0, none⟩))] hF rfl (by kernel_rfl) (fun hF => ?_)
    refine then_n ?_
    refine seqR ?_
    obtain ⟨r3, hr3, hm⟩ := call_b hm
    obtain ⟨r4, hr4, hm⟩ := call_b hm
    refine at_run 1 [⟨false, [], vS (Instr.loadAt 24 (.pointer (some ⟨g4, 0, none⟩))), .agg #[.int .i64 g1, .int .i64 g2, .slice A1 g3.length c1]⟩] [some (.agg #[.int .i64 g1, .int .i64 g2, .slice A1 g3.length c1])] [1, 4, 12] [pl 1 (.pointer (some ⟨g4, 0, none⟩)), pl 4 (.pointer (some ⟨g5, 0, none⟩)), pl 12 (.agg #[.int .i64 g1, .int .i64 g2, .slice A1 g3.length c1])] hF hS (by kernel_rfl) (by kernel_rfl) ?_ (fun a w hF hS => ?_)
    · exact obs_cons (ob_loadA (cs := #[.int .i64 g1, .int .i64 g2, .slice A1 g3.length c1]) (by kernel_rfl) (by kernel_rfl) (fun _ _ hS => (hS.at_ 1 rfl).cellsAt 0 (by rfl))) <| obs_nil
    refine at_call (f := 68) (args := #[.agg #[.int .i64 g1, .int .i64 g2, .slice A1 g3.length c1]]) (d := 13) hF (by kernel_rfl) (by kernel_rfl) Try.func68 (by kernel_rfl) rfl (pegs_newSearch_w hr3 hS (fun _ hS => (hr_g3 _ (hS.dropN 2))) _hc_g3 rfl) (fun v a w hR hF => ?_)
    clear hS
    obtain ⟨g6, A2, c2, A3, c3, g7, rfl, hS⟩ := hR
    have hS : Sep w0 B w (blk g6 117 #[.slice A2 r3.1.length c2, .slice A3 r3.2.1.length c3, .map (some g7)] :: own 3 (.slice A2 r3.1.length c2) (vI r3.1) :: ownK 119 3 A3 r3.2.1.length c3 (List.flatMap enc119 r3.2.1) :: mapH kf9 Value.bool g7 r3.2.2 :: blk g5 3 #[.int .i64 0] :: blk g4 24 #[.int .i64 g1, .int .i64 g2, .slice A1 g3.length c1] :: fs) := hS
    refine at_run 1 [] [] [1, 4, 13, 14] [pl 1 (.pointer (some ⟨g4, 0, none⟩)), pl 4 (.pointer (some ⟨g5, 0, none⟩)), pl 13 (.pointer (some ⟨g6, 0, none⟩)), pl 14 (.func (.func 73) #[] #[.pointer (some ⟨g5, 0, none⟩)])] hF hS (by kernel_rfl) (by kernel_rfl) ?_ (fun a w hF hS => ?_)
    · exact obs_nil
    have hS : Sep w0 B w (stk 119 3 (fun m => List.flatMap enc119 m) none 0 0 ([] : List Sk) ([] : List (Int × Int × Int)) :: blk g6 117 #[.slice A2 r3.1.length c2, .slice A3 r3.2.1.length c3, .map (some g7)] :: own 3 (.slice A2 r3.1.length c2) (vI r3.1) :: ownK 119 3 A3 r3.2.1.length c3 (List.flatMap enc119 r3.2.1) :: mapH kf9 Value.bool g7 r3.2.2 :: blk g5 3 #[.int .i64 0] :: blk g4 24 #[.int .i64 g1, .int .i64 g2, .slice A1 g3.length c1] :: fs) := hS.nilSk (EncK.encL encK119) 119
    have hS : Sep w0 B w (blk g6 117 #[.slice A2 r3.1.length c2, .slice A3 r3.2.1.length c3, .map (some g7)] :: own 3 (.slice A2 r3.1.length c2) (vI r3.1) :: ownK 119 3 A3 r3.2.1.length c3 (List.flatMap enc119 r3.2.1) :: mapH kf9 Value.bool g7 r3.2.2 :: stk 119 3 (fun m => List.flatMap enc119 m) none 0 0 ([] : List Sk) ([] : List (Int × Int × Int)) :: blk g5 3 #[.int .i64 0] :: blk g4 24 #[.int .i64 g1, .int .i64 g2, .slice A1 g3.length c1] :: fs) := hS.pickN 7 [1, 2, 3, 4, 0, 5, 6] (by decide)
    refine at_call (f := 70) (args := #[.pointer (some ⟨g6, 0, none⟩), .slice none 0 0, .func (.func 73) #[] #[.pointer (some ⟨g5, 0, none⟩)]]) (d := 15) hF (by kernel_rfl) (by kernel_rfl) Try.func70 (by kernel_rfl) rfl (pegs_search_run_4_w hr4 hS ) (fun v a w hR hF => ?_)
    clear hS
    obtain ⟨rfl, hS⟩ := hR
    have hS : Sep w0 B w (blk g6 117 #[.slice A2 r3.1.length c2, .slice A3 r3.2.1.length c3, .map (some g7)] :: own 3 (.slice A2 r3.1.length c2) (vI r4.2.1) :: ownK 119 3 A3 r3.2.1.length c3 (List.flatMap enc119 r3.2.1) :: mapH kf9 Value.bool g7 r4.2.2.1 :: stk 119 3 (fun m => List.flatMap enc119 m) none 0 0 ([] : List Sk) ([] : List (Int × Int × Int)) :: blk g5 3 #[.int .i64 r4.2.2.2] :: blk g4 24 #[.int .i64 g1, .int .i64 g2, .slice A1 g3.length c1] :: fs) := hS
    refine at_end [1, 4] [pl 1 (.pointer (some ⟨g4, 0, none⟩)), pl 4 (.pointer (some ⟨g5, 0, none⟩))] hF rfl (by kernel_rfl) (fun hF => ?_)
    refine then_n ?_
    obtain ⟨r5, hr5, hm⟩ := call_b hm
    refine reg [⟨false, [], vS (Instr.loadAt 24 (.pointer (some ⟨g4, 0, none⟩))), .agg #[.int .i64 g1, .int .i64 g2, .slice A1 g3.length c1]⟩, ⟨false, [], callFunc 69 #[.agg #[.int .i64 g1, .int .i64 g2, .slice A1 g3.length c1], .int .i64 1], .int .i64 r5⟩, ⟨false, [], vS (Instr.loadAt 3 (.pointer (some ⟨g5, 0, none⟩))), .int .i64 r4.2.2.2⟩] [some (.agg #[.int .i64 g1, .int .i64 g2, .slice A1 g3.length c1]), some (.int .i64 r5), some (.int .i64 r4.2.2.2), none, none, none] [2, 3] [pl 2 (.int .i64 (w64 (r5 - r4.2.2.2))), pl 3 (.int .i64 0)] hF hS Fol (by kernel_rfl) (by kernel_rfl) (by kernel_rfl) ?_ (fun a w hF hS => ?_)
    · exact obs_cons (ob_loadA (cs := #[.int .i64 g1, .int .i64 g2, .slice A1 g3.length c1]) (by kernel_rfl) (by kernel_rfl) (fun _ _ hS => (hS.at_ 6 rfl).cellsAt 0 (by rfl))) <| obs_cons (ob_call Try.func69 (by kernel_rfl) rfl (fun _ _ hS => pegs_many_w hr5 hS (fun _ hS => (hr_g3 _ (hS.dropN 7))) _hc_g3 rfl)) <| obs_cons (ob_load Agg3 (fun _ _ hS => (hS.at_ 5 rfl).cell rfl)) <| obs_nil
    refine wpIn_ret ?_
    have hS := hS.pickN 7 [] (by decide)
    have hm : some ((w64 (r5 - r4.2.2.2)), 0) = some r := hm
    obtain rfl := Option.some.inj hm
    exact retV (rs := [.tmp 2, .tmp 3]) (vs := [.int .i64 (w64 (r5 - r4.2.2.2)), .int .i64 0]) hF rfl (rv_t (by kernel_rfl) <| rv_t (by kernel_rfl) <| rv_nil) rfl ⟨rfl, hS⟩
  · refine wpIn_block ?_
    obtain ⟨r1, hr1, hm⟩ := call_b hm
    refine reg [⟨false, [], vS (Instr.loadAt 24 (.pointer (some ⟨g4, 0, none⟩))), .agg #[.int .i64 g1, .int .i64 g2, .slice A1 g3.length c1]⟩, ⟨false, [], callFunc 38 #[.agg #[.int .i64 g1, .int .i64 g2, .slice A1 g3.length c1]], .bool r1⟩] [some (.agg #[.int .i64 g1, .int .i64 g2, .slice A1 g3.length c1]), some (.bool r1), none, none] [1, 5] [pl 1 (.pointer (some ⟨g4, 0, none⟩)), pl 5 (.bool (!r1))] hF hS Fol (by kernel_rfl) (by kernel_rfl) (by kernel_rfl) ?_ (fun a w hF hS => ?_)
    · exact obs_cons (ob_loadA (cs := #[.int .i64 g1, .int .i64 g2, .slice A1 g3.length c1]) (by kernel_rfl) (by kernel_rfl) (fun _ _ hS => (hS.at_ 0 rfl).cellsAt 0 (by rfl))) <| obs_cons (ob_call Try.func38 (by kernel_rfl) rfl (fun _ _ hS => rows_May_w hr1 hS (fun _ hS => (hr_g3 _ (hS.dropN 1))) _hc_g3 rfl)) <| obs_nil
    refine cond_ev (t := 5) (b := !r1) hF (by kernel_rfl) (fun hb => ?_) (fun hb => ?_)
    · replace hm := if_t hm hb
      refine reg [] [] [2, 3] [pl 2 (.int .i64 0), pl 3 (.int .i64 12)] hF hS Fol (by kernel_rfl) (by kernel_rfl) (by kernel_rfl) ?_ (fun a w hF hS => ?_)
      · exact obs_nil
      refine wpIn_ret ?_
      refine block_r (then_r ?_)
      have hS := hS.pickN 1 [] (by decide)
      have hm : some (0, 12) = some r := hm
      obtain rfl := Option.some.inj hm
      exact retV (rs := [.tmp 2, .tmp 3]) (vs := [.int .i64 0, .int .i64 12]) hF rfl (rv_t (by kernel_rfl) <| rv_t (by kernel_rfl) <| rv_nil) rfl ⟨rfl, hS⟩
    · replace hm := if_f hm hb
      obtain ⟨r2, hr2, hm⟩ := call_b hm
      refine reg [⟨false, [], vS (Instr.loadAt 24 (.pointer (some ⟨g4, 0, none⟩))), .agg #[.int .i64 g1, .int .i64 g2, .slice A1 g3.length c1]⟩, ⟨false, [], callFunc 67 #[.agg #[.int .i64 g1, .int .i64 g2, .slice A1 g3.length c1]], .bool r2⟩] [some (.agg #[.int .i64 g1, .int .i64 g2, .slice A1 g3.length c1]), some (.bool r2), none] [1, 9] [pl 1 (.pointer (some ⟨g4, 0, none⟩)), pl 9 (.bool r2)] hF hS Fol (by kernel_rfl) (by kernel_rfl) (by kernel_rfl) ?_ (fun a w hF hS => ?_)
      · exact obs_cons (ob_loadA (cs := #[.int .i64 g1, .int .i64 g2, .slice A1 g3.length c1]) (by kernel_rfl) (by kernel_rfl) (fun _ _ hS => (hS.at_ 0 rfl).cellsAt 0 (by rfl))) <| obs_cons (ob_call Try.func67 (by kernel_rfl) rfl (fun _ _ hS => pegs_great_w hr2 hS (fun _ hS => (hr_g3 _ (hS.dropN 1))) _hc_g3 rfl)) <| obs_nil
      refine cond_ev (t := 9) (b := r2) hF (by kernel_rfl) (fun hb => ?_) (fun hb => ?_)
      · replace hm := if_t hm hb
        refine reg [] [] [2, 3] [pl 2 (.int .i64 0), pl 3 (.int .i64 2)] hF hS Fol (by kernel_rfl) (by kernel_rfl) (by kernel_rfl) ?_ (fun a w hF hS => ?_)
        · exact obs_nil
        refine wpIn_ret ?_
        refine block_r (then_r ?_)
        have hS := hS.pickN 1 [] (by decide)
        have hm : some (0, 2) = some r := hm
        obtain rfl := Option.some.inj hm
        exact retV (rs := [.tmp 2, .tmp 3]) (vs := [.int .i64 0, .int .i64 2]) hF rfl (rv_t (by kernel_rfl) <| rv_t (by kernel_rfl) <| rv_nil) rfl ⟨rfl, hS⟩
      · replace hm := if_f hm hb
        refine wpIn_skip ?_
        refine block_n ?_
        refine then_n ?_
        exact ⟨hF.weak [1] (by kernel_rfl), hS, hm⟩

noncomputable def gameroomref_within_m  (n1 : Int) (low1 : Int) (high1 : Int) : Option Bool :=
  some ((decide (low1 ≤ n1)) && (decide (n1 ≤ high1)))

set_option maxRecDepth 100000 in
set_option maxHeartbeats 4000000 in
theorem gameroomref_within_w  {n1 : Int} {low1 : Int} {high1 : Int} {r : Bool} {w0 w : World} {B : Nat} {fs : List HP} (hm : gameroomref_within_m n1 low1 high1 = some r) (hS : Sep w0 B w (fs)) :
    Calls Try.prog 43 #[.int .i64 n1, .int .i64 low1, .int .i64 high1] w fun e w' => e = .returned (.bool r) ∧ Sep w0 B w' (fs) := by
  unfold gameroomref_within_m at hm
  replace hm := start_b hm
  refine enter (l := [.int .i64 n1, .int .i64 low1, .int .i64 high1]) (n := 15) Try.func43 rfl rfl (by simp) (fun a hF => ?_)
  refine reg [] [] [0, 1, 2] [pl 0 (.int .i64 n1), pl 1 (.int .i64 low1), pl 2 (.int .i64 high1)] hF hS Fol (by kernel_rfl) (by kernel_rfl) (by kernel_rfl) ?_ (fun a w hF hS => ?_)
  · exact obs_nil
  refine reg [] [] [6] [pl 6 (.bool ((decide (low1 ≤ n1)) && (decide (n1 ≤ high1))))] hF hS Fol (by kernel_rfl) (by kernel_rfl) (by kernel_rfl) ?_ (fun a w hF hS => ?_)
  · exact obs_nil
  refine wpIn_ret ?_
  have hm : some ((decide (low1 ≤ n1)) && (decide (n1 ≤ high1))) = some r := hm
  obtain rfl := Option.some.inj hm
  exact retV (rs := [.tmp 6]) (vs := [.bool ((decide (low1 ≤ n1)) && (decide (n1 ≤ high1)))]) hF rfl (rv_t (by kernel_rfl) <| rv_nil) rfl ⟨rfl, hS⟩

noncomputable def gameroomref_GridMay_J4  (i1 : Int) : Option (St Int (Fl Unit Bool)) :=
  some (.next (w64 (i1 + 1)))

noncomputable def gameroomref_GridMay_J3  (g3 : List Int) (i1 : Int) : Option (St Int (Fl Unit Bool)) :=
  asrt (0 ≤ i1 ∧ i1 < (g3.length : Int)) <| (gameroomref_within_m (geti g3 i1) 0 2).bind fun r3 => if (!r3) then (some (.done (.ret false))) else ((gameroomref_GridMay_J4 i1))

noncomputable def gameroomref_GridMay_J2  : Option Bool :=
  some true

noncomputable def gameroomref_GridMay_K1  : (Fl Unit Bool) → Option Bool :=
  fun (x : (Fl Unit Bool)) => match x with | .go _ => gameroomref_GridMay_J2 | .ret x => some x

noncomputable def gameroomref_GridMay_L1  (g3 : List Int) : Int → Option (St Int (Fl Unit Bool)) :=
  fun (x : Int) => match x with | i1 => if (decide (i1 < (g3.length : Int))) then ((gameroomref_GridMay_J3 g3 i1)) else (some (.done (.go ())))

noncomputable def gameroomref_GridMay_J1  (g3 : List Int) : Option Bool :=
  (loop (gameroomref_GridMay_L1 g3) 0).bind gameroomref_GridMay_K1

noncomputable def gameroomref_GridMay_m  (g1 : Int) (g2 : Int) (g3 : List Int) : Option Bool :=
  (gameroomref_within_m g1 1 10).bind fun r1 => ((if (!(!r1)) then gameroomref_within_m g2 1 10 else some false)).bind fun r2 => if (((!r1) || (!r2)) || ((g3.length : Int) != (w64 (g1 * g2)))) then (some false) else ((gameroomref_GridMay_J1 g3))

set_option maxRecDepth 100000 in
set_option maxHeartbeats 4000000 in
theorem gameroomref_GridMay_w  {g1 : Int} {g2 : Int} {A1 : Option Addr} {c1 : Nat} {n1 : Nat} {g3 : List Int} {r : Bool} {w0 w : World} {B : Nat} {fs : List HP} (hm : gameroomref_GridMay_m g1 g2 g3 = some r) (hS : Sep w0 B w (fs)) (hr_g3 : RdF w0 B fs A1 (vI g3)) (_hc_g3 : g3.length ≤ c1) (_hn_g3 : n1 = g3.length) :
    Calls Try.prog 11 #[.agg #[.int .i64 g1, .int .i64 g2, .slice A1 n1 c1]] w fun e w' => e = .returned (.bool r) ∧ Sep w0 B w' (fs) := by
  obtain ⟨i3, hi3, hz3, hs3, hb3⟩ := info_parts Info3
  obtain rfl := _hn_g3
  unfold gameroomref_GridMay_m at hm
  replace hm := start_b hm
  refine enter (l := [.agg #[.int .i64 g1, .int .i64 g2, .slice A1 g3.length c1]]) (n := 39) Try.func11 rfl rfl (by simp) (fun a hF => ?_)
  refine seqR ?_
  refine at_do (d := 1) (s := vS (Instr.box 24 (.agg #[.int .i64 g1, .int .i64 g2, .slice A1 g3.length c1]))) (v := .pointer (some ⟨w.heap.size, 0, none⟩)) (w' := w.alloc (.cells #[.int .i64 g1, .int .i64 g2, .slice A1 g3.length c1] 24)) hF (by kernel_rfl) (by kernel_rfl) (by kernel_rfl) (fun a hF => ?_)
  have hS : Sep w0 B (w.alloc (.cells #[.int .i64 g1, .int .i64 g2, .slice A1 g3.length c1] 24)) (blk w.heap.size 24 #[.int .i64 g1, .int .i64 g2, .slice A1 g3.length c1] :: (fs)) := hS.box 24 #[.int .i64 g1, .int .i64 g2, .slice A1 g3.length c1]
  generalize w.heap.size = g4 at hF hS
  generalize w.alloc (.cells #[.int .i64 g1, .int .i64 g2, .slice A1 g3.length c1] 24) = w at hS ⊢
  refine at_run 1 [] [] [1] [pl 1 (.pointer (some ⟨g4, 0, none⟩))] hF hS (by kernel_rfl) (by kernel_rfl) ?_ (fun a w hF hS => ?_)
  · exact obs_nil
  refine at_end [1] [pl 1 (.pointer (some ⟨g4, 0, none⟩))] hF rfl (by kernel_rfl) (fun hF => ?_)
  refine then_n ?_
  refine seq_cut (fun a w => Fr 39 [pl 1 (.pointer (some ⟨g4, 0, none⟩))] a ∧ Sep w0 B w (blk g4 24 #[.int .i64 g1, .int .i64 g2, .slice A1 g3.length c1] :: fs) ∧ ((gameroomref_GridMay_J1 g3)).bind some = some r) ?_ ?_
  · rintro a w ⟨hF, hS, hm⟩
    unfold gameroomref_GridMay_J1 at hm
    refine seq_cut (fun a w => Fr 39 [] a ∧ Sep w0 B w (fs) ∧ (gameroomref_GridMay_J2).bind some = some r) ?_ ?_
    · rintro a w ⟨hF, hS, hm⟩
      unfold gameroomref_GridMay_J2 at hm
      refine reg [] [] [2] [pl 2 (.bool true)] hF hS Fol (by kernel_rfl) (by kernel_rfl) (by kernel_rfl) ?_ (fun a w hF hS => ?_)
      · exact obs_nil
      refine wpIn_ret ?_
      have hm : some true = some r := hm
      obtain rfl := Option.some.inj hm
      exact retV (rs := [.tmp 2]) (vs := [.bool true]) hF rfl (rv_t (by kernel_rfl) <| rv_nil) rfl ⟨rfl, hS⟩
    · refine reg [] [] [1, 3] [pl 1 (.pointer (some ⟨g4, 0, none⟩)), pl 3 (.int .i64 0)] hF hS Fol (by kernel_rfl) (by kernel_rfl) (by kernel_rfl) ?_ (fun a w hF hS => ?_)
      · exact obs_nil
      refine wpIn_block ?_
      refine wp_loop_model (S := Int) (R := (Fl Unit Bool)) (gameroomref_GridMay_L1 g3) (fun x => (gameroomref_GridMay_K1 x).bind some) r (fun (x : Int) a w => Fr 39 [pl 1 (.pointer (some ⟨g4, 0, none⟩)), pl 3 (.int .i64 x)] a ∧ Sep w0 B w (blk g4 24 #[.int .i64 g1, .int .i64 g2, .slice A1 g3.length c1] :: fs)) (assoc_b hm) ⟨hF.weak [1, 3] (by kernel_rfl), hS⟩ ?_
      clear hF hS hm
      rintro nn1 i1 a w ⟨hF, hS⟩ hm
      generalize hφ1 : stK (gameroomref_GridMay_L1 g3) nn1 (fun x => (gameroomref_GridMay_K1 x).bind some) = φ1 at hm
      unfold gameroomref_GridMay_L1 at hm
      dsimp only at hm
      refine seq_cut (fun a w => Fr 39 [pl 1 (.pointer (some ⟨g4, 0, none⟩)), pl 3 (.int .i64 i1)] a ∧ Sep w0 B w (blk g4 24 #[.int .i64 g1, .int .i64 g2, .slice A1 g3.length c1] :: fs) ∧ ((gameroomref_GridMay_J3 g3 i1)).bind φ1 = some r) ?_ ?_
      · rintro a w ⟨hF, hS, hm⟩
        unfold gameroomref_GridMay_J3 at hm
        refine seq_cut (fun a w => Fr 39 [pl 1 (.pointer (some ⟨g4, 0, none⟩)), pl 3 (.int .i64 i1)] a ∧ Sep w0 B w (blk g4 24 #[.int .i64 g1, .int .i64 g2, .slice A1 g3.length c1] :: fs) ∧ ((gameroomref_GridMay_J4 i1)).bind φ1 = some r) ?_ ?_
        · rintro a w ⟨hF, hS, hm⟩
          unfold gameroomref_GridMay_J4 at hm
          refine reg1 [] [] [1, 3] [pl 1 (.pointer (some ⟨g4, 0, none⟩)), pl 3 (.int .i64 (w64 (i1 + 1)))] hF hS Fol (by kernel_rfl) (by kernel_rfl) (by kernel_rfl) ?_ (fun a w hF hS => ?_)
          · exact obs_nil
          refine then_n ?_
          rw [← hφ1] at hm
          exact ⟨(w64 (i1 + 1)), ⟨hF.weak [1, 3] (by kernel_rfl), hS⟩, hm⟩
        · refine wpIn_block ?_
          obtain ⟨hp1, hm⟩ := asrt_b hm
          obtain ⟨r3, hr3, hm⟩ := call_b hm
          refine reg [⟨false, [], vS (Instr.loadAt 22 (.pointer (some ⟨g4, 2, none⟩))), .slice A1 g3.length c1⟩, ⟨true, [], vS (Instr.indexAt 22 (.slice A1 g3.length c1) (.int .i64 i1)), .pointer (some (sAddr A1 i1))⟩, ⟨false, [], vS (Instr.loadAt 3 (.pointer (some (sAddr A1 i1)))), .int .i64 (geti g3 i1)⟩, ⟨false, [], callFunc 43 #[.int .i64 (geti g3 i1), .int .i64 0, .int .i64 2], .bool r3⟩] [none, some (.slice A1 g3.length c1), none, some (.pointer (some (sAddr A1 i1))), some (.int .i64 (geti g3 i1)), some (.bool r3), none] [1, 3, 38] [pl 1 (.pointer (some ⟨g4, 0, none⟩)), pl 3 (.int .i64 i1), pl 38 (.bool (!r3))] hF hS Fol (by kernel_rfl) (by kernel_rfl) (by kernel_rfl) ?_ (fun a w hF hS => ?_)
          · exact obs_cons (ob_load Agg22 (fun _ _ hS => (hS.at_ 0 rfl).cell rfl)) <| obs_cons (ob_ix1 (f := (Value.int .i64)) (m := g3) Und22 hi3 hs3 (hr_g3 _ (hS.dropN 1)) rfl (fun _ => hp1)) <| obs_cons (ob_get1 (n := g3.length) (m := g3) (Value.int .i64) (0 : Int) Agg3 (fun _ hS => ⟨_, (hr_g3 _ (hS.dropN 1))⟩) (fun _ hS => rfl) (fun _ => hp1)) <| obs_cons (ob_call Try.func43 (by kernel_rfl) rfl (fun _ _ hS => gameroomref_within_w hr3 hS )) <| obs_nil
          refine cond_ev (t := 38) (b := !r3) hF (by kernel_rfl) (fun hb => ?_) (fun hb => ?_)
          · replace hm := if_t hm hb
            refine reg [] [] [2] [pl 2 (.bool false)] hF hS Fol (by kernel_rfl) (by kernel_rfl) (by kernel_rfl) ?_ (fun a w hF hS => ?_)
            · exact obs_nil
            refine wpIn_ret ?_
            refine block_r (then_r (then_r (block_r (then_r ?_))))
            rw [← hφ1] at hm
            replace hm := done_b hm
            unfold gameroomref_GridMay_K1 at hm
            try dsimp only at hm
            have hS := hS.pickN 1 [] (by decide)
            have hm : some false = some r := hm
            obtain rfl := Option.some.inj hm
            exact retV (rs := [.tmp 2]) (vs := [.bool false]) hF rfl (rv_t (by kernel_rfl) <| rv_nil) rfl ⟨rfl, hS⟩
          · replace hm := if_f hm hb
            refine wpIn_skip ?_
            refine block_n ?_
            refine then_n ?_
            exact ⟨hF.weak [1, 3] (by kernel_rfl), hS, hm⟩
      · refine reg [⟨false, [], vS (Instr.loadAt 22 (.pointer (some ⟨g4, 2, none⟩))), .slice A1 g3.length c1⟩] [none, none, some (.slice A1 g3.length c1), none, none] [1, 3, 29] [pl 1 (.pointer (some ⟨g4, 0, none⟩)), pl 3 (.int .i64 i1), pl 29 (.bool (decide (i1 < (g3.length : Int))))] hF hS Fol (by kernel_rfl) (by kernel_rfl) (by kernel_rfl) ?_ (fun a w hF hS => ?_)
        · exact obs_cons (ob_load Agg22 (fun _ _ hS => (hS.at_ 0 rfl).cell rfl)) <| obs_nil
        refine cond_ev (t := 29) (b := decide (i1 < (g3.length : Int))) hF (by kernel_rfl) (fun hb => ?_) (fun hb => ?_)
        · replace hm := if_t hm hb
          refine wpIn_skip ?_
          refine then_n ?_
          exact ⟨hF.weak [1, 3] (by kernel_rfl), hS, hm⟩
        · replace hm := if_f hm hb
          refine wpIn_exit ?_
          refine then_e (then_e (block_e (then_n ?_)))
          have hS := hS.pickN 1 [] (by decide)
          rw [← hφ1] at hm
          replace hm := done_b hm
          unfold gameroomref_GridMay_K1 at hm
          try dsimp only at hm
          have hm : (gameroomref_GridMay_J2).bind some = some r := hm
          exact ⟨hF.weak [] (by kernel_rfl), hS, hm⟩
  · obtain ⟨r1, hr1, hm⟩ := call_b hm
    obtain ⟨r2, hr2, hm⟩ := call_b hm
    refine reg [⟨false, [], vS (Instr.loadAt 3 (.pointer (some ⟨g4, 0, none⟩))), .int .i64 g1⟩, ⟨false, [], callFunc 43 #[.int .i64 g1, .int .i64 1, .int .i64 10], .bool r1⟩, ⟨false, [(!r1, false)], vS (Instr.loadAt 3 (.pointer (some ⟨g4, 1, none⟩))), .int .i64 g2⟩, ⟨false, [(!r1, false)], callFunc 43 #[.int .i64 g2, .int .i64 1, .int .i64 10], .bool r2⟩, ⟨false, [((!r1) || (!r2), false)], vS (Instr.loadAt 22 (.pointer (some ⟨g4, 2, none⟩))), .slice A1 g3.length c1⟩, ⟨false, [((!r1) || (!r2), false)], vS (Instr.loadAt 3 (.pointer (some ⟨g4, 0, none⟩))), .int .i64 g1⟩, ⟨false, [((!r1) || (!r2), false)], vS (Instr.loadAt 3 (.pointer (some ⟨g4, 1, none⟩))), .int .i64 g2⟩] [none, some (.int .i64 g1), some (.bool r1), none, none, none, some (.int .i64 g2), some (.bool r2), none, none, none, none, some (.slice A1 g3.length c1), none, none, some (.int .i64 g1), none, some (.int .i64 g2), none, none, none] [1, 24] [pl 1 (.pointer (some ⟨g4, 0, none⟩)), pl 24 (.bool (((!r1) || (!r2)) || ((g3.length : Int) != (w64 (g1 * g2)))))] hF hS Fol (by kernel_rfl) (by kernel_rfl) (by kernel_rfl) ?_ (fun a w hF hS => ?_)
    · exact obs_cons (ob_load Agg3 (fun _ _ hS => (hS.at_ 0 rfl).cell rfl)) <| obs_cons (ob_call Try.func43 (by kernel_rfl) rfl (fun _ _ hS => gameroomref_within_w hr1 hS )) <| obs_cons (ob_load Agg3 (fun _ _ hS => (hS.at_ 0 rfl).cell rfl)) <| obs_cons (ob_call Try.func43 (by kernel_rfl) rfl (fun hy _ hS => gameroomref_within_w (ite_some hr2 (by rw [show (!r1) = false from hy (!r1, false) (by simp)]; try rfl)) hS )) <| obs_cons (ob_load Agg22 (fun _ _ hS => (hS.at_ 0 rfl).cell rfl)) <| obs_cons (ob_load Agg3 (fun _ _ hS => (hS.at_ 0 rfl).cell rfl)) <| obs_cons (ob_load Agg3 (fun _ _ hS => (hS.at_ 0 rfl).cell rfl)) <| obs_nil
    refine cond_ev (t := 24) (b := ((!r1) || (!r2)) || ((g3.length : Int) != (w64 (g1 * g2)))) hF (by kernel_rfl) (fun hb => ?_) (fun hb => ?_)
    · replace hm := if_t hm hb
      refine reg [] [] [2] [pl 2 (.bool false)] hF hS Fol (by kernel_rfl) (by kernel_rfl) (by kernel_rfl) ?_ (fun a w hF hS => ?_)
      · exact obs_nil
      refine wpIn_ret ?_
      refine then_r ?_
      have hS := hS.pickN 1 [] (by decide)
      have hm : some false = some r := hm
      obtain rfl := Option.some.inj hm
      exact retV (rs := [.tmp 2]) (vs := [.bool false]) hF rfl (rv_t (by kernel_rfl) <| rv_nil) rfl ⟨rfl, hS⟩
    · replace hm := if_f hm hb
      refine wpIn_skip ?_
      refine then_n ?_
      exact ⟨hF.weak [1] (by kernel_rfl), hS, hm⟩

noncomputable def gameroomref_CountSign_J3  (i1 : Int) (n4 : Int) : Option (St (Int × Int) Int) :=
  some (.next (n4, (w64 (i1 + 1))))

noncomputable def gameroomref_CountSign_J2  (g3 : List Int) (c2 : Int) (n2 : Int) (i1 : Int) : Option (St (Int × Int) Int) :=
  asrt (0 ≤ i1 ∧ i1 < (g3.length : Int)) <| if ((geti g3 i1) == c2) then ((gameroomref_CountSign_J3 i1) (w64 (n2 + 1))) else ((gameroomref_CountSign_J3 i1) n2)

noncomputable def gameroomref_CountSign_J1  (n3 : Int) : Option Int :=
  some n3

noncomputable def gameroomref_CountSign_K1  : Int → Option Int :=
  fun (x : Int) => match x with | n3 => gameroomref_CountSign_J1 n3

noncomputable def gameroomref_CountSign_L1  (g3 : List Int) (c2 : Int) : (Int × Int) → Option (St (Int × Int) Int) :=
  fun (x : (Int × Int)) => match x with | (n2, i1) => if (decide (i1 < (g3.length : Int))) then ((gameroomref_CountSign_J2 g3 c2 n2 i1)) else (some (.done n2))

noncomputable def gameroomref_CountSign_m  (g1 : Int) (g2 : Int) (g3 : List Int) (c2 : Int) : Option Int :=
  (loop (gameroomref_CountSign_L1 g3 c2) (0, 0)).bind gameroomref_CountSign_K1

set_option maxRecDepth 100000 in
set_option maxHeartbeats 4000000 in
theorem gameroomref_CountSign_w  {g1 : Int} {g2 : Int} {A1 : Option Addr} {c1 : Nat} {n1 : Nat} {g3 : List Int} {c2 : Int} {r : Int} {w0 w : World} {B : Nat} {fs : List HP} (hm : gameroomref_CountSign_m g1 g2 g3 c2 = some r) (hS : Sep w0 B w (fs)) (hr_g3 : RdF w0 B fs A1 (vI g3)) (_hc_g3 : g3.length ≤ c1) (_hn_g3 : n1 = g3.length) :
    Calls Try.prog 32 #[.agg #[.int .i64 g1, .int .i64 g2, .slice A1 n1 c1], .int .i64 c2] w fun e w' => e = .returned (.int .i64 r) ∧ Sep w0 B w' (fs) := by
  obtain ⟨i3, hi3, hz3, hs3, hb3⟩ := info_parts Info3
  obtain rfl := _hn_g3
  unfold gameroomref_CountSign_m at hm
  replace hm := start_b hm
  refine enter (l := [.agg #[.int .i64 g1, .int .i64 g2, .slice A1 g3.length c1], .int .i64 c2]) (n := 24) Try.func32 rfl rfl (by simp) (fun a hF => ?_)
  refine seqR ?_
  refine at_do (d := 2) (s := vS (Instr.box 24 (.agg #[.int .i64 g1, .int .i64 g2, .slice A1 g3.length c1]))) (v := .pointer (some ⟨w.heap.size, 0, none⟩)) (w' := w.alloc (.cells #[.int .i64 g1, .int .i64 g2, .slice A1 g3.length c1] 24)) hF (by kernel_rfl) (by kernel_rfl) (by kernel_rfl) (fun a hF => ?_)
  have hS : Sep w0 B (w.alloc (.cells #[.int .i64 g1, .int .i64 g2, .slice A1 g3.length c1] 24)) (blk w.heap.size 24 #[.int .i64 g1, .int .i64 g2, .slice A1 g3.length c1] :: (fs)) := hS.box 24 #[.int .i64 g1, .int .i64 g2, .slice A1 g3.length c1]
  generalize w.heap.size = g4 at hF hS
  generalize w.alloc (.cells #[.int .i64 g1, .int .i64 g2, .slice A1 g3.length c1] 24) = w at hS ⊢
  refine at_run 1 [] [] [1, 2] [pl 1 (.int .i64 c2), pl 2 (.pointer (some ⟨g4, 0, none⟩))] hF hS (by kernel_rfl) (by kernel_rfl) ?_ (fun a w hF hS => ?_)
  · exact obs_nil
  refine at_end [1, 2] [pl 1 (.int .i64 c2), pl 2 (.pointer (some ⟨g4, 0, none⟩))] hF rfl (by kernel_rfl) (fun hF => ?_)
  refine then_n ?_
  refine reg [] [] [1, 2, 5] [pl 1 (.int .i64 c2), pl 2 (.pointer (some ⟨g4, 0, none⟩)), pl 5 (.int .i64 0)] hF hS Fol (by kernel_rfl) (by kernel_rfl) (by kernel_rfl) ?_ (fun a w hF hS => ?_)
  · exact obs_nil
  refine seq_cut (fun a w => ∃ (n3 : Int), Fr 24 [pl 5 (.int .i64 n3)] a ∧ Sep w0 B w (fs) ∧ (gameroomref_CountSign_J1 n3).bind some = some r) ?_ ?_
  · rintro a w ⟨n3, hF, hS, hm⟩
    unfold gameroomref_CountSign_J1 at hm
    refine reg [] [] [4] [pl 4 (.int .i64 n3)] hF hS Fol (by kernel_rfl) (by kernel_rfl) (by kernel_rfl) ?_ (fun a w hF hS => ?_)
    · exact obs_nil
    refine wpIn_ret ?_
    have hm : some n3 = some r := hm
    obtain rfl := Option.some.inj hm
    exact retV (rs := [.tmp 4]) (vs := [.int .i64 n3]) hF rfl (rv_t (by kernel_rfl) <| rv_nil) rfl ⟨rfl, hS⟩
  · refine reg [] [] [1, 2, 5, 6] [pl 1 (.int .i64 c2), pl 2 (.pointer (some ⟨g4, 0, none⟩)), pl 5 (.int .i64 0), pl 6 (.int .i64 0)] hF hS Fol (by kernel_rfl) (by kernel_rfl) (by kernel_rfl) ?_ (fun a w hF hS => ?_)
    · exact obs_nil
    refine wpIn_block ?_
    refine wp_loop_model (S := (Int × Int)) (R := Int) (gameroomref_CountSign_L1 g3 c2) (fun x => (gameroomref_CountSign_K1 x).bind some) r (fun (x : (Int × Int)) a w => Fr 24 [pl 1 (.int .i64 c2), pl 2 (.pointer (some ⟨g4, 0, none⟩)), pl 5 (.int .i64 x.1), pl 6 (.int .i64 x.2)] a ∧ Sep w0 B w (blk g4 24 #[.int .i64 g1, .int .i64 g2, .slice A1 g3.length c1] :: fs)) (assoc_b hm) ⟨hF.weak [1, 2, 5, 6] (by kernel_rfl), hS⟩ ?_
    clear hF hS hm
    rintro nn1 ⟨n2, i1⟩ a w ⟨hF, hS⟩ hm
    generalize hφ1 : stK (gameroomref_CountSign_L1 g3 c2) nn1 (fun x => (gameroomref_CountSign_K1 x).bind some) = φ1 at hm
    unfold gameroomref_CountSign_L1 at hm
    dsimp only at hF hS hm
    refine seq_cut (fun a w => Fr 24 [pl 1 (.int .i64 c2), pl 2 (.pointer (some ⟨g4, 0, none⟩)), pl 5 (.int .i64 n2), pl 6 (.int .i64 i1)] a ∧ Sep w0 B w (blk g4 24 #[.int .i64 g1, .int .i64 g2, .slice A1 g3.length c1] :: fs) ∧ ((gameroomref_CountSign_J2 g3 c2 n2 i1)).bind φ1 = some r) ?_ ?_
    · rintro a w ⟨hF, hS, hm⟩
      unfold gameroomref_CountSign_J2 at hm
      refine seq_cut (fun a w => ∃ (n4 : Int), Fr 24 [pl 1 (.int .i64 c2), pl 2 (.pointer (some ⟨g4, 0, none⟩)), pl 5 (.int .i64 n4), pl 6 (.int .i64 i1)] a ∧ Sep w0 B w (blk g4 24 #[.int .i64 g1, .int .i64 g2, .slice A1 g3.length c1] :: fs) ∧ ((gameroomref_CountSign_J3 i1) n4).bind φ1 = some r) ?_ ?_
      · rintro a w ⟨n4, hF, hS, hm⟩
        unfold gameroomref_CountSign_J3 at hm
        refine reg1 [] [] [1, 2, 5, 6] [pl 1 (.int .i64 c2), pl 2 (.pointer (some ⟨g4, 0, none⟩)), pl 5 (.int .i64 n4), pl 6 (.int .i64 (w64 (i1 + 1)))] hF hS Fol (by kernel_rfl) (by kernel_rfl) (by kernel_rfl) ?_ (fun a w hF hS => ?_)
        · exact obs_nil
        refine then_n ?_
        rw [← hφ1] at hm
        exact ⟨(n4, (w64 (i1 + 1))), ⟨hF.weak [1, 2, 5, 6] (by kernel_rfl), hS⟩, hm⟩
      · refine wpIn_block ?_
        obtain ⟨hp1, hm⟩ := asrt_b hm
        refine reg [⟨false, [], vS (Instr.loadAt 22 (.pointer (some ⟨g4, 2, none⟩))), .slice A1 g3.length c1⟩, ⟨true, [], vS (Instr.indexAt 22 (.slice A1 g3.length c1) (.int .i64 i1)), .pointer (some (sAddr A1 i1))⟩, ⟨false, [], vS (Instr.loadAt 3 (.pointer (some (sAddr A1 i1)))), .int .i64 (geti g3 i1)⟩] [none, some (.slice A1 g3.length c1), none, some (.pointer (some (sAddr A1 i1))), some (.int .i64 (geti g3 i1)), none, none] [1, 2, 5, 6, 20] [pl 1 (.int .i64 c2), pl 2 (.pointer (some ⟨g4, 0, none⟩)), pl 5 (.int .i64 n2), pl 6 (.int .i64 i1), pl 20 (.bool ((geti g3 i1) == c2))] hF hS Fol (by kernel_rfl) (by kernel_rfl) (by kernel_rfl) ?_ (fun a w hF hS => ?_)
        · exact obs_cons (ob_load Agg22 (fun _ _ hS => (hS.at_ 0 rfl).cell rfl)) <| obs_cons (ob_ix1 (f := (Value.int .i64)) (m := g3) Und22 hi3 hs3 (hr_g3 _ (hS.dropN 1)) rfl (fun _ => hp1)) <| obs_cons (ob_get1 (n := g3.length) (m := g3) (Value.int .i64) (0 : Int) Agg3 (fun _ hS => ⟨_, (hr_g3 _ (hS.dropN 1))⟩) (fun _ hS => rfl) (fun _ => hp1)) <| obs_nil
        refine cond_ev (t := 20) (b := ((geti g3 i1) == c2)) hF (by kernel_rfl) (fun hb => ?_) (fun hb => ?_)
        · replace hm := if_t hm hb
          refine reg1 [] [] [1, 2, 5, 6] [pl 1 (.int .i64 c2), pl 2 (.pointer (some ⟨g4, 0, none⟩)), pl 5 (.int .i64 (w64 (n2 + 1))), pl 6 (.int .i64 i1)] hF hS Fol (by kernel_rfl) (by kernel_rfl) (by kernel_rfl) ?_ (fun a w hF hS => ?_)
          · exact obs_nil
          refine block_n ?_
          refine then_n ?_
          exact ⟨(w64 (n2 + 1)), hF.weak [1, 2, 5, 6] (by kernel_rfl), hS, hm⟩
        · replace hm := if_f hm hb
          refine wpIn_skip ?_
          refine block_n ?_
          refine then_n ?_
          exact ⟨n2, hF.weak [1, 2, 5, 6] (by kernel_rfl), hS, hm⟩
    · refine reg [⟨false, [], vS (Instr.loadAt 22 (.pointer (some ⟨g4, 2, none⟩))), .slice A1 g3.length c1⟩] [none, none, some (.slice A1 g3.length c1), none, none] [1, 2, 5, 6, 11] [pl 1 (.int .i64 c2), pl 2 (.pointer (some ⟨g4, 0, none⟩)), pl 5 (.int .i64 n2), pl 6 (.int .i64 i1), pl 11 (.bool (decide (i1 < (g3.length : Int))))] hF hS Fol (by kernel_rfl) (by kernel_rfl) (by kernel_rfl) ?_ (fun a w hF hS => ?_)
      · exact obs_cons (ob_load Agg22 (fun _ _ hS => (hS.at_ 0 rfl).cell rfl)) <| obs_nil
      refine cond_ev (t := 11) (b := decide (i1 < (g3.length : Int))) hF (by kernel_rfl) (fun hb => ?_) (fun hb => ?_)
      · replace hm := if_t hm hb
        refine wpIn_skip ?_
        refine then_n ?_
        exact ⟨hF.weak [1, 2, 5, 6] (by kernel_rfl), hS, hm⟩
      · replace hm := if_f hm hb
        refine wpIn_exit ?_
        refine then_e (then_e (block_e (then_n ?_)))
        have hS := hS.pickN 1 [] (by decide)
        rw [← hφ1] at hm
        replace hm := done_b hm
        unfold gameroomref_CountSign_K1 at hm
        try dsimp only at hm
        have hm : (gameroomref_CountSign_J1 n2).bind some = some r := hm
        exact ⟨n2, hF.weak [5] (by kernel_rfl), hS, hm⟩

noncomputable def gameroomref_PegsMay_m  (g1 : Int) (g2 : Int) (g3 : List Int) : Option Bool :=
  (gameroomref_CountSign_m g1 g2 g3 1).bind fun r1 => ((if (decide (r1 ≤ 7)) then gameroomref_CountSign_m g1 g2 g3 1 else some 0)).bind fun r2 => ((if (decide (r1 ≤ 7)) then gameroomref_CountSign_m g1 g2 g3 0 else some 0)).bind fun r3 => some ((decide (r1 ≤ 7)) && (decide ((w64 (r2 + r3)) ≤ 20)))

set_option maxRecDepth 100000 in
set_option maxHeartbeats 4000000 in
theorem gameroomref_PegsMay_w  {g1 : Int} {g2 : Int} {A1 : Option Addr} {c1 : Nat} {n1 : Nat} {g3 : List Int} {r : Bool} {w0 w : World} {B : Nat} {fs : List HP} (hm : gameroomref_PegsMay_m g1 g2 g3 = some r) (hS : Sep w0 B w (fs)) (hr_g3 : RdF w0 B fs A1 (vI g3)) (_hc_g3 : g3.length ≤ c1) (_hn_g3 : n1 = g3.length) :
    Calls Try.prog 28 #[.agg #[.int .i64 g1, .int .i64 g2, .slice A1 n1 c1]] w fun e w' => e = .returned (.bool r) ∧ Sep w0 B w' (fs) := by
  obtain ⟨i3, hi3, hz3, hs3, hb3⟩ := info_parts Info3
  obtain rfl := _hn_g3
  unfold gameroomref_PegsMay_m at hm
  replace hm := start_b hm
  refine enter (l := [.agg #[.int .i64 g1, .int .i64 g2, .slice A1 g3.length c1]]) (n := 14) Try.func28 rfl rfl (by simp) (fun a hF => ?_)
  refine seqR ?_
  refine at_do (d := 1) (s := vS (Instr.box 24 (.agg #[.int .i64 g1, .int .i64 g2, .slice A1 g3.length c1]))) (v := .pointer (some ⟨w.heap.size, 0, none⟩)) (w' := w.alloc (.cells #[.int .i64 g1, .int .i64 g2, .slice A1 g3.length c1] 24)) hF (by kernel_rfl) (by kernel_rfl) (by kernel_rfl) (fun a hF => ?_)
  have hS : Sep w0 B (w.alloc (.cells #[.int .i64 g1, .int .i64 g2, .slice A1 g3.length c1] 24)) (blk w.heap.size 24 #[.int .i64 g1, .int .i64 g2, .slice A1 g3.length c1] :: (fs)) := hS.box 24 #[.int .i64 g1, .int .i64 g2, .slice A1 g3.length c1]
  generalize w.heap.size = g4 at hF hS
  generalize w.alloc (.cells #[.int .i64 g1, .int .i64 g2, .slice A1 g3.length c1] 24) = w at hS ⊢
  refine at_run 1 [] [] [1] [pl 1 (.pointer (some ⟨g4, 0, none⟩))] hF hS (by kernel_rfl) (by kernel_rfl) ?_ (fun a w hF hS => ?_)
  · exact obs_nil
  refine at_end [1] [pl 1 (.pointer (some ⟨g4, 0, none⟩))] hF rfl (by kernel_rfl) (fun hF => ?_)
  refine then_n ?_
  obtain ⟨r1, hr1, hm⟩ := call_b hm
  obtain ⟨r2, hr2, hm⟩ := call_b hm
  obtain ⟨r3, hr3, hm⟩ := call_b hm
  refine reg [⟨false, [], vS (Instr.loadAt 24 (.pointer (some ⟨g4, 0, none⟩))), .agg #[.int .i64 g1, .int .i64 g2, .slice A1 g3.length c1]⟩, ⟨false, [], callFunc 32 #[.agg #[.int .i64 g1, .int .i64 g2, .slice A1 g3.length c1], .int .i64 1], .int .i64 r1⟩, ⟨false, [(decide (r1 ≤ 7), true)], vS (Instr.loadAt 24 (.pointer (some ⟨g4, 0, none⟩))), .agg #[.int .i64 g1, .int .i64 g2, .slice A1 g3.length c1]⟩, ⟨false, [(decide (r1 ≤ 7), true)], callFunc 32 #[.agg #[.int .i64 g1, .int .i64 g2, .slice A1 g3.length c1], .int .i64 1], .int .i64 r2⟩, ⟨false, [(decide (r1 ≤ 7), true)], vS (Instr.loadAt 24 (.pointer (some ⟨g4, 0, none⟩))), .agg #[.int .i64 g1, .int .i64 g2, .slice A1 g3.length c1]⟩, ⟨false, [(decide (r1 ≤ 7), true)], callFunc 32 #[.agg #[.int .i64 g1, .int .i64 g2, .slice A1 g3.length c1], .int .i64 0], .int .i64 r3⟩] [some (.agg #[.int .i64 g1, .int .i64 g2, .slice A1 g3.length c1]), some (.int .i64 r1), none, none, some (.agg #[.int .i64 g1, .int .i64 g2, .slice A1 g3.length c1]), some (.int .i64 r2), some (.agg #[.int .i64 g1, .int .i64 g2, .slice A1 g3.length c1]), some (.int .i64 r3), none, none, none, none] [2] [pl 2 (.bool ((decide (r1 ≤ 7)) && (decide ((w64 (r2 + r3)) ≤ 20))))] hF hS Fol (by kernel_rfl) (by kernel_rfl) (by kernel_rfl) ?_ (fun a w hF hS => ?_)
  · exact obs_cons (ob_loadA (cs := #[.int .i64 g1, .int .i64 g2, .slice A1 g3.length c1]) (by kernel_rfl) (by kernel_rfl) (fun _ _ hS => (hS.at_ 0 rfl).cellsAt 0 (by rfl))) <| obs_cons (ob_call Try.func32 (by kernel_rfl) rfl (fun _ _ hS => gameroomref_CountSign_w hr1 hS (fun _ hS => (hr_g3 _ (hS.dropN 1))) _hc_g3 rfl)) <| obs_cons (ob_loadA (cs := #[.int .i64 g1, .int .i64 g2, .slice A1 g3.length c1]) (by kernel_rfl) (by kernel_rfl) (fun _ _ hS => (hS.at_ 0 rfl).cellsAt 0 (by rfl))) <| obs_cons (ob_call Try.func32 (by kernel_rfl) rfl (fun hy _ hS => gameroomref_CountSign_w (ite_some hr2 (by rw [show (decide (r1 ≤ 7)) = true from hy (decide (r1 ≤ 7), true) (by simp)]; try rfl)) hS (fun _ hS => (hr_g3 _ (hS.dropN 1))) _hc_g3 rfl)) <| obs_cons (ob_loadA (cs := #[.int .i64 g1, .int .i64 g2, .slice A1 g3.length c1]) (by kernel_rfl) (by kernel_rfl) (fun _ _ hS => (hS.at_ 0 rfl).cellsAt 0 (by rfl))) <| obs_cons (ob_call Try.func32 (by kernel_rfl) rfl (fun hy _ hS => gameroomref_CountSign_w (ite_some hr3 (by rw [show (decide (r1 ≤ 7)) = true from hy (decide (r1 ≤ 7), true) (by simp)]; try rfl)) hS (fun _ hS => (hr_g3 _ (hS.dropN 1))) _hc_g3 rfl)) <| obs_nil
  refine wpIn_ret ?_
  have hS := hS.pickN 1 [] (by decide)
  have hm : some ((decide (r1 ≤ 7)) && (decide ((w64 (r2 + r3)) ≤ 20))) = some r := hm
  obtain rfl := Option.some.inj hm
  exact retV (rs := [.tmp 2]) (vs := [.bool ((decide (r1 ≤ 7)) && (decide ((w64 (r2 + r3)) ≤ 20)))]) hF rfl (rv_t (by kernel_rfl) <| rv_nil) rfl ⟨rfl, hS⟩

noncomputable def gameroomref_size_J1  (n1 : Int) : Option Int :=
  some n1

noncomputable def gameroomref_size_m  (n1 : Int) : Option Int :=
  if (decide (n1 < 0)) then (some (w64 (0 - n1))) else ((gameroomref_size_J1 n1))

set_option maxRecDepth 100000 in
set_option maxHeartbeats 4000000 in
theorem gameroomref_size_w  {n1 : Int} {r : Int} {w0 w : World} {B : Nat} {fs : List HP} (hm : gameroomref_size_m n1 = some r) (hS : Sep w0 B w (fs)) :
    Calls Try.prog 75 #[.int .i64 n1] w fun e w' => e = .returned (.int .i64 r) ∧ Sep w0 B w' (fs) := by
  unfold gameroomref_size_m at hm
  replace hm := start_b hm
  refine enter (l := [.int .i64 n1]) (n := 8) Try.func75 rfl rfl (by simp) (fun a hF => ?_)
  refine reg [] [] [0] [pl 0 (.int .i64 n1)] hF hS Fol (by kernel_rfl) (by kernel_rfl) (by kernel_rfl) ?_ (fun a w hF hS => ?_)
  · exact obs_nil
  refine seq_cut (fun a w => Fr 8 [pl 0 (.int .i64 n1)] a ∧ Sep w0 B w (fs) ∧ ((gameroomref_size_J1 n1)).bind some = some r) ?_ ?_
  · rintro a w ⟨hF, hS, hm⟩
    unfold gameroomref_size_J1 at hm
    refine reg [] [] [2] [pl 2 (.int .i64 n1)] hF hS Fol (by kernel_rfl) (by kernel_rfl) (by kernel_rfl) ?_ (fun a w hF hS => ?_)
    · exact obs_nil
    refine wpIn_ret ?_
    have hm : some n1 = some r := hm
    obtain rfl := Option.some.inj hm
    exact retV (rs := [.tmp 2]) (vs := [.int .i64 n1]) hF rfl (rv_t (by kernel_rfl) <| rv_nil) rfl ⟨rfl, hS⟩
  · refine reg [] [] [0, 4] [pl 0 (.int .i64 n1), pl 4 (.bool (decide (n1 < 0)))] hF hS Fol (by kernel_rfl) (by kernel_rfl) (by kernel_rfl) ?_ (fun a w hF hS => ?_)
    · exact obs_nil
    refine cond_ev (t := 4) (b := decide (n1 < 0)) hF (by kernel_rfl) (fun hb => ?_) (fun hb => ?_)
    · replace hm := if_t hm hb
      refine reg [] [] [2] [pl 2 (.int .i64 (w64 (0 - n1)))] hF hS Fol (by kernel_rfl) (by kernel_rfl) (by kernel_rfl) ?_ (fun a w hF hS => ?_)
      · exact obs_nil
      refine wpIn_ret ?_
      refine then_r ?_
      have hm : some (w64 (0 - n1)) = some r := hm
      obtain rfl := Option.some.inj hm
      exact retV (rs := [.tmp 2]) (vs := [.int .i64 (w64 (0 - n1))]) hF rfl (rv_t (by kernel_rfl) <| rv_nil) rfl ⟨rfl, hS⟩
    · replace hm := if_f hm hb
      refine wpIn_skip ?_
      refine then_n ?_
      exact ⟨hF.weak [0] (by kernel_rfl), hS, hm⟩

noncomputable def gameroomref_JumpCan_J1  (g1 : Int) (g3 : List Int) (from1 : Int) (to1 : Int) : Option Bool :=
  asrt (g1 ≠ (0 : Int)) <| asrt (g1 ≠ (0 : Int)) <| asrt (g1 ≠ (0 : Int)) <| asrt (g1 ≠ (0 : Int)) <| (gameroomref_size_m (w64 ((Int.tmod to1 g1) - (Int.tmod from1 g1)))).bind fun r3 => (gameroomref_size_m (w64 ((w64 (Int.tdiv to1 g1)) - (w64 (Int.tdiv from1 g1))))).bind fun r4 => asrt ((((w64 (r3 + r4)) == 2) && ((w64 ((w64 ((Int.tmod to1 g1) - (Int.tmod from1 g1))) * (w64 ((w64 (Int.tdiv to1 g1)) - (w64 (Int.tdiv from1 g1)))))) == 0)) = true → 0 ≤ from1 ∧ from1 < (g3.length : Int)) <| asrt (((((w64 (r3 + r4)) == 2) && ((w64 ((w64 ((Int.tmod to1 g1) - (Int.tmod from1 g1))) * (w64 ((w64 (Int.tdiv to1 g1)) - (w64 (Int.tdiv from1 g1)))))) == 0)) && ((geti g3 from1) == 1)) = true → 0 ≤ (w64 (Int.tdiv (w64 (from1 + to1)) 2)) ∧ (w64 (Int.tdiv (w64 (from1 + to1)) 2)) < (g3.length : Int)) <| asrt ((((((w64 (r3 + r4)) == 2) && ((w64 ((w64 ((Int.tmod to1 g1) - (Int.tmod from1 g1))) * (w64 ((w64 (Int.tdiv to1 g1)) - (w64 (Int.tdiv from1 g1)))))) == 0)) && ((geti g3 from1) == 1)) && ((geti g3 (w64 (Int.tdiv (w64 (from1 + to1)) 2))) == 1)) = true → 0 ≤ to1 ∧ to1 < (g3.length : Int)) <| some ((((((w64 (r3 + r4)) == 2) && ((w64 ((w64 ((Int.tmod to1 g1) - (Int.tmod from1 g1))) * (w64 ((w64 (Int.tdiv to1 g1)) - (w64 (Int.tdiv from1 g1)))))) == 0)) && ((geti g3 from1) == 1)) && ((geti g3 (w64 (Int.tdiv (w64 (from1 + to1)) 2))) == 1)) && ((geti g3 to1) == 0))

noncomputable def gameroomref_JumpCan_m  (g1 : Int) (g2 : Int) (g3 : List Int) (from1 : Int) (to1 : Int) : Option Bool :=
  (gameroomref_within_m from1 0 (w64 ((g3.length : Int) - 1))).bind fun r1 => ((if (!(!r1)) then gameroomref_within_m to1 0 (w64 ((g3.length : Int) - 1)) else some false)).bind fun r2 => if ((!r1) || (!r2)) then (some false) else ((gameroomref_JumpCan_J1 g1 g3 from1 to1))

set_option maxRecDepth 100000 in
set_option maxHeartbeats 4000000 in
theorem gameroomref_JumpCan_w  {g1 : Int} {g2 : Int} {A1 : Option Addr} {c1 : Nat} {n1 : Nat} {g3 : List Int} {from1 : Int} {to1 : Int} {r : Bool} {w0 w : World} {B : Nat} {fs : List HP} (hm : gameroomref_JumpCan_m g1 g2 g3 from1 to1 = some r) (hS : Sep w0 B w (fs)) (hr_g3 : RdF w0 B fs A1 (vI g3)) (_hc_g3 : g3.length ≤ c1) (_hn_g3 : n1 = g3.length) :
    Calls Try.prog 30 #[.agg #[.int .i64 g1, .int .i64 g2, .slice A1 n1 c1], .int .i64 from1, .int .i64 to1] w fun e w' => e = .returned (.bool r) ∧ Sep w0 B w' (fs) := by
  obtain ⟨i3, hi3, hz3, hs3, hb3⟩ := info_parts Info3
  obtain rfl := _hn_g3
  unfold gameroomref_JumpCan_m at hm
  replace hm := start_b hm
  refine enter (l := [.agg #[.int .i64 g1, .int .i64 g2, .slice A1 g3.length c1], .int .i64 from1, .int .i64 to1]) (n := 82) Try.func30 rfl rfl (by simp) (fun a hF => ?_)
  refine seqR ?_
  refine at_do (d := 3) (s := vS (Instr.box 24 (.agg #[.int .i64 g1, .int .i64 g2, .slice A1 g3.length c1]))) (v := .pointer (some ⟨w.heap.size, 0, none⟩)) (w' := w.alloc (.cells #[.int .i64 g1, .int .i64 g2, .slice A1 g3.length c1] 24)) hF (by kernel_rfl) (by kernel_rfl) (by kernel_rfl) (fun a hF => ?_)
  have hS : Sep w0 B (w.alloc (.cells #[.int .i64 g1, .int .i64 g2, .slice A1 g3.length c1] 24)) (blk w.heap.size 24 #[.int .i64 g1, .int .i64 g2, .slice A1 g3.length c1] :: (fs)) := hS.box 24 #[.int .i64 g1, .int .i64 g2, .slice A1 g3.length c1]
  generalize w.heap.size = g4 at hF hS
  generalize w.alloc (.cells #[.int .i64 g1, .int .i64 g2, .slice A1 g3.length c1] 24) = w at hS ⊢
  refine at_run 1 [] [] [1, 2, 3] [pl 1 (.int .i64 from1), pl 2 (.int .i64 to1), pl 3 (.pointer (some ⟨g4, 0, none⟩))] hF hS (by kernel_rfl) (by kernel_rfl) ?_ (fun a w hF hS => ?_)
  · exact obs_nil
  refine at_end [1, 2, 3] [pl 1 (.int .i64 from1), pl 2 (.int .i64 to1), pl 3 (.pointer (some ⟨g4, 0, none⟩))] hF rfl (by kernel_rfl) (fun hF => ?_)
  refine then_n ?_
  refine seq_cut (fun a w => Fr 82 [pl 1 (.int .i64 from1), pl 2 (.int .i64 to1), pl 3 (.pointer (some ⟨g4, 0, none⟩))] a ∧ Sep w0 B w (blk g4 24 #[.int .i64 g1, .int .i64 g2, .slice A1 g3.length c1] :: fs) ∧ ((gameroomref_JumpCan_J1 g1 g3 from1 to1)).bind some = some r) ?_ ?_
  · rintro a w ⟨hF, hS, hm⟩
    unfold gameroomref_JumpCan_J1 at hm
    obtain ⟨hp1, hm⟩ := asrt_b hm
    obtain ⟨hp2, hm⟩ := asrt_b hm
    obtain ⟨hp3, hm⟩ := asrt_b hm
    obtain ⟨hp4, hm⟩ := asrt_b hm
    refine reg [⟨false, [], vS (Instr.loadAt 3 (.pointer (some ⟨g4, 0, none⟩))), .int .i64 g1⟩, ⟨true, [], vS (Op.intDiv .rem .i64 to1 g1), .int .i64 (Int.tmod to1 g1)⟩, ⟨false, [], vS (Instr.loadAt 3 (.pointer (some ⟨g4, 0, none⟩))), .int .i64 g1⟩, ⟨true, [], vS (Op.intDiv .rem .i64 from1 g1), .int .i64 (Int.tmod from1 g1)⟩, ⟨false, [], vS (Instr.loadAt 3 (.pointer (some ⟨g4, 0, none⟩))), .int .i64 g1⟩, ⟨true, [], vS (Op.intDiv .quo .i64 to1 g1), .int .i64 (w64 (Int.tdiv to1 g1))⟩, ⟨false, [], vS (Instr.loadAt 3 (.pointer (some ⟨g4, 0, none⟩))), .int .i64 g1⟩, ⟨true, [], vS (Op.intDiv .quo .i64 from1 g1), .int .i64 (w64 (Int.tdiv from1 g1))⟩] [none, none, some (.int .i64 g1), some (.int .i64 (Int.tmod to1 g1)), none, none, some (.int .i64 g1), some (.int .i64 (Int.tmod from1 g1)), none, none, none, some (.int .i64 g1), some (.int .i64 (w64 (Int.tdiv to1 g1))), none, none, some (.int .i64 g1), some (.int .i64 (w64 (Int.tdiv from1 g1))), none, none, none] [1, 2, 3, 7, 8] [pl 1 (.int .i64 from1), pl 2 (.int .i64 to1), pl 3 (.pointer (some ⟨g4, 0, none⟩)), pl 7 (.int .i64 (w64 ((Int.tmod to1 g1) - (Int.tmod from1 g1)))), pl 8 (.int .i64 (w64 ((w64 (Int.tdiv to1 g1)) - (w64 (Int.tdiv from1 g1)))))] hF hS Fol (by kernel_rfl) (by kernel_rfl) (by kernel_rfl) ?_ (fun a w hF hS => ?_)
    · exact obs_cons (ob_load Agg3 (fun _ _ hS => (hS.at_ 0 rfl).cell rfl)) <| obs_cons (ob_rem rfl (fun _ => hp1)) <| obs_cons (ob_load Agg3 (fun _ _ hS => (hS.at_ 0 rfl).cell rfl)) <| obs_cons (ob_rem rfl (fun _ => hp2)) <| obs_cons (ob_load Agg3 (fun _ _ hS => (hS.at_ 0 rfl).cell rfl)) <| obs_cons (ob_quo rfl (fun _ => hp3)) <| obs_cons (ob_load Agg3 (fun _ _ hS => (hS.at_ 0 rfl).cell rfl)) <| obs_cons (ob_quo rfl (fun _ => hp4)) <| obs_nil
    obtain ⟨r3, hr3, hm⟩ := call_b hm
    obtain ⟨r4, hr4, hm⟩ := call_b hm
    obtain ⟨hp5, hm⟩ := asrt_b hm
    obtain ⟨hp6, hm⟩ := asrt_b hm
    obtain ⟨hp7, hm⟩ := asrt_b hm
    refine reg [⟨false, [], callFunc 75 #[.int .i64 (w64 ((Int.tmod to1 g1) - (Int.tmod from1 g1)))], .int .i64 r3⟩, ⟨false, [], callFunc 75 #[.int .i64 (w64 ((w64 (Int.tdiv to1 g1)) - (w64 (Int.tdiv from1 g1))))], .int .i64 r4⟩, ⟨false, [(((w64 (r3 + r4)) == 2) && ((w64 ((w64 ((Int.tmod to1 g1) - (Int.tmod from1 g1))) * (w64 ((w64 (Int.tdiv to1 g1)) - (w64 (Int.tdiv from1 g1)))))) == 0), true)], vS (Instr.loadAt 22 (.pointer (some ⟨g4, 2, none⟩))), .slice A1 g3.length c1⟩, ⟨true, [(((w64 (r3 + r4)) == 2) && ((w64 ((w64 ((Int.tmod to1 g1) - (Int.tmod from1 g1))) * (w64 ((w64 (Int.tdiv to1 g1)) - (w64 (Int.tdiv from1 g1)))))) == 0), true)], vS (Instr.indexAt 22 (.slice A1 g3.length c1) (.int .i64 from1)), .pointer (some (sAddr A1 from1))⟩, ⟨false, [(((w64 (r3 + r4)) == 2) && ((w64 ((w64 ((Int.tmod to1 g1) - (Int.tmod from1 g1))) * (w64 ((w64 (Int.tdiv to1 g1)) - (w64 (Int.tdiv from1 g1)))))) == 0), true)], vS (Instr.loadAt 3 (.pointer (some (sAddr A1 from1)))), .int .i64 (geti g3 from1)⟩, ⟨false, [((((w64 (r3 + r4)) == 2) && ((w64 ((w64 ((Int.tmod to1 g1) - (Int.tmod from1 g1))) * (w64 ((w64 (Int.tdiv to1 g1)) - (w64 (Int.tdiv from1 g1)))))) == 0)) && ((geti g3 from1) == 1), true)], vS (Instr.loadAt 22 (.pointer (some ⟨g4, 2, none⟩))), .slice A1 g3.length c1⟩, ⟨true, [((((w64 (r3 + r4)) == 2) && ((w64 ((w64 ((Int.tmod to1 g1) - (Int.tmod from1 g1))) * (w64 ((w64 (Int.tdiv to1 g1)) - (w64 (Int.tdiv from1 g1)))))) == 0)) && ((geti g3 from1) == 1), true)], vS (Instr.indexAt 22 (.slice A1 g3.length c1) (.int .i64 (w64 (Int.tdiv (w64 (from1 + to1)) 2)))), .pointer (some (sAddr A1 (w64 (Int.tdiv (w64 (from1 + to1)) 2))))⟩, ⟨false, [((((w64 (r3 + r4)) == 2) && ((w64 ((w64 ((Int.tmod to1 g1) - (Int.tmod from1 g1))) * (w64 ((w64 (Int.tdiv to1 g1)) - (w64 (Int.tdiv from1 g1)))))) == 0)) && ((geti g3 from1) == 1), true)], vS (Instr.loadAt 3 (.pointer (some (sAddr A1 (w64 (Int.tdiv (w64 (from1 + to1)) 2)))))), .int .i64 (geti g3 (w64 (Int.tdiv (w64 (from1 + to1)) 2)))⟩, ⟨false, [(((((w64 (r3 + r4)) == 2) && ((w64 ((w64 ((Int.tmod to1 g1) - (Int.tmod from1 g1))) * (w64 ((w64 (Int.tdiv to1 g1)) - (w64 (Int.tdiv from1 g1)))))) == 0)) && ((geti g3 from1) == 1)) && ((geti g3 (w64 (Int.tdiv (w64 (from1 + to1)) 2))) == 1), true)], vS (Instr.loadAt 22 (.pointer (some ⟨g4, 2, none⟩))), .slice A1 g3.length c1⟩, ⟨true, [(((((w64 (r3 + r4)) == 2) && ((w64 ((w64 ((Int.tmod to1 g1) - (Int.tmod from1 g1))) * (w64 ((w64 (Int.tdiv to1 g1)) - (w64 (Int.tdiv from1 g1)))))) == 0)) && ((geti g3 from1) == 1)) && ((geti g3 (w64 (Int.tdiv (w64 (from1 + to1)) 2))) == 1), true)], vS (Instr.indexAt 22 (.slice A1 g3.length c1) (.int .i64 to1)), .pointer (some (sAddr A1 to1))⟩, ⟨false, [(((((w64 (r3 + r4)) == 2) && ((w64 ((w64 ((Int.tmod to1 g1) - (Int.tmod from1 g1))) * (w64 ((w64 (Int.tdiv to1 g1)) - (w64 (Int.tdiv from1 g1)))))) == 0)) && ((geti g3 from1) == 1)) && ((geti g3 (w64 (Int.tdiv (w64 (from1 + to1)) 2))) == 1), true)], vS (Instr.loadAt 3 (.pointer (some (sAddr A1 to1)))), .int .i64 (geti g3 to1)⟩] [none, some (.int .i64 r3), none, some (.int .i64 r4), none, none, none, none, none, none, none, none, none, none, some (.slice A1 g3.length c1), none, some (.pointer (some (sAddr A1 from1))), some (.int .i64 (geti g3 from1)), none, none, none, none, some (.slice A1 g3.length c1), none, none, none, none, some (.pointer (some (sAddr A1 (w64 (Int.tdiv (w64 (from1 + to1)) 2))))), some (.int .i64 (geti g3 (w64 (Int.tdiv (w64 (from1 + to1)) 2)))), none, none, none, none, some (.slice A1 g3.length c1), none, some (.pointer (some (sAddr A1 to1))), some (.int .i64 (geti g3 to1)), none, none, none] [6] [pl 6 (.bool ((((((w64 (r3 + r4)) == 2) && ((w64 ((w64 ((Int.tmod to1 g1) - (Int.tmod from1 g1))) * (w64 ((w64 (Int.tdiv to1 g1)) - (w64 (Int.tdiv from1 g1)))))) == 0)) && ((geti g3 from1) == 1)) && ((geti g3 (w64 (Int.tdiv (w64 (from1 + to1)) 2))) == 1)) && ((geti g3 to1) == 0)))] hF hS Fol (by kernel_rfl) (by kernel_rfl) (by kernel_rfl) ?_ (fun a w hF hS => ?_)
    · exact obs_cons (ob_call Try.func75 (by kernel_rfl) rfl (fun _ _ hS => gameroomref_size_w hr3 hS )) <| obs_cons (ob_call Try.func75 (by kernel_rfl) rfl (fun _ _ hS => gameroomref_size_w hr4 hS )) <| obs_cons (ob_load Agg22 (fun _ _ hS => (hS.at_ 0 rfl).cell rfl)) <| obs_cons (ob_ix1 (f := (Value.int .i64)) (m := g3) Und22 hi3 hs3 (hr_g3 _ (hS.dropN 1)) rfl (fun hy => hp5 (hy (((w64 (r3 + r4)) == 2) && ((w64 ((w64 ((Int.tmod to1 g1) - (Int.tmod from1 g1))) * (w64 ((w64 (Int.tdiv to1 g1)) - (w64 (Int.tdiv from1 g1)))))) == 0), true) (by simp)))) <| obs_cons (ob_get1 (n := g3.length) (m := g3) (Value.int .i64) (0 : Int) Agg3 (fun _ hS => ⟨_, (hr_g3 _ (hS.dropN 1))⟩) (fun _ hS => rfl) (fun hy => hp5 (hy (((w64 (r3 + r4)) == 2) && ((w64 ((w64 ((Int.tmod to1 g1) - (Int.tmod from1 g1))) * (w64 ((w64 (Int.tdiv to1 g1)) - (w64 (Int.tdiv from1 g1)))))) == 0), true) (by simp)))) <| obs_cons (ob_load Agg22 (fun _ _ hS => (hS.at_ 0 rfl).cell rfl)) <| obs_cons (ob_ix1 (f := (Value.int .i64)) (m := g3) Und22 hi3 hs3 (hr_g3 _ (hS.dropN 1)) rfl (fun hy => hp6 (hy ((((w64 (r3 + r4)) == 2) && ((w64 ((w64 ((Int.tmod to1 g1) - (Int.tmod from1 g1))) * (w64 ((w64 (Int.tdiv to1 g1)) - (w64 (Int.tdiv from1 g1)))))) == 0)) && ((geti g3 from1) == 1), true) (by simp)))) <| obs_cons (ob_get1 (n := g3.length) (m := g3) (Value.int .i64) (0 : Int) Agg3 (fun _ hS => ⟨_, (hr_g3 _ (hS.dropN 1))⟩) (fun _ hS => rfl) (fun hy => hp6 (hy ((((w64 (r3 + r4)) == 2) && ((w64 ((w64 ((Int.tmod to1 g1) - (Int.tmod from1 g1))) * (w64 ((w64 (Int.tdiv to1 g1)) - (w64 (Int.tdiv from1 g1)))))) == 0)) && ((geti g3 from1) == 1), true) (by simp)))) <| obs_cons (ob_load Agg22 (fun _ _ hS => (hS.at_ 0 rfl).cell rfl)) <| obs_cons (ob_ix1 (f := (Value.int .i64)) (m := g3) Und22 hi3 hs3 (hr_g3 _ (hS.dropN 1)) rfl (fun hy => hp7 (hy (((((w64 (r3 + r4)) == 2) && ((w64 ((w64 ((Int.tmod to1 g1) - (Int.tmod from1 g1))) * (w64 ((w64 (Int.tdiv to1 g1)) - (w64 (Int.tdiv from1 g1)))))) == 0)) && ((geti g3 from1) == 1)) && ((geti g3 (w64 (Int.tdiv (w64 (from1 + to1)) 2))) == 1), true) (by simp)))) <| obs_cons (ob_get1 (n := g3.length) (m := g3) (Value.int .i64) (0 : Int) Agg3 (fun _ hS => ⟨_, (hr_g3 _ (hS.dropN 1))⟩) (fun _ hS => rfl) (fun hy => hp7 (hy (((((w64 (r3 + r4)) == 2) && ((w64 ((w64 ((Int.tmod to1 g1) - (Int.tmod from1 g1))) * (w64 ((w64 (Int.tdiv to1 g1)) - (w64 (Int.tdiv from1 g1)))))) == 0)) && ((geti g3 from1) == 1)) && ((geti g3 (w64 (Int.tdiv (w64 (from1 + to1)) 2))) == 1), true) (by simp)))) <| obs_nil
    refine wpIn_ret ?_
    have hS := hS.pickN 1 [] (by decide)
    have hm : some ((((((w64 (r3 + r4)) == 2) && ((w64 ((w64 ((Int.tmod to1 g1) - (Int.tmod from1 g1))) * (w64 ((w64 (Int.tdiv to1 g1)) - (w64 (Int.tdiv from1 g1)))))) == 0)) && ((geti g3 from1) == 1)) && ((geti g3 (w64 (Int.tdiv (w64 (from1 + to1)) 2))) == 1)) && ((geti g3 to1) == 0)) = some r := hm
    obtain rfl := Option.some.inj hm
    exact retV (rs := [.tmp 6]) (vs := [.bool ((((((w64 (r3 + r4)) == 2) && ((w64 ((w64 ((Int.tmod to1 g1) - (Int.tmod from1 g1))) * (w64 ((w64 (Int.tdiv to1 g1)) - (w64 (Int.tdiv from1 g1)))))) == 0)) && ((geti g3 from1) == 1)) && ((geti g3 (w64 (Int.tdiv (w64 (from1 + to1)) 2))) == 1)) && ((geti g3 to1) == 0))]) hF rfl (rv_t (by kernel_rfl) <| rv_nil) rfl ⟨rfl, hS⟩
  · obtain ⟨r1, hr1, hm⟩ := call_b hm
    obtain ⟨r2, hr2, hm⟩ := call_b hm
    refine reg [⟨false, [], vS (Instr.loadAt 22 (.pointer (some ⟨g4, 2, none⟩))), .slice A1 g3.length c1⟩, ⟨false, [], callFunc 43 #[.int .i64 from1, .int .i64 0, .int .i64 (w64 ((g3.length : Int) - 1))], .bool r1⟩, ⟨false, [(!r1, false)], vS (Instr.loadAt 22 (.pointer (some ⟨g4, 2, none⟩))), .slice A1 g3.length c1⟩, ⟨false, [(!r1, false)], callFunc 43 #[.int .i64 to1, .int .i64 0, .int .i64 (w64 ((g3.length : Int) - 1))], .bool r2⟩] [none, none, some (.slice A1 g3.length c1), none, none, some (.bool r1), none, none, none, none, some (.slice A1 g3.length c1), none, none, some (.bool r2), none, none] [1, 2, 3, 24] [pl 1 (.int .i64 from1), pl 2 (.int .i64 to1), pl 3 (.pointer (some ⟨g4, 0, none⟩)), pl 24 (.bool ((!r1) || (!r2)))] hF hS Fol (by kernel_rfl) (by kernel_rfl) (by kernel_rfl) ?_ (fun a w hF hS => ?_)
    · exact obs_cons (ob_load Agg22 (fun _ _ hS => (hS.at_ 0 rfl).cell rfl)) <| obs_cons (ob_call Try.func43 (by kernel_rfl) rfl (fun _ _ hS => gameroomref_within_w hr1 hS )) <| obs_cons (ob_load Agg22 (fun _ _ hS => (hS.at_ 0 rfl).cell rfl)) <| obs_cons (ob_call Try.func43 (by kernel_rfl) rfl (fun hy _ hS => gameroomref_within_w (ite_some hr2 (by rw [show (!r1) = false from hy (!r1, false) (by simp)]; try rfl)) hS )) <| obs_nil
    refine cond_ev (t := 24) (b := (!r1) || (!r2)) hF (by kernel_rfl) (fun hb => ?_) (fun hb => ?_)
    · replace hm := if_t hm hb
      refine reg [] [] [6] [pl 6 (.bool false)] hF hS Fol (by kernel_rfl) (by kernel_rfl) (by kernel_rfl) ?_ (fun a w hF hS => ?_)
      · exact obs_nil
      refine wpIn_ret ?_
      refine then_r ?_
      have hS := hS.pickN 1 [] (by decide)
      have hm : some false = some r := hm
      obtain rfl := Option.some.inj hm
      exact retV (rs := [.tmp 6]) (vs := [.bool false]) hF rfl (rv_t (by kernel_rfl) <| rv_nil) rfl ⟨rfl, hS⟩
    · replace hm := if_f hm hb
      refine wpIn_skip ?_
      refine then_n ?_
      exact ⟨hF.weak [1, 2, 3] (by kernel_rfl), hS, hm⟩

noncomputable def gameroomref_JumpsOf_J5  (b1 : Int) (l5 : List (Int × Int × Int)) : Option (St (List (Int × Int × Int) × Int) (List (Int × Int × Int))) :=
  some (.next (l5, (w64 (b1 + 1))))

noncomputable def gameroomref_JumpsOf_J4  (g1 : Int) (g2 : Int) (g3 : List Int) (a1 : Int) (l3 : List (Int × Int × Int)) (b1 : Int) : Option (St (List (Int × Int × Int) × Int) (List (Int × Int × Int))) :=
  (gameroomref_JumpCan_m g1 g2 g3 a1 b1).bind fun r1 => if r1 then (asrt ((l3.length : Int) + 1 ≤ bigT) <| (gameroomref_JumpsOf_J5 b1) (l3 ++ ([(a1, b1, 0)] : List (Int × Int × Int)))) else ((gameroomref_JumpsOf_J5 b1) l3)

noncomputable def gameroomref_JumpsOf_J3  (a1 : Int) (l4 : List (Int × Int × Int)) : Option (St (List (Int × Int × Int) × Int) (List (Int × Int × Int))) :=
  some (.next (l4, (w64 (a1 + 1))))

noncomputable def gameroomref_JumpsOf_K2  (a1 : Int) : (List (Int × Int × Int)) → Option (St (List (Int × Int × Int) × Int) (List (Int × Int × Int))) :=
  fun (x : (List (Int × Int × Int))) => match x with | l4 => (gameroomref_JumpsOf_J3 a1) l4

noncomputable def gameroomref_JumpsOf_L2  (g1 : Int) (g2 : Int) (g3 : List Int) (a1 : Int) : (List (Int × Int × Int) × Int) → Option (St (List (Int × Int × Int) × Int) (List (Int × Int × Int))) :=
  fun (x : (List (Int × Int × Int) × Int)) => match x with | (l3, b1) => if (decide (b1 < (g3.length : Int))) then ((gameroomref_JumpsOf_J4 g1 g2 g3 a1 l3 b1)) else (some (.done l3))

noncomputable def gameroomref_JumpsOf_J2  (g1 : Int) (g2 : Int) (g3 : List Int) (l1 : List (Int × Int × Int)) (a1 : Int) : Option (St (List (Int × Int × Int) × Int) (List (Int × Int × Int))) :=
  (loop (gameroomref_JumpsOf_L2 g1 g2 g3 a1) (l1, 0)).bind (gameroomref_JumpsOf_K2 a1)

noncomputable def gameroomref_JumpsOf_J1  (l2 : List (Int × Int × Int)) : Option (List (Int × Int × Int)) :=
  some l2

noncomputable def gameroomref_JumpsOf_K1  : (List (Int × Int × Int)) → Option (List (Int × Int × Int)) :=
  fun (x : (List (Int × Int × Int))) => match x with | l2 => gameroomref_JumpsOf_J1 l2

noncomputable def gameroomref_JumpsOf_L1  (g1 : Int) (g2 : Int) (g3 : List Int) : (List (Int × Int × Int) × Int) → Option (St (List (Int × Int × Int) × Int) (List (Int × Int × Int))) :=
  fun (x : (List (Int × Int × Int) × Int)) => match x with | (l1, a1) => if (decide (a1 < (g3.length : Int))) then ((gameroomref_JumpsOf_J2 g1 g2 g3 l1 a1)) else (some (.done l1))
end Go.Proofs.Ytjfloofoobllaaa
