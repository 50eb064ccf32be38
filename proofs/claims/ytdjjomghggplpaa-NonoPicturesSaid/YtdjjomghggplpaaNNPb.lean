/-
  Models and walks, printed by our own program (wip/gen).
-/
import Derived.Test.YtdjjomghggplpaaFB
import Derived.Test.YtdjjomghggplpaaLibD
import Derived.Test.YtdjjomghggplpaaGR
import Derived.Test.YtdjjomghggplpaaLibAS
import Derived.Test.YtdjjomghggplpaaLibBg
import Derived.Test.YtdjjomghggplpaaLibHd
import Derived.Test.YtdjjomghggplpaaFM
import Derived.Test.YtdjjomghggplpaaLibAN
import Derived.Test.YtdjjomghggplpaaNNPa
namespace Go.Proofs.Ytdjjomghggplpaa
open Go Go.GL Go.RowKit

noncomputable def nono_picture_push_2_L1  (p_rows1 : List (List Int)) (p_columns1 : List (List Int)) (p_cells1 : List (List Int)) : (List (List Int) × Bool) → Option (St (List (List Int) × Bool) (Fl (List (List Int)) (Bool × List (List Int)))) :=
  fun (x : (List (List Int) × Bool)) => match x with | (p2, more1) => if more1 then ((nono_picture_push_2_J2 p_rows1 p_columns1 p_cells1 p2)) else (some (.done (.go p2)))

noncomputable def nono_picture_push_2_m  (p_rows1 : List (List Int)) (p_columns1 : List (List Int)) (p_cells1 : List (List Int)) : Option (Bool × List (List Int)) :=
  (loop (nono_picture_push_2_L1 p_rows1 p_columns1 p_cells1) (p_cells1, true)).bind nono_picture_push_2_K1

set_option maxRecDepth 100000 in
set_option maxHeartbeats 4000000 in
theorem nono_picture_push_2_w  {g1 : Nat} {A1 : Option Addr} {c1 : Nat} {n1 : Nat} {hd1 : List Hd} {p_rows1 : List (List Int)} {A2 : Option Addr} {c2 : Nat} {n2 : Nat} {hd2 : List Hd} {p_columns1 : List (List Int)} {A3 : Option Addr} {c3 : Nat} {n3 : Nat} {hd3 : List Hd} {p_cells1 : List (List Int)} {r : (Bool × List (List Int))} {w0 w : World} {B : Nat} {fs : List HP} (hm : nono_picture_push_2_m p_rows1 p_columns1 p_cells1 = some r) (hS : Sep w0 B w (blk g1 109 #[.slice A1 n1 c1, .slice A2 n2 c2, .slice A3 n3 c3] :: rows 22 3 (.slice A3 n3 c3) hd3 p_cells1 :: fs)) (hr_p_rows1 : RdRowsF w0 B fs A1 hd1 p_rows1) (_hc_p_rows1 : p_rows1.length ≤ c1) (_hn_p_rows1 : n1 = p_rows1.length) (hr_p_columns1 : RdRowsF w0 B fs A2 hd2 p_columns1) (_hc_p_columns1 : p_columns1.length ≤ c2) (_hn_p_columns1 : n2 = p_columns1.length) :
    Calls Try.prog 60 #[.pointer (some ⟨g1, 0, none⟩)] w fun e w' => ∃ v, e = .returned v ∧ ∃ (hd4 : List Hd), v = .bool r.1 ∧ Sep w0 B w' (blk g1 109 #[.slice A1 n1 c1, .slice A2 n2 c2, .slice A3 n3 c3] :: rows 22 3 (.slice A3 n3 c3) hd4 r.2 :: fs) := by
  obtain ⟨i3, hi3, hz3, hs3, hb3⟩ := info_parts Info3
  obtain ⟨i22, hi22, hz22, hs22, hb22⟩ := info_parts Info22
  obtain rfl := (hS.at_ 1 rfl).lenR
  obtain rfl := _hn_p_rows1
  obtain rfl := _hn_p_columns1
  unfold nono_picture_push_2_m at hm
  replace hm := start_b hm
  refine enter (l := [.pointer (some ⟨g1, 0, none⟩)]) (n := 114) Try.func60 rfl rfl (by simp) (fun a hF => ?_)
  refine reg [] [] [0] [pl 0 (.pointer (some ⟨g1, 0, none⟩))] hF hS Fol (by kernel_rfl) (by kernel_rfl) (by kernel_rfl) ?_ (fun a w hF hS => ?_)
  · exact obs_nil
  refine seq_cut (fun a w => ∃ (p3 : List (List Int)) (hd6 : List Hd), Fr 114 [] a ∧ Sep w0 B w (blk g1 109 #[.slice A1 p_rows1.length c1, .slice A2 p_columns1.length c2, .slice A3 p_cells1.length c3] :: rows 22 3 (.slice A3 p_cells1.length c3) hd6 p3 :: fs) ∧ (nono_picture_push_2_J1 p3).bind some = some r) ?_ ?_
  · rintro a w ⟨p3, hd6, hF, hS, hm⟩
    unfold nono_picture_push_2_J1 at hm
    refine reg [] [] [2] [pl 2 (.bool true)] hF hS Fol (by kernel_rfl) (by kernel_rfl) (by kernel_rfl) ?_ (fun a w hF hS => ?_)
    · exact obs_nil
    refine wpIn_ret ?_
    have hm : some (true, p3) = some r := hm
    obtain rfl := Option.some.inj hm
    exact retV (rs := [.tmp 2]) (vs := [.bool true]) hF rfl (rv_t (by kernel_rfl) <| rv_nil) rfl ⟨_, rfl, hd6, rfl, hS⟩
  · refine reg [] [] [0, 3] [pl 0 (.pointer (some ⟨g1, 0, none⟩)), pl 3 (.bool true)] hF hS Fol (by kernel_rfl) (by kernel_rfl) (by kernel_rfl) ?_ (fun a w hF hS => ?_)
    · exact obs_nil
    refine wpIn_block ?_
    refine wp_loop_model (S := (List (List Int) × Bool)) (R := (Fl (List (List Int)) (Bool × List (List Int)))) (nono_picture_push_2_L1 p_rows1 p_columns1 p_cells1) (fun x => (nono_picture_push_2_K1 x).bind some) r (fun (x : (List (List Int) × Bool)) a w => ∃ (hd5 : List Hd), Fr 114 [pl 0 (.pointer (some ⟨g1, 0, none⟩)), pl 3 (.bool x.2)] a ∧ Sep w0 B w (blk g1 109 #[.slice A1 p_rows1.length c1, .slice A2 p_columns1.length c2, .slice A3 p_cells1.length c3] :: rows 22 3 (.slice A3 p_cells1.length c3) hd5 x.1 :: fs)) (assoc_b hm) ⟨hd3, hF.weak [0, 3] (by kernel_rfl), hS⟩ ?_
    clear hF hS hm
    rintro nn1 ⟨p2, more1⟩ a w ⟨hd5, hF, hS⟩ hm
    generalize hφ1 : stK (nono_picture_push_2_L1 p_rows1 p_columns1 p_cells1) nn1 (fun x => (nono_picture_push_2_K1 x).bind some) = φ1 at hm
    unfold nono_picture_push_2_L1 at hm
    dsimp only at hF hS hm
    refine seq_cut (fun a w => Fr 114 [pl 0 (.pointer (some ⟨g1, 0, none⟩))] a ∧ Sep w0 B w (blk g1 109 #[.slice A1 p_rows1.length c1, .slice A2 p_columns1.length c2, .slice A3 p_cells1.length c3] :: rows 22 3 (.slice A3 p_cells1.length c3) hd5 p2 :: fs) ∧ ((nono_picture_push_2_J2 p_rows1 p_columns1 p_cells1 p2)).bind φ1 = some r) ?_ ?_
    · rintro a w ⟨hF, hS, hm⟩
      unfold nono_picture_push_2_J2 at hm
      refine wpIn_block ?_
      refine reg [] [] [0, 3] [pl 0 (.pointer (some ⟨g1, 0, none⟩)), pl 3 (.bool false)] hF hS Fol (by kernel_rfl) (by kernel_rfl) (by kernel_rfl) ?_ (fun a w hF hS => ?_)
      · exact obs_nil
      refine seq_cut (fun a w => ∃ (p5 : List (List Int)) (more3 : Bool) (hd8 : List Hd), Fr 114 [pl 0 (.pointer (some ⟨g1, 0, none⟩)), pl 3 (.bool more3)] a ∧ Sep w0 B w (blk g1 109 #[.slice A1 p_rows1.length c1, .slice A2 p_columns1.length c2, .slice A3 p_cells1.length c3] :: rows 22 3 (.slice A3 p_cells1.length c3) hd8 p5 :: fs) ∧ ((nono_picture_push_2_J3 p_rows1 p_columns1 p_cells1) p5 more3).bind φ1 = some r) ?_ ?_
      · rintro a w ⟨p5, more3, hd8, hF, hS, hm⟩
        unfold nono_picture_push_2_J3 at hm
        refine reg [⟨false, [], vS (Instr.loadAt 36 (.pointer (some ⟨g1, 1, none⟩))), .slice A2 p_columns1.length c2⟩] [none, none, none, some (.slice A2 p_columns1.length c2), none, none] [0, 3, 63, 64, 65] [pl 0 (.pointer (some ⟨g1, 0, none⟩)), pl 3 (.bool more3), pl 63 (.slice A2 p_columns1.length c2), pl 64 (.int .i64 (p_columns1.length : Int)), pl 65 (.int .i64 0)] hF hS Fol (by kernel_rfl) (by kernel_rfl) (by kernel_rfl) ?_ (fun a w hF hS => ?_)
        · exact obs_cons (ob_load Agg36 (fun _ _ hS => (hS.at_ 0 rfl).cell rfl)) <| obs_nil
        refine wpIn_block ?_
        refine wp_loop_model (S := (List (List Int) × Bool × Int)) (R := (Fl (List (List Int) × Bool) (Bool × List (List Int)))) (nono_picture_push_2_L3 p_rows1 p_columns1 p_cells1) (fun x => (nono_picture_push_2_K3 x).bind φ1) r (fun (x : (List (List Int) × Bool × Int)) a w => ∃ (hd10 : List Hd), Fr 114 [pl 0 (.pointer (some ⟨g1, 0, none⟩)), pl 3 (.bool x.2.1), pl 63 (.slice A2 p_columns1.length c2), pl 64 (.int .i64 (p_columns1.length : Int)), pl 65 (.int .i64 x.2.2)] a ∧ Sep w0 B w (blk g1 109 #[.slice A1 p_rows1.length c1, .slice A2 p_columns1.length c2, .slice A3 p_cells1.length c3] :: rows 22 3 (.slice A3 p_cells1.length c3) hd10 x.1 :: fs)) (assoc_b hm) ⟨hd8, hF.weak [0, 3, 63, 64, 65] (by kernel_rfl), hS⟩ ?_
        clear hF hS hm
        rintro nn3 ⟨p7, more5, z2⟩ a w ⟨hd10, hF, hS⟩ hm
        generalize hφ3 : stK (nono_picture_push_2_L3 p_rows1 p_columns1 p_cells1) nn3 (fun x => (nono_picture_push_2_K3 x).bind φ1) = φ3 at hm
        unfold nono_picture_push_2_L3 at hm
        dsimp only at hF hS hm
        refine reg [] [] [0, 3, 63, 64, 65, 66] [pl 0 (.pointer (some ⟨g1, 0, none⟩)), pl 3 (.bool more5), pl 63 (.slice A2 p_columns1.length c2), pl 64 (.int .i64 (p_columns1.length : Int)), pl 65 (.int .i64 z2), pl 66 (.bool (decide (z2 < (p_columns1.length : Int))))] hF hS Fol (by kernel_rfl) (by kernel_rfl) (by kernel_rfl) ?_ (fun a w hF hS => ?_)
        · exact obs_nil
        refine seq_cut (fun a w => Fr 114 [pl 0 (.pointer (some ⟨g1, 0, none⟩)), pl 3 (.bool more5), pl 63 (.slice A2 p_columns1.length c2), pl 64 (.int .i64 (p_columns1.length : Int)), pl 65 (.int .i64 z2)] a ∧ Sep w0 B w (blk g1 109 #[.slice A1 p_rows1.length c1, .slice A2 p_columns1.length c2, .slice A3 p_cells1.length c3] :: rows 22 3 (.slice A3 p_cells1.length c3) hd10 p7 :: fs) ∧ ((nono_picture_push_2_J7 p_rows1 p_columns1 p_cells1 p7 more5 z2)).bind φ3 = some r) ?_ ?_
        · rintro a w ⟨hF, hS, hm⟩
          unfold nono_picture_push_2_J7 at hm
          refine seq_cut (fun a w => ∃ (p9 : List (List Int)) (more7 : Bool) (hd12 : List Hd), Fr 114 [pl 0 (.pointer (some ⟨g1, 0, none⟩)), pl 3 (.bool more7), pl 63 (.slice A2 p_columns1.length c2), pl 64 (.int .i64 (p_columns1.length : Int)), pl 65 (.int .i64 z2)] a ∧ Sep w0 B w (blk g1 109 #[.slice A1 p_rows1.length c1, .slice A2 p_columns1.length c2, .slice A3 p_cells1.length c3] :: rows 22 3 (.slice A3 p_cells1.length c3) hd12 p9 :: fs) ∧ ((nono_picture_push_2_J8 z2) p9 more7).bind φ3 = some r) ?_ ?_
          · rintro a w ⟨p9, more7, hd12, hF, hS, hm⟩
            unfold nono_picture_push_2_J8 at hm
            refine reg1 [] [] [0, 3, 63, 64, 65] [pl 0 (.pointer (some ⟨g1, 0, none⟩)), pl 3 (.bool more7), pl 63 (.slice A2 p_columns1.length c2), pl 64 (.int .i64 (p_columns1.length : Int)), pl 65 (.int .i64 (w64 (z2 + 1)))] hF hS Fol (by kernel_rfl) (by kernel_rfl) (by kernel_rfl) ?_ (fun a w hF hS => ?_)
            · exact obs_nil
            refine then_n ?_
            rw [← hφ3] at hm
            exact ⟨(p9, more7, (w64 (z2 + 1))), ⟨hd12, hF.weak [0, 3, 63, 64, 65] (by kernel_rfl), hS⟩, hm⟩
          · refine wpIn_block ?_
            obtain ⟨hp5, hm⟩ := asrt_b hm
            refine reg [⟨true, [], vS (Instr.indexAt 36 (.slice A2 p_columns1.length c2) (.int .i64 z2)), .pointer (some (sAddr A2 z2))⟩, ⟨false, [], vS (Instr.loadAt 22 (.pointer (some (sAddr A2 z2)))), .slice (hdA hd2 z2) ((geti2 p_columns1 z2).length) (hdC hd2 z2)⟩] [none, some (.pointer (some (sAddr A2 z2))), some (.slice (hdA hd2 z2) ((geti2 p_columns1 z2).length) (hdC hd2 z2)), none, none] [0, 3, 8, 9, 63, 64, 65] [pl 0 (.pointer (some ⟨g1, 0, none⟩)), pl 3 (.bool more5), pl 8 (.int .i64 z2), pl 9 (.slice (hdA hd2 z2) ((geti2 p_columns1 z2).length) (hdC hd2 z2)), pl 63 (.slice A2 p_columns1.length c2), pl 64 (.int .i64 (p_columns1.length : Int)), pl 65 (.int .i64 z2)] hF hS Fol (by kernel_rfl) (by kernel_rfl) (by kernel_rfl) ?_ (fun a w hF hS => ?_)
            · exact obs_cons (ob_ixRn Und36 hi22 hs22 (hr_p_columns1 _ (hS.dropN 2)) rfl (fun _ => hp5)) <| obs_cons (ob_getR Agg22 (fun _ hS => ⟨_, (hr_p_columns1 _ (hS.dropN 2))⟩) (fun _ => hp5)) <| obs_nil
            refine seqR ?_
            obtain ⟨r3, hr3, hm⟩ := call_b hm
            obtain ⟨r4, hr4, hm⟩ := call_b hm
            refine at_run 2 [] [] [0, 3, 8, 9, 63, 64, 65, 71, 72] [pl 0 (.pointer (some ⟨g1, 0, none⟩)), pl 3 (.bool more5), pl 8 (.int .i64 z2), pl 9 (.slice (hdA hd2 z2) ((geti2 p_columns1 z2).length) (hdC hd2 z2)), pl 63 (.slice A2 p_columns1.length c2), pl 64 (.int .i64 (p_columns1.length : Int)), pl 65 (.int .i64 z2), pl 71 (.pointer (some ⟨g1, 0, none⟩)), pl 72 (.int .i64 z2)] hF hS (by kernel_rfl) (by kernel_rfl) ?_ (fun a w hF hS => ?_)
            · exact obs_nil
            refine at_call (f := 117) (args := #[.pointer (some ⟨g1, 0, none⟩), .int .i64 z2]) (d := 73) hF (by kernel_rfl) (by kernel_rfl) Try.func117 (by kernel_rfl) rfl (nono_picture_column_w hr3 hS (fun _ hS => (hr_p_rows1 _ (hS.dropN 0))) _hc_p_rows1 rfl (fun _ hS => (hr_p_columns1 _ (hS.dropN 0))) _hc_p_columns1 rfl) (fun v a w hR hF => ?_)
            clear hS
            obtain ⟨A5, c5, rfl, hS⟩ := hR
            have hS : Sep w0 B w (blk g1 109 #[.slice A1 p_rows1.length c1, .slice A2 p_columns1.length c2, .slice A3 p_cells1.length c3] :: rows 22 3 (.slice A3 p_cells1.length c3) hd10 p7 :: own 3 (.slice A5 r3.length c5) (vI r3) :: fs) := hS
            refine at_run 1 [] [] [0, 3, 8, 63, 64, 65, 73, 74] [pl 0 (.pointer (some ⟨g1, 0, none⟩)), pl 3 (.bool more5), pl 8 (.int .i64 z2), pl 63 (.slice A2 p_columns1.length c2), pl 64 (.int .i64 (p_columns1.length : Int)), pl 65 (.int .i64 z2), pl 73 (.slice A5 r3.length c5), pl 74 (.slice (hdA hd2 z2) ((geti2 p_columns1 z2).length) (hdC hd2 z2))] hF hS (by kernel_rfl) (by kernel_rfl) ?_ (fun a w hF hS => ?_)
            · exact obs_nil
            refine at_call (f := 115) (args := #[.slice A5 r3.length c5, .slice (hdA hd2 z2) ((geti2 p_columns1 z2).length) (hdC hd2 z2)]) (d := 75) hF (by kernel_rfl) (by kernel_rfl) Try.func115 (by kernel_rfl) rfl (nono_sure_w hr4 hS (fun _ hS => (hS.at_ 2 rfl).rd) ((hS.at_ 2 rfl).cap1) rfl (fun _ hS => ((hr_p_columns1 _ (hS.dropN 3)).row _ hp5).1) ((hr_p_columns1 _ (hS.dropN 3)).row _ hp5).2 rfl) (fun v a w hR hF => ?_)
            clear hS
            obtain ⟨A6, c6, rfl, hS⟩ := hR
            have hS : Sep w0 B w (own 3 (.slice A6 r4.1.length c6) (vI r4.1) :: blk g1 109 #[.slice A1 p_rows1.length c1, .slice A2 p_columns1.length c2, .slice A3 p_cells1.length c3] :: rows 22 3 (.slice A3 p_cells1.length c3) hd10 p7 :: own 3 (.slice A5 r3.length c5) (vI r3) :: fs) := hS
            refine at_run 5 [] [] [0, 3, 8, 10, 11, 63, 64, 65] [pl 0 (.pointer (some ⟨g1, 0, none⟩)), pl 3 (.bool more5), pl 8 (.int .i64 z2), pl 10 (.slice A6 r4.1.length c6), pl 11 (.bool r4.2), pl 63 (.slice A2 p_columns1.length c2), pl 64 (.int .i64 (p_columns1.length : Int)), pl 65 (.int .i64 z2)] hF hS (by kernel_rfl) (by kernel_rfl) ?_ (fun a w hF hS => ?_)
            · exact obs_nil
            refine at_end [0, 3, 8, 10, 11, 63, 64, 65] [pl 0 (.pointer (some ⟨g1, 0, none⟩)), pl 3 (.bool more5), pl 8 (.int .i64 z2), pl 10 (.slice A6 r4.1.length c6), pl 11 (.bool r4.2), pl 63 (.slice A2 p_columns1.length c2), pl 64 (.int .i64 (p_columns1.length : Int)), pl 65 (.int .i64 z2)] hF rfl (by kernel_rfl) (fun hF => ?_)
            refine then_n ?_
            refine seq_cut (fun a w => Fr 114 [pl 0 (.pointer (some ⟨g1, 0, none⟩)), pl 3 (.bool more5), pl 8 (.int .i64 z2), pl 10 (.slice A6 r4.1.length c6), pl 63 (.slice A2 p_columns1.length c2), pl 64 (.int .i64 (p_columns1.length : Int)), pl 65 (.int .i64 z2)] a ∧ Sep w0 B w (blk g1 109 #[.slice A1 p_rows1.length c1, .slice A2 p_columns1.length c2, .slice A3 p_cells1.length c3] :: rows 22 3 (.slice A3 p_cells1.length c3) hd10 p7 :: own 3 (.slice A6 r4.1.length c6) (vI r4.1) :: fs) ∧ ((nono_picture_push_2_J9 p_cells1 p7 more5 z2 r4)).bind φ3 = some r) ?_ ?_
            · rintro a w ⟨hF, hS, hm⟩
              unfold nono_picture_push_2_J9 at hm
              refine reg [] [] [0, 3, 8, 63, 64, 65, 80, 81, 82] [pl 0 (.pointer (some ⟨g1, 0, none⟩)), pl 3 (.bool more5), pl 8 (.int .i64 z2), pl 63 (.slice A2 p_columns1.length c2), pl 64 (.int .i64 (p_columns1.length : Int)), pl 65 (.int .i64 z2), pl 80 (.slice A6 r4.1.length c6), pl 81 (.int .i64 (r4.1.length : Int)), pl 82 (.int .i64 0)] hF hS Fol (by kernel_rfl) (by kernel_rfl) (by kernel_rfl) ?_ (fun a w hF hS => ?_)
              · exact obs_nil
              refine wpIn_block ?_
              refine wp_loop_model (S := (List (List Int) × Bool × Int)) (R := (List (List Int) × Bool)) (nono_picture_push_2_L4 p_cells1 z2 r4) (fun x => ((nono_picture_push_2_K4 z2) x).bind φ3) r (fun (x : (List (List Int) × Bool × Int)) a w => ∃ (hd11 : List Hd), Fr 114 [pl 0 (.pointer (some ⟨g1, 0, none⟩)), pl 3 (.bool x.2.1), pl 8 (.int .i64 z2), pl 63 (.slice A2 p_columns1.length c2), pl 64 (.int .i64 (p_columns1.length : Int)), pl 65 (.int .i64 z2), pl 80 (.slice A6 r4.1.length c6), pl 81 (.int .i64 (r4.1.length : Int)), pl 82 (.int .i64 x.2.2)] a ∧ Sep w0 B w (blk g1 109 #[.slice A1 p_rows1.length c1, .slice A2 p_columns1.length c2, .slice A3 p_cells1.length c3] :: rows 22 3 (.slice A3 p_cells1.length c3) hd11 x.1 :: own 3 (.slice A6 r4.1.length c6) (vI r4.1) :: fs)) (assoc_b hm) ⟨hd10, hF.weak [0, 3, 8, 63, 64, 65, 80, 81, 82] (by kernel_rfl), hS⟩ ?_
              clear hF hS hm
              rintro nn4 ⟨p8, more6, z3⟩ a w ⟨hd11, hF, hS⟩ hm
              generalize hφ4 : stK (nono_picture_push_2_L4 p_cells1 z2 r4) nn4 (fun x => ((nono_picture_push_2_K4 z2) x).bind φ3) = φ4 at hm
              unfold nono_picture_push_2_L4 at hm
              dsimp only at hF hS hm
              refine reg [] [] [0, 3, 8, 63, 64, 65, 80, 81, 82, 83] [pl 0 (.pointer (some ⟨g1, 0, none⟩)), pl 3 (.bool more6), pl 8 (.int .i64 z2), pl 63 (.slice A2 p_columns1.length c2), pl 64 (.int .i64 (p_columns1.length : Int)), pl 65 (.int .i64 z2), pl 80 (.slice A6 r4.1.length c6), pl 81 (.int .i64 (r4.1.length : Int)), pl 82 (.int .i64 z3), pl 83 (.bool (decide (z3 < (r4.1.length : Int))))] hF hS Fol (by kernel_rfl) (by kernel_rfl) (by kernel_rfl) ?_ (fun a w hF hS => ?_)
              · exact obs_nil
              refine seq_cut (fun a w => Fr 114 [pl 0 (.pointer (some ⟨g1, 0, none⟩)), pl 3 (.bool more6), pl 8 (.int .i64 z2), pl 63 (.slice A2 p_columns1.length c2), pl 64 (.int .i64 (p_columns1.length : Int)), pl 65 (.int .i64 z2), pl 80 (.slice A6 r4.1.length c6), pl 81 (.int .i64 (r4.1.length : Int)), pl 82 (.int .i64 z3)] a ∧ Sep w0 B w (blk g1 109 #[.slice A1 p_rows1.length c1, .slice A2 p_columns1.length c2, .slice A3 p_cells1.length c3] :: rows 22 3 (.slice A3 p_cells1.length c3) hd11 p8 :: own 3 (.slice A6 r4.1.length c6) (vI r4.1) :: fs) ∧ ((nono_picture_push_2_J10 p_cells1 z2 r4 p8 more6 z3)).bind φ4 = some r) ?_ ?_
              · rintro a w ⟨hF, hS, hm⟩
                unfold nono_picture_push_2_J10 at hm
                refine seq_cut (fun a w => Fr 114 [pl 0 (.pointer (some ⟨g1, 0, none⟩)), pl 3 (.bool (more6 || ((geti (geti2 p8 z3) z2) != (geti r4.1 z3)))), pl 8 (.int .i64 z2), pl 63 (.slice A2 p_columns1.length c2), pl 64 (.int .i64 (p_columns1.length : Int)), pl 65 (.int .i64 z2), pl 80 (.slice A6 r4.1.length c6), pl 81 (.int .i64 (r4.1.length : Int)), pl 82 (.int .i64 z3)] a ∧ Sep w0 B w (blk g1 109 #[.slice A1 p_rows1.length c1, .slice A2 p_columns1.length c2, .slice A3 p_cells1.length c3] :: rows 22 3 (.slice A3 p_cells1.length c3) hd11 (p8.set (Int.toNat z3) ((geti2 p8 z3).set (Int.toNat z2) (geti r4.1 z3))) :: own 3 (.slice A6 r4.1.length c6) (vI r4.1) :: fs) ∧ ((nono_picture_push_2_J11 z2 r4 p8 more6 z3)).bind φ4 = some r) ?_ ?_
                · rintro a w ⟨hF, hS, hm⟩
                  unfold nono_picture_push_2_J11 at hm
                  refine reg1 [] [] [0, 3, 8, 63, 64, 65, 80, 81, 82] [pl 0 (.pointer (some ⟨g1, 0, none⟩)), pl 3 (.bool (more6 || ((geti (geti2 p8 z3) z2) != (geti r4.1 z3)))), pl 8 (.int .i64 z2), pl 63 (.slice A2 p_columns1.length c2), pl 64 (.int .i64 (p_columns1.length : Int)), pl 65 (.int .i64 z2), pl 80 (.slice A6 r4.1.length c6), pl 81 (.int .i64 (r4.1.length : Int)), pl 82 (.int .i64 (w64 (z3 + 1)))] hF hS Fol (by kernel_rfl) (by kernel_rfl) (by kernel_rfl) ?_ (fun a w hF hS => ?_)
                  · exact obs_nil
                  refine then_n ?_
                  rw [← hφ4] at hm
                  exact ⟨((p8.set (Int.toNat z3) ((geti2 p8 z3).set (Int.toNat z2) (geti r4.1 z3))), (more6 || ((geti (geti2 p8 z3) z2) != (geti r4.1 z3))), (w64 (z3 + 1))), ⟨hd11, hF.weak [0, 3, 8, 63, 64, 65, 80, 81, 82] (by kernel_rfl), hS⟩, hm⟩
                · refine wpIn_block ?_
                  obtain ⟨hp6, hm⟩ := asrt_b hm
                  refine reg [⟨true, [], vS (Instr.indexAt 22 (.slice A6 r4.1.length c6) (.int .i64 z3)), .pointer (some (sAddr A6 z3))⟩, ⟨false, [], vS (Instr.loadAt 3 (.pointer (some (sAddr A6 z3)))), .int .i64 (geti r4.1 z3)⟩] [none, some (.pointer (some (sAddr A6 z3))), some (.int .i64 (geti r4.1 z3)), none, none] [0, 3, 8, 12, 13, 63, 64, 65, 80, 81, 82] [pl 0 (.pointer (some ⟨g1, 0, none⟩)), pl 3 (.bool more6), pl 8 (.int .i64 z2), pl 12 (.int .i64 z3), pl 13 (.int .i64 (geti r4.1 z3)), pl 63 (.slice A2 p_columns1.length c2), pl 64 (.int .i64 (p_columns1.length : Int)), pl 65 (.int .i64 z2), pl 80 (.slice A6 r4.1.length c6), pl 81 (.int .i64 (r4.1.length : Int)), pl 82 (.int .i64 z3)] hF hS Fol (by kernel_rfl) (by kernel_rfl) (by kernel_rfl) ?_ (fun a w hF hS => ?_)
                  · exact obs_cons (ob_ix1 (f := (Value.int .i64)) (m := r4.1) Und22 hi3 hs3 (hS.at_ 2 rfl).rd rfl (fun _ => hp6)) <| obs_cons (ob_get1 (n := r4.1.length) (m := r4.1) (Value.int .i64) (0 : Int) Agg3 (fun _ hS => ⟨_, (hS.at_ 2 rfl).rd⟩) (fun _ hS => rfl) (fun _ => hp6)) <| obs_nil
                  obtain ⟨hp7, hm⟩ := asrt_b hm
                  obtain ⟨hp8, hm⟩ := asrt_b hm
                  refine reg [⟨false, [(more6, false)], vS (Instr.loadAt 36 (.pointer (some ⟨g1, 2, none⟩))), .slice A3 p_cells1.length c3⟩, ⟨true, [(more6, false)], vS (Instr.indexAt 36 (.slice A3 p_cells1.length c3) (.int .i64 z3)), .pointer (some (sAddr A3 z3))⟩, ⟨false, [(more6, false)], vS (Instr.loadAt 22 (.pointer (some (sAddr A3 z3)))), .slice (hdA hd11 z3) ((geti2 p8 z3).length) (hdC hd11 z3)⟩, ⟨true, [(more6, false)], vS (Instr.indexAt 22 (.slice (hdA hd11 z3) ((geti2 p8 z3).length) (hdC hd11 z3)) (.int .i64 z2)), .pointer (some (sAddr (hdA hd11 z3) z2))⟩, ⟨false, [(more6, false)], vS (Instr.loadAt 3 (.pointer (some (sAddr (hdA hd11 z3) z2)))), .int .i64 (geti (geti2 p8 z3) z2)⟩] [none, none, none, none, none, some (.slice A3 p_cells1.length c3), none, some (.pointer (some (sAddr A3 z3))), some (.slice (hdA hd11 z3) ((geti2 p8 z3).length) (hdC hd11 z3)), none, some (.pointer (some (sAddr (hdA hd11 z3) z2))), some (.int .i64 (geti (geti2 p8 z3) z2)), none, none, none, none] [0, 3, 8, 12, 13, 63, 64, 65, 80, 81, 82] [pl 0 (.pointer (some ⟨g1, 0, none⟩)), pl 3 (.bool (more6 || ((geti (geti2 p8 z3) z2) != (geti r4.1 z3)))), pl 8 (.int .i64 z2), pl 12 (.int .i64 z3), pl 13 (.int .i64 (geti r4.1 z3)), pl 63 (.slice A2 p_columns1.length c2), pl 64 (.int .i64 (p_columns1.length : Int)), pl 65 (.int .i64 z2), pl 80 (.slice A6 r4.1.length c6), pl 81 (.int .i64 (r4.1.length : Int)), pl 82 (.int .i64 z3)] hF hS Fol (by kernel_rfl) (by kernel_rfl) (by kernel_rfl) ?_ (fun a w hF hS => ?_)
                  · exact obs_cons (ob_load Agg36 (fun _ _ hS => (hS.at_ 0 rfl).cell rfl)) <| obs_cons (ob_ixRn Und36 hi22 hs22 (hS.at_ 1 rfl).rdRows (hS.at_ 1 rfl).lenR (fun hy => hp7 (hy (more6, false) (by simp)))) <| obs_cons (ob_getR Agg22 (fun _ hS => ⟨_, (hS.at_ 1 rfl).rdRows⟩) (fun hy => rowb (n := p_cells1.length) (hS.at_ 1 rfl).lenR (hp7 (hy (more6, false) (by simp))))) <| obs_cons (ob_ix1 (f := (Value.int .i64)) (m := (geti2 p8 z3)) Und22 hi3 hs3 ((hS.at_ 1 rfl).rdRows.rowAny z3).1 rfl (fun hy => hp8 (hy (more6, false) (by simp)))) <| obs_cons (ob_get1 (n := (geti2 p8 z3).length) (m := (geti2 p8 z3)) (Value.int .i64) (0 : Int) Agg3 (fun _ hS => ⟨_, ((hS.at_ 1 rfl).rdRows.rowAny z3).1⟩) (fun _ hS => rfl) (fun hy => hp8 (hy (more6, false) (by simp)))) <| obs_nil
                  refine oneR ?_
                  obtain ⟨hp9, hm⟩ := asrt_b hm
                  obtain ⟨hp10, hm⟩ := asrt_b hm
                  have hb3 := rowb (n := p_cells1.length) (hS.at_ 1 rfl).lenR hp9
                  refine at_run 10 [⟨false, [], vS (Instr.loadAt 36 (.pointer (some ⟨g1, 2, none⟩))), .slice A3 p_cells1.length c3⟩, ⟨true, [], vS (Instr.indexAt 36 (.slice A3 p_cells1.length c3) (.int .i64 z3)), .pointer (some (sAddr A3 z3))⟩, ⟨false, [], vS (Instr.loadAt 22 (.pointer (some (sAddr A3 z3)))), .slice (hdA hd11 z3) ((geti2 p8 z3).length) (hdC hd11 z3)⟩, ⟨true, [], vS (Instr.indexAt 22 (.slice (hdA hd11 z3) ((geti2 p8 z3).length) (hdC hd11 z3)) (.int .i64 z2)), .pointer (some (sAddr (hdA hd11 z3) z2))⟩] [none, none, none, some (.slice A3 p_cells1.length c3), none, some (.pointer (some (sAddr A3 z3))), some (.slice (hdA hd11 z3) ((geti2 p8 z3).length) (hdC hd11 z3)), none, none, some (.pointer (some (sAddr (hdA hd11 z3) z2)))] [0, 3, 8, 63, 64, 65, 80, 81, 82, 110, 111] [pl 0 (.pointer (some ⟨g1, 0, none⟩)), pl 3 (.bool (more6 || ((geti (geti2 p8 z3) z2) != (geti r4.1 z3)))), pl 8 (.int .i64 z2), pl 63 (.slice A2 p_columns1.length c2), pl 64 (.int .i64 (p_columns1.length : Int)), pl 65 (.int .i64 z2), pl 80 (.slice A6 r4.1.length c6), pl 81 (.int .i64 (r4.1.length : Int)), pl 82 (.int .i64 z3), pl 110 (.int .i64 (geti r4.1 z3)), pl 111 (.pointer (some (sAddr (hdA hd11 z3) z2)))] hF hS (by kernel_rfl) (by kernel_rfl) ?_ (fun a w hF hS => ?_)
                  · exact obs_cons (ob_load Agg36 (fun _ _ hS => (hS.at_ 0 rfl).cell rfl)) <| obs_cons (ob_ixRn Und36 hi22 hs22 (hS.at_ 1 rfl).rdRows (hS.at_ 1 rfl).lenR (fun _ => hp9)) <| obs_cons (ob_getR Agg22 (fun _ hS => ⟨_, (hS.at_ 1 rfl).rdRows⟩) (fun _ => hb3)) <| obs_cons (ob_ix1 (f := (Value.int .i64)) (m := (geti2 p8 z3)) Und22 hi3 hs3 ((hS.at_ 1 rfl).rdRows.row _ hb3).1 rfl (fun _ => hp10)) <| obs_nil
                  have hS : Sep w0 B w (own 3 (.slice (hdA hd11 z3) (geti2 p8 z3).length (hdC hd11 z3)) (vI (geti2 p8 z3)) :: blk g1 109 #[.slice A1 p_rows1.length c1, .slice A2 p_columns1.length c2, .slice A3 p_cells1.length c3] :: rowsBut 22 3 (.slice A3 p_cells1.length c3) hd11 p8 (Int.toNat z3) :: own 3 (.slice A6 r4.1.length c6) (vI r4.1) :: fs) := (hS.at_ 1 rfl).takeRow hb3
                  obtain ⟨w, hrun, hS⟩ := run_set1 (P := Try.prog) (t := 3) (x := (geti r4.1 z3)) (l := []) (Value.int .i64) hS hi3 hs3 rfl rfl hp10
                  refine at_skip hF (by kernel_rfl) hrun ?_
                  have hS := (hS.at2 1 rfl).putRowN hb3 (by rw [List.length_set])
                  have hS : Sep w0 B w (blk g1 109 #[.slice A1 p_rows1.length c1, .slice A2 p_columns1.length c2, .slice A3 p_cells1.length c3] :: rows 22 3 (.slice A3 p_cells1.length c3) hd11 (p8.set (Int.toNat z3) ((geti2 p8 z3).set (Int.toNat z2) (geti r4.1 z3))) :: own 3 (.slice A6 r4.1.length c6) (vI r4.1) :: fs) := hS
                  refine at_end [0, 3, 8, 63, 64, 65, 80, 81, 82] [pl 0 (.pointer (some ⟨g1, 0, none⟩)), pl 3 (.bool (more6 || ((geti (geti2 p8 z3) z2) != (geti r4.1 z3)))), pl 8 (.int .i64 z2), pl 63 (.slice A2 p_columns1.length c2), pl 64 (.int .i64 (p_columns1.length : Int)), pl 65 (.int .i64 z2), pl 80 (.slice A6 r4.1.length c6), pl 81 (.int .i64 (r4.1.length : Int)), pl 82 (.int .i64 z3)] hF rfl (by kernel_rfl) (fun hF => ?_)
                  refine block_n ?_
                  refine then_n ?_
                  exact ⟨hF.weak [0, 3, 8, 63, 64, 65, 80, 81, 82] (by kernel_rfl), hS, hm⟩
              · refine cond_ev (t := 83) (b := decide (z3 < (r4.1.length : Int))) hF (by kernel_rfl) (fun hb => ?_) (fun hb => ?_)
                · replace hm := if_t hm hb
                  refine wpIn_skip ?_
                  refine then_n ?_
                  exact ⟨hF.weak [0, 3, 8, 63, 64, 65, 80, 81, 82] (by kernel_rfl), hS, hm⟩
                · replace hm := if_f hm hb
                  refine wpIn_exit ?_
                  refine then_e (then_e (block_e (block_n (then_n ?_))))
                  have hS := hS.pickN 3 [0, 1] (by decide)
                  rw [← hφ4] at hm
                  replace hm := done_b hm
                  unfold nono_picture_push_2_K4 at hm
                  try dsimp only at hm
                  have hm : ((nono_picture_push_2_J8 z2) p8 more6).bind φ3 = some r := hm
                  exact ⟨p8, more6, hd11, hF.weak [0, 3, 63, 64, 65] (by kernel_rfl), hS, hm⟩
            · refine reg [] [] [0, 3, 8, 10, 63, 64, 65, 79] [pl 0 (.pointer (some ⟨g1, 0, none⟩)), pl 3 (.bool more5), pl 8 (.int .i64 z2), pl 10 (.slice A6 r4.1.length c6), pl 63 (.slice A2 p_columns1.length c2), pl 64 (.int .i64 (p_columns1.length : Int)), pl 65 (.int .i64 z2), pl 79 (.bool (!r4.2))] hF hS Fol (by kernel_rfl) (by kernel_rfl) (by kernel_rfl) ?_ (fun a w hF hS => ?_)
              · exact obs_nil
              refine cond_ev (t := 79) (b := !r4.2) hF (by kernel_rfl) (fun hb => ?_) (fun hb => ?_)
              · replace hm := if_t hm hb
                refine reg [] [] [2] [pl 2 (.bool false)] hF hS Fol (by kernel_rfl) (by kernel_rfl) (by kernel_rfl) ?_ (fun a w hF hS => ?_)
                · exact obs_nil
                refine wpIn_ret ?_
                refine then_r (block_r (then_r (then_r (block_r (block_r (then_r (block_r (then_r ?_))))))))
                rw [← hφ3] at hm
                replace hm := done_b hm
                unfold nono_picture_push_2_K3 at hm
                try dsimp only at hm
                rw [← hφ1] at hm
                replace hm := done_b hm
                unfold nono_picture_push_2_K1 at hm
                try dsimp only at hm
                have hS := hS.pickN 4 [1, 2] (by decide)
                have hm : some (false, p7) = some r := hm
                obtain rfl := Option.some.inj hm
                exact retV (rs := [.tmp 2]) (vs := [.bool false]) hF rfl (rv_t (by kernel_rfl) <| rv_nil) rfl ⟨_, rfl, hd10, rfl, hS⟩
              · replace hm := if_f hm hb
                refine wpIn_skip ?_
                refine then_n ?_
                have hS := hS.pickN 4 [1, 2, 0] (by decide)
                exact ⟨hF.weak [0, 3, 8, 10, 63, 64, 65] (by kernel_rfl), hS, hm⟩
        · refine cond_ev (t := 66) (b := decide (z2 < (p_columns1.length : Int))) hF (by kernel_rfl) (fun hb => ?_) (fun hb => ?_)
          · replace hm := if_t hm hb
            refine wpIn_skip ?_
            refine then_n ?_
            exact ⟨hF.weak [0, 3, 63, 64, 65] (by kernel_rfl), hS, hm⟩
          · replace hm := if_f hm hb
            refine wpIn_exit ?_
            refine then_e (then_e (block_e (block_n (then_n ?_))))
            rw [← hφ3] at hm
            replace hm := done_b hm
            unfold nono_picture_push_2_K3 at hm
            try dsimp only at hm
            have hm : (some (.next (p7, more5))).bind φ1 = some r := hm
            rw [← hφ1] at hm
            exact ⟨(p7, more5), ⟨hd10, hF.weak [0, 3] (by kernel_rfl), hS⟩, hm⟩
      · refine reg [⟨false, [], vS (Instr.loadAt 36 (.pointer (some ⟨g1, 0, none⟩))), .slice A1 p_rows1.length c1⟩] [none, none, none, some (.slice A1 p_rows1.length c1), none, none] [0, 3, 18, 19, 20] [pl 0 (.pointer (some ⟨g1, 0, none⟩)), pl 3 (.bool false), pl 18 (.slice A1 p_rows1.length c1), pl 19 (.int .i64 (p_rows1.length : Int)), pl 20 (.int .i64 0)] hF hS Fol (by kernel_rfl) (by kernel_rfl) (by kernel_rfl) ?_ (fun a w hF hS => ?_)
        · exact obs_cons (ob_load Agg36 (fun _ _ hS => (hS.at_ 0 rfl).cell rfl)) <| obs_nil
        refine wpIn_block ?_
        refine wp_loop_model (S := (List (List Int) × Bool × Int)) (R := (Fl (List (List Int) × Bool) (Bool × List (List Int)))) (nono_picture_push_2_L2 p_rows1 p_cells1) (fun x => ((nono_picture_push_2_K2 p_rows1 p_columns1 p_cells1) x).bind φ1) r (fun (x : (List (List Int) × Bool × Int)) a w => ∃ (hd7 : List Hd), Fr 114 [pl 0 (.pointer (some ⟨g1, 0, none⟩)), pl 3 (.bool x.2.1), pl 18 (.slice A1 p_rows1.length c1), pl 19 (.int .i64 (p_rows1.length : Int)), pl 20 (.int .i64 x.2.2)] a ∧ Sep w0 B w (blk g1 109 #[.slice A1 p_rows1.length c1, .slice A2 p_columns1.length c2, .slice A3 p_cells1.length c3] :: rows 22 3 (.slice A3 p_cells1.length c3) hd7 x.1 :: fs)) (assoc_b hm) ⟨hd5, hF.weak [0, 3, 18, 19, 20] (by kernel_rfl), hS⟩ ?_
        clear hF hS hm
        rintro nn2 ⟨p4, more2, z1⟩ a w ⟨hd7, hF, hS⟩ hm
        generalize hφ2 : stK (nono_picture_push_2_L2 p_rows1 p_cells1) nn2 (fun x => ((nono_picture_push_2_K2 p_rows1 p_columns1 p_cells1) x).bind φ1) = φ2 at hm
        unfold nono_picture_push_2_L2 at hm
        dsimp only at hF hS hm
        refine reg [] [] [0, 3, 18, 19, 20, 21] [pl 0 (.pointer (some ⟨g1, 0, none⟩)), pl 3 (.bool more2), pl 18 (.slice A1 p_rows1.length c1), pl 19 (.int .i64 (p_rows1.length : Int)), pl 20 (.int .i64 z1), pl 21 (.bool (decide (z1 < (p_rows1.length : Int))))] hF hS Fol (by kernel_rfl) (by kernel_rfl) (by kernel_rfl) ?_ (fun a w hF hS => ?_)
        · exact obs_nil
        refine seq_cut (fun a w => Fr 114 [pl 0 (.pointer (some ⟨g1, 0, none⟩)), pl 3 (.bool more2), pl 18 (.slice A1 p_rows1.length c1), pl 19 (.int .i64 (p_rows1.length : Int)), pl 20 (.int .i64 z1)] a ∧ Sep w0 B w (blk g1 109 #[.slice A1 p_rows1.length c1, .slice A2 p_columns1.length c2, .slice A3 p_cells1.length c3] :: rows 22 3 (.slice A3 p_cells1.length c3) hd7 p4 :: fs) ∧ ((nono_picture_push_2_J4 p_rows1 p_cells1 p4 more2 z1)).bind φ2 = some r) ?_ ?_
        · rintro a w ⟨hF, hS, hm⟩
          unfold nono_picture_push_2_J4 at hm
          refine seq_cut (fun a w => ∃ (p6 : List (List Int)) (more4 : Bool) (hd9 : List Hd), Fr 114 [pl 0 (.pointer (some ⟨g1, 0, none⟩)), pl 3 (.bool more4), pl 18 (.slice A1 p_rows1.length c1), pl 19 (.int .i64 (p_rows1.length : Int)), pl 20 (.int .i64 z1)] a ∧ Sep w0 B w (blk g1 109 #[.slice A1 p_rows1.length c1, .slice A2 p_columns1.length c2, .slice A3 p_cells1.length c3] :: rows 22 3 (.slice A3 p_cells1.length c3) hd9 p6 :: fs) ∧ ((nono_picture_push_2_J5 z1) p6 more4).bind φ2 = some r) ?_ ?_
          · rintro a w ⟨p6, more4, hd9, hF, hS, hm⟩
            unfold nono_picture_push_2_J5 at hm
            refine reg1 [] [] [0, 3, 18, 19, 20] [pl 0 (.pointer (some ⟨g1, 0, none⟩)), pl 3 (.bool more4), pl 18 (.slice A1 p_rows1.length c1), pl 19 (.int .i64 (p_rows1.length : Int)), pl 20 (.int .i64 (w64 (z1 + 1)))] hF hS Fol (by kernel_rfl) (by kernel_rfl) (by kernel_rfl) ?_ (fun a w hF hS => ?_)
            · exact obs_nil
            refine then_n ?_
            rw [← hφ2] at hm
            exact ⟨(p6, more4, (w64 (z1 + 1))), ⟨hd9, hF.weak [0, 3, 18, 19, 20] (by kernel_rfl), hS⟩, hm⟩
          · refine wpIn_block ?_
            obtain ⟨hp1, hm⟩ := asrt_b hm
            refine reg [⟨true, [], vS (Instr.indexAt 36 (.slice A1 p_rows1.length c1) (.int .i64 z1)), .pointer (some (sAddr A1 z1))⟩, ⟨false, [], vS (Instr.loadAt 22 (.pointer (some (sAddr A1 z1)))), .slice (hdA hd1 z1) ((geti2 p_rows1 z1).length) (hdC hd1 z1)⟩] [none, some (.pointer (some (sAddr A1 z1))), some (.slice (hdA hd1 z1) ((geti2 p_rows1 z1).length) (hdC hd1 z1)), none, none] [0, 3, 4, 5, 18, 19, 20] [pl 0 (.pointer (some ⟨g1, 0, none⟩)), pl 3 (.bool more2), pl 4 (.int .i64 z1), pl 5 (.slice (hdA hd1 z1) ((geti2 p_rows1 z1).length) (hdC hd1 z1)), pl 18 (.slice A1 p_rows1.length c1), pl 19 (.int .i64 (p_rows1.length : Int)), pl 20 (.int .i64 z1)] hF hS Fol (by kernel_rfl) (by kernel_rfl) (by kernel_rfl) ?_ (fun a w hF hS => ?_)
            · exact obs_cons (ob_ixRn Und36 hi22 hs22 (hr_p_rows1 _ (hS.dropN 2)) rfl (fun _ => hp1)) <| obs_cons (ob_getR Agg22 (fun _ hS => ⟨_, (hr_p_rows1 _ (hS.dropN 2))⟩) (fun _ => hp1)) <| obs_nil
            refine seqR ?_
            obtain ⟨hp2, hm⟩ := asrt_b hm
            obtain ⟨r1, hr1, hm⟩ := call_b hm
            have hb1 := rowb (n := p_cells1.length) (hS.at_ 1 rfl).lenR hp2
            refine at_run 8 [⟨false, [], vS (Instr.loadAt 36 (.pointer (some ⟨g1, 2, none⟩))), .slice A3 p_cells1.length c3⟩, ⟨true, [], vS (Instr.indexAt 36 (.slice A3 p_cells1.length c3) (.int .i64 z1)), .pointer (some (sAddr A3 z1))⟩, ⟨false, [], vS (Instr.loadAt 22 (.pointer (some (sAddr A3 z1)))), .slice (hdA hd7 z1) ((geti2 p4 z1).length) (hdC hd7 z1)⟩] [none, none, none, some (.slice A3 p_cells1.length c3), none, some (.pointer (some (sAddr A3 z1))), some (.slice (hdA hd7 z1) ((geti2 p4 z1).length) (hdC hd7 z1)), none] [0, 3, 4, 18, 19, 20, 32, 33] [pl 0 (.pointer (some ⟨g1, 0, none⟩)), pl 3 (.bool more2), pl 4 (.int .i64 z1), pl 18 (.slice A1 p_rows1.length c1), pl 19 (.int .i64 (p_rows1.length : Int)), pl 20 (.int .i64 z1), pl 32 (.slice (hdA hd7 z1) ((geti2 p4 z1).length) (hdC hd7 z1)), pl 33 (.slice (hdA hd1 z1) ((geti2 p_rows1 z1).length) (hdC hd1 z1))] hF hS (by kernel_rfl) (by kernel_rfl) ?_ (fun a w hF hS => ?_)
            · exact obs_cons (ob_load Agg36 (fun _ _ hS => (hS.at_ 0 rfl).cell rfl)) <| obs_cons (ob_ixRn Und36 hi22 hs22 (hS.at_ 1 rfl).rdRows (hS.at_ 1 rfl).lenR (fun _ => hp2)) <| obs_cons (ob_getR Agg22 (fun _ hS => ⟨_, (hS.at_ 1 rfl).rdRows⟩) (fun _ => hb1)) <| obs_nil
            refine at_call (f := 115) (args := #[.slice (hdA hd7 z1) ((geti2 p4 z1).length) (hdC hd7 z1), .slice (hdA hd1 z1) ((geti2 p_rows1 z1).length) (hdC hd1 z1)]) (d := 34) hF (by kernel_rfl) (by kernel_rfl) Try.func115 (by kernel_rfl) rfl (nono_sure_w hr1 hS (fun _ hS => ((hS.at_ 1 rfl).rdRows.row _ hb1).1) ((hS.at_ 1 rfl).rdRows.row _ hb1).2 rfl (fun _ hS => ((hr_p_rows1 _ (hS.dropN 2)).row _ hp1).1) ((hr_p_rows1 _ (hS.dropN 2)).row _ hp1).2 rfl) (fun v a w hR hF => ?_)
            clear hS
            obtain ⟨A4, c4, rfl, hS⟩ := hR
            have hS : Sep w0 B w (own 3 (.slice A4 r1.1.length c4) (vI r1.1) :: blk g1 109 #[.slice A1 p_rows1.length c1, .slice A2 p_columns1.length c2, .slice A3 p_cells1.length c3] :: rows 22 3 (.slice A3 p_cells1.length c3) hd7 p4 :: fs) := hS
            refine at_run 5 [] [] [0, 3, 4, 6, 7, 18, 19, 20] [pl 0 (.pointer (some ⟨g1, 0, none⟩)), pl 3 (.bool more2), pl 4 (.int .i64 z1), pl 6 (.slice A4 r1.1.length c4), pl 7 (.bool r1.2), pl 18 (.slice A1 p_rows1.length c1), pl 19 (.int .i64 (p_rows1.length : Int)), pl 20 (.int .i64 z1)] hF hS (by kernel_rfl) (by kernel_rfl) ?_ (fun a w hF hS => ?_)
            · exact obs_nil
            refine at_end [0, 3, 4, 6, 7, 18, 19, 20] [pl 0 (.pointer (some ⟨g1, 0, none⟩)), pl 3 (.bool more2), pl 4 (.int .i64 z1), pl 6 (.slice A4 r1.1.length c4), pl 7 (.bool r1.2), pl 18 (.slice A1 p_rows1.length c1), pl 19 (.int .i64 (p_rows1.length : Int)), pl 20 (.int .i64 z1)] hF rfl (by kernel_rfl) (fun hF => ?_)
            refine then_n ?_
            refine seq_cut (fun a w => Fr 114 [pl 0 (.pointer (some ⟨g1, 0, none⟩)), pl 3 (.bool more2), pl 4 (.int .i64 z1), pl 6 (.slice A4 r1.1.length c4), pl 18 (.slice A1 p_rows1.length c1), pl 19 (.int .i64 (p_rows1.length : Int)), pl 20 (.int .i64 z1)] a ∧ Sep w0 B w (blk g1 109 #[.slice A1 p_rows1.length c1, .slice A2 p_columns1.length c2, .slice A3 p_cells1.length c3] :: rows 22 3 (.slice A3 p_cells1.length c3) hd7 p4 :: own 3 (.slice A4 r1.1.length c4) (vI r1.1) :: fs) ∧ ((nono_picture_push_2_J6 p_cells1 p4 more2 z1 r1)).bind φ2 = some r) ?_ ?_
            · rintro a w ⟨hF, hS, hm⟩
              unfold nono_picture_push_2_J6 at hm
              obtain ⟨hp3, hm⟩ := asrt_b hm
              obtain ⟨r2, hr2, hm⟩ := call_b hm
              refine reg [⟨false, [(more2, false)], vS (Instr.loadAt 36 (.pointer (some ⟨g1, 2, none⟩))), .slice A3 p_cells1.length c3⟩, ⟨true, [(more2, false)], vS (Instr.indexAt 36 (.slice A3 p_cells1.length c3) (.int .i64 z1)), .pointer (some (sAddr A3 z1))⟩, ⟨false, [(more2, false)], vS (Instr.loadAt 22 (.pointer (some (sAddr A3 z1)))), .slice (hdA hd7 z1) ((geti2 p4 z1).length) (hdC hd7 z1)⟩, ⟨false, [(more2, false)], callFunc 116 #[.slice A4 r1.1.length c4, .slice (hdA hd7 z1) ((geti2 p4 z1).length) (hdC hd7 z1)], .bool r2⟩] [none, none, none, none, none, none, some (.slice A3 p_cells1.length c3), none, some (.pointer (some (sAddr A3 z1))), some (.slice (hdA hd7 z1) ((geti2 p4 z1).length) (hdC hd7 z1)), some (.bool r2), none, none, none] [0, 3, 4, 6, 18, 19, 20] [pl 0 (.pointer (some ⟨g1, 0, none⟩)), pl 3 (.bool (more2 || (!r2))), pl 4 (.int .i64 z1), pl 6 (.slice A4 r1.1.length c4), pl 18 (.slice A1 p_rows1.length c1), pl 19 (.int .i64 (p_rows1.length : Int)), pl 20 (.int .i64 z1)] hF hS Fol (by kernel_rfl) (by kernel_rfl) (by kernel_rfl) ?_ (fun a w hF hS => ?_)
              · exact obs_cons (ob_load Agg36 (fun _ _ hS => (hS.at_ 0 rfl).cell rfl)) <| obs_cons (ob_ixRn Und36 hi22 hs22 (hS.at_ 1 rfl).rdRows (hS.at_ 1 rfl).lenR (fun hy => hp3 (hy (more2, false) (by simp)))) <| obs_cons (ob_getR Agg22 (fun _ hS => ⟨_, (hS.at_ 1 rfl).rdRows⟩) (fun hy => rowb (n := p_cells1.length) (hS.at_ 1 rfl).lenR (hp3 (hy (more2, false) (by simp))))) <| obs_cons (ob_call Try.func116 (by kernel_rfl) rfl (fun hy _ hS => slices_Equal_w (ite_some hr2 (by rw [show more2 = false from hy (more2, false) (by simp)]; try rfl)) hS (fun _ hS => (hS.at_ 2 rfl).rd) ((hS.at_ 2 rfl).cap1) rfl (fun _ hS => ((hS.at_ 1 rfl).rdRows.rowAny z1).1) ((hS.at_ 1 rfl).rdRows.rowAny z1).2 rfl)) <| obs_nil
              refine oneR ?_
              obtain ⟨hp4, hm⟩ := asrt_b hm
              refine at_run 7 [⟨false, [], vS (Instr.loadAt 36 (.pointer (some ⟨g1, 2, none⟩))), .slice A3 p_cells1.length c3⟩, ⟨true, [], vS (Instr.indexAt 36 (.slice A3 p_cells1.length c3) (.int .i64 z1)), .pointer (some (sAddr A3 z1))⟩] [none, none, none, some (.slice A3 p_cells1.length c3), none, none, some (.pointer (some (sAddr A3 z1)))] [0, 3, 18, 19, 20, 57, 58] [pl 0 (.pointer (some ⟨g1, 0, none⟩)), pl 3 (.bool (more2 || (!r2))), pl 18 (.slice A1 p_rows1.length c1), pl 19 (.int .i64 (p_rows1.length : Int)), pl 20 (.int .i64 z1), pl 57 (.slice A4 r1.1.length c4), pl 58 (.pointer (some (sAddr A3 z1)))] hF hS (by kernel_rfl) (by kernel_rfl) ?_ (fun a w hF hS => ?_)
              · exact obs_cons (ob_load Agg36 (fun _ _ hS => (hS.at_ 0 rfl).cell rfl)) <| obs_cons (ob_ixRn Und36 hi22 hs22 (hS.at_ 1 rfl).rdRows (hS.at_ 1 rfl).lenR (fun _ => hp4)) <| obs_nil
              have hb2 := (rowb (hS.at_ 1 rfl).lenR hp4)
              have hS : Sep w0 B w (own 3 (.slice (hdA hd7 z1) (geti2 p4 z1).length (hdC hd7 z1)) (vI (geti2 p4 z1)) :: blk g1 109 #[.slice A1 p_rows1.length c1, .slice A2 p_columns1.length c2, .slice A3 p_cells1.length c3] :: rowsBut 22 3 (.slice A3 p_cells1.length c3) hd7 p4 (Int.toNat z1) :: own 3 (.slice A4 r1.1.length c4) (vI r1.1) :: fs) := (hS.at_ 1 rfl).takeRow hb2
              have hS := hS.pickN 4 [3, 1, 2] (by decide)
              have hS : Sep w0 B w (own 3 (.slice A4 r1.1.length c4) (vI r1.1) :: blk g1 109 #[.slice A1 p_rows1.length c1, .slice A2 p_columns1.length c2, .slice A3 p_cells1.length c3] :: rowsBut 22 3 (.slice A3 p_cells1.length c3) hd7 p4 (Int.toNat z1) :: fs) := hS
              obtain ⟨w, hrun, hS⟩ := run_storeRowN (P := Try.prog) (t := 22) (hS.at2 1 rfl) hi22 hs22 hb2
              refine at_skip hF (by kernel_rfl) hrun ?_
              try simp only [List.length_set] at hS
              have hS : Sep w0 B w (blk g1 109 #[.slice A1 p_rows1.length c1, .slice A2 p_columns1.length c2, .slice A3 p_cells1.length c3] :: rows 22 3 (.slice A3 p_cells1.length c3) (hd7.set (Int.toNat z1) (A4, c4)) (p4.set (Int.toNat z1) r1.1) :: fs) := hS
              refine at_end [0, 3, 18, 19, 20] [pl 0 (.pointer (some ⟨g1, 0, none⟩)), pl 3 (.bool (more2 || (!r2))), pl 18 (.slice A1 p_rows1.length c1), pl 19 (.int .i64 (p_rows1.length : Int)), pl 20 (.int .i64 z1)] hF rfl (by kernel_rfl) (fun hF => ?_)
              refine block_n ?_
              refine then_n ?_
              exact ⟨(p4.set (Int.toNat z1) r1.1), (more2 || (!r2)), (hd7.set (Int.toNat z1) (A4, c4)), hF.weak [0, 3, 18, 19, 20] (by kernel_rfl), hS, hm⟩
            · refine reg [] [] [0, 3, 4, 6, 18, 19, 20, 38] [pl 0 (.pointer (some ⟨g1, 0, none⟩)), pl 3 (.bool more2), pl 4 (.int .i64 z1), pl 6 (.slice A4 r1.1.length c4), pl 18 (.slice A1 p_rows1.length c1), pl 19 (.int .i64 (p_rows1.length : Int)), pl 20 (.int .i64 z1), pl 38 (.bool (!r1.2))] hF hS Fol (by kernel_rfl) (by kernel_rfl) (by kernel_rfl) ?_ (fun a w hF hS => ?_)
              · exact obs_nil
              refine cond_ev (t := 38) (b := !r1.2) hF (by kernel_rfl) (fun hb => ?_) (fun hb => ?_)
              · replace hm := if_t hm hb
                refine reg [] [] [2] [pl 2 (.bool false)] hF hS Fol (by kernel_rfl) (by kernel_rfl) (by kernel_rfl) ?_ (fun a w hF hS => ?_)
                · exact obs_nil
                refine wpIn_ret ?_
                refine then_r (block_r (then_r (then_r (block_r (then_r (block_r (then_r (block_r (then_r ?_)))))))))
                rw [← hφ2] at hm
                replace hm := done_b hm
                unfold nono_picture_push_2_K2 at hm
                try dsimp only at hm
                rw [← hφ1] at hm
                replace hm := done_b hm
                unfold nono_picture_push_2_K1 at hm
                try dsimp only at hm
                have hS := hS.pickN 3 [1, 2] (by decide)
                have hm : some (false, p4) = some r := hm
                obtain rfl := Option.some.inj hm
                exact retV (rs := [.tmp 2]) (vs := [.bool false]) hF rfl (rv_t (by kernel_rfl) <| rv_nil) rfl ⟨_, rfl, hd7, rfl, hS⟩
              · replace hm := if_f hm hb
                refine wpIn_skip ?_
                refine then_n ?_
                have hS := hS.pickN 3 [1, 2, 0] (by decide)
                exact ⟨hF.weak [0, 3, 4, 6, 18, 19, 20] (by kernel_rfl), hS, hm⟩
        · refine cond_ev (t := 21) (b := decide (z1 < (p_rows1.length : Int))) hF (by kernel_rfl) (fun hb => ?_) (fun hb => ?_)
          · replace hm := if_t hm hb
            refine wpIn_skip ?_
            refine then_n ?_
            exact ⟨hF.weak [0, 3, 18, 19, 20] (by kernel_rfl), hS, hm⟩
          · replace hm := if_f hm hb
            refine wpIn_exit ?_
            refine then_e (then_e (block_e (then_n ?_)))
            rw [← hφ2] at hm
            replace hm := done_b hm
            unfold nono_picture_push_2_K2 at hm
            try dsimp only at hm
            have hm : ((nono_picture_push_2_J3 p_rows1 p_columns1 p_cells1) p4 more2).bind φ1 = some r := hm
            exact ⟨p4, more2, hd7, hF.weak [0, 3] (by kernel_rfl), hS, hm⟩
    · refine reg [] [] [0, 14] [pl 0 (.pointer (some ⟨g1, 0, none⟩)), pl 14 (.bool more1)] hF hS Fol (by kernel_rfl) (by kernel_rfl) (by kernel_rfl) ?_ (fun a w hF hS => ?_)
      · exact obs_nil
      refine cond_ev (t := 14) (b := more1) hF (by kernel_rfl) (fun hb => ?_) (fun hb => ?_)
      · replace hm := if_t hm hb
        refine wpIn_skip ?_
        refine then_n ?_
        exact ⟨hF.weak [0] (by kernel_rfl), hS, hm⟩
      · replace hm := if_f hm hb
        refine wpIn_exit ?_
        refine then_e (then_e (block_e (then_n ?_)))
        rw [← hφ1] at hm
        replace hm := done_b hm
        unfold nono_picture_push_2_K1 at hm
        try dsimp only at hm
        have hm : (nono_picture_push_2_J1 p2).bind some = some r := hm
        exact ⟨p2, hd5, hF.weak [] (by kernel_rfl), hS, hm⟩

noncomputable def nono_picture_copied_J3  (z1 : Int) (q3 : List (List Int)) : Option (St (List (List Int) × Int) (List (List Int))) :=
  some (.next (q3, (w64 (z1 + 1))))

noncomputable def nono_picture_copied_J2  (p_cells1 : List (List Int)) (q1 : List (List Int)) (z1 : Int) : Option (St (List (List Int) × Int) (List (List Int))) :=
  asrt (0 ≤ z1 ∧ z1 < (p_cells1.length : Int)) <| (slices_Clone_m (geti2 p_cells1 z1)).bind fun r1 => asrt (((q1.length : Int) : Int) + 1 ≤ bigR) <| (nono_picture_copied_J3 z1) (q1 ++ [r1])

noncomputable def nono_picture_copied_J1  (q2 : List (List Int)) : Option (List (List Int)) :=
  some q2

noncomputable def nono_picture_copied_K1  : (List (List Int)) → Option (List (List Int)) :=
  fun (x : (List (List Int))) => match x with | q2 => nono_picture_copied_J1 q2

noncomputable def nono_picture_copied_L1  (p_cells1 : List (List Int)) : (List (List Int) × Int) → Option (St (List (List Int) × Int) (List (List Int))) :=
  fun (x : (List (List Int) × Int)) => match x with | (q1, z1) => if (decide (z1 < (p_cells1.length : Int))) then ((nono_picture_copied_J2 p_cells1 q1 z1)) else (some (.done q1))

noncomputable def nono_picture_copied_m  (p_rows1 : List (List Int)) (p_columns1 : List (List Int)) (p_cells1 : List (List Int)) : Option (List (List Int)) :=
  (loop (nono_picture_copied_L1 p_cells1) (([] : List (List Int)), 0)).bind nono_picture_copied_K1

set_option maxRecDepth 100000 in
set_option maxHeartbeats 4000000 in
theorem nono_picture_copied_w  {g1 : Nat} {A1 : Option Addr} {c1 : Nat} {n1 : Nat} {hd1 : List Hd} {p_rows1 : List (List Int)} {A2 : Option Addr} {c2 : Nat} {n2 : Nat} {hd2 : List Hd} {p_columns1 : List (List Int)} {A3 : Option Addr} {c3 : Nat} {n3 : Nat} {hd3 : List Hd} {p_cells1 : List (List Int)} {r : (List (List Int))} {w0 w : World} {B : Nat} {fs : List HP} (hm : nono_picture_copied_m p_rows1 p_columns1 p_cells1 = some r) (hS : Sep w0 B w (blk g1 109 #[.slice A1 n1 c1, .slice A2 n2 c2, .slice A3 n3 c3] :: rows 22 3 (.slice A3 n3 c3) hd3 p_cells1 :: fs)) (hr_p_rows1 : RdRowsF w0 B fs A1 hd1 p_rows1) (_hc_p_rows1 : p_rows1.length ≤ c1) (_hn_p_rows1 : n1 = p_rows1.length) (hr_p_columns1 : RdRowsF w0 B fs A2 hd2 p_columns1) (_hc_p_columns1 : p_columns1.length ≤ c2) (_hn_p_columns1 : n2 = p_columns1.length) :
    Calls Try.prog 114 #[.pointer (some ⟨g1, 0, none⟩)] w fun e w' => ∃ v, e = .returned v ∧ ∃ (g4 : Nat) (A10 : Option Addr) (c10 : Nat) (hd7 : List Hd), v = .pointer (some ⟨g4, 0, none⟩) ∧ Sep w0 B w' (blk g1 109 #[.slice A1 n1 c1, .slice A2 n2 c2, .slice A3 n3 c3] :: rows 22 3 (.slice A3 n3 c3) hd3 p_cells1 :: blk g4 109 #[.slice A1 n1 c1, .slice A2 n2 c2, .slice A10 r.length c10] :: rows 22 3 (.slice A10 r.length c10) hd7 r :: fs) := by
  obtain ⟨i22, hi22, hz22, hs22, hb22⟩ := info_parts Info22
  obtain ⟨i36, hi36, hz36, hs36, hb36⟩ := info_parts Info36
  obtain rfl := (hS.at_ 1 rfl).lenR
  obtain rfl := _hn_p_rows1
  obtain rfl := _hn_p_columns1
  unfold nono_picture_copied_m at hm
  replace hm := start_b hm
  refine enter (l := [.pointer (some ⟨g1, 0, none⟩)]) (n := 38) Try.func114 rfl rfl (by simp) (fun a hF => ?_)
  refine reg [] [] [0] [pl 0 (.pointer (some ⟨g1, 0, none⟩))] hF hS Fol (by kernel_rfl) (by kernel_rfl) (by kernel_rfl) ?_ (fun a w hF hS => ?_)
  · exact obs_nil
  refine wpIn_seq ?_
  refine regMix4 [0, 1, 2, 3, 4, 5, 6, 7, 8] [9, 10] [⟨false, [], vS (Instr.loadAt 36 (.pointer (some ⟨g1, 0, none⟩))), .slice A1 p_rows1.length c1⟩, ⟨false, [], vS (Instr.loadAt 36 (.pointer (some ⟨g1, 1, none⟩))), .slice A2 p_columns1.length c2⟩] [none, none, none, some (.slice A1 p_rows1.length c1), none, none, none, some (.slice A2 p_columns1.length c2), none] [0, 14] [pl 0 (.pointer (some ⟨g1, 0, none⟩)), pl 14 (.agg #[.slice A1 p_rows1.length c1, .slice A2 p_columns1.length c2, .slice none 0 0])] hF hS Fol (by kernel_rfl) (by kernel_rfl) (by kernel_rfl) (by kernel_rfl) (by kernel_rfl) ?_ (fun a w hF hS => ?_)
  · exact obs_cons (ob_load Agg36 (fun _ _ hS => (hS.at_ 0 rfl).cell rfl)) <| obs_cons (ob_load Agg36 (fun _ _ hS => (hS.at_ 0 rfl).cell rfl)) <| obs_nil
  refine at_do (d := 15) (s := vS (Instr.box 109 (.agg #[.slice A1 p_rows1.length c1, .slice A2 p_columns1.length c2, .slice none 0 0]))) (v := .pointer (some ⟨w.heap.size, 0, none⟩)) (w' := w.alloc (.cells #[.slice A1 p_rows1.length c1, .slice A2 p_columns1.length c2, .slice none 0 0] 109)) hF (by kernel_rfl) (by kernel_rfl) (by kernel_rfl) (fun a hF => ?_)
  have hS : Sep w0 B (w.alloc (.cells #[.slice A1 p_rows1.length c1, .slice A2 p_columns1.length c2, .slice none 0 0] 109)) (blk w.heap.size 109 #[.slice A1 p_rows1.length c1, .slice A2 p_columns1.length c2, .slice none 0 0] :: (blk g1 109 #[.slice A1 p_rows1.length c1, .slice A2 p_columns1.length c2, .slice A3 p_cells1.length c3] :: rows 22 3 (.slice A3 p_cells1.length c3) hd3 p_cells1 :: fs)) := hS.box 109 #[.slice A1 p_rows1.length c1, .slice A2 p_columns1.length c2, .slice none 0 0]
  generalize w.heap.size = g2 at hF hS
  generalize w.alloc (.cells #[.slice A1 p_rows1.length c1, .slice A2 p_columns1.length c2, .slice none 0 0] 109) = w at hS ⊢
  refine at_run 1 [] [] [0, 3] [pl 0 (.pointer (some ⟨g1, 0, none⟩)), pl 3 (.pointer (some ⟨g2, 0, none⟩))] hF hS (by kernel_rfl) (by kernel_rfl) ?_ (fun a w hF hS => ?_)
  · exact obs_nil
  refine at_end [0, 3] [pl 0 (.pointer (some ⟨g1, 0, none⟩)), pl 3 (.pointer (some ⟨g2, 0, none⟩))] hF rfl (by kernel_rfl) (fun hF => ?_)
  refine np_n ?_
  refine then_n ?_
  refine seq_cut (fun a w => ∃ (q2 : List (List Int)) (A5 : Option Addr) (c5 : Nat) (hd5 : List Hd), Fr 38 [pl 3 (.pointer (some ⟨g2, 0, none⟩))] a ∧ Sep w0 B w (blk g2 109 #[.slice A1 p_rows1.length c1, .slice A2 p_columns1.length c2, .slice A5 q2.length c5] :: rows 22 3 (.slice A5 q2.length c5) hd5 q2 :: blk g1 109 #[.slice A1 p_rows1.length c1, .slice A2 p_columns1.length c2, .slice A3 p_cells1.length c3] :: rows 22 3 (.slice A3 p_cells1.length c3) hd3 p_cells1 :: fs) ∧ (nono_picture_copied_J1 q2).bind some = some r) ?_ ?_
  · rintro a w ⟨q2, A5, c5, hd5, hF, hS, hm⟩
    unfold nono_picture_copied_J1 at hm
    refine reg [] [] [2] [pl 2 (.pointer (some ⟨g2, 0, none⟩))] hF hS Fol (by kernel_rfl) (by kernel_rfl) (by kernel_rfl) ?_ (fun a w hF hS => ?_)
    · exact obs_nil
    refine wpIn_ret ?_
    have hS := hS.pickN 4 [2, 3, 0, 1] (by decide)
    have hm : some q2 = some r := hm
    obtain rfl := Option.some.inj hm
    exact retV (rs := [.tmp 2]) (vs := [.pointer (some ⟨g2, 0, none⟩)]) hF rfl (rv_t (by kernel_rfl) <| rv_nil) rfl ⟨_, rfl, g2, A5, c5, hd5, rfl, hS⟩
  · refine reg [⟨false, [], vS (Instr.loadAt 36 (.pointer (some ⟨g1, 2, none⟩))), .slice A3 p_cells1.length c3⟩] [none, none, none, some (.slice A3 p_cells1.length c3), none, none] [3, 19, 20, 21] [pl 3 (.pointer (some ⟨g2, 0, none⟩)), pl 19 (.slice A3 p_cells1.length c3), pl 20 (.int .i64 (p_cells1.length : Int)), pl 21 (.int .i64 0)] hF hS Fol (by kernel_rfl) (by kernel_rfl) (by kernel_rfl) ?_ (fun a w hF hS => ?_)
    · exact obs_cons (ob_load Agg36 (fun _ _ hS => (hS.at_ 1 rfl).cell rfl)) <| obs_nil
    refine wpIn_block ?_
    have hS := hS.nilRows0 22 3
    have hS : Sep w0 B w (rows 22 3 (.slice none 0 0) ([]) ([] : List (List Int)) :: blk g2 109 #[.slice A1 p_rows1.length c1, .slice A2 p_columns1.length c2, .slice none 0 0] :: blk g1 109 #[.slice A1 p_rows1.length c1, .slice A2 p_columns1.length c2, .slice A3 p_cells1.length c3] :: rows 22 3 (.slice A3 p_cells1.length c3) hd3 p_cells1 :: fs) := hS
    have hl1 := (hS.at_ 0 rfl).lenR
    have hS := (hS.at_ 0 rfl).reNR hl1
    have hS := (hS.at_ 1 rfl).reBlk (congrArg (fun k9 => (#[.slice A1 p_rows1.length c1, .slice A2 p_columns1.length c2, .slice none k9 0] : Array Value)) hl1)
    have hS : Sep w0 B w (rows 22 3 (.slice none (([] : List (List Int)).length) 0) ([]) ([] : List (List Int)) :: blk g2 109 #[.slice A1 p_rows1.length c1, .slice A2 p_columns1.length c2, .slice none (([] : List (List Int)).length) 0] :: blk g1 109 #[.slice A1 p_rows1.length c1, .slice A2 p_columns1.length c2, .slice A3 p_cells1.length c3] :: rows 22 3 (.slice A3 p_cells1.length c3) hd3 p_cells1 :: fs) := hS
    have hS := hS.pickN 4 [1, 0, 3, 2] (by decide)
    refine wp_loop_model (S := (List (List Int) × Int)) (R := (List (List Int))) (nono_picture_copied_L1 p_cells1) (fun x => (nono_picture_copied_K1 x).bind some) r (fun (x : (List (List Int) × Int)) a w => ∃ (A4 : Option Addr) (c4 : Nat) (hd4 : List Hd), Fr 38 [pl 3 (.pointer (some ⟨g2, 0, none⟩)), pl 19 (.slice A3 p_cells1.length c3), pl 20 (.int .i64 (p_cells1.length : Int)), pl 21 (.int .i64 x.2)] a ∧ Sep w0 B w (blk g2 109 #[.slice A1 p_rows1.length c1, .slice A2 p_columns1.length c2, .slice A4 x.1.length c4] :: rows 22 3 (.slice A4 x.1.length c4) hd4 x.1 :: rows 22 3 (.slice A3 p_cells1.length c3) hd3 p_cells1 :: blk g1 109 #[.slice A1 p_rows1.length c1, .slice A2 p_columns1.length c2, .slice A3 p_cells1.length c3] :: fs)) (assoc_b hm) ⟨none, 0, ([]), hF.weak [3, 19, 20, 21] (by kernel_rfl), hS⟩ ?_
    clear hF hS hm
    rintro nn1 ⟨q1, z1⟩ a w ⟨A4, c4, hd4, hF, hS⟩ hm
    generalize hφ1 : stK (nono_picture_copied_L1 p_cells1) nn1 (fun x => (nono_picture_copied_K1 x).bind some) = φ1 at hm
    unfold nono_picture_copied_L1 at hm
    dsimp only at hF hS hm
    refine reg [] [] [3, 19, 20, 21, 22] [pl 3 (.pointer (some ⟨g2, 0, none⟩)), pl 19 (.slice A3 p_cells1.length c3), pl 20 (.int .i64 (p_cells1.length : Int)), pl 21 (.int .i64 z1), pl 22 (.bool (decide (z1 < (p_cells1.length : Int))))] hF hS Fol (by kernel_rfl) (by kernel_rfl) (by kernel_rfl) ?_ (fun a w hF hS => ?_)
    · exact obs_nil
    refine seq_cut (fun a w => Fr 38 [pl 3 (.pointer (some ⟨g2, 0, none⟩)), pl 19 (.slice A3 p_cells1.length c3), pl 20 (.int .i64 (p_cells1.length : Int)), pl 21 (.int .i64 z1)] a ∧ Sep w0 B w (blk g2 109 #[.slice A1 p_rows1.length c1, .slice A2 p_columns1.length c2, .slice A4 q1.length c4] :: rows 22 3 (.slice A4 q1.length c4) hd4 q1 :: rows 22 3 (.slice A3 p_cells1.length c3) hd3 p_cells1 :: blk g1 109 #[.slice A1 p_rows1.length c1, .slice A2 p_columns1.length c2, .slice A3 p_cells1.length c3] :: fs) ∧ ((nono_picture_copied_J2 p_cells1 q1 z1)).bind φ1 = some r) ?_ ?_
    · rintro a w ⟨hF, hS, hm⟩
      unfold nono_picture_copied_J2 at hm
      refine seq_cut (fun a w => ∃ (q3 : List (List Int)) (A9 : Option Addr) (c9 : Nat) (hd6 : List Hd), Fr 38 [pl 3 (.pointer (some ⟨g2, 0, none⟩)), pl 19 (.slice A3 p_cells1.length c3), pl 20 (.int .i64 (p_cells1.length : Int)), pl 21 (.int .i64 z1)] a ∧ Sep w0 B w (blk g2 109 #[.slice A1 p_rows1.length c1, .slice A2 p_columns1.length c2, .slice A9 q3.length c9] :: rows 22 3 (.slice A9 q3.length c9) hd6 q3 :: rows 22 3 (.slice A3 p_cells1.length c3) hd3 p_cells1 :: blk g1 109 #[.slice A1 p_rows1.length c1, .slice A2 p_columns1.length c2, .slice A3 p_cells1.length c3] :: fs) ∧ ((nono_picture_copied_J3 z1) q3).bind φ1 = some r) ?_ ?_
      · rintro a w ⟨q3, A9, c9, hd6, hF, hS, hm⟩
        unfold nono_picture_copied_J3 at hm
        refine reg1 [] [] [3, 19, 20, 21] [pl 3 (.pointer (some ⟨g2, 0, none⟩)), pl 19 (.slice A3 p_cells1.length c3), pl 20 (.int .i64 (p_cells1.length : Int)), pl 21 (.int .i64 (w64 (z1 + 1)))] hF hS Fol (by kernel_rfl) (by kernel_rfl) (by kernel_rfl) ?_ (fun a w hF hS => ?_)
        · exact obs_nil
        refine then_n ?_
        rw [← hφ1] at hm
        exact ⟨(q3, (w64 (z1 + 1))), ⟨A9, c9, hd6, hF.weak [3, 19, 20, 21] (by kernel_rfl), hS⟩, hm⟩
      · refine wpIn_block ?_
        obtain ⟨hp1, hm⟩ := asrt_b hm
        have hb1 := rowb (n := p_cells1.length) (hS.at_ 2 rfl).lenR hp1
        refine reg [⟨true, [], vS (Instr.indexAt 36 (.slice A3 p_cells1.length c3) (.int .i64 z1)), .pointer (some (sAddr A3 z1))⟩, ⟨false, [], vS (Instr.loadAt 22 (.pointer (some (sAddr A3 z1)))), .slice (hdA hd3 z1) ((geti2 p_cells1 z1).length) (hdC hd3 z1)⟩] [some (.pointer (some (sAddr A3 z1))), some (.slice (hdA hd3 z1) ((geti2 p_cells1 z1).length) (hdC hd3 z1)), none] [3, 5, 19, 20, 21] [pl 3 (.pointer (some ⟨g2, 0, none⟩)), pl 5 (.slice (hdA hd3 z1) ((geti2 p_cells1 z1).length) (hdC hd3 z1)), pl 19 (.slice A3 p_cells1.length c3), pl 20 (.int .i64 (p_cells1.length : Int)), pl 21 (.int .i64 z1)] hF hS Fol (by kernel_rfl) (by kernel_rfl) (by kernel_rfl) ?_ (fun a w hF hS => ?_)
        · exact obs_cons (ob_ixRn Und36 hi22 hs22 (hS.at_ 2 rfl).rdRows (hS.at_ 2 rfl).lenR (fun _ => hp1)) <| obs_cons (ob_getR Agg22 (fun _ hS => ⟨_, (hS.at_ 2 rfl).rdRows⟩) (fun _ => hb1)) <| obs_nil
        obtain ⟨r1, hr1, hm⟩ := call_b hm
        obtain ⟨hp2, hm⟩ := asrt_b hm
        refine regMix5 [0, 1, 2, 3, 4, 5] [8, 11] 6 #[true, true, true, true, true, true, false, false, false, false, false, false] [⟨false, [], vS (Instr.loadAt 36 (.pointer (some ⟨g2, 2, none⟩))), .slice A4 q1.length c4⟩] [none, none, none, none, some (.slice A4 q1.length c4), none] [3, 19, 20, 21, 25, 29, 30] [pl 3 (.pointer (some ⟨g2, 0, none⟩)), pl 19 (.slice A3 p_cells1.length c3), pl 20 (.int .i64 (p_cells1.length : Int)), pl 21 (.int .i64 z1), pl 25 (.pointer (some ⟨g2, 0, none⟩)), pl 29 (.slice A4 q1.length c4), pl 30 (.slice (hdA hd3 z1) ((geti2 p_cells1 z1).length) (hdC hd3 z1))] hF hS Fol (by kernel_rfl) (by kernel_rfl) (by kernel_rfl) (by kernel_rfl) ?_ (fun a w hF hS => ?_)
        · exact obs_cons (ob_load Agg36 (fun _ _ hS => (hS.at_ 0 rfl).cell rfl)) <| obs_nil
        refine any_step [6] (by kernel_rfl) rfl ?_
        refine (all_cons ?_ all_nil)
        · refine any_op (listed' := #[true, true, true, true, true, true, true, false, false, false, false, false]) (by kernel_rfl) (by kernel_rfl) ?_
          refine at_call (f := 102) (args := #[.slice (hdA hd3 z1) ((geti2 p_cells1 z1).length) (hdC hd3 z1)]) (d := 31) hF (by kernel_rfl) (by kernel_rfl) Try.func102 (by kernel_rfl) rfl (slices_Clone_w hr1 hS (fun _ hS => ((hS.at_ 2 rfl).rdRows.row _ hb1).1) ((hS.at_ 2 rfl).rdRows.row _ hb1).2 rfl) (fun v a w hR hF => ?_)
          clear hS
          obtain ⟨A8, c8, rfl, hS⟩ := hR
          have hS : Sep w0 B w (own 3 (.slice A8 r1.length c8) (vI r1) :: blk g2 109 #[.slice A1 p_rows1.length c1, .slice A2 p_columns1.length c2, .slice A4 q1.length c4] :: rows 22 3 (.slice A4 q1.length c4) hd4 q1 :: rows 22 3 (.slice A3 p_cells1.length c3) hd3 p_cells1 :: blk g1 109 #[.slice A1 p_rows1.length c1, .slice A2 p_columns1.length c2, .slice A3 p_cells1.length c3] :: fs) := hS
          refine any_fin rfl (hS.pickN 5 [1, 2, 3, 4] (by decide)) ?_
          refine any_step [7] (by kernel_rfl) rfl ?_
          refine (all_cons ?_ all_nil)
          · refine any_op (listed' := #[true, true, true, true, true, true, true, true, false, false, false, false]) (by kernel_rfl) (by kernel_rfl) ?_
            refine at_do (d := 32) (s := vS (Instr.buildSlice 36 1 #[(0, .slice A8 r1.length c8)])) (v := .slice (some ⟨w.heap.size, 0, none⟩) 1 1) (w' := w.alloc (.cells #[.slice A8 r1.length c8] 22)) hF (by kernel_rfl) (by kernel_rfl) (by kernel_rfl) (fun a hF => ?_)
            have hS : Sep w0 B (w.alloc (.cells #[.slice A8 r1.length c8] 22)) (own 22 (.slice (some (⟨w.heap.size, 0, none⟩ : Addr)) 1 1) [.slice A8 r1.length c8] :: (own 3 (.slice A8 r1.length c8) (vI r1) :: blk g2 109 #[.slice A1 p_rows1.length c1, .slice A2 p_columns1.length c2, .slice A4 q1.length c4] :: rows 22 3 (.slice A4 q1.length c4) hd4 q1 :: rows 22 3 (.slice A3 p_cells1.length c3) hd3 p_cells1 :: blk g1 109 #[.slice A1 p_rows1.length c1, .slice A2 p_columns1.length c2, .slice A3 p_cells1.length c3] :: fs)) := hS.lit 22 #[.slice A8 r1.length c8] 1 rfl (by omega)
            generalize (some (⟨w.heap.size, 0, none⟩ : Addr)) = g3 at hF hS
            generalize w.alloc (.cells #[.slice A8 r1.length c8] 22) = w at hS ⊢
            refine any_fin rfl (hS.pickN 6 [2, 3, 4, 5] (by decide)) ?_
            refine any_step [8] (by kernel_rfl) rfl ?_
            refine (all_cons ?_ all_nil)
            · refine any_op (listed' := #[true, true, true, true, true, true, true, true, true, false, false, false]) (by kernel_rfl) (by kernel_rfl) ?_
              have hS := hS.pickN 6 [1, 0, 2, 3, 4, 5] (by decide)
              have hS : Sep w0 B w (own 3 (.slice A8 r1.length c8) (vI r1) :: own 22 (.slice g3 1 1) [.slice A8 r1.length c8] :: blk g2 109 #[.slice A1 p_rows1.length c1, .slice A2 p_columns1.length c2, .slice A4 q1.length c4] :: rows 22 3 (.slice A4 q1.length c4) hd4 q1 :: rows 22 3 (.slice A3 p_cells1.length c3) hd3 p_cells1 :: blk g1 109 #[.slice A1 p_rows1.length c1, .slice A2 p_columns1.length c2, .slice A3 p_cells1.length c3] :: fs) := hS
              obtain ⟨A7, c7, w, hrun, hS⟩ := run_appRow (P := Try.prog) (t := 36) (A2 := g3) (c2 := 1) (hS.at2 2 rfl) (hS.at_ 1 rfl).rd 36 Und36 hi22 hz22 hs22 hb22 hp2
              have hS : Sep w0 B w (own 22 (.slice g3 1 1) [.slice A8 r1.length c8] :: blk g2 109 #[.slice A1 p_rows1.length c1, .slice A2 p_columns1.length c2, .slice A4 q1.length c4] :: rows 22 3 (.slice A7 ((q1 ++ [r1]).length) c7) (hd4 ++ [(A8, c8)]) (q1 ++ [r1]) :: rows 22 3 (.slice A3 p_cells1.length c3) hd3 p_cells1 :: blk g1 109 #[.slice A1 p_rows1.length c1, .slice A2 p_columns1.length c2, .slice A3 p_cells1.length c3] :: fs) := hS
              refine at_do (d := 33) hF (by kernel_rfl) (by kernel_rfl) hrun (fun a hF => ?_)
              refine any_finE rfl (by decide) ?_
              refine any_step [9] (by kernel_rfl) rfl ?_
              refine (all_cons ?_ all_nil)
              · refine any_op (listed' := #[true, true, true, true, true, true, true, true, true, true, false, false]) (by kernel_rfl) (by kernel_rfl) ?_
                refine at_runW 1 [] [] [3, 19, 20, 21, 33, 34] [pl 3 (.pointer (some ⟨g2, 0, none⟩)), pl 19 (.slice A3 p_cells1.length c3), pl 20 (.int .i64 (p_cells1.length : Int)), pl 21 (.int .i64 z1), pl 33 (.slice A7 ((q1 ++ [r1]).length) c7), pl 34 (.pointer (some ⟨g2, 0, none⟩))] hF hS (by kernel_rfl) (by kernel_rfl) ?_ (fun a hF => ?_)
                · exact obs_nil
                refine any_finI rfl (fun h => h) ?_
                refine any_step [10] (by kernel_rfl) rfl ?_
                refine (all_cons ?_ all_nil)
                · refine any_op (listed' := #[true, true, true, true, true, true, true, true, true, true, true, false]) (by kernel_rfl) (by kernel_rfl) ?_
                  refine at_runW 1 [] [] [3, 19, 20, 21, 33, 35] [pl 3 (.pointer (some ⟨g2, 0, none⟩)), pl 19 (.slice A3 p_cells1.length c3), pl 20 (.int .i64 (p_cells1.length : Int)), pl 21 (.int .i64 z1), pl 33 (.slice A7 ((q1 ++ [r1]).length) c7), pl 35 (.pointer (some ⟨g2, 2, none⟩))] hF hS (by kernel_rfl) (by kernel_rfl) ?_ (fun a hF => ?_)
                  · exact obs_nil
                  refine any_finI rfl (fun h => h) ?_
                  refine any_step [11] (by kernel_rfl) rfl ?_
                  refine (all_cons ?_ all_nil)
                  · refine any_op (listed' := #[true, true, true, true, true, true, true, true, true, true, true, true]) (by kernel_rfl) (by kernel_rfl) ?_
                    obtain ⟨w, hrun, hS⟩ := run_put (P := Try.prog) (t := 36) (u := .slice A7 ((q1 ++ [r1]).length) c7) (i := 2) (hS.at_ 1 rfl) hi36 hs36 rfl (Nat.lt_of_lt_of_eq (Nat.lt_of_succ_le (Nat.le_of_ble_eq_true (by kernel_rfl))) rfl)
                    refine at_skip hF (by kernel_rfl) hrun ?_
                    have hS : Sep w0 B w (own 22 (.slice g3 1 1) [.slice A8 r1.length c8] :: blk g2 109 #[.slice A1 p_rows1.length c1, .slice A2 p_columns1.length c2, .slice A7 ((q1 ++ [r1]).length) c7] :: rows 22 3 (.slice A7 ((q1 ++ [r1]).length) c7) (hd4 ++ [(A8, c8)]) (q1 ++ [r1]) :: rows 22 3 (.slice A3 p_cells1.length c3) hd3 p_cells1 :: blk g1 109 #[.slice A1 p_rows1.length c1, .slice A2 p_columns1.length c2, .slice A3 p_cells1.length c3] :: fs) := hS
                    refine any_finE rfl (by decide) ?_
                    refine any_end (by kernel_rfl) ?_
                    refine np_n ?_
                    refine block_n ?_
                    refine then_n ?_
                    have hS := hS.pickN 5 [1, 2, 3, 4] (by decide)
                    exact ⟨(q1 ++ [r1]), A7, c7, (hd4 ++ [(A8, c8)]), hF.weak [3, 19, 20, 21] (by kernel_rfl), hS, hm⟩
    · refine cond_ev (t := 22) (b := decide (z1 < (p_cells1.length : Int))) hF (by kernel_rfl) (fun hb => ?_) (fun hb => ?_)
      · replace hm := if_t hm hb
        refine wpIn_skip ?_
        refine then_n ?_
        exact ⟨hF.weak [3, 19, 20, 21] (by kernel_rfl), hS, hm⟩
      · replace hm := if_f hm hb
        refine wpIn_exit ?_
        refine then_e (then_e (block_e (then_n ?_)))
        have hS := hS.pickN 4 [0, 1, 3, 2] (by decide)
        rw [← hφ1] at hm
        replace hm := done_b hm
        unfold nono_picture_copied_K1 at hm
        try dsimp only at hm
        have hm : (nono_picture_copied_J1 q1).bind some = some r := hm
        exact ⟨q1, A4, c4, hd4, hF.weak [3] (by kernel_rfl), hS, hm⟩

noncomputable def slices_Grow_2_J2  (s1 : List Int) : Option (List Int) :=
  some s1

noncomputable def slices_Grow_2_J1  (n1 : Int) : Option (List Int) :=
  if (decide ((0 : Int) < (w64 (n1 - (w64 (0 - 0)))))) then (asrt ((0 : Int) ≤ (w64 (n1 - (w64 (0 - 0)))) ∧ (w64 (n1 - (w64 (0 - 0)))) ≤ bigN) <| asrt (0 ≤ (0 : Int) ∧ (0 : Int) ≤ (0 : Int) ∧ (0 : Int) ≤ (((List.replicate (Int.toNat (w64 (n1 - (w64 (0 - 0))))) (0 : Int)).length : Nat) : Int)) <| slices_Grow_2_J2 (cut (List.replicate (Int.toNat (w64 (n1 - (w64 (0 - 0))))) (0 : Int)) (0 : Int) (0 : Int))) else (slices_Grow_2_J2 ([] : List Int))

noncomputable def slices_Grow_2_m  (n1 : Int) : Option (List Int) :=
  if (decide (n1 < 0)) then none else ((slices_Grow_2_J1 n1))

set_option maxRecDepth 100000 in
set_option maxHeartbeats 4000000 in
theorem slices_Grow_2_w  {n1 : Int} {r : (List Int)} {w0 w : World} {B : Nat} {fs : List HP} (hm : slices_Grow_2_m n1 = some r) (hS : Sep w0 B w (fs)) :
    Calls Try.prog 118 #[.slice none 0 0, .int .i64 n1] w fun e w' => ∃ v, e = .returned v ∧ ∃ (A3 : Option Addr) (c3 : Nat), v = .slice A3 r.length c3 ∧ Sep w0 B w' (own 3 (.slice A3 r.length c3) (vI r) :: fs) := by
  obtain ⟨i3, hi3, hz3, hs3, hb3⟩ := info_parts Info3
  unfold slices_Grow_2_m at hm
  replace hm := start_b hm
  refine enter (l := [.slice none 0 0, .int .i64 n1]) (n := 27) Try.func118 rfl rfl (by simp) (fun a hF => ?_)
  refine reg [] [] [0, 1] [pl 0 (.slice none 0 0), pl 1 (.int .i64 n1)] hF hS Fol (by kernel_rfl) (by kernel_rfl) (by kernel_rfl) ?_ (fun a w hF hS => ?_)
  · exact obs_nil
  refine seq_cut (fun a w => Fr 27 [pl 0 (.slice none 0 0), pl 1 (.int .i64 n1)] a ∧ Sep w0 B w (fs) ∧ ((slices_Grow_2_J1 n1)).bind some = some r) ?_ ?_
  · rintro a w ⟨hF, hS, hm⟩
    unfold slices_Grow_2_J1 at hm
    refine seq_cut (fun a w => ∃ (s1 : List Int) (A2 : Option Addr) (c2 : Nat), Fr 27 [pl 0 (.slice A2 s1.length c2)] a ∧ Sep w0 B w (own 3 (.slice A2 s1.length c2) (vI s1) :: fs) ∧ (slices_Grow_2_J2 s1).bind some = some r) ?_ ?_
    · rintro a w ⟨s1, A2, c2, hF, hS, hm⟩
      unfold slices_Grow_2_J2 at hm
      refine reg [] [] [4] [pl 4 (.slice A2 s1.length c2)] hF hS Fol (by kernel_rfl) (by kernel_rfl) (by kernel_rfl) ?_ (fun a w hF hS => ?_)
      · exact obs_nil
      refine wpIn_ret ?_
      have hm : some s1 = some r := hm
      obtain rfl := Option.some.inj hm
      exact retV (rs := [.tmp 4]) (vs := [.slice A2 s1.length c2]) hF rfl (rv_t (by kernel_rfl) <| rv_nil) rfl ⟨_, rfl, A2, c2, rfl, hS⟩
    · refine reg [] [] [0, 1] [pl 0 (.slice none 0 0), pl 1 (.int .i64 (w64 (n1 - (w64 (0 - 0)))))] hF hS Fol (by kernel_rfl) (by kernel_rfl) (by kernel_rfl) ?_ (fun a w hF hS => ?_)
      · exact obs_nil
      refine reg [] [] [0, 1, 16] [pl 0 (.slice none 0 0), pl 1 (.int .i64 (w64 (n1 - (w64 (0 - 0))))), pl 16 (.bool (decide ((0 : Int) < (w64 (n1 - (w64 (0 - 0)))))))] hF hS Fol (by kernel_rfl) (by kernel_rfl) (by kernel_rfl) ?_ (fun a w hF hS => ?_)
      · exact obs_nil
      refine cond_ev (t := 16) (b := decide ((0 : Int) < (w64 (n1 - (w64 (0 - 0)))))) hF (by kernel_rfl) (fun hb => ?_) (fun hb => ?_)
      · replace hm := if_t hm hb
        refine oneR ?_
        obtain ⟨hp1, hm⟩ := asrt_b hm
        obtain ⟨hp2, hm⟩ := asrt_b hm
        refine at_run 5 [⟨true, [], vS (Instr.sliceAt 22 (.slice none 0 0) none (some (.int .i64 0)) none), .slice none 0 0⟩] [none, none, none, some (.slice none 0 0), none] [0, 20, 21] [pl 0 (.slice none 0 0), pl 20 (.slice none 0 0), pl 21 (.int .i64 (w64 (n1 - (w64 (0 - 0)))))] hF hS (by kernel_rfl) (by kernel_rfl) ?_ (fun a w hF hS => ?_)
        · exact obs_cons (ob_cut (k := .i64) (k' := .i64) (A := none) (l := ([] : List Int)) (c := 0) (lo := 0) (hi := 0) Und22 hi3 hs3 (.inr ⟨rfl, rfl⟩) (.inl rfl) (fun _ => by simp) (Nat.le_refl _)) <| obs_nil
        obtain ⟨A1, c1, w, hrun, hS⟩ := run_app01 (P := Try.prog) (t := 22) (tx := 3) (ty := 22) hS Und22 Try.underlying3 hi3 hz3 hs3 hb3 hp1
        have hS : Sep w0 B w (own 3 (.slice A1 ((List.replicate (Int.toNat (w64 (n1 - (w64 (0 - 0))))) (0 : Int)).length) c1) (vI (List.replicate (Int.toNat (w64 (n1 - (w64 (0 - 0))))) (0 : Int))) :: fs) := hS
        refine at_do (d := 22) hF (by kernel_rfl) (by kernel_rfl) hrun (fun a hF => ?_)
        refine at_run 4 [⟨true, [], vS (Instr.sliceAt 22 (.slice A1 ((List.replicate (Int.toNat (w64 (n1 - (w64 (0 - 0))))) (0 : Int)).length) c1) none (some (.int .i64 (0 : Int))) none), .slice (cutAddr A1 c1 (0 : Int)) ((cut (List.replicate (Int.toNat (w64 (n1 - (w64 (0 - 0))))) (0 : Int)) (0 : Int) (0 : Int)).length) (c1 - Int.toNat (0 : Int))⟩] [none, none, some (.slice (cutAddr A1 c1 (0 : Int)) ((cut (List.replicate (Int.toNat (w64 (n1 - (w64 (0 - 0))))) (0 : Int)) (0 : Int) (0 : Int)).length) (c1 - Int.toNat (0 : Int))), none] [0] [pl 0 (.slice (cutAddr A1 c1 (0 : Int)) ((cut (List.replicate (Int.toNat (w64 (n1 - (w64 (0 - 0))))) (0 : Int)) (0 : Int) (0 : Int)).length) (c1 - Int.toNat (0 : Int)))] hF hS (by kernel_rfl) (by kernel_rfl) ?_ (fun a w hF hS => ?_)
        · exact obs_cons (ob_cutn (l := (List.replicate (Int.toNat (w64 (n1 - (w64 (0 - 0))))) (0 : Int))) (k := .i64) (k' := .i64) Und22 hi3 hs3 rfl (.inr ⟨rfl, rfl⟩) (.inl rfl) (fun _ => hp2) ((hS.at_ 0 rfl).cap1)) <| obs_nil
        refine at_end [0] [pl 0 (.slice (cutAddr A1 c1 (0 : Int)) ((cut (List.replicate (Int.toNat (w64 (n1 - (w64 (0 - 0))))) (0 : Int)) (0 : Int) (0 : Int)).length) (c1 - Int.toNat (0 : Int)))] hF rfl (by kernel_rfl) (fun hF => ?_)
        refine then_n ?_
        have hS : Sep w0 B w (own 3 (.slice (cutAddr A1 c1 (0 : Int)) ((cut (List.replicate (Int.toNat (w64 (n1 - (w64 (0 - 0))))) (0 : Int)) (0 : Int) (0 : Int)).length) (c1 - Int.toNat (0 : Int))) (vI (cut (List.replicate (Int.toNat (w64 (n1 - (w64 (0 - 0))))) (0 : Int)) (0 : Int) (0 : Int))) :: fs) := (hS.at_ 0 rfl).prefixN rfl hp2
        exact ⟨(cut (List.replicate (Int.toNat (w64 (n1 - (w64 (0 - 0))))) (0 : Int)) (0 : Int) (0 : Int)), (cutAddr A1 c1 (0 : Int)), (c1 - Int.toNat (0 : Int)), hF.weak [0] (by kernel_rfl), hS, hm⟩
      · replace hm := if_f hm hb
        refine wpIn_skip ?_
        refine then_n ?_
        have hS : Sep w0 B w (own 3 (.slice none 0 0) (vI ([] : List Int)) :: fs) := hS.nil 3
        have hl1 := (hS.at_ 0 rfl).len1
        have hS := (hS.at_ 0 rfl).reN hl1
        have hS : Sep w0 B w (own 3 (.slice none (([] : List Int).length) 0) (vI ([] : List Int)) :: fs) := hS
        have hF := hF.cast (t := 0) (v := .slice none 0 0) (v' := .slice none (([] : List Int).length) 0) rfl rfl (congrArg (fun k => Value.slice none k 0) hl1)
        exact ⟨([] : List Int), none, 0, hF.weak [0] (by kernel_rfl), hS, hm⟩
  · refine reg [] [] [0, 1, 6] [pl 0 (.slice none 0 0), pl 1 (.int .i64 n1), pl 6 (.bool (decide (n1 < 0)))] hF hS Fol (by kernel_rfl) (by kernel_rfl) (by kernel_rfl) ?_ (fun a w hF hS => ?_)
    · exact obs_nil
    refine cond_ev (t := 6) (b := decide (n1 < 0)) hF (by kernel_rfl) (fun hb => ?_) (fun hb => ?_)
    · replace hm := if_t hm hb
      simp at hm
    · replace hm := if_f hm hb
      refine wpIn_skip ?_
      refine then_n ?_
      exact ⟨hF.weak [0, 1] (by kernel_rfl), hS, hm⟩

noncomputable def slices_Concat_2_J3  (slices1 : List (List Int)) (size1 : Int) (z1 : Int) : Option (St (Int × Int) Int) :=
  some (.next ((w64 (size1 + (((geti2 slices1 z1).length : Nat) : Int))), (w64 (z1 + 1))))

noncomputable def slices_Concat_2_J2  (slices1 : List (List Int)) (size1 : Int) (z1 : Int) : Option (St (Int × Int) Int) :=
  asrt (0 ≤ z1 ∧ z1 < (slices1.length : Int)) <| if (decide ((w64 (size1 + (((geti2 slices1 z1).length : Nat) : Int))) < 0)) then none else ((slices_Concat_2_J3 slices1 size1 z1))

noncomputable def slices_Concat_2_J6  (z2 : Int) (newslice3 : List Int) : Option (St (List Int × Int) (List Int)) :=
  some (.next (newslice3, (w64 (z2 + 1))))

noncomputable def slices_Concat_2_J5  (slices1 : List (List Int)) (newslice1 : List Int) (z2 : Int) : Option (St (List Int × Int) (List Int)) :=
  asrt (0 ≤ z2 ∧ z2 < (slices1.length : Int)) <| asrt ((newslice1.length : Int) + (((geti2 slices1 z2).length : Nat) : Int) ≤ bigN) <| (slices_Concat_2_J6 z2) (newslice1 ++ (geti2 slices1 z2))

noncomputable def slices_Concat_2_L2  (slices1 : List (List Int)) : (List Int × Int) → Option (St (List Int × Int) (List Int)) :=
  fun (x : (List Int × Int)) => match x with | (newslice1, z2) => if (decide (z2 < (slices1.length : Int))) then ((slices_Concat_2_J5 slices1 newslice1 z2)) else (some (.done newslice1))

noncomputable def slices_Concat_2_J4  (newslice2 : List Int) : Option (List Int) :=
  some newslice2

noncomputable def slices_Concat_2_K2  : (List Int) → Option (List Int) :=
  fun (x : (List Int)) => match x with | newslice2 => slices_Concat_2_J4 newslice2

noncomputable def slices_Concat_2_J1  (slices1 : List (List Int)) (size2 : Int) : Option (List Int) :=
  (slices_Grow_2_m size2).bind fun r1 => (loop (slices_Concat_2_L2 slices1) (r1, 0)).bind slices_Concat_2_K2

noncomputable def slices_Concat_2_K1  (slices1 : List (List Int)) : Int → Option (List Int) :=
  fun (x : Int) => match x with | size2 => (slices_Concat_2_J1 slices1) size2

noncomputable def slices_Concat_2_L1  (slices1 : List (List Int)) : (Int × Int) → Option (St (Int × Int) Int) :=
  fun (x : (Int × Int)) => match x with | (size1, z1) => if (decide (z1 < (slices1.length : Int))) then ((slices_Concat_2_J2 slices1 size1 z1)) else (some (.done size1))

noncomputable def slices_Concat_2_m  (slices1 : List (List Int)) : Option (List Int) :=
  (loop (slices_Concat_2_L1 slices1) (0, 0)).bind (slices_Concat_2_K1 slices1)

set_option maxRecDepth 100000 in
set_option maxHeartbeats 4000000 in
theorem slices_Concat_2_w  {A1 : Option Addr} {c1 : Nat} {n1 : Nat} {hd1 : List Hd} {slices1 : List (List Int)} {r : (List Int)} {w0 w : World} {B : Nat} {fs : List HP} (hm : slices_Concat_2_m slices1 = some r) (hS : Sep w0 B w (fs)) (hr_slices1 : RdRowsF w0 B fs A1 hd1 slices1) (_hc_slices1 : slices1.length ≤ c1) (_hn_slices1 : n1 = slices1.length) :
    Calls Try.prog 61 #[.slice A1 n1 c1] w fun e w' => ∃ v, e = .returned v ∧ ∃ (A7 : Option Addr) (c7 : Nat), v = .slice A7 r.length c7 ∧ Sep w0 B w' (own 3 (.slice A7 r.length c7) (vI r) :: fs) := by
  obtain ⟨i3, hi3, hz3, hs3, hb3⟩ := info_parts Info3
  obtain ⟨i22, hi22, hz22, hs22, hb22⟩ := info_parts Info22
  obtain rfl := _hn_slices1
  unfold slices_Concat_2_m at hm
  replace hm := start_b hm
  refine enter (l := [.slice A1 slices1.length c1]) (n := 36) Try.func61 rfl rfl (by simp) (fun a hF => ?_)
  refine reg [] [] [0] [pl 0 (.slice A1 slices1.length c1)] hF hS Fol (by kernel_rfl) (by kernel_rfl) (by kernel_rfl) ?_ (fun a w hF hS => ?_)
  · exact obs_nil
  refine reg [] [] [0, 3] [pl 0 (.slice A1 slices1.length c1), pl 3 (.int .i64 0)] hF hS Fol (by kernel_rfl) (by kernel_rfl) (by kernel_rfl) ?_ (fun a w hF hS => ?_)
  · exact obs_nil
  refine seq_cut (fun a w => ∃ (size2 : Int), Fr 36 [pl 0 (.slice A1 slices1.length c1), pl 3 (.int .i64 size2)] a ∧ Sep w0 B w (fs) ∧ ((slices_Concat_2_J1 slices1) size2).bind some = some r) ?_ ?_
  · rintro a w ⟨size2, hF, hS, hm⟩
    unfold slices_Concat_2_J1 at hm
    refine seqR ?_
    obtain ⟨r1, hr1, hm⟩ := call_b hm
    refine at_run 1 [] [] [0, 23] [pl 0 (.slice A1 slices1.length c1), pl 23 (.int .i64 size2)] hF hS (by kernel_rfl) (by kernel_rfl) ?_ (fun a w hF hS => ?_)
    · exact obs_nil
    refine at_call (f := 118) (args := #[.slice none 0 0, .int .i64 size2]) (d := 24) hF (by kernel_rfl) (by kernel_rfl) Try.func118 (by kernel_rfl) rfl (slices_Grow_2_w hr1 hS ) (fun v a w hR hF => ?_)
    clear hS
    obtain ⟨A2, c2, rfl, hS⟩ := hR
    have hS : Sep w0 B w (own 3 (.slice A2 r1.length c2) (vI r1) :: fs) := hS
    refine at_run 1 [] [] [0, 6] [pl 0 (.slice A1 slices1.length c1), pl 6 (.slice A2 r1.length c2)] hF hS (by kernel_rfl) (by kernel_rfl) ?_ (fun a w hF hS => ?_)
    · exact obs_nil
    refine at_end [0, 6] [pl 0 (.slice A1 slices1.length c1), pl 6 (.slice A2 r1.length c2)] hF rfl (by kernel_rfl) (fun hF => ?_)
    refine then_n ?_
    refine seq_cut (fun a w => ∃ (newslice2 : List Int) (A4 : Option Addr) (c4 : Nat), Fr 36 [pl 6 (.slice A4 newslice2.length c4)] a ∧ Sep w0 B w (own 3 (.slice A4 newslice2.length c4) (vI newslice2) :: fs) ∧ (slices_Concat_2_J4 newslice2).bind some = some r) ?_ ?_
    · rintro a w ⟨newslice2, A4, c4, hF, hS, hm⟩
      unfold slices_Concat_2_J4 at hm
      refine reg [] [] [2] [pl 2 (.slice A4 newslice2.length c4)] hF hS Fol (by kernel_rfl) (by kernel_rfl) (by kernel_rfl) ?_ (fun a w hF hS => ?_)
      · exact obs_nil
      refine wpIn_ret ?_
      have hm : some newslice2 = some r := hm
      obtain rfl := Option.some.inj hm
      exact retV (rs := [.tmp 2]) (vs := [.slice A4 newslice2.length c4]) hF rfl (rv_t (by kernel_rfl) <| rv_nil) rfl ⟨_, rfl, A4, c4, rfl, hS⟩
    · refine reg [] [] [6, 25, 26, 27] [pl 6 (.slice A2 r1.length c2), pl 25 (.slice A1 slices1.length c1), pl 26 (.int .i64 (slices1.length : Int)), pl 27 (.int .i64 0)] hF hS Fol (by kernel_rfl) (by kernel_rfl) (by kernel_rfl) ?_ (fun a w hF hS => ?_)
      · exact obs_nil
      refine wpIn_block ?_
      refine wp_loop_model (S := (List Int × Int)) (R := (List Int)) (slices_Concat_2_L2 slices1) (fun x => (slices_Concat_2_K2 x).bind some) r (fun (x : (List Int × Int)) a w => ∃ (A3 : Option Addr) (c3 : Nat), Fr 36 [pl 6 (.slice A3 x.1.length c3), pl 25 (.slice A1 slices1.length c1), pl 26 (.int .i64 (slices1.length : Int)), pl 27 (.int .i64 x.2)] a ∧ Sep w0 B w (own 3 (.slice A3 x.1.length c3) (vI x.1) :: fs)) (assoc_b hm) ⟨A2, c2, hF.weak [6, 25, 26, 27] (by kernel_rfl), hS⟩ ?_
      clear hF hS hm
      rintro nn2 ⟨newslice1, z2⟩ a w ⟨A3, c3, hF, hS⟩ hm
      generalize hφ2 : stK (slices_Concat_2_L2 slices1) nn2 (fun x => (slices_Concat_2_K2 x).bind some) = φ2 at hm
      unfold slices_Concat_2_L2 at hm
      dsimp only at hF hS hm
      refine reg [] [] [6, 25, 26, 27, 28] [pl 6 (.slice A3 newslice1.length c3), pl 25 (.slice A1 slices1.length c1), pl 26 (.int .i64 (slices1.length : Int)), pl 27 (.int .i64 z2), pl 28 (.bool (decide (z2 < (slices1.length : Int))))] hF hS Fol (by kernel_rfl) (by kernel_rfl) (by kernel_rfl) ?_ (fun a w hF hS => ?_)
      · exact obs_nil
      refine seq_cut (fun a w => Fr 36 [pl 6 (.slice A3 newslice1.length c3), pl 25 (.slice A1 slices1.length c1), pl 26 (.int .i64 (slices1.length : Int)), pl 27 (.int .i64 z2)] a ∧ Sep w0 B w (own 3 (.slice A3 newslice1.length c3) (vI newslice1) :: fs) ∧ ((slices_Concat_2_J5 slices1 newslice1 z2)).bind φ2 = some r) ?_ ?_
      · rintro a w ⟨hF, hS, hm⟩
        unfold slices_Concat_2_J5 at hm
        refine seq_cut (fun a w => ∃ (newslice3 : List Int) (A6 : Option Addr) (c6 : Nat), Fr 36 [pl 6 (.slice A6 newslice3.length c6), pl 25 (.slice A1 slices1.length c1), pl 26 (.int .i64 (slices1.length : Int)), pl 27 (.int .i64 z2)] a ∧ Sep w0 B w (own 3 (.slice A6 newslice3.length c6) (vI newslice3) :: fs) ∧ ((slices_Concat_2_J6 z2) newslice3).bind φ2 = some r) ?_ ?_
        · rintro a w ⟨newslice3, A6, c6, hF, hS, hm⟩
          unfold slices_Concat_2_J6 at hm
          refine reg1 [] [] [6, 25, 26, 27] [pl 6 (.slice A6 newslice3.length c6), pl 25 (.slice A1 slices1.length c1), pl 26 (.int .i64 (slices1.length : Int)), pl 27 (.int .i64 (w64 (z2 + 1)))] hF hS Fol (by kernel_rfl) (by kernel_rfl) (by kernel_rfl) ?_ (fun a w hF hS => ?_)
          · exact obs_nil
          refine then_n ?_
          rw [← hφ2] at hm
          exact ⟨(newslice3, (w64 (z2 + 1))), ⟨A6, c6, hF.weak [6, 25, 26, 27] (by kernel_rfl), hS⟩, hm⟩
        · refine wpIn_block ?_
          obtain ⟨hp2, hm⟩ := asrt_b hm
          refine reg [⟨true, [], vS (Instr.indexAt 36 (.slice A1 slices1.length c1) (.int .i64 z2)), .pointer (some (sAddr A1 z2))⟩, ⟨false, [], vS (Instr.loadAt 22 (.pointer (some (sAddr A1 z2)))), .slice (hdA hd1 z2) ((geti2 slices1 z2).length) (hdC hd1 z2)⟩] [some (.pointer (some (sAddr A1 z2))), some (.slice (hdA hd1 z2) ((geti2 slices1 z2).length) (hdC hd1 z2)), none] [6, 8, 25, 26, 27] [pl 6 (.slice A3 newslice1.length c3), pl 8 (.slice (hdA hd1 z2) ((geti2 slices1 z2).length) (hdC hd1 z2)), pl 25 (.slice A1 slices1.length c1), pl 26 (.int .i64 (slices1.length : Int)), pl 27 (.int .i64 z2)] hF hS Fol (by kernel_rfl) (by kernel_rfl) (by kernel_rfl) ?_ (fun a w hF hS => ?_)
          · exact obs_cons (ob_ixRn Und36 hi22 hs22 (hr_slices1 _ (hS.dropN 1)) rfl (fun _ => hp2)) <| obs_cons (ob_getR Agg22 (fun _ hS => ⟨_, (hr_slices1 _ (hS.dropN 1))⟩) (fun _ => hp2)) <| obs_nil
          refine oneR ?_
          obtain ⟨hp3, hm⟩ := asrt_b hm
          refine at_run 2 [] [] [25, 26, 27, 31, 32] [pl 25 (.slice A1 slices1.length c1), pl 26 (.int .i64 (slices1.length : Int)), pl 27 (.int .i64 z2), pl 31 (.slice A3 newslice1.length c3), pl 32 (.slice (hdA hd1 z2) ((geti2 slices1 z2).length) (hdC hd1 z2))] hF hS (by kernel_rfl) (by kernel_rfl) ?_ (fun a w hF hS => ?_)
          · exact obs_nil
          obtain ⟨A5, c5, w, hrun, hS⟩ := run_app1 (P := Try.prog) (t := 22) (m := newslice1) (ys := (geti2 slices1 z2)) (A2 := (hdA hd1 z2)) (m2 := (geti2 slices1 z2).length) (c2 := (hdC hd1 z2)) (Value.int .i64) (0 : Int) (hS.at_ 0 rfl) ((hr_slices1 _ (hS.dropN 1)).row _ hp2).1 rfl 22 Und22 hi3 hz3 hs3 (by omega) rfl (fun _ => rfl) hp3
          have hS : Sep w0 B w (own 3 (.slice A5 ((newslice1 ++ (geti2 slices1 z2)).length) c5) (vI (newslice1 ++ (geti2 slices1 z2))) :: fs) := hS
          refine at_do (d := 33) hF (by kernel_rfl) (by kernel_rfl) hrun (fun a hF => ?_)
          refine at_run 1 [] [] [6, 25, 26, 27] [pl 6 (.slice A5 ((newslice1 ++ (geti2 slices1 z2)).length) c5), pl 25 (.slice A1 slices1.length c1), pl 26 (.int .i64 (slices1.length : Int)), pl 27 (.int .i64 z2)] hF hS (by kernel_rfl) (by kernel_rfl) ?_ (fun a w hF hS => ?_)
          · exact obs_nil
          refine at_end [6, 25, 26, 27] [pl 6 (.slice A5 ((newslice1 ++ (geti2 slices1 z2)).length) c5), pl 25 (.slice A1 slices1.length c1), pl 26 (.int .i64 (slices1.length : Int)), pl 27 (.int .i64 z2)] hF rfl (by kernel_rfl) (fun hF => ?_)
          refine block_n ?_
          refine then_n ?_
          exact ⟨(newslice1 ++ (geti2 slices1 z2)), A5, c5, hF.weak [6, 25, 26, 27] (by kernel_rfl), hS, hm⟩
      · refine cond_ev (t := 28) (b := decide (z2 < (slices1.length : Int))) hF (by kernel_rfl) (fun hb => ?_) (fun hb => ?_)
        · replace hm := if_t hm hb
          refine wpIn_skip ?_
          refine then_n ?_
          exact ⟨hF.weak [6, 25, 26, 27] (by kernel_rfl), hS, hm⟩
        · replace hm := if_f hm hb
          refine wpIn_exit ?_
          refine then_e (then_e (block_e (then_n ?_)))
          rw [← hφ2] at hm
          replace hm := done_b hm
          unfold slices_Concat_2_K2 at hm
          try dsimp only at hm
          have hm : (slices_Concat_2_J4 newslice1).bind some = some r := hm
          exact ⟨newslice1, A3, c3, hF.weak [6] (by kernel_rfl), hS, hm⟩
  · refine reg [] [] [0, 3, 9, 10, 11] [pl 0 (.slice A1 slices1.length c1), pl 3 (.int .i64 0), pl 9 (.slice A1 slices1.length c1), pl 10 (.int .i64 (slices1.length : Int)), pl 11 (.int .i64 0)] hF hS Fol (by kernel_rfl) (by kernel_rfl) (by kernel_rfl) ?_ (fun a w hF hS => ?_)
    · exact obs_nil
    refine wpIn_block ?_
    refine wp_loop_model (S := (Int × Int)) (R := Int) (slices_Concat_2_L1 slices1) (fun x => ((slices_Concat_2_K1 slices1) x).bind some) r (fun (x : (Int × Int)) a w => Fr 36 [pl 0 (.slice A1 slices1.length c1), pl 3 (.int .i64 x.1), pl 9 (.slice A1 slices1.length c1), pl 10 (.int .i64 (slices1.length : Int)), pl 11 (.int .i64 x.2)] a ∧ Sep w0 B w (fs)) (assoc_b hm) ⟨hF.weak [0, 3, 9, 10, 11] (by kernel_rfl), hS⟩ ?_
    clear hF hS hm
    rintro nn1 ⟨size1, z1⟩ a w ⟨hF, hS⟩ hm
    generalize hφ1 : stK (slices_Concat_2_L1 slices1) nn1 (fun x => ((slices_Concat_2_K1 slices1) x).bind some) = φ1 at hm
    unfold slices_Concat_2_L1 at hm
    dsimp only at hF hS hm
    refine reg [] [] [0, 3, 9, 10, 11, 12] [pl 0 (.slice A1 slices1.length c1), pl 3 (.int .i64 size1), pl 9 (.slice A1 slices1.length c1), pl 10 (.int .i64 (slices1.length : Int)), pl 11 (.int .i64 z1), pl 12 (.bool (decide (z1 < (slices1.length : Int))))] hF hS Fol (by kernel_rfl) (by kernel_rfl) (by kernel_rfl) ?_ (fun a w hF hS => ?_)
    · exact obs_nil
    refine seq_cut (fun a w => Fr 36 [pl 0 (.slice A1 slices1.length c1), pl 3 (.int .i64 size1), pl 9 (.slice A1 slices1.length c1), pl 10 (.int .i64 (slices1.length : Int)), pl 11 (.int .i64 z1)] a ∧ Sep w0 B w (fs) ∧ ((slices_Concat_2_J2 slices1 size1 z1)).bind φ1 = some r) ?_ ?_
    · rintro a w ⟨hF, hS, hm⟩
      unfold slices_Concat_2_J2 at hm
      refine seq_cut (fun a w => Fr 36 [pl 0 (.slice A1 slices1.length c1), pl 3 (.int .i64 (w64 (size1 + (((geti2 slices1 z1).length : Nat) : Int)))), pl 9 (.slice A1 slices1.length c1), pl 10 (.int .i64 (slices1.length : Int)), pl 11 (.int .i64 z1)] a ∧ Sep w0 B w (fs) ∧ ((slices_Concat_2_J3 slices1 size1 z1)).bind φ1 = some r) ?_ ?_
      · rintro a w ⟨hF, hS, hm⟩
        unfold slices_Concat_2_J3 at hm
        refine reg1 [] [] [0, 3, 9, 10, 11] [pl 0 (.slice A1 slices1.length c1), pl 3 (.int .i64 (w64 (size1 + (((geti2 slices1 z1).length : Nat) : Int)))), pl 9 (.slice A1 slices1.length c1), pl 10 (.int .i64 (slices1.length : Int)), pl 11 (.int .i64 (w64 (z1 + 1)))] hF hS Fol (by kernel_rfl) (by kernel_rfl) (by kernel_rfl) ?_ (fun a w hF hS => ?_)
        · exact obs_nil
        refine then_n ?_
        rw [← hφ1] at hm
        exact ⟨((w64 (size1 + (((geti2 slices1 z1).length : Nat) : Int))), (w64 (z1 + 1))), ⟨hF.weak [0, 3, 9, 10, 11] (by kernel_rfl), hS⟩, hm⟩
      · refine wpIn_block ?_
        obtain ⟨hp1, hm⟩ := asrt_b hm
        refine reg [⟨true, [], vS (Instr.indexAt 36 (.slice A1 slices1.length c1) (.int .i64 z1)), .pointer (some (sAddr A1 z1))⟩, ⟨false, [], vS (Instr.loadAt 22 (.pointer (some (sAddr A1 z1)))), .slice (hdA hd1 z1) ((geti2 slices1 z1).length) (hdC hd1 z1)⟩] [some (.pointer (some (sAddr A1 z1))), some (.slice (hdA hd1 z1) ((geti2 slices1 z1).length) (hdC hd1 z1)), none] [0, 3, 5, 9, 10, 11] [pl 0 (.slice A1 slices1.length c1), pl 3 (.int .i64 size1), pl 5 (.slice (hdA hd1 z1) ((geti2 slices1 z1).length) (hdC hd1 z1)), pl 9 (.slice A1 slices1.length c1), pl 10 (.int .i64 (slices1.length : Int)), pl 11 (.int .i64 z1)] hF hS Fol (by kernel_rfl) (by kernel_rfl) (by kernel_rfl) ?_ (fun a w hF hS => ?_)
        · exact obs_cons (ob_ixRn Und36 hi22 hs22 (hr_slices1 _ (hS.dropN 0)) rfl (fun _ => hp1)) <| obs_cons (ob_getR Agg22 (fun _ hS => ⟨_, (hr_slices1 _ (hS.dropN 0))⟩) (fun _ => hp1)) <| obs_nil
        refine reg [] [] [0, 3, 9, 10, 11] [pl 0 (.slice A1 slices1.length c1), pl 3 (.int .i64 (w64 (size1 + (((geti2 slices1 z1).length : Nat) : Int)))), pl 9 (.slice A1 slices1.length c1), pl 10 (.int .i64 (slices1.length : Int)), pl 11 (.int .i64 z1)] hF hS Fol (by kernel_rfl) (by kernel_rfl) (by kernel_rfl) ?_ (fun a w hF hS => ?_)
        · exact obs_nil
        refine reg [] [] [0, 3, 9, 10, 11, 20] [pl 0 (.slice A1 slices1.length c1), pl 3 (.int .i64 (w64 (size1 + (((geti2 slices1 z1).length : Nat) : Int)))), pl 9 (.slice A1 slices1.length c1), pl 10 (.int .i64 (slices1.length : Int)), pl 11 (.int .i64 z1), pl 20 (.bool (decide ((w64 (size1 + (((geti2 slices1 z1).length : Nat) : Int))) < 0)))] hF hS Fol (by kernel_rfl) (by kernel_rfl) (by kernel_rfl) ?_ (fun a w hF hS => ?_)
        · exact obs_nil
        refine cond_ev (t := 20) (b := decide ((w64 (size1 + (((geti2 slices1 z1).length : Nat) : Int))) < 0)) hF (by kernel_rfl) (fun hb => ?_) (fun hb => ?_)
        · replace hm := if_t hm hb
          simp at hm
        · replace hm := if_f hm hb
          refine wpIn_skip ?_
          refine block_n ?_
          refine then_n ?_
          exact ⟨hF.weak [0, 3, 9, 10, 11] (by kernel_rfl), hS, hm⟩
    · refine cond_ev (t := 12) (b := decide (z1 < (slices1.length : Int))) hF (by kernel_rfl) (fun hb => ?_) (fun hb => ?_)
      · replace hm := if_t hm hb
        refine wpIn_skip ?_
        refine then_n ?_
        exact ⟨hF.weak [0, 3, 9, 10, 11] (by kernel_rfl), hS, hm⟩
      · replace hm := if_f hm hb
        refine wpIn_exit ?_
        refine then_e (then_e (block_e (then_n ?_)))
        rw [← hφ1] at hm
        replace hm := done_b hm
        unfold slices_Concat_2_K1 at hm
        try dsimp only at hm
        have hm : ((slices_Concat_2_J1 slices1) size1).bind some = some r := hm
        exact ⟨size1, hF.weak [0, 3] (by kernel_rfl), hS, hm⟩

noncomputable def nono_picture_solve_2_J8  (z2 : Int) (many3 : Int) (last3 : List Int) : Option (St (Int × List Int × Int) (Int × List Int)) :=
  some (.next (many3, last3, (w64 (z2 + 1))))

noncomputable def nono_picture_solve_2_J9  (rec_nono_picture_solve_2 : List (List Int) → List (List Int) → List (List Int) → Int → Option (Int × List Int × List (List Int))) (p_rows1 : List (List Int)) (p_columns1 : List (List Int)) (most1 : Int) (p2 : List (List Int)) (z1 : Int) (r2 : Int) (many1 : Int) (last1 : List Int) (z2 : Int) : Option (St (Int × List Int × Int) (Int × List Int)) :=
  (nono_picture_copied_m p_rows1 p_columns1 p2).bind fun r3 => asrt (0 ≤ z1 ∧ z1 < (r3.length : Int)) <| asrt (0 ≤ r2 ∧ r2 < (((geti2 r3 z1).length : Nat) : Int)) <| (rec_nono_picture_solve_2 p_rows1 p_columns1 (r3.set (Int.toNat z1) ((geti2 r3 z1).set (Int.toNat r2) z2)) (w64 (most1 - many1))).bind fun r4 => if (decide ((0 : Int) < r4.1)) then ((nono_picture_solve_2_J8 z2) (w64 (many1 + r4.1)) r4.2.1) else ((nono_picture_solve_2_J8 z2) many1 last1)

noncomputable def nono_picture_solve_2_J7  (rec_nono_picture_solve_2 : List (List Int) → List (List Int) → List (List Int) → Int → Option (Int × List Int × List (List Int))) (p_rows1 : List (List Int)) (p_columns1 : List (List Int)) (most1 : Int) (p2 : List (List Int)) (z1 : Int) (r2 : Int) (many1 : Int) (last1 : List Int) (z2 : Int) : Option (St (Int × List Int × Int) (Int × List Int)) :=
  if (decide (most1 ≤ many1)) then (some (.done (many1, last1))) else ((nono_picture_solve_2_J9 rec_nono_picture_solve_2 p_rows1 p_columns1 most1 p2 z1 r2 many1 last1 z2))

noncomputable def nono_picture_solve_2_J6  (p2 : List (List Int)) (many2 : Int) (last2 : List Int) : Option (St Int (Fl Unit (Int × List Int × List (List Int)))) :=
  some (.done (.ret (many2, last2, p2)))

noncomputable def nono_picture_solve_2_K2  (p2 : List (List Int)) : (Int × List Int) → Option (St Int (Fl Unit (Int × List Int × List (List Int)))) :=
  fun (x : (Int × List Int)) => match x with | (many2, last2) => (nono_picture_solve_2_J6 p2) many2 last2

noncomputable def nono_picture_solve_2_L2  (rec_nono_picture_solve_2 : List (List Int) → List (List Int) → List (List Int) → Int → Option (Int × List Int × List (List Int))) (p_rows1 : List (List Int)) (p_columns1 : List (List Int)) (most1 : Int) (p2 : List (List Int)) (z1 : Int) (r2 : Int) : (Int × List Int × Int) → Option (St (Int × List Int × Int) (Int × List Int)) :=
  fun (x : (Int × List Int × Int)) => match x with | (many1, last1, z2) => if (decide (z2 < 2)) then ((nono_picture_solve_2_J7 rec_nono_picture_solve_2 p_rows1 p_columns1 most1 p2 z1 r2 many1 last1 z2)) else (some (.done (many1, last1)))

noncomputable def nono_picture_solve_2_J5  (rec_nono_picture_solve_2 : List (List Int) → List (List Int) → List (List Int) → Int → Option (Int × List Int × List (List Int))) (p_rows1 : List (List Int)) (p_columns1 : List (List Int)) (most1 : Int) (p2 : List (List Int)) (z1 : Int) (r2 : Int) : Option (St Int (Fl Unit (Int × List Int × List (List Int)))) :=
  (loop (nono_picture_solve_2_L2 rec_nono_picture_solve_2 p_rows1 p_columns1 most1 p2 z1 r2) (0, ([] : List Int), 0)).bind (nono_picture_solve_2_K2 p2)

noncomputable def nono_picture_solve_2_J4  (z1 : Int) : Option (St Int (Fl Unit (Int × List Int × List (List Int)))) :=
  some (.next (w64 (z1 + 1)))

noncomputable def nono_picture_solve_2_J3  (rec_nono_picture_solve_2 : List (List Int) → List (List Int) → List (List Int) → Int → Option (Int × List Int × List (List Int))) (p_rows1 : List (List Int)) (p_columns1 : List (List Int)) (p_cells1 : List (List Int)) (most1 : Int) (p2 : List (List Int)) (z1 : Int) : Option (St Int (Fl Unit (Int × List Int × List (List Int)))) :=
  asrt (0 ≤ z1 ∧ z1 < (p_cells1.length : Int)) <| (slices_Index_m (geti2 p2 z1) (-1)).bind fun r2 => if (decide (r2 < 0)) then ((nono_picture_solve_2_J4 z1)) else ((nono_picture_solve_2_J5 rec_nono_picture_solve_2 p_rows1 p_columns1 most1 p2 z1 r2))

noncomputable def nono_picture_solve_2_J2  (p2 : List (List Int)) : Option (Int × List Int × List (List Int)) :=
  (slices_Concat_2_m p2).bind fun r5 => some (1, r5, p2)

noncomputable def nono_picture_solve_2_K1  (p2 : List (List Int)) : (Fl Unit (Int × List Int × List (List Int))) → Option (Int × List Int × List (List Int)) :=
  fun (x : (Fl Unit (Int × List Int × List (List Int)))) => match x with | .go _ => (nono_picture_solve_2_J2 p2) | .ret x => some x

noncomputable def nono_picture_solve_2_L1  (rec_nono_picture_solve_2 : List (List Int) → List (List Int) → List (List Int) → Int → Option (Int × List Int × List (List Int))) (p_rows1 : List (List Int)) (p_columns1 : List (List Int)) (p_cells1 : List (List Int)) (most1 : Int) (p2 : List (List Int)) : Int → Option (St Int (Fl Unit (Int × List Int × List (List Int)))) :=
  fun (x : Int) => match x with | z1 => if (decide (z1 < (p_cells1.length : Int))) then ((nono_picture_solve_2_J3 rec_nono_picture_solve_2 p_rows1 p_columns1 p_cells1 most1 p2 z1)) else (some (.done (.go ())))

noncomputable def nono_picture_solve_2_J1  (rec_nono_picture_solve_2 : List (List Int) → List (List Int) → List (List Int) → Int → Option (Int × List Int × List (List Int))) (p_rows1 : List (List Int)) (p_columns1 : List (List Int)) (p_cells1 : List (List Int)) (most1 : Int) (p2 : List (List Int)) : Option (Int × List Int × List (List Int)) :=
  (loop (nono_picture_solve_2_L1 rec_nono_picture_solve_2 p_rows1 p_columns1 p_cells1 most1 p2) 0).bind (nono_picture_solve_2_K1 p2)

noncomputable def nono_picture_solve_2_B  (rec_nono_picture_solve_2 : List (List Int) → List (List Int) → List (List Int) → Int → Option (Int × List Int × List (List Int))) (p_rows1 : List (List Int)) (p_columns1 : List (List Int)) (p_cells1 : List (List Int)) (most1 : Int) : Option (Int × List Int × List (List Int)) :=
  (nono_picture_push_2_m p_rows1 p_columns1 p_cells1).bind fun r1 => if (!r1.1) then (some (0, ([] : List Int), r1.2)) else ((nono_picture_solve_2_J1 rec_nono_picture_solve_2 p_rows1 p_columns1 p_cells1 most1) r1.2)

noncomputable def nono_picture_solve_2_mF  : Nat → List (List Int) → List (List Int) → List (List Int) → Int → Option (Int × List Int × List (List Int))
  | 0 => fun _ _ _ _ => none
  | n + 1 => fun p_rows1 p_columns1 p_cells1 most1 => nono_picture_solve_2_B (nono_picture_solve_2_mF n) p_rows1 p_columns1 p_cells1 most1

noncomputable def nono_picture_solve_2_m  (p_rows1 : List (List Int)) (p_columns1 : List (List Int)) (p_cells1 : List (List Int)) (most1 : Int) : Option (Int × List Int × List (List Int)) :=
  recM fun n => nono_picture_solve_2_mF n p_rows1 p_columns1 p_cells1 most1

set_option maxRecDepth 100000 in
set_option maxHeartbeats 4000000 in
theorem nono_picture_solve_2_wB  {rec_nono_picture_solve_2 : List (List Int) → List (List Int) → List (List Int) → Int → Option (Int × List Int × List (List Int))} (ih_nono_picture_solve_2 : ∀ {g1 : Nat} {A1 : Option Addr} {c1 : Nat} {n1 : Nat} {hd1 : List Hd} {p_rows1 : List (List Int)} {A2 : Option Addr} {c2 : Nat} {n2 : Nat} {hd2 : List Hd} {p_columns1 : List (List Int)} {A3 : Option Addr} {c3 : Nat} {n3 : Nat} {hd3 : List Hd} {p_cells1 : List (List Int)} {most1 : Int} {r : (Int × List Int × List (List Int))} {w0 w : World} {B : Nat} {fs : List HP} (_ : rec_nono_picture_solve_2 p_rows1 p_columns1 p_cells1 most1 = some r) (_ : Sep w0 B w (blk g1 109 #[.slice A1 n1 c1, .slice A2 n2 c2, .slice A3 n3 c3] :: rows 22 3 (.slice A3 n3 c3) hd3 p_cells1 :: fs)) (_hr_p_rows1 : RdRowsF w0 B fs A1 hd1 p_rows1) (_hc_p_rows1 : p_rows1.length ≤ c1) (_hn_p_rows1 : n1 = p_rows1.length) (_hr_p_columns1 : RdRowsF w0 B fs A2 hd2 p_columns1) (_hc_p_columns1 : p_columns1.length ≤ c2) (_hn_p_columns1 : n2 = p_columns1.length), Calls Try.prog 59 #[.pointer (some ⟨g1, 0, none⟩), .int .i64 most1] w fun e w' => ∃ v, e = .returned v ∧ ∃ (hd4 : List Hd) (A10 : Option Addr) (c10 : Nat), v = .tuple #[.int .i64 r.1, .slice A10 r.2.1.length c10] ∧ Sep w0 B w' (blk g1 109 #[.slice A1 n1 c1, .slice A2 n2 c2, .slice A3 n3 c3] :: rows 22 3 (.slice A3 n3 c3) hd4 r.2.2 :: own 3 (.slice A10 r.2.1.length c10) (vI r.2.1) :: fs)) {g1 : Nat} {A1 : Option Addr} {c1 : Nat} {n1 : Nat} {hd1 : List Hd} {p_rows1 : List (List Int)} {A2 : Option Addr} {c2 : Nat} {n2 : Nat} {hd2 : List Hd} {p_columns1 : List (List Int)} {A3 : Option Addr} {c3 : Nat} {n3 : Nat} {hd3 : List Hd} {p_cells1 : List (List Int)} {most1 : Int} {r : (Int × List Int × List (List Int))} {w0 w : World} {B : Nat} {fs : List HP} (hm : nono_picture_solve_2_B rec_nono_picture_solve_2 p_rows1 p_columns1 p_cells1 most1 = some r) (hS : Sep w0 B w (blk g1 109 #[.slice A1 n1 c1, .slice A2 n2 c2, .slice A3 n3 c3] :: rows 22 3 (.slice A3 n3 c3) hd3 p_cells1 :: fs)) (hr_p_rows1 : RdRowsF w0 B fs A1 hd1 p_rows1) (_hc_p_rows1 : p_rows1.length ≤ c1) (_hn_p_rows1 : n1 = p_rows1.length) (hr_p_columns1 : RdRowsF w0 B fs A2 hd2 p_columns1) (_hc_p_columns1 : p_columns1.length ≤ c2) (_hn_p_columns1 : n2 = p_columns1.length) :
    Calls Try.prog 59 #[.pointer (some ⟨g1, 0, none⟩), .int .i64 most1] w fun e w' => ∃ v, e = .returned v ∧ ∃ (hd4 : List Hd) (A10 : Option Addr) (c10 : Nat), v = .tuple #[.int .i64 r.1, .slice A10 r.2.1.length c10] ∧ Sep w0 B w' (blk g1 109 #[.slice A1 n1 c1, .slice A2 n2 c2, .slice A3 n3 c3] :: rows 22 3 (.slice A3 n3 c3) hd4 r.2.2 :: own 3 (.slice A10 r.2.1.length c10) (vI r.2.1) :: fs) := by
  obtain ⟨i3, hi3, hz3, hs3, hb3⟩ := info_parts Info3
  obtain ⟨i22, hi22, hz22, hs22, hb22⟩ := info_parts Info22
  obtain rfl := (hS.at_ 1 rfl).lenR
  obtain rfl := _hn_p_rows1
  obtain rfl := _hn_p_columns1
  unfold nono_picture_solve_2_B at hm
  replace hm := start_b hm
  refine enter (l := [.pointer (some ⟨g1, 0, none⟩), .int .i64 most1]) (n := 73) Try.func59 rfl rfl (by simp) (fun a hF => ?_)
  refine reg [] [] [0, 1] [pl 0 (.pointer (some ⟨g1, 0, none⟩)), pl 1 (.int .i64 most1)] hF hS Fol (by kernel_rfl) (by kernel_rfl) (by kernel_rfl) ?_ (fun a w hF hS => ?_)
  · exact obs_nil
  refine seq_cut (fun a w => ∃ (p2 : List (List Int)) (hd6 : List Hd), Fr 73 [pl 0 (.pointer (some ⟨g1, 0, none⟩)), pl 1 (.int .i64 most1)] a ∧ Sep w0 B w (blk g1 109 #[.slice A1 p_rows1.length c1, .slice A2 p_columns1.length c2, .slice A3 p_cells1.length c3] :: rows 22 3 (.slice A3 p_cells1.length c3) hd6 p2 :: fs) ∧ ((nono_picture_solve_2_J1 rec_nono_picture_solve_2 p_rows1 p_columns1 p_cells1 most1) p2).bind some = some r) ?_ ?_
  · rintro a w ⟨p2, hd6, hF, hS, hm⟩
    unfold nono_picture_solve_2_J1 at hm
    refine seq_cut (fun a w => Fr 73 [pl 0 (.pointer (some ⟨g1, 0, none⟩))] a ∧ Sep w0 B w (blk g1 109 #[.slice A1 p_rows1.length c1, .slice A2 p_columns1.length c2, .slice A3 p_cells1.length c3] :: rows 22 3 (.slice A3 p_cells1.length c3) hd6 p2 :: fs) ∧ ((nono_picture_solve_2_J2 p2)).bind some = some r) ?_ ?_
    · rintro a w ⟨hF, hS, hm⟩
      unfold nono_picture_solve_2_J2 at hm
      refine seqR ?_
      obtain ⟨r5, hr5, hm⟩ := call_b hm
      refine at_run 4 [⟨false, [], vS (Instr.loadAt 36 (.pointer (some ⟨g1, 2, none⟩))), .slice A3 p_cells1.length c3⟩] [none, none, none, some (.slice A3 p_cells1.length c3)] [71] [pl 71 (.slice A3 p_cells1.length c3)] hF hS (by kernel_rfl) (by kernel_rfl) ?_ (fun a w hF hS => ?_)
      · exact obs_cons (ob_load Agg36 (fun _ _ hS => (hS.at_ 0 rfl).cell rfl)) <| obs_nil
      refine at_call (f := 61) (args := #[.slice A3 p_cells1.length c3]) (d := 72) hF (by kernel_rfl) (by kernel_rfl) Try.func61 (by kernel_rfl) rfl (slices_Concat_2_w hr5 hS (fun _ hS => (hS.at_ 1 rfl).rdRows) (hS.at_ 1 rfl).rowsLen.2 (hS.at_ 1 rfl).lenR) (fun v a w hR hF => ?_)
      clear hS
      obtain ⟨A9, c9, rfl, hS⟩ := hR
      have hS : Sep w0 B w (own 3 (.slice A9 r5.length c9) (vI r5) :: blk g1 109 #[.slice A1 p_rows1.length c1, .slice A2 p_columns1.length c2, .slice A3 p_cells1.length c3] :: rows 22 3 (.slice A3 p_cells1.length c3) hd6 p2 :: fs) := hS
      refine at_run 2 [] [] [4, 5] [pl 4 (.int .i64 1), pl 5 (.slice A9 r5.length c9)] hF hS (by kernel_rfl) (by kernel_rfl) ?_ (fun a w hF hS => ?_)
      · exact obs_nil
      refine at_end [4, 5] [pl 4 (.int .i64 1), pl 5 (.slice A9 r5.length c9)] hF rfl (by kernel_rfl) (fun hF => ?_)
      refine then_n ?_
      refine wpIn_ret ?_
      have hS := hS.pickN 3 [1, 2, 0] (by decide)
      have hm : some (1, r5, p2) = some r := hm
      obtain rfl := Option.some.inj hm
      exact retV (rs := [.tmp 4, .tmp 5]) (vs := [.int .i64 1, .slice A9 r5.length c9]) hF rfl (rv_t (by kernel_rfl) <| rv_t (by kernel_rfl) <| rv_nil) rfl ⟨_, rfl, hd6, A9, c9, rfl, hS⟩
    · refine reg [⟨false, [], vS (Instr.loadAt 36 (.pointer (some ⟨g1, 2, none⟩))), .slice A3 p_cells1.length c3⟩] [none, none, none, some (.slice A3 p_cells1.length c3), none, none] [0, 1, 21, 22, 23] [pl 0 (.pointer (some ⟨g1, 0, none⟩)), pl 1 (.int .i64 most1), pl 21 (.slice A3 p_cells1.length c3), pl 22 (.int .i64 (p_cells1.length : Int)), pl 23 (.int .i64 0)] hF hS Fol (by kernel_rfl) (by kernel_rfl) (by kernel_rfl) ?_ (fun a w hF hS => ?_)
      · exact obs_cons (ob_load Agg36 (fun _ _ hS => (hS.at_ 0 rfl).cell rfl)) <| obs_nil
      refine wpIn_block ?_
      refine wp_loop_model (S := Int) (R := (Fl Unit (Int × List Int × List (List Int)))) (nono_picture_solve_2_L1 rec_nono_picture_solve_2 p_rows1 p_columns1 p_cells1 most1 p2) (fun x => ((nono_picture_solve_2_K1 p2) x).bind some) r (fun (x : Int) a w => Fr 73 [pl 0 (.pointer (some ⟨g1, 0, none⟩)), pl 1 (.int .i64 most1), pl 21 (.slice A3 p_cells1.length c3), pl 22 (.int .i64 (p_cells1.length : Int)), pl 23 (.int .i64 x)] a ∧ Sep w0 B w (blk g1 109 #[.slice A1 p_rows1.length c1, .slice A2 p_columns1.length c2, .slice A3 p_cells1.length c3] :: rows 22 3 (.slice A3 p_cells1.length c3) hd6 p2 :: fs)) (assoc_b hm) ⟨hF.weak [0, 1, 21, 22, 23] (by kernel_rfl), hS⟩ ?_
      clear hF hS hm
      rintro nn1 z1 a w ⟨hF, hS⟩ hm
      generalize hφ1 : stK (nono_picture_solve_2_L1 rec_nono_picture_solve_2 p_rows1 p_columns1 p_cells1 most1 p2) nn1 (fun x => ((nono_picture_solve_2_K1 p2) x).bind some) = φ1 at hm
      unfold nono_picture_solve_2_L1 at hm
      dsimp only at hm
      refine reg [] [] [0, 1, 21, 22, 23, 24] [pl 0 (.pointer (some ⟨g1, 0, none⟩)), pl 1 (.int .i64 most1), pl 21 (.slice A3 p_cells1.length c3), pl 22 (.int .i64 (p_cells1.length : Int)), pl 23 (.int .i64 z1), pl 24 (.bool (decide (z1 < (p_cells1.length : Int))))] hF hS Fol (by kernel_rfl) (by kernel_rfl) (by kernel_rfl) ?_ (fun a w hF hS => ?_)
      · exact obs_nil
      refine seq_cut (fun a w => Fr 73 [pl 0 (.pointer (some ⟨g1, 0, none⟩)), pl 1 (.int .i64 most1), pl 21 (.slice A3 p_cells1.length c3), pl 22 (.int .i64 (p_cells1.length : Int)), pl 23 (.int .i64 z1)] a ∧ Sep w0 B w (blk g1 109 #[.slice A1 p_rows1.length c1, .slice A2 p_columns1.length c2, .slice A3 p_cells1.length c3] :: rows 22 3 (.slice A3 p_cells1.length c3) hd6 p2 :: fs) ∧ ((nono_picture_solve_2_J3 rec_nono_picture_solve_2 p_rows1 p_columns1 p_cells1 most1 p2 z1)).bind φ1 = some r) ?_ ?_
      · rintro a w ⟨hF, hS, hm⟩
        unfold nono_picture_solve_2_J3 at hm
        refine seq_cut (fun a w => Fr 73 [pl 0 (.pointer (some ⟨g1, 0, none⟩)), pl 1 (.int .i64 most1), pl 21 (.slice A3 p_cells1.length c3), pl 22 (.int .i64 (p_cells1.length : Int)), pl 23 (.int .i64 z1)] a ∧ Sep w0 B w (blk g1 109 #[.slice A1 p_rows1.length c1, .slice A2 p_columns1.length c2, .slice A3 p_cells1.length c3] :: rows 22 3 (.slice A3 p_cells1.length c3) hd6 p2 :: fs) ∧ ((nono_picture_solve_2_J4 z1)).bind φ1 = some r) ?_ ?_
        · rintro a w ⟨hF, hS, hm⟩
          unfold nono_picture_solve_2_J4 at hm
          refine reg1 [] [] [0, 1, 21, 22, 23] [pl 0 (.pointer (some ⟨g1, 0, none⟩)), pl 1 (.int .i64 most1), pl 21 (.slice A3 p_cells1.length c3), pl 22 (.int .i64 (p_cells1.length : Int)), pl 23 (.int .i64 (w64 (z1 + 1)))] hF hS Fol (by kernel_rfl) (by kernel_rfl) (by kernel_rfl) ?_ (fun a w hF hS => ?_)
          · exact obs_nil
          refine then_n ?_
          rw [← hφ1] at hm
          exact ⟨(w64 (z1 + 1)), ⟨hF.weak [0, 1, 21, 22, 23] (by kernel_rfl), hS⟩, hm⟩
        · refine wpIn_block ?_
          obtain ⟨hp1, hm⟩ := asrt_b hm
          have hb1 := rowb (n := p_cells1.length) (hS.at_ 1 rfl).lenR hp1
          refine reg [⟨true, [], vS (Instr.indexAt 36 (.slice A3 p_cells1.length c3) (.int .i64 z1)), .pointer (some (sAddr A3 z1))⟩, ⟨false, [], vS (Instr.loadAt 22 (.pointer (some (sAddr A3 z1)))), .slice (hdA hd6 z1) ((geti2 p2 z1).length) (hdC hd6 z1)⟩] [none, some (.pointer (some (sAddr A3 z1))), some (.slice (hdA hd6 z1) ((geti2 p2 z1).length) (hdC hd6 z1)), none, none] [0, 1, 6, 7, 21, 22, 23] [pl 0 (.pointer (some ⟨g1, 0, none⟩)), pl 1 (.int .i64 most1), pl 6 (.int .i64 z1), pl 7 (.slice (hdA hd6 z1) ((geti2 p2 z1).length) (hdC hd6 z1)), pl 21 (.slice A3 p_cells1.length c3), pl 22 (.int .i64 (p_cells1.length : Int)), pl 23 (.int .i64 z1)] hF hS Fol (by kernel_rfl) (by kernel_rfl) (by kernel_rfl) ?_ (fun a w hF hS => ?_)
          · exact obs_cons (ob_ixRn Und36 hi22 hs22 (hS.at_ 1 rfl).rdRows (hS.at_ 1 rfl).lenR (fun _ => hp1)) <| obs_cons (ob_getR Agg22 (fun _ hS => ⟨_, (hS.at_ 1 rfl).rdRows⟩) (fun _ => hb1)) <| obs_nil
          obtain ⟨r2, hr2, hm⟩ := call_b hm
          refine reg [⟨false, [], callFunc 78 #[.slice (hdA hd6 z1) ((geti2 p2 z1).length) (hdC hd6 z1), .int .i64 (-1)], .int .i64 r2⟩] [none, some (.int .i64 r2), none] [0, 1, 6, 8, 21, 22, 23] [pl 0 (.pointer (some ⟨g1, 0, none⟩)), pl 1 (.int .i64 most1), pl 6 (.int .i64 z1), pl 8 (.int .i64 r2), pl 21 (.slice A3 p_cells1.length c3), pl 22 (.int .i64 (p_cells1.length : Int)), pl 23 (.int .i64 z1)] hF hS Fol (by kernel_rfl) (by kernel_rfl) (by kernel_rfl) ?_ (fun a w hF hS => ?_)
          · exact obs_cons (ob_call Try.func78 (by kernel_rfl) rfl (fun _ _ hS => slices_Index_w hr2 hS (fun _ hS => ((hS.at_ 1 rfl).rdRows.row _ hb1).1) ((hS.at_ 1 rfl).rdRows.row _ hb1).2 rfl)) <| obs_nil
          refine seq_cut (fun a w => Fr 73 [pl 0 (.pointer (some ⟨g1, 0, none⟩)), pl 1 (.int .i64 most1), pl 6 (.int .i64 z1), pl 8 (.int .i64 r2)] a ∧ Sep w0 B w (blk g1 109 #[.slice A1 p_rows1.length c1, .slice A2 p_columns1.length c2, .slice A3 p_cells1.length c3] :: rows 22 3 (.slice A3 p_cells1.length c3) hd6 p2 :: fs) ∧ ((nono_picture_solve_2_J5 rec_nono_picture_solve_2 p_rows1 p_columns1 most1 p2 z1 r2)).bind φ1 = some r) ?_ ?_
          · rintro a w ⟨hF, hS, hm⟩
            unfold nono_picture_solve_2_J5 at hm
            refine reg [] [] [0, 1, 6, 8, 9] [pl 0 (.pointer (some ⟨g1, 0, none⟩)), pl 1 (.int .i64 most1), pl 6 (.int .i64 z1), pl 8 (.int .i64 r2), pl 9 (.int .i64 0)] hF hS Fol (by kernel_rfl) (by kernel_rfl) (by kernel_rfl) ?_ (fun a w hF hS => ?_)
            · exact obs_nil
            refine reg [] [] [0, 1, 6, 8, 9, 10] [pl 0 (.pointer (some ⟨g1, 0, none⟩)), pl 1 (.int .i64 most1), pl 6 (.int .i64 z1), pl 8 (.int .i64 r2), pl 9 (.int .i64 0), pl 10 (.slice none 0 0)] hF hS Fol (by kernel_rfl) (by kernel_rfl) (by kernel_rfl) ?_ (fun a w hF hS => ?_)
            · exact obs_nil
            refine seq_cut (fun a w => ∃ (many2 : Int) (last2 : List Int) (A5 : Option Addr) (c5 : Nat), Fr 73 [pl 9 (.int .i64 many2), pl 10 (.slice A5 last2.length c5)] a ∧ Sep w0 B w (own 3 (.slice A5 last2.length c5) (vI last2) :: blk g1 109 #[.slice A1 p_rows1.length c1, .slice A2 p_columns1.length c2, .slice A3 p_cells1.length c3] :: rows 22 3 (.slice A3 p_cells1.length c3) hd6 p2 :: fs) ∧ ((nono_picture_solve_2_J6 p2) many2 last2).bind φ1 = some r) ?_ ?_
            · rintro a w ⟨many2, last2, A5, c5, hF, hS, hm⟩
              unfold nono_picture_solve_2_J6 at hm
              refine reg [] [] [4, 5] [pl 4 (.int .i64 many2), pl 5 (.slice A5 last2.length c5)] hF hS Fol (by kernel_rfl) (by kernel_rfl) (by kernel_rfl) ?_ (fun a w hF hS => ?_)
              · exact obs_nil
              refine wpIn_ret ?_
              refine block_r (then_r (then_r (block_r (then_r ?_))))
              rw [← hφ1] at hm
              replace hm := done_b hm
              unfold nono_picture_solve_2_K1 at hm
              try dsimp only at hm
              have hS := hS.pickN 3 [1, 2, 0] (by decide)
              have hm : some (many2, last2, p2) = some r := hm
              obtain rfl := Option.some.inj hm
              exact retV (rs := [.tmp 4, .tmp 5]) (vs := [.int .i64 many2, .slice A5 last2.length c5]) hF rfl (rv_t (by kernel_rfl) <| rv_t (by kernel_rfl) <| rv_nil) rfl ⟨_, rfl, hd6, A5, c5, rfl, hS⟩
            · refine reg [] [] [0, 1, 6, 8, 9, 10, 32] [pl 0 (.pointer (some ⟨g1, 0, none⟩)), pl 1 (.int .i64 most1), pl 6 (.int .i64 z1), pl 8 (.int .i64 r2), pl 9 (.int .i64 0), pl 10 (.slice none 0 0), pl 32 (.int .i64 0)] hF hS Fol (by kernel_rfl) (by kernel_rfl) (by kernel_rfl) ?_ (fun a w hF hS => ?_)
              · exact obs_nil
              refine wpIn_block ?_
              have hS : Sep w0 B w (own 3 (.slice none 0 0) (vI ([] : List Int)) :: blk g1 109 #[.slice A1 p_rows1.length c1, .slice A2 p_columns1.length c2, .slice A3 p_cells1.length c3] :: rows 22 3 (.slice A3 p_cells1.length c3) hd6 p2 :: fs) := hS.nil 3
              have hl2 := (hS.at_ 0 rfl).len1
              have hS := (hS.at_ 0 rfl).reN hl2
              have hS : Sep w0 B w (own 3 (.slice none (([] : List Int).length) 0) (vI ([] : List Int)) :: blk g1 109 #[.slice A1 p_rows1.length c1, .slice A2 p_columns1.length c2, .slice A3 p_cells1.length c3] :: rows 22 3 (.slice A3 p_cells1.length c3) hd6 p2 :: fs) := hS
              have hF := hF.cast (t := 10) (v := .slice none 0 0) (v' := .slice none (([] : List Int).length) 0) rfl rfl (congrArg (fun k => Value.slice none k 0) hl2)
              have hS := hS.pickN 3 [1, 2, 0] (by decide)
              refine wp_loop_model (S := (Int × List Int × Int)) (R := (Int × List Int)) (nono_picture_solve_2_L2 rec_nono_picture_solve_2 p_rows1 p_columns1 most1 p2 z1 r2) (fun x => ((nono_picture_solve_2_K2 p2) x).bind φ1) r (fun (x : (Int × List Int × Int)) a w => ∃ (A4 : Option Addr) (c4 : Nat), Fr 73 [pl 0 (.pointer (some ⟨g1, 0, none⟩)), pl 1 (.int .i64 most1), pl 6 (.int .i64 z1), pl 8 (.int .i64 r2), pl 9 (.int .i64 x.1), pl 10 (.slice A4 x.2.1.length c4), pl 32 (.int .i64 x.2.2)] a ∧ Sep w0 B w (blk g1 109 #[.slice A1 p_rows1.length c1, .slice A2 p_columns1.length c2, .slice A3 p_cells1.length c3] :: rows 22 3 (.slice A3 p_cells1.length c3) hd6 p2 :: own 3 (.slice A4 x.2.1.length c4) (vI x.2.1) :: fs)) (assoc_b hm) ⟨none, 0, hF.weak [0, 1, 6, 8, 9, 10, 32] (by kernel_rfl), hS⟩ ?_
              clear hF hS hm
              rintro nn2 ⟨many1, last1, z2⟩ a w ⟨A4, c4, hF, hS⟩ hm
              generalize hφ2 : stK (nono_picture_solve_2_L2 rec_nono_picture_solve_2 p_rows1 p_columns1 most1 p2 z1 r2) nn2 (fun x => ((nono_picture_solve_2_K2 p2) x).bind φ1) = φ2 at hm
              unfold nono_picture_solve_2_L2 at hm
              dsimp only at hF hS hm
              refine reg [] [] [0, 1, 6, 8, 9, 10, 32, 33] [pl 0 (.pointer (some ⟨g1, 0, none⟩)), pl 1 (.int .i64 most1), pl 6 (.int .i64 z1), pl 8 (.int .i64 r2), pl 9 (.int .i64 many1), pl 10 (.slice A4 last1.length c4), pl 32 (.int .i64 z2), pl 33 (.bool (decide (z2 < 2)))] hF hS Fol (by kernel_rfl) (by kernel_rfl) (by kernel_rfl) ?_ (fun a w hF hS => ?_)
              · exact obs_nil
              refine seq_cut (fun a w => Fr 73 [pl 0 (.pointer (some ⟨g1, 0, none⟩)), pl 1 (.int .i64 most1), pl 6 (.int .i64 z1), pl 8 (.int .i64 r2), pl 9 (.int .i64 many1), pl 10 (.slice A4 last1.length c4), pl 32 (.int .i64 z2)] a ∧ Sep w0 B w (blk g1 109 #[.slice A1 p_rows1.length c1, .slice A2 p_columns1.length c2, .slice A3 p_cells1.length c3] :: rows 22 3 (.slice A3 p_cells1.length c3) hd6 p2 :: own 3 (.slice A4 last1.length c4) (vI last1) :: fs) ∧ ((nono_picture_solve_2_J7 rec_nono_picture_solve_2 p_rows1 p_columns1 most1 p2 z1 r2 many1 last1 z2)).bind φ2 = some r) ?_ ?_
              · rintro a w ⟨hF, hS, hm⟩
                unfold nono_picture_solve_2_J7 at hm
                refine seq_cut (fun a w => ∃ (many3 : Int) (last3 : List Int) (A8 : Option Addr) (c8 : Nat), Fr 73 [pl 0 (.pointer (some ⟨g1, 0, none⟩)), pl 1 (.int .i64 most1), pl 6 (.int .i64 z1), pl 8 (.int .i64 r2), pl 9 (.int .i64 many3), pl 10 (.slice A8 last3.length c8), pl 32 (.int .i64 z2)] a ∧ Sep w0 B w (blk g1 109 #[.slice A1 p_rows1.length c1, .slice A2 p_columns1.length c2, .slice A3 p_cells1.length c3] :: rows 22 3 (.slice A3 p_cells1.length c3) hd6 p2 :: own 3 (.slice A8 last3.length c8) (vI last3) :: fs) ∧ ((nono_picture_solve_2_J8 z2) many3 last3).bind φ2 = some r) ?_ ?_
                · rintro a w ⟨many3, last3, A8, c8, hF, hS, hm⟩
                  unfold nono_picture_solve_2_J8 at hm
                  refine reg1 [] [] [0, 1, 6, 8, 9, 10, 32] [pl 0 (.pointer (some ⟨g1, 0, none⟩)), pl 1 (.int .i64 most1), pl 6 (.int .i64 z1), pl 8 (.int .i64 r2), pl 9 (.int .i64 many3), pl 10 (.slice A8 last3.length c8), pl 32 (.int .i64 (w64 (z2 + 1)))] hF hS Fol (by kernel_rfl) (by kernel_rfl) (by kernel_rfl) ?_ (fun a w hF hS => ?_)
                  · exact obs_nil
                  refine then_n ?_
                  rw [← hφ2] at hm
                  exact ⟨(many3, last3, (w64 (z2 + 1))), ⟨A8, c8, hF.weak [0, 1, 6, 8, 9, 10, 32] (by kernel_rfl), hS⟩, hm⟩
                · refine wpIn_block ?_
                  refine reg [] [] [0, 1, 6, 8, 9, 10, 11, 32] [pl 0 (.pointer (some ⟨g1, 0, none⟩)), pl 1 (.int .i64 most1), pl 6 (.int .i64 z1), pl 8 (.int .i64 r2), pl 9 (.int .i64 many1), pl 10 (.slice A4 last1.length c4), pl 11 (.int .i64 z2), pl 32 (.int .i64 z2)] hF hS Fol (by kernel_rfl) (by kernel_rfl) (by kernel_rfl) ?_ (fun a w hF hS => ?_)
                  · exact obs_nil
                  refine seq_cut (fun a w => Fr 73 [pl 0 (.pointer (some ⟨g1, 0, none⟩)), pl 1 (.int .i64 most1), pl 6 (.int .i64 z1), pl 8 (.int .i64 r2), pl 9 (.int .i64 many1), pl 10 (.slice A4 last1.length c4), pl 11 (.int .i64 z2), pl 32 (.int .i64 z2)] a ∧ Sep w0 B w (blk g1 109 #[.slice A1 p_rows1.length c1, .slice A2 p_columns1.length c2, .slice A3 p_cells1.length c3] :: rows 22 3 (.slice A3 p_cells1.length c3) hd6 p2 :: own 3 (.slice A4 last1.length c4) (vI last1) :: fs) ∧ ((nono_picture_solve_2_J9 rec_nono_picture_solve_2 p_rows1 p_columns1 most1 p2 z1 r2 many1 last1 z2)).bind φ2 = some r) ?_ ?_
                  · rintro a w ⟨hF, hS, hm⟩
                    unfold nono_picture_solve_2_J9 at hm
                    refine seqR ?_
                    obtain ⟨r3, hr3, hm⟩ := call_b hm
                    refine at_run 1 [] [] [0, 1, 6, 8, 9, 10, 11, 32, 38] [pl 0 (.pointer (some ⟨g1, 0, none⟩)), pl 1 (.int .i64 most1), pl 6 (.int .i64 z1), pl 8 (.int .i64 r2), pl 9 (.int .i64 many1), pl 10 (.slice A4 last1.length c4), pl 11 (.int .i64 z2), pl 32 (.int .i64 z2), pl 38 (.pointer (some ⟨g1, 0, none⟩))] hF hS (by kernel_rfl) (by kernel_rfl) ?_ (fun a w hF hS => ?_)
                    · exact obs_nil
                    refine at_call (f := 114) (args := #[.pointer (some ⟨g1, 0, none⟩)]) (d := 39) hF (by kernel_rfl) (by kernel_rfl) Try.func114 (by kernel_rfl) rfl (nono_picture_copied_w hr3 hS (fun _ hS => (hr_p_rows1 _ (hS.dropN 1))) _hc_p_rows1 rfl (fun _ hS => (hr_p_columns1 _ (hS.dropN 1))) _hc_p_columns1 rfl) (fun v a w hR hF => ?_)
                    clear hS
                    obtain ⟨g2, A6, c6, hd7, rfl, hS⟩ := hR
                    have hS : Sep w0 B w (blk g1 109 #[.slice A1 p_rows1.length c1, .slice A2 p_columns1.length c2, .slice A3 p_cells1.length c3] :: rows 22 3 (.slice A3 p_cells1.length c3) hd6 p2 :: blk g2 109 #[.slice A1 p_rows1.length c1, .slice A2 p_columns1.length c2, .slice A6 r3.length c6] :: rows 22 3 (.slice A6 r3.length c6) hd7 r3 :: own 3 (.slice A4 last1.length c4) (vI last1) :: fs) := hS
                    refine at_run 1 [] [] [0, 1, 6, 8, 9, 10, 11, 12, 32] [pl 0 (.pointer (some ⟨g1, 0, none⟩)), pl 1 (.int .i64 most1), pl 6 (.int .i64 z1), pl 8 (.int .i64 r2), pl 9 (.int .i64 many1), pl 10 (.slice A4 last1.length c4), pl 11 (.int .i64 z2), pl 12 (.pointer (some ⟨g2, 0, none⟩)), pl 32 (.int .i64 z2)] hF hS (by kernel_rfl) (by kernel_rfl) ?_ (fun a w hF hS => ?_)
                    · exact obs_nil
                    refine at_end [0, 1, 6, 8, 9, 10, 11, 12, 32] [pl 0 (.pointer (some ⟨g1, 0, none⟩)), pl 1 (.int .i64 most1), pl 6 (.int .i64 z1), pl 8 (.int .i64 r2), pl 9 (.int .i64 many1), pl 10 (.slice A4 last1.length c4), pl 11 (.int .i64 z2), pl 12 (.pointer (some ⟨g2, 0, none⟩)), pl 32 (.int .i64 z2)] hF rfl (by kernel_rfl) (fun hF => ?_)
                    refine then_n ?_
                    refine seqR ?_
                    obtain ⟨hp2, hm⟩ := asrt_b hm
                    obtain ⟨hp3, hm⟩ := asrt_b hm
                    have hb2 := rowb (n := r3.length) (hS.at_ 3 rfl).lenR hp2
                    refine at_run 10 [⟨false, [], vS (Instr.loadAt 36 (.pointer (some ⟨g2, 2, none⟩))), .slice A6 r3.length c6⟩, ⟨true, [], vS (Instr.indexAt 36 (.slice A6 r3.length c6) (.int .i64 z1)), .pointer (some (sAddr A6 z1))⟩, ⟨false, [], vS (Instr.loadAt 22 (.pointer (some (sAddr A6 z1)))), .slice (hdA hd7 z1) ((geti2 r3 z1).length) (hdC hd7 z1)⟩, ⟨true, [], vS (Instr.indexAt 22 (.slice (hdA hd7 z1) ((geti2 r3 z1).length) (hdC hd7 z1)) (.int .i64 r2)), .pointer (some (sAddr (hdA hd7 z1) r2))⟩] [none, none, none, some (.slice A6 r3.length c6), none, some (.pointer (some (sAddr A6 z1))), some (.slice (hdA hd7 z1) ((geti2 r3 z1).length) (hdC hd7 z1)), none, none, some (.pointer (some (sAddr (hdA hd7 z1) r2)))] [0, 1, 6, 8, 9, 10, 12, 32, 48, 49] [pl 0 (.pointer (some ⟨g1, 0, none⟩)), pl 1 (.int .i64 most1), pl 6 (.int .i64 z1), pl 8 (.int .i64 r2), pl 9 (.int .i64 many1), pl 10 (.slice A4 last1.length c4), pl 12 (.pointer (some ⟨g2, 0, none⟩)), pl 32 (.int .i64 z2), pl 48 (.int .i64 z2), pl 49 (.pointer (some (sAddr (hdA hd7 z1) r2)))] hF hS (by kernel_rfl) (by kernel_rfl) ?_ (fun a w hF hS => ?_)
                    · exact obs_cons (ob_load Agg36 (fun _ _ hS => (hS.at_ 2 rfl).cell rfl)) <| obs_cons (ob_ixRn Und36 hi22 hs22 (hS.at_ 3 rfl).rdRows (hS.at_ 3 rfl).lenR (fun _ => hp2)) <| obs_cons (ob_getR Agg22 (fun _ hS => ⟨_, (hS.at_ 3 rfl).rdRows⟩) (fun _ => hb2)) <| obs_cons (ob_ix1 (f := (Value.int .i64)) (m := (geti2 r3 z1)) Und22 hi3 hs3 ((hS.at_ 3 rfl).rdRows.row _ hb2).1 rfl (fun _ => hp3)) <| obs_nil
                    have hS : Sep w0 B w (own 3 (.slice (hdA hd7 z1) (geti2 r3 z1).length (hdC hd7 z1)) (vI (geti2 r3 z1)) :: blk g1 109 #[.slice A1 p_rows1.length c1, .slice A2 p_columns1.length c2, .slice A3 p_cells1.length c3] :: rows 22 3 (.slice A3 p_cells1.length c3) hd6 p2 :: blk g2 109 #[.slice A1 p_rows1.length c1, .slice A2 p_columns1.length c2, .slice A6 r3.length c6] :: rowsBut 22 3 (.slice A6 r3.length c6) hd7 r3 (Int.toNat z1) :: own 3 (.slice A4 last1.length c4) (vI last1) :: fs) := (hS.at_ 3 rfl).takeRow hb2
                    obtain ⟨w, hrun, hS⟩ := run_set1 (P := Try.prog) (t := 3) (x := z2) (l := []) (Value.int .i64) hS hi3 hs3 rfl rfl hp3
                    refine at_skip hF (by kernel_rfl) hrun ?_
                    have hS := (hS.at2 3 rfl).putRowN hb2 (by rw [List.length_set])
                    have hS : Sep w0 B w (blk g1 109 #[.slice A1 p_rows1.length c1, .slice A2 p_columns1.length c2, .slice A3 p_cells1.length c3] :: rows 22 3 (.slice A3 p_cells1.length c3) hd6 p2 :: blk g2 109 #[.slice A1 p_rows1.length c1, .slice A2 p_columns1.length c2, .slice A6 r3.length c6] :: rows 22 3 (.slice A6 r3.length c6) hd7 (r3.set (Int.toNat z1) ((geti2 r3 z1).set (Int.toNat r2) z2)) :: own 3 (.slice A4 last1.length c4) (vI last1) :: fs) := hS
                    refine at_end [0, 1, 6, 8, 9, 10, 12, 32] [pl 0 (.pointer (some ⟨g1, 0, none⟩)), pl 1 (.int .i64 most1), pl 6 (.int .i64 z1), pl 8 (.int .i64 r2), pl 9 (.int .i64 many1), pl 10 (.slice A4 last1.length c4), pl 12 (.pointer (some ⟨g2, 0, none⟩)), pl 32 (.int .i64 z2)] hF rfl (by kernel_rfl) (fun hF => ?_)
                    refine then_n ?_
                    refine seqR ?_
                    obtain ⟨r4, hr4, hm⟩ := call_b hm
                    refine at_run 4 [] [] [0, 1, 6, 8, 9, 10, 32, 51, 54] [pl 0 (.pointer (some ⟨g1, 0, none⟩)), pl 1 (.int .i64 most1), pl 6 (.int .i64 z1), pl 8 (.int .i64 r2), pl 9 (.int .i64 many1), pl 10 (.slice A4 last1.length c4), pl 32 (.int .i64 z2), pl 51 (.pointer (some ⟨g2, 0, none⟩)), pl 54 (.int .i64 (w64 (most1 - many1)))] hF hS (by kernel_rfl) (by kernel_rfl) ?_ (fun a w hF hS => ?_)
                    · exact obs_nil
                    have hS : Sep w0 B w (blk g2 109 #[.slice A1 p_rows1.length c1, .slice A2 p_columns1.length c2, .slice A6 r3.length c6] :: rows 22 3 (.slice A6 r3.length c6) hd7 (r3.set (Int.toNat z1) ((geti2 r3 z1).set (Int.toNat r2) z2)) :: blk g1 109 #[.slice A1 p_rows1.length c1, .slice A2 p_columns1.length c2, .slice A3 p_cells1.length c3] :: rows 22 3 (.slice A3 p_cells1.length c3) hd6 p2 :: own 3 (.slice A4 last1.length c4) (vI last1) :: fs) := hS.pickN 5 [2, 3, 0, 1, 4] (by decide)
                    refine at_call (f := 59) (args := #[.pointer (some ⟨g2, 0, none⟩), .int .i64 (w64 (most1 - many1))]) (d := 55) hF (by kernel_rfl) (by kernel_rfl) Try.func59 (by kernel_rfl) rfl (ih_nono_picture_solve_2 hr4 hS (fun _ hS => (hr_p_rows1 _ (hS.dropN 3))) _hc_p_rows1 rfl (fun _ hS => (hr_p_columns1 _ (hS.dropN 3))) _hc_p_columns1 rfl) (fun v a w hR hF => ?_)
                    clear hS
                    obtain ⟨hd8, A7, c7, rfl, hS⟩ := hR
                    have hS : Sep w0 B w (blk g2 109 #[.slice A1 p_rows1.length c1, .slice A2 p_columns1.length c2, .slice A6 r3.length c6] :: rows 22 3 (.slice A6 r3.length c6) hd8 r4.2.2 :: own 3 (.slice A7 r4.2.1.length c7) (vI r4.2.1) :: blk g1 109 #[.slice A1 p_rows1.length c1, .slice A2 p_columns1.length c2, .slice A3 p_cells1.length c3] :: rows 22 3 (.slice A3 p_cells1.length c3) hd6 p2 :: own 3 (.slice A4 last1.length c4) (vI last1) :: fs) := hS
                    refine at_run 5 [] [] [0, 1, 6, 8, 9, 10, 13, 14, 32] [pl 0 (.pointer (some ⟨g1, 0, none⟩)), pl 1 (.int .i64 most1), pl 6 (.int .i64 z1), pl 8 (.int .i64 r2), pl 9 (.int .i64 many1), pl 10 (.slice A4 last1.length c4), pl 13 (.int .i64 r4.1), pl 14 (.slice A7 r4.2.1.length c7), pl 32 (.int .i64 z2)] hF hS (by kernel_rfl) (by kernel_rfl) ?_ (fun a w hF hS => ?_)
                    · exact obs_nil
                    refine at_end [0, 1, 6, 8, 9, 10, 13, 14, 32] [pl 0 (.pointer (some ⟨g1, 0, none⟩)), pl 1 (.int .i64 most1), pl 6 (.int .i64 z1), pl 8 (.int .i64 r2), pl 9 (.int .i64 many1), pl 10 (.slice A4 last1.length c4), pl 13 (.int .i64 r4.1), pl 14 (.slice A7 r4.2.1.length c7), pl 32 (.int .i64 z2)] hF rfl (by kernel_rfl) (fun hF => ?_)
                    refine then_n ?_
                    refine reg [] [] [0, 1, 6, 8, 9, 10, 13, 14, 32, 59] [pl 0 (.pointer (some ⟨g1, 0, none⟩)), pl 1 (.int .i64 most1), pl 6 (.int .i64 z1), pl 8 (.int .i64 r2), pl 9 (.int .i64 many1), pl 10 (.slice A4 last1.length c4), pl 13 (.int .i64 r4.1), pl 14 (.slice A7 r4.2.1.length c7), pl 32 (.int .i64 z2), pl 59 (.bool (decide ((0 : Int) < r4.1)))] hF hS Fol (by kernel_rfl) (by kernel_rfl) (by kernel_rfl) ?_ (fun a w hF hS => ?_)
                    · exact obs_nil
                    refine cond_ev (t := 59) (b := decide ((0 : Int) < r4.1)) hF (by kernel_rfl) (fun hb => ?_) (fun hb => ?_)
                    · replace hm := if_t hm hb
                      refine reg1 [] [] [0, 1, 6, 8, 9, 10, 32] [pl 0 (.pointer (some ⟨g1, 0, none⟩)), pl 1 (.int .i64 most1), pl 6 (.int .i64 z1), pl 8 (.int .i64 r2), pl 9 (.int .i64 (w64 (many1 + r4.1))), pl 10 (.slice A7 r4.2.1.length c7), pl 32 (.int .i64 z2)] hF hS Fol (by kernel_rfl) (by kernel_rfl) (by kernel_rfl) ?_ (fun a w hF hS => ?_)
                      · exact obs_nil
                      refine block_n ?_
                      refine then_n ?_
                      have hS := hS.pickN 6 [3, 4, 2] (by decide)
                      exact ⟨(w64 (many1 + r4.1)), r4.2.1, A7, c7, hF.weak [0, 1, 6, 8, 9, 10, 32] (by kernel_rfl), hS, hm⟩
                    · replace hm := if_f hm hb
                      refine wpIn_skip ?_
                      refine block_n ?_
                      refine then_n ?_
                      have hS := hS.pickN 6 [3, 4, 5] (by decide)
                      exact ⟨many1, last1, A4, c4, hF.weak [0, 1, 6, 8, 9, 10, 32] (by kernel_rfl), hS, hm⟩
                  · refine reg [] [] [0, 1, 6, 8, 9, 10, 11, 32, 37] [pl 0 (.pointer (some ⟨g1, 0, none⟩)), pl 1 (.int .i64 most1), pl 6 (.int .i64 z1), pl 8 (.int .i64 r2), pl 9 (.int .i64 many1), pl 10 (.slice A4 last1.length c4), pl 11 (.int .i64 z2), pl 32 (.int .i64 z2), pl 37 (.bool (decide (most1 ≤ many1)))] hF hS Fol (by kernel_rfl) (by kernel_rfl) (by kernel_rfl) ?_ (fun a w hF hS => ?_)
                    · exact obs_nil
                    refine cond_ev (t := 37) (b := decide (most1 ≤ many1)) hF (by kernel_rfl) (fun hb => ?_) (fun hb => ?_)
                    · replace hm := if_t hm hb
                      refine wpIn_exit ?_
                      refine then_e (block_o rfl (then_e (then_e (block_e (then_n ?_)))))
                      have hS := hS.pickN 3 [2, 0, 1] (by decide)
                      rw [← hφ2] at hm
                      replace hm := done_b hm
                      unfold nono_picture_solve_2_K2 at hm
                      try dsimp only at hm
                      have hm : ((nono_picture_solve_2_J6 p2) many1 last1).bind φ1 = some r := hm
                      exact ⟨many1, last1, A4, c4, hF.weak [9, 10] (by kernel_rfl), hS, hm⟩
                    · replace hm := if_f hm hb
                      refine wpIn_skip ?_
                      refine then_n ?_
                      exact ⟨hF.weak [0, 1, 6, 8, 9, 10, 11, 32] (by kernel_rfl), hS, hm⟩
              · refine cond_ev (t := 33) (b := decide (z2 < 2)) hF (by kernel_rfl) (fun hb => ?_) (fun hb => ?_)
                · replace hm := if_t hm hb
                  refine wpIn_skip ?_
                  refine then_n ?_
                  exact ⟨hF.weak [0, 1, 6, 8, 9, 10, 32] (by kernel_rfl), hS, hm⟩
                · replace hm := if_f hm hb
                  refine wpIn_exit ?_
                  refine then_e (then_e (block_e (then_n ?_)))
                  have hS := hS.pickN 3 [2, 0, 1] (by decide)
                  rw [← hφ2] at hm
                  replace hm := done_b hm
                  unfold nono_picture_solve_2_K2 at hm
                  try dsimp only at hm
                  have hm : ((nono_picture_solve_2_J6 p2) many1 last1).bind φ1 = some r := hm
                  exact ⟨many1, last1, A4, c4, hF.weak [9, 10] (by kernel_rfl), hS, hm⟩
          · refine reg [] [] [0, 1, 6, 8, 21, 22, 23, 31] [pl 0 (.pointer (some ⟨g1, 0, none⟩)), pl 1 (.int .i64 most1), pl 6 (.int .i64 z1), pl 8 (.int .i64 r2), pl 21 (.slice A3 p_cells1.length c3), pl 22 (.int .i64 (p_cells1.length : Int)), pl 23 (.int .i64 z1), pl 31 (.bool (decide (r2 < 0)))] hF hS Fol (by kernel_rfl) (by kernel_rfl) (by kernel_rfl) ?_ (fun a w hF hS => ?_)
            · exact obs_nil
            refine cond_ev (t := 31) (b := decide (r2 < 0)) hF (by kernel_rfl) (fun hb => ?_) (fun hb => ?_)
            · replace hm := if_t hm hb
              refine wpIn_exit ?_
              refine then_e (block_e (then_n ?_))
              exact ⟨hF.weak [0, 1, 21, 22, 23] (by kernel_rfl), hS, hm⟩
            · replace hm := if_f hm hb
              refine wpIn_skip ?_
              refine then_n ?_
              exact ⟨hF.weak [0, 1, 6, 8] (by kernel_rfl), hS, hm⟩
      · refine cond_ev (t := 24) (b := decide (z1 < (p_cells1.length : Int))) hF (by kernel_rfl) (fun hb => ?_) (fun hb => ?_)
        · replace hm := if_t hm hb
          refine wpIn_skip ?_
          refine then_n ?_
          exact ⟨hF.weak [0, 1, 21, 22, 23] (by kernel_rfl), hS, hm⟩
        · replace hm := if_f hm hb
          refine wpIn_exit ?_
          refine then_e (then_e (block_e (then_n ?_)))
          rw [← hφ1] at hm
          replace hm := done_b hm
          unfold nono_picture_solve_2_K1 at hm
          try dsimp only at hm
          have hm : ((nono_picture_solve_2_J2 p2)).bind some = some r := hm
          exact ⟨hF.weak [0] (by kernel_rfl), hS, hm⟩
  · refine seqR ?_
    obtain ⟨r1, hr1, hm⟩ := call_b hm
    refine at_run 1 [] [] [0, 1, 15] [pl 0 (.pointer (some ⟨g1, 0, none⟩)), pl 1 (.int .i64 most1), pl 15 (.pointer (some ⟨g1, 0, none⟩))] hF hS (by kernel_rfl) (by kernel_rfl) ?_ (fun a w hF hS => ?_)
    · exact obs_nil
    refine at_call (f := 60) (args := #[.pointer (some ⟨g1, 0, none⟩)]) (d := 16) hF (by kernel_rfl) (by kernel_rfl) Try.func60 (by kernel_rfl) rfl (nono_picture_push_2_w hr1 hS (fun _ hS => (hr_p_rows1 _ (hS.dropN 0))) _hc_p_rows1 rfl (fun _ hS => (hr_p_columns1 _ (hS.dropN 0))) _hc_p_columns1 rfl) (fun v a w hR hF => ?_)
    clear hS
    obtain ⟨hd5, rfl, hS⟩ := hR
    have hS : Sep w0 B w (blk g1 109 #[.slice A1 p_rows1.length c1, .slice A2 p_columns1.length c2, .slice A3 p_cells1.length c3] :: rows 22 3 (.slice A3 p_cells1.length c3) hd5 r1.2 :: fs) := hS
    refine at_run 1 [] [] [0, 1, 17] [pl 0 (.pointer (some ⟨g1, 0, none⟩)), pl 1 (.int .i64 most1), pl 17 (.bool (!r1.1))] hF hS (by kernel_rfl) (by kernel_rfl) ?_ (fun a w hF hS => ?_)
    · exact obs_nil
    refine at_end [0, 1, 17] [pl 0 (.pointer (some ⟨g1, 0, none⟩)), pl 1 (.int .i64 most1), pl 17 (.bool (!r1.1))] hF rfl (by kernel_rfl) (fun hF => ?_)
    refine then_n ?_
    refine cond_ev (t := 17) (b := !r1.1) hF (by kernel_rfl) (fun hb => ?_) (fun hb => ?_)
    · replace hm := if_t hm hb
      refine reg [] [] [4, 5] [pl 4 (.int .i64 0), pl 5 (.slice none 0 0)] hF hS Fol (by kernel_rfl) (by kernel_rfl) (by kernel_rfl) ?_ (fun a w hF hS => ?_)
      · exact obs_nil
      refine wpIn_ret ?_
      refine then_r ?_
      have hS : Sep w0 B w (own 3 (.slice none 0 0) (vI ([] : List Int)) :: blk g1 109 #[.slice A1 p_rows1.length c1, .slice A2 p_columns1.length c2, .slice A3 p_cells1.length c3] :: rows 22 3 (.slice A3 p_cells1.length c3) hd5 r1.2 :: fs) := hS.nil 3
      have hl1 := (hS.at_ 0 rfl).len1
      have hS := (hS.at_ 0 rfl).reN hl1
      have hS : Sep w0 B w (own 3 (.slice none (([] : List Int).length) 0) (vI ([] : List Int)) :: blk g1 109 #[.slice A1 p_rows1.length c1, .slice A2 p_columns1.length c2, .slice A3 p_cells1.length c3] :: rows 22 3 (.slice A3 p_cells1.length c3) hd5 r1.2 :: fs) := hS
      have hS := hS.pickN 3 [1, 2, 0] (by decide)
      have hm : some (0, ([] : List Int), r1.2) = some r := hm
      obtain rfl := Option.some.inj hm
      exact retV (rs := [.tmp 4, .tmp 5]) (vs := [.int .i64 0, .slice none (([] : List Int).length) 0]) hF rfl (rv_t (by kernel_rfl) <| rv_t (by kernel_rfl) <| rv_nil) rfl ⟨_, rfl, hd5, none, 0, rfl, hS⟩
    · replace hm := if_f hm hb
      refine wpIn_skip ?_
      refine then_n ?_
      exact ⟨r1.2, hd5, hF.weak [0, 1] (by kernel_rfl), hS, hm⟩

theorem nono_picture_solve_2_w  {g1 : Nat} {A1 : Option Addr} {c1 : Nat} {n1 : Nat} {hd1 : List Hd} {p_rows1 : List (List Int)} {A2 : Option Addr} {c2 : Nat} {n2 : Nat} {hd2 : List Hd} {p_columns1 : List (List Int)} {A3 : Option Addr} {c3 : Nat} {n3 : Nat} {hd3 : List Hd} {p_cells1 : List (List Int)} {most1 : Int} {r : (Int × List Int × List (List Int))} {w0 w : World} {B : Nat} {fs : List HP} (hm : nono_picture_solve_2_m p_rows1 p_columns1 p_cells1 most1 = some r) (hS : Sep w0 B w (blk g1 109 #[.slice A1 n1 c1, .slice A2 n2 c2, .slice A3 n3 c3] :: rows 22 3 (.slice A3 n3 c3) hd3 p_cells1 :: fs)) (hr_p_rows1 : RdRowsF w0 B fs A1 hd1 p_rows1) (_hc_p_rows1 : p_rows1.length ≤ c1) (_hn_p_rows1 : n1 = p_rows1.length) (hr_p_columns1 : RdRowsF w0 B fs A2 hd2 p_columns1) (_hc_p_columns1 : p_columns1.length ≤ c2) (_hn_p_columns1 : n2 = p_columns1.length) :
    Calls Try.prog 59 #[.pointer (some ⟨g1, 0, none⟩), .int .i64 most1] w fun e w' => ∃ v, e = .returned v ∧ ∃ (hd4 : List Hd) (A10 : Option Addr) (c10 : Nat), v = .tuple #[.int .i64 r.1, .slice A10 r.2.1.length c10] ∧ Sep w0 B w' (blk g1 109 #[.slice A1 n1 c1, .slice A2 n2 c2, .slice A3 n3 c3] :: rows 22 3 (.slice A3 n3 c3) hd4 r.2.2 :: own 3 (.slice A10 r.2.1.length c10) (vI r.2.1) :: fs) := by
  have key : ∀ (n : Nat) {g1 : Nat} {A1 : Option Addr} {c1 : Nat} {n1 : Nat} {hd1 : List Hd} {p_rows1 : List (List Int)} {A2 : Option Addr} {c2 : Nat} {n2 : Nat} {hd2 : List Hd} {p_columns1 : List (List Int)} {A3 : Option Addr} {c3 : Nat} {n3 : Nat} {hd3 : List Hd} {p_cells1 : List (List Int)} {most1 : Int} {r : (Int × List Int × List (List Int))} {w0 w : World} {B : Nat} {fs : List HP} (_ : nono_picture_solve_2_mF n p_rows1 p_columns1 p_cells1 most1 = some r) (_ : Sep w0 B w (blk g1 109 #[.slice A1 n1 c1, .slice A2 n2 c2, .slice A3 n3 c3] :: rows 22 3 (.slice A3 n3 c3) hd3 p_cells1 :: fs)) (hr_p_rows1 : RdRowsF w0 B fs A1 hd1 p_rows1) (_hc_p_rows1 : p_rows1.length ≤ c1) (_hn_p_rows1 : n1 = p_rows1.length) (hr_p_columns1 : RdRowsF w0 B fs A2 hd2 p_columns1) (_hc_p_columns1 : p_columns1.length ≤ c2) (_hn_p_columns1 : n2 = p_columns1.length), Calls Try.prog 59 #[.pointer (some ⟨g1, 0, none⟩), .int .i64 most1] w fun e w' => ∃ v, e = .returned v ∧ ∃ (hd4 : List Hd) (A10 : Option Addr) (c10 : Nat), v = .tuple #[.int .i64 r.1, .slice A10 r.2.1.length c10] ∧ Sep w0 B w' (blk g1 109 #[.slice A1 n1 c1, .slice A2 n2 c2, .slice A3 n3 c3] :: rows 22 3 (.slice A3 n3 c3) hd4 r.2.2 :: own 3 (.slice A10 r.2.1.length c10) (vI r.2.1) :: fs) := by
    intro n
    induction n with
    | zero => intros; rename_i hm0 _ _ _ _ _ _ _; cases hm0
    | succ n ih => intros; rename_i hm0 hS0 h0 h1 h2 h3 h4 h5; exact nono_picture_solve_2_wB (rec_nono_picture_solve_2 := nono_picture_solve_2_mF n) (fun hm hS h0 h1 h2 h3 h4 h5 => ih hm hS h0 h1 h2 h3 h4 h5) hm0 hS0 h0 h1 h2 h3 h4 h5
  obtain ⟨n, hn⟩ := recM_some hm
  exact key n hn hS hr_p_rows1 _hc_p_rows1 _hn_p_rows1 hr_p_columns1 _hc_p_columns1 _hn_p_columns1

set_option maxRecDepth 100000 in
theorem nono_picture_solve_2_J9_le_nono_picture_solve_2 {rec_nono_picture_solve_21 rec_nono_picture_solve_22 : List (List Int) → List (List Int) → List (List Int) → Int → Option (Int × List Int × List (List Int))} (h_rec_nono_picture_solve_2 : ∀ a0 a1 a2 a3, Le (rec_nono_picture_solve_21 a0 a1 a2 a3) (rec_nono_picture_solve_22 a0 a1 a2 a3)) (p_rows1 : List (List Int)) (p_columns1 : List (List Int)) (most1 : Int) (p2 : List (List Int)) (z1 : Int) (r2 : Int) (many1 : Int) (last1 : List Int) (z2 : Int) : Le (nono_picture_solve_2_J9 rec_nono_picture_solve_21 p_rows1 p_columns1 most1 p2 z1 r2 many1 last1 z2) (nono_picture_solve_2_J9 rec_nono_picture_solve_22 p_rows1 p_columns1 most1 p2 z1 r2 many1 last1 z2) := by
  unfold nono_picture_solve_2_J9
  repeat' (first | with_reducible exact Le.refl _ | with_reducible exact h_rec_nono_picture_solve_2 _ _ _ _ | with_reducible refine Le.asrt ?_ | with_reducible refine Le.ite ?_ ?_ | refine Le.bind ?_ (fun _ => ?_) | refine Le.loop2 (fun _ => ?_) | refine Le.elim2 (fun _ => ?_) (fun _ => ?_))

set_option maxRecDepth 100000 in
theorem nono_picture_solve_2_J7_le_nono_picture_solve_2 {rec_nono_picture_solve_21 rec_nono_picture_solve_22 : List (List Int) → List (List Int) → List (List Int) → Int → Option (Int × List Int × List (List Int))} (h_rec_nono_picture_solve_2 : ∀ a0 a1 a2 a3, Le (rec_nono_picture_solve_21 a0 a1 a2 a3) (rec_nono_picture_solve_22 a0 a1 a2 a3)) (p_rows1 : List (List Int)) (p_columns1 : List (List Int)) (most1 : Int) (p2 : List (List Int)) (z1 : Int) (r2 : Int) (many1 : Int) (last1 : List Int) (z2 : Int) : Le (nono_picture_solve_2_J7 rec_nono_picture_solve_21 p_rows1 p_columns1 most1 p2 z1 r2 many1 last1 z2) (nono_picture_solve_2_J7 rec_nono_picture_solve_22 p_rows1 p_columns1 most1 p2 z1 r2 many1 last1 z2) := by
  unfold nono_picture_solve_2_J7
  repeat' (first | with_reducible exact Le.refl _ | with_reducible exact h_rec_nono_picture_solve_2 _ _ _ _ | with_reducible exact nono_picture_solve_2_J9_le_nono_picture_solve_2 h_rec_nono_picture_solve_2 _ _ _ _ _ _ _ _ _ | with_reducible refine Le.asrt ?_ | with_reducible refine Le.ite ?_ ?_ | refine Le.bind ?_ (fun _ => ?_) | refine Le.loop2 (fun _ => ?_) | refine Le.elim2 (fun _ => ?_) (fun _ => ?_))

set_option maxRecDepth 100000 in
theorem nono_picture_solve_2_L2_le_nono_picture_solve_2 {rec_nono_picture_solve_21 rec_nono_picture_solve_22 : List (List Int) → List (List Int) → List (List Int) → Int → Option (Int × List Int × List (List Int))} (h_rec_nono_picture_solve_2 : ∀ a0 a1 a2 a3, Le (rec_nono_picture_solve_21 a0 a1 a2 a3) (rec_nono_picture_solve_22 a0 a1 a2 a3)) (p_rows1 : List (List Int)) (p_columns1 : List (List Int)) (most1 : Int) (p2 : List (List Int)) (z1 : Int) (r2 : Int) (x : (Int × List Int × Int)) : Le (nono_picture_solve_2_L2 rec_nono_picture_solve_21 p_rows1 p_columns1 most1 p2 z1 r2 x) (nono_picture_solve_2_L2 rec_nono_picture_solve_22 p_rows1 p_columns1 most1 p2 z1 r2 x) := by
  rcases x with ⟨many1, last1, z2⟩
  all_goals
    unfold nono_picture_solve_2_L2
    try dsimp only
    repeat' (first | with_reducible exact Le.refl _ | with_reducible exact h_rec_nono_picture_solve_2 _ _ _ _ | with_reducible exact nono_picture_solve_2_J7_le_nono_picture_solve_2 h_rec_nono_picture_solve_2 _ _ _ _ _ _ _ _ _ | with_reducible refine Le.asrt ?_ | with_reducible refine Le.ite ?_ ?_ | refine Le.bind ?_ (fun _ => ?_) | refine Le.loop2 (fun _ => ?_) | refine Le.elim2 (fun _ => ?_) (fun _ => ?_))

set_option maxRecDepth 100000 in
theorem nono_picture_solve_2_J5_le_nono_picture_solve_2 {rec_nono_picture_solve_21 rec_nono_picture_solve_22 : List (List Int) → List (List Int) → List (List Int) → Int → Option (Int × List Int × List (List Int))} (h_rec_nono_picture_solve_2 : ∀ a0 a1 a2 a3, Le (rec_nono_picture_solve_21 a0 a1 a2 a3) (rec_nono_picture_solve_22 a0 a1 a2 a3)) (p_rows1 : List (List Int)) (p_columns1 : List (List Int)) (most1 : Int) (p2 : List (List Int)) (z1 : Int) (r2 : Int) : Le (nono_picture_solve_2_J5 rec_nono_picture_solve_21 p_rows1 p_columns1 most1 p2 z1 r2) (nono_picture_solve_2_J5 rec_nono_picture_solve_22 p_rows1 p_columns1 most1 p2 z1 r2) := by
  unfold nono_picture_solve_2_J5
  repeat' (first | with_reducible exact Le.refl _ | with_reducible exact h_rec_nono_picture_solve_2 _ _ _ _ | with_reducible exact nono_picture_solve_2_L2_le_nono_picture_solve_2 h_rec_nono_picture_solve_2 _ _ _ _ _ _ _ | with_reducible refine Le.asrt ?_ | with_reducible refine Le.ite ?_ ?_ | refine Le.bind ?_ (fun _ => ?_) | refine Le.loop2 (fun _ => ?_) | refine Le.elim2 (fun _ => ?_) (fun _ => ?_))

set_option maxRecDepth 100000 in
theorem nono_picture_solve_2_J3_le_nono_picture_solve_2 {rec_nono_picture_solve_21 rec_nono_picture_solve_22 : List (List Int) → List (List Int) → List (List Int) → Int → Option (Int × List Int × List (List Int))} (h_rec_nono_picture_solve_2 : ∀ a0 a1 a2 a3, Le (rec_nono_picture_solve_21 a0 a1 a2 a3) (rec_nono_picture_solve_22 a0 a1 a2 a3)) (p_rows1 : List (List Int)) (p_columns1 : List (List Int)) (p_cells1 : List (List Int)) (most1 : Int) (p2 : List (List Int)) (z1 : Int) : Le (nono_picture_solve_2_J3 rec_nono_picture_solve_21 p_rows1 p_columns1 p_cells1 most1 p2 z1) (nono_picture_solve_2_J3 rec_nono_picture_solve_22 p_rows1 p_columns1 p_cells1 most1 p2 z1) := by
  unfold nono_picture_solve_2_J3
  repeat' (first | with_reducible exact Le.refl _ | with_reducible exact h_rec_nono_picture_solve_2 _ _ _ _ | with_reducible exact nono_picture_solve_2_J5_le_nono_picture_solve_2 h_rec_nono_picture_solve_2 _ _ _ _ _ _ | with_reducible refine Le.asrt ?_ | with_reducible refine Le.ite ?_ ?_ | refine Le.bind ?_ (fun _ => ?_) | refine Le.loop2 (fun _ => ?_) | refine Le.elim2 (fun _ => ?_) (fun _ => ?_))

set_option maxRecDepth 100000 in
theorem nono_picture_solve_2_L1_le_nono_picture_solve_2 {rec_nono_picture_solve_21 rec_nono_picture_solve_22 : List (List Int) → List (List Int) → List (List Int) → Int → Option (Int × List Int × List (List Int))} (h_rec_nono_picture_solve_2 : ∀ a0 a1 a2 a3, Le (rec_nono_picture_solve_21 a0 a1 a2 a3) (rec_nono_picture_solve_22 a0 a1 a2 a3)) (p_rows1 : List (List Int)) (p_columns1 : List (List Int)) (p_cells1 : List (List Int)) (most1 : Int) (p2 : List (List Int)) (x : Int) : Le (nono_picture_solve_2_L1 rec_nono_picture_solve_21 p_rows1 p_columns1 p_cells1 most1 p2 x) (nono_picture_solve_2_L1 rec_nono_picture_solve_22 p_rows1 p_columns1 p_cells1 most1 p2 x) := by
  rcases x with z1
  all_goals
    unfold nono_picture_solve_2_L1
    try dsimp only
    repeat' (first | with_reducible exact Le.refl _ | with_reducible exact h_rec_nono_picture_solve_2 _ _ _ _ | with_reducible exact nono_picture_solve_2_J3_le_nono_picture_solve_2 h_rec_nono_picture_solve_2 _ _ _ _ _ _ | with_reducible refine Le.asrt ?_ | with_reducible refine Le.ite ?_ ?_ | refine Le.bind ?_ (fun _ => ?_) | refine Le.loop2 (fun _ => ?_) | refine Le.elim2 (fun _ => ?_) (fun _ => ?_))

set_option maxRecDepth 100000 in
theorem nono_picture_solve_2_J1_le_nono_picture_solve_2 {rec_nono_picture_solve_21 rec_nono_picture_solve_22 : List (List Int) → List (List Int) → List (List Int) → Int → Option (Int × List Int × List (List Int))} (h_rec_nono_picture_solve_2 : ∀ a0 a1 a2 a3, Le (rec_nono_picture_solve_21 a0 a1 a2 a3) (rec_nono_picture_solve_22 a0 a1 a2 a3)) (p_rows1 : List (List Int)) (p_columns1 : List (List Int)) (p_cells1 : List (List Int)) (most1 : Int) (p2 : List (List Int)) : Le (nono_picture_solve_2_J1 rec_nono_picture_solve_21 p_rows1 p_columns1 p_cells1 most1 p2) (nono_picture_solve_2_J1 rec_nono_picture_solve_22 p_rows1 p_columns1 p_cells1 most1 p2) := by
  unfold nono_picture_solve_2_J1
  repeat' (first | with_reducible exact Le.refl _ | with_reducible exact h_rec_nono_picture_solve_2 _ _ _ _ | with_reducible exact nono_picture_solve_2_L1_le_nono_picture_solve_2 h_rec_nono_picture_solve_2 _ _ _ _ _ _ | with_reducible refine Le.asrt ?_ | with_reducible refine Le.ite ?_ ?_ | refine Le.bind ?_ (fun _ => ?_) | refine Le.loop2 (fun _ => ?_) | refine Le.elim2 (fun _ => ?_) (fun _ => ?_))

set_option maxRecDepth 100000 in
theorem nono_picture_solve_2_B_le {rec_nono_picture_solve_21 rec_nono_picture_solve_22 : List (List Int) → List (List Int) → List (List Int) → Int → Option (Int × List Int × List (List Int))} (h_rec_nono_picture_solve_2 : ∀ a0 a1 a2 a3, Le (rec_nono_picture_solve_21 a0 a1 a2 a3) (rec_nono_picture_solve_22 a0 a1 a2 a3)) (p_rows1 : List (List Int)) (p_columns1 : List (List Int)) (p_cells1 : List (List Int)) (most1 : Int) : Le (nono_picture_solve_2_B rec_nono_picture_solve_21 p_rows1 p_columns1 p_cells1 most1) (nono_picture_solve_2_B rec_nono_picture_solve_22 p_rows1 p_columns1 p_cells1 most1) := by
  unfold nono_picture_solve_2_B
  repeat' (first | with_reducible exact Le.refl _ | with_reducible exact h_rec_nono_picture_solve_2 _ _ _ _ | with_reducible exact nono_picture_solve_2_J1_le_nono_picture_solve_2 h_rec_nono_picture_solve_2 _ _ _ _ _ | with_reducible refine Le.asrt ?_ | with_reducible refine Le.ite ?_ ?_ | refine Le.bind ?_ (fun _ => ?_) | refine Le.loop2 (fun _ => ?_) | refine Le.elim2 (fun _ => ?_) (fun _ => ?_))

set_option maxRecDepth 100000 in
theorem nono_picture_solve_2_mF_le : ∀ (n : Nat) (p_rows1 : List (List Int)) (p_columns1 : List (List Int)) (p_cells1 : List (List Int)) (most1 : Int), Le (nono_picture_solve_2_mF n p_rows1 p_columns1 p_cells1 most1) (nono_picture_solve_2_mF (n + 1) p_rows1 p_columns1 p_cells1 most1)
  | 0, _, _, _, _ => fun _ h => by cases h
  | n + 1, _, _, _, _ => nono_picture_solve_2_B_le (fun a0 a1 a2 a3 => nono_picture_solve_2_mF_le n a0 a1 a2 a3) _ _ _ _

set_option maxRecDepth 100000 in
theorem nono_picture_solve_2_m_of (N : Nat) (p_rows1 : List (List Int)) (p_columns1 : List (List Int)) (p_cells1 : List (List Int)) (most1 : Int) {r : (Int × List Int × List (List Int))} (h : nono_picture_solve_2_mF N p_rows1 p_columns1 p_cells1 most1 = some r) : nono_picture_solve_2_m p_rows1 p_columns1 p_cells1 most1 = some r :=
  recM_mono (fun n => nono_picture_solve_2_mF_le n _ _ _ _) h

noncomputable def nono_Solve_J2  (r3 : (Int × List Int)) (l1 : List Int) : Option (Int × List Int × Int) :=
  some (r3.1, l1, 0)

noncomputable def nono_Solve_J1  (most1 : Int) : Option (Int × List Int × Int) :=
  (nono_picture_solve_m most1).bind fun r3 => if ((r3.1 != 1) || (most1 == 1)) then ((nono_Solve_J2 r3) ([] : List Int)) else ((nono_Solve_J2 r3) r3.2)

noncomputable def nono_Solve_J4  (r5 : (Int × List Int × List (List Int))) (l2 : List Int) : Option (Int × List Int × Int) :=
  some (r5.1, l2, 0)

noncomputable def nono_Solve_J3  (rows1 : List (List Int)) (columns1 : List (List Int)) (most1 : Int) (r4 : (List (List Int))) : Option (Int × List Int × Int) :=
  (nono_picture_solve_2_m rows1 columns1 r4 most1).bind fun r5 => if ((r5.1 != 1) || (most1 == 1)) then ((nono_Solve_J4 r5) ([] : List Int)) else ((nono_Solve_J4 r5) r5.2.1)

noncomputable def nono_Solve_m  (rows1 : List (List Int)) (columns1 : List (List Int)) (most1 : Int) : Option (Int × List Int × Int) :=
  (nono_newPicture_m rows1 columns1).bind fun r1 => Fl.elim2 r1 (fun (r2 : Int) => if (r2 != 0) then (some (0, ([] : List Int), r2)) else (if ((decide (most1 < 1)) || (decide ((1000 : Int) < most1))) then (some (0, ([] : List Int), 3)) else ((nono_Solve_J1 most1)))) (fun (r4 : (List (List Int))) => if ((decide (most1 < 1)) || (decide ((1000 : Int) < most1))) then (some (0, ([] : List Int), 3)) else ((nono_Solve_J3 rows1 columns1 most1 r4)))

set_option maxRecDepth 100000 in
set_option maxHeartbeats 4000000 in
theorem nono_Solve_w  {A1 : Option Addr} {c1 : Nat} {n1 : Nat} {hd1 : List Hd} {rows1 : List (List Int)} {A2 : Option Addr} {c2 : Nat} {n2 : Nat} {hd2 : List Hd} {columns1 : List (List Int)} {most1 : Int} {r : (Int × List Int × Int)} {w0 w : World} {B : Nat} {fs : List HP} (hm : nono_Solve_m rows1 columns1 most1 = some r) (hS : Sep w0 B w (fs)) (hr_rows1 : RdRowsF w0 B fs A1 hd1 rows1) (_hc_rows1 : rows1.length ≤ c1) (_hn_rows1 : n1 = rows1.length) (hr_columns1 : RdRowsF w0 B fs A2 hd2 columns1) (_hc_columns1 : columns1.length ≤ c2) (_hn_columns1 : n2 = columns1.length) :
    Calls Try.prog 16 #[.slice A1 n1 c1, .slice A2 n2 c2, .int .i64 most1] w fun e w' => ∃ v, e = .returned v ∧ ∃ (A8 : Option Addr) (c8 : Nat), v = .tuple #[.int .i64 r.1, .slice A8 r.2.1.length c8, .int .i64 r.2.2] ∧ Sep w0 B w' (own 3 (.slice A8 r.2.1.length c8) (vI r.2.1) :: fs) := by
  obtain ⟨i3, hi3, hz3, hs3, hb3⟩ := info_parts Info3
  obtain rfl := _hn_rows1
  obtain rfl := _hn_columns1
  unfold nono_Solve_m at hm
  replace hm := start_b hm
  refine enter (l := [.slice A1 rows1.length c1, .slice A2 columns1.length c2, .int .i64 most1]) (n := 44) Try.func16 rfl rfl (by simp) (fun a hF => ?_)
  refine reg [] [] [0, 1, 2] [pl 0 (.slice A1 rows1.length c1), pl 1 (.slice A2 columns1.length c2), pl 2 (.int .i64 most1)] hF hS Fol (by kernel_rfl) (by kernel_rfl) (by kernel_rfl) ?_ (fun a w hF hS => ?_)
  · exact obs_nil
  refine seqR ?_
  obtain ⟨r1, hr1, hm⟩ := call_b hm
  refine at_run 2 [] [] [2, 14, 15] [pl 2 (.int .i64 most1), pl 14 (.slice A1 rows1.length c1), pl 15 (.slice A2 columns1.length c2)] hF hS (by kernel_rfl) (by kernel_rfl) ?_ (fun a w hF hS => ?_)
  · exact obs_nil
  refine at_call (f := 58) (args := #[.slice A1 rows1.length c1, .slice A2 columns1.length c2]) (d := 16) hF (by kernel_rfl) (by kernel_rfl) Try.func58 (by kernel_rfl) rfl (nono_newPicture_w hr1 hS (fun _ hS => (hr_rows1 _ (hS.dropN 0))) _hc_rows1 rfl (fun _ hS => (hr_columns1 _ (hS.dropN 0))) _hc_columns1 rfl) (fun v a w hR hF => ?_)
  clear hS
  rcases r1 with r2 | r4
  · replace hm := fl_go hm
    replace hR := flp_go hR
    obtain ⟨rfl, hS⟩ := hR
    have hS : Sep w0 B w (fs) := hS
    refine at_run 5 [] [] [2, 9, 10] [pl 2 (.int .i64 most1), pl 9 (.pointer none), pl 10 (.int .i64 r2)] hF hS (by kernel_rfl) (by kernel_rfl) ?_ (fun a w hF hS => ?_)
    · exact obs_nil
    refine at_end [2, 9, 10] [pl 2 (.int .i64 most1), pl 9 (.pointer none), pl 10 (.int .i64 r2)] hF rfl (by kernel_rfl) (fun hF => ?_)
    refine then_n ?_
    refine seq_cut (fun a w => Fr 44 [pl 2 (.int .i64 most1), pl 9 (.pointer none)] a ∧ Sep w0 B w (fs) ∧ ((nono_Solve_J1 most1)).bind some = some r) ?_ ?_
    · rintro a w ⟨hF, hS, hm⟩
      unfold nono_Solve_J1 at hm
      refine seqR ?_
      obtain ⟨r3, hr2, hm⟩ := call_b hm
      refine at_run 2 [] [] [2, 31, 32] [pl 2 (.int .i64 most1), pl 31 (.pointer none), pl 32 (.int .i64 most1)] hF hS (by kernel_rfl) (by kernel_rfl) ?_ (fun a w hF hS => ?_)
      · exact obs_nil
      refine at_call (f := 59) (args := #[.pointer none, .int .i64 most1]) (d := 33) hF (by kernel_rfl) (by kernel_rfl) Try.func59 (by kernel_rfl) rfl (nono_picture_solve_w hr2 hS ) (fun v a w hR hF => ?_)
      clear hS
      obtain ⟨A3, c3, rfl, hS⟩ := hR
      have hS : Sep w0 B w (own 3 (.slice A3 r3.2.length c3) (vI r3.2) :: fs) := hS
      refine at_run 5 [] [] [2, 11, 12] [pl 2 (.int .i64 most1), pl 11 (.int .i64 r3.1), pl 12 (.slice A3 r3.2.length c3)] hF hS (by kernel_rfl) (by kernel_rfl) ?_ (fun a w hF hS => ?_)
      · exact obs_nil
      refine at_end [2, 11, 12] [pl 2 (.int .i64 most1), pl 11 (.int .i64 r3.1), pl 12 (.slice A3 r3.2.length c3)] hF rfl (by kernel_rfl) (fun hF => ?_)
      refine then_n ?_
      refine seq_cut (fun a w => ∃ (l1 : List Int) (A4 : Option Addr) (c4 : Nat), Fr 44 [pl 11 (.int .i64 r3.1), pl 12 (.slice A4 l1.length c4)] a ∧ Sep w0 B w (own 3 (.slice A4 l1.length c4) (vI l1) :: fs) ∧ ((nono_Solve_J2 r3) l1).bind some = some r) ?_ ?_
      · rintro a w ⟨l1, A4, c4, hF, hS, hm⟩
        unfold nono_Solve_J2 at hm
        refine reg [] [] [6, 7, 8] [pl 6 (.int .i64 r3.1), pl 7 (.slice A4 l1.length c4), pl 8 (.int .i64 0)] hF hS Fol (by kernel_rfl) (by kernel_rfl) (by kernel_rfl) ?_ (fun a w hF hS => ?_)
        · exact obs_nil
        refine wpIn_ret ?_
        have hm : some (r3.1, l1, 0) = some r := hm
        obtain rfl := Option.some.inj hm
        exact retV (rs := [.tmp 6, .tmp 7, .tmp 8]) (vs := [.int .i64 r3.1, .slice A4 l1.length c4, .int .i64 0]) hF rfl (rv_t (by kernel_rfl) <| rv_t (by kernel_rfl) <| rv_t (by kernel_rfl) <| rv_nil) rfl ⟨_, rfl, A4, c4, rfl, hS⟩
      · refine reg [] [] [11, 12, 41] [pl 11 (.int .i64 r3.1), pl 12 (.slice A3 r3.2.length c3), pl 41 (.bool ((r3.1 != 1) || (most1 == 1)))] hF hS Fol (by kernel_rfl) (by kernel_rfl) (by kernel_rfl) ?_ (fun a w hF hS => ?_)
        · exact obs_nil
        refine cond_ev (t := 41) (b := (r3.1 != 1) || (most1 == 1)) hF (by kernel_rfl) (fun hb => ?_) (fun hb => ?_)
        · replace hm := if_t hm hb
          refine reg1 [] [] [11, 12] [pl 11 (.int .i64 r3.1), pl 12 (.slice none 0 0)] hF hS Fol (by kernel_rfl) (by kernel_rfl) (by kernel_rfl) ?_ (fun a w hF hS => ?_)
          · exact obs_nil
          refine then_n ?_
          have hS : Sep w0 B w (own 3 (.slice none 0 0) (vI ([] : List Int)) :: own 3 (.slice A3 r3.2.length c3) (vI r3.2) :: fs) := hS.nil 3
          have hl3 := (hS.at_ 0 rfl).len1
          have hS := (hS.at_ 0 rfl).reN hl3
          have hS : Sep w0 B w (own 3 (.slice none (([] : List Int).length) 0) (vI ([] : List Int)) :: own 3 (.slice A3 r3.2.length c3) (vI r3.2) :: fs) := hS
          have hF := hF.cast (t := 12) (v := .slice none 0 0) (v' := .slice none (([] : List Int).length) 0) rfl rfl (congrArg (fun k => Value.slice none k 0) hl3)
          have hS := hS.pickN 2 [0] (by decide)
          exact ⟨([] : List Int), none, 0, hF.weak [11, 12] (by kernel_rfl), hS, hm⟩
        · replace hm := if_f hm hb
          refine wpIn_skip ?_
          refine then_n ?_
          exact ⟨r3.2, A3, c3, hF.weak [11, 12] (by kernel_rfl), hS, hm⟩
    · refine wpIn_block ?_
      refine reg [] [] [2, 9, 10, 19] [pl 2 (.int .i64 most1), pl 9 (.pointer none), pl 10 (.int .i64 r2), pl 19 (.bool (r2 != 0))] hF hS Fol (by kernel_rfl) (by kernel_rfl) (by kernel_rfl) ?_ (fun a w hF hS => ?_)
      · exact obs_nil
      refine cond_ev (t := 19) (b := (r2 != 0)) hF (by kernel_rfl) (fun hb => ?_) (fun hb => ?_)
      · replace hm := if_t hm hb
        refine reg [] [] [6, 7, 8] [pl 6 (.int .i64 0), pl 7 (.slice none 0 0), pl 8 (.int .i64 r2)] hF hS Fol (by kernel_rfl) (by kernel_rfl) (by kernel_rfl) ?_ (fun a w hF hS => ?_)
        · exact obs_nil
        refine wpIn_ret ?_
        refine block_r (then_r ?_)
        have hS : Sep w0 B w (own 3 (.slice none 0 0) (vI ([] : List Int)) :: fs) := hS.nil 3
        have hl1 := (hS.at_ 0 rfl).len1
        have hS := (hS.at_ 0 rfl).reN hl1
        have hS : Sep w0 B w (own 3 (.slice none (([] : List Int).length) 0) (vI ([] : List Int)) :: fs) := hS
        have hm : some (0, ([] : List Int), r2) = some r := hm
        obtain rfl := Option.some.inj hm
        exact retV (rs := [.tmp 6, .tmp 7, .tmp 8]) (vs := [.int .i64 0, .slice none (([] : List Int).length) 0, .int .i64 r2]) hF rfl (rv_t (by kernel_rfl) <| rv_t (by kernel_rfl) <| rv_t (by kernel_rfl) <| rv_nil) rfl ⟨_, rfl, none, 0, rfl, hS⟩
      · replace hm := if_f hm hb
        refine reg [] [] [2, 9, 23] [pl 2 (.int .i64 most1), pl 9 (.pointer none), pl 23 (.bool ((decide (most1 < 1)) || (decide ((1000 : Int) < most1))))] hF hS Fol (by kernel_rfl) (by kernel_rfl) (by kernel_rfl) ?_ (fun a w hF hS => ?_)
        · exact obs_nil
        refine cond_ev (t := 23) (b := (decide (most1 < 1)) || (decide ((1000 : Int) < most1))) hF (by kernel_rfl) (fun hb => ?_) (fun hb => ?_)
        · replace hm := if_t hm hb
          refine reg [] [] [6, 7, 8] [pl 6 (.int .i64 0), pl 7 (.slice none 0 0), pl 8 (.int .i64 3)] hF hS Fol (by kernel_rfl) (by kernel_rfl) (by kernel_rfl) ?_ (fun a w hF hS => ?_)
          · exact obs_nil
          refine wpIn_ret ?_
          refine block_r (then_r ?_)
          have hS : Sep w0 B w (own 3 (.slice none 0 0) (vI ([] : List Int)) :: fs) := hS.nil 3
          have hl2 := (hS.at_ 0 rfl).len1
          have hS := (hS.at_ 0 rfl).reN hl2
          have hS : Sep w0 B w (own 3 (.slice none (([] : List Int).length) 0) (vI ([] : List Int)) :: fs) := hS
          have hm : some (0, ([] : List Int), 3) = some r := hm
          obtain rfl := Option.some.inj hm
          exact retV (rs := [.tmp 6, .tmp 7, .tmp 8]) (vs := [.int .i64 0, .slice none (([] : List Int).length) 0, .int .i64 3]) hF rfl (rv_t (by kernel_rfl) <| rv_t (by kernel_rfl) <| rv_t (by kernel_rfl) <| rv_nil) rfl ⟨_, rfl, none, 0, rfl, hS⟩
        · replace hm := if_f hm hb
          refine wpIn_skip ?_
          refine block_n ?_
          refine then_n ?_
          exact ⟨hF.weak [2, 9] (by kernel_rfl), hS, hm⟩
  · replace hm := fl_ret hm
    replace hR := flp_ret hR
    obtain ⟨g1, A5, c5, hd3, rfl, hS⟩ := hR
    have hS : Sep w0 B w (blk g1 109 #[.slice A1 rows1.length c1, .slice A2 columns1.length c2, .slice A5 r4.length c5] :: rows 22 3 (.slice A5 r4.length c5) hd3 r4 :: fs) := hS
    refine at_run 5 [] [] [2, 9, 10] [pl 2 (.int .i64 most1), pl 9 (.pointer (some ⟨g1, 0, none⟩)), pl 10 (.int .i64 0)] hF hS (by kernel_rfl) (by kernel_rfl) ?_ (fun a w hF hS => ?_)
    · exact obs_nil
    refine at_end [2, 9, 10] [pl 2 (.int .i64 most1), pl 9 (.pointer (some ⟨g1, 0, none⟩)), pl 10 (.int .i64 0)] hF rfl (by kernel_rfl) (fun hF => ?_)
    refine then_n ?_
    refine seq_cut (fun a w => Fr 44 [pl 2 (.int .i64 most1), pl 9 (.pointer (some ⟨g1, 0, none⟩))] a ∧ Sep w0 B w (blk g1 109 #[.slice A1 rows1.length c1, .slice A2 columns1.length c2, .slice A5 r4.length c5] :: rows 22 3 (.slice A5 r4.length c5) hd3 r4 :: fs) ∧ ((nono_Solve_J3 rows1 columns1 most1 r4)).bind some = some r) ?_ ?_
    · rintro a w ⟨hF, hS, hm⟩
      unfold nono_Solve_J3 at hm
      refine seqR ?_
      obtain ⟨r5, hr3, hm⟩ := call_b hm
      refine at_run 2 [] [] [2, 31, 32] [pl 2 (.int .i64 most1), pl 31 (.pointer (some ⟨g1, 0, none⟩)), pl 32 (.int .i64 most1)] hF hS (by kernel_rfl) (by kernel_rfl) ?_ (fun a w hF hS => ?_)
      · exact obs_nil
      refine at_call (f := 59) (args := #[.pointer (some ⟨g1, 0, none⟩), .int .i64 most1]) (d := 33) hF (by kernel_rfl) (by kernel_rfl) Try.func59 (by kernel_rfl) rfl (nono_picture_solve_2_w hr3 hS (fun _ hS => (hr_rows1 _ (hS.dropN 0))) _hc_rows1 rfl (fun _ hS => (hr_columns1 _ (hS.dropN 0))) _hc_columns1 rfl) (fun v a w hR hF => ?_)
      clear hS
      obtain ⟨hd4, A6, c6, rfl, hS⟩ := hR
      have hS : Sep w0 B w (blk g1 109 #[.slice A1 rows1.length c1, .slice A2 columns1.length c2, .slice A5 r4.length c5] :: rows 22 3 (.slice A5 r4.length c5) hd4 r5.2.2 :: own 3 (.slice A6 r5.2.1.length c6) (vI r5.2.1) :: fs) := hS
      refine at_run 5 [] [] [2, 11, 12] [pl 2 (.int .i64 most1), pl 11 (.int .i64 r5.1), pl 12 (.slice A6 r5.2.1.length c6)] hF hS (by kernel_rfl) (by kernel_rfl) ?_ (fun a w hF hS => ?_)
      · exact obs_nil
      refine at_end [2, 11, 12] [pl 2 (.int .i64 most1), pl 11 (.int .i64 r5.1), pl 12 (.slice A6 r5.2.1.length c6)] hF rfl (by kernel_rfl) (fun hF => ?_)
      refine then_n ?_
      refine seq_cut (fun a w => ∃ (l2 : List Int) (A7 : Option Addr) (c7 : Nat), Fr 44 [pl 11 (.int .i64 r5.1), pl 12 (.slice A7 l2.length c7)] a ∧ Sep w0 B w (own 3 (.slice A7 l2.length c7) (vI l2) :: fs) ∧ ((nono_Solve_J4 r5) l2).bind some = some r) ?_ ?_
      · rintro a w ⟨l2, A7, c7, hF, hS, hm⟩
        unfold nono_Solve_J4 at hm
        refine reg [] [] [6, 7, 8] [pl 6 (.int .i64 r5.1), pl 7 (.slice A7 l2.length c7), pl 8 (.int .i64 0)] hF hS Fol (by kernel_rfl) (by kernel_rfl) (by kernel_rfl) ?_ (fun a w hF hS => ?_)
        · exact obs_nil
        refine wpIn_ret ?_
        have hm : some (r5.1, l2, 0) = some r := hm
        obtain rfl := Option.some.inj hm
        exact retV (rs := [.tmp 6, .tmp 7, .tmp 8]) (vs := [.int .i64 r5.1, .slice A7 l2.length c7, .int .i64 0]) hF rfl (rv_t (by kernel_rfl) <| rv_t (by kernel_rfl) <| rv_t (by kernel_rfl) <| rv_nil) rfl ⟨_, rfl, A7, c7, rfl, hS⟩
      · refine reg [] [] [11, 12, 41] [pl 11 (.int .i64 r5.1), pl 12 (.slice A6 r5.2.1.length c6), pl 41 (.bool ((r5.1 != 1) || (most1 == 1)))] hF hS Fol (by kernel_rfl) (by kernel_rfl) (by kernel_rfl) ?_ (fun a w hF hS => ?_)
        · exact obs_nil
        refine cond_ev (t := 41) (b := (r5.1 != 1) || (most1 == 1)) hF (by kernel_rfl) (fun hb => ?_) (fun hb => ?_)
        · replace hm := if_t hm hb
          refine reg1 [] [] [11, 12] [pl 11 (.int .i64 r5.1), pl 12 (.slice none 0 0)] hF hS Fol (by kernel_rfl) (by kernel_rfl) (by kernel_rfl) ?_ (fun a w hF hS => ?_)
          · exact obs_nil
          refine then_n ?_
          have hS : Sep w0 B w (own 3 (.slice none 0 0) (vI ([] : List Int)) :: blk g1 109 #[.slice A1 rows1.length c1, .slice A2 columns1.length c2, .slice A5 r4.length c5] :: rows 22 3 (.slice A5 r4.length c5) hd4 r5.2.2 :: own 3 (.slice A6 r5.2.1.length c6) (vI r5.2.1) :: fs) := hS.nil 3
          have hl5 := (hS.at_ 0 rfl).len1
          have hS := (hS.at_ 0 rfl).reN hl5
          have hS : Sep w0 B w (own 3 (.slice none (([] : List Int).length) 0) (vI ([] : List Int)) :: blk g1 109 #[.slice A1 rows1.length c1, .slice A2 columns1.length c2, .slice A5 r4.length c5] :: rows 22 3 (.slice A5 r4.length c5) hd4 r5.2.2 :: own 3 (.slice A6 r5.2.1.length c6) (vI r5.2.1) :: fs) := hS
          have hF := hF.cast (t := 12) (v := .slice none 0 0) (v' := .slice none (([] : List Int).length) 0) rfl rfl (congrArg (fun k => Value.slice none k 0) hl5)
          have hS := hS.pickN 4 [0] (by decide)
          exact ⟨([] : List Int), none, 0, hF.weak [11, 12] (by kernel_rfl), hS, hm⟩
        · replace hm := if_f hm hb
          refine wpIn_skip ?_
          refine then_n ?_
          have hS := hS.pickN 3 [2] (by decide)
          exact ⟨r5.2.1, A6, c6, hF.weak [11, 12] (by kernel_rfl), hS, hm⟩
    · refine wpIn_block ?_
      refine reg [] [] [2, 9, 10, 19] [pl 2 (.int .i64 most1), pl 9 (.pointer (some ⟨g1, 0, none⟩)), pl 10 (.int .i64 0), pl 19 (.bool ((0 : Int) != 0))] hF hS Fol (by kernel_rfl) (by kernel_rfl) (by kernel_rfl) ?_ (fun a w hF hS => ?_)
      · exact obs_nil
      refine cond_ev (t := 19) (b := ((0 : Int) != 0)) hF (by kernel_rfl) (fun hb => ?_) (fun hb => ?_)
      · exact absurd hb (by decide)
      · refine reg [] [] [2, 9, 23] [pl 2 (.int .i64 most1), pl 9 (.pointer (some ⟨g1, 0, none⟩)), pl 23 (.bool ((decide (most1 < 1)) || (decide ((1000 : Int) < most1))))] hF hS Fol (by kernel_rfl) (by kernel_rfl) (by kernel_rfl) ?_ (fun a w hF hS => ?_)
        · exact obs_nil
        refine cond_ev (t := 23) (b := (decide (most1 < 1)) || (decide ((1000 : Int) < most1))) hF (by kernel_rfl) (fun hb => ?_) (fun hb => ?_)
        · replace hm := if_t hm hb
          refine reg [] [] [6, 7, 8] [pl 6 (.int .i64 0), pl 7 (.slice none 0 0), pl 8 (.int .i64 3)] hF hS Fol (by kernel_rfl) (by kernel_rfl) (by kernel_rfl) ?_ (fun a w hF hS => ?_)
          · exact obs_nil
          refine wpIn_ret ?_
          refine block_r (then_r ?_)
          have hS : Sep w0 B w (own 3 (.slice none 0 0) (vI ([] : List Int)) :: blk g1 109 #[.slice A1 rows1.length c1, .slice A2 columns1.length c2, .slice A5 r4.length c5] :: rows 22 3 (.slice A5 r4.length c5) hd3 r4 :: fs) := hS.nil 3
          have hl4 := (hS.at_ 0 rfl).len1
          have hS := (hS.at_ 0 rfl).reN hl4
          have hS : Sep w0 B w (own 3 (.slice none (([] : List Int).length) 0) (vI ([] : List Int)) :: blk g1 109 #[.slice A1 rows1.length c1, .slice A2 columns1.length c2, .slice A5 r4.length c5] :: rows 22 3 (.slice A5 r4.length c5) hd3 r4 :: fs) := hS
          have hS := hS.pickN 3 [0] (by decide)
          have hm : some (0, ([] : List Int), 3) = some r := hm
          obtain rfl := Option.some.inj hm
          exact retV (rs := [.tmp 6, .tmp 7, .tmp 8]) (vs := [.int .i64 0, .slice none (([] : List Int).length) 0, .int .i64 3]) hF rfl (rv_t (by kernel_rfl) <| rv_t (by kernel_rfl) <| rv_t (by kernel_rfl) <| rv_nil) rfl ⟨_, rfl, none, 0, rfl, hS⟩
        · replace hm := if_f hm hb
          refine wpIn_skip ?_
          refine block_n ?_
          refine then_n ?_
          exact ⟨hF.weak [2, 9] (by kernel_rfl), hS, hm⟩

noncomputable def nono_Push_J1  : Option (List Int × Int) :=
  none

noncomputable def nono_Push_J2  (p1 : List (List Int)) : Option (List Int × Int) :=
  (slices_Concat_2_m p1).bind fun r6 => some (r6, 0)

noncomputable def nono_Push_m  (rows1 : List (List Int)) (columns1 : List (List Int)) : Option (List Int × Int) :=
  (nono_newPicture_m rows1 columns1).bind fun r1 => Fl.elim2 r1 (fun (r2 : Int) => if (r2 != 0) then (some (([] : List Int), r2)) else ((nono_picture_push_m).bind fun r3 => if (!r3) then (some (([] : List Int), 10)) else (nono_Push_J1))) (fun (r4 : (List (List Int))) => (nono_picture_push_2_m rows1 columns1 r4).bind fun r5 => if (!r5.1) then (some (([] : List Int), 10)) else (nono_Push_J2 r5.2))

set_option maxRecDepth 100000 in
set_option maxHeartbeats 4000000 in
theorem nono_Push_w  {A1 : Option Addr} {c1 : Nat} {n1 : Nat} {hd1 : List Hd} {rows1 : List (List Int)} {A2 : Option Addr} {c2 : Nat} {n2 : Nat} {hd2 : List Hd} {columns1 : List (List Int)} {r : (List Int × Int)} {w0 w : World} {B : Nat} {fs : List HP} (hm : nono_Push_m rows1 columns1 = some r) (hS : Sep w0 B w (fs)) (hr_rows1 : RdRowsF w0 B fs A1 hd1 rows1) (_hc_rows1 : rows1.length ≤ c1) (_hn_rows1 : n1 = rows1.length) (hr_columns1 : RdRowsF w0 B fs A2 hd2 columns1) (_hc_columns1 : columns1.length ≤ c2) (_hn_columns1 : n2 = columns1.length) :
    Calls Try.prog 18 #[.slice A1 n1 c1, .slice A2 n2 c2] w fun e w' => ∃ v, e = .returned v ∧ ∃ (A5 : Option Addr) (c5 : Nat), v = .tuple #[.slice A5 r.1.length c5, .int .i64 r.2] ∧ Sep w0 B w' (own 3 (.slice A5 r.1.length c5) (vI r.1) :: fs) := by
  obtain ⟨i3, hi3, hz3, hs3, hb3⟩ := info_parts Info3
  obtain rfl := _hn_rows1
  obtain rfl := _hn_columns1
  unfold nono_Push_m at hm
  replace hm := start_b hm
  refine enter (l := [.slice A1 rows1.length c1, .slice A2 columns1.length c2]) (n := 27) Try.func18 rfl rfl (by simp) (fun a hF => ?_)
  refine reg [] [] [0, 1] [pl 0 (.slice A1 rows1.length c1), pl 1 (.slice A2 columns1.length c2)] hF hS Fol (by kernel_rfl) (by kernel_rfl) (by kernel_rfl) ?_ (fun a w hF hS => ?_)
  · exact obs_nil
  refine seqR ?_
  obtain ⟨r1, hr1, hm⟩ := call_b hm
  refine at_run 2 [] [] [9, 10] [pl 9 (.slice A1 rows1.length c1), pl 10 (.slice A2 columns1.length c2)] hF hS (by kernel_rfl) (by kernel_rfl) ?_ (fun a w hF hS => ?_)
  · exact obs_nil
  refine at_call (f := 58) (args := #[.slice A1 rows1.length c1, .slice A2 columns1.length c2]) (d := 11) hF (by kernel_rfl) (by kernel_rfl) Try.func58 (by kernel_rfl) rfl (nono_newPicture_w hr1 hS (fun _ hS => (hr_rows1 _ (hS.dropN 0))) _hc_rows1 rfl (fun _ hS => (hr_columns1 _ (hS.dropN 0))) _hc_columns1 rfl) (fun v a w hR hF => ?_)
  clear hS
  rcases r1 with r2 | r4
  · replace hm := fl_go hm
    replace hR := flp_go hR
    obtain ⟨rfl, hS⟩ := hR
    have hS : Sep w0 B w (fs) := hS
    refine at_run 5 [] [] [6, 7] [pl 6 (.pointer none), pl 7 (.int .i64 r2)] hF hS (by kernel_rfl) (by kernel_rfl) ?_ (fun a w hF hS => ?_)
    · exact obs_nil
    refine at_end [6, 7] [pl 6 (.pointer none), pl 7 (.int .i64 r2)] hF rfl (by kernel_rfl) (fun hF => ?_)
    refine then_n ?_
    refine seq_cut (fun a w => Fr 27 [pl 6 (.pointer none)] a ∧ Sep w0 B w (fs) ∧ (nono_Push_J1).bind some = some r) ?_ ?_
    · rintro a w ⟨hF, hS, hm⟩
      unfold nono_Push_J1 at hm
      simp at hm
    · refine wpIn_block ?_
      refine reg [] [] [6, 7, 14] [pl 6 (.pointer none), pl 7 (.int .i64 r2), pl 14 (.bool (r2 != 0))] hF hS Fol (by kernel_rfl) (by kernel_rfl) (by kernel_rfl) ?_ (fun a w hF hS => ?_)
      · exact obs_nil
      refine cond_ev (t := 14) (b := (r2 != 0)) hF (by kernel_rfl) (fun hb => ?_) (fun hb => ?_)
      · replace hm := if_t hm hb
        refine reg [] [] [4, 5] [pl 4 (.slice none 0 0), pl 5 (.int .i64 r2)] hF hS Fol (by kernel_rfl) (by kernel_rfl) (by kernel_rfl) ?_ (fun a w hF hS => ?_)
        · exact obs_nil
        refine wpIn_ret ?_
        refine block_r (then_r ?_)
        have hS : Sep w0 B w (own 3 (.slice none 0 0) (vI ([] : List Int)) :: fs) := hS.nil 3
        have hl1 := (hS.at_ 0 rfl).len1
        have hS := (hS.at_ 0 rfl).reN hl1
        have hS : Sep w0 B w (own 3 (.slice none (([] : List Int).length) 0) (vI ([] : List Int)) :: fs) := hS
        have hm : some (([] : List Int), r2) = some r := hm
        obtain rfl := Option.some.inj hm
        exact retV (rs := [.tmp 4, .tmp 5]) (vs := [.slice none (([] : List Int).length) 0, .int .i64 r2]) hF rfl (rv_t (by kernel_rfl) <| rv_t (by kernel_rfl) <| rv_nil) rfl ⟨_, rfl, none, 0, rfl, hS⟩
      · replace hm := if_f hm hb
        refine seqR ?_
        obtain ⟨r3, hr2, hm⟩ := call_b hm
        refine at_run 1 [] [] [6, 19] [pl 6 (.pointer none), pl 19 (.pointer none)] hF hS (by kernel_rfl) (by kernel_rfl) ?_ (fun a w hF hS => ?_)
        · exact obs_nil
        refine at_call (f := 60) (args := #[.pointer none]) (d := 20) hF (by kernel_rfl) (by kernel_rfl) Try.func60 (by kernel_rfl) rfl (show Calls Try.prog 60 #[.pointer none] w fun e w' => ∃ v, e = .returned v ∧ v = .bool r3 ∧ Sep w0 B w' (fs) from Calls.mono (nono_picture_push_w hr2 hS ) (fun e w' h => ⟨_, h.1, rfl, h.2⟩)) (fun v a w hR hF => ?_)
        clear hS
        obtain ⟨rfl, hS⟩ := hR
        have hS : Sep w0 B w (fs) := hS
        refine at_run 2 [] [] [6, 18] [pl 6 (.pointer none), pl 18 (.bool (!r3))] hF hS (by kernel_rfl) (by kernel_rfl) ?_ (fun a w hF hS => ?_)
        · exact obs_nil
        refine at_end [6, 18] [pl 6 (.pointer none), pl 18 (.bool (!r3))] hF rfl (by kernel_rfl) (fun hF => ?_)
        refine then_n ?_
        refine cond_ev (t := 18) (b := !r3) hF (by kernel_rfl) (fun hb => ?_) (fun hb => ?_)
        · replace hm := if_t hm hb
          refine reg [] [] [4, 5] [pl 4 (.slice none 0 0), pl 5 (.int .i64 10)] hF hS Fol (by kernel_rfl) (by kernel_rfl) (by kernel_rfl) ?_ (fun a w hF hS => ?_)
          · exact obs_nil
          refine wpIn_ret ?_
          refine block_r (then_r ?_)
          have hS : Sep w0 B w (own 3 (.slice none 0 0) (vI ([] : List Int)) :: fs) := hS.nil 3
          have hl2 := (hS.at_ 0 rfl).len1
          have hS := (hS.at_ 0 rfl).reN hl2
          have hS : Sep w0 B w (own 3 (.slice none (([] : List Int).length) 0) (vI ([] : List Int)) :: fs) := hS
          have hm : some (([] : List Int), 10) = some r := hm
          obtain rfl := Option.some.inj hm
          exact retV (rs := [.tmp 4, .tmp 5]) (vs := [.slice none (([] : List Int).length) 0, .int .i64 10]) hF rfl (rv_t (by kernel_rfl) <| rv_t (by kernel_rfl) <| rv_nil) rfl ⟨_, rfl, none, 0, rfl, hS⟩
        · replace hm := if_f hm hb
          refine wpIn_skip ?_
          refine block_n ?_
          refine then_n ?_
          exact ⟨hF.weak [6] (by kernel_rfl), hS, hm⟩
  · replace hm := fl_ret hm
    replace hR := flp_ret hR
    obtain ⟨g1, A3, c3, hd3, rfl, hS⟩ := hR
    have hS : Sep w0 B w (blk g1 109 #[.slice A1 rows1.length c1, .slice A2 columns1.length c2, .slice A3 r4.length c3] :: rows 22 3 (.slice A3 r4.length c3) hd3 r4 :: fs) := hS
    refine at_run 5 [] [] [6, 7] [pl 6 (.pointer (some ⟨g1, 0, none⟩)), pl 7 (.int .i64 0)] hF hS (by kernel_rfl) (by kernel_rfl) ?_ (fun a w hF hS => ?_)
    · exact obs_nil
    refine at_end [6, 7] [pl 6 (.pointer (some ⟨g1, 0, none⟩)), pl 7 (.int .i64 0)] hF rfl (by kernel_rfl) (fun hF => ?_)
    refine then_n ?_
    refine seq_cut (fun a w => ∃ (p1 : List (List Int)) (hd5 : List Hd), Fr 27 [pl 6 (.pointer (some ⟨g1, 0, none⟩))] a ∧ Sep w0 B w (blk g1 109 #[.slice A1 rows1.length c1, .slice A2 columns1.length c2, .slice A3 r4.length c3] :: rows 22 3 (.slice A3 r4.length c3) hd5 p1 :: fs) ∧ (nono_Push_J2 p1).bind some = some r) ?_ ?_
    · rintro a w ⟨p1, hd5, hF, hS, hm⟩
      unfold nono_Push_J2 at hm
      refine seqR ?_
      obtain ⟨r6, hr4, hm⟩ := call_b hm
      refine at_run 4 [⟨false, [], vS (Instr.loadAt 36 (.pointer (some ⟨g1, 2, none⟩))), .slice A3 r4.length c3⟩] [none, none, none, some (.slice A3 r4.length c3)] [25] [pl 25 (.slice A3 r4.length c3)] hF hS (by kernel_rfl) (by kernel_rfl) ?_ (fun a w hF hS => ?_)
      · exact obs_cons (ob_load Agg36 (fun _ _ hS => (hS.at_ 0 rfl).cell rfl)) <| obs_nil
      refine at_call (f := 61) (args := #[.slice A3 r4.length c3]) (d := 26) hF (by kernel_rfl) (by kernel_rfl) Try.func61 (by kernel_rfl) rfl (slices_Concat_2_w hr4 hS (fun _ hS => (hS.at_ 1 rfl).rdRows) (hS.at_ 1 rfl).rowsLen.2 (hS.at_ 1 rfl).lenR) (fun v a w hR hF => ?_)
      clear hS
      obtain ⟨A4, c4, rfl, hS⟩ := hR
      have hS : Sep w0 B w (own 3 (.slice A4 r6.length c4) (vI r6) :: blk g1 109 #[.slice A1 rows1.length c1, .slice A2 columns1.length c2, .slice A3 r4.length c3] :: rows 22 3 (.slice A3 r4.length c3) hd5 p1 :: fs) := hS
      refine at_run 2 [] [] [4, 5] [pl 4 (.slice A4 r6.length c4), pl 5 (.int .i64 0)] hF hS (by kernel_rfl) (by kernel_rfl) ?_ (fun a w hF hS => ?_)
      · exact obs_nil
      refine at_end [4, 5] [pl 4 (.slice A4 r6.length c4), pl 5 (.int .i64 0)] hF rfl (by kernel_rfl) (fun hF => ?_)
      refine then_n ?_
      refine wpIn_ret ?_
      have hS := hS.pickN 3 [0] (by decide)
      have hm : some (r6, 0) = some r := hm
      obtain rfl := Option.some.inj hm
      exact retV (rs := [.tmp 4, .tmp 5]) (vs := [.slice A4 r6.length c4, .int .i64 0]) hF rfl (rv_t (by kernel_rfl) <| rv_t (by kernel_rfl) <| rv_nil) rfl ⟨_, rfl, A4, c4, rfl, hS⟩
    · refine wpIn_block ?_
      refine reg [] [] [6, 7, 14] [pl 6 (.pointer (some ⟨g1, 0, none⟩)), pl 7 (.int .i64 0), pl 14 (.bool ((0 : Int) != 0))] hF hS Fol (by kernel_rfl) (by kernel_rfl) (by kernel_rfl) ?_ (fun a w hF hS => ?_)
      · exact obs_nil
      refine cond_ev (t := 14) (b := ((0 : Int) != 0)) hF (by kernel_rfl) (fun hb => ?_) (fun hb => ?_)
      · exact absurd hb (by decide)
      · refine seqR ?_
        obtain ⟨r5, hr3, hm⟩ := call_b hm
        refine at_run 1 [] [] [6, 19] [pl 6 (.pointer (some ⟨g1, 0, none⟩)), pl 19 (.pointer (some ⟨g1, 0, none⟩))] hF hS (by kernel_rfl) (by kernel_rfl) ?_ (fun a w hF hS => ?_)
        · exact obs_nil
        refine at_call (f := 60) (args := #[.pointer (some ⟨g1, 0, none⟩)]) (d := 20) hF (by kernel_rfl) (by kernel_rfl) Try.func60 (by kernel_rfl) rfl (nono_picture_push_2_w hr3 hS (fun _ hS => (hr_rows1 _ (hS.dropN 0))) _hc_rows1 rfl (fun _ hS => (hr_columns1 _ (hS.dropN 0))) _hc_columns1 rfl) (fun v a w hR hF => ?_)
        clear hS
        obtain ⟨hd4, rfl, hS⟩ := hR
        have hS : Sep w0 B w (blk g1 109 #[.slice A1 rows1.length c1, .slice A2 columns1.length c2, .slice A3 r4.length c3] :: rows 22 3 (.slice A3 r4.length c3) hd4 r5.2 :: fs) := hS
        refine at_run 2 [] [] [6, 18] [pl 6 (.pointer (some ⟨g1, 0, none⟩)), pl 18 (.bool (!r5.1))] hF hS (by kernel_rfl) (by kernel_rfl) ?_ (fun a w hF hS => ?_)
        · exact obs_nil
        refine at_end [6, 18] [pl 6 (.pointer (some ⟨g1, 0, none⟩)), pl 18 (.bool (!r5.1))] hF rfl (by kernel_rfl) (fun hF => ?_)
        refine then_n ?_
        refine cond_ev (t := 18) (b := !r5.1) hF (by kernel_rfl) (fun hb => ?_) (fun hb => ?_)
        · replace hm := if_t hm hb
          refine reg [] [] [4, 5] [pl 4 (.slice none 0 0), pl 5 (.int .i64 10)] hF hS Fol (by kernel_rfl) (by kernel_rfl) (by kernel_rfl) ?_ (fun a w hF hS => ?_)
          · exact obs_nil
          refine wpIn_ret ?_
          refine block_r (then_r ?_)
          have hS : Sep w0 B w (own 3 (.slice none 0 0) (vI ([] : List Int)) :: blk g1 109 #[.slice A1 rows1.length c1, .slice A2 columns1.length c2, .slice A3 r4.length c3] :: rows 22 3 (.slice A3 r4.length c3) hd4 r5.2 :: fs) := hS.nil 3
          have hl3 := (hS.at_ 0 rfl).len1
          have hS := (hS.at_ 0 rfl).reN hl3
          have hS : Sep w0 B w (own 3 (.slice none (([] : List Int).length) 0) (vI ([] : List Int)) :: blk g1 109 #[.slice A1 rows1.length c1, .slice A2 columns1.length c2, .slice A3 r4.length c3] :: rows 22 3 (.slice A3 r4.length c3) hd4 r5.2 :: fs) := hS
          have hS := hS.pickN 3 [0] (by decide)
          have hm : some (([] : List Int), 10) = some r := hm
          obtain rfl := Option.some.inj hm
          exact retV (rs := [.tmp 4, .tmp 5]) (vs := [.slice none (([] : List Int).length) 0, .int .i64 10]) hF rfl (rv_t (by kernel_rfl) <| rv_t (by kernel_rfl) <| rv_nil) rfl ⟨_, rfl, none, 0, rfl, hS⟩
        · replace hm := if_f hm hb
          refine wpIn_skip ?_
          refine block_n ?_
          refine then_n ?_
          exact ⟨r5.2, hd4, hF.weak [6] (by kernel_rfl), hS, hm⟩

noncomputable def gameroomref_within_m  (n1 : Int) (low1 : Int) (high1 : Int) : Option Bool :=
  some ((decide (low1 ≤ n1)) && (decide (n1 ≤ high1)))

set_option maxRecDepth 100000 in
set_option maxHeartbeats 4000000 in
theorem gameroomref_within_w  {n1 : Int} {low1 : Int} {high1 : Int} {r : Bool} {w0 w : World} {B : Nat} {fs : List HP} (hm : gameroomref_within_m n1 low1 high1 = some r) (hS : Sep w0 B w (fs)) :
    Calls Try.prog 54 #[.int .i64 n1, .int .i64 low1, .int .i64 high1] w fun e w' => e = .returned (.bool r) ∧ Sep w0 B w' (fs) := by
  unfold gameroomref_within_m at hm
  replace hm := start_b hm
  refine enter (l := [.int .i64 n1, .int .i64 low1, .int .i64 high1]) (n := 15) Try.func54 rfl rfl (by simp) (fun a hF => ?_)
  refine reg [] [] [0, 1, 2] [pl 0 (.int .i64 n1), pl 1 (.int .i64 low1), pl 2 (.int .i64 high1)] hF hS Fol (by kernel_rfl) (by kernel_rfl) (by kernel_rfl) ?_ (fun a w hF hS => ?_)
  · exact obs_nil
  refine reg [] [] [6] [pl 6 (.bool ((decide (low1 ≤ n1)) && (decide (n1 ≤ high1))))] hF hS Fol (by kernel_rfl) (by kernel_rfl) (by kernel_rfl) ?_ (fun a w hF hS => ?_)
  · exact obs_nil
  refine wpIn_ret ?_
  have hm : some ((decide (low1 ≤ n1)) && (decide (n1 ≤ high1))) = some r := hm
  obtain rfl := Option.some.inj hm
  exact retV (rs := [.tmp 6]) (vs := [.bool ((decide (low1 ≤ n1)) && (decide (n1 ≤ high1)))]) hF rfl (rv_t (by kernel_rfl) <| rv_nil) rfl ⟨rfl, hS⟩

noncomputable def gameroomref_ClueMay_J3  (i1 : Int) : Option (St Int (Fl Unit Bool)) :=
  some (.next (w64 (i1 + 1)))

noncomputable def gameroomref_ClueMay_J2  (clue1 : List Int) (i1 : Int) : Option (St Int (Fl Unit Bool)) :=
  asrt (0 ≤ i1 ∧ i1 < (clue1.length : Int)) <| (gameroomref_within_m (geti clue1 i1) 1 20).bind fun r1 => if (!r1) then (some (.done (.ret false))) else ((gameroomref_ClueMay_J3 i1))

noncomputable def gameroomref_ClueMay_J1  : Option Bool :=
  some true

noncomputable def gameroomref_ClueMay_K1  : (Fl Unit Bool) → Option Bool :=
  fun (x : (Fl Unit Bool)) => match x with | .go _ => gameroomref_ClueMay_J1 | .ret x => some x

noncomputable def gameroomref_ClueMay_L1  (clue1 : List Int) : Int → Option (St Int (Fl Unit Bool)) :=
  fun (x : Int) => match x with | i1 => if (decide (i1 < (clue1.length : Int))) then ((gameroomref_ClueMay_J2 clue1 i1)) else (some (.done (.go ())))

noncomputable def gameroomref_ClueMay_m  (clue1 : List Int) : Option Bool :=
  (loop (gameroomref_ClueMay_L1 clue1) 0).bind gameroomref_ClueMay_K1

set_option maxRecDepth 100000 in
set_option maxHeartbeats 4000000 in
theorem gameroomref_ClueMay_w  {A1 : Option Addr} {c1 : Nat} {n1 : Nat} {clue1 : List Int} {r : Bool} {w0 w : World} {B : Nat} {fs : List HP} (hm : gameroomref_ClueMay_m clue1 = some r) (hS : Sep w0 B w (fs)) (hr_clue1 : RdF w0 B fs A1 (vI clue1)) (_hc_clue1 : clue1.length ≤ c1) (_hn_clue1 : n1 = clue1.length) :
    Calls Try.prog 62 #[.slice A1 n1 c1] w fun e w' => e = .returned (.bool r) ∧ Sep w0 B w' (fs) := by
  obtain ⟨i3, hi3, hz3, hs3, hb3⟩ := info_parts Info3
  obtain rfl := _hn_clue1
  unfold gameroomref_ClueMay_m at hm
  replace hm := start_b hm
  refine enter (l := [.slice A1 clue1.length c1]) (n := 16) Try.func62 rfl rfl (by simp) (fun a hF => ?_)
  refine reg [] [] [0] [pl 0 (.slice A1 clue1.length c1)] hF hS Fol (by kernel_rfl) (by kernel_rfl) (by kernel_rfl) ?_ (fun a w hF hS => ?_)
  · exact obs_nil
  refine seq_cut (fun a w => Fr 16 [] a ∧ Sep w0 B w (fs) ∧ (gameroomref_ClueMay_J1).bind some = some r) ?_ ?_
  · rintro a w ⟨hF, hS, hm⟩
    unfold gameroomref_ClueMay_J1 at hm
    refine reg [] [] [2] [pl 2 (.bool true)] hF hS Fol (by kernel_rfl) (by kernel_rfl) (by kernel_rfl) ?_ (fun a w hF hS => ?_)
    · exact obs_nil
    refine wpIn_ret ?_
    have hm : some true = some r := hm
    obtain rfl := Option.some.inj hm
    exact retV (rs := [.tmp 2]) (vs := [.bool true]) hF rfl (rv_t (by kernel_rfl) <| rv_nil) rfl ⟨rfl, hS⟩
  · refine reg [] [] [0, 3] [pl 0 (.slice A1 clue1.length c1), pl 3 (.int .i64 0)] hF hS Fol (by kernel_rfl) (by kernel_rfl) (by kernel_rfl) ?_ (fun a w hF hS => ?_)
    · exact obs_nil
    refine wpIn_block ?_
    refine wp_loop_model (S := Int) (R := (Fl Unit Bool)) (gameroomref_ClueMay_L1 clue1) (fun x => (gameroomref_ClueMay_K1 x).bind some) r (fun (x : Int) a w => Fr 16 [pl 0 (.slice A1 clue1.length c1), pl 3 (.int .i64 x)] a ∧ Sep w0 B w (fs)) (assoc_b hm) ⟨hF.weak [0, 3] (by kernel_rfl), hS⟩ ?_
    clear hF hS hm
    rintro nn1 i1 a w ⟨hF, hS⟩ hm
    generalize hφ1 : stK (gameroomref_ClueMay_L1 clue1) nn1 (fun x => (gameroomref_ClueMay_K1 x).bind some) = φ1 at hm
    unfold gameroomref_ClueMay_L1 at hm
    dsimp only at hm
    refine seq_cut (fun a w => Fr 16 [pl 0 (.slice A1 clue1.length c1), pl 3 (.int .i64 i1)] a ∧ Sep w0 B w (fs) ∧ ((gameroomref_ClueMay_J2 clue1 i1)).bind φ1 = some r) ?_ ?_
    · rintro a w ⟨hF, hS, hm⟩
      unfold gameroomref_ClueMay_J2 at hm
      refine seq_cut (fun a w => Fr 16 [pl 0 (.slice A1 clue1.length c1), pl 3 (.int .i64 i1)] a ∧ Sep w0 B w (fs) ∧ ((gameroomref_ClueMay_J3 i1)).bind φ1 = some r) ?_ ?_
      · rintro a w ⟨hF, hS, hm⟩
        unfold gameroomref_ClueMay_J3 at hm
        refine reg1 [] [] [0, 3] [pl 0 (.slice A1 clue1.length c1), pl 3 (.int .i64 (w64 (i1 + 1)))] hF hS Fol (by kernel_rfl) (by kernel_rfl) (by kernel_rfl) ?_ (fun a w hF hS => ?_)
        · exact obs_nil
        refine then_n ?_
        rw [← hφ1] at hm
        exact ⟨(w64 (i1 + 1)), ⟨hF.weak [0, 3] (by kernel_rfl), hS⟩, hm⟩
      · refine wpIn_block ?_
        obtain ⟨hp1, hm⟩ := asrt_b hm
        obtain ⟨r1, hr1, hm⟩ := call_b hm
        refine reg [⟨true, [], vS (Instr.indexAt 22 (.slice A1 clue1.length c1) (.int .i64 i1)), .pointer (some (sAddr A1 i1))⟩, ⟨false, [], vS (Instr.loadAt 3 (.pointer (some (sAddr A1 i1)))), .int .i64 (geti clue1 i1)⟩, ⟨false, [], callFunc 54 #[.int .i64 (geti clue1 i1), .int .i64 1, .int .i64 20], .bool r1⟩] [none, none, some (.pointer (some (sAddr A1 i1))), some (.int .i64 (geti clue1 i1)), some (.bool r1), none] [0, 3, 15] [pl 0 (.slice A1 clue1.length c1), pl 3 (.int .i64 i1), pl 15 (.bool (!r1))] hF hS Fol (by kernel_rfl) (by kernel_rfl) (by kernel_rfl) ?_ (fun a w hF hS => ?_)
        · exact obs_cons (ob_ix1 (f := (Value.int .i64)) (m := clue1) Und22 hi3 hs3 (hr_clue1 _ (hS.dropN 0)) rfl (fun _ => hp1)) <| obs_cons (ob_get1 (n := clue1.length) (m := clue1) (Value.int .i64) (0 : Int) Agg3 (fun _ hS => ⟨_, (hr_clue1 _ (hS.dropN 0))⟩) (fun _ hS => rfl) (fun _ => hp1)) <| obs_cons (ob_call Try.func54 (by kernel_rfl) rfl (fun _ _ hS => gameroomref_within_w hr1 hS )) <| obs_nil
        refine cond_ev (t := 15) (b := !r1) hF (by kernel_rfl) (fun hb => ?_) (fun hb => ?_)
        · replace hm := if_t hm hb
          refine reg [] [] [2] [pl 2 (.bool false)] hF hS Fol (by kernel_rfl) (by kernel_rfl) (by kernel_rfl) ?_ (fun a w hF hS => ?_)
          · exact obs_nil
          refine wpIn_ret ?_
          refine block_r (then_r (then_r (block_r (then_r ?_))))
          rw [← hφ1] at hm
          replace hm := done_b hm
          unfold gameroomref_ClueMay_K1 at hm
          try dsimp only at hm
          have hm : some false = some r := hm
          obtain rfl := Option.some.inj hm
          exact retV (rs := [.tmp 2]) (vs := [.bool false]) hF rfl (rv_t (by kernel_rfl) <| rv_nil) rfl ⟨rfl, hS⟩
        · replace hm := if_f hm hb
          refine wpIn_skip ?_
          refine block_n ?_
          refine then_n ?_
          exact ⟨hF.weak [0, 3] (by kernel_rfl), hS, hm⟩
    · refine reg [] [] [0, 3, 7] [pl 0 (.slice A1 clue1.length c1), pl 3 (.int .i64 i1), pl 7 (.bool (decide (i1 < (clue1.length : Int))))] hF hS Fol (by kernel_rfl) (by kernel_rfl) (by kernel_rfl) ?_ (fun a w hF hS => ?_)
      · exact obs_nil
      refine cond_ev (t := 7) (b := decide (i1 < (clue1.length : Int))) hF (by kernel_rfl) (fun hb => ?_) (fun hb => ?_)
      · replace hm := if_t hm hb
        refine wpIn_skip ?_
        refine then_n ?_
        exact ⟨hF.weak [0, 3] (by kernel_rfl), hS, hm⟩
      · replace hm := if_f hm hb
        refine wpIn_exit ?_
        refine then_e (then_e (block_e (then_n ?_)))
        rw [← hφ1] at hm
        replace hm := done_b hm
        unfold gameroomref_ClueMay_K1 at hm
        try dsimp only at hm
        have hm : (gameroomref_ClueMay_J1).bind some = some r := hm
        exact ⟨hF.weak [] (by kernel_rfl), hS, hm⟩

noncomputable def gameroomref_PictureMay_J4  (i1 : Int) : Option (St Int (Fl Unit Int)) :=
  some (.next (w64 (i1 + 1)))

noncomputable def gameroomref_PictureMay_J3  (rows1 : List (List Int)) (i1 : Int) : Option (St Int (Fl Unit Int)) :=
  asrt (0 ≤ i1 ∧ i1 < (rows1.length : Int)) <| (gameroomref_ClueMay_m (geti2 rows1 i1)).bind fun r3 => if (!r3) then (some (.done (.ret 4))) else ((gameroomref_PictureMay_J4 i1))

noncomputable def gameroomref_PictureMay_J7  (i2 : Int) : Option (St Int (Fl Unit Int)) :=
  some (.next (w64 (i2 + 1)))

noncomputable def gameroomref_PictureMay_J6  (columns1 : List (List Int)) (i2 : Int) : Option (St Int (Fl Unit Int)) :=
  asrt (0 ≤ i2 ∧ i2 < (columns1.length : Int)) <| (gameroomref_ClueMay_m (geti2 columns1 i2)).bind fun r4 => if (!r4) then (some (.done (.ret 4))) else ((gameroomref_PictureMay_J7 i2))

noncomputable def gameroomref_PictureMay_L2  (columns1 : List (List Int)) : Int → Option (St Int (Fl Unit Int)) :=
  fun (x : Int) => match x with | i2 => if (decide (i2 < (columns1.length : Int))) then ((gameroomref_PictureMay_J6 columns1 i2)) else (some (.done (.go ())))

noncomputable def gameroomref_PictureMay_J5  : Option Int :=
  some 0

noncomputable def gameroomref_PictureMay_K2  : (Fl Unit Int) → Option Int :=
  fun (x : (Fl Unit Int)) => match x with | .go _ => gameroomref_PictureMay_J5 | .ret x => some x

noncomputable def gameroomref_PictureMay_J2  (columns1 : List (List Int)) : Option Int :=
  (loop (gameroomref_PictureMay_L2 columns1) 0).bind gameroomref_PictureMay_K2

noncomputable def gameroomref_PictureMay_K1  (columns1 : List (List Int)) : (Fl Unit Int) → Option Int :=
  fun (x : (Fl Unit Int)) => match x with | .go _ => (gameroomref_PictureMay_J2 columns1) | .ret x => some x

noncomputable def gameroomref_PictureMay_L1  (rows1 : List (List Int)) : Int → Option (St Int (Fl Unit Int)) :=
  fun (x : Int) => match x with | i1 => if (decide (i1 < (rows1.length : Int))) then ((gameroomref_PictureMay_J3 rows1 i1)) else (some (.done (.go ())))

noncomputable def gameroomref_PictureMay_J1  (rows1 : List (List Int)) (columns1 : List (List Int)) : Option Int :=
  (loop (gameroomref_PictureMay_L1 rows1) 0).bind (gameroomref_PictureMay_K1 columns1)

noncomputable def gameroomref_PictureMay_m  (rows1 : List (List Int)) (columns1 : List (List Int)) : Option Int :=
  (gameroomref_within_m (rows1.length : Int) 1 6).bind fun r1 => ((if (!(!r1)) then gameroomref_within_m (columns1.length : Int) 1 6 else some false)).bind fun r2 => if ((!r1) || (!r2)) then (some 2) else ((gameroomref_PictureMay_J1 rows1 columns1))

set_option maxRecDepth 100000 in
set_option maxHeartbeats 4000000 in
theorem gameroomref_PictureMay_w  {A1 : Option Addr} {c1 : Nat} {n1 : Nat} {hd1 : List Hd} {rows1 : List (List Int)} {A2 : Option Addr} {c2 : Nat} {n2 : Nat} {hd2 : List Hd} {columns1 : List (List Int)} {r : Int} {w0 w : World} {B : Nat} {fs : List HP} (hm : gameroomref_PictureMay_m rows1 columns1 = some r) (hS : Sep w0 B w (fs)) (hr_rows1 : RdRowsF w0 B fs A1 hd1 rows1) (_hc_rows1 : rows1.length ≤ c1) (_hn_rows1 : n1 = rows1.length) (hr_columns1 : RdRowsF w0 B fs A2 hd2 columns1) (_hc_columns1 : columns1.length ≤ c2) (_hn_columns1 : n2 = columns1.length) :
    Calls Try.prog 19 #[.slice A1 n1 c1, .slice A2 n2 c2] w fun e w' => e = .returned (.int .i64 r) ∧ Sep w0 B w' (fs) := by
  obtain ⟨i22, hi22, hz22, hs22, hb22⟩ := info_parts Info22
  obtain rfl := _hn_rows1
  obtain rfl := _hn_columns1
  unfold gameroomref_PictureMay_m at hm
  replace hm := start_b hm
  refine enter (l := [.slice A1 rows1.length c1, .slice A2 columns1.length c2]) (n := 41) Try.func19 rfl rfl (by simp) (fun a hF => ?_)
  refine reg [] [] [0, 1] [pl 0 (.slice A1 rows1.length c1), pl 1 (.slice A2 columns1.length c2)] hF hS Fol (by kernel_rfl) (by kernel_rfl) (by kernel_rfl) ?_ (fun a w hF hS => ?_)
  · exact obs_nil
  refine seq_cut (fun a w => Fr 41 [pl 0 (.slice A1 rows1.length c1), pl 1 (.slice A2 columns1.length c2)] a ∧ Sep w0 B w (fs) ∧ ((gameroomref_PictureMay_J1 rows1 columns1)).bind some = some r) ?_ ?_
  · rintro a w ⟨hF, hS, hm⟩
    unfold gameroomref_PictureMay_J1 at hm
    refine seq_cut (fun a w => Fr 41 [pl 1 (.slice A2 columns1.length c2)] a ∧ Sep w0 B w (fs) ∧ ((gameroomref_PictureMay_J2 columns1)).bind some = some r) ?_ ?_
    · rintro a w ⟨hF, hS, hm⟩
      unfold gameroomref_PictureMay_J2 at hm
      refine seq_cut (fun a w => Fr 41 [] a ∧ Sep w0 B w (fs) ∧ (gameroomref_PictureMay_J5).bind some = some r) ?_ ?_
      · rintro a w ⟨hF, hS, hm⟩
        unfold gameroomref_PictureMay_J5 at hm
        refine reg [] [] [4] [pl 4 (.int .i64 0)] hF hS Fol (by kernel_rfl) (by kernel_rfl) (by kernel_rfl) ?_ (fun a w hF hS => ?_)
        · exact obs_nil
        refine wpIn_ret ?_
        have hm : some 0 = some r := hm
        obtain rfl := Option.some.inj hm
        exact retV (rs := [.tmp 4]) (vs := [.int .i64 0]) hF rfl (rv_t (by kernel_rfl) <| rv_nil) rfl ⟨rfl, hS⟩
      · refine reg [] [] [1, 6] [pl 1 (.slice A2 columns1.length c2), pl 6 (.int .i64 0)] hF hS Fol (by kernel_rfl) (by kernel_rfl) (by kernel_rfl) ?_ (fun a w hF hS => ?_)
        · exact obs_nil
        refine wpIn_block ?_
        refine wp_loop_model (S := Int) (R := (Fl Unit Int)) (gameroomref_PictureMay_L2 columns1) (fun x => (gameroomref_PictureMay_K2 x).bind some) r (fun (x : Int) a w => Fr 41 [pl 1 (.slice A2 columns1.length c2), pl 6 (.int .i64 x)] a ∧ Sep w0 B w (fs)) (assoc_b hm) ⟨hF.weak [1, 6] (by kernel_rfl), hS⟩ ?_
        clear hF hS hm
        rintro nn2 i2 a w ⟨hF, hS⟩ hm
        generalize hφ2 : stK (gameroomref_PictureMay_L2 columns1) nn2 (fun x => (gameroomref_PictureMay_K2 x).bind some) = φ2 at hm
        unfold gameroomref_PictureMay_L2 at hm
        dsimp only at hm
        refine seq_cut (fun a w => Fr 41 [pl 1 (.slice A2 columns1.length c2), pl 6 (.int .i64 i2)] a ∧ Sep w0 B w (fs) ∧ ((gameroomref_PictureMay_J6 columns1 i2)).bind φ2 = some r) ?_ ?_
        · rintro a w ⟨hF, hS, hm⟩
          unfold gameroomref_PictureMay_J6 at hm
          refine seq_cut (fun a w => Fr 41 [pl 1 (.slice A2 columns1.length c2), pl 6 (.int .i64 i2)] a ∧ Sep w0 B w (fs) ∧ ((gameroomref_PictureMay_J7 i2)).bind φ2 = some r) ?_ ?_
          · rintro a w ⟨hF, hS, hm⟩
            unfold gameroomref_PictureMay_J7 at hm
            refine reg1 [] [] [1, 6] [pl 1 (.slice A2 columns1.length c2), pl 6 (.int .i64 (w64 (i2 + 1)))] hF hS Fol (by kernel_rfl) (by kernel_rfl) (by kernel_rfl) ?_ (fun a w hF hS => ?_)
            · exact obs_nil
            refine then_n ?_
            rw [← hφ2] at hm
            exact ⟨(w64 (i2 + 1)), ⟨hF.weak [1, 6] (by kernel_rfl), hS⟩, hm⟩
          · refine wpIn_block ?_
            obtain ⟨hp2, hm⟩ := asrt_b hm
            obtain ⟨r4, hr4, hm⟩ := call_b hm
            refine reg [⟨true, [], vS (Instr.indexAt 36 (.slice A2 columns1.length c2) (.int .i64 i2)), .pointer (some (sAddr A2 i2))⟩, ⟨false, [], vS (Instr.loadAt 22 (.pointer (some (sAddr A2 i2)))), .slice (hdA hd2 i2) ((geti2 columns1 i2).length) (hdC hd2 i2)⟩, ⟨false, [], callFunc 62 #[.slice (hdA hd2 i2) ((geti2 columns1 i2).length) (hdC hd2 i2)], .bool r4⟩] [none, none, some (.pointer (some (sAddr A2 i2))), some (.slice (hdA hd2 i2) ((geti2 columns1 i2).length) (hdC hd2 i2)), some (.bool r4), none] [1, 6, 40] [pl 1 (.slice A2 columns1.length c2), pl 6 (.int .i64 i2), pl 40 (.bool (!r4))] hF hS Fol (by kernel_rfl) (by kernel_rfl) (by kernel_rfl) ?_ (fun a w hF hS => ?_)
            · exact obs_cons (ob_ixRn Und36 hi22 hs22 (hr_columns1 _ (hS.dropN 0)) rfl (fun _ => hp2)) <| obs_cons (ob_getR Agg22 (fun _ hS => ⟨_, (hr_columns1 _ (hS.dropN 0))⟩) (fun _ => hp2)) <| obs_cons (ob_call Try.func62 (by kernel_rfl) rfl (fun _ _ hS => gameroomref_ClueMay_w hr4 hS (fun _ hS => ((hr_columns1 _ (hS.dropN 0)).row _ hp2).1) ((hr_columns1 _ (hS.dropN 0)).row _ hp2).2 rfl)) <| obs_nil
            refine cond_ev (t := 40) (b := !r4) hF (by kernel_rfl) (fun hb => ?_) (fun hb => ?_)
            · replace hm := if_t hm hb
              refine reg [] [] [4] [pl 4 (.int .i64 4)] hF hS Fol (by kernel_rfl) (by kernel_rfl) (by kernel_rfl) ?_ (fun a w hF hS => ?_)
              · exact obs_nil
              refine wpIn_ret ?_
              refine block_r (then_r (then_r (block_r (then_r ?_))))
              rw [← hφ2] at hm
              replace hm := done_b hm
              unfold gameroomref_PictureMay_K2 at hm
              try dsimp only at hm
              have hm : some 4 = some r := hm
              obtain rfl := Option.some.inj hm
              exact retV (rs := [.tmp 4]) (vs := [.int .i64 4]) hF rfl (rv_t (by kernel_rfl) <| rv_nil) rfl ⟨rfl, hS⟩
            · replace hm := if_f hm hb
              refine wpIn_skip ?_
              refine block_n ?_
              refine then_n ?_
              exact ⟨hF.weak [1, 6] (by kernel_rfl), hS, hm⟩
        · refine reg [] [] [1, 6, 32] [pl 1 (.slice A2 columns1.length c2), pl 6 (.int .i64 i2), pl 32 (.bool (decide (i2 < (columns1.length : Int))))] hF hS Fol (by kernel_rfl) (by kernel_rfl) (by kernel_rfl) ?_ (fun a w hF hS => ?_)
          · exact obs_nil
          refine cond_ev (t := 32) (b := decide (i2 < (columns1.length : Int))) hF (by kernel_rfl) (fun hb => ?_) (fun hb => ?_)
          · replace hm := if_t hm hb
            refine wpIn_skip ?_
            refine then_n ?_
            exact ⟨hF.weak [1, 6] (by kernel_rfl), hS, hm⟩
          · replace hm := if_f hm hb
            refine wpIn_exit ?_
            refine then_e (then_e (block_e (then_n ?_)))
            rw [← hφ2] at hm
            replace hm := done_b hm
            unfold gameroomref_PictureMay_K2 at hm
            try dsimp only at hm
            have hm : (gameroomref_PictureMay_J5).bind some = some r := hm
            exact ⟨hF.weak [] (by kernel_rfl), hS, hm⟩
    · refine reg [] [] [0, 1, 5] [pl 0 (.slice A1 rows1.length c1), pl 1 (.slice A2 columns1.length c2), pl 5 (.int .i64 0)] hF hS Fol (by kernel_rfl) (by kernel_rfl) (by kernel_rfl) ?_ (fun a w hF hS => ?_)
      · exact obs_nil
      refine wpIn_block ?_
      refine wp_loop_model (S := Int) (R := (Fl Unit Int)) (gameroomref_PictureMay_L1 rows1) (fun x => ((gameroomref_PictureMay_K1 columns1) x).bind some) r (fun (x : Int) a w => Fr 41 [pl 0 (.slice A1 rows1.length c1), pl 1 (.slice A2 columns1.length c2), pl 5 (.int .i64 x)] a ∧ Sep w0 B w (fs)) (assoc_b hm) ⟨hF.weak [0, 1, 5] (by kernel_rfl), hS⟩ ?_
      clear hF hS hm
      rintro nn1 i1 a w ⟨hF, hS⟩ hm
      generalize hφ1 : stK (gameroomref_PictureMay_L1 rows1) nn1 (fun x => ((gameroomref_PictureMay_K1 columns1) x).bind some) = φ1 at hm
      unfold gameroomref_PictureMay_L1 at hm
      dsimp only at hm
      refine seq_cut (fun a w => Fr 41 [pl 0 (.slice A1 rows1.length c1), pl 1 (.slice A2 columns1.length c2), pl 5 (.int .i64 i1)] a ∧ Sep w0 B w (fs) ∧ ((gameroomref_PictureMay_J3 rows1 i1)).bind φ1 = some r) ?_ ?_
      · rintro a w ⟨hF, hS, hm⟩
        unfold gameroomref_PictureMay_J3 at hm
        refine seq_cut (fun a w => Fr 41 [pl 0 (.slice A1 rows1.length c1), pl 1 (.slice A2 columns1.length c2), pl 5 (.int .i64 i1)] a ∧ Sep w0 B w (fs) ∧ ((gameroomref_PictureMay_J4 i1)).bind φ1 = some r) ?_ ?_
        · rintro a w ⟨hF, hS, hm⟩
          unfold gameroomref_PictureMay_J4 at hm
          refine reg1 [] [] [0, 1, 5] [pl 0 (.slice A1 rows1.length c1), pl 1 (.slice A2 columns1.length c2), pl 5 (.int .i64 (w64 (i1 + 1)))] hF hS Fol (by kernel_rfl) (by kernel_rfl) (by kernel_rfl) ?_ (fun a w hF hS => ?_)
          · exact obs_nil
          refine then_n ?_
          rw [← hφ1] at hm
          exact ⟨(w64 (i1 + 1)), ⟨hF.weak [0, 1, 5] (by kernel_rfl), hS⟩, hm⟩
        · refine wpIn_block ?_
          obtain ⟨hp1, hm⟩ := asrt_b hm
          obtain ⟨r3, hr3, hm⟩ := call_b hm
          refine reg [⟨true, [], vS (Instr.indexAt 36 (.slice A1 rows1.length c1) (.int .i64 i1)), .pointer (some (sAddr A1 i1))⟩, ⟨false, [], vS (Instr.loadAt 22 (.pointer (some (sAddr A1 i1)))), .slice (hdA hd1 i1) ((geti2 rows1 i1).length) (hdC hd1 i1)⟩, ⟨false, [], callFunc 62 #[.slice (hdA hd1 i1) ((geti2 rows1 i1).length) (hdC hd1 i1)], .bool r3⟩] [none, none, some (.pointer (some (sAddr A1 i1))), some (.slice (hdA hd1 i1) ((geti2 rows1 i1).length) (hdC hd1 i1)), some (.bool r3), none] [0, 1, 5, 28] [pl 0 (.slice A1 rows1.length c1), pl 1 (.slice A2 columns1.length c2), pl 5 (.int .i64 i1), pl 28 (.bool (!r3))] hF hS Fol (by kernel_rfl) (by kernel_rfl) (by kernel_rfl) ?_ (fun a w hF hS => ?_)
          · exact obs_cons (ob_ixRn Und36 hi22 hs22 (hr_rows1 _ (hS.dropN 0)) rfl (fun _ => hp1)) <| obs_cons (ob_getR Agg22 (fun _ hS => ⟨_, (hr_rows1 _ (hS.dropN 0))⟩) (fun _ => hp1)) <| obs_cons (ob_call Try.func62 (by kernel_rfl) rfl (fun _ _ hS => gameroomref_ClueMay_w hr3 hS (fun _ hS => ((hr_rows1 _ (hS.dropN 0)).row _ hp1).1) ((hr_rows1 _ (hS.dropN 0)).row _ hp1).2 rfl)) <| obs_nil
          refine cond_ev (t := 28) (b := !r3) hF (by kernel_rfl) (fun hb => ?_) (fun hb => ?_)
          · replace hm := if_t hm hb
            refine reg [] [] [4] [pl 4 (.int .i64 4)] hF hS Fol (by kernel_rfl) (by kernel_rfl) (by kernel_rfl) ?_ (fun a w hF hS => ?_)
            · exact obs_nil
            refine wpIn_ret ?_
            refine block_r (then_r (then_r (block_r (then_r ?_))))
            rw [← hφ1] at hm
            replace hm := done_b hm
            unfold gameroomref_PictureMay_K1 at hm
            try dsimp only at hm
            have hm : some 4 = some r := hm
            obtain rfl := Option.some.inj hm
            exact retV (rs := [.tmp 4]) (vs := [.int .i64 4]) hF rfl (rv_t (by kernel_rfl) <| rv_nil) rfl ⟨rfl, hS⟩
          · replace hm := if_f hm hb
            refine wpIn_skip ?_
            refine block_n ?_
            refine then_n ?_
            exact ⟨hF.weak [0, 1, 5] (by kernel_rfl), hS, hm⟩
      · refine reg [] [] [0, 1, 5, 20] [pl 0 (.slice A1 rows1.length c1), pl 1 (.slice A2 columns1.length c2), pl 5 (.int .i64 i1), pl 20 (.bool (decide (i1 < (rows1.length : Int))))] hF hS Fol (by kernel_rfl) (by kernel_rfl) (by kernel_rfl) ?_ (fun a w hF hS => ?_)
        · exact obs_nil
        refine cond_ev (t := 20) (b := decide (i1 < (rows1.length : Int))) hF (by kernel_rfl) (fun hb => ?_) (fun hb => ?_)
        · replace hm := if_t hm hb
          refine wpIn_skip ?_
          refine then_n ?_
          exact ⟨hF.weak [0, 1, 5] (by kernel_rfl), hS, hm⟩
        · replace hm := if_f hm hb
          refine wpIn_exit ?_
          refine then_e (then_e (block_e (then_n ?_)))
          rw [← hφ1] at hm
          replace hm := done_b hm
          unfold gameroomref_PictureMay_K1 at hm
          try dsimp only at hm
          have hm : ((gameroomref_PictureMay_J2 columns1)).bind some = some r := hm
          exact ⟨hF.weak [1] (by kernel_rfl), hS, hm⟩
  · obtain ⟨r1, hr1, hm⟩ := call_b hm
    obtain ⟨r2, hr2, hm⟩ := call_b hm
    refine reg [⟨false, [], callFunc 54 #[.int .i64 (rows1.length : Int), .int .i64 1, .int .i64 6], .bool r1⟩, ⟨false, [(!r1, false)], callFunc 54 #[.int .i64 (columns1.length : Int), .int .i64 1, .int .i64 6], .bool r2⟩] [none, none, some (.bool r1), none, none, none, none, some (.bool r2), none, none] [0, 1, 16] [pl 0 (.slice A1 rows1.length c1), pl 1 (.slice A2 columns1.length c2), pl 16 (.bool ((!r1) || (!r2)))] hF hS Fol (by kernel_rfl) (by kernel_rfl) (by kernel_rfl) ?_ (fun a w hF hS => ?_)
    · exact obs_cons (ob_call Try.func54 (by kernel_rfl) rfl (fun _ _ hS => gameroomref_within_w hr1 hS )) <| obs_cons (ob_call Try.func54 (by kernel_rfl) rfl (fun hy _ hS => gameroomref_within_w (ite_some hr2 (by rw [show (!r1) = false from hy (!r1, false) (by simp)]; try rfl)) hS )) <| obs_nil
    refine cond_ev (t := 16) (b := (!r1) || (!r2)) hF (by kernel_rfl) (fun hb => ?_) (fun hb => ?_)
    · replace hm := if_t hm hb
      refine reg [] [] [4] [pl 4 (.int .i64 2)] hF hS Fol (by kernel_rfl) (by kernel_rfl) (by kernel_rfl) ?_ (fun a w hF hS => ?_)
      · exact obs_nil
      refine wpIn_ret ?_
      refine then_r ?_
      have hm : some 2 = some r := hm
      obtain rfl := Option.some.inj hm
      exact retV (rs := [.tmp 4]) (vs := [.int .i64 2]) hF rfl (rv_t (by kernel_rfl) <| rv_nil) rfl ⟨rfl, hS⟩
    · replace hm := if_f hm hb
      refine wpIn_skip ?_
      refine then_n ?_
      exact ⟨hF.weak [0, 1] (by kernel_rfl), hS, hm⟩

noncomputable def gameroomref_Ints_m  (l1 : List Int) : Option (List Int) :=
  asrt ((0 : Int) + (l1.length : Int) ≤ bigN) <| some ([] ++ l1)

set_option maxRecDepth 100000 in
set_option maxHeartbeats 4000000 in
theorem gameroomref_Ints_w  {A1 : Option Addr} {c1 : Nat} {n1 : Nat} {l1 : List Int} {r : (List Int)} {w0 w : World} {B : Nat} {fs : List HP} (hm : gameroomref_Ints_m l1 = some r) (hS : Sep w0 B w (fs)) (hr_l1 : RdF w0 B fs A1 (vI l1)) (_hc_l1 : l1.length ≤ c1) (_hn_l1 : n1 = l1.length) :
    Calls Try.prog 45 #[.slice A1 n1 c1] w fun e w' => ∃ v, e = .returned v ∧ ∃ (A3 : Option Addr) (c3 : Nat), v = .slice A3 r.length c3 ∧ Sep w0 B w' (own 3 (.slice A3 r.length c3) (vI r) :: fs) := by
  obtain ⟨i3, hi3, hz3, hs3, hb3⟩ := info_parts Info3
  obtain rfl := _hn_l1
  unfold gameroomref_Ints_m at hm
  replace hm := start_b hm
  refine enter (l := [.slice A1 l1.length c1]) (n := 5) Try.func45 rfl rfl (by simp) (fun a hF => ?_)
  refine reg [] [] [0] [pl 0 (.slice A1 l1.length c1)] hF hS Fol (by kernel_rfl) (by kernel_rfl) (by kernel_rfl) ?_ (fun a w hF hS => ?_)
  · exact obs_nil
  refine seqR ?_
  obtain ⟨hp1, hm⟩ := asrt_b hm
  refine at_run 1 [] [] [3] [pl 3 (.slice A1 l1.length c1)] hF hS (by kernel_rfl) (by kernel_rfl) ?_ (fun a w hF hS => ?_)
  · exact obs_nil
  have hS : Sep w0 B w (own 3 (.slice none 0 0) (vI ([] : List Int)) :: fs) := hS.nil 3
  obtain ⟨A2, c2, w, hrun, hS⟩ := run_app1 (P := Try.prog) (t := 22) (m := ([] : List Int)) (ys := l1) (A2 := A1) (m2 := l1.length) (c2 := c1) (Value.int .i64) (0 : Int) (hS.at_ 0 rfl) (hr_l1 _ (hS.dropN 1)) rfl 22 Und22 hi3 hz3 hs3 (by omega) rfl (fun _ => rfl) hp1
  have hS : Sep w0 B w (own 3 (.slice A2 (([] ++ l1).length) c2) (vI ([] ++ l1)) :: fs) := hS
  refine at_do (d := 4) hF (by kernel_rfl) (by kernel_rfl) hrun (fun a hF => ?_)
  refine at_run 1 [] [] [2] [pl 2 (.slice A2 (([] ++ l1).length) c2)] hF hS (by kernel_rfl) (by kernel_rfl) ?_ (fun a w hF hS => ?_)
  · exact obs_nil
  refine at_end [2] [pl 2 (.slice A2 (([] ++ l1).length) c2)] hF rfl (by kernel_rfl) (fun hF => ?_)
  refine then_n ?_
  refine wpIn_ret ?_
  have hm : some ([] ++ l1) = some r := hm
  obtain rfl := Option.some.inj hm
  exact retV (rs := [.tmp 2]) (vs := [.slice A2 (([] ++ l1).length) c2]) hF rfl (rv_t (by kernel_rfl) <| rv_nil) rfl ⟨_, rfl, A2, c2, rfl, hS⟩

noncomputable def gameroomref_lineFill_2_J4  (i1 : Int) : Option (St Int (Fl Unit (Int × List Int))) :=
  some (.next (w64 (i1 + 1)))

noncomputable def gameroomref_lineFill_2_J3  (line1 : List Int) (filled1 : List Int) (i1 : Int) : Option (St Int (Fl Unit (Int × List Int))) :=
  asrt (0 ≤ i1 ∧ i1 < (line1.length : Int)) <| if ((geti line1 i1) == 1) then (some (.done (.ret (0, filled1)))) else ((gameroomref_lineFill_2_J4 i1))

noncomputable def gameroomref_lineFill_2_J7  (begun1 : List Int) (filled3 : List Int) (i2 : Int) : Option (St (List Int × Int) (List Int)) :=
  some (.next ((filled3.set (Int.toNat i2) (w64 ((geti filled3 i2) + (geti begun1 i2)))), (w64 (i2 + 1))))

noncomputable def gameroomref_lineFill_2_J6  (begun1 : List Int) (filled1 : List Int) (filled3 : List Int) (i2 : Int) : Option (St (List Int × Int) (List Int)) :=
  asrt (0 ≤ i2 ∧ i2 < (filled1.length : Int)) <| asrt (0 ≤ i2 ∧ i2 < (begun1.length : Int)) <| asrt (0 ≤ i2 ∧ i2 < (filled1.length : Int)) <| (gameroomref_lineFill_2_J7 begun1 filled3 i2)

noncomputable def gameroomref_lineFill_2_L2  (begun1 : List Int) (filled1 : List Int) : (List Int × Int) → Option (St (List Int × Int) (List Int)) :=
  fun (x : (List Int × Int)) => match x with | (filled3, i2) => if (decide (i2 < (begun1.length : Int))) then ((gameroomref_lineFill_2_J6 begun1 filled1 filled3 i2)) else (some (.done filled3))

noncomputable def gameroomref_lineFill_2_J5  (filled4 : List Int) : Option (Int × List Int) :=
  some (1, filled4)

noncomputable def gameroomref_lineFill_2_K2  : (List Int) → Option (Int × List Int) :=
  fun (x : (List Int)) => match x with | filled4 => gameroomref_lineFill_2_J5 filled4

noncomputable def gameroomref_lineFill_2_J2  (begun1 : List Int) (filled1 : List Int) : Option (Int × List Int) :=
  (loop (gameroomref_lineFill_2_L2 begun1 filled1) (filled1, 0)).bind gameroomref_lineFill_2_K2

noncomputable def gameroomref_lineFill_2_K1  (begun1 : List Int) (filled1 : List Int) : (Fl Unit (Int × List Int)) → Option (Int × List Int) :=
  fun (x : (Fl Unit (Int × List Int))) => match x with | .go _ => (gameroomref_lineFill_2_J2 begun1 filled1) | .ret x => some x

noncomputable def gameroomref_lineFill_2_L1  (line1 : List Int) (filled1 : List Int) : Int → Option (St Int (Fl Unit (Int × List Int))) :=
  fun (x : Int) => match x with | i1 => if (decide (i1 < (line1.length : Int))) then ((gameroomref_lineFill_2_J3 line1 filled1 i1)) else (some (.done (.go ())))

noncomputable def gameroomref_lineFill_2_J10  (clue1 : List Int) (need1 : Int) (i3 : Int) : Option (St (Int × Int) Int) :=
  some (.next ((w64 (need1 + (geti clue1 i3))), (w64 (i3 + 1))))

noncomputable def gameroomref_lineFill_2_J9  (clue1 : List Int) (need1 : Int) (i3 : Int) : Option (St (Int × Int) Int) :=
  asrt (0 ≤ i3 ∧ i3 < (clue1.length : Int)) <| (gameroomref_lineFill_2_J10 clue1 need1 i3)

noncomputable def gameroomref_lineFill_2_J17  (i4 : Int) (next3 : List Int) : Option (St (List Int × Int) (List Int)) :=
  some (.next (next3, (w64 (i4 + 1))))

noncomputable def gameroomref_lineFill_2_J16  (next1 : List Int) (i4 : Int) : Option (St (List Int × Int) (List Int)) :=
  asrt ((next1.length : Int) + 1 ≤ bigN) <| (gameroomref_lineFill_2_J17 i4) (next1 ++ ([0] : List Int))

noncomputable def gameroomref_lineFill_2_L5  (gap1 : Int) : (List Int × Int) → Option (St (List Int × Int) (List Int)) :=
  fun (x : (List Int × Int)) => match x with | (next1, i4) => if (decide (i4 < gap1)) then ((gameroomref_lineFill_2_J16 next1 i4)) else (some (.done next1))

noncomputable def gameroomref_lineFill_2_J20  (line1 : List Int) (next4 : List Int) (ok1 : Bool) (i5 : Int) (next6 : List Int) : Option (St (List Int × Bool × Int) (List Int × Bool)) :=
  some (.next (next6, (ok1 && ((geti line1 (next4.length : Int)) != 0)), (w64 (i5 + 1))))

noncomputable def gameroomref_lineFill_2_J19  (line1 : List Int) (next4 : List Int) (ok1 : Bool) (i5 : Int) : Option (St (List Int × Bool × Int) (List Int × Bool)) :=
  asrt (ok1 = true → 0 ≤ (next4.length : Int) ∧ (next4.length : Int) < (line1.length : Int)) <| asrt ((next4.length : Int) + 1 ≤ bigN) <| (gameroomref_lineFill_2_J20 line1 next4 ok1 i5) (next4 ++ ([1] : List Int))

noncomputable def gameroomref_lineFill_2_L6  (line1 : List Int) (clue1 : List Int) : (List Int × Bool × Int) → Option (St (List Int × Bool × Int) (List Int × Bool)) :=
  fun (x : (List Int × Bool × Int)) => match x with | (next4, ok1, i5) => asrt (0 ≤ (0 : Int) ∧ (0 : Int) < (clue1.length : Int)) <| if (decide (i5 < (geti clue1 0))) then ((gameroomref_lineFill_2_J19 line1 next4 ok1 i5)) else (some (.done (next4, ok1)))

noncomputable def gameroomref_lineFill_2_J13  (gap1 : Int) (filled7 : List Int) (many3 : Int) : Option (St (List Int × Int × Int) (Int × List Int)) :=
  some (.next (filled7, many3, (w64 (gap1 + 1))))

noncomputable def gameroomref_lineFill_2_J21  (rec_gameroomref_lineFill_2 : List Int → List Int → List Int → List Int → Option (Int × List Int)) (line1 : List Int) (clue1 : List Int) (filled5 : List Int) (many1 : Int) (gap1 : Int) (next7 : List Int) (ok3 : Bool) : Option (St (List Int × Int × Int) (Int × List Int)) :=
  if ok3 then (asrt (0 ≤ (1 : Int) ∧ (1 : Int) ≤ (clue1.length : Int) ∧ (clue1.length : Int) ≤ (clue1.length : Int)) <| (rec_gameroomref_lineFill_2 line1 (cut clue1 (1 : Int) (clue1.length : Int)) next7 filled5).bind fun r2 => (gameroomref_lineFill_2_J13 gap1) r2.2 (w64 (many1 + r2.1))) else ((gameroomref_lineFill_2_J13 gap1) filled5 many1)

noncomputable def gameroomref_lineFill_2_J18  (rec_gameroomref_lineFill_2 : List Int → List Int → List Int → List Int → Option (Int × List Int)) (line1 : List Int) (clue1 : List Int) (filled5 : List Int) (many1 : Int) (gap1 : Int) (next5 : List Int) (ok2 : Bool) : Option (St (List Int × Int × Int) (Int × List Int)) :=
  if (decide ((next5.length : Int) < (line1.length : Int))) then (asrt (ok2 = true → 0 ≤ (next5.length : Int) ∧ (next5.length : Int) < (line1.length : Int)) <| asrt ((next5.length : Int) + 1 ≤ bigN) <| (gameroomref_lineFill_2_J21 rec_gameroomref_lineFill_2 line1 clue1 filled5 many1 gap1) (next5 ++ ([0] : List Int)) (ok2 && ((geti line1 (next5.length : Int)) != 1))) else ((gameroomref_lineFill_2_J21 rec_gameroomref_lineFill_2 line1 clue1 filled5 many1 gap1) next5 ok2)

noncomputable def gameroomref_lineFill_2_K6  (rec_gameroomref_lineFill_2 : List Int → List Int → List Int → List Int → Option (Int × List Int)) (line1 : List Int) (clue1 : List Int) (filled5 : List Int) (many1 : Int) (gap1 : Int) : (List Int × Bool) → Option (St (List Int × Int × Int) (Int × List Int)) :=
  fun (x : (List Int × Bool)) => match x with | (next5, ok2) => (gameroomref_lineFill_2_J18 rec_gameroomref_lineFill_2 line1 clue1 filled5 many1 gap1) next5 ok2

noncomputable def gameroomref_lineFill_2_J15  (rec_gameroomref_lineFill_2 : List Int → List Int → List Int → List Int → Option (Int × List Int)) (line1 : List Int) (clue1 : List Int) (filled5 : List Int) (many1 : Int) (gap1 : Int) (next2 : List Int) : Option (St (List Int × Int × Int) (Int × List Int)) :=
  (loop (gameroomref_lineFill_2_L6 line1 clue1) (next2, true, 0)).bind (gameroomref_lineFill_2_K6 rec_gameroomref_lineFill_2 line1 clue1 filled5 many1 gap1)

noncomputable def gameroomref_lineFill_2_K5  (rec_gameroomref_lineFill_2 : List Int → List Int → List Int → List Int → Option (Int × List Int)) (line1 : List Int) (clue1 : List Int) (filled5 : List Int) (many1 : Int) (gap1 : Int) : (List Int) → Option (St (List Int × Int × Int) (Int × List Int)) :=
  fun (x : (List Int)) => match x with | next2 => (gameroomref_lineFill_2_J15 rec_gameroomref_lineFill_2 line1 clue1 filled5 many1 gap1) next2

noncomputable def gameroomref_lineFill_2_J14  (rec_gameroomref_lineFill_2 : List Int → List Int → List Int → List Int → Option (Int × List Int)) (line1 : List Int) (clue1 : List Int) (begun1 : List Int) (filled5 : List Int) (many1 : Int) (gap1 : Int) : Option (St (List Int × Int × Int) (Int × List Int)) :=
  (gameroomref_Ints_m begun1).bind fun r1 => (loop (gameroomref_lineFill_2_L5 gap1) (r1, 0)).bind (gameroomref_lineFill_2_K5 rec_gameroomref_lineFill_2 line1 clue1 filled5 many1 gap1)

noncomputable def gameroomref_lineFill_2_J12  (rec_gameroomref_lineFill_2 : List Int → List Int → List Int → List Int → Option (Int × List Int)) (line1 : List Int) (clue1 : List Int) (begun1 : List Int) (filled5 : List Int) (many1 : Int) (gap1 : Int) : Option (St (List Int × Int × Int) (Int × List Int)) :=
  asrt ((decide ((0 : Int) < gap1)) = true → 0 ≤ (w64 ((w64 ((begun1.length : Int) + gap1)) - 1)) ∧ (w64 ((w64 ((begun1.length : Int) + gap1)) - 1)) < (line1.length : Int)) <| if ((decide ((0 : Int) < gap1)) && ((geti line1 (w64 ((w64 ((begun1.length : Int) + gap1)) - 1))) == 1)) then (some (.done (many1, filled5))) else ((gameroomref_lineFill_2_J14 rec_gameroomref_lineFill_2 line1 clue1 begun1 filled5 many1 gap1))

noncomputable def gameroomref_lineFill_2_L4  (rec_gameroomref_lineFill_2 : List Int → List Int → List Int → List Int → Option (Int × List Int)) (line1 : List Int) (clue1 : List Int) (begun1 : List Int) (need2 : Int) : (List Int × Int × Int) → Option (St (List Int × Int × Int) (Int × List Int)) :=
  fun (x : (List Int × Int × Int)) => match x with | (filled5, many1, gap1) => if (decide ((w64 ((w64 ((begun1.length : Int) + gap1)) + need2)) ≤ (line1.length : Int))) then ((gameroomref_lineFill_2_J12 rec_gameroomref_lineFill_2 line1 clue1 begun1 filled5 many1 gap1)) else (some (.done (many1, filled5)))

noncomputable def gameroomref_lineFill_2_J11  (many2 : Int) (filled6 : List Int) : Option (Int × List Int) :=
  some (many2, filled6)

noncomputable def gameroomref_lineFill_2_K4  : (Int × List Int) → Option (Int × List Int) :=
  fun (x : (Int × List Int)) => match x with | (many2, filled6) => gameroomref_lineFill_2_J11 many2 filled6

noncomputable def gameroomref_lineFill_2_J8  (rec_gameroomref_lineFill_2 : List Int → List Int → List Int → List Int → Option (Int × List Int)) (line1 : List Int) (clue1 : List Int) (begun1 : List Int) (filled1 : List Int) (need2 : Int) : Option (Int × List Int) :=
  (loop (gameroomref_lineFill_2_L4 rec_gameroomref_lineFill_2 line1 clue1 begun1 need2) (filled1, 0, 0)).bind gameroomref_lineFill_2_K4

noncomputable def gameroomref_lineFill_2_K3  (rec_gameroomref_lineFill_2 : List Int → List Int → List Int → List Int → Option (Int × List Int)) (line1 : List Int) (clue1 : List Int) (begun1 : List Int) (filled1 : List Int) : Int → Option (Int × List Int) :=
  fun (x : Int) => match x with | need2 => (gameroomref_lineFill_2_J8 rec_gameroomref_lineFill_2 line1 clue1 begun1 filled1) need2

noncomputable def gameroomref_lineFill_2_L3  (clue1 : List Int) : (Int × Int) → Option (St (Int × Int) Int) :=
  fun (x : (Int × Int)) => match x with | (need1, i3) => if (decide (i3 < (clue1.length : Int))) then ((gameroomref_lineFill_2_J9 clue1 need1 i3)) else (some (.done need1))

noncomputable def gameroomref_lineFill_2_J1  (rec_gameroomref_lineFill_2 : List Int → List Int → List Int → List Int → Option (Int × List Int)) (line1 : List Int) (clue1 : List Int) (begun1 : List Int) (filled1 : List Int) : Option (Int × List Int) :=
  (loop (gameroomref_lineFill_2_L3 clue1) ((w64 ((clue1.length : Int) - 1)), 0)).bind (gameroomref_lineFill_2_K3 rec_gameroomref_lineFill_2 line1 clue1 begun1 filled1)

noncomputable def gameroomref_lineFill_2_B  (rec_gameroomref_lineFill_2 : List Int → List Int → List Int → List Int → Option (Int × List Int)) (line1 : List Int) (clue1 : List Int) (begun1 : List Int) (filled1 : List Int) : Option (Int × List Int) :=
  if ((clue1.length : Int) == 0) then ((loop (gameroomref_lineFill_2_L1 line1 filled1) (begun1.length : Int)).bind (gameroomref_lineFill_2_K1 begun1 filled1)) else ((gameroomref_lineFill_2_J1 rec_gameroomref_lineFill_2 line1 clue1 begun1 filled1))

noncomputable def gameroomref_lineFill_2_mF  : Nat → List Int → List Int → List Int → List Int → Option (Int × List Int)
  | 0 => fun _ _ _ _ => none
  | n + 1 => fun line1 clue1 begun1 filled1 => gameroomref_lineFill_2_B (gameroomref_lineFill_2_mF n) line1 clue1 begun1 filled1
end Go.Proofs.Ytdjjomghggplpaa
