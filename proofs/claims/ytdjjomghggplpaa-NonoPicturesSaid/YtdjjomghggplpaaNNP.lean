/-
  Models and walks, printed by our own program (wip/gen).
-/
import Derived.Test.YtdjjomghggplpaaFB
import Derived.Test.YtdjjomghggplpaaLibD
import Derived.Test.YtdjjomghggplpaaGR
import Derived.Test.YtdjjomghggplpaaLibAS
import Derived.Test.YtdjjomghggplpaaLibBg
import Derived.Test.YtdjjomghggplpaaLibHd
import Derived.Test.YtdjjomghggplpaaFM
import Derived.Test.YtdjjomghggplpaaLibAN
import Derived.Test.YtdjjomghggplpaaNNPc
namespace Go.Proofs.Ytdjjomghggplpaa
open Go Go.GL Go.RowKit

noncomputable def gameroomref_PictureOf_2_mF  : Nat → List (List Int) → List (List Int) → List Int → Int → List Int → Option (Int × List Int)
  | 0 => fun _ _ _ _ _ => none
  | n + 1 => fun rows1 columns1 begun1 most1 last1 => gameroomref_PictureOf_2_B (gameroomref_PictureOf_2_mF n) rows1 columns1 begun1 most1 last1

noncomputable def gameroomref_PictureOf_2_m  (rows1 : List (List Int)) (columns1 : List (List Int)) (begun1 : List Int) (most1 : Int) (last1 : List Int) : Option (Int × List Int) :=
  recM fun n => gameroomref_PictureOf_2_mF n rows1 columns1 begun1 most1 last1

set_option maxRecDepth 100000 in
set_option maxHeartbeats 4000000 in
theorem gameroomref_PictureOf_2_wB  {rec_gameroomref_PictureOf_2 : List (List Int) → List (List Int) → List Int → Int → List Int → Option (Int × List Int)} (ih_gameroomref_PictureOf_2 : ∀ {A1 : Option Addr} {c1 : Nat} {n1 : Nat} {hd1 : List Hd} {rows1 : List (List Int)} {A2 : Option Addr} {c2 : Nat} {n2 : Nat} {hd2 : List Hd} {columns1 : List (List Int)} {A3 : Option Addr} {c3 : Nat} {n3 : Nat} {begun1 : List Int} {most1 : Int} {g1 : Nat} {A4 : Option Addr} {c4 : Nat} {n4 : Nat} {last1 : List Int} {r : (Int × List Int)} {w0 w : World} {B : Nat} {fs : List HP} (_ : rec_gameroomref_PictureOf_2 rows1 columns1 begun1 most1 last1 = some r) (_ : Sep w0 B w (own 3 (.slice A3 n3 c3) (vI begun1) :: blk g1 22 #[.slice A4 n4 c4] :: own 3 (.slice A4 n4 c4) (vI last1) :: fs)) (_hr_rows1 : RdRowsF w0 B fs A1 hd1 rows1) (_hc_rows1 : rows1.length ≤ c1) (_hn_rows1 : n1 = rows1.length) (_hr_columns1 : RdRowsF w0 B fs A2 hd2 columns1) (_hc_columns1 : columns1.length ≤ c2) (_hn_columns1 : n2 = columns1.length), Calls Try.prog 21 #[.slice A1 n1 c1, .slice A2 n2 c2, .slice A3 n3 c3, .int .i64 most1, .pointer (some ⟨g1, 0, none⟩)] w fun e w' => ∃ v, e = .returned v ∧ ∃ (A5 : Option Addr) (c5 : Nat), v = .int .i64 r.1 ∧ Sep w0 B w' (blk g1 22 #[.slice A5 r.2.length c5] :: own 3 (.slice A5 r.2.length c5) (vI r.2) :: fs)) {A1 : Option Addr} {c1 : Nat} {n1 : Nat} {hd1 : List Hd} {rows1 : List (List Int)} {A2 : Option Addr} {c2 : Nat} {n2 : Nat} {hd2 : List Hd} {columns1 : List (List Int)} {A3 : Option Addr} {c3 : Nat} {n3 : Nat} {begun1 : List Int} {most1 : Int} {g1 : Nat} {A4 : Option Addr} {c4 : Nat} {n4 : Nat} {last1 : List Int} {r : (Int × List Int)} {w0 w : World} {B : Nat} {fs : List HP} (hm : gameroomref_PictureOf_2_B rec_gameroomref_PictureOf_2 rows1 columns1 begun1 most1 last1 = some r) (hS : Sep w0 B w (own 3 (.slice A3 n3 c3) (vI begun1) :: blk g1 22 #[.slice A4 n4 c4] :: own 3 (.slice A4 n4 c4) (vI last1) :: fs)) (hr_rows1 : RdRowsF w0 B fs A1 hd1 rows1) (_hc_rows1 : rows1.length ≤ c1) (_hn_rows1 : n1 = rows1.length) (hr_columns1 : RdRowsF w0 B fs A2 hd2 columns1) (_hc_columns1 : columns1.length ≤ c2) (_hn_columns1 : n2 = columns1.length) :
    Calls Try.prog 21 #[.slice A1 n1 c1, .slice A2 n2 c2, .slice A3 n3 c3, .int .i64 most1, .pointer (some ⟨g1, 0, none⟩)] w fun e w' => ∃ v, e = .returned v ∧ ∃ (A5 : Option Addr) (c5 : Nat), v = .int .i64 r.1 ∧ Sep w0 B w' (blk g1 22 #[.slice A5 r.2.length c5] :: own 3 (.slice A5 r.2.length c5) (vI r.2) :: fs) := by
  obtain ⟨i3, hi3, hz3, hs3, hb3⟩ := info_parts Info3
  obtain ⟨i22, hi22, hz22, hs22, hb22⟩ := info_parts Info22
  obtain rfl := (hS.at_ 0 rfl).len1
  obtain rfl := (hS.at_ 2 rfl).len1
  obtain rfl := _hn_rows1
  obtain rfl := _hn_columns1
  unfold gameroomref_PictureOf_2_B at hm
  replace hm := start_b hm
  refine enter (l := [.slice A1 rows1.length c1, .slice A2 columns1.length c2, .slice A3 begun1.length c3, .int .i64 most1, .pointer (some ⟨g1, 0, none⟩)]) (n := 118) Try.func21 rfl rfl (by simp) (fun a hF => ?_)
  refine reg [] [] [0, 1, 2, 3, 4] [pl 0 (.slice A1 rows1.length c1), pl 1 (.slice A2 columns1.length c2), pl 2 (.slice A3 begun1.length c3), pl 3 (.int .i64 most1), pl 4 (.pointer (some ⟨g1, 0, none⟩))] hF hS Fol (by kernel_rfl) (by kernel_rfl) (by kernel_rfl) ?_ (fun a w hF hS => ?_)
  · exact obs_nil
  refine reg [] [] [0, 1, 2, 3, 4, 11] [pl 0 (.slice A1 rows1.length c1), pl 1 (.slice A2 columns1.length c2), pl 2 (.slice A3 begun1.length c3), pl 3 (.int .i64 most1), pl 4 (.pointer (some ⟨g1, 0, none⟩)), pl 11 (.int .i64 (columns1.length : Int))] hF hS Fol (by kernel_rfl) (by kernel_rfl) (by kernel_rfl) ?_ (fun a w hF hS => ?_)
  · exact obs_nil
  obtain ⟨hp1, hm⟩ := asrt_b hm
  refine reg [⟨true, [], vS (Op.intDiv .quo .i64 (begun1.length : Int) (columns1.length : Int)), .int .i64 (w64 (Int.tdiv (begun1.length : Int) (columns1.length : Int)))⟩] [none, none, none, some (.int .i64 (w64 (Int.tdiv (begun1.length : Int) (columns1.length : Int)))), none] [0, 1, 2, 3, 4, 11, 12] [pl 0 (.slice A1 rows1.length c1), pl 1 (.slice A2 columns1.length c2), pl 2 (.slice A3 begun1.length c3), pl 3 (.int .i64 most1), pl 4 (.pointer (some ⟨g1, 0, none⟩)), pl 11 (.int .i64 (columns1.length : Int)), pl 12 (.int .i64 (w64 (Int.tdiv (begun1.length : Int) (columns1.length : Int))))] hF hS Fol (by kernel_rfl) (by kernel_rfl) (by kernel_rfl) ?_ (fun a w hF hS => ?_)
  · exact obs_cons (ob_quo rfl (fun _ => hp1)) <| obs_nil
  refine seq_cut (fun a w => Fr 118 [pl 0 (.slice A1 rows1.length c1), pl 1 (.slice A2 columns1.length c2), pl 2 (.slice A3 begun1.length c3), pl 3 (.int .i64 most1), pl 4 (.pointer (some ⟨g1, 0, none⟩)), pl 11 (.int .i64 (columns1.length : Int)), pl 12 (.int .i64 (w64 (Int.tdiv (begun1.length : Int) (columns1.length : Int))))] a ∧ Sep w0 B w (own 3 (.slice A3 begun1.length c3) (vI begun1) :: blk g1 22 #[.slice A4 last1.length c4] :: own 3 (.slice A4 last1.length c4) (vI last1) :: fs) ∧ ((gameroomref_PictureOf_2_J1 rec_gameroomref_PictureOf_2 rows1 columns1 begun1 most1 last1)).bind some = some r) ?_ ?_
  · rintro a w ⟨hF, hS, hm⟩
    unfold gameroomref_PictureOf_2_J1 at hm
    refine seq_cut (fun a w => Fr 118 [pl 0 (.slice A1 rows1.length c1), pl 1 (.slice A2 columns1.length c2), pl 2 (.slice A3 begun1.length c3), pl 3 (.int .i64 most1), pl 4 (.pointer (some ⟨g1, 0, none⟩)), pl 11 (.int .i64 (columns1.length : Int)), pl 12 (.int .i64 (w64 (Int.tdiv (begun1.length : Int) (columns1.length : Int))))] a ∧ Sep w0 B w (own 3 (.slice A3 begun1.length c3) (vI begun1) :: blk g1 22 #[.slice A4 last1.length c4] :: own 3 (.slice A4 last1.length c4) (vI last1) :: fs) ∧ ((gameroomref_PictureOf_2_J7 rec_gameroomref_PictureOf_2 rows1 columns1 begun1 most1 last1)).bind some = some r) ?_ ?_
    · rintro a w ⟨hF, hS, hm⟩
      unfold gameroomref_PictureOf_2_J7 at hm
      refine reg [] [] [0, 1, 2, 3, 4, 11, 12, 18] [pl 0 (.slice A1 rows1.length c1), pl 1 (.slice A2 columns1.length c2), pl 2 (.slice A3 begun1.length c3), pl 3 (.int .i64 most1), pl 4 (.pointer (some ⟨g1, 0, none⟩)), pl 11 (.int .i64 (columns1.length : Int)), pl 12 (.int .i64 (w64 (Int.tdiv (begun1.length : Int) (columns1.length : Int)))), pl 18 (.int .i64 0)] hF hS Fol (by kernel_rfl) (by kernel_rfl) (by kernel_rfl) ?_ (fun a w hF hS => ?_)
      · exact obs_nil
      refine seq_cut (fun a w => ∃ (many2 : Int) (last4 : List Int) (A13 : Option Addr) (c13 : Nat), Fr 118 [pl 18 (.int .i64 many2)] a ∧ Sep w0 B w (blk g1 22 #[.slice A13 last4.length c13] :: own 3 (.slice A13 last4.length c13) (vI last4) :: fs) ∧ (gameroomref_PictureOf_2_J8 many2 last4).bind some = some r) ?_ ?_
      · rintro a w ⟨many2, last4, A13, c13, hF, hS, hm⟩
        unfold gameroomref_PictureOf_2_J8 at hm
        refine reg [] [] [10] [pl 10 (.int .i64 many2)] hF hS Fol (by kernel_rfl) (by kernel_rfl) (by kernel_rfl) ?_ (fun a w hF hS => ?_)
        · exact obs_nil
        refine wpIn_ret ?_
        have hm : some (many2, last4) = some r := hm
        obtain rfl := Option.some.inj hm
        exact retV (rs := [.tmp 10]) (vs := [.int .i64 many2]) hF rfl (rv_t (by kernel_rfl) <| rv_nil) rfl ⟨_, rfl, A13, c13, rfl, hS⟩
      · refine reg [] [] [0, 1, 2, 3, 4, 11, 12, 18, 19] [pl 0 (.slice A1 rows1.length c1), pl 1 (.slice A2 columns1.length c2), pl 2 (.slice A3 begun1.length c3), pl 3 (.int .i64 most1), pl 4 (.pointer (some ⟨g1, 0, none⟩)), pl 11 (.int .i64 (columns1.length : Int)), pl 12 (.int .i64 (w64 (Int.tdiv (begun1.length : Int) (columns1.length : Int)))), pl 18 (.int .i64 0), pl 19 (.int .i64 0)] hF hS Fol (by kernel_rfl) (by kernel_rfl) (by kernel_rfl) ?_ (fun a w hF hS => ?_)
        · exact obs_nil
        refine wpIn_block ?_
        refine wp_loop_model (S := (List Int × Int × Int)) (R := (Int × List Int)) (gameroomref_PictureOf_2_L3 rec_gameroomref_PictureOf_2 rows1 columns1 begun1 most1) (fun x => (gameroomref_PictureOf_2_K3 x).bind some) r (fun (x : (List Int × Int × Int)) a w => ∃ (A12 : Option Addr) (c12 : Nat), Fr 118 [pl 0 (.slice A1 rows1.length c1), pl 1 (.slice A2 columns1.length c2), pl 2 (.slice A3 begun1.length c3), pl 3 (.int .i64 most1), pl 4 (.pointer (some ⟨g1, 0, none⟩)), pl 11 (.int .i64 (columns1.length : Int)), pl 12 (.int .i64 (w64 (Int.tdiv (begun1.length : Int) (columns1.length : Int)))), pl 18 (.int .i64 x.2.1), pl 19 (.int .i64 x.2.2)] a ∧ Sep w0 B w (own 3 (.slice A3 begun1.length c3) (vI begun1) :: blk g1 22 #[.slice A12 x.1.length c12] :: own 3 (.slice A12 x.1.length c12) (vI x.1) :: fs)) (assoc_b hm) ⟨A4, c4, hF.weak [0, 1, 2, 3, 4, 11, 12, 18, 19] (by kernel_rfl), hS⟩ ?_
        clear hF hS hm
        rintro nn3 ⟨last3, many1, k1⟩ a w ⟨A12, c12, hF, hS⟩ hm
        generalize hφ3 : stK (gameroomref_PictureOf_2_L3 rec_gameroomref_PictureOf_2 rows1 columns1 begun1 most1) nn3 (fun x => (gameroomref_PictureOf_2_K3 x).bind some) = φ3 at hm
        unfold gameroomref_PictureOf_2_L3 at hm
        dsimp only at hF hS hm
        refine seq_cut (fun a w => Fr 118 [pl 0 (.slice A1 rows1.length c1), pl 1 (.slice A2 columns1.length c2), pl 2 (.slice A3 begun1.length c3), pl 3 (.int .i64 most1), pl 4 (.pointer (some ⟨g1, 0, none⟩)), pl 11 (.int .i64 (columns1.length : Int)), pl 12 (.int .i64 (w64 (Int.tdiv (begun1.length : Int) (columns1.length : Int)))), pl 18 (.int .i64 many1), pl 19 (.int .i64 k1)] a ∧ Sep w0 B w (own 3 (.slice A3 begun1.length c3) (vI begun1) :: blk g1 22 #[.slice A12 last3.length c12] :: own 3 (.slice A12 last3.length c12) (vI last3) :: fs) ∧ ((gameroomref_PictureOf_2_J9 rec_gameroomref_PictureOf_2 rows1 columns1 begun1 most1 last3 many1 k1)).bind φ3 = some r) ?_ ?_
        · rintro a w ⟨hF, hS, hm⟩
          unfold gameroomref_PictureOf_2_J9 at hm
          refine seq_cut (fun a w => ∃ (last5 : List Int) (many3 : Int) (A23 : Option Addr) (c23 : Nat), Fr 118 [pl 0 (.slice A1 rows1.length c1), pl 1 (.slice A2 columns1.length c2), pl 2 (.slice A3 begun1.length c3), pl 3 (.int .i64 most1), pl 4 (.pointer (some ⟨g1, 0, none⟩)), pl 11 (.int .i64 (columns1.length : Int)), pl 12 (.int .i64 (w64 (Int.tdiv (begun1.length : Int) (columns1.length : Int)))), pl 18 (.int .i64 many3), pl 19 (.int .i64 k1)] a ∧ Sep w0 B w (own 3 (.slice A3 begun1.length c3) (vI begun1) :: blk g1 22 #[.slice A23 last5.length c23] :: own 3 (.slice A23 last5.length c23) (vI last5) :: fs) ∧ ((gameroomref_PictureOf_2_J10 k1) last5 many3).bind φ3 = some r) ?_ ?_
          · rintro a w ⟨last5, many3, A23, c23, hF, hS, hm⟩
            unfold gameroomref_PictureOf_2_J10 at hm
            refine reg1 [] [] [0, 1, 2, 3, 4, 11, 12, 18, 19] [pl 0 (.slice A1 rows1.length c1), pl 1 (.slice A2 columns1.length c2), pl 2 (.slice A3 begun1.length c3), pl 3 (.int .i64 most1), pl 4 (.pointer (some ⟨g1, 0, none⟩)), pl 11 (.int .i64 (columns1.length : Int)), pl 12 (.int .i64 (w64 (Int.tdiv (begun1.length : Int) (columns1.length : Int)))), pl 18 (.int .i64 many3), pl 19 (.int .i64 (w64 (k1 + 1)))] hF hS Fol (by kernel_rfl) (by kernel_rfl) (by kernel_rfl) ?_ (fun a w hF hS => ?_)
            · exact obs_nil
            refine then_n ?_
            rw [← hφ3] at hm
            exact ⟨(last5, many3, (w64 (k1 + 1))), ⟨A23, c23, hF.weak [0, 1, 2, 3, 4, 11, 12, 18, 19] (by kernel_rfl), hS⟩, hm⟩
          · refine wpIn_block ?_
            refine reg [] [] [0, 1, 2, 3, 4, 11, 12, 18, 19, 20] [pl 0 (.slice A1 rows1.length c1), pl 1 (.slice A2 columns1.length c2), pl 2 (.slice A3 begun1.length c3), pl 3 (.int .i64 most1), pl 4 (.pointer (some ⟨g1, 0, none⟩)), pl 11 (.int .i64 (columns1.length : Int)), pl 12 (.int .i64 (w64 (Int.tdiv (begun1.length : Int) (columns1.length : Int)))), pl 18 (.int .i64 many1), pl 19 (.int .i64 k1), pl 20 (.slice none 0 0)] hF hS Fol (by kernel_rfl) (by kernel_rfl) (by kernel_rfl) ?_ (fun a w hF hS => ?_)
            · exact obs_nil
            refine seq_cut (fun a w => ∃ (row2 : List Int) (A15 : Option Addr) (c15 : Nat), Fr 118 [pl 0 (.slice A1 rows1.length c1), pl 1 (.slice A2 columns1.length c2), pl 2 (.slice A3 begun1.length c3), pl 3 (.int .i64 most1), pl 4 (.pointer (some ⟨g1, 0, none⟩)), pl 11 (.int .i64 (columns1.length : Int)), pl 12 (.int .i64 (w64 (Int.tdiv (begun1.length : Int) (columns1.length : Int)))), pl 18 (.int .i64 many1), pl 19 (.int .i64 k1), pl 20 (.slice A15 row2.length c15)] a ∧ Sep w0 B w (own 3 (.slice A3 begun1.length c3) (vI begun1) :: blk g1 22 #[.slice A12 last3.length c12] :: own 3 (.slice A12 last3.length c12) (vI last3) :: own 3 (.slice A15 row2.length c15) (vI row2) :: fs) ∧ ((gameroomref_PictureOf_2_J11 rec_gameroomref_PictureOf_2 rows1 columns1 begun1 most1 last3 many1 k1) row2).bind φ3 = some r) ?_ ?_
            · rintro a w ⟨row2, A15, c15, hF, hS, hm⟩
              unfold gameroomref_PictureOf_2_J11 at hm
              refine seq_cut (fun a w => ∃ (z1 : Bool), Fr 118 [pl 0 (.slice A1 rows1.length c1), pl 1 (.slice A2 columns1.length c2), pl 2 (.slice A3 begun1.length c3), pl 3 (.int .i64 most1), pl 4 (.pointer (some ⟨g1, 0, none⟩)), pl 11 (.int .i64 (columns1.length : Int)), pl 12 (.int .i64 (w64 (Int.tdiv (begun1.length : Int) (columns1.length : Int)))), pl 18 (.int .i64 many1), pl 19 (.int .i64 k1), pl 20 (.slice A15 row2.length c15), pl 103 (.bool z1)] a ∧ Sep w0 B w (own 3 (.slice A3 begun1.length c3) (vI begun1) :: blk g1 22 #[.slice A12 last3.length c12] :: own 3 (.slice A12 last3.length c12) (vI last3) :: own 3 (.slice A15 row2.length c15) (vI row2) :: fs) ∧ ((gameroomref_PictureOf_2_J14 rec_gameroomref_PictureOf_2 rows1 columns1 begun1 most1 last3 many1 k1 row2) z1).bind φ3 = some r) ?_ ?_
              · rintro a w ⟨z1, hF, hS, hm⟩
                unfold gameroomref_PictureOf_2_J14 at hm
                refine cond_ev (t := 103) (b := z1) hF (by kernel_rfl) (fun hb => ?_) (fun hb => ?_)
                · replace hm := if_t hm hb
                  refine oneR ?_
                  obtain ⟨r4, hr4, hm⟩ := call_b hm
                  obtain ⟨hp10, hm⟩ := asrt_b hm
                  obtain ⟨r5, hr5, hm⟩ := call_b hm
                  refine at_run 4 [] [] [0, 1, 2, 3, 4, 11, 12, 18, 19, 20, 104, 105, 106, 107] [pl 0 (.slice A1 rows1.length c1), pl 1 (.slice A2 columns1.length c2), pl 2 (.slice A3 begun1.length c3), pl 3 (.int .i64 most1), pl 4 (.pointer (some ⟨g1, 0, none⟩)), pl 11 (.int .i64 (columns1.length : Int)), pl 12 (.int .i64 (w64 (Int.tdiv (begun1.length : Int) (columns1.length : Int)))), pl 18 (.int .i64 many1), pl 19 (.int .i64 k1), pl 20 (.slice A15 row2.length c15), pl 104 (.int .i64 many1), pl 105 (.slice A1 rows1.length c1), pl 106 (.slice A2 columns1.length c2), pl 107 (.slice A3 begun1.length c3)] hF hS (by kernel_rfl) (by kernel_rfl) ?_ (fun a w hF hS => ?_)
                  · exact obs_nil
                  refine at_call (f := 45) (args := #[.slice A3 begun1.length c3]) (d := 108) hF (by kernel_rfl) (by kernel_rfl) Try.func45 (by kernel_rfl) rfl (gameroomref_Ints_w hr4 hS (fun _ hS => (hS.at_ 0 rfl).rd) ((hS.at_ 0 rfl).cap1) rfl) (fun v a w hR hF => ?_)
                  clear hS
                  obtain ⟨A20, c20, rfl, hS⟩ := hR
                  have hS : Sep w0 B w (own 3 (.slice A20 r4.length c20) (vI r4) :: own 3 (.slice A3 begun1.length c3) (vI begun1) :: blk g1 22 #[.slice A12 last3.length c12] :: own 3 (.slice A12 last3.length c12) (vI last3) :: own 3 (.slice A15 row2.length c15) (vI row2) :: fs) := hS
                  refine at_run 1 [] [] [0, 1, 2, 3, 4, 11, 12, 18, 19, 104, 105, 106, 108, 109] [pl 0 (.slice A1 rows1.length c1), pl 1 (.slice A2 columns1.length c2), pl 2 (.slice A3 begun1.length c3), pl 3 (.int .i64 most1), pl 4 (.pointer (some ⟨g1, 0, none⟩)), pl 11 (.int .i64 (columns1.length : Int)), pl 12 (.int .i64 (w64 (Int.tdiv (begun1.length : Int) (columns1.length : Int)))), pl 18 (.int .i64 many1), pl 19 (.int .i64 k1), pl 104 (.int .i64 many1), pl 105 (.slice A1 rows1.length c1), pl 106 (.slice A2 columns1.length c2), pl 108 (.slice A20 r4.length c20), pl 109 (.slice A15 row2.length c15)] hF hS (by kernel_rfl) (by kernel_rfl) ?_ (fun a w hF hS => ?_)
                  · exact obs_nil
                  obtain ⟨A21, c21, w, hrun, hS⟩ := run_app1 (P := Try.prog) (t := 22) (m := r4) (ys := row2) (A2 := A15) (m2 := row2.length) (c2 := c15) (Value.int .i64) (0 : Int) (hS.at_ 0 rfl) (hS.at_ 4 rfl).rd rfl 22 Und22 hi3 hz3 hs3 (by omega) rfl (fun _ => rfl) hp10
                  have hS : Sep w0 B w (own 3 (.slice A21 ((r4 ++ row2).length) c21) (vI (r4 ++ row2)) :: own 3 (.slice A3 begun1.length c3) (vI begun1) :: blk g1 22 #[.slice A12 last3.length c12] :: own 3 (.slice A12 last3.length c12) (vI last3) :: own 3 (.slice A15 row2.length c15) (vI row2) :: fs) := hS
                  refine at_do (d := 110) hF (by kernel_rfl) (by kernel_rfl) hrun (fun a hF => ?_)
                  refine at_run 4 [] [] [0, 1, 2, 3, 4, 11, 12, 19, 104, 105, 106, 110, 113, 114] [pl 0 (.slice A1 rows1.length c1), pl 1 (.slice A2 columns1.length c2), pl 2 (.slice A3 begun1.length c3), pl 3 (.int .i64 most1), pl 4 (.pointer (some ⟨g1, 0, none⟩)), pl 11 (.int .i64 (columns1.length : Int)), pl 12 (.int .i64 (w64 (Int.tdiv (begun1.length : Int) (columns1.length : Int)))), pl 19 (.int .i64 k1), pl 104 (.int .i64 many1), pl 105 (.slice A1 rows1.length c1), pl 106 (.slice A2 columns1.length c2), pl 110 (.slice A21 ((r4 ++ row2).length) c21), pl 113 (.int .i64 (w64 (most1 - many1))), pl 114 (.pointer (some ⟨g1, 0, none⟩))] hF hS (by kernel_rfl) (by kernel_rfl) ?_ (fun a w hF hS => ?_)
                  · exact obs_nil
                  have hS : Sep w0 B w (own 3 (.slice A21 ((r4 ++ row2).length) c21) (vI (r4 ++ row2)) :: blk g1 22 #[.slice A12 last3.length c12] :: own 3 (.slice A12 last3.length c12) (vI last3) :: own 3 (.slice A3 begun1.length c3) (vI begun1) :: own 3 (.slice A15 row2.length c15) (vI row2) :: fs) := hS.pickN 5 [0, 2, 3, 1, 4] (by decide)
                  refine at_call (f := 21) (args := #[.slice A1 rows1.length c1, .slice A2 columns1.length c2, .slice A21 ((r4 ++ row2).length) c21, .int .i64 (w64 (most1 - many1)), .pointer (some ⟨g1, 0, none⟩)]) (d := 115) hF (by kernel_rfl) (by kernel_rfl) Try.func21 (by kernel_rfl) rfl (ih_gameroomref_PictureOf_2 hr5 hS (fun _ hS => (hr_rows1 _ (hS.dropN 2))) _hc_rows1 rfl (fun _ hS => (hr_columns1 _ (hS.dropN 2))) _hc_columns1 rfl) (fun v a w hR hF => ?_)
                  clear hS
                  obtain ⟨A22, c22, rfl, hS⟩ := hR
                  have hS : Sep w0 B w (blk g1 22 #[.slice A22 r5.2.length c22] :: own 3 (.slice A22 r5.2.length c22) (vI r5.2) :: own 3 (.slice A3 begun1.length c3) (vI begun1) :: own 3 (.slice A15 row2.length c15) (vI row2) :: fs) := hS
                  refine at_run 2 [] [] [0, 1, 2, 3, 4, 11, 12, 18, 19] [pl 0 (.slice A1 rows1.length c1), pl 1 (.slice A2 columns1.length c2), pl 2 (.slice A3 begun1.length c3), pl 3 (.int .i64 most1), pl 4 (.pointer (some ⟨g1, 0, none⟩)), pl 11 (.int .i64 (columns1.length : Int)), pl 12 (.int .i64 (w64 (Int.tdiv (begun1.length : Int) (columns1.length : Int)))), pl 18 (.int .i64 (w64 (many1 + r5.1))), pl 19 (.int .i64 k1)] hF hS (by kernel_rfl) (by kernel_rfl) ?_ (fun a w hF hS => ?_)
                  · exact obs_nil
                  refine at_end [0, 1, 2, 3, 4, 11, 12, 18, 19] [pl 0 (.slice A1 rows1.length c1), pl 1 (.slice A2 columns1.length c2), pl 2 (.slice A3 begun1.length c3), pl 3 (.int .i64 most1), pl 4 (.pointer (some ⟨g1, 0, none⟩)), pl 11 (.int .i64 (columns1.length : Int)), pl 12 (.int .i64 (w64 (Int.tdiv (begun1.length : Int) (columns1.length : Int)))), pl 18 (.int .i64 (w64 (many1 + r5.1))), pl 19 (.int .i64 k1)] hF rfl (by kernel_rfl) (fun hF => ?_)
                  refine block_n ?_
                  refine then_n ?_
                  have hS := hS.pickN 4 [2, 0, 1] (by decide)
                  exact ⟨r5.2, (w64 (many1 + r5.1)), A22, c22, hF.weak [0, 1, 2, 3, 4, 11, 12, 18, 19] (by kernel_rfl), hS, hm⟩
                · replace hm := if_f hm hb
                  refine wpIn_skip ?_
                  refine block_n ?_
                  refine then_n ?_
                  have hS := hS.pickN 4 [0, 1, 2] (by decide)
                  exact ⟨last3, many1, A12, c12, hF.weak [0, 1, 2, 3, 4, 11, 12, 18, 19] (by kernel_rfl), hS, hm⟩
              · obtain ⟨hp9, hm⟩ := asrt_b hm
                obtain ⟨r2, hr2, hm⟩ := call_b hm
                obtain ⟨r3, hr3, hm⟩ := call_b hm
                refine regMix5 [0, 2, 3, 4, 5] [] 2 #[true, false, true, true, true, true, false] [⟨true, [], vS (Instr.indexAt 36 (.slice A1 rows1.length c1) (.int .i64 (w64 (Int.tdiv (begun1.length : Int) (columns1.length : Int))))), .pointer (some (sAddr A1 (w64 (Int.tdiv (begun1.length : Int) (columns1.length : Int)))))⟩, ⟨false, [], vS (Instr.loadAt 22 (.pointer (some (sAddr A1 (w64 (Int.tdiv (begun1.length : Int) (columns1.length : Int))))))), .slice (hdA hd1 (w64 (Int.tdiv (begun1.length : Int) (columns1.length : Int)))) ((geti2 rows1 (w64 (Int.tdiv (begun1.length : Int) (columns1.length : Int)))).length) (hdC hd1 (w64 (Int.tdiv (begun1.length : Int) (columns1.length : Int))))⟩] [none, none, none, some (.pointer (some (sAddr A1 (w64 (Int.tdiv (begun1.length : Int) (columns1.length : Int)))))), some (.slice (hdA hd1 (w64 (Int.tdiv (begun1.length : Int) (columns1.length : Int)))) ((geti2 rows1 (w64 (Int.tdiv (begun1.length : Int) (columns1.length : Int)))).length) (hdC hd1 (w64 (Int.tdiv (begun1.length : Int) (columns1.length : Int)))))] [0, 1, 2, 3, 4, 11, 12, 18, 19, 20, 97, 102] [pl 0 (.slice A1 rows1.length c1), pl 1 (.slice A2 columns1.length c2), pl 2 (.slice A3 begun1.length c3), pl 3 (.int .i64 most1), pl 4 (.pointer (some ⟨g1, 0, none⟩)), pl 11 (.int .i64 (columns1.length : Int)), pl 12 (.int .i64 (w64 (Int.tdiv (begun1.length : Int) (columns1.length : Int)))), pl 18 (.int .i64 many1), pl 19 (.int .i64 k1), pl 20 (.slice A15 row2.length c15), pl 97 (.slice A15 row2.length c15), pl 102 (.slice (hdA hd1 (w64 (Int.tdiv (begun1.length : Int) (columns1.length : Int)))) ((geti2 rows1 (w64 (Int.tdiv (begun1.length : Int) (columns1.length : Int)))).length) (hdC hd1 (w64 (Int.tdiv (begun1.length : Int) (columns1.length : Int)))))] hF hS Fol (by kernel_rfl) (by kernel_rfl) (by kernel_rfl) (by kernel_rfl) ?_ (fun a w hF hS => ?_)
                · exact obs_cons (ob_ixRn Und36 hi22 hs22 (hr_rows1 _ (hS.dropN 4)) rfl (fun _ => hp9)) <| obs_cons (ob_getR Agg22 (fun _ hS => ⟨_, (hr_rows1 _ (hS.dropN 4))⟩) (fun _ => hp9)) <| obs_nil
                refine any_step [1] (by kernel_rfl) rfl ?_
                refine (all_cons ?_ all_nil)
                · refine any_op (listed' := #[true, true, true, true, true, true, false]) (by kernel_rfl) (by kernel_rfl) ?_
                  refine at_call (f := 66) (args := #[.slice A15 row2.length c15]) (d := 98) hF (by kernel_rfl) (by kernel_rfl) Try.func66 (by kernel_rfl) rfl (gameroomref_ClueOf_w hr2 hS (fun _ hS => (hS.at_ 3 rfl).rd) ((hS.at_ 3 rfl).cap1) rfl) (fun v a w hR hF => ?_)
                  clear hS
                  obtain ⟨A19, c19, rfl, hS⟩ := hR
                  have hS : Sep w0 B w (own 3 (.slice A19 r2.length c19) (vI r2) :: own 3 (.slice A3 begun1.length c3) (vI begun1) :: blk g1 22 #[.slice A12 last3.length c12] :: own 3 (.slice A12 last3.length c12) (vI last3) :: own 3 (.slice A15 row2.length c15) (vI row2) :: fs) := hS
                  refine any_fin rfl (hS.pickN 5 [1, 2, 3, 4] (by decide)) ?_
                  refine any_step [6] (by kernel_rfl) rfl ?_
                  refine (all_cons ?_ all_nil)
                  · refine any_op (listed' := #[true, true, true, true, true, true, true]) (by kernel_rfl) (by kernel_rfl) ?_
                    refine at_run 1 [⟨false, [], callFunc 65 #[.slice A19 r2.length c19, .slice (hdA hd1 (w64 (Int.tdiv (begun1.length : Int) (columns1.length : Int)))) ((geti2 rows1 (w64 (Int.tdiv (begun1.length : Int) (columns1.length : Int)))).length) (hdC hd1 (w64 (Int.tdiv (begun1.length : Int) (columns1.length : Int))))], .bool r3⟩] [some (.bool r3)] [0, 1, 2, 3, 4, 11, 12, 18, 19, 20, 103] [pl 0 (.slice A1 rows1.length c1), pl 1 (.slice A2 columns1.length c2), pl 2 (.slice A3 begun1.length c3), pl 3 (.int .i64 most1), pl 4 (.pointer (some ⟨g1, 0, none⟩)), pl 11 (.int .i64 (columns1.length : Int)), pl 12 (.int .i64 (w64 (Int.tdiv (begun1.length : Int) (columns1.length : Int)))), pl 18 (.int .i64 many1), pl 19 (.int .i64 k1), pl 20 (.slice A15 row2.length c15), pl 103 (.bool r3)] hF hS (by kernel_rfl) (by kernel_rfl) ?_ (fun a w hF hS => ?_)
                    · exact obs_cons (ob_call Try.func65 (by kernel_rfl) rfl (fun _ _ hS => gameroomref_sameInts_w hr3 hS (fun _ hS => (hS.at_ 0 rfl).rd) ((hS.at_ 0 rfl).cap1) rfl (fun _ hS => ((hr_rows1 _ (hS.dropN 5)).row _ hp9).1) ((hr_rows1 _ (hS.dropN 5)).row _ hp9).2 rfl)) <| obs_nil
                    refine any_fin rfl (hS.pickN 5 [1, 2, 3, 4] (by decide)) ?_
                    refine any_end (by kernel_rfl) ?_
                    refine np_n ?_
                    refine then_n ?_
                    have hS := hS.pickN 5 [1, 2, 3, 4] (by decide)
                    exact ⟨r3, hF.weak [0, 1, 2, 3, 4, 11, 12, 18, 19, 20, 103] (by kernel_rfl), hS, hm⟩
            · refine reg [] [] [0, 1, 2, 3, 4, 11, 12, 18, 19, 20, 21] [pl 0 (.slice A1 rows1.length c1), pl 1 (.slice A2 columns1.length c2), pl 2 (.slice A3 begun1.length c3), pl 3 (.int .i64 most1), pl 4 (.pointer (some ⟨g1, 0, none⟩)), pl 11 (.int .i64 (columns1.length : Int)), pl 12 (.int .i64 (w64 (Int.tdiv (begun1.length : Int) (columns1.length : Int)))), pl 18 (.int .i64 many1), pl 19 (.int .i64 k1), pl 20 (.slice none 0 0), pl 21 (.int .i64 0)] hF hS Fol (by kernel_rfl) (by kernel_rfl) (by kernel_rfl) ?_ (fun a w hF hS => ?_)
              · exact obs_nil
              refine wpIn_block ?_
              have hS : Sep w0 B w (own 3 (.slice none 0 0) (vI ([] : List Int)) :: own 3 (.slice A3 begun1.length c3) (vI begun1) :: blk g1 22 #[.slice A12 last3.length c12] :: own 3 (.slice A12 last3.length c12) (vI last3) :: fs) := hS.nil 3
              have hl2 := (hS.at_ 0 rfl).len1
              have hS := (hS.at_ 0 rfl).reN hl2
              have hS : Sep w0 B w (own 3 (.slice none (([] : List Int).length) 0) (vI ([] : List Int)) :: own 3 (.slice A3 begun1.length c3) (vI begun1) :: blk g1 22 #[.slice A12 last3.length c12] :: own 3 (.slice A12 last3.length c12) (vI last3) :: fs) := hS
              have hF := hF.cast (t := 20) (v := .slice none 0 0) (v' := .slice none (([] : List Int).length) 0) rfl rfl (congrArg (fun k => Value.slice none k 0) hl2)
              have hS := hS.pickN 4 [1, 2, 3, 0] (by decide)
              refine wp_loop_model (S := (List Int × Int)) (R := (List Int)) (gameroomref_PictureOf_2_L4 columns1 k1) (fun x => ((gameroomref_PictureOf_2_K4 rec_gameroomref_PictureOf_2 rows1 columns1 begun1 most1 last3 many1 k1) x).bind φ3) r (fun (x : (List Int × Int)) a w => ∃ (A14 : Option Addr) (c14 : Nat), Fr 118 [pl 0 (.slice A1 rows1.length c1), pl 1 (.slice A2 columns1.length c2), pl 2 (.slice A3 begun1.length c3), pl 3 (.int .i64 most1), pl 4 (.pointer (some ⟨g1, 0, none⟩)), pl 11 (.int .i64 (columns1.length : Int)), pl 12 (.int .i64 (w64 (Int.tdiv (begun1.length : Int) (columns1.length : Int)))), pl 18 (.int .i64 many1), pl 19 (.int .i64 k1), pl 20 (.slice A14 x.1.length c14), pl 21 (.int .i64 x.2)] a ∧ Sep w0 B w (own 3 (.slice A3 begun1.length c3) (vI begun1) :: blk g1 22 #[.slice A12 last3.length c12] :: own 3 (.slice A12 last3.length c12) (vI last3) :: own 3 (.slice A14 x.1.length c14) (vI x.1) :: fs)) (assoc_b hm) ⟨none, 0, hF.weak [0, 1, 2, 3, 4, 11, 12, 18, 19, 20, 21] (by kernel_rfl), hS⟩ ?_
              clear hF hS hm
              rintro nn4 ⟨row1, x2⟩ a w ⟨A14, c14, hF, hS⟩ hm
              generalize hφ4 : stK (gameroomref_PictureOf_2_L4 columns1 k1) nn4 (fun x => ((gameroomref_PictureOf_2_K4 rec_gameroomref_PictureOf_2 rows1 columns1 begun1 most1 last3 many1 k1) x).bind φ3) = φ4 at hm
              unfold gameroomref_PictureOf_2_L4 at hm
              dsimp only at hF hS hm
              refine seq_cut (fun a w => Fr 118 [pl 0 (.slice A1 rows1.length c1), pl 1 (.slice A2 columns1.length c2), pl 2 (.slice A3 begun1.length c3), pl 3 (.int .i64 most1), pl 4 (.pointer (some ⟨g1, 0, none⟩)), pl 11 (.int .i64 (columns1.length : Int)), pl 12 (.int .i64 (w64 (Int.tdiv (begun1.length : Int) (columns1.length : Int)))), pl 18 (.int .i64 many1), pl 19 (.int .i64 k1), pl 20 (.slice A14 row1.length c14), pl 21 (.int .i64 x2)] a ∧ Sep w0 B w (own 3 (.slice A3 begun1.length c3) (vI begun1) :: blk g1 22 #[.slice A12 last3.length c12] :: own 3 (.slice A12 last3.length c12) (vI last3) :: own 3 (.slice A14 row1.length c14) (vI row1) :: fs) ∧ ((gameroomref_PictureOf_2_J12 k1 row1 x2)).bind φ4 = some r) ?_ ?_
              · rintro a w ⟨hF, hS, hm⟩
                unfold gameroomref_PictureOf_2_J12 at hm
                refine seq_cut (fun a w => ∃ (row3 : List Int) (A17 : Option Addr) (c17 : Nat), Fr 118 [pl 0 (.slice A1 rows1.length c1), pl 1 (.slice A2 columns1.length c2), pl 2 (.slice A3 begun1.length c3), pl 3 (.int .i64 most1), pl 4 (.pointer (some ⟨g1, 0, none⟩)), pl 11 (.int .i64 (columns1.length : Int)), pl 12 (.int .i64 (w64 (Int.tdiv (begun1.length : Int) (columns1.length : Int)))), pl 18 (.int .i64 many1), pl 19 (.int .i64 k1), pl 20 (.slice A17 row3.length c17), pl 21 (.int .i64 x2)] a ∧ Sep w0 B w (own 3 (.slice A3 begun1.length c3) (vI begun1) :: blk g1 22 #[.slice A12 last3.length c12] :: own 3 (.slice A12 last3.length c12) (vI last3) :: own 3 (.slice A17 row3.length c17) (vI row3) :: fs) ∧ ((gameroomref_PictureOf_2_J13 x2) row3).bind φ4 = some r) ?_ ?_
                · rintro a w ⟨row3, A17, c17, hF, hS, hm⟩
                  unfold gameroomref_PictureOf_2_J13 at hm
                  refine reg1 [] [] [0, 1, 2, 3, 4, 11, 12, 18, 19, 20, 21] [pl 0 (.slice A1 rows1.length c1), pl 1 (.slice A2 columns1.length c2), pl 2 (.slice A3 begun1.length c3), pl 3 (.int .i64 most1), pl 4 (.pointer (some ⟨g1, 0, none⟩)), pl 11 (.int .i64 (columns1.length : Int)), pl 12 (.int .i64 (w64 (Int.tdiv (begun1.length : Int) (columns1.length : Int)))), pl 18 (.int .i64 many1), pl 19 (.int .i64 k1), pl 20 (.slice A17 row3.length c17), pl 21 (.int .i64 (w64 (x2 + 1)))] hF hS Fol (by kernel_rfl) (by kernel_rfl) (by kernel_rfl) ?_ (fun a w hF hS => ?_)
                  · exact obs_nil
                  refine then_n ?_
                  rw [← hφ4] at hm
                  exact ⟨(row3, (w64 (x2 + 1))), ⟨A17, c17, hF.weak [0, 1, 2, 3, 4, 11, 12, 18, 19, 20, 21] (by kernel_rfl), hS⟩, hm⟩
                · refine wpIn_block ?_
                  refine oneR ?_
                  obtain ⟨hp7, hm⟩ := asrt_b hm
                  obtain ⟨hp8, hm⟩ := asrt_b hm
                  refine at_run 5 [⟨true, [], vS (Op.shift .shr .i64 k1 .i64 x2), .int .i64 (shrK .i64 k1 x2)⟩] [none, none, none, some (.int .i64 (shrK .i64 k1 x2)), none] [0, 1, 2, 3, 4, 11, 12, 18, 19, 21, 90, 94] [pl 0 (.slice A1 rows1.length c1), pl 1 (.slice A2 columns1.length c2), pl 2 (.slice A3 begun1.length c3), pl 3 (.int .i64 most1), pl 4 (.pointer (some ⟨g1, 0, none⟩)), pl 11 (.int .i64 (columns1.length : Int)), pl 12 (.int .i64 (w64 (Int.tdiv (begun1.length : Int) (columns1.length : Int)))), pl 18 (.int .i64 many1), pl 19 (.int .i64 k1), pl 21 (.int .i64 x2), pl 90 (.slice A14 row1.length c14), pl 94 (.int .i64 (bAnd (shrK .i64 k1 x2) 1))] hF hS (by kernel_rfl) (by kernel_rfl) ?_ (fun a w hF hS => ?_)
                  · exact obs_cons (ob_shr (fun _ => hp7)) <| obs_nil
                  refine at_do (d := 95) (s := vS (Instr.buildSlice 22 1 #[(0, .int .i64 (bAnd (shrK .i64 k1 x2) 1))])) (v := .slice (some ⟨w.heap.size, 0, none⟩) 1 1) (w' := w.alloc (.cells #[.int .i64 (bAnd (shrK .i64 k1 x2) 1)] 3)) hF (by kernel_rfl) (by kernel_rfl) (by kernel_rfl) (fun a hF => ?_)
                  have hS : Sep w0 B (w.alloc (.cells #[.int .i64 (bAnd (shrK .i64 k1 x2) 1)] 3)) (own 3 (.slice (some (⟨w.heap.size, 0, none⟩ : Addr)) 1 1) (vI ([bAnd (shrK .i64 k1 x2) 1] : List Int)) :: (own 3 (.slice A3 begun1.length c3) (vI begun1) :: blk g1 22 #[.slice A12 last3.length c12] :: own 3 (.slice A12 last3.length c12) (vI last3) :: own 3 (.slice A14 row1.length c14) (vI row1) :: fs)) := hS.lit 3 #[.int .i64 (bAnd (shrK .i64 k1 x2) 1)] 1 rfl (by omega)
                  generalize (some (⟨w.heap.size, 0, none⟩ : Addr)) = g4 at hF hS
                  generalize w.alloc (.cells #[.int .i64 (bAnd (shrK .i64 k1 x2) 1)] 3) = w at hS ⊢
                  obtain ⟨A16, c16, w, hrun, hS⟩ := run_app1 (P := Try.prog) (t := 22) (m := row1) (ys := ([bAnd (shrK .i64 k1 x2) 1] : List Int)) (A2 := g4) (m2 := 1) (c2 := 1) (Value.int .i64) (0 : Int) (hS.at_ 4 rfl) (hS.at_ 0 rfl).rd ((hS.at_ 0 rfl).len1) 22 Und22 hi3 hz3 hs3 (by omega) rfl (fun _ => rfl) hp8
                  have hS : Sep w0 B w (own 3 (.slice g4 1 1) (vI ([bAnd (shrK .i64 k1 x2) 1] : List Int)) :: own 3 (.slice A3 begun1.length c3) (vI begun1) :: blk g1 22 #[.slice A12 last3.length c12] :: own 3 (.slice A12 last3.length c12) (vI last3) :: own 3 (.slice A16 ((row1 ++ ([bAnd (shrK .i64 k1 x2) 1] : List Int)).length) c16) (vI (row1 ++ ([bAnd (shrK .i64 k1 x2) 1] : List Int))) :: fs) := hS
                  refine at_do (d := 96) hF (by kernel_rfl) (by kernel_rfl) hrun (fun a hF => ?_)
                  refine at_run 1 [] [] [0, 1, 2, 3, 4, 11, 12, 18, 19, 20, 21] [pl 0 (.slice A1 rows1.length c1), pl 1 (.slice A2 columns1.length c2), pl 2 (.slice A3 begun1.length c3), pl 3 (.int .i64 most1), pl 4 (.pointer (some ⟨g1, 0, none⟩)), pl 11 (.int .i64 (columns1.length : Int)), pl 12 (.int .i64 (w64 (Int.tdiv (begun1.length : Int) (columns1.length : Int)))), pl 18 (.int .i64 many1), pl 19 (.int .i64 k1), pl 20 (.slice A16 ((row1 ++ ([bAnd (shrK .i64 k1 x2) 1] : List Int)).length) c16), pl 21 (.int .i64 x2)] hF hS (by kernel_rfl) (by kernel_rfl) ?_ (fun a w hF hS => ?_)
                  · exact obs_nil
                  refine at_end [0, 1, 2, 3, 4, 11, 12, 18, 19, 20, 21] [pl 0 (.slice A1 rows1.length c1), pl 1 (.slice A2 columns1.length c2), pl 2 (.slice A3 begun1.length c3), pl 3 (.int .i64 most1), pl 4 (.pointer (some ⟨g1, 0, none⟩)), pl 11 (.int .i64 (columns1.length : Int)), pl 12 (.int .i64 (w64 (Int.tdiv (begun1.length : Int) (columns1.length : Int)))), pl 18 (.int .i64 many1), pl 19 (.int .i64 k1), pl 20 (.slice A16 ((row1 ++ ([bAnd (shrK .i64 k1 x2) 1] : List Int)).length) c16), pl 21 (.int .i64 x2)] hF rfl (by kernel_rfl) (fun hF => ?_)
                  refine block_n ?_
                  refine then_n ?_
                  have hS := hS.pickN 5 [1, 2, 3, 4] (by decide)
                  exact ⟨(row1 ++ ([bAnd (shrK .i64 k1 x2) 1] : List Int)), A16, c16, hF.weak [0, 1, 2, 3, 4, 11, 12, 18, 19, 20, 21] (by kernel_rfl), hS, hm⟩
              · refine reg [] [] [0, 1, 2, 3, 4, 11, 12, 18, 19, 20, 21, 87] [pl 0 (.slice A1 rows1.length c1), pl 1 (.slice A2 columns1.length c2), pl 2 (.slice A3 begun1.length c3), pl 3 (.int .i64 most1), pl 4 (.pointer (some ⟨g1, 0, none⟩)), pl 11 (.int .i64 (columns1.length : Int)), pl 12 (.int .i64 (w64 (Int.tdiv (begun1.length : Int) (columns1.length : Int)))), pl 18 (.int .i64 many1), pl 19 (.int .i64 k1), pl 20 (.slice A14 row1.length c14), pl 21 (.int .i64 x2), pl 87 (.bool (decide (x2 < (columns1.length : Int))))] hF hS Fol (by kernel_rfl) (by kernel_rfl) (by kernel_rfl) ?_ (fun a w hF hS => ?_)
                · exact obs_nil
                refine cond_ev (t := 87) (b := decide (x2 < (columns1.length : Int))) hF (by kernel_rfl) (fun hb => ?_) (fun hb => ?_)
                · replace hm := if_t hm hb
                  refine wpIn_skip ?_
                  refine then_n ?_
                  exact ⟨hF.weak [0, 1, 2, 3, 4, 11, 12, 18, 19, 20, 21] (by kernel_rfl), hS, hm⟩
                · replace hm := if_f hm hb
                  refine wpIn_exit ?_
                  refine then_e (then_e (block_e (then_n ?_)))
                  rw [← hφ4] at hm
                  replace hm := done_b hm
                  unfold gameroomref_PictureOf_2_K4 at hm
                  try dsimp only at hm
                  have hm : ((gameroomref_PictureOf_2_J11 rec_gameroomref_PictureOf_2 rows1 columns1 begun1 most1 last3 many1 k1) row1).bind φ3 = some r := hm
                  exact ⟨row1, A14, c14, hF.weak [0, 1, 2, 3, 4, 11, 12, 18, 19, 20] (by kernel_rfl), hS, hm⟩
        · obtain ⟨hp6, hm⟩ := asrt_b hm
          refine reg [⟨true, [], vS (Op.shift .shl .i64 1 .i64 (columns1.length : Int)), .int .i64 (shlK .i64 1 (columns1.length : Int))⟩] [none, none, some (.int .i64 (shlK .i64 1 (columns1.length : Int))), none, none, none, none, none, none] [0, 1, 2, 3, 4, 11, 12, 18, 19, 82] [pl 0 (.slice A1 rows1.length c1), pl 1 (.slice A2 columns1.length c2), pl 2 (.slice A3 begun1.length c3), pl 3 (.int .i64 most1), pl 4 (.pointer (some ⟨g1, 0, none⟩)), pl 11 (.int .i64 (columns1.length : Int)), pl 12 (.int .i64 (w64 (Int.tdiv (begun1.length : Int) (columns1.length : Int)))), pl 18 (.int .i64 many1), pl 19 (.int .i64 k1), pl 82 (.bool ((decide (k1 < (shlK .i64 1 (columns1.length : Int)))) && (decide (many1 < most1))))] hF hS Fol (by kernel_rfl) (by kernel_rfl) (by kernel_rfl) ?_ (fun a w hF hS => ?_)
          · exact obs_cons (ob_shl (fun _ => hp6)) <| obs_nil
          refine cond_ev (t := 82) (b := (decide (k1 < (shlK .i64 1 (columns1.length : Int)))) && (decide (many1 < most1))) hF (by kernel_rfl) (fun hb => ?_) (fun hb => ?_)
          · replace hm := if_t hm hb
            refine wpIn_skip ?_
            refine then_n ?_
            exact ⟨hF.weak [0, 1, 2, 3, 4, 11, 12, 18, 19] (by kernel_rfl), hS, hm⟩
          · replace hm := if_f hm hb
            refine wpIn_exit ?_
            refine then_e (then_e (block_e (then_n ?_)))
            have hS := hS.pickN 3 [1, 2] (by decide)
            rw [← hφ3] at hm
            replace hm := done_b hm
            unfold gameroomref_PictureOf_2_K3 at hm
            try dsimp only at hm
            have hm : (gameroomref_PictureOf_2_J8 many1 last3).bind some = some r := hm
            exact ⟨many1, last3, A12, c12, hF.weak [18] (by kernel_rfl), hS, hm⟩
    · refine reg [] [] [0, 1, 2, 3, 4, 11, 12, 70] [pl 0 (.slice A1 rows1.length c1), pl 1 (.slice A2 columns1.length c2), pl 2 (.slice A3 begun1.length c3), pl 3 (.int .i64 most1), pl 4 (.pointer (some ⟨g1, 0, none⟩)), pl 11 (.int .i64 (columns1.length : Int)), pl 12 (.int .i64 (w64 (Int.tdiv (begun1.length : Int) (columns1.length : Int)))), pl 70 (.bool ((w64 (Int.tdiv (begun1.length : Int) (columns1.length : Int))) == (rows1.length : Int)))] hF hS Fol (by kernel_rfl) (by kernel_rfl) (by kernel_rfl) ?_ (fun a w hF hS => ?_)
      · exact obs_nil
      refine cond_ev (t := 70) (b := ((w64 (Int.tdiv (begun1.length : Int) (columns1.length : Int))) == (rows1.length : Int))) hF (by kernel_rfl) (fun hb => ?_) (fun hb => ?_)
      · replace hm := if_t hm hb
        refine seqR ?_
        refine at_run 3 [] [] [72, 73] [pl 72 (.slice A3 begun1.length c3), pl 73 (.pointer (some ⟨g1, 0, none⟩))] hF hS (by kernel_rfl) (by kernel_rfl) ?_ (fun a w hF hS => ?_)
        · exact obs_nil
        obtain ⟨w, hrun, hS⟩ := run_put (P := Try.prog) (t := 22) (u := .slice A3 begun1.length c3) (i := 0) (hS.at_ 1 rfl) hi22 hs22 rfl (Nat.lt_of_lt_of_eq (Nat.lt_of_succ_le (Nat.le_of_ble_eq_true (by kernel_rfl))) rfl)
        refine at_skip hF (by kernel_rfl) hrun ?_
        have hS : Sep w0 B w (own 3 (.slice A3 begun1.length c3) (vI begun1) :: blk g1 22 #[.slice A3 begun1.length c3] :: own 3 (.slice A4 last1.length c4) (vI last1) :: fs) := hS
        refine at_end [] [] hF rfl (by kernel_rfl) (fun hF => ?_)
        refine then_n ?_
        refine reg [] [] [10] [pl 10 (.int .i64 1)] hF hS Fol (by kernel_rfl) (by kernel_rfl) (by kernel_rfl) ?_ (fun a w hF hS => ?_)
        · exact obs_nil
        refine wpIn_ret ?_
        refine then_r ?_
        have hS := hS.pickN 3 [1, 0] (by decide)
        have hm : some (1, begun1) = some r := hm
        obtain rfl := Option.some.inj hm
        exact retV (rs := [.tmp 10]) (vs := [.int .i64 1]) hF rfl (rv_t (by kernel_rfl) <| rv_nil) rfl ⟨_, rfl, A3, c3, rfl, hS⟩
      · replace hm := if_f hm hb
        refine wpIn_skip ?_
        refine then_n ?_
        exact ⟨hF.weak [0, 1, 2, 3, 4, 11, 12] (by kernel_rfl), hS, hm⟩
  · refine reg [] [] [0, 1, 2, 3, 4, 11, 12, 13] [pl 0 (.slice A1 rows1.length c1), pl 1 (.slice A2 columns1.length c2), pl 2 (.slice A3 begun1.length c3), pl 3 (.int .i64 most1), pl 4 (.pointer (some ⟨g1, 0, none⟩)), pl 11 (.int .i64 (columns1.length : Int)), pl 12 (.int .i64 (w64 (Int.tdiv (begun1.length : Int) (columns1.length : Int)))), pl 13 (.int .i64 0)] hF hS Fol (by kernel_rfl) (by kernel_rfl) (by kernel_rfl) ?_ (fun a w hF hS => ?_)
    · exact obs_nil
    refine wpIn_block ?_
    refine wp_loop_model (S := Int) (R := (Fl Unit (Int × List Int))) (gameroomref_PictureOf_2_L1 rows1 columns1 begun1 last1) (fun x => ((gameroomref_PictureOf_2_K1 rec_gameroomref_PictureOf_2 rows1 columns1 begun1 most1 last1) x).bind some) r (fun (x : Int) a w => Fr 118 [pl 0 (.slice A1 rows1.length c1), pl 1 (.slice A2 columns1.length c2), pl 2 (.slice A3 begun1.length c3), pl 3 (.int .i64 most1), pl 4 (.pointer (some ⟨g1, 0, none⟩)), pl 11 (.int .i64 (columns1.length : Int)), pl 12 (.int .i64 (w64 (Int.tdiv (begun1.length : Int) (columns1.length : Int)))), pl 13 (.int .i64 x)] a ∧ Sep w0 B w (own 3 (.slice A3 begun1.length c3) (vI begun1) :: blk g1 22 #[.slice A4 last1.length c4] :: own 3 (.slice A4 last1.length c4) (vI last1) :: fs)) (assoc_b hm) ⟨hF.weak [0, 1, 2, 3, 4, 11, 12, 13] (by kernel_rfl), hS⟩ ?_
    clear hF hS hm
    rintro nn1 x1 a w ⟨hF, hS⟩ hm
    generalize hφ1 : stK (gameroomref_PictureOf_2_L1 rows1 columns1 begun1 last1) nn1 (fun x => ((gameroomref_PictureOf_2_K1 rec_gameroomref_PictureOf_2 rows1 columns1 begun1 most1 last1) x).bind some) = φ1 at hm
    unfold gameroomref_PictureOf_2_L1 at hm
    dsimp only at hm
    refine seq_cut (fun a w => Fr 118 [pl 0 (.slice A1 rows1.length c1), pl 1 (.slice A2 columns1.length c2), pl 2 (.slice A3 begun1.length c3), pl 3 (.int .i64 most1), pl 4 (.pointer (some ⟨g1, 0, none⟩)), pl 11 (.int .i64 (columns1.length : Int)), pl 12 (.int .i64 (w64 (Int.tdiv (begun1.length : Int) (columns1.length : Int)))), pl 13 (.int .i64 x1)] a ∧ Sep w0 B w (own 3 (.slice A3 begun1.length c3) (vI begun1) :: blk g1 22 #[.slice A4 last1.length c4] :: own 3 (.slice A4 last1.length c4) (vI last1) :: fs) ∧ ((gameroomref_PictureOf_2_J2 rows1 columns1 begun1 last1 x1)).bind φ1 = some r) ?_ ?_
    · rintro a w ⟨hF, hS, hm⟩
      unfold gameroomref_PictureOf_2_J2 at hm
      refine seq_cut (fun a w => Fr 118 [pl 0 (.slice A1 rows1.length c1), pl 1 (.slice A2 columns1.length c2), pl 2 (.slice A3 begun1.length c3), pl 3 (.int .i64 most1), pl 4 (.pointer (some ⟨g1, 0, none⟩)), pl 11 (.int .i64 (columns1.length : Int)), pl 12 (.int .i64 (w64 (Int.tdiv (begun1.length : Int) (columns1.length : Int)))), pl 13 (.int .i64 x1)] a ∧ Sep w0 B w (own 3 (.slice A3 begun1.length c3) (vI begun1) :: blk g1 22 #[.slice A4 last1.length c4] :: own 3 (.slice A4 last1.length c4) (vI last1) :: fs) ∧ ((gameroomref_PictureOf_2_J3 x1)).bind φ1 = some r) ?_ ?_
      · rintro a w ⟨hF, hS, hm⟩
        unfold gameroomref_PictureOf_2_J3 at hm
        refine reg1 [] [] [0, 1, 2, 3, 4, 11, 12, 13] [pl 0 (.slice A1 rows1.length c1), pl 1 (.slice A2 columns1.length c2), pl 2 (.slice A3 begun1.length c3), pl 3 (.int .i64 most1), pl 4 (.pointer (some ⟨g1, 0, none⟩)), pl 11 (.int .i64 (columns1.length : Int)), pl 12 (.int .i64 (w64 (Int.tdiv (begun1.length : Int) (columns1.length : Int)))), pl 13 (.int .i64 (w64 (x1 + 1)))] hF hS Fol (by kernel_rfl) (by kernel_rfl) (by kernel_rfl) ?_ (fun a w hF hS => ?_)
        · exact obs_nil
        refine then_n ?_
        rw [← hφ1] at hm
        exact ⟨(w64 (x1 + 1)), ⟨hF.weak [0, 1, 2, 3, 4, 11, 12, 13] (by kernel_rfl), hS⟩, hm⟩
      · refine wpIn_block ?_
        refine reg [] [] [0, 1, 2, 3, 4, 11, 12, 13, 14] [pl 0 (.slice A1 rows1.length c1), pl 1 (.slice A2 columns1.length c2), pl 2 (.slice A3 begun1.length c3), pl 3 (.int .i64 most1), pl 4 (.pointer (some ⟨g1, 0, none⟩)), pl 11 (.int .i64 (columns1.length : Int)), pl 12 (.int .i64 (w64 (Int.tdiv (begun1.length : Int) (columns1.length : Int)))), pl 13 (.int .i64 x1), pl 14 (.slice none 0 0)] hF hS Fol (by kernel_rfl) (by kernel_rfl) (by kernel_rfl) ?_ (fun a w hF hS => ?_)
        · exact obs_nil
        refine seq_cut (fun a w => ∃ (line2 : List Int) (A7 : Option Addr) (c7 : Nat), Fr 118 [pl 0 (.slice A1 rows1.length c1), pl 1 (.slice A2 columns1.length c2), pl 2 (.slice A3 begun1.length c3), pl 3 (.int .i64 most1), pl 4 (.pointer (some ⟨g1, 0, none⟩)), pl 11 (.int .i64 (columns1.length : Int)), pl 12 (.int .i64 (w64 (Int.tdiv (begun1.length : Int) (columns1.length : Int)))), pl 13 (.int .i64 x1), pl 14 (.slice A7 line2.length c7)] a ∧ Sep w0 B w (own 3 (.slice A3 begun1.length c3) (vI begun1) :: blk g1 22 #[.slice A4 last1.length c4] :: own 3 (.slice A4 last1.length c4) (vI last1) :: own 3 (.slice A7 line2.length c7) (vI line2) :: fs) ∧ ((gameroomref_PictureOf_2_J4 columns1 last1 x1) line2).bind φ1 = some r) ?_ ?_
        · rintro a w ⟨line2, A7, c7, hF, hS, hm⟩
          unfold gameroomref_PictureOf_2_J4 at hm
          refine seqR ?_
          obtain ⟨hp5, hm⟩ := asrt_b hm
          obtain ⟨r1, hr1, hm⟩ := call_b hm
          refine at_run 5 [⟨true, [], vS (Instr.indexAt 36 (.slice A2 columns1.length c2) (.int .i64 x1)), .pointer (some (sAddr A2 x1))⟩, ⟨false, [], vS (Instr.loadAt 22 (.pointer (some (sAddr A2 x1)))), .slice (hdA hd2 x1) ((geti2 columns1 x1).length) (hdC hd2 x1)⟩] [none, none, none, some (.pointer (some (sAddr A2 x1))), some (.slice (hdA hd2 x1) ((geti2 columns1 x1).length) (hdC hd2 x1))] [0, 1, 2, 3, 4, 11, 12, 13, 57, 61] [pl 0 (.slice A1 rows1.length c1), pl 1 (.slice A2 columns1.length c2), pl 2 (.slice A3 begun1.length c3), pl 3 (.int .i64 most1), pl 4 (.pointer (some ⟨g1, 0, none⟩)), pl 11 (.int .i64 (columns1.length : Int)), pl 12 (.int .i64 (w64 (Int.tdiv (begun1.length : Int) (columns1.length : Int)))), pl 13 (.int .i64 x1), pl 57 (.slice A7 line2.length c7), pl 61 (.slice (hdA hd2 x1) ((geti2 columns1 x1).length) (hdC hd2 x1))] hF hS (by kernel_rfl) (by kernel_rfl) ?_ (fun a w hF hS => ?_)
          · exact obs_cons (ob_ixRn Und36 hi22 hs22 (hr_columns1 _ (hS.dropN 4)) rfl (fun _ => hp5)) <| obs_cons (ob_getR Agg22 (fun _ hS => ⟨_, (hr_columns1 _ (hS.dropN 4))⟩) (fun _ => hp5)) <| obs_nil
          refine at_call (f := 64) (args := #[.slice A7 line2.length c7, .slice (hdA hd2 x1) ((geti2 columns1 x1).length) (hdC hd2 x1)]) (d := 62) hF (by kernel_rfl) (by kernel_rfl) Try.func64 (by kernel_rfl) rfl (gameroomref_LineWays_w hr1 hS (fun _ hS => (hS.at_ 3 rfl).rd) ((hS.at_ 3 rfl).cap1) rfl (fun _ hS => ((hr_columns1 _ (hS.dropN 4)).row _ hp5).1) ((hr_columns1 _ (hS.dropN 4)).row _ hp5).2 rfl) (fun v a w hR hF => ?_)
          clear hS
          obtain ⟨A11, c11, rfl, hS⟩ := hR
          have hS : Sep w0 B w (own 3 (.slice A11 r1.2.length c11) (vI r1.2) :: own 3 (.slice A3 begun1.length c3) (vI begun1) :: blk g1 22 #[.slice A4 last1.length c4] :: own 3 (.slice A4 last1.length c4) (vI last1) :: own 3 (.slice A7 line2.length c7) (vI line2) :: fs) := hS
          refine at_run 5 [] [] [0, 1, 2, 3, 4, 11, 12, 13, 16] [pl 0 (.slice A1 rows1.length c1), pl 1 (.slice A2 columns1.length c2), pl 2 (.slice A3 begun1.length c3), pl 3 (.int .i64 most1), pl 4 (.pointer (some ⟨g1, 0, none⟩)), pl 11 (.int .i64 (columns1.length : Int)), pl 12 (.int .i64 (w64 (Int.tdiv (begun1.length : Int) (columns1.length : Int)))), pl 13 (.int .i64 x1), pl 16 (.int .i64 r1.1)] hF hS (by kernel_rfl) (by kernel_rfl) ?_ (fun a w hF hS => ?_)
          · exact obs_nil
          refine at_end [0, 1, 2, 3, 4, 11, 12, 13, 16] [pl 0 (.slice A1 rows1.length c1), pl 1 (.slice A2 columns1.length c2), pl 2 (.slice A3 begun1.length c3), pl 3 (.int .i64 most1), pl 4 (.pointer (some ⟨g1, 0, none⟩)), pl 11 (.int .i64 (columns1.length : Int)), pl 12 (.int .i64 (w64 (Int.tdiv (begun1.length : Int) (columns1.length : Int)))), pl 13 (.int .i64 x1), pl 16 (.int .i64 r1.1)] hF rfl (by kernel_rfl) (fun hF => ?_)
          refine then_n ?_
          refine reg [] [] [0, 1, 2, 3, 4, 11, 12, 13, 66] [pl 0 (.slice A1 rows1.length c1), pl 1 (.slice A2 columns1.length c2), pl 2 (.slice A3 begun1.length c3), pl 3 (.int .i64 most1), pl 4 (.pointer (some ⟨g1, 0, none⟩)), pl 11 (.int .i64 (columns1.length : Int)), pl 12 (.int .i64 (w64 (Int.tdiv (begun1.length : Int) (columns1.length : Int)))), pl 13 (.int .i64 x1), pl 66 (.bool (r1.1 == 0))] hF hS Fol (by kernel_rfl) (by kernel_rfl) (by kernel_rfl) ?_ (fun a w hF hS => ?_)
          · exact obs_nil
          refine cond_ev (t := 66) (b := (r1.1 == 0)) hF (by kernel_rfl) (fun hb => ?_) (fun hb => ?_)
          · replace hm := if_t hm hb
            refine reg [] [] [10] [pl 10 (.int .i64 0)] hF hS Fol (by kernel_rfl) (by kernel_rfl) (by kernel_rfl) ?_ (fun a w hF hS => ?_)
            · exact obs_nil
            refine wpIn_ret ?_
            refine block_r (then_r (then_r (block_r (then_r ?_))))
            rw [← hφ1] at hm
            replace hm := done_b hm
            unfold gameroomref_PictureOf_2_K1 at hm
            try dsimp only at hm
            have hS := hS.pickN 5 [2, 3] (by decide)
            have hm : some (0, last1) = some r := hm
            obtain rfl := Option.some.inj hm
            exact retV (rs := [.tmp 10]) (vs := [.int .i64 0]) hF rfl (rv_t (by kernel_rfl) <| rv_nil) rfl ⟨_, rfl, A4, c4, rfl, hS⟩
          · replace hm := if_f hm hb
            refine wpIn_skip ?_
            refine block_n ?_
            refine then_n ?_
            have hS := hS.pickN 5 [1, 2, 3] (by decide)
            exact ⟨hF.weak [0, 1, 2, 3, 4, 11, 12, 13] (by kernel_rfl), hS, hm⟩
        · refine reg [] [] [0, 1, 2, 3, 4, 11, 12, 13, 14, 15] [pl 0 (.slice A1 rows1.length c1), pl 1 (.slice A2 columns1.length c2), pl 2 (.slice A3 begun1.length c3), pl 3 (.int .i64 most1), pl 4 (.pointer (some ⟨g1, 0, none⟩)), pl 11 (.int .i64 (columns1.length : Int)), pl 12 (.int .i64 (w64 (Int.tdiv (begun1.length : Int) (columns1.length : Int)))), pl 13 (.int .i64 x1), pl 14 (.slice none 0 0), pl 15 (.int .i64 0)] hF hS Fol (by kernel_rfl) (by kernel_rfl) (by kernel_rfl) ?_ (fun a w hF hS => ?_)
          · exact obs_nil
          refine wpIn_block ?_
          have hS : Sep w0 B w (own 3 (.slice none 0 0) (vI ([] : List Int)) :: own 3 (.slice A3 begun1.length c3) (vI begun1) :: blk g1 22 #[.slice A4 last1.length c4] :: own 3 (.slice A4 last1.length c4) (vI last1) :: fs) := hS.nil 3
          have hl1 := (hS.at_ 0 rfl).len1
          have hS := (hS.at_ 0 rfl).reN hl1
          have hS : Sep w0 B w (own 3 (.slice none (([] : List Int).length) 0) (vI ([] : List Int)) :: own 3 (.slice A3 begun1.length c3) (vI begun1) :: blk g1 22 #[.slice A4 last1.length c4] :: own 3 (.slice A4 last1.length c4) (vI last1) :: fs) := hS
          have hF := hF.cast (t := 14) (v := .slice none 0 0) (v' := .slice none (([] : List Int).length) 0) rfl rfl (congrArg (fun k => Value.slice none k 0) hl1)
          have hS := hS.pickN 4 [1, 2, 3, 0] (by decide)
          refine wp_loop_model (S := (List Int × Int)) (R := (List Int)) (gameroomref_PictureOf_2_L2 rows1 columns1 begun1 x1) (fun x => ((gameroomref_PictureOf_2_K2 columns1 last1 x1) x).bind φ1) r (fun (x : (List Int × Int)) a w => ∃ (A6 : Option Addr) (c6 : Nat), Fr 118 [pl 0 (.slice A1 rows1.length c1), pl 1 (.slice A2 columns1.length c2), pl 2 (.slice A3 begun1.length c3), pl 3 (.int .i64 most1), pl 4 (.pointer (some ⟨g1, 0, none⟩)), pl 11 (.int .i64 (columns1.length : Int)), pl 12 (.int .i64 (w64 (Int.tdiv (begun1.length : Int) (columns1.length : Int)))), pl 13 (.int .i64 x1), pl 14 (.slice A6 x.1.length c6), pl 15 (.int .i64 x.2)] a ∧ Sep w0 B w (own 3 (.slice A3 begun1.length c3) (vI begun1) :: blk g1 22 #[.slice A4 last1.length c4] :: own 3 (.slice A4 last1.length c4) (vI last1) :: own 3 (.slice A6 x.1.length c6) (vI x.1) :: fs)) (assoc_b hm) ⟨none, 0, hF.weak [0, 1, 2, 3, 4, 11, 12, 13, 14, 15] (by kernel_rfl), hS⟩ ?_
          clear hF hS hm
          rintro nn2 ⟨line1, i1⟩ a w ⟨A6, c6, hF, hS⟩ hm
          generalize hφ2 : stK (gameroomref_PictureOf_2_L2 rows1 columns1 begun1 x1) nn2 (fun x => ((gameroomref_PictureOf_2_K2 columns1 last1 x1) x).bind φ1) = φ2 at hm
          unfold gameroomref_PictureOf_2_L2 at hm
          dsimp only at hF hS hm
          refine seq_cut (fun a w => Fr 118 [pl 0 (.slice A1 rows1.length c1), pl 1 (.slice A2 columns1.length c2), pl 2 (.slice A3 begun1.length c3), pl 3 (.int .i64 most1), pl 4 (.pointer (some ⟨g1, 0, none⟩)), pl 11 (.int .i64 (columns1.length : Int)), pl 12 (.int .i64 (w64 (Int.tdiv (begun1.length : Int) (columns1.length : Int)))), pl 13 (.int .i64 x1), pl 14 (.slice A6 line1.length c6), pl 15 (.int .i64 i1)] a ∧ Sep w0 B w (own 3 (.slice A3 begun1.length c3) (vI begun1) :: blk g1 22 #[.slice A4 last1.length c4] :: own 3 (.slice A4 last1.length c4) (vI last1) :: own 3 (.slice A6 line1.length c6) (vI line1) :: fs) ∧ ((gameroomref_PictureOf_2_J5 columns1 begun1 x1 line1 i1)).bind φ2 = some r) ?_ ?_
          · rintro a w ⟨hF, hS, hm⟩
            unfold gameroomref_PictureOf_2_J5 at hm
            refine seq_cut (fun a w => ∃ (line3 : List Int) (A9 : Option Addr) (c9 : Nat), Fr 118 [pl 0 (.slice A1 rows1.length c1), pl 1 (.slice A2 columns1.length c2), pl 2 (.slice A3 begun1.length c3), pl 3 (.int .i64 most1), pl 4 (.pointer (some ⟨g1, 0, none⟩)), pl 11 (.int .i64 (columns1.length : Int)), pl 12 (.int .i64 (w64 (Int.tdiv (begun1.length : Int) (columns1.length : Int)))), pl 13 (.int .i64 x1), pl 14 (.slice A9 line3.length c9), pl 15 (.int .i64 i1)] a ∧ Sep w0 B w (own 3 (.slice A3 begun1.length c3) (vI begun1) :: blk g1 22 #[.slice A4 last1.length c4] :: own 3 (.slice A4 last1.length c4) (vI last1) :: own 3 (.slice A9 line3.length c9) (vI line3) :: fs) ∧ ((gameroomref_PictureOf_2_J6 i1) line3).bind φ2 = some r) ?_ ?_
            · rintro a w ⟨line3, A9, c9, hF, hS, hm⟩
              unfold gameroomref_PictureOf_2_J6 at hm
              refine reg1 [] [] [0, 1, 2, 3, 4, 11, 12, 13, 14, 15] [pl 0 (.slice A1 rows1.length c1), pl 1 (.slice A2 columns1.length c2), pl 2 (.slice A3 begun1.length c3), pl 3 (.int .i64 most1), pl 4 (.pointer (some ⟨g1, 0, none⟩)), pl 11 (.int .i64 (columns1.length : Int)), pl 12 (.int .i64 (w64 (Int.tdiv (begun1.length : Int) (columns1.length : Int)))), pl 13 (.int .i64 x1), pl 14 (.slice A9 line3.length c9), pl 15 (.int .i64 (w64 (i1 + 1)))] hF hS Fol (by kernel_rfl) (by kernel_rfl) (by kernel_rfl) ?_ (fun a w hF hS => ?_)
              · exact obs_nil
              refine then_n ?_
              rw [← hφ2] at hm
              exact ⟨(line3, (w64 (i1 + 1))), ⟨A9, c9, hF.weak [0, 1, 2, 3, 4, 11, 12, 13, 14, 15] (by kernel_rfl), hS⟩, hm⟩
            · refine wpIn_block ?_
              refine reg [] [] [0, 1, 2, 3, 4, 11, 12, 13, 14, 15, 41] [pl 0 (.slice A1 rows1.length c1), pl 1 (.slice A2 columns1.length c2), pl 2 (.slice A3 begun1.length c3), pl 3 (.int .i64 most1), pl 4 (.pointer (some ⟨g1, 0, none⟩)), pl 11 (.int .i64 (columns1.length : Int)), pl 12 (.int .i64 (w64 (Int.tdiv (begun1.length : Int) (columns1.length : Int)))), pl 13 (.int .i64 x1), pl 14 (.slice A6 line1.length c6), pl 15 (.int .i64 i1), pl 41 (.bool (decide (i1 < (w64 (Int.tdiv (begun1.length : Int) (columns1.length : Int))))))] hF hS Fol (by kernel_rfl) (by kernel_rfl) (by kernel_rfl) ?_ (fun a w hF hS => ?_)
              · exact obs_nil
              refine cond_ev (t := 41) (b := decide (i1 < (w64 (Int.tdiv (begun1.length : Int) (columns1.length : Int))))) hF (by kernel_rfl) (fun hb => ?_) (fun hb => ?_)
              · replace hm := if_t hm hb
                refine oneR ?_
                obtain ⟨hp2, hm⟩ := asrt_b hm
                obtain ⟨hp3, hm⟩ := asrt_b hm
                refine at_run 9 [⟨true, [], vS (Instr.indexAt 22 (.slice A3 begun1.length c3) (.int .i64 (w64 ((w64 (i1 * (columns1.length : Int))) + x1)))), .pointer (some (sAddr A3 (w64 ((w64 (i1 * (columns1.length : Int))) + x1))))⟩, ⟨false, [], vS (Instr.loadAt 3 (.pointer (some (sAddr A3 (w64 ((w64 (i1 * (columns1.length : Int))) + x1)))))), .int .i64 (geti begun1 (w64 ((w64 (i1 * (columns1.length : Int))) + x1)))⟩] [none, none, none, none, none, none, none, some (.pointer (some (sAddr A3 (w64 ((w64 (i1 * (columns1.length : Int))) + x1))))), some (.int .i64 (geti begun1 (w64 ((w64 (i1 * (columns1.length : Int))) + x1))))] [0, 1, 2, 3, 4, 11, 12, 13, 15, 42, 50] [pl 0 (.slice A1 rows1.length c1), pl 1 (.slice A2 columns1.length c2), pl 2 (.slice A3 begun1.length c3), pl 3 (.int .i64 most1), pl 4 (.pointer (some ⟨g1, 0, none⟩)), pl 11 (.int .i64 (columns1.length : Int)), pl 12 (.int .i64 (w64 (Int.tdiv (begun1.length : Int) (columns1.length : Int)))), pl 13 (.int .i64 x1), pl 15 (.int .i64 i1), pl 42 (.slice A6 line1.length c6), pl 50 (.int .i64 (geti begun1 (w64 ((w64 (i1 * (columns1.length : Int))) + x1))))] hF hS (by kernel_rfl) (by kernel_rfl) ?_ (fun a w hF hS => ?_)
                · exact obs_cons (ob_ix1 (f := (Value.int .i64)) (m := begun1) Und22 hi3 hs3 (hS.at_ 0 rfl).rd rfl (fun _ => hp2)) <| obs_cons (ob_get1 (n := begun1.length) (m := begun1) (Value.int .i64) (0 : Int) Agg3 (fun _ hS => ⟨_, (hS.at_ 0 rfl).rd⟩) (fun _ hS => rfl) (fun _ => hp2)) <| obs_nil
                refine at_do (d := 51) (s := vS (Instr.buildSlice 22 1 #[(0, .int .i64 (geti begun1 (w64 ((w64 (i1 * (columns1.length : Int))) + x1))))])) (v := .slice (some ⟨w.heap.size, 0, none⟩) 1 1) (w' := w.alloc (.cells #[.int .i64 (geti begun1 (w64 ((w64 (i1 * (columns1.length : Int))) + x1)))] 3)) hF (by kernel_rfl) (by kernel_rfl) (by kernel_rfl) (fun a hF => ?_)
                have hS : Sep w0 B (w.alloc (.cells #[.int .i64 (geti begun1 (w64 ((w64 (i1 * (columns1.length : Int))) + x1)))] 3)) (own 3 (.slice (some (⟨w.heap.size, 0, none⟩ : Addr)) 1 1) (vI ([geti begun1 (w64 ((w64 (i1 * (columns1.length : Int))) + x1))] : List Int)) :: (own 3 (.slice A3 begun1.length c3) (vI begun1) :: blk g1 22 #[.slice A4 last1.length c4] :: own 3 (.slice A4 last1.length c4) (vI last1) :: own 3 (.slice A6 line1.length c6) (vI line1) :: fs)) := hS.lit 3 #[.int .i64 (geti begun1 (w64 ((w64 (i1 * (columns1.length : Int))) + x1)))] 1 rfl (by omega)
                generalize (some (⟨w.heap.size, 0, none⟩ : Addr)) = g2 at hF hS
                generalize w.alloc (.cells #[.int .i64 (geti begun1 (w64 ((w64 (i1 * (columns1.length : Int))) + x1)))] 3) = w at hS ⊢
                obtain ⟨A8, c8, w, hrun, hS⟩ := run_app1 (P := Try.prog) (t := 22) (m := line1) (ys := ([geti begun1 (w64 ((w64 (i1 * (columns1.length : Int))) + x1))] : List Int)) (A2 := g2) (m2 := 1) (c2 := 1) (Value.int .i64) (0 : Int) (hS.at_ 4 rfl) (hS.at_ 0 rfl).rd ((hS.at_ 0 rfl).len1) 22 Und22 hi3 hz3 hs3 (by omega) rfl (fun _ => rfl) hp3
                have hS : Sep w0 B w (own 3 (.slice g2 1 1) (vI ([geti begun1 (w64 ((w64 (i1 * (columns1.length : Int))) + x1))] : List Int)) :: own 3 (.slice A3 begun1.length c3) (vI begun1) :: blk g1 22 #[.slice A4 last1.length c4] :: own 3 (.slice A4 last1.length c4) (vI last1) :: own 3 (.slice A8 ((line1 ++ ([geti begun1 (w64 ((w64 (i1 * (columns1.length : Int))) + x1))] : List Int)).length) c8) (vI (line1 ++ ([geti begun1 (w64 ((w64 (i1 * (columns1.length : Int))) + x1))] : List Int))) :: fs) := hS
                refine at_do (d := 52) hF (by kernel_rfl) (by kernel_rfl) hrun (fun a hF => ?_)
                refine at_run 1 [] [] [0, 1, 2, 3, 4, 11, 12, 13, 14, 15] [pl 0 (.slice A1 rows1.length c1), pl 1 (.slice A2 columns1.length c2), pl 2 (.slice A3 begun1.length c3), pl 3 (.int .i64 most1), pl 4 (.pointer (some ⟨g1, 0, none⟩)), pl 11 (.int .i64 (columns1.length : Int)), pl 12 (.int .i64 (w64 (Int.tdiv (begun1.length : Int) (columns1.length : Int)))), pl 13 (.int .i64 x1), pl 14 (.slice A8 ((line1 ++ ([geti begun1 (w64 ((w64 (i1 * (columns1.length : Int))) + x1))] : List Int)).length) c8), pl 15 (.int .i64 i1)] hF hS (by kernel_rfl) (by kernel_rfl) ?_ (fun a w hF hS => ?_)
                · exact obs_nil
                refine at_end [0, 1, 2, 3, 4, 11, 12, 13, 14, 15] [pl 0 (.slice A1 rows1.length c1), pl 1 (.slice A2 columns1.length c2), pl 2 (.slice A3 begun1.length c3), pl 3 (.int .i64 most1), pl 4 (.pointer (some ⟨g1, 0, none⟩)), pl 11 (.int .i64 (columns1.length : Int)), pl 12 (.int .i64 (w64 (Int.tdiv (begun1.length : Int) (columns1.length : Int)))), pl 13 (.int .i64 x1), pl 14 (.slice A8 ((line1 ++ ([geti begun1 (w64 ((w64 (i1 * (columns1.length : Int))) + x1))] : List Int)).length) c8), pl 15 (.int .i64 i1)] hF rfl (by kernel_rfl) (fun hF => ?_)
                refine block_n ?_
                refine then_n ?_
                have hS := hS.pickN 5 [1, 2, 3, 4] (by decide)
                exact ⟨(line1 ++ ([geti begun1 (w64 ((w64 (i1 * (columns1.length : Int))) + x1))] : List Int)), A8, c8, hF.weak [0, 1, 2, 3, 4, 11, 12, 13, 14, 15] (by kernel_rfl), hS, hm⟩
              · replace hm := if_f hm hb
                refine oneR ?_
                obtain ⟨hp4, hm⟩ := asrt_b hm
                refine at_run 1 [] [] [0, 1, 2, 3, 4, 11, 12, 13, 15, 53] [pl 0 (.slice A1 rows1.length c1), pl 1 (.slice A2 columns1.length c2), pl 2 (.slice A3 begun1.length c3), pl 3 (.int .i64 most1), pl 4 (.pointer (some ⟨g1, 0, none⟩)), pl 11 (.int .i64 (columns1.length : Int)), pl 12 (.int .i64 (w64 (Int.tdiv (begun1.length : Int) (columns1.length : Int)))), pl 13 (.int .i64 x1), pl 15 (.int .i64 i1), pl 53 (.slice A6 line1.length c6)] hF hS (by kernel_rfl) (by kernel_rfl) ?_ (fun a w hF hS => ?_)
                · exact obs_nil
                refine at_do (d := 54) (s := vS (Instr.buildSlice 22 1 #[(0, .int .i64 (-1))])) (v := .slice (some ⟨w.heap.size, 0, none⟩) 1 1) (w' := w.alloc (.cells #[.int .i64 (-1)] 3)) hF (by kernel_rfl) (by kernel_rfl) (by kernel_rfl) (fun a hF => ?_)
                have hS : Sep w0 B (w.alloc (.cells #[.int .i64 (-1)] 3)) (own 3 (.slice (some (⟨w.heap.size, 0, none⟩ : Addr)) 1 1) (vI ([(-1)] : List Int)) :: (own 3 (.slice A3 begun1.length c3) (vI begun1) :: blk g1 22 #[.slice A4 last1.length c4] :: own 3 (.slice A4 last1.length c4) (vI last1) :: own 3 (.slice A6 line1.length c6) (vI line1) :: fs)) := hS.lit 3 #[.int .i64 (-1)] 1 rfl (by omega)
                generalize (some (⟨w.heap.size, 0, none⟩ : Addr)) = g3 at hF hS
                generalize w.alloc (.cells #[.int .i64 (-1)] 3) = w at hS ⊢
                obtain ⟨A10, c10, w, hrun, hS⟩ := run_app1 (P := Try.prog) (t := 22) (m := line1) (ys := ([(-1)] : List Int)) (A2 := g3) (m2 := 1) (c2 := 1) (Value.int .i64) (0 : Int) (hS.at_ 4 rfl) (hS.at_ 0 rfl).rd ((hS.at_ 0 rfl).len1) 22 Und22 hi3 hz3 hs3 (by omega) rfl (fun _ => rfl) hp4
                have hS : Sep w0 B w (own 3 (.slice g3 1 1) (vI ([(-1)] : List Int)) :: own 3 (.slice A3 begun1.length c3) (vI begun1) :: blk g1 22 #[.slice A4 last1.length c4] :: own 3 (.slice A4 last1.length c4) (vI last1) :: own 3 (.slice A10 ((line1 ++ ([(-1)] : List Int)).length) c10) (vI (line1 ++ ([(-1)] : List Int))) :: fs) := hS
                refine at_do (d := 55) hF (by kernel_rfl) (by kernel_rfl) hrun (fun a hF => ?_)
                refine at_run 1 [] [] [0, 1, 2, 3, 4, 11, 12, 13, 14, 15] [pl 0 (.slice A1 rows1.length c1), pl 1 (.slice A2 columns1.length c2), pl 2 (.slice A3 begun1.length c3), pl 3 (.int .i64 most1), pl 4 (.pointer (some ⟨g1, 0, none⟩)), pl 11 (.int .i64 (columns1.length : Int)), pl 12 (.int .i64 (w64 (Int.tdiv (begun1.length : Int) (columns1.length : Int)))), pl 13 (.int .i64 x1), pl 14 (.slice A10 ((line1 ++ ([(-1)] : List Int)).length) c10), pl 15 (.int .i64 i1)] hF hS (by kernel_rfl) (by kernel_rfl) ?_ (fun a w hF hS => ?_)
                · exact obs_nil
                refine at_end [0, 1, 2, 3, 4, 11, 12, 13, 14, 15] [pl 0 (.slice A1 rows1.length c1), pl 1 (.slice A2 columns1.length c2), pl 2 (.slice A3 begun1.length c3), pl 3 (.int .i64 most1), pl 4 (.pointer (some ⟨g1, 0, none⟩)), pl 11 (.int .i64 (columns1.length : Int)), pl 12 (.int .i64 (w64 (Int.tdiv (begun1.length : Int) (columns1.length : Int)))), pl 13 (.int .i64 x1), pl 14 (.slice A10 ((line1 ++ ([(-1)] : List Int)).length) c10), pl 15 (.int .i64 i1)] hF rfl (by kernel_rfl) (fun hF => ?_)
                refine block_n ?_
                refine then_n ?_
                have hS := hS.pickN 5 [1, 2, 3, 4] (by decide)
                exact ⟨(line1 ++ ([(-1)] : List Int)), A10, c10, hF.weak [0, 1, 2, 3, 4, 11, 12, 13, 14, 15] (by kernel_rfl), hS, hm⟩
          · refine reg [] [] [0, 1, 2, 3, 4, 11, 12, 13, 14, 15, 36] [pl 0 (.slice A1 rows1.length c1), pl 1 (.slice A2 columns1.length c2), pl 2 (.slice A3 begun1.length c3), pl 3 (.int .i64 most1), pl 4 (.pointer (some ⟨g1, 0, none⟩)), pl 11 (.int .i64 (columns1.length : Int)), pl 12 (.int .i64 (w64 (Int.tdiv (begun1.length : Int) (columns1.length : Int)))), pl 13 (.int .i64 x1), pl 14 (.slice A6 line1.length c6), pl 15 (.int .i64 i1), pl 36 (.bool (decide (i1 < (rows1.length : Int))))] hF hS Fol (by kernel_rfl) (by kernel_rfl) (by kernel_rfl) ?_ (fun a w hF hS => ?_)
            · exact obs_nil
            refine cond_ev (t := 36) (b := decide (i1 < (rows1.length : Int))) hF (by kernel_rfl) (fun hb => ?_) (fun hb => ?_)
            · replace hm := if_t hm hb
              refine wpIn_skip ?_
              refine then_n ?_
              exact ⟨hF.weak [0, 1, 2, 3, 4, 11, 12, 13, 14, 15] (by kernel_rfl), hS, hm⟩
            · replace hm := if_f hm hb
              refine wpIn_exit ?_
              refine then_e (then_e (block_e (then_n ?_)))
              rw [← hφ2] at hm
              replace hm := done_b hm
              unfold gameroomref_PictureOf_2_K2 at hm
              try dsimp only at hm
              have hm : ((gameroomref_PictureOf_2_J4 columns1 last1 x1) line1).bind φ1 = some r := hm
              exact ⟨line1, A6, c6, hF.weak [0, 1, 2, 3, 4, 11, 12, 13, 14] (by kernel_rfl), hS, hm⟩
    · refine reg [] [] [0, 1, 2, 3, 4, 11, 12, 13, 30] [pl 0 (.slice A1 rows1.length c1), pl 1 (.slice A2 columns1.length c2), pl 2 (.slice A3 begun1.length c3), pl 3 (.int .i64 most1), pl 4 (.pointer (some ⟨g1, 0, none⟩)), pl 11 (.int .i64 (columns1.length : Int)), pl 12 (.int .i64 (w64 (Int.tdiv (begun1.length : Int) (columns1.length : Int)))), pl 13 (.int .i64 x1), pl 30 (.bool (decide (x1 < (columns1.length : Int))))] hF hS Fol (by kernel_rfl) (by kernel_rfl) (by kernel_rfl) ?_ (fun a w hF hS => ?_)
      · exact obs_nil
      refine cond_ev (t := 30) (b := decide (x1 < (columns1.length : Int))) hF (by kernel_rfl) (fun hb => ?_) (fun hb => ?_)
      · replace hm := if_t hm hb
        refine wpIn_skip ?_
        refine then_n ?_
        exact ⟨hF.weak [0, 1, 2, 3, 4, 11, 12, 13] (by kernel_rfl), hS, hm⟩
      · replace hm := if_f hm hb
        refine wpIn_exit ?_
        refine then_e (then_e (block_e (then_n ?_)))
        rw [← hφ1] at hm
        replace hm := done_b hm
        unfold gameroomref_PictureOf_2_K1 at hm
        try dsimp only at hm
        have hm : ((gameroomref_PictureOf_2_J1 rec_gameroomref_PictureOf_2 rows1 columns1 begun1 most1 last1)).bind some = some r := hm
        exact ⟨hF.weak [0, 1, 2, 3, 4, 11, 12] (by kernel_rfl), hS, hm⟩

theorem gameroomref_PictureOf_2_w  {A1 : Option Addr} {c1 : Nat} {n1 : Nat} {hd1 : List Hd} {rows1 : List (List Int)} {A2 : Option Addr} {c2 : Nat} {n2 : Nat} {hd2 : List Hd} {columns1 : List (List Int)} {A3 : Option Addr} {c3 : Nat} {n3 : Nat} {begun1 : List Int} {most1 : Int} {g1 : Nat} {A4 : Option Addr} {c4 : Nat} {n4 : Nat} {last1 : List Int} {r : (Int × List Int)} {w0 w : World} {B : Nat} {fs : List HP} (hm : gameroomref_PictureOf_2_m rows1 columns1 begun1 most1 last1 = some r) (hS : Sep w0 B w (own 3 (.slice A3 n3 c3) (vI begun1) :: blk g1 22 #[.slice A4 n4 c4] :: own 3 (.slice A4 n4 c4) (vI last1) :: fs)) (hr_rows1 : RdRowsF w0 B fs A1 hd1 rows1) (_hc_rows1 : rows1.length ≤ c1) (_hn_rows1 : n1 = rows1.length) (hr_columns1 : RdRowsF w0 B fs A2 hd2 columns1) (_hc_columns1 : columns1.length ≤ c2) (_hn_columns1 : n2 = columns1.length) :
    Calls Try.prog 21 #[.slice A1 n1 c1, .slice A2 n2 c2, .slice A3 n3 c3, .int .i64 most1, .pointer (some ⟨g1, 0, none⟩)] w fun e w' => ∃ v, e = .returned v ∧ ∃ (A5 : Option Addr) (c5 : Nat), v = .int .i64 r.1 ∧ Sep w0 B w' (blk g1 22 #[.slice A5 r.2.length c5] :: own 3 (.slice A5 r.2.length c5) (vI r.2) :: fs) := by
  have key : ∀ (n : Nat) {A1 : Option Addr} {c1 : Nat} {n1 : Nat} {hd1 : List Hd} {rows1 : List (List Int)} {A2 : Option Addr} {c2 : Nat} {n2 : Nat} {hd2 : List Hd} {columns1 : List (List Int)} {A3 : Option Addr} {c3 : Nat} {n3 : Nat} {begun1 : List Int} {most1 : Int} {g1 : Nat} {A4 : Option Addr} {c4 : Nat} {n4 : Nat} {last1 : List Int} {r : (Int × List Int)} {w0 w : World} {B : Nat} {fs : List HP} (_ : gameroomref_PictureOf_2_mF n rows1 columns1 begun1 most1 last1 = some r) (_ : Sep w0 B w (own 3 (.slice A3 n3 c3) (vI begun1) :: blk g1 22 #[.slice A4 n4 c4] :: own 3 (.slice A4 n4 c4) (vI last1) :: fs)) (hr_rows1 : RdRowsF w0 B fs A1 hd1 rows1) (_hc_rows1 : rows1.length ≤ c1) (_hn_rows1 : n1 = rows1.length) (hr_columns1 : RdRowsF w0 B fs A2 hd2 columns1) (_hc_columns1 : columns1.length ≤ c2) (_hn_columns1 : n2 = columns1.length), Calls Try.prog 21 #[.slice A1 n1 c1, .slice A2 n2 c2, .slice A3 n3 c3, .int .i64 most1, .pointer (some ⟨g1, 0, none⟩)] w fun e w' => ∃ v, e = .returned v ∧ ∃ (A5 : Option Addr) (c5 : Nat), v = .int .i64 r.1 ∧ Sep w0 B w' (blk g1 22 #[.slice A5 r.2.length c5] :: own 3 (.slice A5 r.2.length c5) (vI r.2) :: fs) := by
    intro n
    induction n with
    | zero => intros; rename_i hm0 _ _ _ _ _ _ _; cases hm0
    | succ n ih => intros; rename_i hm0 hS0 h0 h1 h2 h3 h4 h5; exact gameroomref_PictureOf_2_wB (rec_gameroomref_PictureOf_2 := gameroomref_PictureOf_2_mF n) (fun hm hS h0 h1 h2 h3 h4 h5 => ih hm hS h0 h1 h2 h3 h4 h5) hm0 hS0 h0 h1 h2 h3 h4 h5
  obtain ⟨n, hn⟩ := recM_some hm
  exact key n hn hS hr_rows1 _hc_rows1 _hn_rows1 hr_columns1 _hc_columns1 _hn_columns1

set_option maxRecDepth 100000 in
theorem gameroomref_PictureOf_2_J14_le_gameroomref_PictureOf_2 {rec_gameroomref_PictureOf_21 rec_gameroomref_PictureOf_22 : List (List Int) → List (List Int) → List Int → Int → List Int → Option (Int × List Int)} (h_rec_gameroomref_PictureOf_2 : ∀ a0 a1 a2 a3 a4, Le (rec_gameroomref_PictureOf_21 a0 a1 a2 a3 a4) (rec_gameroomref_PictureOf_22 a0 a1 a2 a3 a4)) (rows1 : List (List Int)) (columns1 : List (List Int)) (begun1 : List Int) (most1 : Int) (last3 : List Int) (many1 : Int) (k1 : Int) (row2 : List Int) (z1 : Bool) : Le (gameroomref_PictureOf_2_J14 rec_gameroomref_PictureOf_21 rows1 columns1 begun1 most1 last3 many1 k1 row2 z1) (gameroomref_PictureOf_2_J14 rec_gameroomref_PictureOf_22 rows1 columns1 begun1 most1 last3 many1 k1 row2 z1) := by
  unfold gameroomref_PictureOf_2_J14
  repeat' (first | with_reducible exact Le.refl _ | with_reducible exact h_rec_gameroomref_PictureOf_2 _ _ _ _ _ | with_reducible refine Le.asrt ?_ | with_reducible refine Le.ite ?_ ?_ | refine Le.bind ?_ (fun _ => ?_) | refine Le.loop2 (fun _ => ?_) | refine Le.elim2 (fun _ => ?_) (fun _ => ?_))

set_option maxRecDepth 100000 in
theorem gameroomref_PictureOf_2_J11_le_gameroomref_PictureOf_2 {rec_gameroomref_PictureOf_21 rec_gameroomref_PictureOf_22 : List (List Int) → List (List Int) → List Int → Int → List Int → Option (Int × List Int)} (h_rec_gameroomref_PictureOf_2 : ∀ a0 a1 a2 a3 a4, Le (rec_gameroomref_PictureOf_21 a0 a1 a2 a3 a4) (rec_gameroomref_PictureOf_22 a0 a1 a2 a3 a4)) (rows1 : List (List Int)) (columns1 : List (List Int)) (begun1 : List Int) (most1 : Int) (last3 : List Int) (many1 : Int) (k1 : Int) (row2 : List Int) : Le (gameroomref_PictureOf_2_J11 rec_gameroomref_PictureOf_21 rows1 columns1 begun1 most1 last3 many1 k1 row2) (gameroomref_PictureOf_2_J11 rec_gameroomref_PictureOf_22 rows1 columns1 begun1 most1 last3 many1 k1 row2) := by
  unfold gameroomref_PictureOf_2_J11
  repeat' (first | with_reducible exact Le.refl _ | with_reducible exact h_rec_gameroomref_PictureOf_2 _ _ _ _ _ | with_reducible exact gameroomref_PictureOf_2_J14_le_gameroomref_PictureOf_2 h_rec_gameroomref_PictureOf_2 _ _ _ _ _ _ _ _ _ | with_reducible refine Le.asrt ?_ | with_reducible refine Le.ite ?_ ?_ | refine Le.bind ?_ (fun _ => ?_) | refine Le.loop2 (fun _ => ?_) | refine Le.elim2 (fun _ => ?_) (fun _ => ?_))

set_option maxRecDepth 100000 in
theorem gameroomref_PictureOf_2_K4_le_gameroomref_PictureOf_2 {rec_gameroomref_PictureOf_21 rec_gameroomref_PictureOf_22 : List (List Int) → List (List Int) → List Int → Int → List Int → Option (Int × List Int)} (h_rec_gameroomref_PictureOf_2 : ∀ a0 a1 a2 a3 a4, Le (rec_gameroomref_PictureOf_21 a0 a1 a2 a3 a4) (rec_gameroomref_PictureOf_22 a0 a1 a2 a3 a4)) (rows1 : List (List Int)) (columns1 : List (List Int)) (begun1 : List Int) (most1 : Int) (last3 : List Int) (many1 : Int) (k1 : Int) (x : (List Int)) : Le (gameroomref_PictureOf_2_K4 rec_gameroomref_PictureOf_21 rows1 columns1 begun1 most1 last3 many1 k1 x) (gameroomref_PictureOf_2_K4 rec_gameroomref_PictureOf_22 rows1 columns1 begun1 most1 last3 many1 k1 x) := by
  rcases x with row2
  all_goals
    unfold gameroomref_PictureOf_2_K4
    try dsimp only
    repeat' (first | with_reducible exact Le.refl _ | with_reducible exact h_rec_gameroomref_PictureOf_2 _ _ _ _ _ | with_reducible exact gameroomref_PictureOf_2_J11_le_gameroomref_PictureOf_2 h_rec_gameroomref_PictureOf_2 _ _ _ _ _ _ _ _ | with_reducible refine Le.asrt ?_ | with_reducible refine Le.ite ?_ ?_ | refine Le.bind ?_ (fun _ => ?_) | refine Le.loop2 (fun _ => ?_) | refine Le.elim2 (fun _ => ?_) (fun _ => ?_))

set_option maxRecDepth 100000 in
theorem gameroomref_PictureOf_2_J9_le_gameroomref_PictureOf_2 {rec_gameroomref_PictureOf_21 rec_gameroomref_PictureOf_22 : List (List Int) → List (List Int) → List Int → Int → List Int → Option (Int × List Int)} (h_rec_gameroomref_PictureOf_2 : ∀ a0 a1 a2 a3 a4, Le (rec_gameroomref_PictureOf_21 a0 a1 a2 a3 a4) (rec_gameroomref_PictureOf_22 a0 a1 a2 a3 a4)) (rows1 : List (List Int)) (columns1 : List (List Int)) (begun1 : List Int) (most1 : Int) (last3 : List Int) (many1 : Int) (k1 : Int) : Le (gameroomref_PictureOf_2_J9 rec_gameroomref_PictureOf_21 rows1 columns1 begun1 most1 last3 many1 k1) (gameroomref_PictureOf_2_J9 rec_gameroomref_PictureOf_22 rows1 columns1 begun1 most1 last3 many1 k1) := by
  unfold gameroomref_PictureOf_2_J9
  repeat' (first | with_reducible exact Le.refl _ | with_reducible exact h_rec_gameroomref_PictureOf_2 _ _ _ _ _ | with_reducible exact gameroomref_PictureOf_2_K4_le_gameroomref_PictureOf_2 h_rec_gameroomref_PictureOf_2 _ _ _ _ _ _ _ _ | with_reducible refine Le.asrt ?_ | with_reducible refine Le.ite ?_ ?_ | refine Le.bind ?_ (fun _ => ?_) | refine Le.loop2 (fun _ => ?_) | refine Le.elim2 (fun _ => ?_) (fun _ => ?_))

set_option maxRecDepth 100000 in
theorem gameroomref_PictureOf_2_L3_le_gameroomref_PictureOf_2 {rec_gameroomref_PictureOf_21 rec_gameroomref_PictureOf_22 : List (List Int) → List (List Int) → List Int → Int → List Int → Option (Int × List Int)} (h_rec_gameroomref_PictureOf_2 : ∀ a0 a1 a2 a3 a4, Le (rec_gameroomref_PictureOf_21 a0 a1 a2 a3 a4) (rec_gameroomref_PictureOf_22 a0 a1 a2 a3 a4)) (rows1 : List (List Int)) (columns1 : List (List Int)) (begun1 : List Int) (most1 : Int) (x : (List Int × Int × Int)) : Le (gameroomref_PictureOf_2_L3 rec_gameroomref_PictureOf_21 rows1 columns1 begun1 most1 x) (gameroomref_PictureOf_2_L3 rec_gameroomref_PictureOf_22 rows1 columns1 begun1 most1 x) := by
  rcases x with ⟨last3, many1, k1⟩
  all_goals
    unfold gameroomref_PictureOf_2_L3
    try dsimp only
    repeat' (first | with_reducible exact Le.refl _ | with_reducible exact h_rec_gameroomref_PictureOf_2 _ _ _ _ _ | with_reducible exact gameroomref_PictureOf_2_J9_le_gameroomref_PictureOf_2 h_rec_gameroomref_PictureOf_2 _ _ _ _ _ _ _ | with_reducible refine Le.asrt ?_ | with_reducible refine Le.ite ?_ ?_ | refine Le.bind ?_ (fun _ => ?_) | refine Le.loop2 (fun _ => ?_) | refine Le.elim2 (fun _ => ?_) (fun _ => ?_))

set_option maxRecDepth 100000 in
theorem gameroomref_PictureOf_2_J7_le_gameroomref_PictureOf_2 {rec_gameroomref_PictureOf_21 rec_gameroomref_PictureOf_22 : List (List Int) → List (List Int) → List Int → Int → List Int → Option (Int × List Int)} (h_rec_gameroomref_PictureOf_2 : ∀ a0 a1 a2 a3 a4, Le (rec_gameroomref_PictureOf_21 a0 a1 a2 a3 a4) (rec_gameroomref_PictureOf_22 a0 a1 a2 a3 a4)) (rows1 : List (List Int)) (columns1 : List (List Int)) (begun1 : List Int) (most1 : Int) (last1 : List Int) : Le (gameroomref_PictureOf_2_J7 rec_gameroomref_PictureOf_21 rows1 columns1 begun1 most1 last1) (gameroomref_PictureOf_2_J7 rec_gameroomref_PictureOf_22 rows1 columns1 begun1 most1 last1) := by
  unfold gameroomref_PictureOf_2_J7
  repeat' (first | with_reducible exact Le.refl _ | with_reducible exact h_rec_gameroomref_PictureOf_2 _ _ _ _ _ | with_reducible exact gameroomref_PictureOf_2_L3_le_gameroomref_PictureOf_2 h_rec_gameroomref_PictureOf_2 _ _ _ _ _ | with_reducible refine Le.asrt ?_ | with_reducible refine Le.ite ?_ ?_ | refine Le.bind ?_ (fun _ => ?_) | refine Le.loop2 (fun _ => ?_) | refine Le.elim2 (fun _ => ?_) (fun _ => ?_))

set_option maxRecDepth 100000 in
theorem gameroomref_PictureOf_2_J1_le_gameroomref_PictureOf_2 {rec_gameroomref_PictureOf_21 rec_gameroomref_PictureOf_22 : List (List Int) → List (List Int) → List Int → Int → List Int → Option (Int × List Int)} (h_rec_gameroomref_PictureOf_2 : ∀ a0 a1 a2 a3 a4, Le (rec_gameroomref_PictureOf_21 a0 a1 a2 a3 a4) (rec_gameroomref_PictureOf_22 a0 a1 a2 a3 a4)) (rows1 : List (List Int)) (columns1 : List (List Int)) (begun1 : List Int) (most1 : Int) (last1 : List Int) : Le (gameroomref_PictureOf_2_J1 rec_gameroomref_PictureOf_21 rows1 columns1 begun1 most1 last1) (gameroomref_PictureOf_2_J1 rec_gameroomref_PictureOf_22 rows1 columns1 begun1 most1 last1) := by
  unfold gameroomref_PictureOf_2_J1
  repeat' (first | with_reducible exact Le.refl _ | with_reducible exact h_rec_gameroomref_PictureOf_2 _ _ _ _ _ | with_reducible exact gameroomref_PictureOf_2_J7_le_gameroomref_PictureOf_2 h_rec_gameroomref_PictureOf_2 _ _ _ _ _ | with_reducible refine Le.asrt ?_ | with_reducible refine Le.ite ?_ ?_ | refine Le.bind ?_ (fun _ => ?_) | refine Le.loop2 (fun _ => ?_) | refine Le.elim2 (fun _ => ?_) (fun _ => ?_))

set_option maxRecDepth 100000 in
theorem gameroomref_PictureOf_2_K1_le_gameroomref_PictureOf_2 {rec_gameroomref_PictureOf_21 rec_gameroomref_PictureOf_22 : List (List Int) → List (List Int) → List Int → Int → List Int → Option (Int × List Int)} (h_rec_gameroomref_PictureOf_2 : ∀ a0 a1 a2 a3 a4, Le (rec_gameroomref_PictureOf_21 a0 a1 a2 a3 a4) (rec_gameroomref_PictureOf_22 a0 a1 a2 a3 a4)) (rows1 : List (List Int)) (columns1 : List (List Int)) (begun1 : List Int) (most1 : Int) (last1 : List Int) (x : (Fl Unit (Int × List Int))) : Le (gameroomref_PictureOf_2_K1 rec_gameroomref_PictureOf_21 rows1 columns1 begun1 most1 last1 x) (gameroomref_PictureOf_2_K1 rec_gameroomref_PictureOf_22 rows1 columns1 begun1 most1 last1 x) := by
  rcases x with _ | x
  all_goals
    unfold gameroomref_PictureOf_2_K1
    try dsimp only
    repeat' (first | with_reducible exact Le.refl _ | with_reducible exact h_rec_gameroomref_PictureOf_2 _ _ _ _ _ | with_reducible exact gameroomref_PictureOf_2_J1_le_gameroomref_PictureOf_2 h_rec_gameroomref_PictureOf_2 _ _ _ _ _ | with_reducible refine Le.asrt ?_ | with_reducible refine Le.ite ?_ ?_ | refine Le.bind ?_ (fun _ => ?_) | refine Le.loop2 (fun _ => ?_) | refine Le.elim2 (fun _ => ?_) (fun _ => ?_))

set_option maxRecDepth 100000 in
theorem gameroomref_PictureOf_2_B_le {rec_gameroomref_PictureOf_21 rec_gameroomref_PictureOf_22 : List (List Int) → List (List Int) → List Int → Int → List Int → Option (Int × List Int)} (h_rec_gameroomref_PictureOf_2 : ∀ a0 a1 a2 a3 a4, Le (rec_gameroomref_PictureOf_21 a0 a1 a2 a3 a4) (rec_gameroomref_PictureOf_22 a0 a1 a2 a3 a4)) (rows1 : List (List Int)) (columns1 : List (List Int)) (begun1 : List Int) (most1 : Int) (last1 : List Int) : Le (gameroomref_PictureOf_2_B rec_gameroomref_PictureOf_21 rows1 columns1 begun1 most1 last1) (gameroomref_PictureOf_2_B rec_gameroomref_PictureOf_22 rows1 columns1 begun1 most1 last1) := by
  unfold gameroomref_PictureOf_2_B
  repeat' (first | with_reducible exact Le.refl _ | with_reducible exact h_rec_gameroomref_PictureOf_2 _ _ _ _ _ | with_reducible exact gameroomref_PictureOf_2_K1_le_gameroomref_PictureOf_2 h_rec_gameroomref_PictureOf_2 _ _ _ _ _ _ | with_reducible refine Le.asrt ?_ | with_reducible refine Le.ite ?_ ?_ | refine Le.bind ?_ (fun _ => ?_) | refine Le.loop2 (fun _ => ?_) | refine Le.elim2 (fun _ => ?_) (fun _ => ?_))

set_option maxRecDepth 100000 in
theorem gameroomref_PictureOf_2_mF_le : ∀ (n : Nat) (rows1 : List (List Int)) (columns1 : List (List Int)) (begun1 : List Int) (most1 : Int) (last1 : List Int), Le (gameroomref_PictureOf_2_mF n rows1 columns1 begun1 most1 last1) (gameroomref_PictureOf_2_mF (n + 1) rows1 columns1 begun1 most1 last1)
  | 0, _, _, _, _, _ => fun _ h => by cases h
  | n + 1, _, _, _, _, _ => gameroomref_PictureOf_2_B_le (fun a0 a1 a2 a3 a4 => gameroomref_PictureOf_2_mF_le n a0 a1 a2 a3 a4) _ _ _ _ _

set_option maxRecDepth 100000 in
theorem gameroomref_PictureOf_2_m_of (N : Nat) (rows1 : List (List Int)) (columns1 : List (List Int)) (begun1 : List Int) (most1 : Int) (last1 : List Int) {r : (Int × List Int)} (h : gameroomref_PictureOf_2_mF N rows1 columns1 begun1 most1 last1 = some r) : gameroomref_PictureOf_2_m rows1 columns1 begun1 most1 last1 = some r :=
  recM_mono (fun n => gameroomref_PictureOf_2_mF_le n _ _ _ _ _) h

noncomputable def gameroomlaw_NonoPictures_J4  (r3 : (Int × List Int × Int)) (r10 : (Int × List Int)) (last1 : List Int) : Option Bool :=
  ((if ((r3.2.2 == 0) && (r3.1 == r10.1)) then gameroomlaw_sameInts_m r3.2.1 last1 else some false)).bind fun r11 => some (((r3.2.2 == 0) && (r3.1 == r10.1)) && r11)

noncomputable def gameroomlaw_NonoPictures_J3  (a1 : List (List Int)) (b1 : List (List Int)) (most1 : Int) (r3 : (Int × List Int × Int)) : Option Bool :=
  (gameroomref_PictureOf_2_m a1 b1 ([] : List Int) most1 ([] : List Int)).bind fun r10 => if ((r10.1 != 1) || (most1 == 1)) then ((gameroomlaw_NonoPictures_J4 r3 r10) ([] : List Int)) else ((gameroomlaw_NonoPictures_J4 r3 r10) r10.2)

noncomputable def gameroomlaw_NonoPictures_J2  (a1 : List (List Int)) (b1 : List (List Int)) (most1 : Int) (r3 : (Int × List Int × Int)) : Option Bool :=
  if ((decide (most1 < 1)) || (decide ((1000 : Int) < most1))) then (some (((r3.2.2 == 3) && (r3.1 == 0)) && ((r3.2.1.length : Int) == 0))) else ((gameroomlaw_NonoPictures_J3 a1 b1 most1 r3))

noncomputable def gameroomlaw_NonoPictures_J1  (a1 : List (List Int)) (b1 : List (List Int)) (most1 : Int) (r3 : (Int × List Int × Int)) (r6 : (List Int × Int)) : Option Bool :=
  (gameroomref_PushOf_m a1 b1).bind fun r8 => ((if (!(r6.2 != 0)) && r8.2 then gameroomlaw_sameInts_m r6.1 r8.1 else some false)).bind fun r9 => if ((r8.2 && ((r6.2 != 0) || (!r9))) || ((!r8.2) && ((r6.2 != 10) || (decide ((0 : Int) < (r6.1.length : Int)))))) then (some false) else ((gameroomlaw_NonoPictures_J2 a1 b1 most1 r3))

noncomputable def gameroomlaw_NonoPictures_m  (a1 : List (List Int)) (b1 : List (List Int)) (most1 : Int) : Option Bool :=
  (gameroomlaw_copied_m a1).bind fun r1 => (gameroomlaw_copied_m b1).bind fun r2 => (nono_Solve_m r1 r2 most1).bind fun r3 => (gameroomlaw_copied_m a1).bind fun r4 => (gameroomlaw_copied_m b1).bind fun r5 => (nono_Push_m r4 r5).bind fun r6 => (gameroomref_PictureMay_m a1 b1).bind fun r7 => if (r7 != 0) then (some (((((r3.2.2 == r7) && (r6.2 == r7)) && (r3.1 == 0)) && ((r3.2.1.length : Int) == 0)) && ((r6.1.length : Int) == 0))) else ((gameroomlaw_NonoPictures_J1 a1 b1 most1 r3 r6))

set_option maxRecDepth 100000 in
set_option maxHeartbeats 4000000 in
theorem gameroomlaw_NonoPictures_w  {A1 : Option Addr} {c1 : Nat} {n1 : Nat} {hd1 : List Hd} {a1 : List (List Int)} {A2 : Option Addr} {c2 : Nat} {n2 : Nat} {hd2 : List Hd} {b1 : List (List Int)} {most1 : Int} {r : Bool} {w0 w : World} {B : Nat} {fs : List HP} (hm : gameroomlaw_NonoPictures_m a1 b1 most1 = some r) (hS : Sep w0 B w (fs)) (hr_a1 : RdRowsF w0 B fs A1 hd1 a1) (_hc_a1 : a1.length ≤ c1) (_hn_a1 : n1 = a1.length) (hr_b1 : RdRowsF w0 B fs A2 hd2 b1) (_hc_b1 : b1.length ≤ c2) (_hn_b1 : n2 = b1.length) :
    Calls Try.prog 4 #[.slice A1 n1 c1, .slice A2 n2 c2, .int .i64 most1] w fun e w' => e = .returned (.bool r) ∧ Sep w0 B w' (fs) := by
  obtain ⟨i3, hi3, hz3, hs3, hb3⟩ := info_parts Info3
  obtain ⟨i22, hi22, hz22, hs22, hb22⟩ := info_parts Info22
  obtain rfl := _hn_a1
  obtain rfl := _hn_b1
  unfold gameroomlaw_NonoPictures_m at hm
  replace hm := start_b hm
  refine enter (l := [.slice A1 a1.length c1, .slice A2 b1.length c2, .int .i64 most1]) (n := 131) Try.func4 rfl rfl (by simp) (fun a hF => ?_)
  refine reg [] [] [0, 1, 2] [pl 0 (.slice A1 a1.length c1), pl 1 (.slice A2 b1.length c2), pl 2 (.int .i64 most1)] hF hS Fol (by kernel_rfl) (by kernel_rfl) (by kernel_rfl) ?_ (fun a w hF hS => ?_)
  · exact obs_nil
  refine seqR ?_
  obtain ⟨r1, hr1, hm⟩ := call_b hm
  obtain ⟨r2, hr2, hm⟩ := call_b hm
  obtain ⟨r3, hr3, hm⟩ := call_b hm
  refine at_run 1 [] [] [0, 1, 2, 18] [pl 0 (.slice A1 a1.length c1), pl 1 (.slice A2 b1.length c2), pl 2 (.int .i64 most1), pl 18 (.slice A1 a1.length c1)] hF hS (by kernel_rfl) (by kernel_rfl) ?_ (fun a w hF hS => ?_)
  · exact obs_nil
  refine at_call (f := 17) (args := #[.slice A1 a1.length c1]) (d := 19) hF (by kernel_rfl) (by kernel_rfl) Try.func17 (by kernel_rfl) rfl (gameroomlaw_copied_w hr1 hS (fun _ hS => (hr_a1 _ (hS.dropN 0))) _hc_a1 rfl) (fun v a w hR hF => ?_)
  clear hS
  obtain ⟨A3, c3, hd3, rfl, hS⟩ := hR
  have hS : Sep w0 B w (rows 22 3 (.slice A3 r1.length c3) hd3 r1 :: fs) := hS
  refine at_run 1 [] [] [0, 1, 2, 19, 20] [pl 0 (.slice A1 a1.length c1), pl 1 (.slice A2 b1.length c2), pl 2 (.int .i64 most1), pl 19 (.slice A3 r1.length c3), pl 20 (.slice A2 b1.length c2)] hF hS (by kernel_rfl) (by kernel_rfl) ?_ (fun a w hF hS => ?_)
  · exact obs_nil
  refine at_call (f := 17) (args := #[.slice A2 b1.length c2]) (d := 21) hF (by kernel_rfl) (by kernel_rfl) Try.func17 (by kernel_rfl) rfl (gameroomlaw_copied_w hr2 hS (fun _ hS => (hr_b1 _ (hS.dropN 1))) _hc_b1 rfl) (fun v a w hR hF => ?_)
  clear hS
  obtain ⟨A4, c4, hd4, rfl, hS⟩ := hR
  have hS : Sep w0 B w (rows 22 3 (.slice A4 r2.length c4) hd4 r2 :: rows 22 3 (.slice A3 r1.length c3) hd3 r1 :: fs) := hS
  refine at_run 1 [] [] [0, 1, 2, 19, 21, 22] [pl 0 (.slice A1 a1.length c1), pl 1 (.slice A2 b1.length c2), pl 2 (.int .i64 most1), pl 19 (.slice A3 r1.length c3), pl 21 (.slice A4 r2.length c4), pl 22 (.int .i64 most1)] hF hS (by kernel_rfl) (by kernel_rfl) ?_ (fun a w hF hS => ?_)
  · exact obs_nil
  refine at_call (f := 16) (args := #[.slice A3 r1.length c3, .slice A4 r2.length c4, .int .i64 most1]) (d := 23) hF (by kernel_rfl) (by kernel_rfl) Try.func16 (by kernel_rfl) rfl (nono_Solve_w hr3 hS (fun _ hS => (hS.at_ 1 rfl).rdRows) (hS.at_ 1 rfl).rowsLen.2 (hS.at_ 1 rfl).lenR (fun _ hS => (hS.at_ 0 rfl).rdRows) (hS.at_ 0 rfl).rowsLen.2 (hS.at_ 0 rfl).lenR) (fun v a w hR hF => ?_)
  clear hS
  obtain ⟨A5, c5, rfl, hS⟩ := hR
  have hS : Sep w0 B w (own 3 (.slice A5 r3.2.1.length c5) (vI r3.2.1) :: rows 22 3 (.slice A4 r2.length c4) hd4 r2 :: rows 22 3 (.slice A3 r1.length c3) hd3 r1 :: fs) := hS
  refine at_run 7 [] [] [0, 1, 2, 7, 8, 9] [pl 0 (.slice A1 a1.length c1), pl 1 (.slice A2 b1.length c2), pl 2 (.int .i64 most1), pl 7 (.int .i64 r3.1), pl 8 (.slice A5 r3.2.1.length c5), pl 9 (.int .i64 r3.2.2)] hF hS (by kernel_rfl) (by kernel_rfl) ?_ (fun a w hF hS => ?_)
  · exact obs_nil
  refine at_end [0, 1, 2, 7, 8, 9] [pl 0 (.slice A1 a1.length c1), pl 1 (.slice A2 b1.length c2), pl 2 (.int .i64 most1), pl 7 (.int .i64 r3.1), pl 8 (.slice A5 r3.2.1.length c5), pl 9 (.int .i64 r3.2.2)] hF rfl (by kernel_rfl) (fun hF => ?_)
  refine then_n ?_
  refine seqR ?_
  obtain ⟨r4, hr4, hm⟩ := call_b hm
  obtain ⟨r5, hr5, hm⟩ := call_b hm
  obtain ⟨r6, hr6, hm⟩ := call_b hm
  refine at_run 1 [] [] [0, 1, 2, 7, 8, 9, 28] [pl 0 (.slice A1 a1.length c1), pl 1 (.slice A2 b1.length c2), pl 2 (.int .i64 most1), pl 7 (.int .i64 r3.1), pl 8 (.slice A5 r3.2.1.length c5), pl 9 (.int .i64 r3.2.2), pl 28 (.slice A1 a1.length c1)] hF hS (by kernel_rfl) (by kernel_rfl) ?_ (fun a w hF hS => ?_)
  · exact obs_nil
  refine at_call (f := 17) (args := #[.slice A1 a1.length c1]) (d := 29) hF (by kernel_rfl) (by kernel_rfl) Try.func17 (by kernel_rfl) rfl (gameroomlaw_copied_w hr4 hS (fun _ hS => (hr_a1 _ (hS.dropN 3))) _hc_a1 rfl) (fun v a w hR hF => ?_)
  clear hS
  obtain ⟨A6, c6, hd5, rfl, hS⟩ := hR
  have hS : Sep w0 B w (rows 22 3 (.slice A6 r4.length c6) hd5 r4 :: own 3 (.slice A5 r3.2.1.length c5) (vI r3.2.1) :: rows 22 3 (.slice A4 r2.length c4) hd4 r2 :: rows 22 3 (.slice A3 r1.length c3) hd3 r1 :: fs) := hS
  refine at_run 1 [] [] [0, 1, 2, 7, 8, 9, 29, 30] [pl 0 (.slice A1 a1.length c1), pl 1 (.slice A2 b1.length c2), pl 2 (.int .i64 most1), pl 7 (.int .i64 r3.1), pl 8 (.slice A5 r3.2.1.length c5), pl 9 (.int .i64 r3.2.2), pl 29 (.slice A6 r4.length c6), pl 30 (.slice A2 b1.length c2)] hF hS (by kernel_rfl) (by kernel_rfl) ?_ (fun a w hF hS => ?_)
  · exact obs_nil
  refine at_call (f := 17) (args := #[.slice A2 b1.length c2]) (d := 31) hF (by kernel_rfl) (by kernel_rfl) Try.func17 (by kernel_rfl) rfl (gameroomlaw_copied_w hr5 hS (fun _ hS => (hr_b1 _ (hS.dropN 4))) _hc_b1 rfl) (fun v a w hR hF => ?_)
  clear hS
  obtain ⟨A7, c7, hd6, rfl, hS⟩ := hR
  have hS : Sep w0 B w (rows 22 3 (.slice A7 r5.length c7) hd6 r5 :: rows 22 3 (.slice A6 r4.length c6) hd5 r4 :: own 3 (.slice A5 r3.2.1.length c5) (vI r3.2.1) :: rows 22 3 (.slice A4 r2.length c4) hd4 r2 :: rows 22 3 (.slice A3 r1.length c3) hd3 r1 :: fs) := hS
  refine at_call (f := 18) (args := #[.slice A6 r4.length c6, .slice A7 r5.length c7]) (d := 32) hF (by kernel_rfl) (by kernel_rfl) Try.func18 (by kernel_rfl) rfl (nono_Push_w hr6 hS (fun _ hS => (hS.at_ 1 rfl).rdRows) (hS.at_ 1 rfl).rowsLen.2 (hS.at_ 1 rfl).lenR (fun _ hS => (hS.at_ 0 rfl).rdRows) (hS.at_ 0 rfl).rowsLen.2 (hS.at_ 0 rfl).lenR) (fun v a w hR hF => ?_)
  clear hS
  obtain ⟨A8, c8, rfl, hS⟩ := hR
  have hS : Sep w0 B w (own 3 (.slice A8 r6.1.length c8) (vI r6.1) :: rows 22 3 (.slice A7 r5.length c7) hd6 r5 :: rows 22 3 (.slice A6 r4.length c6) hd5 r4 :: own 3 (.slice A5 r3.2.1.length c5) (vI r3.2.1) :: rows 22 3 (.slice A4 r2.length c4) hd4 r2 :: rows 22 3 (.slice A3 r1.length c3) hd3 r1 :: fs) := hS
  refine at_run 5 [] [] [0, 1, 2, 7, 8, 9, 10, 11] [pl 0 (.slice A1 a1.length c1), pl 1 (.slice A2 b1.length c2), pl 2 (.int .i64 most1), pl 7 (.int .i64 r3.1), pl 8 (.slice A5 r3.2.1.length c5), pl 9 (.int .i64 r3.2.2), pl 10 (.slice A8 r6.1.length c8), pl 11 (.int .i64 r6.2)] hF hS (by kernel_rfl) (by kernel_rfl) ?_ (fun a w hF hS => ?_)
  · exact obs_nil
  refine at_end [0, 1, 2, 7, 8, 9, 10, 11] [pl 0 (.slice A1 a1.length c1), pl 1 (.slice A2 b1.length c2), pl 2 (.int .i64 most1), pl 7 (.int .i64 r3.1), pl 8 (.slice A5 r3.2.1.length c5), pl 9 (.int .i64 r3.2.2), pl 10 (.slice A8 r6.1.length c8), pl 11 (.int .i64 r6.2)] hF rfl (by kernel_rfl) (fun hF => ?_)
  refine then_n ?_
  obtain ⟨r7, hr7, hm⟩ := call_b hm
  refine reg [⟨false, [], callFunc 19 #[.slice A1 a1.length c1, .slice A2 b1.length c2], .int .i64 r7⟩] [none, none, some (.int .i64 r7), none] [0, 1, 2, 7, 8, 9, 10, 11, 12] [pl 0 (.slice A1 a1.length c1), pl 1 (.slice A2 b1.length c2), pl 2 (.int .i64 most1), pl 7 (.int .i64 r3.1), pl 8 (.slice A5 r3.2.1.length c5), pl 9 (.int .i64 r3.2.2), pl 10 (.slice A8 r6.1.length c8), pl 11 (.int .i64 r6.2), pl 12 (.int .i64 r7)] hF hS Fol (by kernel_rfl) (by kernel_rfl) (by kernel_rfl) ?_ (fun a w hF hS => ?_)
  · exact obs_cons (ob_call Try.func19 (by kernel_rfl) rfl (fun _ _ hS => gameroomref_PictureMay_w hr7 hS (fun _ hS => (hr_a1 _ (hS.dropN 6))) _hc_a1 rfl (fun _ hS => (hr_b1 _ (hS.dropN 6))) _hc_b1 rfl)) <| obs_nil
  refine seq_cut (fun a w => Fr 131 [pl 0 (.slice A1 a1.length c1), pl 1 (.slice A2 b1.length c2), pl 2 (.int .i64 most1), pl 7 (.int .i64 r3.1), pl 8 (.slice A5 r3.2.1.length c5), pl 9 (.int .i64 r3.2.2), pl 10 (.slice A8 r6.1.length c8), pl 11 (.int .i64 r6.2)] a ∧ Sep w0 B w (own 3 (.slice A5 r3.2.1.length c5) (vI r3.2.1) :: own 3 (.slice A8 r6.1.length c8) (vI r6.1) :: fs) ∧ ((gameroomlaw_NonoPictures_J1 a1 b1 most1 r3 r6)).bind some = some r) ?_ ?_
  · rintro a w ⟨hF, hS, hm⟩
    unfold gameroomlaw_NonoPictures_J1 at hm
    refine seqR ?_
    obtain ⟨r8, hr8, hm⟩ := call_b hm
    refine at_run 2 [] [] [0, 1, 2, 7, 8, 9, 10, 11, 63, 64] [pl 0 (.slice A1 a1.length c1), pl 1 (.slice A2 b1.length c2), pl 2 (.int .i64 most1), pl 7 (.int .i64 r3.1), pl 8 (.slice A5 r3.2.1.length c5), pl 9 (.int .i64 r3.2.2), pl 10 (.slice A8 r6.1.length c8), pl 11 (.int .i64 r6.2), pl 63 (.slice A1 a1.length c1), pl 64 (.slice A2 b1.length c2)] hF hS (by kernel_rfl) (by kernel_rfl) ?_ (fun a w hF hS => ?_)
    · exact obs_nil
    refine at_call (f := 20) (args := #[.slice A1 a1.length c1, .slice A2 b1.length c2]) (d := 65) hF (by kernel_rfl) (by kernel_rfl) Try.func20 (by kernel_rfl) rfl (gameroomref_PushOf_w hr8 hS (fun _ hS => (hr_a1 _ (hS.dropN 2))) _hc_a1 rfl (fun _ hS => (hr_b1 _ (hS.dropN 2))) _hc_b1 rfl) (fun v a w hR hF => ?_)
    clear hS
    obtain ⟨A9, c9, rfl, hS⟩ := hR
    have hS : Sep w0 B w (own 3 (.slice A9 r8.1.length c9) (vI r8.1) :: own 3 (.slice A5 r3.2.1.length c5) (vI r3.2.1) :: own 3 (.slice A8 r6.1.length c8) (vI r6.1) :: fs) := hS
    refine at_run 5 [] [] [0, 1, 2, 7, 8, 9, 10, 11, 13, 14] [pl 0 (.slice A1 a1.length c1), pl 1 (.slice A2 b1.length c2), pl 2 (.int .i64 most1), pl 7 (.int .i64 r3.1), pl 8 (.slice A5 r3.2.1.length c5), pl 9 (.int .i64 r3.2.2), pl 10 (.slice A8 r6.1.length c8), pl 11 (.int .i64 r6.2), pl 13 (.slice A9 r8.1.length c9), pl 14 (.bool r8.2)] hF hS (by kernel_rfl) (by kernel_rfl) ?_ (fun a w hF hS => ?_)
    · exact obs_nil
    refine at_end [0, 1, 2, 7, 8, 9, 10, 11, 13, 14] [pl 0 (.slice A1 a1.length c1), pl 1 (.slice A2 b1.length c2), pl 2 (.int .i64 most1), pl 7 (.int .i64 r3.1), pl 8 (.slice A5 r3.2.1.length c5), pl 9 (.int .i64 r3.2.2), pl 10 (.slice A8 r6.1.length c8), pl 11 (.int .i64 r6.2), pl 13 (.slice A9 r8.1.length c9), pl 14 (.bool r8.2)] hF rfl (by kernel_rfl) (fun hF => ?_)
    refine then_n ?_
    refine seq_cut (fun a w => Fr 131 [pl 0 (.slice A1 a1.length c1), pl 1 (.slice A2 b1.length c2), pl 2 (.int .i64 most1), pl 7 (.int .i64 r3.1), pl 8 (.slice A5 r3.2.1.length c5), pl 9 (.int .i64 r3.2.2)] a ∧ Sep w0 B w (own 3 (.slice A5 r3.2.1.length c5) (vI r3.2.1) :: fs) ∧ ((gameroomlaw_NonoPictures_J2 a1 b1 most1 r3)).bind some = some r) ?_ ?_
    · rintro a w ⟨hF, hS, hm⟩
      unfold gameroomlaw_NonoPictures_J2 at hm
      refine seq_cut (fun a w => Fr 131 [pl 0 (.slice A1 a1.length c1), pl 1 (.slice A2 b1.length c2), pl 2 (.int .i64 most1), pl 7 (.int .i64 r3.1), pl 8 (.slice A5 r3.2.1.length c5), pl 9 (.int .i64 r3.2.2)] a ∧ Sep w0 B w (own 3 (.slice A5 r3.2.1.length c5) (vI r3.2.1) :: fs) ∧ ((gameroomlaw_NonoPictures_J3 a1 b1 most1 r3)).bind some = some r) ?_ ?_
      · rintro a w ⟨hF, hS, hm⟩
        unfold gameroomlaw_NonoPictures_J3 at hm
        refine seqR ?_
        refine at_do (d := 15) (s := vS (Instr.alloc 22 true (.tuple #[]))) (v := .pointer (some ⟨w.heap.size, 0, none⟩)) (w' := w.alloc (.cells #[.slice none 0 0] 22)) hF (by kernel_rfl) (by kernel_rfl) (by kernel_rfl) (fun a hF => ?_)
        have hS : Sep w0 B (w.alloc (.cells #[.slice none 0 0] 22)) (blk w.heap.size 22 #[.slice none 0 0] :: (own 3 (.slice A5 r3.2.1.length c5) (vI r3.2.1) :: fs)) := hS.box 22 #[.slice none 0 0]
        generalize w.heap.size = g1 at hF hS
        generalize w.alloc (.cells #[.slice none 0 0] 22) = w at hS ⊢
        refine at_end [0, 1, 2, 7, 8, 9, 15] [pl 0 (.slice A1 a1.length c1), pl 1 (.slice A2 b1.length c2), pl 2 (.int .i64 most1), pl 7 (.int .i64 r3.1), pl 8 (.slice A5 r3.2.1.length c5), pl 9 (.int .i64 r3.2.2), pl 15 (.pointer (some ⟨g1, 0, none⟩))] hF rfl (by kernel_rfl) (fun hF => ?_)
        refine then_n ?_
        refine seqR ?_
        obtain ⟨r10, hr10, hm⟩ := call_b hm
        refine at_run 3 [] [] [2, 7, 8, 9, 15, 109, 110, 111] [pl 2 (.int .i64 most1), pl 7 (.int .i64 r3.1), pl 8 (.slice A5 r3.2.1.length c5), pl 9 (.int .i64 r3.2.2), pl 15 (.pointer (some ⟨g1, 0, none⟩)), pl 109 (.slice A1 a1.length c1), pl 110 (.slice A2 b1.length c2), pl 111 (.int .i64 most1)] hF hS (by kernel_rfl) (by kernel_rfl) ?_ (fun a w hF hS => ?_)
        · exact obs_nil
        have hS : Sep w0 B w (own 3 (.slice none 0 0) (vI ([] : List Int)) :: blk g1 22 #[.slice none 0 0] :: own 3 (.slice A5 r3.2.1.length c5) (vI r3.2.1) :: fs) := hS.nil 3
        have hS : Sep w0 B w (own 3 (.slice none 0 0) (vI ([] : List Int)) :: blk g1 22 #[.slice none 0 0] :: own 3 (.slice A5 r3.2.1.length c5) (vI r3.2.1) :: fs) := hS
        have hS : Sep w0 B w (own 3 (.slice none 0 0) (vI ([] : List Int)) :: own 3 (.slice none 0 0) (vI ([] : List Int)) :: blk g1 22 #[.slice none 0 0] :: own 3 (.slice A5 r3.2.1.length c5) (vI r3.2.1) :: fs) := hS.nil 3
        have hS : Sep w0 B w (own 3 (.slice none 0 0) (vI ([] : List Int)) :: blk g1 22 #[.slice none 0 0] :: own 3 (.slice none 0 0) (vI ([] : List Int)) :: own 3 (.slice A5 r3.2.1.length c5) (vI r3.2.1) :: fs) := hS.pickN 4 [0, 2, 1, 3] (by decide)
        refine at_call (f := 21) (args := #[.slice A1 a1.length c1, .slice A2 b1.length c2, .slice none 0 0, .int .i64 most1, .pointer (some ⟨g1, 0, none⟩)]) (d := 112) hF (by kernel_rfl) (by kernel_rfl) Try.func21 (by kernel_rfl) rfl (gameroomref_PictureOf_2_w hr10 hS (fun _ hS => (hr_a1 _ (hS.dropN 1))) _hc_a1 rfl (fun _ hS => (hr_b1 _ (hS.dropN 1))) _hc_b1 rfl) (fun v a w hR hF => ?_)
        clear hS
        obtain ⟨A10, c10, rfl, hS⟩ := hR
        have hS : Sep w0 B w (blk g1 22 #[.slice A10 r10.2.length c10] :: own 3 (.slice A10 r10.2.length c10) (vI r10.2) :: own 3 (.slice A5 r3.2.1.length c5) (vI r3.2.1) :: fs) := hS
        refine at_run 1 [] [] [2, 7, 8, 9, 15, 16] [pl 2 (.int .i64 most1), pl 7 (.int .i64 r3.1), pl 8 (.slice A5 r3.2.1.length c5), pl 9 (.int .i64 r3.2.2), pl 15 (.pointer (some ⟨g1, 0, none⟩)), pl 16 (.int .i64 r10.1)] hF hS (by kernel_rfl) (by kernel_rfl) ?_ (fun a w hF hS => ?_)
        · exact obs_nil
        refine at_end [2, 7, 8, 9, 15, 16] [pl 2 (.int .i64 most1), pl 7 (.int .i64 r3.1), pl 8 (.slice A5 r3.2.1.length c5), pl 9 (.int .i64 r3.2.2), pl 15 (.pointer (some ⟨g1, 0, none⟩)), pl 16 (.int .i64 r10.1)] hF rfl (by kernel_rfl) (fun hF => ?_)
        refine then_n ?_
        refine seq_cut (fun a w => ∃ (last1 : List Int) (A11 : Option Addr) (c11 : Nat), Fr 131 [pl 7 (.int .i64 r3.1), pl 8 (.slice A5 r3.2.1.length c5), pl 9 (.int .i64 r3.2.2), pl 15 (.pointer (some ⟨g1, 0, none⟩)), pl 16 (.int .i64 r10.1)] a ∧ Sep w0 B w (own 3 (.slice A5 r3.2.1.length c5) (vI r3.2.1) :: blk g1 22 #[.slice A11 last1.length c11] :: own 3 (.slice A11 last1.length c11) (vI last1) :: fs) ∧ ((gameroomlaw_NonoPictures_J4 r3 r10) last1).bind some = some r) ?_ ?_
        · rintro a w ⟨last1, A11, c11, hF, hS, hm⟩
          unfold gameroomlaw_NonoPictures_J4 at hm
          obtain ⟨r11, hr11, hm⟩ := call_b hm
          refine reg [⟨false, [((r3.2.2 == 0) && (r3.1 == r10.1), true)], vS (Instr.loadAt 22 (.pointer (some ⟨g1, 0, none⟩))), .slice A11 last1.length c11⟩, ⟨false, [((r3.2.2 == 0) && (r3.1 == r10.1), true)], callFunc 14 #[.slice A5 r3.2.1.length c5, .slice A11 last1.length c11], .bool r11⟩] [none, none, none, none, none, none, none, none, none, some (.slice A11 last1.length c11), some (.bool r11), none, none] [6] [pl 6 (.bool (((r3.2.2 == 0) && (r3.1 == r10.1)) && r11))] hF hS Fol (by kernel_rfl) (by kernel_rfl) (by kernel_rfl) ?_ (fun a w hF hS => ?_)
          · exact obs_cons (ob_load Agg22 (fun _ _ hS => (hS.at_ 1 rfl).cell rfl)) <| obs_cons (ob_call Try.func14 (by kernel_rfl) rfl (fun hy _ hS => gameroomlaw_sameInts_w (ite_some hr11 (by rw [show ((r3.2.2 == 0) && (r3.1 == r10.1)) = true from hy ((r3.2.2 == 0) && (r3.1 == r10.1), true) (by simp)]; try rfl)) hS (fun _ hS => (hS.at_ 0 rfl).rd) ((hS.at_ 0 rfl).cap1) rfl (fun _ hS => (hS.at_ 2 rfl).rd) ((hS.at_ 2 rfl).cap1) rfl)) <| obs_nil
          refine wpIn_ret ?_
          have hS := hS.pickN 3 [] (by decide)
          have hm : some (((r3.2.2 == 0) && (r3.1 == r10.1)) && r11) = some r := hm
          obtain rfl := Option.some.inj hm
          exact retV (rs := [.tmp 6]) (vs := [.bool (((r3.2.2 == 0) && (r3.1 == r10.1)) && r11)]) hF rfl (rv_t (by kernel_rfl) <| rv_nil) rfl ⟨rfl, hS⟩
        · refine reg [] [] [7, 8, 9, 15, 16, 118] [pl 7 (.int .i64 r3.1), pl 8 (.slice A5 r3.2.1.length c5), pl 9 (.int .i64 r3.2.2), pl 15 (.pointer (some ⟨g1, 0, none⟩)), pl 16 (.int .i64 r10.1), pl 118 (.bool ((r10.1 != 1) || (most1 == 1)))] hF hS Fol (by kernel_rfl) (by kernel_rfl) (by kernel_rfl) ?_ (fun a w hF hS => ?_)
          · exact obs_nil
          refine cond_ev (t := 118) (b := (r10.1 != 1) || (most1 == 1)) hF (by kernel_rfl) (fun hb => ?_) (fun hb => ?_)
          · replace hm := if_t hm hb
            refine oneR ?_
            obtain ⟨w, hrun, hS⟩ := run_put (P := Try.prog) (t := 22) (u := .slice none 0 0) (i := 0) (hS.at_ 0 rfl) hi22 hs22 rfl (Nat.lt_of_lt_of_eq (Nat.lt_of_succ_le (Nat.le_of_ble_eq_true (by kernel_rfl))) rfl)
            refine at_skip hF (by kernel_rfl) hrun ?_
            have hS : Sep w0 B w (blk g1 22 #[.slice none 0 0] :: own 3 (.slice A10 r10.2.length c10) (vI r10.2) :: own 3 (.slice A5 r3.2.1.length c5) (vI r3.2.1) :: fs) := hS
            refine at_end [7, 8, 9, 15, 16] [pl 7 (.int .i64 r3.1), pl 8 (.slice A5 r3.2.1.length c5), pl 9 (.int .i64 r3.2.2), pl 15 (.pointer (some ⟨g1, 0, none⟩)), pl 16 (.int .i64 r10.1)] hF rfl (by kernel_rfl) (fun hF => ?_)
            refine then_n ?_
            have hS : Sep w0 B w (own 3 (.slice none 0 0) (vI ([] : List Int)) :: blk g1 22 #[.slice none 0 0] :: own 3 (.slice A10 r10.2.length c10) (vI r10.2) :: own 3 (.slice A5 r3.2.1.length c5) (vI r3.2.1) :: fs) := hS.nil 3
            have hS : Sep w0 B w (own 3 (.slice none 0 0) (vI ([] : List Int)) :: blk g1 22 #[.slice none 0 0] :: own 3 (.slice A10 r10.2.length c10) (vI r10.2) :: own 3 (.slice A5 r3.2.1.length c5) (vI r3.2.1) :: fs) := hS
            have hl1 := (hS.at_ 0 rfl).len1
            have hS := (hS.at_ 0 rfl).reN hl1
            have hS := (hS.at_ 1 rfl).reBlk (congrArg (fun k9 => (#[.slice none k9 0] : Array Value)) hl1)
            have hS : Sep w0 B w (own 3 (.slice none (([] : List Int).length) 0) (vI ([] : List Int)) :: blk g1 22 #[.slice none (([] : List Int).length) 0] :: own 3 (.slice A10 r10.2.length c10) (vI r10.2) :: own 3 (.slice A5 r3.2.1.length c5) (vI r3.2.1) :: fs) := hS
            have hS := hS.pickN 4 [3, 1, 0] (by decide)
            exact ⟨([] : List Int), none, 0, hF.weak [7, 8, 9, 15, 16] (by kernel_rfl), hS, hm⟩
          · replace hm := if_f hm hb
            refine wpIn_skip ?_
            refine then_n ?_
            have hS := hS.pickN 3 [2, 0, 1] (by decide)
            exact ⟨r10.2, A10, c10, hF.weak [7, 8, 9, 15, 16] (by kernel_rfl), hS, hm⟩
      · refine reg [] [] [0, 1, 2, 7, 8, 9, 97] [pl 0 (.slice A1 a1.length c1), pl 1 (.slice A2 b1.length c2), pl 2 (.int .i64 most1), pl 7 (.int .i64 r3.1), pl 8 (.slice A5 r3.2.1.length c5), pl 9 (.int .i64 r3.2.2), pl 97 (.bool ((decide (most1 < 1)) || (decide ((1000 : Int) < most1))))] hF hS Fol (by kernel_rfl) (by kernel_rfl) (by kernel_rfl) ?_ (fun a w hF hS => ?_)
        · exact obs_nil
        refine cond_ev (t := 97) (b := (decide (most1 < 1)) || (decide ((1000 : Int) < most1))) hF (by kernel_rfl) (fun hb => ?_) (fun hb => ?_)
        · replace hm := if_t hm hb
          refine reg [] [] [6] [pl 6 (.bool (((r3.2.2 == 3) && (r3.1 == 0)) && ((r3.2.1.length : Int) == 0)))] hF hS Fol (by kernel_rfl) (by kernel_rfl) (by kernel_rfl) ?_ (fun a w hF hS => ?_)
          · exact obs_nil
          refine wpIn_ret ?_
          refine then_r ?_
          have hS := hS.pickN 1 [] (by decide)
          have hm : some (((r3.2.2 == 3) && (r3.1 == 0)) && ((r3.2.1.length : Int) == 0)) = some r := hm
          obtain rfl := Option.some.inj hm
          exact retV (rs := [.tmp 6]) (vs := [.bool (((r3.2.2 == 3) && (r3.1 == 0)) && ((r3.2.1.length : Int) == 0))]) hF rfl (rv_t (by kernel_rfl) <| rv_nil) rfl ⟨rfl, hS⟩
        · replace hm := if_f hm hb
          refine wpIn_skip ?_
          refine then_n ?_
          exact ⟨hF.weak [0, 1, 2, 7, 8, 9] (by kernel_rfl), hS, hm⟩
    · obtain ⟨r9, hr9, hm⟩ := call_b hm
      refine reg [⟨false, [((r6.2 != 0), false), (r8.2, true)], callFunc 14 #[.slice A8 r6.1.length c8, .slice A9 r8.1.length c9], .bool r9⟩] [none, none, none, none, none, none, none, some (.bool r9), none, none, none, none, none, none, none, none, none, none, none, none, none, none, none, none] [0, 1, 2, 7, 8, 9, 91] [pl 0 (.slice A1 a1.length c1), pl 1 (.slice A2 b1.length c2), pl 2 (.int .i64 most1), pl 7 (.int .i64 r3.1), pl 8 (.slice A5 r3.2.1.length c5), pl 9 (.int .i64 r3.2.2), pl 91 (.bool ((r8.2 && ((r6.2 != 0) || (!r9))) || ((!r8.2) && ((r6.2 != 10) || (decide ((0 : Int) < (r6.1.length : Int)))))))] hF hS Fol (by kernel_rfl) (by kernel_rfl) (by kernel_rfl) ?_ (fun a w hF hS => ?_)
      · exact obs_cons (ob_call Try.func14 (by kernel_rfl) rfl (fun hy _ hS => gameroomlaw_sameInts_w (ite_some hr9 (by rw [show (r6.2 != 0) = false from hy ((r6.2 != 0), false) (by simp), show r8.2 = true from hy (r8.2, true) (by simp)]; try rfl)) hS (fun _ hS => (hS.at_ 2 rfl).rd) ((hS.at_ 2 rfl).cap1) rfl (fun _ hS => (hS.at_ 0 rfl).rd) ((hS.at_ 0 rfl).cap1) rfl)) <| obs_nil
      refine cond_ev (t := 91) (b := (r8.2 && ((r6.2 != 0) || (!r9))) || ((!r8.2) && ((r6.2 != 10) || (decide ((0 : Int) < (r6.1.length : Int)))))) hF (by kernel_rfl) (fun hb => ?_) (fun hb => ?_)
      · replace hm := if_t hm hb
        refine reg [] [] [6] [pl 6 (.bool false)] hF hS Fol (by kernel_rfl) (by kernel_rfl) (by kernel_rfl) ?_ (fun a w hF hS => ?_)
        · exact obs_nil
        refine wpIn_ret ?_
        refine then_r ?_
        have hS := hS.pickN 3 [] (by decide)
        have hm : some false = some r := hm
        obtain rfl := Option.some.inj hm
        exact retV (rs := [.tmp 6]) (vs := [.bool false]) hF rfl (rv_t (by kernel_rfl) <| rv_nil) rfl ⟨rfl, hS⟩
      · replace hm := if_f hm hb
        refine wpIn_skip ?_
        refine then_n ?_
        have hS := hS.pickN 3 [1] (by decide)
        exact ⟨hF.weak [0, 1, 2, 7, 8, 9] (by kernel_rfl), hS, hm⟩
  · refine reg [] [] [0, 1, 2, 7, 8, 9, 10, 11, 12, 39] [pl 0 (.slice A1 a1.length c1), pl 1 (.slice A2 b1.length c2), pl 2 (.int .i64 most1), pl 7 (.int .i64 r3.1), pl 8 (.slice A5 r3.2.1.length c5), pl 9 (.int .i64 r3.2.2), pl 10 (.slice A8 r6.1.length c8), pl 11 (.int .i64 r6.2), pl 12 (.int .i64 r7), pl 39 (.bool (r7 != 0))] hF hS Fol (by kernel_rfl) (by kernel_rfl) (by kernel_rfl) ?_ (fun a w hF hS => ?_)
    · exact obs_nil
    refine cond_ev (t := 39) (b := (r7 != 0)) hF (by kernel_rfl) (fun hb => ?_) (fun hb => ?_)
    · replace hm := if_t hm hb
      refine reg [] [] [6] [pl 6 (.bool (((((r3.2.2 == r7) && (r6.2 == r7)) && (r3.1 == 0)) && ((r3.2.1.length : Int) == 0)) && ((r6.1.length : Int) == 0)))] hF hS Fol (by kernel_rfl) (by kernel_rfl) (by kernel_rfl) ?_ (fun a w hF hS => ?_)
      · exact obs_nil
      refine wpIn_ret ?_
      refine then_r ?_
      have hS := hS.pickN 6 [] (by decide)
      have hm : some (((((r3.2.2 == r7) && (r6.2 == r7)) && (r3.1 == 0)) && ((r3.2.1.length : Int) == 0)) && ((r6.1.length : Int) == 0)) = some r := hm
      obtain rfl := Option.some.inj hm
      exact retV (rs := [.tmp 6]) (vs := [.bool (((((r3.2.2 == r7) && (r6.2 == r7)) && (r3.1 == 0)) && ((r3.2.1.length : Int) == 0)) && ((r6.1.length : Int) == 0))]) hF rfl (rv_t (by kernel_rfl) <| rv_nil) rfl ⟨rfl, hS⟩
    · replace hm := if_f hm hb
      refine wpIn_skip ?_
      refine then_n ?_
      have hS := hS.pickN 6 [3, 0] (by decide)
      exact ⟨hF.weak [0, 1, 2, 7, 8, 9, 10, 11] (by kernel_rfl), hS, hm⟩

end Go.Proofs.Ytdjjomghggplpaa
