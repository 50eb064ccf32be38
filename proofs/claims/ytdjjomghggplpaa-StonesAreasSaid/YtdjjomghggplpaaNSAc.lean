/-
  Models and walks, printed by our own program (wip/gen).
-/
import Derived.Test.YtdjjomghggplpaaFB
import Derived.Test.YtdjjomghggplpaaLibSc
import Derived.Test.YtdjjomghggplpaaFE
import Derived.Test.YtdjjomghggplpaaLibPl
import Derived.Test.YtdjjomghggplpaaSH
import Derived.Test.YtdjjomghggplpaaNSAb
namespace Go.Proofs.Ytdjjomghggplpaa
open Go Go.GL Go.RowKit

noncomputable def stones_Alive_m  (g1 : Int) (g2 : Int) (g3 : List Int) (who1 : Int) : Option (List Int × Int) :=
  (rows_May_m g1 g2 g3).bind fun r1 => if (!r1) then (some (([] : List Int), 12)) else (if ((who1 != 1) && (who1 != 2)) then (some (([] : List Int), 4)) else ((stones_Alive_J1 g1 g2 g3 who1)))

set_option maxRecDepth 100000 in
set_option maxHeartbeats 4000000 in
theorem stones_Alive_w  {g1 : Int} {g2 : Int} {A1 : Option Addr} {c1 : Nat} {n1 : Nat} {g3 : List Int} {who1 : Int} {r : (List Int × Int)} {w0 w : World} {B : Nat} {fs : List HP} (hm : stones_Alive_m g1 g2 g3 who1 = some r) (hS : Sep w0 B w (fs)) (hr_g3 : RdF w0 B fs A1 (vI g3)) (_hc_g3 : g3.length ≤ c1) (_hn_g3 : n1 = g3.length) :
    Calls Try.prog 11 #[.agg #[.int .i64 g1, .int .i64 g2, .slice A1 n1 c1], .int .i64 who1] w fun e w' => ∃ v, e = .returned v ∧ ∃ (A10 : Option Addr) (c10 : Nat), v = .tuple #[.slice A10 r.1.length c10, .int .i64 r.2] ∧ Sep w0 B w' (own 3 (.slice A10 r.1.length c10) (vI r.1) :: fs) := by
  obtain ⟨i3, hi3, hz3, hs3, hb3⟩ := info_parts Info3
  obtain ⟨i4, hi4, hz4, hs4, hb4⟩ := info_parts Info4
  obtain ⟨i92, hi92, hz92, hs92, hb92⟩ := info_parts Info92
  obtain rfl := _hn_g3
  unfold stones_Alive_m at hm
  replace hm := start_b hm
  refine enter (l := [.agg #[.int .i64 g1, .int .i64 g2, .slice A1 g3.length c1], .int .i64 who1]) (n := 110) Try.func11 rfl rfl (by simp) (fun a hF => ?_)
  refine seqR ?_
  refine at_do (d := 2) (s := vS (Instr.box 24 (.agg #[.int .i64 g1, .int .i64 g2, .slice A1 g3.length c1]))) (v := .pointer (some ⟨w.heap.size, 0, none⟩)) (w' := w.alloc (.cells #[.int .i64 g1, .int .i64 g2, .slice A1 g3.length c1] 24)) hF (by kernel_rfl) (by kernel_rfl) (by kernel_rfl) (fun a hF => ?_)
  have hS : Sep w0 B (w.alloc (.cells #[.int .i64 g1, .int .i64 g2, .slice A1 g3.length c1] 24)) (blk w.heap.size 24 #[.int .i64 g1, .int .i64 g2, .slice A1 g3.length c1] :: (fs)) := hS.box 24 #[.int .i64 g1, .int .i64 g2, .slice A1 g3.length c1]
  generalize w.heap.size = g4 at hF hS
  generalize w.alloc (.cells #[.int .i64 g1, .int .i64 g2, .slice A1 g3.length c1] 24) = w at hS ⊢
  refine at_do (d := 3) (s := vS (Instr.box 3 (.int .i64 who1))) (v := .pointer (some ⟨w.heap.size, 0, none⟩)) (w' := w.alloc (.cells #[.int .i64 who1] 3)) hF (by kernel_rfl) (by kernel_rfl) (by kernel_rfl) (fun a hF => ?_)
  have hS : Sep w0 B (w.alloc (.cells #[.int .i64 who1] 3)) (blk w.heap.size 3 #[.int .i64 who1] :: (blk g4 24 #[.int .i64 g1, .int .i64 g2, .slice A1 g3.length c1] :: fs)) := hS.box 3 #[.int .i64 who1]
  generalize w.heap.size = g5 at hF hS
  generalize w.alloc (.cells #[.int .i64 who1] 3) = w at hS ⊢
  refine at_run 2 [] [] [2, 3] [pl 2 (.pointer (some ⟨g4, 0, none⟩)), pl 3 (.pointer (some ⟨g5, 0, none⟩))] hF hS (by kernel_rfl) (by kernel_rfl) ?_ (fun a w hF hS => ?_)
  · exact obs_nil
  refine at_end [2, 3] [pl 2 (.pointer (some ⟨g4, 0, none⟩)), pl 3 (.pointer (some ⟨g5, 0, none⟩))] hF rfl (by kernel_rfl) (fun hF => ?_)
  refine then_n ?_
  refine scope_model (l := 0) (S := (List (List Int × List Int × Bool) × List (List Int × List Int × Bool))) (R := (List Int × Int)) (stones_Alive_L1 g1 g2 g3) (fun x => (stones_Alive_K1 x).bind some) r (fun (x : (List (List Int × List Int × Bool) × List (List Int × List Int × Bool))) a w => ∃ (pg3 : HP) (raw3 : List (Nat × Hd3 × Hd3)) (A4 : Option Addr) (c4 : Nat) (raw4 : List (Nat × Hd3 × Hd3)) (A5 : Option Addr) (c5 : Nat), Fr 110 [pl 2 (.pointer (some ⟨g4, 0, none⟩)), pl 6 (.slice A4 x.1.length c4), pl 7 (.slice A5 x.2.length c5)] a ∧ Sep w0 B w (blk g4 24 #[.int .i64 g1, .int .i64 g2, .slice A1 g3.length c1] :: pg3 :: prs encP92 gfP92 cfP92 RelQ92 pg3 92 94 A4 x.1.length c4 raw3 x.1 :: prs encP92 gfP92 cfP92 RelQ92 pg3 92 94 A5 x.2.length c5 raw4 x.2 :: fs)) rfl ?_ (fun J hlab1 => ?_)
  · clear hF hS hm
    rintro nn1 ⟨groups1, regions1⟩ a w ⟨pg3, raw3, A4, c4, raw4, A5, c5, hF, hS⟩ hm
    generalize hφ1 : stK (stones_Alive_L1 g1 g2 g3) nn1 (fun x => (stones_Alive_K1 x).bind some) = φ1 at hm
    unfold stones_Alive_L1 at hm
    dsimp only at hF hS hm
    refine seq_cut (fun a w => Fr 110 [pl 6 (.slice A4 groups1.length c4)] a ∧ Sep w0 B w (pg3 :: prs encP92 gfP92 cfP92 RelQ92 pg3 92 94 A4 groups1.length c4 raw3 groups1 :: fs) ∧ ((stones_Alive_J2 groups1)).bind φ1 = some r) ?_ ?_
    · rintro a w ⟨hF, hS, hm⟩
      unfold stones_Alive_J2 at hm
      refine reg [] [] [6, 15] [pl 6 (.slice A4 groups1.length c4), pl 15 (.slice none 0 0)] hF hS Fol (by kernel_rfl) (by kernel_rfl) (by kernel_rfl) ?_ (fun a w hF hS => ?_)
      · exact obs_nil
      refine seq_cut (fun a w => ∃ (l2 : List Int) (A7 : Option Addr) (c7 : Nat), Fr 110 [pl 15 (.slice A7 l2.length c7)] a ∧ Sep w0 B w (own 3 (.slice A7 l2.length c7) (vI l2) :: fs) ∧ (stones_Alive_J13 l2).bind φ1 = some r) ?_ ?_
      · rintro a w ⟨l2, A7, c7, hF, hS, hm⟩
        unfold stones_Alive_J13 at hm
        refine seqR ?_
        obtain ⟨r6, hr6, hm⟩ := call_b hm
        refine at_run 1 [] [] [15, 107] [pl 15 (.slice A7 l2.length c7), pl 107 (.slice A7 l2.length c7)] hF hS (by kernel_rfl) (by kernel_rfl) ?_ (fun a w hF hS => ?_)
        · exact obs_nil
        refine at_call (f := 53) (args := #[.slice A7 l2.length c7]) (d := 108) hF (by kernel_rfl) (by kernel_rfl) Try.func53 (by kernel_rfl) rfl (slices_Sort_2_w hr6 hS ) (fun v a w hR hF => ?_)
        clear hS
        obtain ⟨rfl, hS⟩ := hR
        have hS : Sep w0 B w (own 3 (.slice A7 l2.length c7) (vI r6) :: fs) := hS
        refine at_end [15] [pl 15 (.slice A7 l2.length c7)] hF rfl (by kernel_rfl) (fun hF => ?_)
        refine then_n ?_
        refine reg [] [] [4, 5] [pl 4 (.slice A7 l2.length c7), pl 5 (.int .i64 0)] hF hS Fol (by kernel_rfl) (by kernel_rfl) (by kernel_rfl) ?_ (fun a w hF hS => ?_)
        · exact obs_nil
        refine wpIn_ret ?_
        refine jump_r ?_
        rw [← hφ1] at hm
        replace hm := done_b hm
        unfold stones_Alive_K1 at hm
        try dsimp only at hm
        have hl6 := (hS.at_ 0 rfl).len1
        have hS := (hS.at_ 0 rfl).reN hl6
        have hS : Sep w0 B w (own 3 (.slice A7 r6.length c7) (vI r6) :: fs) := hS
        have hF := hF.cast (t := 4) (v := .slice A7 l2.length c7) (v' := .slice A7 r6.length c7) rfl rfl (congrArg (fun k => Value.slice A7 k c7) hl6)
        have hm : some (r6, 0) = some r := hm
        obtain rfl := Option.some.inj hm
        exact retV (rs := [.tmp 4, .tmp 5]) (vs := [.slice A7 r6.length c7, .int .i64 0]) hF rfl (rv_t (by kernel_rfl) <| rv_t (by kernel_rfl) <| rv_nil) rfl ⟨_, rfl, A7, c7, rfl, hS⟩
      · refine reg [] [] [15, 89, 90, 91] [pl 15 (.slice none 0 0), pl 89 (.slice A4 groups1.length c4), pl 90 (.int .i64 (groups1.length : Int)), pl 91 (.int .i64 0)] hF hS Fol (by kernel_rfl) (by kernel_rfl) (by kernel_rfl) ?_ (fun a w hF hS => ?_)
        · exact obs_nil
        refine wpIn_block ?_
        have hS : Sep w0 B w (own 3 (.slice none 0 0) (vI ([] : List Int)) :: pg3 :: prs encP92 gfP92 cfP92 RelQ92 pg3 92 94 A4 groups1.length c4 raw3 groups1 :: fs) := hS.nil 3
        have hl5 := (hS.at_ 0 rfl).len1
        have hS := (hS.at_ 0 rfl).reN hl5
        have hS : Sep w0 B w (own 3 (.slice none (([] : List Int).length) 0) (vI ([] : List Int)) :: pg3 :: prs encP92 gfP92 cfP92 RelQ92 pg3 92 94 A4 groups1.length c4 raw3 groups1 :: fs) := hS
        have hF := hF.cast (t := 15) (v := .slice none 0 0) (v' := .slice none (([] : List Int).length) 0) rfl rfl (congrArg (fun k => Value.slice none k 0) hl5)
        refine wp_loop_model (S := (List Int × Int)) (R := (List Int)) (stones_Alive_L5 groups1) (fun x => (stones_Alive_K5 x).bind φ1) r (fun (x : (List Int × Int)) a w => ∃ (A6 : Option Addr) (c6 : Nat), Fr 110 [pl 15 (.slice A6 x.1.length c6), pl 89 (.slice A4 groups1.length c4), pl 90 (.int .i64 (groups1.length : Int)), pl 91 (.int .i64 x.2)] a ∧ Sep w0 B w (own 3 (.slice A6 x.1.length c6) (vI x.1) :: pg3 :: prs encP92 gfP92 cfP92 RelQ92 pg3 92 94 A4 groups1.length c4 raw3 groups1 :: fs)) (assoc_b hm) ⟨none, 0, hF.weak [15, 89, 90, 91] (by kernel_rfl), hS⟩ ?_
        clear hF hS hm
        rintro nn5 ⟨l1, z5⟩ a w ⟨A6, c6, hF, hS⟩ hm
        generalize hφ5 : stK (stones_Alive_L5 groups1) nn5 (fun x => (stones_Alive_K5 x).bind φ1) = φ5 at hm
        unfold stones_Alive_L5 at hm
        dsimp only at hF hS hm
        refine reg [] [] [15, 89, 90, 91, 92] [pl 15 (.slice A6 l1.length c6), pl 89 (.slice A4 groups1.length c4), pl 90 (.int .i64 (groups1.length : Int)), pl 91 (.int .i64 z5), pl 92 (.bool (decide (z5 < (groups1.length : Int))))] hF hS Fol (by kernel_rfl) (by kernel_rfl) (by kernel_rfl) ?_ (fun a w hF hS => ?_)
        · exact obs_nil
        refine seq_cut (fun a w => Fr 110 [pl 15 (.slice A6 l1.length c6), pl 89 (.slice A4 groups1.length c4), pl 90 (.int .i64 (groups1.length : Int)), pl 91 (.int .i64 z5)] a ∧ Sep w0 B w (own 3 (.slice A6 l1.length c6) (vI l1) :: pg3 :: prs encP92 gfP92 cfP92 RelQ92 pg3 92 94 A4 groups1.length c4 raw3 groups1 :: fs) ∧ ((stones_Alive_J14 groups1 l1 z5)).bind φ5 = some r) ?_ ?_
        · rintro a w ⟨hF, hS, hm⟩
          unfold stones_Alive_J14 at hm
          refine seq_cut (fun a w => ∃ (l3 : List Int) (A9 : Option Addr) (c9 : Nat), Fr 110 [pl 15 (.slice A9 l3.length c9), pl 89 (.slice A4 groups1.length c4), pl 90 (.int .i64 (groups1.length : Int)), pl 91 (.int .i64 z5)] a ∧ Sep w0 B w (own 3 (.slice A9 l3.length c9) (vI l3) :: pg3 :: prs encP92 gfP92 cfP92 RelQ92 pg3 92 94 A4 groups1.length c4 raw3 groups1 :: fs) ∧ ((stones_Alive_J15 z5) l3).bind φ5 = some r) ?_ ?_
          · rintro a w ⟨l3, A9, c9, hF, hS, hm⟩
            unfold stones_Alive_J15 at hm
            refine reg1 [] [] [15, 89, 90, 91] [pl 15 (.slice A9 l3.length c9), pl 89 (.slice A4 groups1.length c4), pl 90 (.int .i64 (groups1.length : Int)), pl 91 (.int .i64 (w64 (z5 + 1)))] hF hS Fol (by kernel_rfl) (by kernel_rfl) (by kernel_rfl) ?_ (fun a w hF hS => ?_)
            · exact obs_nil
            refine then_n ?_
            rw [← hφ5] at hm
            exact ⟨(l3, (w64 (z5 + 1))), ⟨A9, c9, hF.weak [15, 89, 90, 91] (by kernel_rfl), hS⟩, hm⟩
          · refine wpIn_block ?_
            obtain ⟨hp4, hm⟩ := asrt_b hm
            have hg11 := (hS.at_ 2 rfl).prsAll
            refine reg [⟨true, [], vS (Instr.indexAt 90 (.slice A4 groups1.length c4) (.int .i64 z5)), .pointer (some (sAddrK A4 1 z5))⟩, ⟨false, [], vS (Instr.loadAt 92 (.pointer (some (Addr.add (sAddrK A4 1 z5) 0)))), .pointer (some ⟨(getd rzP92 raw3 z5).1, 0, none⟩)⟩] [some (.pointer (some (sAddrK A4 1 z5))), some (.pointer (some ⟨(getd rzP92 raw3 z5).1, 0, none⟩)), none] [15, 17, 89, 90, 91] [pl 15 (.slice A6 l1.length c6), pl 17 (.pointer (some ⟨(getd rzP92 raw3 z5).1, 0, none⟩)), pl 89 (.slice A4 groups1.length c4), pl 90 (.int .i64 (groups1.length : Int)), pl 91 (.int .i64 z5)] hF hS Fol (by kernel_rfl) (by kernel_rfl) (by kernel_rfl) ?_ (fun a w hF hS => ?_)
            · exact obs_cons (ob_ixK (m := raw3) encPK92 Und90 hi92 hs92 (hS.at_ 2 rfl).rdPr ((hS.at_ 2 rfl).lenPrr encPK92) (fun _ => hp4)) <| obs_cons (ob_getPF (n := groups1.length) (raw := raw3) (j := 0) encPK92 rzP92 Agg92 (fun _ hS => ⟨_, (hS.at_ 2 rfl).rdPr⟩) (fun _ hS => (hS.at_ 2 rfl).lenPrr encPK92) (fun _ => hp4) (by decide) rfl rfl) <| obs_nil
            have hg12 := (hS.at_ 2 rfl).prsAll
            have hb9 := (rowb (n := groups1.length) ((hS.at_ 2 rfl).lenPr encPK92) hp4)
            refine reg [⟨false, [], vS (Instr.loadAt 4 (.pointer (some ⟨(getd rzP92 raw3 z5).1, 2, none⟩))), .bool ((getd zP92 groups1 z5).2.2)⟩] [none, none, none, some (.bool ((getd zP92 groups1 z5).2.2)), none] [15, 17, 89, 90, 91, 99] [pl 15 (.slice A6 l1.length c6), pl 17 (.pointer (some ⟨(getd rzP92 raw3 z5).1, 0, none⟩)), pl 89 (.slice A4 groups1.length c4), pl 90 (.int .i64 (groups1.length : Int)), pl 91 (.int .i64 z5), pl 99 (.bool (!((getd zP92 groups1 z5).2.2)))] hF hS Fol (by kernel_rfl) (by kernel_rfl) (by kernel_rfl) ?_ (fun a w hF hS => ?_)
            · exact obs_cons (ob_load Agg4 (fun _ _ hS => (hS.at_ 2 rfl).prCell rzP92 zP92 hb9 rfl rfl 2 _ rfl)) <| obs_nil
            refine cond_ev (t := 99) (b := !((getd zP92 groups1 z5).2.2)) hF (by kernel_rfl) (fun hb => ?_) (fun hb => ?_)
            · replace hm := if_t hm hb
              refine oneR ?_
              obtain ⟨hp5, hm⟩ := asrt_b hm
              have hg13 := (hS.at_ 2 rfl).prsAll
              have hb10 := (rowb (n := groups1.length) ((hS.at_ 2 rfl).lenPr encPK92) hp4)
              refine at_run 5 [⟨false, [], vS (Instr.loadAt 22 (.pointer (some ⟨(getd rzP92 raw3 z5).1, 0, none⟩))), .slice ((getd rzP92 raw3 z5).2.1.1) (((getd zP92 groups1 z5).1).length) ((getd rzP92 raw3 z5).2.1.2.2)⟩] [none, none, none, none, some (.slice ((getd rzP92 raw3 z5).2.1.1) (((getd zP92 groups1 z5).1).length) ((getd rzP92 raw3 z5).2.1.2.2))] [89, 90, 91, 100, 104] [pl 89 (.slice A4 groups1.length c4), pl 90 (.int .i64 (groups1.length : Int)), pl 91 (.int .i64 z5), pl 100 (.slice A6 l1.length c6), pl 104 (.slice ((getd rzP92 raw3 z5).2.1.1) (((getd zP92 groups1 z5).1).length) ((getd rzP92 raw3 z5).2.1.2.2))] hF hS (by kernel_rfl) (by kernel_rfl) ?_ (fun a w hF hS => ?_)
              · exact obs_cons (ob_load Agg22 (fun _ _ hS => (hS.at_ 2 rfl).prCell rzP92 zP92 hb10 rfl rfl 0 _ rfl)) <| obs_nil
              obtain ⟨A8, c8, w, hrun, hS⟩ := run_app1 (P := Try.prog) (t := 22) (m := l1) (ys := (getd zP92 groups1 z5).1) (A2 := (getd rzP92 raw3 z5).2.1.1) (m2 := ((getd zP92 groups1 z5).1).length) (c2 := (getd rzP92 raw3 z5).2.1.2.2) (Value.int .i64) (0 : Int) (hS.at_ 0 rfl) ((PAll.atM rzP92 zP92 hg13 hb10).1.2.2.at_ hS 1 rfl) rfl 22 Und22 hi3 hz3 hs3 (by omega) rfl (fun _ => rfl) hp5
              have hS : Sep w0 B w (own 3 (.slice A8 ((l1 ++ ((getd zP92 groups1 z5).1)).length) c8) (vI (l1 ++ ((getd zP92 groups1 z5).1))) :: pg3 :: prs encP92 gfP92 cfP92 RelQ92 pg3 92 94 A4 groups1.length c4 raw3 groups1 :: fs) := hS
              refine at_do (d := 105) hF (by kernel_rfl) (by kernel_rfl) hrun (fun a hF => ?_)
              refine at_run 1 [] [] [15, 89, 90, 91] [pl 15 (.slice A8 ((l1 ++ ((getd zP92 groups1 z5).1)).length) c8), pl 89 (.slice A4 groups1.length c4), pl 90 (.int .i64 (groups1.length : Int)), pl 91 (.int .i64 z5)] hF hS (by kernel_rfl) (by kernel_rfl) ?_ (fun a w hF hS => ?_)
              · exact obs_nil
              refine at_end [15, 89, 90, 91] [pl 15 (.slice A8 ((l1 ++ ((getd zP92 groups1 z5).1)).length) c8), pl 89 (.slice A4 groups1.length c4), pl 90 (.int .i64 (groups1.length : Int)), pl 91 (.int .i64 z5)] hF rfl (by kernel_rfl) (fun hF => ?_)
              refine block_n ?_
              refine then_n ?_
              exact ⟨(l1 ++ ((getd zP92 groups1 z5).1)), A8, c8, hF.weak [15, 89, 90, 91] (by kernel_rfl), hS, hm⟩
            · replace hm := if_f hm hb
              refine wpIn_skip ?_
              refine block_n ?_
              refine then_n ?_
              exact ⟨l1, A6, c6, hF.weak [15, 89, 90, 91] (by kernel_rfl), hS, hm⟩
        · refine cond_ev (t := 92) (b := decide (z5 < (groups1.length : Int))) hF (by kernel_rfl) (fun hb => ?_) (fun hb => ?_)
          · replace hm := if_t hm hb
            refine wpIn_skip ?_
            refine then_n ?_
            exact ⟨hF.weak [15, 89, 90, 91] (by kernel_rfl), hS, hm⟩
          · replace hm := if_f hm hb
            refine wpIn_exit ?_
            refine then_e (then_e (block_e (then_n ?_)))
            have hS := hS.pickN 3 [0] (by decide)
            rw [← hφ5] at hm
            replace hm := done_b hm
            unfold stones_Alive_K5 at hm
            try dsimp only at hm
            have hm : (stones_Alive_J13 l1).bind φ1 = some r := hm
            exact ⟨l1, A6, c6, hF.weak [15] (by kernel_rfl), hS, hm⟩
    · refine reg [] [] [2, 6, 7, 35, 36, 37] [pl 2 (.pointer (some ⟨g4, 0, none⟩)), pl 6 (.slice A4 groups1.length c4), pl 7 (.slice A5 regions1.length c5), pl 35 (.slice A4 groups1.length c4), pl 36 (.int .i64 (groups1.length : Int)), pl 37 (.int .i64 0)] hF hS Fol (by kernel_rfl) (by kernel_rfl) (by kernel_rfl) ?_ (fun a w hF hS => ?_)
      · exact obs_nil
      refine wpIn_block ?_
      refine wp_loop_model (S := Int) (R := (Fl Unit (List (List Int × List Int × Bool) × List (List Int × List Int × Bool)))) (stones_Alive_L2 g1 g2 g3 groups1 regions1) (fun x => ((stones_Alive_K2 groups1) x).bind φ1) r (fun (x : Int) a w => Fr 110 [pl 2 (.pointer (some ⟨g4, 0, none⟩)), pl 6 (.slice A4 groups1.length c4), pl 7 (.slice A5 regions1.length c5), pl 35 (.slice A4 groups1.length c4), pl 36 (.int .i64 (groups1.length : Int)), pl 37 (.int .i64 x)] a ∧ Sep w0 B w (blk g4 24 #[.int .i64 g1, .int .i64 g2, .slice A1 g3.length c1] :: pg3 :: prs encP92 gfP92 cfP92 RelQ92 pg3 92 94 A4 groups1.length c4 raw3 groups1 :: prs encP92 gfP92 cfP92 RelQ92 pg3 92 94 A5 regions1.length c5 raw4 regions1 :: fs)) (assoc_b hm) ⟨hF.weak [2, 6, 7, 35, 36, 37] (by kernel_rfl), hS⟩ ?_
      clear hF hS hm
      rintro nn2 z1 a w ⟨hF, hS⟩ hm
      generalize hφ2 : stK (stones_Alive_L2 g1 g2 g3 groups1 regions1) nn2 (fun x => ((stones_Alive_K2 groups1) x).bind φ1) = φ2 at hm
      unfold stones_Alive_L2 at hm
      dsimp only at hm
      refine reg [] [] [2, 6, 7, 35, 36, 37, 38] [pl 2 (.pointer (some ⟨g4, 0, none⟩)), pl 6 (.slice A4 groups1.length c4), pl 7 (.slice A5 regions1.length c5), pl 35 (.slice A4 groups1.length c4), pl 36 (.int .i64 (groups1.length : Int)), pl 37 (.int .i64 z1), pl 38 (.bool (decide (z1 < (groups1.length : Int))))] hF hS Fol (by kernel_rfl) (by kernel_rfl) (by kernel_rfl) ?_ (fun a w hF hS => ?_)
      · exact obs_nil
      refine seq_cut (fun a w => Fr 110 [pl 2 (.pointer (some ⟨g4, 0, none⟩)), pl 6 (.slice A4 groups1.length c4), pl 7 (.slice A5 regions1.length c5), pl 35 (.slice A4 groups1.length c4), pl 36 (.int .i64 (groups1.length : Int)), pl 37 (.int .i64 z1)] a ∧ Sep w0 B w (blk g4 24 #[.int .i64 g1, .int .i64 g2, .slice A1 g3.length c1] :: pg3 :: prs encP92 gfP92 cfP92 RelQ92 pg3 92 94 A4 groups1.length c4 raw3 groups1 :: prs encP92 gfP92 cfP92 RelQ92 pg3 92 94 A5 regions1.length c5 raw4 regions1 :: fs) ∧ ((stones_Alive_J3 g1 g2 g3 groups1 regions1 z1)).bind φ2 = some r) ?_ ?_
      · rintro a w ⟨hF, hS, hm⟩
        unfold stones_Alive_J3 at hm
        refine seq_cut (fun a w => Fr 110 [pl 2 (.pointer (some ⟨g4, 0, none⟩)), pl 6 (.slice A4 groups1.length c4), pl 7 (.slice A5 regions1.length c5), pl 35 (.slice A4 groups1.length c4), pl 36 (.int .i64 (groups1.length : Int)), pl 37 (.int .i64 z1)] a ∧ Sep w0 B w (blk g4 24 #[.int .i64 g1, .int .i64 g2, .slice A1 g3.length c1] :: pg3 :: prs encP92 gfP92 cfP92 RelQ92 pg3 92 94 A4 groups1.length c4 raw3 groups1 :: prs encP92 gfP92 cfP92 RelQ92 pg3 92 94 A5 regions1.length c5 raw4 regions1 :: fs) ∧ ((stones_Alive_J4 z1)).bind φ2 = some r) ?_ ?_
        · rintro a w ⟨hF, hS, hm⟩
          unfold stones_Alive_J4 at hm
          refine reg1 [] [] [2, 6, 7, 35, 36, 37] [pl 2 (.pointer (some ⟨g4, 0, none⟩)), pl 6 (.slice A4 groups1.length c4), pl 7 (.slice A5 regions1.length c5), pl 35 (.slice A4 groups1.length c4), pl 36 (.int .i64 (groups1.length : Int)), pl 37 (.int .i64 (w64 (z1 + 1)))] hF hS Fol (by kernel_rfl) (by kernel_rfl) (by kernel_rfl) ?_ (fun a w hF hS => ?_)
          · exact obs_nil
          refine then_n ?_
          rw [← hφ2] at hm
          exact ⟨(w64 (z1 + 1)), ⟨hF.weak [2, 6, 7, 35, 36, 37] (by kernel_rfl), hS⟩, hm⟩
        · refine wpIn_block ?_
          refine seqR ?_
          obtain ⟨hp1, hm⟩ := asrt_b hm
          have hg1 := (hS.at_ 2 rfl).prsAll
          refine at_run 2 [⟨true, [], vS (Instr.indexAt 90 (.slice A4 groups1.length c4) (.int .i64 z1)), .pointer (some (sAddrK A4 1 z1))⟩, ⟨false, [], vS (Instr.loadAt 92 (.pointer (some (Addr.add (sAddrK A4 1 z1) 0)))), .pointer (some ⟨(getd rzP92 raw3 z1).1, 0, none⟩)⟩] [some (.pointer (some (sAddrK A4 1 z1))), some (.pointer (some ⟨(getd rzP92 raw3 z1).1, 0, none⟩))] [2, 6, 7, 35, 36, 37, 40] [pl 2 (.pointer (some ⟨g4, 0, none⟩)), pl 6 (.slice A4 groups1.length c4), pl 7 (.slice A5 regions1.length c5), pl 35 (.slice A4 groups1.length c4), pl 36 (.int .i64 (groups1.length : Int)), pl 37 (.int .i64 z1), pl 40 (.pointer (some ⟨(getd rzP92 raw3 z1).1, 0, none⟩))] hF hS (by kernel_rfl) (by kernel_rfl) ?_ (fun a w hF hS => ?_)
          · exact obs_cons (ob_ixK (m := raw3) encPK92 Und90 hi92 hs92 (hS.at_ 2 rfl).rdPr ((hS.at_ 2 rfl).lenPrr encPK92) (fun _ => hp1)) <| obs_cons (ob_getPF (n := groups1.length) (raw := raw3) (j := 0) encPK92 rzP92 Agg92 (fun _ hS => ⟨_, (hS.at_ 2 rfl).rdPr⟩) (fun _ hS => (hS.at_ 2 rfl).lenPrr encPK92) (fun _ => hp1) (by decide) rfl rfl) <| obs_nil
          refine at_do (d := 9) (s := vS (Instr.alloc 92 true (.tuple #[]))) (v := .pointer (some ⟨w.heap.size, 0, none⟩)) (w' := w.alloc (.cells #[.pointer none] 92)) hF (by kernel_rfl) (by kernel_rfl) (by kernel_rfl) (fun a hF => ?_)
          have hS : Sep w0 B (w.alloc (.cells #[.pointer none] 92)) (blk w.heap.size 92 #[.pointer none] :: (blk g4 24 #[.int .i64 g1, .int .i64 g2, .slice A1 g3.length c1] :: pg3 :: prs encP92 gfP92 cfP92 RelQ92 pg3 92 94 A4 groups1.length c4 raw3 groups1 :: prs encP92 gfP92 cfP92 RelQ92 pg3 92 94 A5 regions1.length c5 raw4 regions1 :: fs)) := hS.box 92 #[.pointer none]
          generalize w.heap.size = g6 at hF hS
          generalize w.alloc (.cells #[.pointer none] 92) = w at hS ⊢
          obtain ⟨w, hrun, hS⟩ := run_put (P := Try.prog) (t := 92) (u := .pointer (some ⟨(getd rzP92 raw3 z1).1, 0, none⟩)) (i := 0) (hS.at_ 0 rfl) hi92 hs92 rfl (Nat.lt_of_lt_of_eq (Nat.lt_of_succ_le (Nat.le_of_ble_eq_true (by kernel_rfl))) rfl)
          refine at_skip hF (by kernel_rfl) hrun ?_
          have hS : Sep w0 B w (blk g6 92 #[.pointer (some ⟨(getd rzP92 raw3 z1).1, 0, none⟩)] :: blk g4 24 #[.int .i64 g1, .int .i64 g2, .slice A1 g3.length c1] :: pg3 :: prs encP92 gfP92 cfP92 RelQ92 pg3 92 94 A4 groups1.length c4 raw3 groups1 :: prs encP92 gfP92 cfP92 RelQ92 pg3 92 94 A5 regions1.length c5 raw4 regions1 :: fs) := hS
          refine at_end [2, 6, 7, 9, 35, 36, 37] [pl 2 (.pointer (some ⟨g4, 0, none⟩)), pl 6 (.slice A4 groups1.length c4), pl 7 (.slice A5 regions1.length c5), pl 9 (.pointer (some ⟨g6, 0, none⟩)), pl 35 (.slice A4 groups1.length c4), pl 36 (.int .i64 (groups1.length : Int)), pl 37 (.int .i64 z1)] hF rfl (by kernel_rfl) (fun hF => ?_)
          refine then_n ?_
          refine reg [] [] [2, 6, 7, 9, 10, 35, 36, 37] [pl 2 (.pointer (some ⟨g4, 0, none⟩)), pl 6 (.slice A4 groups1.length c4), pl 7 (.slice A5 regions1.length c5), pl 9 (.pointer (some ⟨g6, 0, none⟩)), pl 10 (.int .i64 0), pl 35 (.slice A4 groups1.length c4), pl 36 (.int .i64 (groups1.length : Int)), pl 37 (.int .i64 z1)] hF hS Fol (by kernel_rfl) (by kernel_rfl) (by kernel_rfl) ?_ (fun a w hF hS => ?_)
          · exact obs_nil
          refine seq_cut (fun a w => ∃ (n3 : Int), Fr 110 [pl 2 (.pointer (some ⟨g4, 0, none⟩)), pl 6 (.slice A4 groups1.length c4), pl 7 (.slice A5 regions1.length c5), pl 9 (.pointer (some ⟨g6, 0, none⟩)), pl 10 (.int .i64 n3), pl 35 (.slice A4 groups1.length c4), pl 36 (.int .i64 (groups1.length : Int)), pl 37 (.int .i64 z1)] a ∧ Sep w0 B w (blk g4 24 #[.int .i64 g1, .int .i64 g2, .slice A1 g3.length c1] :: pg3 :: prs encP92 gfP92 cfP92 RelQ92 pg3 92 94 A4 groups1.length c4 raw3 groups1 :: prs encP92 gfP92 cfP92 RelQ92 pg3 92 94 A5 regions1.length c5 raw4 regions1 :: blk g6 92 #[.pointer (some ⟨(getd rzP92 raw3 z1).1, 0, none⟩)] :: fs) ∧ ((stones_Alive_J5 groups1 regions1 z1) n3).bind φ2 = some r) ?_ ?_
          · rintro a w ⟨n3, hF, hS, hm⟩
            unfold stones_Alive_J5 at hm
            refine seq_cut (fun a w => Fr 110 [pl 2 (.pointer (some ⟨g4, 0, none⟩)), pl 6 (.slice A4 groups1.length c4), pl 7 (.slice A5 regions1.length c5), pl 9 (.pointer (some ⟨g6, 0, none⟩))] a ∧ Sep w0 B w (blk g4 24 #[.int .i64 g1, .int .i64 g2, .slice A1 g3.length c1] :: pg3 :: prs encP92 gfP92 cfP92 RelQ92 pg3 92 94 A4 groups1.length c4 raw3 groups1 :: prs encP92 gfP92 cfP92 RelQ92 pg3 92 94 A5 regions1.length c5 raw4 regions1 :: blk g6 92 #[.pointer (some ⟨(getd rzP92 raw3 z1).1, 0, none⟩)] :: fs) ∧ ((stones_Alive_J9 groups1 regions1 z1)).bind φ2 = some r) ?_ ?_
            · rintro a w ⟨hF, hS, hm⟩
              unfold stones_Alive_J9 at hm
              refine seqR ?_
              refine at_run 3 [⟨false, [], vS (Instr.loadAt 92 (.pointer (some ⟨g6, 0, none⟩))), .pointer (some ⟨(getd rzP92 raw3 z1).1, 0, none⟩)⟩] [some (.pointer (some ⟨(getd rzP92 raw3 z1).1, 0, none⟩)), none, none] [2, 6, 7, 9, 71] [pl 2 (.pointer (some ⟨g4, 0, none⟩)), pl 6 (.slice A4 groups1.length c4), pl 7 (.slice A5 regions1.length c5), pl 9 (.pointer (some ⟨g6, 0, none⟩)), pl 71 (.pointer (some ⟨(getd rzP92 raw3 z1).1, 2, none⟩))] hF hS (by kernel_rfl) (by kernel_rfl) ?_ (fun a w hF hS => ?_)
              · exact obs_cons (ob_load Agg92 (fun _ _ hS => (hS.at_ 4 rfl).cell rfl)) <| obs_nil
              have hb5 := (rowb (n := groups1.length) ((hS.at_ 2 rfl).lenPr encPK92) hp1)
              obtain ⟨w, hrun, hS⟩ := run_setPr (P := Try.prog) (t := 4) (j := 2) (u := .bool true) (x := ((getd zP92 groups1 z1).1, (getd zP92 groups1 z1).2.1, true)) rzP92 zP92 (hS.at_ 2 rfl) hb5 rfl hi4 hs4 rfl (by show 2 < 3; decide) rfl (PAll.atM rzP92 zP92 (hS.at_ 2 rfl).prsAll hb5)
              refine at_skip hF (by kernel_rfl) hrun ?_
              have hS : Sep w0 B w (blk g4 24 #[.int .i64 g1, .int .i64 g2, .slice A1 g3.length c1] :: pg3 :: prs encP92 gfP92 cfP92 RelQ92 pg3 92 94 A4 groups1.length c4 raw3 (groups1.set (Int.toNat z1) ((getd zP92 groups1 z1).1, (getd zP92 groups1 z1).2.1, true)) :: prs encP92 gfP92 cfP92 RelQ92 pg3 92 94 A5 regions1.length c5 raw4 regions1 :: blk g6 92 #[.pointer (some ⟨(getd rzP92 raw3 z1).1, 0, none⟩)] :: fs) := hS
              refine at_end [2, 6, 7, 9] [pl 2 (.pointer (some ⟨g4, 0, none⟩)), pl 6 (.slice A4 groups1.length c4), pl 7 (.slice A5 regions1.length c5), pl 9 (.pointer (some ⟨g6, 0, none⟩))] hF rfl (by kernel_rfl) (fun hF => ?_)
              refine then_n ?_
              refine seq_cut (fun a w => ∃ (regions3 : List (List Int × List Int × Bool)), Fr 110 [pl 2 (.pointer (some ⟨g4, 0, none⟩)), pl 6 (.slice A4 groups1.length c4), pl 7 (.slice A5 regions1.length c5)] a ∧ Sep w0 B w (blk g4 24 #[.int .i64 g1, .int .i64 g2, .slice A1 g3.length c1] :: pg3 :: prs encP92 gfP92 cfP92 RelQ92 pg3 92 94 A4 groups1.length c4 raw3 (groups1.set (Int.toNat z1) ((getd zP92 groups1 z1).1, (getd zP92 groups1 z1).2.1, true)) :: prs encP92 gfP92 cfP92 RelQ92 pg3 92 94 A5 regions1.length c5 raw4 regions3 :: fs) ∧ ((stones_Alive_J10 groups1 z1) regions3).bind φ2 = some r) ?_ ?_
              · rintro a w ⟨regions3, hF, hS, hm⟩
                unfold stones_Alive_J10 at hm
                refine wpIn_goto ?_
                refine block_g (then_g (then_g (block_g (then_g (jump_g ?_)))))
                have hl3 := (hS.at_ 2 rfl).lenPr encPK92
                have hS := (hS.at_ 2 rfl).reNPr hl3
                have hS : Sep w0 B w (blk g4 24 #[.int .i64 g1, .int .i64 g2, .slice A1 g3.length c1] :: pg3 :: prs encP92 gfP92 cfP92 RelQ92 pg3 92 94 A4 ((groups1.set (Int.toNat z1) ((getd zP92 groups1 z1).1, (getd zP92 groups1 z1).2.1, true)).length) c4 raw3 (groups1.set (Int.toNat z1) ((getd zP92 groups1 z1).1, (getd zP92 groups1 z1).2.1, true)) :: prs encP92 gfP92 cfP92 RelQ92 pg3 92 94 A5 regions1.length c5 raw4 regions3 :: fs) := hS
                have hF := hF.cast (t := 6) (v := .slice A4 groups1.length c4) (v' := .slice A4 ((groups1.set (Int.toNat z1) ((getd zP92 groups1 z1).1, (getd zP92 groups1 z1).2.1, true)).length) c4) rfl rfl (congrArg (fun k => Value.slice A4 k c4) hl3)
                have hl4 := (hS.at_ 3 rfl).lenPr encPK92
                have hS := (hS.at_ 3 rfl).reNPr hl4
                have hS : Sep w0 B w (blk g4 24 #[.int .i64 g1, .int .i64 g2, .slice A1 g3.length c1] :: pg3 :: prs encP92 gfP92 cfP92 RelQ92 pg3 92 94 A4 ((groups1.set (Int.toNat z1) ((getd zP92 groups1 z1).1, (getd zP92 groups1 z1).2.1, true)).length) c4 raw3 (groups1.set (Int.toNat z1) ((getd zP92 groups1 z1).1, (getd zP92 groups1 z1).2.1, true)) :: prs encP92 gfP92 cfP92 RelQ92 pg3 92 94 A5 regions3.length c5 raw4 regions3 :: fs) := hS
                have hF := hF.cast (t := 7) (v := .slice A5 regions1.length c5) (v' := .slice A5 regions3.length c5) rfl rfl (congrArg (fun k => Value.slice A5 k c5) hl4)
                rw [← hφ2] at hm
                replace hm := done_b hm
                unfold stones_Alive_K2 at hm
                try dsimp only at hm
                have hm : (some (.next ((groups1.set (Int.toNat z1) ((getd zP92 groups1 z1).1, (getd zP92 groups1 z1).2.1, true)), regions3))).bind φ1 = some r := hm
                rw [← hφ1] at hm
                exact ⟨((groups1.set (Int.toNat z1) ((getd zP92 groups1 z1).1, (getd zP92 groups1 z1).2.1, true)), regions3), ⟨pg3, raw3, A4, c4, raw4, A5, c5, hF.weak [2, 6, 7] (by kernel_rfl), hS⟩, hm⟩
              · refine reg [] [] [2, 6, 7, 9, 72, 73, 74] [pl 2 (.pointer (some ⟨g4, 0, none⟩)), pl 6 (.slice A4 groups1.length c4), pl 7 (.slice A5 regions1.length c5), pl 9 (.pointer (some ⟨g6, 0, none⟩)), pl 72 (.slice A5 regions1.length c5), pl 73 (.int .i64 (regions1.length : Int)), pl 74 (.int .i64 0)] hF hS Fol (by kernel_rfl) (by kernel_rfl) (by kernel_rfl) ?_ (fun a w hF hS => ?_)
                · exact obs_nil
                refine wpIn_block ?_
                refine wp_loop_model (S := (List (List Int × List Int × Bool) × Int)) (R := (List (List Int × List Int × Bool))) (stones_Alive_L4 groups1 regions1 z1) (fun x => ((stones_Alive_K4 groups1 z1) x).bind φ2) r (fun (x : (List (List Int × List Int × Bool) × Int)) a w => Fr 110 [pl 2 (.pointer (some ⟨g4, 0, none⟩)), pl 6 (.slice A4 groups1.length c4), pl 7 (.slice A5 regions1.length c5), pl 9 (.pointer (some ⟨g6, 0, none⟩)), pl 72 (.slice A5 regions1.length c5), pl 73 (.int .i64 (regions1.length : Int)), pl 74 (.int .i64 x.2)] a ∧ Sep w0 B w (blk g4 24 #[.int .i64 g1, .int .i64 g2, .slice A1 g3.length c1] :: pg3 :: prs encP92 gfP92 cfP92 RelQ92 pg3 92 94 A4 groups1.length c4 raw3 (groups1.set (Int.toNat z1) ((getd zP92 groups1 z1).1, (getd zP92 groups1 z1).2.1, true)) :: prs encP92 gfP92 cfP92 RelQ92 pg3 92 94 A5 regions1.length c5 raw4 x.1 :: blk g6 92 #[.pointer (some ⟨(getd rzP92 raw3 z1).1, 0, none⟩)] :: fs)) (assoc_b hm) ⟨hF.weak [2, 6, 7, 9, 72, 73, 74] (by kernel_rfl), hS⟩ ?_
                clear hF hS hm
                rintro nn4 ⟨regions2, z4⟩ a w ⟨hF, hS⟩ hm
                generalize hφ4 : stK (stones_Alive_L4 groups1 regions1 z1) nn4 (fun x => ((stones_Alive_K4 groups1 z1) x).bind φ2) = φ4 at hm
                unfold stones_Alive_L4 at hm
                dsimp only at hF hS hm
                refine reg [] [] [2, 6, 7, 9, 72, 73, 74, 75] [pl 2 (.pointer (some ⟨g4, 0, none⟩)), pl 6 (.slice A4 groups1.length c4), pl 7 (.slice A5 regions1.length c5), pl 9 (.pointer (some ⟨g6, 0, none⟩)), pl 72 (.slice A5 regions1.length c5), pl 73 (.int .i64 (regions1.length : Int)), pl 74 (.int .i64 z4), pl 75 (.bool (decide (z4 < (regions1.length : Int))))] hF hS Fol (by kernel_rfl) (by kernel_rfl) (by kernel_rfl) ?_ (fun a w hF hS => ?_)
                · exact obs_nil
                refine seq_cut (fun a w => Fr 110 [pl 2 (.pointer (some ⟨g4, 0, none⟩)), pl 6 (.slice A4 groups1.length c4), pl 7 (.slice A5 regions1.length c5), pl 9 (.pointer (some ⟨g6, 0, none⟩)), pl 72 (.slice A5 regions1.length c5), pl 73 (.int .i64 (regions1.length : Int)), pl 74 (.int .i64 z4)] a ∧ Sep w0 B w (blk g4 24 #[.int .i64 g1, .int .i64 g2, .slice A1 g3.length c1] :: pg3 :: prs encP92 gfP92 cfP92 RelQ92 pg3 92 94 A4 groups1.length c4 raw3 (groups1.set (Int.toNat z1) ((getd zP92 groups1 z1).1, (getd zP92 groups1 z1).2.1, true)) :: prs encP92 gfP92 cfP92 RelQ92 pg3 92 94 A5 regions1.length c5 raw4 regions2 :: blk g6 92 #[.pointer (some ⟨(getd rzP92 raw3 z1).1, 0, none⟩)] :: fs) ∧ ((stones_Alive_J11 groups1 regions1 z1 regions2 z4)).bind φ4 = some r) ?_ ?_
                · rintro a w ⟨hF, hS, hm⟩
                  unfold stones_Alive_J11 at hm
                  refine seq_cut (fun a w => ∃ (regions4 : List (List Int × List Int × Bool)), Fr 110 [pl 2 (.pointer (some ⟨g4, 0, none⟩)), pl 6 (.slice A4 groups1.length c4), pl 7 (.slice A5 regions1.length c5), pl 9 (.pointer (some ⟨g6, 0, none⟩)), pl 72 (.slice A5 regions1.length c5), pl 73 (.int .i64 (regions1.length : Int)), pl 74 (.int .i64 z4)] a ∧ Sep w0 B w (blk g4 24 #[.int .i64 g1, .int .i64 g2, .slice A1 g3.length c1] :: pg3 :: prs encP92 gfP92 cfP92 RelQ92 pg3 92 94 A4 groups1.length c4 raw3 (groups1.set (Int.toNat z1) ((getd zP92 groups1 z1).1, (getd zP92 groups1 z1).2.1, true)) :: prs encP92 gfP92 cfP92 RelQ92 pg3 92 94 A5 regions1.length c5 raw4 regions4 :: blk g6 92 #[.pointer (some ⟨(getd rzP92 raw3 z1).1, 0, none⟩)] :: fs) ∧ ((stones_Alive_J12 z4) regions4).bind φ4 = some r) ?_ ?_
                  · rintro a w ⟨regions4, hF, hS, hm⟩
                    unfold stones_Alive_J12 at hm
                    refine reg1 [] [] [2, 6, 7, 9, 72, 73, 74] [pl 2 (.pointer (some ⟨g4, 0, none⟩)), pl 6 (.slice A4 groups1.length c4), pl 7 (.slice A5 regions1.length c5), pl 9 (.pointer (some ⟨g6, 0, none⟩)), pl 72 (.slice A5 regions1.length c5), pl 73 (.int .i64 (regions1.length : Int)), pl 74 (.int .i64 (w64 (z4 + 1)))] hF hS Fol (by kernel_rfl) (by kernel_rfl) (by kernel_rfl) ?_ (fun a w hF hS => ?_)
                    · exact obs_nil
                    refine then_n ?_
                    rw [← hφ4] at hm
                    exact ⟨(regions4, (w64 (z4 + 1))), ⟨hF.weak [2, 6, 7, 9, 72, 73, 74] (by kernel_rfl), hS⟩, hm⟩
                  · refine wpIn_block ?_
                    obtain ⟨hp3, hm⟩ := asrt_b hm
                    have hg8 := (hS.at_ 3 rfl).prsAll
                    refine reg [⟨true, [], vS (Instr.indexAt 90 (.slice A5 regions1.length c5) (.int .i64 z4)), .pointer (some (sAddrK A5 1 z4))⟩, ⟨false, [], vS (Instr.loadAt 92 (.pointer (some (Addr.add (sAddrK A5 1 z4) 0)))), .pointer (some ⟨(getd rzP92 raw4 z4).1, 0, none⟩)⟩] [some (.pointer (some (sAddrK A5 1 z4))), some (.pointer (some ⟨(getd rzP92 raw4 z4).1, 0, none⟩)), none] [2, 6, 7, 9, 14, 72, 73, 74] [pl 2 (.pointer (some ⟨g4, 0, none⟩)), pl 6 (.slice A4 groups1.length c4), pl 7 (.slice A5 regions1.length c5), pl 9 (.pointer (some ⟨g6, 0, none⟩)), pl 14 (.pointer (some ⟨(getd rzP92 raw4 z4).1, 0, none⟩)), pl 72 (.slice A5 regions1.length c5), pl 73 (.int .i64 (regions1.length : Int)), pl 74 (.int .i64 z4)] hF hS Fol (by kernel_rfl) (by kernel_rfl) (by kernel_rfl) ?_ (fun a w hF hS => ?_)
                    · exact obs_cons (ob_ixK (m := raw4) encPK92 Und90 hi92 hs92 (hS.at_ 3 rfl).rdPr ((hS.at_ 3 rfl).lenPrr encPK92) (fun _ => hp3)) <| obs_cons (ob_getPF (n := regions1.length) (raw := raw4) (j := 0) encPK92 rzP92 Agg92 (fun _ hS => ⟨_, (hS.at_ 3 rfl).rdPr⟩) (fun _ hS => (hS.at_ 3 rfl).lenPrr encPK92) (fun _ => hp3) (by decide) rfl rfl) <| obs_nil
                    refine seqR ?_
                    obtain ⟨r5, hr5, hm⟩ := call_b hm
                    have hg9 := (hS.at_ 3 rfl).prsAll
                    have hb6 := (rowb (n := regions1.length) ((hS.at_ 3 rfl).lenPr encPK92) hp3)
                    refine at_run 5 [⟨false, [], vS (Instr.loadAt 22 (.pointer (some ⟨(getd rzP92 raw4 z4).1, 1, none⟩))), .slice ((getd rzP92 raw4 z4).2.2.1) (((getd zP92 regions2 z4).2.1).length) ((getd rzP92 raw4 z4).2.2.2.2)⟩] [none, none, none, some (.slice ((getd rzP92 raw4 z4).2.2.1) (((getd zP92 regions2 z4).2.1).length) ((getd rzP92 raw4 z4).2.2.2.2)), none] [2, 6, 7, 9, 14, 72, 73, 74, 81, 82] [pl 2 (.pointer (some ⟨g4, 0, none⟩)), pl 6 (.slice A4 groups1.length c4), pl 7 (.slice A5 regions1.length c5), pl 9 (.pointer (some ⟨g6, 0, none⟩)), pl 14 (.pointer (some ⟨(getd rzP92 raw4 z4).1, 0, none⟩)), pl 72 (.slice A5 regions1.length c5), pl 73 (.int .i64 (regions1.length : Int)), pl 74 (.int .i64 z4), pl 81 (.slice ((getd rzP92 raw4 z4).2.2.1) (((getd zP92 regions2 z4).2.1).length) ((getd rzP92 raw4 z4).2.2.2.2)), pl 82 (.func (.func 51) #[] #[.pointer (some ⟨g6, 0, none⟩)])] hF hS (by kernel_rfl) (by kernel_rfl) ?_ (fun a w hF hS => ?_)
                    · exact obs_cons (ob_load Agg22 (fun _ _ hS => (hS.at_ 3 rfl).prCell rzP92 zP92 hb6 rfl rfl 1 _ rfl)) <| obs_nil
                    have hg10 := (hS.at_ 2 rfl).prsAll
                    have hb7 := (rowb (n := groups1.length) ((hS.at_ 2 rfl).lenPr encPK92) hp1)
                    have hS : Sep w0 B w (blk g6 92 #[.pointer (some ⟨(getd rzP92 raw3 z1).1, 0, none⟩)] :: blk g4 24 #[.int .i64 g1, .int .i64 g2, .slice A1 g3.length c1] :: pg3 :: prs encP92 gfP92 cfP92 RelQ92 pg3 92 94 A4 groups1.length c4 raw3 (groups1.set (Int.toNat z1) ((getd zP92 groups1 z1).1, (getd zP92 groups1 z1).2.1, true)) :: prs encP92 gfP92 cfP92 RelQ92 pg3 92 94 A5 regions1.length c5 raw4 regions2 :: fs) := hS.pickN 5 [4, 0, 1, 2, 3] (by decide)
                    refine at_call (f := 50) (args := #[.slice ((getd rzP92 raw4 z4).2.2.1) (((getd zP92 regions2 z4).2.1).length) ((getd rzP92 raw4 z4).2.2.2.2), .func (.func 51) #[] #[.pointer (some ⟨g6, 0, none⟩)]]) (d := 83) hF (by kernel_rfl) (by kernel_rfl) Try.func50 (by kernel_rfl) rfl (show Calls Try.prog 50 #[.slice ((getd rzP92 raw4 z4).2.2.1) (((getd zP92 regions2 z4).2.1).length) ((getd rzP92 raw4 z4).2.2.2.2), .func (.func 51) #[] #[.pointer (some ⟨g6, 0, none⟩)]] w fun e w' => ∃ v, e = .returned v ∧ v = .bool r5 ∧ Sep w0 B w' (blk g6 92 #[.pointer (some ⟨(getd rzP92 raw3 z1).1, 0, none⟩)] :: blk g4 24 #[.int .i64 g1, .int .i64 g2, .slice A1 g3.length c1] :: pg3 :: prs encP92 gfP92 cfP92 RelQ92 pg3 92 94 A4 groups1.length c4 raw3 (groups1.set (Int.toNat z1) ((getd zP92 groups1 z1).1, (getd zP92 groups1 z1).2.1, true)) :: prs encP92 gfP92 cfP92 RelQ92 pg3 92 94 A5 regions1.length c5 raw4 regions2 :: fs) from Calls.mono (slices_ContainsFunc_2_w hr5 hS (fun _ hS => ((PAll.atM rzP92 zP92 hg9 hb6).2.2.2.at_ hS 1 rfl)) (PAll.atM rzP92 zP92 hg9 hb6).2.2.1 rfl (fun _ hS => ((PAll.atM rzP92 zP92 hg10 hb7).1.2.2.at_ hS 1 rfl)) (PAll.atM rzP92 zP92 hg10 hb7).1.2.1 rfl (fun _ hS => ((PAll.atM rzP92 zP92 hg10 hb7).2.2.2.at_ hS 1 rfl)) (PAll.atM rzP92 zP92 hg10 hb7).2.2.1 rfl (fun _ hS => (hS.at_ 2 rfl).prCell rzP92 zP92 hb7 rfl rfl)) (fun e w' h => ⟨_, h.1, rfl, h.2⟩)) (fun v a w hR hF => ?_)
                    clear hS
                    obtain ⟨rfl, hS⟩ := hR
                    have hS : Sep w0 B w (blk g6 92 #[.pointer (some ⟨(getd rzP92 raw3 z1).1, 0, none⟩)] :: blk g4 24 #[.int .i64 g1, .int .i64 g2, .slice A1 g3.length c1] :: pg3 :: prs encP92 gfP92 cfP92 RelQ92 pg3 92 94 A4 groups1.length c4 raw3 (groups1.set (Int.toNat z1) ((getd zP92 groups1 z1).1, (getd zP92 groups1 z1).2.1, true)) :: prs encP92 gfP92 cfP92 RelQ92 pg3 92 94 A5 regions1.length c5 raw4 regions2 :: fs) := hS
                    refine at_end [2, 6, 7, 9, 14, 72, 73, 74, 83] [pl 2 (.pointer (some ⟨g4, 0, none⟩)), pl 6 (.slice A4 groups1.length c4), pl 7 (.slice A5 regions1.length c5), pl 9 (.pointer (some ⟨g6, 0, none⟩)), pl 14 (.pointer (some ⟨(getd rzP92 raw4 z4).1, 0, none⟩)), pl 72 (.slice A5 regions1.length c5), pl 73 (.int .i64 (regions1.length : Int)), pl 74 (.int .i64 z4), pl 83 (.bool r5)] hF rfl (by kernel_rfl) (fun hF => ?_)
                    refine then_n ?_
                    refine cond_ev (t := 83) (b := r5) hF (by kernel_rfl) (fun hb => ?_) (fun hb => ?_)
                    · replace hm := if_t hm hb
                      refine oneR ?_
                      refine at_run 3 [] [] [2, 6, 7, 9, 72, 73, 74, 86] [pl 2 (.pointer (some ⟨g4, 0, none⟩)), pl 6 (.slice A4 groups1.length c4), pl 7 (.slice A5 regions1.length c5), pl 9 (.pointer (some ⟨g6, 0, none⟩)), pl 72 (.slice A5 regions1.length c5), pl 73 (.int .i64 (regions1.length : Int)), pl 74 (.int .i64 z4), pl 86 (.pointer (some ⟨(getd rzP92 raw4 z4).1, 2, none⟩))] hF hS (by kernel_rfl) (by kernel_rfl) ?_ (fun a w hF hS => ?_)
                      · exact obs_nil
                      have hb8 := (rowb (n := regions1.length) ((hS.at_ 4 rfl).lenPr encPK92) hp3)
                      obtain ⟨w, hrun, hS⟩ := run_setPr (P := Try.prog) (t := 4) (j := 2) (u := .bool true) (x := ((getd zP92 regions2 z4).1, (getd zP92 regions2 z4).2.1, true)) rzP92 zP92 (hS.at_ 4 rfl) hb8 rfl hi4 hs4 rfl (by show 2 < 3; decide) rfl (PAll.atM rzP92 zP92 (hS.at_ 4 rfl).prsAll hb8)
                      refine at_skip hF (by kernel_rfl) hrun ?_
                      have hS : Sep w0 B w (blk g6 92 #[.pointer (some ⟨(getd rzP92 raw3 z1).1, 0, none⟩)] :: blk g4 24 #[.int .i64 g1, .int .i64 g2, .slice A1 g3.length c1] :: pg3 :: prs encP92 gfP92 cfP92 RelQ92 pg3 92 94 A4 groups1.length c4 raw3 (groups1.set (Int.toNat z1) ((getd zP92 groups1 z1).1, (getd zP92 groups1 z1).2.1, true)) :: prs encP92 gfP92 cfP92 RelQ92 pg3 92 94 A5 regions1.length c5 raw4 (regions2.set (Int.toNat z4) ((getd zP92 regions2 z4).1, (getd zP92 regions2 z4).2.1, true)) :: fs) := hS
                      refine at_end [2, 6, 7, 9, 72, 73, 74] [pl 2 (.pointer (some ⟨g4, 0, none⟩)), pl 6 (.slice A4 groups1.length c4), pl 7 (.slice A5 regions1.length c5), pl 9 (.pointer (some ⟨g6, 0, none⟩)), pl 72 (.slice A5 regions1.length c5), pl 73 (.int .i64 (regions1.length : Int)), pl 74 (.int .i64 z4)] hF rfl (by kernel_rfl) (fun hF => ?_)
                      refine block_n ?_
                      refine then_n ?_
                      have hS := hS.pickN 5 [1, 2, 3, 4, 0] (by decide)
                      exact ⟨(regions2.set (Int.toNat z4) ((getd zP92 regions2 z4).1, (getd zP92 regions2 z4).2.1, true)), hF.weak [2, 6, 7, 9, 72, 73, 74] (by kernel_rfl), hS, hm⟩
                    · replace hm := if_f hm hb
                      refine wpIn_skip ?_
                      refine block_n ?_
                      refine then_n ?_
                      have hS := hS.pickN 5 [1, 2, 3, 4, 0] (by decide)
                      exact ⟨regions2, hF.weak [2, 6, 7, 9, 72, 73, 74] (by kernel_rfl), hS, hm⟩
                · refine cond_ev (t := 75) (b := decide (z4 < (regions1.length : Int))) hF (by kernel_rfl) (fun hb => ?_) (fun hb => ?_)
                  · replace hm := if_t hm hb
                    refine wpIn_skip ?_
                    refine then_n ?_
                    exact ⟨hF.weak [2, 6, 7, 9, 72, 73, 74] (by kernel_rfl), hS, hm⟩
                  · replace hm := if_f hm hb
                    refine wpIn_exit ?_
                    refine then_e (then_e (block_e (then_n ?_)))
                    have hS := hS.pickN 5 [0, 1, 2, 3] (by decide)
                    rw [← hφ4] at hm
                    replace hm := done_b hm
                    unfold stones_Alive_K4 at hm
                    try dsimp only at hm
                    have hm : ((stones_Alive_J10 groups1 z1) regions2).bind φ2 = some r := hm
                    exact ⟨regions2, hF.weak [2, 6, 7] (by kernel_rfl), hS, hm⟩
            · have hg7 := (hS.at_ 2 rfl).prsAll
              have hb4 := (rowb (n := groups1.length) ((hS.at_ 2 rfl).lenPr encPK92) hp1)
              refine reg [⟨false, [], vS (Instr.loadAt 92 (.pointer (some ⟨g6, 0, none⟩))), .pointer (some ⟨(getd rzP92 raw3 z1).1, 0, none⟩)⟩, ⟨false, [], vS (Instr.loadAt 4 (.pointer (some ⟨(getd rzP92 raw3 z1).1, 2, none⟩))), .bool ((getd zP92 groups1 z1).2.2)⟩] [some (.pointer (some ⟨(getd rzP92 raw3 z1).1, 0, none⟩)), none, none, some (.bool ((getd zP92 groups1 z1).2.2)), none, none, none, none] [2, 6, 7, 9, 35, 36, 37, 68] [pl 2 (.pointer (some ⟨g4, 0, none⟩)), pl 6 (.slice A4 groups1.length c4), pl 7 (.slice A5 regions1.length c5), pl 9 (.pointer (some ⟨g6, 0, none⟩)), pl 35 (.slice A4 groups1.length c4), pl 36 (.int .i64 (groups1.length : Int)), pl 37 (.int .i64 z1), pl 68 (.bool (((getd zP92 groups1 z1).2.2) || (decide ((2 : Int) ≤ n3))))] hF hS Fol (by kernel_rfl) (by kernel_rfl) (by kernel_rfl) ?_ (fun a w hF hS => ?_)
              · exact obs_cons (ob_load Agg92 (fun _ _ hS => (hS.at_ 4 rfl).cell rfl)) <| obs_cons (ob_load Agg4 (fun _ _ hS => (hS.at_ 2 rfl).prCell rzP92 zP92 hb4 rfl rfl 2 _ rfl)) <| obs_nil
              refine cond_ev (t := 68) (b := ((getd zP92 groups1 z1).2.2) || (decide ((2 : Int) ≤ n3))) hF (by kernel_rfl) (fun hb => ?_) (fun hb => ?_)
              · replace hm := if_t hm hb
                refine wpIn_exit ?_
                refine then_e (block_e (then_n ?_))
                have hS := hS.pickN 5 [0, 1, 2, 3] (by decide)
                exact ⟨hF.weak [2, 6, 7, 35, 36, 37] (by kernel_rfl), hS, hm⟩
              · replace hm := if_f hm hb
                refine wpIn_skip ?_
                refine then_n ?_
                exact ⟨hF.weak [2, 6, 7, 9] (by kernel_rfl), hS, hm⟩
          · refine reg [] [] [2, 6, 7, 9, 10, 35, 36, 37, 41, 42, 43] [pl 2 (.pointer (some ⟨g4, 0, none⟩)), pl 6 (.slice A4 groups1.length c4), pl 7 (.slice A5 regions1.length c5), pl 9 (.pointer (some ⟨g6, 0, none⟩)), pl 10 (.int .i64 0), pl 35 (.slice A4 groups1.length c4), pl 36 (.int .i64 (groups1.length : Int)), pl 37 (.int .i64 z1), pl 41 (.slice A5 regions1.length c5), pl 42 (.int .i64 (regions1.length : Int)), pl 43 (.int .i64 0)] hF hS Fol (by kernel_rfl) (by kernel_rfl) (by kernel_rfl) ?_ (fun a w hF hS => ?_)
            · exact obs_nil
            refine wpIn_block ?_
            have hS := hS.pickN 5 [1, 2, 3, 4, 0] (by decide)
            refine wp_loop_model (S := (Int × Int)) (R := Int) (stones_Alive_L3 g1 g2 g3 groups1 regions1 z1) (fun x => ((stones_Alive_K3 groups1 regions1 z1) x).bind φ2) r (fun (x : (Int × Int)) a w => Fr 110 [pl 2 (.pointer (some ⟨g4, 0, none⟩)), pl 6 (.slice A4 groups1.length c4), pl 7 (.slice A5 regions1.length c5), pl 9 (.pointer (some ⟨g6, 0, none⟩)), pl 10 (.int .i64 x.1), pl 35 (.slice A4 groups1.length c4), pl 36 (.int .i64 (groups1.length : Int)), pl 37 (.int .i64 z1), pl 41 (.slice A5 regions1.length c5), pl 42 (.int .i64 (regions1.length : Int)), pl 43 (.int .i64 x.2)] a ∧ Sep w0 B w (blk g4 24 #[.int .i64 g1, .int .i64 g2, .slice A1 g3.length c1] :: pg3 :: prs encP92 gfP92 cfP92 RelQ92 pg3 92 94 A4 groups1.length c4 raw3 groups1 :: prs encP92 gfP92 cfP92 RelQ92 pg3 92 94 A5 regions1.length c5 raw4 regions1 :: blk g6 92 #[.pointer (some ⟨(getd rzP92 raw3 z1).1, 0, none⟩)] :: fs)) (assoc_b hm) ⟨hF.weak [2, 6, 7, 9, 10, 35, 36, 37, 41, 42, 43] (by kernel_rfl), hS⟩ ?_
            clear hF hS hm
            rintro nn3 ⟨n2, z2⟩ a w ⟨hF, hS⟩ hm
            generalize hφ3 : stK (stones_Alive_L3 g1 g2 g3 groups1 regions1 z1) nn3 (fun x => ((stones_Alive_K3 groups1 regions1 z1) x).bind φ2) = φ3 at hm
            unfold stones_Alive_L3 at hm
            dsimp only at hF hS hm
            refine reg [] [] [2, 6, 7, 9, 10, 35, 36, 37, 41, 42, 43, 44] [pl 2 (.pointer (some ⟨g4, 0, none⟩)), pl 6 (.slice A4 groups1.length c4), pl 7 (.slice A5 regions1.length c5), pl 9 (.pointer (some ⟨g6, 0, none⟩)), pl 10 (.int .i64 n2), pl 35 (.slice A4 groups1.length c4), pl 36 (.int .i64 (groups1.length : Int)), pl 37 (.int .i64 z1), pl 41 (.slice A5 regions1.length c5), pl 42 (.int .i64 (regions1.length : Int)), pl 43 (.int .i64 z2), pl 44 (.bool (decide (z2 < (regions1.length : Int))))] hF hS Fol (by kernel_rfl) (by kernel_rfl) (by kernel_rfl) ?_ (fun a w hF hS => ?_)
            · exact obs_nil
            refine seq_cut (fun a w => Fr 110 [pl 2 (.pointer (some ⟨g4, 0, none⟩)), pl 6 (.slice A4 groups1.length c4), pl 7 (.slice A5 regions1.length c5), pl 9 (.pointer (some ⟨g6, 0, none⟩)), pl 10 (.int .i64 n2), pl 35 (.slice A4 groups1.length c4), pl 36 (.int .i64 (groups1.length : Int)), pl 37 (.int .i64 z1), pl 41 (.slice A5 regions1.length c5), pl 42 (.int .i64 (regions1.length : Int)), pl 43 (.int .i64 z2)] a ∧ Sep w0 B w (blk g4 24 #[.int .i64 g1, .int .i64 g2, .slice A1 g3.length c1] :: pg3 :: prs encP92 gfP92 cfP92 RelQ92 pg3 92 94 A4 groups1.length c4 raw3 groups1 :: prs encP92 gfP92 cfP92 RelQ92 pg3 92 94 A5 regions1.length c5 raw4 regions1 :: blk g6 92 #[.pointer (some ⟨(getd rzP92 raw3 z1).1, 0, none⟩)] :: fs) ∧ ((stones_Alive_J6 g1 g2 g3 groups1 regions1 z1 n2 z2)).bind φ3 = some r) ?_ ?_
            · rintro a w ⟨hF, hS, hm⟩
              unfold stones_Alive_J6 at hm
              refine seq_cut (fun a w => ∃ (n4 : Int), Fr 110 [pl 2 (.pointer (some ⟨g4, 0, none⟩)), pl 6 (.slice A4 groups1.length c4), pl 7 (.slice A5 regions1.length c5), pl 9 (.pointer (some ⟨g6, 0, none⟩)), pl 10 (.int .i64 n4), pl 35 (.slice A4 groups1.length c4), pl 36 (.int .i64 (groups1.length : Int)), pl 37 (.int .i64 z1), pl 41 (.slice A5 regions1.length c5), pl 42 (.int .i64 (regions1.length : Int)), pl 43 (.int .i64 z2)] a ∧ Sep w0 B w (blk g4 24 #[.int .i64 g1, .int .i64 g2, .slice A1 g3.length c1] :: pg3 :: prs encP92 gfP92 cfP92 RelQ92 pg3 92 94 A4 groups1.length c4 raw3 groups1 :: prs encP92 gfP92 cfP92 RelQ92 pg3 92 94 A5 regions1.length c5 raw4 regions1 :: blk g6 92 #[.pointer (some ⟨(getd rzP92 raw3 z1).1, 0, none⟩)] :: fs) ∧ ((stones_Alive_J7 z2) n4).bind φ3 = some r) ?_ ?_
              · rintro a w ⟨n4, hF, hS, hm⟩
                unfold stones_Alive_J7 at hm
                refine reg1 [] [] [2, 6, 7, 9, 10, 35, 36, 37, 41, 42, 43] [pl 2 (.pointer (some ⟨g4, 0, none⟩)), pl 6 (.slice A4 groups1.length c4), pl 7 (.slice A5 regions1.length c5), pl 9 (.pointer (some ⟨g6, 0, none⟩)), pl 10 (.int .i64 n4), pl 35 (.slice A4 groups1.length c4), pl 36 (.int .i64 (groups1.length : Int)), pl 37 (.int .i64 z1), pl 41 (.slice A5 regions1.length c5), pl 42 (.int .i64 (regions1.length : Int)), pl 43 (.int .i64 (w64 (z2 + 1)))] hF hS Fol (by kernel_rfl) (by kernel_rfl) (by kernel_rfl) ?_ (fun a w hF hS => ?_)
                · exact obs_nil
                refine then_n ?_
                rw [← hφ3] at hm
                exact ⟨(n4, (w64 (z2 + 1))), ⟨hF.weak [2, 6, 7, 9, 10, 35, 36, 37, 41, 42, 43] (by kernel_rfl), hS⟩, hm⟩
              · refine wpIn_block ?_
                obtain ⟨hp2, hm⟩ := asrt_b hm
                have hg2 := (hS.at_ 3 rfl).prsAll
                refine reg [⟨true, [], vS (Instr.indexAt 90 (.slice A5 regions1.length c5) (.int .i64 z2)), .pointer (some (sAddrK A5 1 z2))⟩, ⟨false, [], vS (Instr.loadAt 92 (.pointer (some (Addr.add (sAddrK A5 1 z2) 0)))), .pointer (some ⟨(getd rzP92 raw4 z2).1, 0, none⟩)⟩] [some (.pointer (some (sAddrK A5 1 z2))), some (.pointer (some ⟨(getd rzP92 raw4 z2).1, 0, none⟩)), none] [2, 6, 7, 9, 10, 12, 35, 36, 37, 41, 42, 43] [pl 2 (.pointer (some ⟨g4, 0, none⟩)), pl 6 (.slice A4 groups1.length c4), pl 7 (.slice A5 regions1.length c5), pl 9 (.pointer (some ⟨g6, 0, none⟩)), pl 10 (.int .i64 n2), pl 12 (.pointer (some ⟨(getd rzP92 raw4 z2).1, 0, none⟩)), pl 35 (.slice A4 groups1.length c4), pl 36 (.int .i64 (groups1.length : Int)), pl 37 (.int .i64 z1), pl 41 (.slice A5 regions1.length c5), pl 42 (.int .i64 (regions1.length : Int)), pl 43 (.int .i64 z2)] hF hS Fol (by kernel_rfl) (by kernel_rfl) (by kernel_rfl) ?_ (fun a w hF hS => ?_)
                · exact obs_cons (ob_ixK (m := raw4) encPK92 Und90 hi92 hs92 (hS.at_ 3 rfl).rdPr ((hS.at_ 3 rfl).lenPrr encPK92) (fun _ => hp2)) <| obs_cons (ob_getPF (n := regions1.length) (raw := raw4) (j := 0) encPK92 rzP92 Agg92 (fun _ hS => ⟨_, (hS.at_ 3 rfl).rdPr⟩) (fun _ hS => (hS.at_ 3 rfl).lenPrr encPK92) (fun _ => hp2) (by decide) rfl rfl) <| obs_nil
                refine seq_cut (fun a w => ∃ (z3 : Bool), Fr 110 [pl 2 (.pointer (some ⟨g4, 0, none⟩)), pl 6 (.slice A4 groups1.length c4), pl 7 (.slice A5 regions1.length c5), pl 9 (.pointer (some ⟨g6, 0, none⟩)), pl 10 (.int .i64 n2), pl 35 (.slice A4 groups1.length c4), pl 36 (.int .i64 (groups1.length : Int)), pl 37 (.int .i64 z1), pl 41 (.slice A5 regions1.length c5), pl 42 (.int .i64 (regions1.length : Int)), pl 43 (.int .i64 z2), pl 57 (.bool z3)] a ∧ Sep w0 B w (blk g4 24 #[.int .i64 g1, .int .i64 g2, .slice A1 g3.length c1] :: pg3 :: prs encP92 gfP92 cfP92 RelQ92 pg3 92 94 A4 groups1.length c4 raw3 groups1 :: prs encP92 gfP92 cfP92 RelQ92 pg3 92 94 A5 regions1.length c5 raw4 regions1 :: blk g6 92 #[.pointer (some ⟨(getd rzP92 raw3 z1).1, 0, none⟩)] :: fs) ∧ ((stones_Alive_J8 n2 z2) z3).bind φ3 = some r) ?_ ?_
                · rintro a w ⟨z3, hF, hS, hm⟩
                  unfold stones_Alive_J8 at hm
                  refine cond_ev (t := 57) (b := z3) hF (by kernel_rfl) (fun hb => ?_) (fun hb => ?_)
                  · replace hm := if_t hm hb
                    refine reg1 [] [] [2, 6, 7, 9, 10, 35, 36, 37, 41, 42, 43] [pl 2 (.pointer (some ⟨g4, 0, none⟩)), pl 6 (.slice A4 groups1.length c4), pl 7 (.slice A5 regions1.length c5), pl 9 (.pointer (some ⟨g6, 0, none⟩)), pl 10 (.int .i64 (w64 (n2 + 1))), pl 35 (.slice A4 groups1.length c4), pl 36 (.int .i64 (groups1.length : Int)), pl 37 (.int .i64 z1), pl 41 (.slice A5 regions1.length c5), pl 42 (.int .i64 (regions1.length : Int)), pl 43 (.int .i64 z2)] hF hS Fol (by kernel_rfl) (by kernel_rfl) (by kernel_rfl) ?_ (fun a w hF hS => ?_)
                    · exact obs_nil
                    refine block_n ?_
                    refine then_n ?_
                    exact ⟨(w64 (n2 + 1)), hF.weak [2, 6, 7, 9, 10, 35, 36, 37, 41, 42, 43] (by kernel_rfl), hS, hm⟩
                  · replace hm := if_f hm hb
                    refine wpIn_skip ?_
                    refine block_n ?_
                    refine then_n ?_
                    exact ⟨n2, hF.weak [2, 6, 7, 9, 10, 35, 36, 37, 41, 42, 43] (by kernel_rfl), hS, hm⟩
                · refine oneR ?_
                  have hg3 := (hS.at_ 3 rfl).prsAll
                  have hb1 := (rowb (n := regions1.length) ((hS.at_ 3 rfl).lenPr encPK92) hp2)
                  refine at_run 9 [⟨false, [], vS (Instr.loadAt 4 (.pointer (some ⟨(getd rzP92 raw4 z2).1, 2, none⟩))), .bool ((getd zP92 regions1 z2).2.2)⟩, ⟨false, [(!((getd zP92 regions1 z2).2.2), true)], vS (Instr.loadAt 24 (.pointer (some ⟨g4, 0, none⟩))), .agg #[.int .i64 g1, .int .i64 g2, .slice A1 g3.length c1]⟩, ⟨false, [(!((getd zP92 regions1 z2).2.2), true)], vS (Instr.loadAt 92 (.pointer (some ⟨g6, 0, none⟩))), .pointer (some ⟨(getd rzP92 raw3 z1).1, 0, none⟩)⟩] [none, none, none, some (.bool ((getd zP92 regions1 z2).2.2)), none, none, some (.agg #[.int .i64 g1, .int .i64 g2, .slice A1 g3.length c1]), none, some (.pointer (some ⟨(getd rzP92 raw3 z1).1, 0, none⟩))] [2, 6, 7, 9, 10, 35, 36, 37, 41, 42, 43, 52, 53, 54, 55] [pl 2 (.pointer (some ⟨g4, 0, none⟩)), pl 6 (.slice A4 groups1.length c4), pl 7 (.slice A5 regions1.length c5), pl 9 (.pointer (some ⟨g6, 0, none⟩)), pl 10 (.int .i64 n2), pl 35 (.slice A4 groups1.length c4), pl 36 (.int .i64 (groups1.length : Int)), pl 37 (.int .i64 z1), pl 41 (.slice A5 regions1.length c5), pl 42 (.int .i64 (regions1.length : Int)), pl 43 (.int .i64 z2), pl 52 (.bool (!((getd zP92 regions1 z2).2.2))), ⟨53, [(52, true)], .agg #[.int .i64 g1, .int .i64 g2, .slice A1 g3.length c1]⟩, ⟨54, [(52, true)], .pointer (some ⟨(getd rzP92 raw4 z2).1, 0, none⟩)⟩, ⟨55, [(52, true)], .pointer (some ⟨(getd rzP92 raw3 z1).1, 0, none⟩)⟩] hF hS (by kernel_rfl) (by kernel_rfl) ?_ (fun a w hF hS => ?_)
                  · exact obs_cons (ob_load Agg4 (fun _ _ hS => (hS.at_ 3 rfl).prCell rzP92 zP92 hb1 rfl rfl 2 _ rfl)) <| obs_cons (ob_loadA (cs := #[.int .i64 g1, .int .i64 g2, .slice A1 g3.length c1]) (by kernel_rfl) (by kernel_rfl) (fun _ _ hS => (hS.at_ 0 rfl).cellsAt 0 (by rfl))) <| obs_cons (ob_load Agg92 (fun _ _ hS => (hS.at_ 4 rfl).cell rfl)) <| obs_nil
                  rcases Bool.eq_false_or_eq_true (!((getd zP92 regions1 z2).2.2)) with hg4 | hg4
                  · replace hm := if_t hm hg4
                    obtain ⟨r4, hr4, hm⟩ := call_b hm
                    have hg5 := (hS.at_ 3 rfl).prsAll
                    have hb2 := (rowb (n := regions1.length) ((hS.at_ 3 rfl).lenPr encPK92) hp2)
                    have hg6 := (hS.at_ 2 rfl).prsAll
                    have hb3 := (rowb (n := groups1.length) ((hS.at_ 2 rfl).lenPr encPK92) hp1)
                    refine at_gcall (hs := [(!((getd zP92 regions1 z2).2.2), true)]) (fun y hy => by simp only [List.mem_cons, List.not_mem_nil, or_false] at hy; subst hy; first | exact hg4) (f := 49) (args := #[.agg #[.int .i64 g1, .int .i64 g2, .slice A1 g3.length c1], .pointer (some ⟨(getd rzP92 raw4 z2).1, 0, none⟩), .pointer (some ⟨(getd rzP92 raw3 z1).1, 0, none⟩)]) (d := 56) hF (by kernel_rfl) (by kernel_rfl) Try.func49 (by kernel_rfl) rfl (show Calls Try.prog 49 #[.agg #[.int .i64 g1, .int .i64 g2, .slice A1 g3.length c1], .pointer (some ⟨(getd rzP92 raw4 z2).1, 0, none⟩), .pointer (some ⟨(getd rzP92 raw3 z1).1, 0, none⟩)] w fun e w' => ∃ v, e = .returned v ∧ v = .bool r4 ∧ Sep w0 B w' (blk g4 24 #[.int .i64 g1, .int .i64 g2, .slice A1 g3.length c1] :: pg3 :: prs encP92 gfP92 cfP92 RelQ92 pg3 92 94 A4 groups1.length c4 raw3 groups1 :: prs encP92 gfP92 cfP92 RelQ92 pg3 92 94 A5 regions1.length c5 raw4 regions1 :: blk g6 92 #[.pointer (some ⟨(getd rzP92 raw3 z1).1, 0, none⟩)] :: fs) from Calls.mono (stones_vital_w hr4 hS (fun _ hS => (hr_g3 _ (hS.dropN 5))) _hc_g3 rfl (fun _ hS => ((PAll.atM rzP92 zP92 hg5 hb2).1.2.2.at_ hS 1 rfl)) (PAll.atM rzP92 zP92 hg5 hb2).1.2.1 rfl (fun _ hS => ((PAll.atM rzP92 zP92 hg5 hb2).2.2.2.at_ hS 1 rfl)) (PAll.atM rzP92 zP92 hg5 hb2).2.2.1 rfl (fun _ hS => ((PAll.atM rzP92 zP92 hg6 hb3).1.2.2.at_ hS 1 rfl)) (PAll.atM rzP92 zP92 hg6 hb3).1.2.1 rfl (fun _ hS => ((PAll.atM rzP92 zP92 hg6 hb3).2.2.2.at_ hS 1 rfl)) (PAll.atM rzP92 zP92 hg6 hb3).2.2.1 rfl (fun _ hS => (hS.at_ 3 rfl).prCell rzP92 zP92 hb2 rfl rfl) (fun _ hS => (hS.at_ 2 rfl).prCell rzP92 zP92 hb3 rfl rfl)) (fun e w' h => ⟨_, h.1, rfl, h.2⟩)) (fun v a w hR hF => ?_)
                    clear hS
                    obtain ⟨rfl, hS⟩ := hR
                    have hS : Sep w0 B w (blk g4 24 #[.int .i64 g1, .int .i64 g2, .slice A1 g3.length c1] :: pg3 :: prs encP92 gfP92 cfP92 RelQ92 pg3 92 94 A4 groups1.length c4 raw3 groups1 :: prs encP92 gfP92 cfP92 RelQ92 pg3 92 94 A5 regions1.length c5 raw4 regions1 :: blk g6 92 #[.pointer (some ⟨(getd rzP92 raw3 z1).1, 0, none⟩)] :: fs) := hS
                    refine at_run 1 [] [] [2, 6, 7, 9, 10, 35, 36, 37, 41, 42, 43, 57] [pl 2 (.pointer (some ⟨g4, 0, none⟩)), pl 6 (.slice A4 groups1.length c4), pl 7 (.slice A5 regions1.length c5), pl 9 (.pointer (some ⟨g6, 0, none⟩)), pl 10 (.int .i64 n2), pl 35 (.slice A4 groups1.length c4), pl 36 (.int .i64 (groups1.length : Int)), pl 37 (.int .i64 z1), pl 41 (.slice A5 regions1.length c5), pl 42 (.int .i64 (regions1.length : Int)), pl 43 (.int .i64 z2), pl 57 (.bool ((!((getd zP92 regions1 z2).2.2)) && r4))] hF hS (by kernel_rfl) (by kernel_rfl) ?_ (fun a w hF hS => ?_)
                    · exact obs_nil
                    refine at_end [2, 6, 7, 9, 10, 35, 36, 37, 41, 42, 43, 57] [pl 2 (.pointer (some ⟨g4, 0, none⟩)), pl 6 (.slice A4 groups1.length c4), pl 7 (.slice A5 regions1.length c5), pl 9 (.pointer (some ⟨g6, 0, none⟩)), pl 10 (.int .i64 n2), pl 35 (.slice A4 groups1.length c4), pl 36 (.int .i64 (groups1.length : Int)), pl 37 (.int .i64 z1), pl 41 (.slice A5 regions1.length c5), pl 42 (.int .i64 (regions1.length : Int)), pl 43 (.int .i64 z2), pl 57 (.bool ((!((getd zP92 regions1 z2).2.2)) && r4))] hF rfl (by kernel_rfl) (fun hF => ?_)
                    refine then_n ?_
                    exact ⟨((!((getd zP92 regions1 z2).2.2)) && r4), hF.weak [2, 6, 7, 9, 10, 35, 36, 37, 41, 42, 43, 57] (by kernel_rfl), hS, hm⟩
                  · replace hm := if_f hm hg4
                    refine at_gskip (d := 56) (v := .bool false) (hs := [(!((getd zP92 regions1 z2).2.2), true)]) (ctx := [(52, true)]) hF (by kernel_rfl) (by kernel_rfl) (fun h => absurd (h (!((getd zP92 regions1 z2).2.2), true) (by simp)) (by first | exact fun hz => Bool.noConfusion (Eq.trans (Eq.symm hg4) hz) | simp [hg4])) (fun a hF => ?_)
                    refine at_run 1 [] [] [2, 6, 7, 9, 10, 35, 36, 37, 41, 42, 43, 57] [pl 2 (.pointer (some ⟨g4, 0, none⟩)), pl 6 (.slice A4 groups1.length c4), pl 7 (.slice A5 regions1.length c5), pl 9 (.pointer (some ⟨g6, 0, none⟩)), pl 10 (.int .i64 n2), pl 35 (.slice A4 groups1.length c4), pl 36 (.int .i64 (groups1.length : Int)), pl 37 (.int .i64 z1), pl 41 (.slice A5 regions1.length c5), pl 42 (.int .i64 (regions1.length : Int)), pl 43 (.int .i64 z2), pl 57 (.bool ((!((getd zP92 regions1 z2).2.2)) && false))] hF hS (by kernel_rfl) (by kernel_rfl) ?_ (fun a w hF hS => ?_)
                    · exact obs_nil
                    refine at_end [2, 6, 7, 9, 10, 35, 36, 37, 41, 42, 43, 57] [pl 2 (.pointer (some ⟨g4, 0, none⟩)), pl 6 (.slice A4 groups1.length c4), pl 7 (.slice A5 regions1.length c5), pl 9 (.pointer (some ⟨g6, 0, none⟩)), pl 10 (.int .i64 n2), pl 35 (.slice A4 groups1.length c4), pl 36 (.int .i64 (groups1.length : Int)), pl 37 (.int .i64 z1), pl 41 (.slice A5 regions1.length c5), pl 42 (.int .i64 (regions1.length : Int)), pl 43 (.int .i64 z2), pl 57 (.bool ((!((getd zP92 regions1 z2).2.2)) && false))] hF rfl (by kernel_rfl) (fun hF => ?_)
                    refine then_n ?_
                    exact ⟨((!((getd zP92 regions1 z2).2.2)) && false), hF.weak [2, 6, 7, 9, 10, 35, 36, 37, 41, 42, 43, 57] (by kernel_rfl), hS, hm⟩
            · refine cond_ev (t := 44) (b := decide (z2 < (regions1.length : Int))) hF (by kernel_rfl) (fun hb => ?_) (fun hb => ?_)
              · replace hm := if_t hm hb
                refine wpIn_skip ?_
                refine then_n ?_
                exact ⟨hF.weak [2, 6, 7, 9, 10, 35, 36, 37, 41, 42, 43] (by kernel_rfl), hS, hm⟩
              · replace hm := if_f hm hb
                refine wpIn_exit ?_
                refine then_e (then_e (block_e (then_n ?_)))
                rw [← hφ3] at hm
                replace hm := done_b hm
                unfold stones_Alive_K3 at hm
                try dsimp only at hm
                have hm : ((stones_Alive_J5 groups1 regions1 z1) n2).bind φ2 = some r := hm
                exact ⟨n2, hF.weak [2, 6, 7, 9, 10, 35, 36, 37] (by kernel_rfl), hS, hm⟩
      · refine cond_ev (t := 38) (b := decide (z1 < (groups1.length : Int))) hF (by kernel_rfl) (fun hb => ?_) (fun hb => ?_)
        · replace hm := if_t hm hb
          refine wpIn_skip ?_
          refine then_n ?_
          exact ⟨hF.weak [2, 6, 7, 35, 36, 37] (by kernel_rfl), hS, hm⟩
        · replace hm := if_f hm hb
          refine wpIn_exit ?_
          refine then_e (then_e (block_e (then_n ?_)))
          have hS := hS.pickN 4 [1, 2] (by decide)
          rw [← hφ2] at hm
          replace hm := done_b hm
          unfold stones_Alive_K2 at hm
          try dsimp only at hm
          have hm : ((stones_Alive_J2 groups1)).bind φ1 = some r := hm
          exact ⟨hF.weak [6] (by kernel_rfl), hS, hm⟩
  · refine seq_cut (fun a w => Fr 110 [pl 2 (.pointer (some ⟨g4, 0, none⟩)), pl 3 (.pointer (some ⟨g5, 0, none⟩))] a ∧ Sep w0 B w (blk g4 24 #[.int .i64 g1, .int .i64 g2, .slice A1 g3.length c1] :: blk g5 3 #[.int .i64 who1] :: fs) ∧ ((stones_Alive_J1 g1 g2 g3 who1)).bind some = some r) ?_ ?_
    · rintro a w ⟨hF, hS, hm⟩
      unfold stones_Alive_J1 at hm
      refine seqR ?_
      obtain ⟨r2, hr2, hm⟩ := call_b hm
      refine at_run 2 [⟨false, [], vS (Instr.loadAt 24 (.pointer (some ⟨g4, 0, none⟩))), .agg #[.int .i64 g1, .int .i64 g2, .slice A1 g3.length c1]⟩] [some (.agg #[.int .i64 g1, .int .i64 g2, .slice A1 g3.length c1]), none] [2, 3, 29, 30] [pl 2 (.pointer (some ⟨g4, 0, none⟩)), pl 3 (.pointer (some ⟨g5, 0, none⟩)), pl 29 (.agg #[.int .i64 g1, .int .i64 g2, .slice A1 g3.length c1]), pl 30 (.func (.func 47) #[] #[.pointer (some ⟨g5, 0, none⟩)])] hF hS (by kernel_rfl) (by kernel_rfl) ?_ (fun a w hF hS => ?_)
      · exact obs_cons (ob_loadA (cs := #[.int .i64 g1, .int .i64 g2, .slice A1 g3.length c1]) (by kernel_rfl) (by kernel_rfl) (fun _ _ hS => (hS.at_ 0 rfl).cellsAt 0 (by rfl))) <| obs_nil
      have hS : Sep w0 B w (blk g5 3 #[.int .i64 who1] :: blk g4 24 #[.int .i64 g1, .int .i64 g2, .slice A1 g3.length c1] :: fs) := hS.pickN 2 [1, 0] (by decide)
      refine at_call (f := 46) (args := #[.agg #[.int .i64 g1, .int .i64 g2, .slice A1 g3.length c1], .func (.func 47) #[] #[.pointer (some ⟨g5, 0, none⟩)]]) (d := 31) hF (by kernel_rfl) (by kernel_rfl) Try.func46 (by kernel_rfl) rfl (stones_parts_w hr2 hS (fun _ hS => (hr_g3 _ (hS.dropN 1))) _hc_g3 rfl) (fun v a w hR hF => ?_)
      clear hS
      obtain ⟨pg1, A2, c2, raw1, rfl, hS⟩ := hR
      have hS : Sep w0 B w (blk g5 3 #[.int .i64 who1] :: pg1 :: prs encP92 gfP92 cfP92 RelQ92 pg1 92 94 A2 r2.length c2 raw1 r2 :: blk g4 24 #[.int .i64 g1, .int .i64 g2, .slice A1 g3.length c1] :: fs) := hS
      refine at_run 1 [] [] [2, 3, 6] [pl 2 (.pointer (some ⟨g4, 0, none⟩)), pl 3 (.pointer (some ⟨g5, 0, none⟩)), pl 6 (.slice A2 r2.length c2)] hF hS (by kernel_rfl) (by kernel_rfl) ?_ (fun a w hF hS => ?_)
      · exact obs_nil
      refine at_end [2, 3, 6] [pl 2 (.pointer (some ⟨g4, 0, none⟩)), pl 3 (.pointer (some ⟨g5, 0, none⟩)), pl 6 (.slice A2 r2.length c2)] hF rfl (by kernel_rfl) (fun hF => ?_)
      refine then_n ?_
      refine seqR ?_
      obtain ⟨r3, hr3, hm⟩ := call_b hm
      refine at_run 2 [⟨false, [], vS (Instr.loadAt 24 (.pointer (some ⟨g4, 0, none⟩))), .agg #[.int .i64 g1, .int .i64 g2, .slice A1 g3.length c1]⟩] [some (.agg #[.int .i64 g1, .int .i64 g2, .slice A1 g3.length c1]), none] [2, 6, 32, 33] [pl 2 (.pointer (some ⟨g4, 0, none⟩)), pl 6 (.slice A2 r2.length c2), pl 32 (.agg #[.int .i64 g1, .int .i64 g2, .slice A1 g3.length c1]), pl 33 (.func (.func 48) #[] #[.pointer (some ⟨g5, 0, none⟩)])] hF hS (by kernel_rfl) (by kernel_rfl) ?_ (fun a w hF hS => ?_)
      · exact obs_cons (ob_loadA (cs := #[.int .i64 g1, .int .i64 g2, .slice A1 g3.length c1]) (by kernel_rfl) (by kernel_rfl) (fun _ _ hS => (hS.at_ 3 rfl).cellsAt 0 (by rfl))) <| obs_nil
      refine at_call (f := 46) (args := #[.agg #[.int .i64 g1, .int .i64 g2, .slice A1 g3.length c1], .func (.func 48) #[] #[.pointer (some ⟨g5, 0, none⟩)]]) (d := 34) hF (by kernel_rfl) (by kernel_rfl) Try.func46 (by kernel_rfl) rfl (stones_parts_2_w hr3 hS (fun _ hS => (hr_g3 _ (hS.dropN 3))) _hc_g3 rfl) (fun v a w hR hF => ?_)
      clear hS
      obtain ⟨pg2, A3, c3, raw2, rfl, hS⟩ := hR
      have hS : Sep w0 B w (blk g5 3 #[.int .i64 who1] :: pg2 :: prs encP92 gfP92 cfP92 RelQ92 pg2 92 94 A3 r3.length c3 raw2 r3 :: pg1 :: prs encP92 gfP92 cfP92 RelQ92 pg1 92 94 A2 r2.length c2 raw1 r2 :: blk g4 24 #[.int .i64 g1, .int .i64 g2, .slice A1 g3.length c1] :: fs) := hS
      have hS := hS.pickN 6 [1, 3, 0, 2, 4, 5] (by decide)
      have hS : Sep w0 B w ((twoB pg2 pg1) :: blk g5 3 #[.int .i64 who1] :: prs encP92 gfP92 cfP92 RelQ92 pg2 92 94 A3 r3.length c3 raw2 r3 :: prs encP92 gfP92 cfP92 RelQ92 pg1 92 94 A2 r2.length c2 raw1 r2 :: blk g4 24 #[.int .i64 g1, .int .i64 g2, .slice A1 g3.length c1] :: fs) := hS.two
      have hS : Sep w0 B w ((twoB pg2 pg1) :: blk g5 3 #[.int .i64 who1] :: prs encP92 gfP92 cfP92 RelQ92 pg2 92 94 A3 r3.length c3 raw2 r3 :: prs encP92 gfP92 cfP92 RelQ92 (twoB pg2 pg1) 92 94 A2 r2.length c2 raw1 r2 :: blk g4 24 #[.int .i64 g1, .int .i64 g2, .slice A1 g3.length c1] :: fs) := (hS.at_ 3 rfl).prsMono RelMQ92 PoolLe.right
      have hS : Sep w0 B w ((twoB pg2 pg1) :: blk g5 3 #[.int .i64 who1] :: prs encP92 gfP92 cfP92 RelQ92 (twoB pg2 pg1) 92 94 A3 r3.length c3 raw2 r3 :: prs encP92 gfP92 cfP92 RelQ92 (twoB pg2 pg1) 92 94 A2 r2.length c2 raw1 r2 :: blk g4 24 #[.int .i64 g1, .int .i64 g2, .slice A1 g3.length c1] :: fs) := (hS.at_ 2 rfl).prsMono RelMQ92 PoolLe.left
      refine at_run 1 [] [] [2, 6, 7] [pl 2 (.pointer (some ⟨g4, 0, none⟩)), pl 6 (.slice A2 r2.length c2), pl 7 (.slice A3 r3.length c3)] hF hS (by kernel_rfl) (by kernel_rfl) ?_ (fun a w hF hS => ?_)
      · exact obs_nil
      refine at_end [2, 6, 7] [pl 2 (.pointer (some ⟨g4, 0, none⟩)), pl 6 (.slice A2 r2.length c2), pl 7 (.slice A3 r3.length c3)] hF rfl (by kernel_rfl) (fun hF => ?_)
      refine then_n ?_
      have hS := hS.pickN 5 [4, 0, 3, 2] (by decide)
      exact hlab1 (r2, r3) _ _ ⟨(twoB pg2 pg1), raw1, A2, c2, raw2, A3, c3, hF.weak [2, 6, 7] (by kernel_rfl), hS⟩ (assoc_b hm)
    · refine wpIn_block ?_
      obtain ⟨r1, hr1, hm⟩ := call_b hm
      refine reg [⟨false, [], vS (Instr.loadAt 24 (.pointer (some ⟨g4, 0, none⟩))), .agg #[.int .i64 g1, .int .i64 g2, .slice A1 g3.length c1]⟩, ⟨false, [], callFunc 42 #[.agg #[.int .i64 g1, .int .i64 g2, .slice A1 g3.length c1]], .bool r1⟩] [some (.agg #[.int .i64 g1, .int .i64 g2, .slice A1 g3.length c1]), some (.bool r1), none, none] [2, 3, 18] [pl 2 (.pointer (some ⟨g4, 0, none⟩)), pl 3 (.pointer (some ⟨g5, 0, none⟩)), pl 18 (.bool (!r1))] hF hS Fol (by kernel_rfl) (by kernel_rfl) (by kernel_rfl) ?_ (fun a w hF hS => ?_)
      · exact obs_cons (ob_loadA (cs := #[.int .i64 g1, .int .i64 g2, .slice A1 g3.length c1]) (by kernel_rfl) (by kernel_rfl) (fun _ _ hS => (hS.at_ 1 rfl).cellsAt 0 (by rfl))) <| obs_cons (ob_call Try.func42 (by kernel_rfl) rfl (fun _ _ hS => rows_May_w hr1 hS (fun _ hS => (hr_g3 _ (hS.dropN 2))) _hc_g3 rfl)) <| obs_nil
      refine cond_ev (t := 18) (b := !r1) hF (by kernel_rfl) (fun hb => ?_) (fun hb => ?_)
      · replace hm := if_t hm hb
        refine reg [] [] [4, 5] [pl 4 (.slice none 0 0), pl 5 (.int .i64 12)] hF hS Fol (by kernel_rfl) (by kernel_rfl) (by kernel_rfl) ?_ (fun a w hF hS => ?_)
        · exact obs_nil
        refine wpIn_ret ?_
        refine block_r (then_r (jump_r ?_))
        have hS : Sep w0 B w (own 3 (.slice none 0 0) (vI ([] : List Int)) :: blk g5 3 #[.int .i64 who1] :: blk g4 24 #[.int .i64 g1, .int .i64 g2, .slice A1 g3.length c1] :: fs) := hS.nil 3
        have hl1 := (hS.at_ 0 rfl).len1
        have hS := (hS.at_ 0 rfl).reN hl1
        have hS : Sep w0 B w (own 3 (.slice none (([] : List Int).length) 0) (vI ([] : List Int)) :: blk g5 3 #[.int .i64 who1] :: blk g4 24 #[.int .i64 g1, .int .i64 g2, .slice A1 g3.length c1] :: fs) := hS
        have hS := hS.pickN 3 [0] (by decide)
        have hm : some (([] : List Int), 12) = some r := hm
        obtain rfl := Option.some.inj hm
        exact retV (rs := [.tmp 4, .tmp 5]) (vs := [.slice none (([] : List Int).length) 0, .int .i64 12]) hF rfl (rv_t (by kernel_rfl) <| rv_t (by kernel_rfl) <| rv_nil) rfl ⟨_, rfl, none, 0, rfl, hS⟩
      · replace hm := if_f hm hb
        refine reg [⟨false, [], vS (Instr.loadAt 3 (.pointer (some ⟨g5, 0, none⟩))), .int .i64 who1⟩, ⟨false, [((who1 != 1), true)], vS (Instr.loadAt 3 (.pointer (some ⟨g5, 0, none⟩))), .int .i64 who1⟩] [some (.int .i64 who1), none, none, some (.int .i64 who1), none, none, none] [2, 3, 22] [pl 2 (.pointer (some ⟨g4, 0, none⟩)), pl 3 (.pointer (some ⟨g5, 0, none⟩)), pl 22 (.bool ((who1 != 1) && (who1 != 2)))] hF hS Fol (by kernel_rfl) (by kernel_rfl) (by kernel_rfl) ?_ (fun a w hF hS => ?_)
        · exact obs_cons (ob_load Agg3 (fun _ _ hS => (hS.at_ 0 rfl).cell rfl)) <| obs_cons (ob_load Agg3 (fun _ _ hS => (hS.at_ 0 rfl).cell rfl)) <| obs_nil
        refine cond_ev (t := 22) (b := (who1 != 1) && (who1 != 2)) hF (by kernel_rfl) (fun hb => ?_) (fun hb => ?_)
        · replace hm := if_t hm hb
          refine reg [] [] [4, 5] [pl 4 (.slice none 0 0), pl 5 (.int .i64 4)] hF hS Fol (by kernel_rfl) (by kernel_rfl) (by kernel_rfl) ?_ (fun a w hF hS => ?_)
          · exact obs_nil
          refine wpIn_ret ?_
          refine block_r (then_r (jump_r ?_))
          have hS : Sep w0 B w (own 3 (.slice none 0 0) (vI ([] : List Int)) :: blk g5 3 #[.int .i64 who1] :: blk g4 24 #[.int .i64 g1, .int .i64 g2, .slice A1 g3.length c1] :: fs) := hS.nil 3
          have hl2 := (hS.at_ 0 rfl).len1
          have hS := (hS.at_ 0 rfl).reN hl2
          have hS : Sep w0 B w (own 3 (.slice none (([] : List Int).length) 0) (vI ([] : List Int)) :: blk g5 3 #[.int .i64 who1] :: blk g4 24 #[.int .i64 g1, .int .i64 g2, .slice A1 g3.length c1] :: fs) := hS
          have hS := hS.pickN 3 [0] (by decide)
          have hm : some (([] : List Int), 4) = some r := hm
          obtain rfl := Option.some.inj hm
          exact retV (rs := [.tmp 4, .tmp 5]) (vs := [.slice none (([] : List Int).length) 0, .int .i64 4]) hF rfl (rv_t (by kernel_rfl) <| rv_t (by kernel_rfl) <| rv_nil) rfl ⟨_, rfl, none, 0, rfl, hS⟩
        · replace hm := if_f hm hb
          refine wpIn_skip ?_
          refine block_n ?_
          refine then_n ?_
          have hS := hS.pickN 2 [1, 0] (by decide)
          exact ⟨hF.weak [2, 3] (by kernel_rfl), hS, hm⟩

noncomputable def gameroomref_within_m  (n1 : Int) (low1 : Int) (high1 : Int) : Option Bool :=
  some ((decide (low1 ≤ n1)) && (decide (n1 ≤ high1)))

set_option maxRecDepth 100000 in
set_option maxHeartbeats 4000000 in
theorem gameroomref_within_w  {n1 : Int} {low1 : Int} {high1 : Int} {r : Bool} {w0 w : World} {B : Nat} {fs : List HP} (hm : gameroomref_within_m n1 low1 high1 = some r) (hS : Sep w0 B w (fs)) :
    Calls Try.prog 54 #[.int .i64 n1, .int .i64 low1, .int .i64 high1] w fun e w' => e = .returned (.bool r) ∧ Sep w0 B w' (fs) := by
  unfold gameroomref_within_m at hm
  replace hm := start_b hm
  refine enter (l := [.int .i64 n1, .int .i64 low1, .int .i64 high1]) (n := 15) Try.func54 rfl rfl (by simp) (fun a hF => ?_)
  refine reg [] [] [0, 1, 2] [pl 0 (.int .i64 n1), pl 1 (.int .i64 low1), pl 2 (.int .i64 high1)] hF hS Fol (by kernel_rfl) (by kernel_rfl) (by kernel_rfl) ?_ (fun a w hF hS => ?_)
  · exact obs_nil
  refine reg [] [] [6] [pl 6 (.bool ((decide (low1 ≤ n1)) && (decide (n1 ≤ high1))))] hF hS Fol (by kernel_rfl) (by kernel_rfl) (by kernel_rfl) ?_ (fun a w hF hS => ?_)
  · exact obs_nil
  refine wpIn_ret ?_
  have hm : some ((decide (low1 ≤ n1)) && (decide (n1 ≤ high1))) = some r := hm
  obtain rfl := Option.some.inj hm
  exact retV (rs := [.tmp 6]) (vs := [.bool ((decide (low1 ≤ n1)) && (decide (n1 ≤ high1)))]) hF rfl (rv_t (by kernel_rfl) <| rv_nil) rfl ⟨rfl, hS⟩

noncomputable def gameroomref_GridMay_J4  (i1 : Int) : Option (St Int (Fl Unit Bool)) :=
  some (.next (w64 (i1 + 1)))

noncomputable def gameroomref_GridMay_J3  (g3 : List Int) (i1 : Int) : Option (St Int (Fl Unit Bool)) :=
  asrt (0 ≤ i1 ∧ i1 < (g3.length : Int)) <| (gameroomref_within_m (geti g3 i1) 0 2).bind fun r3 => if (!r3) then (some (.done (.ret false))) else ((gameroomref_GridMay_J4 i1))

noncomputable def gameroomref_GridMay_J2  : Option Bool :=
  some true

noncomputable def gameroomref_GridMay_K1  : (Fl Unit Bool) → Option Bool :=
  fun (x : (Fl Unit Bool)) => match x with | .go _ => gameroomref_GridMay_J2 | .ret x => some x

noncomputable def gameroomref_GridMay_L1  (g3 : List Int) : Int → Option (St Int (Fl Unit Bool)) :=
  fun (x : Int) => match x with | i1 => if (decide (i1 < (g3.length : Int))) then ((gameroomref_GridMay_J3 g3 i1)) else (some (.done (.go ())))

noncomputable def gameroomref_GridMay_J1  (g3 : List Int) : Option Bool :=
  (loop (gameroomref_GridMay_L1 g3) 0).bind gameroomref_GridMay_K1

noncomputable def gameroomref_GridMay_m  (g1 : Int) (g2 : Int) (g3 : List Int) : Option Bool :=
  (gameroomref_within_m g1 1 10).bind fun r1 => ((if (!(!r1)) then gameroomref_within_m g2 1 10 else some false)).bind fun r2 => if (((!r1) || (!r2)) || ((g3.length : Int) != (w64 (g1 * g2)))) then (some false) else ((gameroomref_GridMay_J1 g3))

set_option maxRecDepth 100000 in
set_option maxHeartbeats 4000000 in
theorem gameroomref_GridMay_w  {g1 : Int} {g2 : Int} {A1 : Option Addr} {c1 : Nat} {n1 : Nat} {g3 : List Int} {r : Bool} {w0 w : World} {B : Nat} {fs : List HP} (hm : gameroomref_GridMay_m g1 g2 g3 = some r) (hS : Sep w0 B w (fs)) (hr_g3 : RdF w0 B fs A1 (vI g3)) (_hc_g3 : g3.length ≤ c1) (_hn_g3 : n1 = g3.length) :
    Calls Try.prog 12 #[.agg #[.int .i64 g1, .int .i64 g2, .slice A1 n1 c1]] w fun e w' => e = .returned (.bool r) ∧ Sep w0 B w' (fs) := by
  obtain ⟨i3, hi3, hz3, hs3, hb3⟩ := info_parts Info3
  obtain rfl := _hn_g3
  unfold gameroomref_GridMay_m at hm
  replace hm := start_b hm
  refine enter (l := [.agg #[.int .i64 g1, .int .i64 g2, .slice A1 g3.length c1]]) (n := 39) Try.func12 rfl rfl (by simp) (fun a hF => ?_)
  refine seqR ?_
  refine at_do (d := 1) (s := vS (Instr.box 24 (.agg #[.int .i64 g1, .int .i64 g2, .slice A1 g3.length c1]))) (v := .pointer (some ⟨w.heap.size, 0, none⟩)) (w' := w.alloc (.cells #[.int .i64 g1, .int .i64 g2, .slice A1 g3.length c1] 24)) hF (by kernel_rfl) (by kernel_rfl) (by kernel_rfl) (fun a hF => ?_)
  have hS : Sep w0 B (w.alloc (.cells #[.int .i64 g1, .int .i64 g2, .slice A1 g3.length c1] 24)) (blk w.heap.size 24 #[.int .i64 g1, .int .i64 g2, .slice A1 g3.length c1] :: (fs)) := hS.box 24 #[.int .i64 g1, .int .i64 g2, .slice A1 g3.length c1]
  generalize w.heap.size = g4 at hF hS
  generalize w.alloc (.cells #[.int .i64 g1, .int .i64 g2, .slice A1 g3.length c1] 24) = w at hS ⊢
  refine at_run 1 [] [] [1] [pl 1 (.pointer (some ⟨g4, 0, none⟩))] hF hS (by kernel_rfl) (by kernel_rfl) ?_ (fun a w hF hS => ?_)
  · exact obs_nil
  refine at_end [1] [pl 1 (.pointer (some ⟨g4, 0, none⟩))] hF rfl (by kernel_rfl) (fun hF => ?_)
  refine then_n ?_
  refine seq_cut (fun a w => Fr 39 [pl 1 (.pointer (some ⟨g4, 0, none⟩))] a ∧ Sep w0 B w (blk g4 24 #[.int .i64 g1, .int .i64 g2, .slice A1 g3.length c1] :: fs) ∧ ((gameroomref_GridMay_J1 g3)).bind some = some r) ?_ ?_
  · rintro a w ⟨hF, hS, hm⟩
    unfold gameroomref_GridMay_J1 at hm
    refine seq_cut (fun a w => Fr 39 [] a ∧ Sep w0 B w (fs) ∧ (gameroomref_GridMay_J2).bind some = some r) ?_ ?_
    · rintro a w ⟨hF, hS, hm⟩
      unfold gameroomref_GridMay_J2 at hm
      refine reg [] [] [2] [pl 2 (.bool true)] hF hS Fol (by kernel_rfl) (by kernel_rfl) (by kernel_rfl) ?_ (fun a w hF hS => ?_)
      · exact obs_nil
      refine wpIn_ret ?_
      have hm : some true = some r := hm
      obtain rfl := Option.some.inj hm
      exact retV (rs := [.tmp 2]) (vs := [.bool true]) hF rfl (rv_t (by kernel_rfl) <| rv_nil) rfl ⟨rfl, hS⟩
    · refine reg [] [] [1, 3] [pl 1 (.pointer (some ⟨g4, 0, none⟩)), pl 3 (.int .i64 0)] hF hS Fol (by kernel_rfl) (by kernel_rfl) (by kernel_rfl) ?_ (fun a w hF hS => ?_)
      · exact obs_nil
      refine wpIn_block ?_
      refine wp_loop_model (S := Int) (R := (Fl Unit Bool)) (gameroomref_GridMay_L1 g3) (fun x => (gameroomref_GridMay_K1 x).bind some) r (fun (x : Int) a w => Fr 39 [pl 1 (.pointer (some ⟨g4, 0, none⟩)), pl 3 (.int .i64 x)] a ∧ Sep w0 B w (blk g4 24 #[.int .i64 g1, .int .i64 g2, .slice A1 g3.length c1] :: fs)) (assoc_b hm) ⟨hF.weak [1, 3] (by kernel_rfl), hS⟩ ?_
      clear hF hS hm
      rintro nn1 i1 a w ⟨hF, hS⟩ hm
      generalize hφ1 : stK (gameroomref_GridMay_L1 g3) nn1 (fun x => (gameroomref_GridMay_K1 x).bind some) = φ1 at hm
      unfold gameroomref_GridMay_L1 at hm
      dsimp only at hm
      refine seq_cut (fun a w => Fr 39 [pl 1 (.pointer (some ⟨g4, 0, none⟩)), pl 3 (.int .i64 i1)] a ∧ Sep w0 B w (blk g4 24 #[.int .i64 g1, .int .i64 g2, .slice A1 g3.length c1] :: fs) ∧ ((gameroomref_GridMay_J3 g3 i1)).bind φ1 = some r) ?_ ?_
      · rintro a w ⟨hF, hS, hm⟩
        unfold gameroomref_GridMay_J3 at hm
        refine seq_cut (fun a w => Fr 39 [pl 1 (.pointer (some ⟨g4, 0, none⟩)), pl 3 (.int .i64 i1)] a ∧ Sep w0 B w (blk g4 24 #[.int .i64 g1, .int .i64 g2, .slice A1 g3.length c1] :: fs) ∧ ((gameroomref_GridMay_J4 i1)).bind φ1 = some r) ?_ ?_
        · rintro a w ⟨hF, hS, hm⟩
          unfold gameroomref_GridMay_J4 at hm
          refine reg1 [] [] [1, 3] [pl 1 (.pointer (some ⟨g4, 0, none⟩)), pl 3 (.int .i64 (w64 (i1 + 1)))] hF hS Fol (by kernel_rfl) (by kernel_rfl) (by kernel_rfl) ?_ (fun a w hF hS => ?_)
          · exact obs_nil
          refine then_n ?_
          rw [← hφ1] at hm
          exact ⟨(w64 (i1 + 1)), ⟨hF.weak [1, 3] (by kernel_rfl), hS⟩, hm⟩
        · refine wpIn_block ?_
          obtain ⟨hp1, hm⟩ := asrt_b hm
          obtain ⟨r3, hr3, hm⟩ := call_b hm
          refine reg [⟨false, [], vS (Instr.loadAt 22 (.pointer (some ⟨g4, 2, none⟩))), .slice A1 g3.length c1⟩, ⟨true, [], vS (Instr.indexAt 22 (.slice A1 g3.length c1) (.int .i64 i1)), .pointer (some (sAddr A1 i1))⟩, ⟨false, [], vS (Instr.loadAt 3 (.pointer (some (sAddr A1 i1)))), .int .i64 (geti g3 i1)⟩, ⟨false, [], callFunc 54 #[.int .i64 (geti g3 i1), .int .i64 0, .int .i64 2], .bool r3⟩] [none, some (.slice A1 g3.length c1), none, some (.pointer (some (sAddr A1 i1))), some (.int .i64 (geti g3 i1)), some (.bool r3), none] [1, 3, 38] [pl 1 (.pointer (some ⟨g4, 0, none⟩)), pl 3 (.int .i64 i1), pl 38 (.bool (!r3))] hF hS Fol (by kernel_rfl) (by kernel_rfl) (by kernel_rfl) ?_ (fun a w hF hS => ?_)
          · exact obs_cons (ob_load Agg22 (fun _ _ hS => (hS.at_ 0 rfl).cell rfl)) <| obs_cons (ob_ix1 (f := (Value.int .i64)) (m := g3) Und22 hi3 hs3 (hr_g3 _ (hS.dropN 1)) rfl (fun _ => hp1)) <| obs_cons (ob_get1 (n := g3.length) (m := g3) (Value.int .i64) (0 : Int) Agg3 (fun _ hS => ⟨_, (hr_g3 _ (hS.dropN 1))⟩) (fun _ hS => rfl) (fun _ => hp1)) <| obs_cons (ob_call Try.func54 (by kernel_rfl) rfl (fun _ _ hS => gameroomref_within_w hr3 hS )) <| obs_nil
          refine cond_ev (t := 38) (b := !r3) hF (by kernel_rfl) (fun hb => ?_) (fun hb => ?_)
          · replace hm := if_t hm hb
            refine reg [] [] [2] [pl 2 (.bool false)] hF hS Fol (by kernel_rfl) (by kernel_rfl) (by kernel_rfl) ?_ (fun a w hF hS => ?_)
            · exact obs_nil
            refine wpIn_ret ?_
            refine block_r (then_r (then_r (block_r (then_r ?_))))
            rw [← hφ1] at hm
            replace hm := done_b hm
            unfold gameroomref_GridMay_K1 at hm
            try dsimp only at hm
            have hS := hS.pickN 1 [] (by decide)
            have hm : some false = some r := hm
            obtain rfl := Option.some.inj hm
            exact retV (rs := [.tmp 2]) (vs := [.bool false]) hF rfl (rv_t (by kernel_rfl) <| rv_nil) rfl ⟨rfl, hS⟩
          · replace hm := if_f hm hb
            refine wpIn_skip ?_
            refine block_n ?_
            refine then_n ?_
            exact ⟨hF.weak [1, 3] (by kernel_rfl), hS, hm⟩
      · refine reg [⟨false, [], vS (Instr.loadAt 22 (.pointer (some ⟨g4, 2, none⟩))), .slice A1 g3.length c1⟩] [none, none, some (.slice A1 g3.length c1), none, none] [1, 3, 29] [pl 1 (.pointer (some ⟨g4, 0, none⟩)), pl 3 (.int .i64 i1), pl 29 (.bool (decide (i1 < (g3.length : Int))))] hF hS Fol (by kernel_rfl) (by kernel_rfl) (by kernel_rfl) ?_ (fun a w hF hS => ?_)
        · exact obs_cons (ob_load Agg22 (fun _ _ hS => (hS.at_ 0 rfl).cell rfl)) <| obs_nil
        refine cond_ev (t := 29) (b := decide (i1 < (g3.length : Int))) hF (by kernel_rfl) (fun hb => ?_) (fun hb => ?_)
        · replace hm := if_t hm hb
          refine wpIn_skip ?_
          refine then_n ?_
          exact ⟨hF.weak [1, 3] (by kernel_rfl), hS, hm⟩
        · replace hm := if_f hm hb
          refine wpIn_exit ?_
          refine then_e (then_e (block_e (then_n ?_)))
          have hS := hS.pickN 1 [] (by decide)
          rw [← hφ1] at hm
          replace hm := done_b hm
          unfold gameroomref_GridMay_K1 at hm
          try dsimp only at hm
          have hm : (gameroomref_GridMay_J2).bind some = some r := hm
          exact ⟨hF.weak [] (by kernel_rfl), hS, hm⟩
  · obtain ⟨r1, hr1, hm⟩ := call_b hm
    obtain ⟨r2, hr2, hm⟩ := call_b hm
    refine reg [⟨false, [], vS (Instr.loadAt 3 (.pointer (some ⟨g4, 0, none⟩))), .int .i64 g1⟩, ⟨false, [], callFunc 54 #[.int .i64 g1, .int .i64 1, .int .i64 10], .bool r1⟩, ⟨false, [(!r1, false)], vS (Instr.loadAt 3 (.pointer (some ⟨g4, 1, none⟩))), .int .i64 g2⟩, ⟨false, [(!r1, false)], callFunc 54 #[.int .i64 g2, .int .i64 1, .int .i64 10], .bool r2⟩, ⟨false, [((!r1) || (!r2), false)], vS (Instr.loadAt 22 (.pointer (some ⟨g4, 2, none⟩))), .slice A1 g3.length c1⟩, ⟨false, [((!r1) || (!r2), false)], vS (Instr.loadAt 3 (.pointer (some ⟨g4, 0, none⟩))), .int .i64 g1⟩, ⟨false, [((!r1) || (!r2), false)], vS (Instr.loadAt 3 (.pointer (some ⟨g4, 1, none⟩))), .int .i64 g2⟩] [none, some (.int .i64 g1), some (.bool r1), none, none, none, some (.int .i64 g2), some (.bool r2), none, none, none, none, some (.slice A1 g3.length c1), none, none, some (.int .i64 g1), none, some (.int .i64 g2), none, none, none] [1, 24] [pl 1 (.pointer (some ⟨g4, 0, none⟩)), pl 24 (.bool (((!r1) || (!r2)) || ((g3.length : Int) != (w64 (g1 * g2)))))] hF hS Fol (by kernel_rfl) (by kernel_rfl) (by kernel_rfl) ?_ (fun a w hF hS => ?_)
    · exact obs_cons (ob_load Agg3 (fun _ _ hS => (hS.at_ 0 rfl).cell rfl)) <| obs_cons (ob_call Try.func54 (by kernel_rfl) rfl (fun _ _ hS => gameroomref_within_w hr1 hS )) <| obs_cons (ob_load Agg3 (fun _ _ hS => (hS.at_ 0 rfl).cell rfl)) <| obs_cons (ob_call Try.func54 (by kernel_rfl) rfl (fun hy _ hS => gameroomref_within_w (ite_some hr2 (by rw [show (!r1) = false from hy (!r1, false) (by simp)]; try rfl)) hS )) <| obs_cons (ob_load Agg22 (fun _ _ hS => (hS.at_ 0 rfl).cell rfl)) <| obs_cons (ob_load Agg3 (fun _ _ hS => (hS.at_ 0 rfl).cell rfl)) <| obs_cons (ob_load Agg3 (fun _ _ hS => (hS.at_ 0 rfl).cell rfl)) <| obs_nil
    refine cond_ev (t := 24) (b := ((!r1) || (!r2)) || ((g3.length : Int) != (w64 (g1 * g2)))) hF (by kernel_rfl) (fun hb => ?_) (fun hb => ?_)
    · replace hm := if_t hm hb
      refine reg [] [] [2] [pl 2 (.bool false)] hF hS Fol (by kernel_rfl) (by kernel_rfl) (by kernel_rfl) ?_ (fun a w hF hS => ?_)
      · exact obs_nil
      refine wpIn_ret ?_
      refine then_r ?_
      have hS := hS.pickN 1 [] (by decide)
      have hm : some false = some r := hm
      obtain rfl := Option.some.inj hm
      exact retV (rs := [.tmp 2]) (vs := [.bool false]) hF rfl (rv_t (by kernel_rfl) <| rv_nil) rfl ⟨rfl, hS⟩
    · replace hm := if_f hm hb
      refine wpIn_skip ?_
      refine then_n ?_
      exact ⟨hF.weak [1] (by kernel_rfl), hS, hm⟩

noncomputable def gameroomref_marks_J3  (g3 : List Int) (c2 : Int) (other1 : Bool) (m1 : List Bool) (i1 : Int) : Option (St (List Bool × Int) (List Bool)) :=
  some (.next ((m1.set (Int.toNat i1) (((geti g3 i1) == c2) != other1)), (w64 (i1 + 1))))

noncomputable def gameroomref_marks_J2  (g3 : List Int) (c2 : Int) (other1 : Bool) (m1 : List Bool) (i1 : Int) : Option (St (List Bool × Int) (List Bool)) :=
  asrt (0 ≤ i1 ∧ i1 < (g3.length : Int)) <| asrt (0 ≤ i1 ∧ i1 < (((Int.toNat (g3.length : Int)) : Nat) : Int)) <| (gameroomref_marks_J3 g3 c2 other1 m1 i1)

noncomputable def gameroomref_marks_J1  (m2 : List Bool) : Option (List Bool) :=
  some m2

noncomputable def gameroomref_marks_K1  : (List Bool) → Option (List Bool) :=
  fun (x : (List Bool)) => match x with | m2 => gameroomref_marks_J1 m2

noncomputable def gameroomref_marks_L1  (g3 : List Int) (c2 : Int) (other1 : Bool) : (List Bool × Int) → Option (St (List Bool × Int) (List Bool)) :=
  fun (x : (List Bool × Int)) => match x with | (m1, i1) => if (decide (i1 < (((Int.toNat (g3.length : Int)) : Nat) : Int))) then ((gameroomref_marks_J2 g3 c2 other1 m1 i1)) else (some (.done m1))

noncomputable def gameroomref_marks_m  (g1 : Int) (g2 : Int) (g3 : List Int) (c2 : Int) (other1 : Bool) : Option (List Bool) :=
  asrt ((0 : Int) ≤ (g3.length : Int) ∧ (g3.length : Int) ≤ bigN) <| (loop (gameroomref_marks_L1 g3 c2 other1) ((List.replicate (Int.toNat (g3.length : Int)) false), 0)).bind gameroomref_marks_K1

set_option maxRecDepth 100000 in
set_option maxHeartbeats 4000000 in
theorem gameroomref_marks_w  {g1 : Int} {g2 : Int} {A1 : Option Addr} {c1 : Nat} {n1 : Nat} {g3 : List Int} {c2 : Int} {other1 : Bool} {r : (List Bool)} {w0 w : World} {B : Nat} {fs : List HP} (hm : gameroomref_marks_m g1 g2 g3 c2 other1 = some r) (hS : Sep w0 B w (fs)) (hr_g3 : RdF w0 B fs A1 (vI g3)) (_hc_g3 : g3.length ≤ c1) (_hn_g3 : n1 = g3.length) :
    Calls Try.prog 56 #[.agg #[.int .i64 g1, .int .i64 g2, .slice A1 n1 c1], .int .i64 c2, .bool other1] w fun e w' => ∃ v, e = .returned v ∧ ∃ (A3 : Option Addr) (c4 : Nat), v = .slice A3 r.length c4 ∧ Sep w0 B w' (own 4 (.slice A3 r.length c4) (vB r) :: fs) := by
  obtain ⟨i3, hi3, hz3, hs3, hb3⟩ := info_parts Info3
  obtain ⟨i4, hi4, hz4, hs4, hb4⟩ := info_parts Info4
  obtain rfl := _hn_g3
  unfold gameroomref_marks_m at hm
  replace hm := start_b hm
  refine enter (l := [.agg #[.int .i64 g1, .int .i64 g2, .slice A1 g3.length c1], .int .i64 c2, .bool other1]) (n := 32) Try.func56 rfl rfl (by simp) (fun a hF => ?_)
  refine seqR ?_
  refine at_do (d := 3) (s := vS (Instr.box 24 (.agg #[.int .i64 g1, .int .i64 g2, .slice A1 g3.length c1]))) (v := .pointer (some ⟨w.heap.size, 0, none⟩)) (w' := w.alloc (.cells #[.int .i64 g1, .int .i64 g2, .slice A1 g3.length c1] 24)) hF (by kernel_rfl) (by kernel_rfl) (by kernel_rfl) (fun a hF => ?_)
  have hS : Sep w0 B (w.alloc (.cells #[.int .i64 g1, .int .i64 g2, .slice A1 g3.length c1] 24)) (blk w.heap.size 24 #[.int .i64 g1, .int .i64 g2, .slice A1 g3.length c1] :: (fs)) := hS.box 24 #[.int .i64 g1, .int .i64 g2, .slice A1 g3.length c1]
  generalize w.heap.size = g4 at hF hS
  generalize w.alloc (.cells #[.int .i64 g1, .int .i64 g2, .slice A1 g3.length c1] 24) = w at hS ⊢
  refine at_run 1 [] [] [1, 2, 3] [pl 1 (.int .i64 c2), pl 2 (.bool other1), pl 3 (.pointer (some ⟨g4, 0, none⟩))] hF hS (by kernel_rfl) (by kernel_rfl) ?_ (fun a w hF hS => ?_)
  · exact obs_nil
  refine at_end [1, 2, 3] [pl 1 (.int .i64 c2), pl 2 (.bool other1), pl 3 (.pointer (some ⟨g4, 0, none⟩))] hF rfl (by kernel_rfl) (fun hF => ?_)
  refine then_n ?_
  refine seqR ?_
  obtain ⟨hp1, hm⟩ := asrt_b hm
  refine at_run 3 [⟨false, [], vS (Instr.loadAt 22 (.pointer (some ⟨g4, 2, none⟩))), .slice A1 g3.length c1⟩] [none, some (.slice A1 g3.length c1), none] [1, 2, 3, 11] [pl 1 (.int .i64 c2), pl 2 (.bool other1), pl 3 (.pointer (some ⟨g4, 0, none⟩)), pl 11 (.int .i64 (g3.length : Int))] hF hS (by kernel_rfl) (by kernel_rfl) ?_ (fun a w hF hS => ?_)
  · exact obs_cons (ob_load Agg22 (fun _ _ hS => (hS.at_ 0 rfl).cell rfl)) <| obs_nil
  obtain ⟨A2, c3, w, hrun, hS⟩ := run_mk1 (P := Try.prog) (t := 86) Value.bool false hS .i64 .i64 Und86 hi4 hz4 hs4 (by omega) rfl hp1
  have hS : Sep w0 B w (own 4 (.slice A2 (Int.toNat (g3.length : Int)) c3) (vB (List.replicate (Int.toNat (g3.length : Int)) false)) :: blk g4 24 #[.int .i64 g1, .int .i64 g2, .slice A1 g3.length c1] :: fs) := hS
  refine at_do (d := 12) hF (by kernel_rfl) (by kernel_rfl) hrun (fun a hF => ?_)
  refine at_run 1 [] [] [1, 2, 3, 7] [pl 1 (.int .i64 c2), pl 2 (.bool other1), pl 3 (.pointer (some ⟨g4, 0, none⟩)), pl 7 (.slice A2 (Int.toNat (g3.length : Int)) c3)] hF hS (by kernel_rfl) (by kernel_rfl) ?_ (fun a w hF hS => ?_)
  · exact obs_nil
  refine at_end [1, 2, 3, 7] [pl 1 (.int .i64 c2), pl 2 (.bool other1), pl 3 (.pointer (some ⟨g4, 0, none⟩)), pl 7 (.slice A2 (Int.toNat (g3.length : Int)) c3)] hF rfl (by kernel_rfl) (fun hF => ?_)
  refine then_n ?_
  refine seq_cut (fun a w => ∃ (m2 : List Bool), Fr 32 [pl 7 (.slice A2 (Int.toNat (g3.length : Int)) c3)] a ∧ Sep w0 B w (own 4 (.slice A2 (Int.toNat (g3.length : Int)) c3) (vB m2) :: fs) ∧ (gameroomref_marks_J1 m2).bind some = some r) ?_ ?_
  · rintro a w ⟨m2, hF, hS, hm⟩
    unfold gameroomref_marks_J1 at hm
    refine reg [] [] [6] [pl 6 (.slice A2 (Int.toNat (g3.length : Int)) c3)] hF hS Fol (by kernel_rfl) (by kernel_rfl) (by kernel_rfl) ?_ (fun a w hF hS => ?_)
    · exact obs_nil
    refine wpIn_ret ?_
    have hl1 := (hS.at_ 0 rfl).len1
    have hS := (hS.at_ 0 rfl).reN hl1
    have hS : Sep w0 B w (own 4 (.slice A2 m2.length c3) (vB m2) :: fs) := hS
    have hF := hF.cast (t := 6) (v := .slice A2 (Int.toNat (g3.length : Int)) c3) (v' := .slice A2 m2.length c3) rfl rfl (congrArg (fun k => Value.slice A2 k c3) hl1)
    have hm : some m2 = some r := hm
    obtain rfl := Option.some.inj hm
    exact retV (rs := [.tmp 6]) (vs := [.slice A2 m2.length c3]) hF rfl (rv_t (by kernel_rfl) <| rv_nil) rfl ⟨_, rfl, A2, c3, rfl, hS⟩
  · refine reg [] [] [1, 2, 3, 7, 8] [pl 1 (.int .i64 c2), pl 2 (.bool other1), pl 3 (.pointer (some ⟨g4, 0, none⟩)), pl 7 (.slice A2 (Int.toNat (g3.length : Int)) c3), pl 8 (.int .i64 0)] hF hS Fol (by kernel_rfl) (by kernel_rfl) (by kernel_rfl) ?_ (fun a w hF hS => ?_)
    · exact obs_nil
    refine wpIn_block ?_
    have hS := hS.pickN 2 [1, 0] (by decide)
    refine wp_loop_model (S := (List Bool × Int)) (R := (List Bool)) (gameroomref_marks_L1 g3 c2 other1) (fun x => (gameroomref_marks_K1 x).bind some) r (fun (x : (List Bool × Int)) a w => Fr 32 [pl 1 (.int .i64 c2), pl 2 (.bool other1), pl 3 (.pointer (some ⟨g4, 0, none⟩)), pl 7 (.slice A2 (Int.toNat (g3.length : Int)) c3), pl 8 (.int .i64 x.2)] a ∧ Sep w0 B w (blk g4 24 #[.int .i64 g1, .int .i64 g2, .slice A1 g3.length c1] :: own 4 (.slice A2 (Int.toNat (g3.length : Int)) c3) (vB x.1) :: fs)) (assoc_b hm) ⟨hF.weak [1, 2, 3, 7, 8] (by kernel_rfl), hS⟩ ?_
    clear hF hS hm
    rintro nn1 ⟨m1, i1⟩ a w ⟨hF, hS⟩ hm
    generalize hφ1 : stK (gameroomref_marks_L1 g3 c2 other1) nn1 (fun x => (gameroomref_marks_K1 x).bind some) = φ1 at hm
    unfold gameroomref_marks_L1 at hm
    dsimp only at hF hS hm
    refine seq_cut (fun a w => Fr 32 [pl 1 (.int .i64 c2), pl 2 (.bool other1), pl 3 (.pointer (some ⟨g4, 0, none⟩)), pl 7 (.slice A2 (Int.toNat (g3.length : Int)) c3), pl 8 (.int .i64 i1)] a ∧ Sep w0 B w (blk g4 24 #[.int .i64 g1, .int .i64 g2, .slice A1 g3.length c1] :: own 4 (.slice A2 (Int.toNat (g3.length : Int)) c3) (vB m1) :: fs) ∧ ((gameroomref_marks_J2 g3 c2 other1 m1 i1)).bind φ1 = some r) ?_ ?_
    · rintro a w ⟨hF, hS, hm⟩
      unfold gameroomref_marks_J2 at hm
      refine seq_cut (fun a w => Fr 32 [pl 1 (.int .i64 c2), pl 2 (.bool other1), pl 3 (.pointer (some ⟨g4, 0, none⟩)), pl 7 (.slice A2 (Int.toNat (g3.length : Int)) c3), pl 8 (.int .i64 i1)] a ∧ Sep w0 B w (blk g4 24 #[.int .i64 g1, .int .i64 g2, .slice A1 g3.length c1] :: own 4 (.slice A2 (Int.toNat (g3.length : Int)) c3) (vB (m1.set (Int.toNat i1) (((geti g3 i1) == c2) != other1))) :: fs) ∧ ((gameroomref_marks_J3 g3 c2 other1 m1 i1)).bind φ1 = some r) ?_ ?_
      · rintro a w ⟨hF, hS, hm⟩
        unfold gameroomref_marks_J3 at hm
        refine reg1 [] [] [1, 2, 3, 7, 8] [pl 1 (.int .i64 c2), pl 2 (.bool other1), pl 3 (.pointer (some ⟨g4, 0, none⟩)), pl 7 (.slice A2 (Int.toNat (g3.length : Int)) c3), pl 8 (.int .i64 (w64 (i1 + 1)))] hF hS Fol (by kernel_rfl) (by kernel_rfl) (by kernel_rfl) ?_ (fun a w hF hS => ?_)
        · exact obs_nil
        refine then_n ?_
        rw [← hφ1] at hm
        exact ⟨((m1.set (Int.toNat i1) (((geti g3 i1) == c2) != other1)), (w64 (i1 + 1))), ⟨hF.weak [1, 2, 3, 7, 8] (by kernel_rfl), hS⟩, hm⟩
      · refine wpIn_block ?_
        refine oneR ?_
        obtain ⟨hp2, hm⟩ := asrt_b hm
        obtain ⟨hp3, hm⟩ := asrt_b hm
        refine at_run 12 [⟨false, [], vS (Instr.loadAt 22 (.pointer (some ⟨g4, 2, none⟩))), .slice A1 g3.length c1⟩, ⟨true, [], vS (Instr.indexAt 22 (.slice A1 g3.length c1) (.int .i64 i1)), .pointer (some (sAddr A1 i1))⟩, ⟨false, [], vS (Instr.loadAt 3 (.pointer (some (sAddr A1 i1)))), .int .i64 (geti g3 i1)⟩, ⟨true, [], vS (Instr.indexAt 86 (.slice A2 (Int.toNat (g3.length : Int)) c3) (.int .i64 i1)), .pointer (some (sAddr A2 i1))⟩] [none, none, none, some (.slice A1 g3.length c1), none, some (.pointer (some (sAddr A1 i1))), some (.int .i64 (geti g3 i1)), none, none, none, none, some (.pointer (some (sAddr A2 i1)))] [1, 2, 3, 7, 8, 29, 30] [pl 1 (.int .i64 c2), pl 2 (.bool other1), pl 3 (.pointer (some ⟨g4, 0, none⟩)), pl 7 (.slice A2 (Int.toNat (g3.length : Int)) c3), pl 8 (.int .i64 i1), pl 29 (.bool (((geti g3 i1) == c2) != other1)), pl 30 (.pointer (some (sAddr A2 i1)))] hF hS (by kernel_rfl) (by kernel_rfl) ?_ (fun a w hF hS => ?_)
        · exact obs_cons (ob_load Agg22 (fun _ _ hS => (hS.at_ 0 rfl).cell rfl)) <| obs_cons (ob_ix1 (f := (Value.int .i64)) (m := g3) Und22 hi3 hs3 (hr_g3 _ (hS.dropN 2)) rfl (fun _ => hp2)) <| obs_cons (ob_get1 (n := g3.length) (m := g3) (Value.int .i64) (0 : Int) Agg3 (fun _ hS => ⟨_, (hr_g3 _ (hS.dropN 2))⟩) (fun _ hS => rfl) (fun _ => hp2)) <| obs_cons (ob_ix1 (f := Value.bool) (m := m1) Und86 hi4 hs4 (hS.at_ 1 rfl).rd ((hS.at_ 1 rfl).len1) (fun _ => hp3)) <| obs_nil
        obtain ⟨w, hrun, hS⟩ := run_set1 (P := Try.prog) (t := 4) (x := (((geti g3 i1) == c2) != other1)) Value.bool (hS.at_ 1 rfl) hi4 hs4 rfl rfl hp3
        refine at_skip hF (by kernel_rfl) hrun ?_
        have hS : Sep w0 B w (blk g4 24 #[.int .i64 g1, .int .i64 g2, .slice A1 g3.length c1] :: own 4 (.slice A2 (Int.toNat (g3.length : Int)) c3) (vB (m1.set (Int.toNat i1) (((geti g3 i1) == c2) != other1))) :: fs) := hS
        refine at_end [1, 2, 3, 7, 8] [pl 1 (.int .i64 c2), pl 2 (.bool other1), pl 3 (.pointer (some ⟨g4, 0, none⟩)), pl 7 (.slice A2 (Int.toNat (g3.length : Int)) c3), pl 8 (.int .i64 i1)] hF rfl (by kernel_rfl) (fun hF => ?_)
        refine block_n ?_
        refine then_n ?_
        exact ⟨hF.weak [1, 2, 3, 7, 8] (by kernel_rfl), hS, hm⟩
    · refine reg [] [] [1, 2, 3, 7, 8, 16] [pl 1 (.int .i64 c2), pl 2 (.bool other1), pl 3 (.pointer (some ⟨g4, 0, none⟩)), pl 7 (.slice A2 (Int.toNat (g3.length : Int)) c3), pl 8 (.int .i64 i1), pl 16 (.bool (decide (i1 < (((Int.toNat (g3.length : Int)) : Nat) : Int))))] hF hS Fol (by kernel_rfl) (by kernel_rfl) (by kernel_rfl) ?_ (fun a w hF hS => ?_)
      · exact obs_nil
      refine cond_ev (t := 16) (b := decide (i1 < (((Int.toNat (g3.length : Int)) : Nat) : Int))) hF (by kernel_rfl) (fun hb => ?_) (fun hb => ?_)
      · replace hm := if_t hm hb
        refine wpIn_skip ?_
        refine then_n ?_
        exact ⟨hF.weak [1, 2, 3, 7, 8] (by kernel_rfl), hS, hm⟩
      · replace hm := if_f hm hb
        refine wpIn_exit ?_
        refine then_e (then_e (block_e (then_n ?_)))
        have hS := hS.pickN 2 [1] (by decide)
        rw [← hφ1] at hm
        replace hm := done_b hm
        unfold gameroomref_marks_K1 at hm
        try dsimp only at hm
        have hm : (gameroomref_marks_J1 m1).bind some = some r := hm
        exact ⟨m1, hF.weak [7] (by kernel_rfl), hS, hm⟩

noncomputable def gameroomref_beside_m  (g1 : Int) (g2 : Int) (g3 : List Int) (a1 : Int) (b1 : Int) : Option Bool :=
  asrt (g1 ≠ (0 : Int)) <| asrt (g1 ≠ (0 : Int)) <| asrt (g1 ≠ (0 : Int)) <| asrt (g1 ≠ (0 : Int)) <| some ((((w64 ((Int.tmod a1 g1) - (Int.tmod b1 g1))) == 0) && (((w64 ((w64 (Int.tdiv a1 g1)) - (w64 (Int.tdiv b1 g1)))) == 1) || ((w64 ((w64 (Int.tdiv a1 g1)) - (w64 (Int.tdiv b1 g1)))) == (-1)))) || (((w64 ((w64 (Int.tdiv a1 g1)) - (w64 (Int.tdiv b1 g1)))) == 0) && (((w64 ((Int.tmod a1 g1) - (Int.tmod b1 g1))) == 1) || ((w64 ((Int.tmod a1 g1) - (Int.tmod b1 g1))) == (-1)))))

set_option maxRecDepth 100000 in
set_option maxHeartbeats 4000000 in
theorem gameroomref_beside_w  {g1 : Int} {g2 : Int} {A1 : Option Addr} {c1 : Nat} {n1 : Nat} {g3 : List Int} {a1 : Int} {b1 : Int} {r : Bool} {w0 w : World} {B : Nat} {fs : List HP} (hm : gameroomref_beside_m g1 g2 g3 a1 b1 = some r) (hS : Sep w0 B w (fs)) (hr_g3 : RdF w0 B fs A1 (vI g3)) (_hc_g3 : g3.length ≤ c1) (_hn_g3 : n1 = g3.length) :
    Calls Try.prog 110 #[.agg #[.int .i64 g1, .int .i64 g2, .slice A1 n1 c1], .int .i64 a1, .int .i64 b1] w fun e w' => e = .returned (.bool r) ∧ Sep w0 B w' (fs) := by
  obtain ⟨i3, hi3, hz3, hs3, hb3⟩ := info_parts Info3
  obtain rfl := _hn_g3
  unfold gameroomref_beside_m at hm
  replace hm := start_b hm
  refine enter (l := [.agg #[.int .i64 g1, .int .i64 g2, .slice A1 g3.length c1], .int .i64 a1, .int .i64 b1]) (n := 49) Try.func110 rfl rfl (by simp) (fun a hF => ?_)
  refine seqR ?_
  refine at_do (d := 3) (s := vS (Instr.box 24 (.agg #[.int .i64 g1, .int .i64 g2, .slice A1 g3.length c1]))) (v := .pointer (some ⟨w.heap.size, 0, none⟩)) (w' := w.alloc (.cells #[.int .i64 g1, .int .i64 g2, .slice A1 g3.length c1] 24)) hF (by kernel_rfl) (by kernel_rfl) (by kernel_rfl) (fun a hF => ?_)
  have hS : Sep w0 B (w.alloc (.cells #[.int .i64 g1, .int .i64 g2, .slice A1 g3.length c1] 24)) (blk w.heap.size 24 #[.int .i64 g1, .int .i64 g2, .slice A1 g3.length c1] :: (fs)) := hS.box 24 #[.int .i64 g1, .int .i64 g2, .slice A1 g3.length c1]
  generalize w.heap.size = g4 at hF hS
  generalize w.alloc (.cells #[.int .i64 g1, .int .i64 g2, .slice A1 g3.length c1] 24) = w at hS ⊢
  refine at_run 1 [] [] [1, 2, 3] [pl 1 (.int .i64 a1), pl 2 (.int .i64 b1), pl 3 (.pointer (some ⟨g4, 0, none⟩))] hF hS (by kernel_rfl) (by kernel_rfl) ?_ (fun a w hF hS => ?_)
  · exact obs_nil
  refine at_end [1, 2, 3] [pl 1 (.int .i64 a1), pl 2 (.int .i64 b1), pl 3 (.pointer (some ⟨g4, 0, none⟩))] hF rfl (by kernel_rfl) (fun hF => ?_)
  refine then_n ?_
  obtain ⟨hp1, hm⟩ := asrt_b hm
  obtain ⟨hp2, hm⟩ := asrt_b hm
  obtain ⟨hp3, hm⟩ := asrt_b hm
  obtain ⟨hp4, hm⟩ := asrt_b hm
  refine reg [⟨false, [], vS (Instr.loadAt 3 (.pointer (some ⟨g4, 0, none⟩))), .int .i64 g1⟩, ⟨true, [], vS (Op.intDiv .rem .i64 a1 g1), .int .i64 (Int.tmod a1 g1)⟩, ⟨false, [], vS (Instr.loadAt 3 (.pointer (some ⟨g4, 0, none⟩))), .int .i64 g1⟩, ⟨true, [], vS (Op.intDiv .rem .i64 b1 g1), .int .i64 (Int.tmod b1 g1)⟩, ⟨false, [], vS (Instr.loadAt 3 (.pointer (some ⟨g4, 0, none⟩))), .int .i64 g1⟩, ⟨true, [], vS (Op.intDiv .quo .i64 a1 g1), .int .i64 (w64 (Int.tdiv a1 g1))⟩, ⟨false, [], vS (Instr.loadAt 3 (.pointer (some ⟨g4, 0, none⟩))), .int .i64 g1⟩, ⟨true, [], vS (Op.intDiv .quo .i64 b1 g1), .int .i64 (w64 (Int.tdiv b1 g1))⟩] [none, none, some (.int .i64 g1), some (.int .i64 (Int.tmod a1 g1)), none, none, some (.int .i64 g1), some (.int .i64 (Int.tmod b1 g1)), none, none, none, some (.int .i64 g1), some (.int .i64 (w64 (Int.tdiv a1 g1))), none, none, some (.int .i64 g1), some (.int .i64 (w64 (Int.tdiv b1 g1))), none, none, none] [7, 8] [pl 7 (.int .i64 (w64 ((Int.tmod a1 g1) - (Int.tmod b1 g1)))), pl 8 (.int .i64 (w64 ((w64 (Int.tdiv a1 g1)) - (w64 (Int.tdiv b1 g1)))))] hF hS Fol (by kernel_rfl) (by kernel_rfl) (by kernel_rfl) ?_ (fun a w hF hS => ?_)
  · exact obs_cons (ob_load Agg3 (fun _ _ hS => (hS.at_ 0 rfl).cell rfl)) <| obs_cons (ob_rem rfl (fun _ => hp1)) <| obs_cons (ob_load Agg3 (fun _ _ hS => (hS.at_ 0 rfl).cell rfl)) <| obs_cons (ob_rem rfl (fun _ => hp2)) <| obs_cons (ob_load Agg3 (fun _ _ hS => (hS.at_ 0 rfl).cell rfl)) <| obs_cons (ob_quo rfl (fun _ => hp3)) <| obs_cons (ob_load Agg3 (fun _ _ hS => (hS.at_ 0 rfl).cell rfl)) <| obs_cons (ob_quo rfl (fun _ => hp4)) <| obs_nil
  refine reg [] [] [6] [pl 6 (.bool ((((w64 ((Int.tmod a1 g1) - (Int.tmod b1 g1))) == 0) && (((w64 ((w64 (Int.tdiv a1 g1)) - (w64 (Int.tdiv b1 g1)))) == 1) || ((w64 ((w64 (Int.tdiv a1 g1)) - (w64 (Int.tdiv b1 g1)))) == (-1)))) || (((w64 ((w64 (Int.tdiv a1 g1)) - (w64 (Int.tdiv b1 g1)))) == 0) && (((w64 ((Int.tmod a1 g1) - (Int.tmod b1 g1))) == 1) || ((w64 ((Int.tmod a1 g1) - (Int.tmod b1 g1))) == (-1))))))] hF hS Fol (by kernel_rfl) (by kernel_rfl) (by kernel_rfl) ?_ (fun a w hF hS => ?_)
  · exact obs_nil
  refine wpIn_ret ?_
  have hS := hS.pickN 1 [] (by decide)
  have hm : some ((((w64 ((Int.tmod a1 g1) - (Int.tmod b1 g1))) == 0) && (((w64 ((w64 (Int.tdiv a1 g1)) - (w64 (Int.tdiv b1 g1)))) == 1) || ((w64 ((w64 (Int.tdiv a1 g1)) - (w64 (Int.tdiv b1 g1)))) == (-1)))) || (((w64 ((w64 (Int.tdiv a1 g1)) - (w64 (Int.tdiv b1 g1)))) == 0) && (((w64 ((Int.tmod a1 g1) - (Int.tmod b1 g1))) == 1) || ((w64 ((Int.tmod a1 g1) - (Int.tmod b1 g1))) == (-1))))) = some r := hm
  obtain rfl := Option.some.inj hm
  exact retV (rs := [.tmp 6]) (vs := [.bool ((((w64 ((Int.tmod a1 g1) - (Int.tmod b1 g1))) == 0) && (((w64 ((w64 (Int.tdiv a1 g1)) - (w64 (Int.tdiv b1 g1)))) == 1) || ((w64 ((w64 (Int.tdiv a1 g1)) - (w64 (Int.tdiv b1 g1)))) == (-1)))) || (((w64 ((w64 (Int.tdiv a1 g1)) - (w64 (Int.tdiv b1 g1)))) == 0) && (((w64 ((Int.tmod a1 g1) - (Int.tmod b1 g1))) == 1) || ((w64 ((Int.tmod a1 g1) - (Int.tmod b1 g1))) == (-1)))))]) hF rfl (rv_t (by kernel_rfl) <| rv_nil) rfl ⟨rfl, hS⟩

noncomputable def gameroomref_regionOf_J7  (b1 : Int) (in6 : List Bool) (changed5 : Bool) : Option (St (List Bool × Bool × Int) (List Bool × Bool)) :=
  some (.next (in6, changed5, (w64 (b1 + 1))))

noncomputable def gameroomref_regionOf_J6  (g1 : Int) (g2 : Int) (g3 : List Int) (marked1 : List Bool) (a1 : Int) (in5 : List Bool) (changed4 : Bool) (b1 : Int) : Option (St (List Bool × Bool × Int) (List Bool × Bool)) :=
  asrt (0 ≤ b1 ∧ b1 < (marked1.length : Int)) <| asrt ((getb marked1 b1) = true → 0 ≤ b1 ∧ b1 < (((Int.toNat (g3.length : Int)) : Nat) : Int)) <| ((if ((getb marked1 b1) && (!(getb in5 b1))) then gameroomref_beside_m g1 g2 g3 a1 b1 else some false)).bind fun r1 => if (((getb marked1 b1) && (!(getb in5 b1))) && r1) then (asrt (0 ≤ b1 ∧ b1 < (((Int.toNat (g3.length : Int)) : Nat) : Int)) <| (gameroomref_regionOf_J7 b1) (in5.set (Int.toNat b1) true) true) else ((gameroomref_regionOf_J7 b1) in5 changed4)

noncomputable def gameroomref_regionOf_J4  (a1 : Int) (in4 : List Bool) (changed3 : Bool) : Option (St (List Bool × Bool × Int) (List Bool × Bool)) :=
  some (.next (in4, changed3, (w64 (a1 + 1))))

noncomputable def gameroomref_regionOf_K3  (a1 : Int) : (List Bool × Bool) → Option (St (List Bool × Bool × Int) (List Bool × Bool)) :=
  fun (x : (List Bool × Bool)) => match x with | (in4, changed3) => (gameroomref_regionOf_J4 a1) in4 changed3

noncomputable def gameroomref_regionOf_L3  (g1 : Int) (g2 : Int) (g3 : List Int) (marked1 : List Bool) (a1 : Int) : (List Bool × Bool × Int) → Option (St (List Bool × Bool × Int) (List Bool × Bool)) :=
  fun (x : (List Bool × Bool × Int)) => match x with | (in5, changed4, b1) => if (decide (b1 < (((Int.toNat (g3.length : Int)) : Nat) : Int))) then ((gameroomref_regionOf_J6 g1 g2 g3 marked1 a1 in5 changed4 b1)) else (some (.done (in5, changed4)))

noncomputable def gameroomref_regionOf_J5  (g1 : Int) (g2 : Int) (g3 : List Int) (marked1 : List Bool) (in3 : List Bool) (changed2 : Bool) (a1 : Int) : Option (St (List Bool × Bool × Int) (List Bool × Bool)) :=
  (loop (gameroomref_regionOf_L3 g1 g2 g3 marked1 a1) (in3, changed2, 0)).bind (gameroomref_regionOf_K3 a1)

noncomputable def gameroomref_regionOf_J3  (g1 : Int) (g2 : Int) (g3 : List Int) (marked1 : List Bool) (in3 : List Bool) (changed2 : Bool) (a1 : Int) : Option (St (List Bool × Bool × Int) (List Bool × Bool)) :=
  asrt (0 ≤ a1 ∧ a1 < (((Int.toNat (g3.length : Int)) : Nat) : Int)) <| if (!(getb in3 a1)) then ((gameroomref_regionOf_J4 a1) in3 changed2) else ((gameroomref_regionOf_J5 g1 g2 g3 marked1 in3 changed2 a1))

noncomputable def gameroomref_regionOf_K2  : (List Bool × Bool) → Option (St (List Bool × Bool) (List Bool)) :=
  fun (x : (List Bool × Bool)) => match x with | (in1, changed1) => some (.next (in1, changed1))

noncomputable def gameroomref_regionOf_L2  (g1 : Int) (g2 : Int) (g3 : List Int) (marked1 : List Bool) : (List Bool × Bool × Int) → Option (St (List Bool × Bool × Int) (List Bool × Bool)) :=
  fun (x : (List Bool × Bool × Int)) => match x with | (in3, changed2, a1) => if (decide (a1 < (((Int.toNat (g3.length : Int)) : Nat) : Int))) then ((gameroomref_regionOf_J3 g1 g2 g3 marked1 in3 changed2 a1)) else (some (.done (in3, changed2)))

noncomputable def gameroomref_regionOf_J2  (g1 : Int) (g2 : Int) (g3 : List Int) (marked1 : List Bool) (in1 : List Bool) : Option (St (List Bool × Bool) (List Bool)) :=
  (loop (gameroomref_regionOf_L2 g1 g2 g3 marked1) (in1, false, 0)).bind gameroomref_regionOf_K2

noncomputable def gameroomref_regionOf_J1  (in2 : List Bool) : Option (List Bool) :=
  some in2

noncomputable def gameroomref_regionOf_K1  : (List Bool) → Option (List Bool) :=
  fun (x : (List Bool)) => match x with | in2 => gameroomref_regionOf_J1 in2

noncomputable def gameroomref_regionOf_L1  (g1 : Int) (g2 : Int) (g3 : List Int) (marked1 : List Bool) : (List Bool × Bool) → Option (St (List Bool × Bool) (List Bool)) :=
  fun (x : (List Bool × Bool)) => match x with | (in1, changed1) => if changed1 then ((gameroomref_regionOf_J2 g1 g2 g3 marked1 in1)) else (some (.done in1))

noncomputable def gameroomref_regionOf_m  (g1 : Int) (g2 : Int) (g3 : List Int) (place1 : Int) (marked1 : List Bool) : Option (List Bool) :=
  asrt ((0 : Int) ≤ (g3.length : Int) ∧ (g3.length : Int) ≤ bigN) <| asrt (0 ≤ place1 ∧ place1 < (((Int.toNat (g3.length : Int)) : Nat) : Int)) <| (loop (gameroomref_regionOf_L1 g1 g2 g3 marked1) (((List.replicate (Int.toNat (g3.length : Int)) false).set (Int.toNat place1) true), true)).bind gameroomref_regionOf_K1

set_option maxRecDepth 100000 in
set_option maxHeartbeats 4000000 in
theorem gameroomref_regionOf_w  {g1 : Int} {g2 : Int} {A1 : Option Addr} {c1 : Nat} {n1 : Nat} {g3 : List Int} {place1 : Int} {A2 : Option Addr} {c2 : Nat} {n2 : Nat} {marked1 : List Bool} {r : (List Bool)} {w0 w : World} {B : Nat} {fs : List HP} (hm : gameroomref_regionOf_m g1 g2 g3 place1 marked1 = some r) (hS : Sep w0 B w (fs)) (hr_g3 : RdF w0 B fs A1 (vI g3)) (_hc_g3 : g3.length ≤ c1) (_hn_g3 : n1 = g3.length) (hr_marked1 : RdF w0 B fs A2 (vB marked1)) (_hc_marked1 : marked1.length ≤ c2) (_hn_marked1 : n2 = marked1.length) :
    Calls Try.prog 55 #[.agg #[.int .i64 g1, .int .i64 g2, .slice A1 n1 c1], .int .i64 place1, .slice A2 n2 c2] w fun e w' => ∃ v, e = .returned v ∧ ∃ (A4 : Option Addr) (c4 : Nat), v = .slice A4 r.length c4 ∧ Sep w0 B w' (own 4 (.slice A4 r.length c4) (vB r) :: fs) := by
  obtain ⟨i3, hi3, hz3, hs3, hb3⟩ := info_parts Info3
  obtain ⟨i4, hi4, hz4, hs4, hb4⟩ := info_parts Info4
  obtain rfl := _hn_g3
  obtain rfl := _hn_marked1
  unfold gameroomref_regionOf_m at hm
  replace hm := start_b hm
  refine enter (l := [.agg #[.int .i64 g1, .int .i64 g2, .slice A1 g3.length c1], .int .i64 place1, .slice A2 marked1.length c2]) (n := 57) Try.func55 rfl rfl (by simp) (fun a hF => ?_)
  refine seqR ?_
  refine at_do (d := 3) (s := vS (Instr.box 24 (.agg #[.int .i64 g1, .int .i64 g2, .slice A1 g3.length c1]))) (v := .pointer (some ⟨w.heap.size, 0, none⟩)) (w' := w.alloc (.cells #[.int .i64 g1, .int .i64 g2, .slice A1 g3.length c1] 24)) hF (by kernel_rfl) (by kernel_rfl) (by kernel_rfl) (fun a hF => ?_)
  have hS : Sep w0 B (w.alloc (.cells #[.int .i64 g1, .int .i64 g2, .slice A1 g3.length c1] 24)) (blk w.heap.size 24 #[.int .i64 g1, .int .i64 g2, .slice A1 g3.length c1] :: (fs)) := hS.box 24 #[.int .i64 g1, .int .i64 g2, .slice A1 g3.length c1]
  generalize w.heap.size = g4 at hF hS
  generalize w.alloc (.cells #[.int .i64 g1, .int .i64 g2, .slice A1 g3.length c1] 24) = w at hS ⊢
  refine at_run 1 [] [] [1, 2, 3] [pl 1 (.int .i64 place1), pl 2 (.slice A2 marked1.length c2), pl 3 (.pointer (some ⟨g4, 0, none⟩))] hF hS (by kernel_rfl) (by kernel_rfl) ?_ (fun a w hF hS => ?_)
  · exact obs_nil
  refine at_end [1, 2, 3] [pl 1 (.int .i64 place1), pl 2 (.slice A2 marked1.length c2), pl 3 (.pointer (some ⟨g4, 0, none⟩))] hF rfl (by kernel_rfl) (fun hF => ?_)
  refine then_n ?_
  refine seqR ?_
  obtain ⟨hp1, hm⟩ := asrt_b hm
  refine at_run 3 [⟨false, [], vS (Instr.loadAt 22 (.pointer (some ⟨g4, 2, none⟩))), .slice A1 g3.length c1⟩] [none, some (.slice A1 g3.length c1), none] [1, 2, 3, 13] [pl 1 (.int .i64 place1), pl 2 (.slice A2 marked1.length c2), pl 3 (.pointer (some ⟨g4, 0, none⟩)), pl 13 (.int .i64 (g3.length : Int))] hF hS (by kernel_rfl) (by kernel_rfl) ?_ (fun a w hF hS => ?_)
  · exact obs_cons (ob_load Agg22 (fun _ _ hS => (hS.at_ 0 rfl).cell rfl)) <| obs_nil
  obtain ⟨A3, c3, w, hrun, hS⟩ := run_mk1 (P := Try.prog) (t := 86) Value.bool false hS .i64 .i64 Und86 hi4 hz4 hs4 (by omega) rfl hp1
  have hS : Sep w0 B w (own 4 (.slice A3 (Int.toNat (g3.length : Int)) c3) (vB (List.replicate (Int.toNat (g3.length : Int)) false)) :: blk g4 24 #[.int .i64 g1, .int .i64 g2, .slice A1 g3.length c1] :: fs) := hS
  refine at_do (d := 14) hF (by kernel_rfl) (by kernel_rfl) hrun (fun a hF => ?_)
  refine at_run 1 [] [] [1, 2, 3, 7] [pl 1 (.int .i64 place1), pl 2 (.slice A2 marked1.length c2), pl 3 (.pointer (some ⟨g4, 0, none⟩)), pl 7 (.slice A3 (Int.toNat (g3.length : Int)) c3)] hF hS (by kernel_rfl) (by kernel_rfl) ?_ (fun a w hF hS => ?_)
  · exact obs_nil
  refine at_end [1, 2, 3, 7] [pl 1 (.int .i64 place1), pl 2 (.slice A2 marked1.length c2), pl 3 (.pointer (some ⟨g4, 0, none⟩)), pl 7 (.slice A3 (Int.toNat (g3.length : Int)) c3)] hF rfl (by kernel_rfl) (fun hF => ?_)
  refine then_n ?_
  refine seqR ?_
  obtain ⟨hp2, hm⟩ := asrt_b hm
  refine at_run 3 [⟨true, [], vS (Instr.indexAt 86 (.slice A3 (Int.toNat (g3.length : Int)) c3) (.int .i64 place1)), .pointer (some (sAddr A3 place1))⟩] [none, none, some (.pointer (some (sAddr A3 place1)))] [2, 3, 7, 17] [pl 2 (.slice A2 marked1.length c2), pl 3 (.pointer (some ⟨g4, 0, none⟩)), pl 7 (.slice A3 (Int.toNat (g3.length : Int)) c3), pl 17 (.pointer (some (sAddr A3 place1)))] hF hS (by kernel_rfl) (by kernel_rfl) ?_ (fun a w hF hS => ?_)
  · exact obs_cons (ob_ix1 (f := Value.bool) (m := (List.replicate (Int.toNat (g3.length : Int)) false)) Und86 hi4 hs4 (hS.at_ 0 rfl).rd ((hS.at_ 0 rfl).len1) (fun _ => hp2)) <| obs_nil
  obtain ⟨w, hrun, hS⟩ := run_set1 (P := Try.prog) (t := 4) (x := true) Value.bool (hS.at_ 0 rfl) hi4 hs4 rfl rfl hp2
  refine at_skip hF (by kernel_rfl) hrun ?_
  have hS : Sep w0 B w (own 4 (.slice A3 (Int.toNat (g3.length : Int)) c3) (vB ((List.replicate (Int.toNat (g3.length : Int)) false).set (Int.toNat place1) true)) :: blk g4 24 #[.int .i64 g1, .int .i64 g2, .slice A1 g3.length c1] :: fs) := hS
  refine at_end [2, 3, 7] [pl 2 (.slice A2 marked1.length c2), pl 3 (.pointer (some ⟨g4, 0, none⟩)), pl 7 (.slice A3 (Int.toNat (g3.length : Int)) c3)] hF rfl (by kernel_rfl) (fun hF => ?_)
  refine then_n ?_
  refine seq_cut (fun a w => ∃ (in2 : List Bool), Fr 57 [pl 7 (.slice A3 (Int.toNat (g3.length : Int)) c3)] a ∧ Sep w0 B w (own 4 (.slice A3 (Int.toNat (g3.length : Int)) c3) (vB in2) :: fs) ∧ (gameroomref_regionOf_J1 in2).bind some = some r) ?_ ?_
  · rintro a w ⟨in2, hF, hS, hm⟩
    unfold gameroomref_regionOf_J1 at hm
    refine reg [] [] [6] [pl 6 (.slice A3 (Int.toNat (g3.length : Int)) c3)] hF hS Fol (by kernel_rfl) (by kernel_rfl) (by kernel_rfl) ?_ (fun a w hF hS => ?_)
    · exact obs_nil
    refine wpIn_ret ?_
    have hl1 := (hS.at_ 0 rfl).len1
    have hS := (hS.at_ 0 rfl).reN hl1
    have hS : Sep w0 B w (own 4 (.slice A3 in2.length c3) (vB in2) :: fs) := hS
    have hF := hF.cast (t := 6) (v := .slice A3 (Int.toNat (g3.length : Int)) c3) (v' := .slice A3 in2.length c3) rfl rfl (congrArg (fun k => Value.slice A3 k c3) hl1)
    have hm : some in2 = some r := hm
    obtain rfl := Option.some.inj hm
    exact retV (rs := [.tmp 6]) (vs := [.slice A3 in2.length c3]) hF rfl (rv_t (by kernel_rfl) <| rv_nil) rfl ⟨_, rfl, A3, c3, rfl, hS⟩
  · refine reg [] [] [2, 3, 7, 8] [pl 2 (.slice A2 marked1.length c2), pl 3 (.pointer (some ⟨g4, 0, none⟩)), pl 7 (.slice A3 (Int.toNat (g3.length : Int)) c3), pl 8 (.bool true)] hF hS Fol (by kernel_rfl) (by kernel_rfl) (by kernel_rfl) ?_ (fun a w hF hS => ?_)
    · exact obs_nil
    refine wpIn_block ?_
    have hS := hS.pickN 2 [1, 0] (by decide)
    refine wp_loop_model (S := (List Bool × Bool)) (R := (List Bool)) (gameroomref_regionOf_L1 g1 g2 g3 marked1) (fun x => (gameroomref_regionOf_K1 x).bind some) r (fun (x : (List Bool × Bool)) a w => Fr 57 [pl 2 (.slice A2 marked1.length c2), pl 3 (.pointer (some ⟨g4, 0, none⟩)), pl 7 (.slice A3 (Int.toNat (g3.length : Int)) c3), pl 8 (.bool x.2)] a ∧ Sep w0 B w (blk g4 24 #[.int .i64 g1, .int .i64 g2, .slice A1 g3.length c1] :: own 4 (.slice A3 (Int.toNat (g3.length : Int)) c3) (vB x.1) :: fs)) (assoc_b hm) ⟨hF.weak [2, 3, 7, 8] (by kernel_rfl), hS⟩ ?_
    clear hF hS hm
    rintro nn1 ⟨in1, changed1⟩ a w ⟨hF, hS⟩ hm
    generalize hφ1 : stK (gameroomref_regionOf_L1 g1 g2 g3 marked1) nn1 (fun x => (gameroomref_regionOf_K1 x).bind some) = φ1 at hm
    unfold gameroomref_regionOf_L1 at hm
    dsimp only at hF hS hm
    refine seq_cut (fun a w => Fr 57 [pl 2 (.slice A2 marked1.length c2), pl 3 (.pointer (some ⟨g4, 0, none⟩)), pl 7 (.slice A3 (Int.toNat (g3.length : Int)) c3)] a ∧ Sep w0 B w (blk g4 24 #[.int .i64 g1, .int .i64 g2, .slice A1 g3.length c1] :: own 4 (.slice A3 (Int.toNat (g3.length : Int)) c3) (vB in1) :: fs) ∧ ((gameroomref_regionOf_J2 g1 g2 g3 marked1 in1)).bind φ1 = some r) ?_ ?_
    · rintro a w ⟨hF, hS, hm⟩
      unfold gameroomref_regionOf_J2 at hm
      refine wpIn_block ?_
      refine reg [] [] [2, 3, 7, 8] [pl 2 (.slice A2 marked1.length c2), pl 3 (.pointer (some ⟨g4, 0, none⟩)), pl 7 (.slice A3 (Int.toNat (g3.length : Int)) c3), pl 8 (.bool false)] hF hS Fol (by kernel_rfl) (by kernel_rfl) (by kernel_rfl) ?_ (fun a w hF hS => ?_)
      · exact obs_nil
      refine reg [] [] [2, 3, 7, 8, 9] [pl 2 (.slice A2 marked1.length c2), pl 3 (.pointer (some ⟨g4, 0, none⟩)), pl 7 (.slice A3 (Int.toNat (g3.length : Int)) c3), pl 8 (.bool false), pl 9 (.int .i64 0)] hF hS Fol (by kernel_rfl) (by kernel_rfl) (by kernel_rfl) ?_ (fun a w hF hS => ?_)
      · exact obs_nil
      refine wpIn_block ?_
      refine wp_loop_model (S := (List Bool × Bool × Int)) (R := (List Bool × Bool)) (gameroomref_regionOf_L2 g1 g2 g3 marked1) (fun x => (gameroomref_regionOf_K2 x).bind φ1) r (fun (x : (List Bool × Bool × Int)) a w => Fr 57 [pl 2 (.slice A2 marked1.length c2), pl 3 (.pointer (some ⟨g4, 0, none⟩)), pl 7 (.slice A3 (Int.toNat (g3.length : Int)) c3), pl 8 (.bool x.2.1), pl 9 (.int .i64 x.2.2)] a ∧ Sep w0 B w (blk g4 24 #[.int .i64 g1, .int .i64 g2, .slice A1 g3.length c1] :: own 4 (.slice A3 (Int.toNat (g3.length : Int)) c3) (vB x.1) :: fs)) (assoc_b hm) ⟨hF.weak [2, 3, 7, 8, 9] (by kernel_rfl), hS⟩ ?_
      clear hF hS hm
      rintro nn2 ⟨in3, changed2, a1⟩ a w ⟨hF, hS⟩ hm
      generalize hφ2 : stK (gameroomref_regionOf_L2 g1 g2 g3 marked1) nn2 (fun x => (gameroomref_regionOf_K2 x).bind φ1) = φ2 at hm
      unfold gameroomref_regionOf_L2 at hm
      dsimp only at hF hS hm
      refine seq_cut (fun a w => Fr 57 [pl 2 (.slice A2 marked1.length c2), pl 3 (.pointer (some ⟨g4, 0, none⟩)), pl 7 (.slice A3 (Int.toNat (g3.length : Int)) c3), pl 8 (.bool changed2), pl 9 (.int .i64 a1)] a ∧ Sep w0 B w (blk g4 24 #[.int .i64 g1, .int .i64 g2, .slice A1 g3.length c1] :: own 4 (.slice A3 (Int.toNat (g3.length : Int)) c3) (vB in3) :: fs) ∧ ((gameroomref_regionOf_J3 g1 g2 g3 marked1 in3 changed2 a1)).bind φ2 = some r) ?_ ?_
      · rintro a w ⟨hF, hS, hm⟩
        unfold gameroomref_regionOf_J3 at hm
        refine seq_cut (fun a w => ∃ (in4 : List Bool) (changed3 : Bool), Fr 57 [pl 2 (.slice A2 marked1.length c2), pl 3 (.pointer (some ⟨g4, 0, none⟩)), pl 7 (.slice A3 (Int.toNat (g3.length : Int)) c3), pl 8 (.bool changed3), pl 9 (.int .i64 a1)] a ∧ Sep w0 B w (blk g4 24 #[.int .i64 g1, .int .i64 g2, .slice A1 g3.length c1] :: own 4 (.slice A3 (Int.toNat (g3.length : Int)) c3) (vB in4) :: fs) ∧ ((gameroomref_regionOf_J4 a1) in4 changed3).bind φ2 = some r) ?_ ?_
        · rintro a w ⟨in4, changed3, hF, hS, hm⟩
          unfold gameroomref_regionOf_J4 at hm
          refine reg1 [] [] [2, 3, 7, 8, 9] [pl 2 (.slice A2 marked1.length c2), pl 3 (.pointer (some ⟨g4, 0, none⟩)), pl 7 (.slice A3 (Int.toNat (g3.length : Int)) c3), pl 8 (.bool changed3), pl 9 (.int .i64 (w64 (a1 + 1)))] hF hS Fol (by kernel_rfl) (by kernel_rfl) (by kernel_rfl) ?_ (fun a w hF hS => ?_)
          · exact obs_nil
          refine then_n ?_
          rw [← hφ2] at hm
          exact ⟨(in4, changed3, (w64 (a1 + 1))), ⟨hF.weak [2, 3, 7, 8, 9] (by kernel_rfl), hS⟩, hm⟩
        · refine wpIn_block ?_
          refine seq_cut (fun a w => Fr 57 [pl 2 (.slice A2 marked1.length c2), pl 3 (.pointer (some ⟨g4, 0, none⟩)), pl 7 (.slice A3 (Int.toNat (g3.length : Int)) c3), pl 8 (.bool changed2), pl 9 (.int .i64 a1)] a ∧ Sep w0 B w (blk g4 24 #[.int .i64 g1, .int .i64 g2, .slice A1 g3.length c1] :: own 4 (.slice A3 (Int.toNat (g3.length : Int)) c3) (vB in3) :: fs) ∧ ((gameroomref_regionOf_J5 g1 g2 g3 marked1 in3 changed2 a1)).bind φ2 = some r) ?_ ?_
          · rintro a w ⟨hF, hS, hm⟩
            unfold gameroomref_regionOf_J5 at hm
            refine reg [] [] [2, 3, 7, 8, 9, 10] [pl 2 (.slice A2 marked1.length c2), pl 3 (.pointer (some ⟨g4, 0, none⟩)), pl 7 (.slice A3 (Int.toNat (g3.length : Int)) c3), pl 8 (.bool changed2), pl 9 (.int .i64 a1), pl 10 (.int .i64 0)] hF hS Fol (by kernel_rfl) (by kernel_rfl) (by kernel_rfl) ?_ (fun a w hF hS => ?_)
            · exact obs_nil
            refine wpIn_block ?_
            refine wp_loop_model (S := (List Bool × Bool × Int)) (R := (List Bool × Bool)) (gameroomref_regionOf_L3 g1 g2 g3 marked1 a1) (fun x => ((gameroomref_regionOf_K3 a1) x).bind φ2) r (fun (x : (List Bool × Bool × Int)) a w => Fr 57 [pl 2 (.slice A2 marked1.length c2), pl 3 (.pointer (some ⟨g4, 0, none⟩)), pl 7 (.slice A3 (Int.toNat (g3.length : Int)) c3), pl 8 (.bool x.2.1), pl 9 (.int .i64 a1), pl 10 (.int .i64 x.2.2)] a ∧ Sep w0 B w (blk g4 24 #[.int .i64 g1, .int .i64 g2, .slice A1 g3.length c1] :: own 4 (.slice A3 (Int.toNat (g3.length : Int)) c3) (vB x.1) :: fs)) (assoc_b hm) ⟨hF.weak [2, 3, 7, 8, 9, 10] (by kernel_rfl), hS⟩ ?_
            clear hF hS hm
            rintro nn3 ⟨in5, changed4, b1⟩ a w ⟨hF, hS⟩ hm
            generalize hφ3 : stK (gameroomref_regionOf_L3 g1 g2 g3 marked1 a1) nn3 (fun x => ((gameroomref_regionOf_K3 a1) x).bind φ2) = φ3 at hm
            unfold gameroomref_regionOf_L3 at hm
            dsimp only at hF hS hm
            refine seq_cut (fun a w => Fr 57 [pl 2 (.slice A2 marked1.length c2), pl 3 (.pointer (some ⟨g4, 0, none⟩)), pl 7 (.slice A3 (Int.toNat (g3.length : Int)) c3), pl 8 (.bool changed4), pl 9 (.int .i64 a1), pl 10 (.int .i64 b1)] a ∧ Sep w0 B w (blk g4 24 #[.int .i64 g1, .int .i64 g2, .slice A1 g3.length c1] :: own 4 (.slice A3 (Int.toNat (g3.length : Int)) c3) (vB in5) :: fs) ∧ ((gameroomref_regionOf_J6 g1 g2 g3 marked1 a1 in5 changed4 b1)).bind φ3 = some r) ?_ ?_
            · rintro a w ⟨hF, hS, hm⟩
              unfold gameroomref_regionOf_J6 at hm
              refine seq_cut (fun a w => ∃ (in6 : List Bool) (changed5 : Bool), Fr 57 [pl 2 (.slice A2 marked1.length c2), pl 3 (.pointer (some ⟨g4, 0, none⟩)), pl 7 (.slice A3 (Int.toNat (g3.length : Int)) c3), pl 8 (.bool changed5), pl 9 (.int .i64 a1), pl 10 (.int .i64 b1)] a ∧ Sep w0 B w (blk g4 24 #[.int .i64 g1, .int .i64 g2, .slice A1 g3.length c1] :: own 4 (.slice A3 (Int.toNat (g3.length : Int)) c3) (vB in6) :: fs) ∧ ((gameroomref_regionOf_J7 b1) in6 changed5).bind φ3 = some r) ?_ ?_
              · rintro a w ⟨in6, changed5, hF, hS, hm⟩
                unfold gameroomref_regionOf_J7 at hm
                refine reg1 [] [] [2, 3, 7, 8, 9, 10] [pl 2 (.slice A2 marked1.length c2), pl 3 (.pointer (some ⟨g4, 0, none⟩)), pl 7 (.slice A3 (Int.toNat (g3.length : Int)) c3), pl 8 (.bool changed5), pl 9 (.int .i64 a1), pl 10 (.int .i64 (w64 (b1 + 1)))] hF hS Fol (by kernel_rfl) (by kernel_rfl) (by kernel_rfl) ?_ (fun a w hF hS => ?_)
                · exact obs_nil
                refine then_n ?_
                rw [← hφ3] at hm
                exact ⟨(in6, changed5, (w64 (b1 + 1))), ⟨hF.weak [2, 3, 7, 8, 9, 10] (by kernel_rfl), hS⟩, hm⟩
              · refine wpIn_block ?_
                obtain ⟨hp4, hm⟩ := asrt_b hm
                obtain ⟨hp5, hm⟩ := asrt_b hm
                obtain ⟨r1, hr1, hm⟩ := call_b hm
                refine reg [⟨true, [], vS (Instr.indexAt 86 (.slice A2 marked1.length c2) (.int .i64 b1)), .pointer (some (sAddr A2 b1))⟩, ⟨false, [], vS (Instr.loadAt 4 (.pointer (some (sAddr A2 b1)))), .bool (getb marked1 b1)⟩, ⟨true, [(getb marked1 b1, true)], vS (Instr.indexAt 86 (.slice A3 (Int.toNat (g3.length : Int)) c3) (.int .i64 b1)), .pointer (some (sAddr A3 b1))⟩, ⟨false, [(getb marked1 b1, true)], vS (Instr.loadAt 4 (.pointer (some (sAddr A3 b1)))), .bool (getb in5 b1)⟩, ⟨false, [((getb marked1 b1) && (!(getb in5 b1)), true)], vS (Instr.loadAt 24 (.pointer (some ⟨g4, 0, none⟩))), .agg #[.int .i64 g1, .int .i64 g2, .slice A1 g3.length c1]⟩, ⟨false, [((getb marked1 b1) && (!(getb in5 b1)), true)], callFunc 110 #[.agg #[.int .i64 g1, .int .i64 g2, .slice A1 g3.length c1], .int .i64 a1, .int .i64 b1], .bool r1⟩] [none, none, some (.pointer (some (sAddr A2 b1))), some (.bool (getb marked1 b1)), none, none, none, some (.pointer (some (sAddr A3 b1))), some (.bool (getb in5 b1)), none, none, none, some (.agg #[.int .i64 g1, .int .i64 g2, .slice A1 g3.length c1]), none, none, some (.bool r1), none] [2, 3, 7, 8, 9, 10, 52] [pl 2 (.slice A2 marked1.length c2), pl 3 (.pointer (some ⟨g4, 0, none⟩)), pl 7 (.slice A3 (Int.toNat (g3.length : Int)) c3), pl 8 (.bool changed4), pl 9 (.int .i64 a1), pl 10 (.int .i64 b1), pl 52 (.bool (((getb marked1 b1) && (!(getb in5 b1))) && r1))] hF hS Fol (by kernel_rfl) (by kernel_rfl) (by kernel_rfl) ?_ (fun a w hF hS => ?_)
                · exact obs_cons (ob_ix1 (f := Value.bool) (m := marked1) Und86 hi4 hs4 (hr_marked1 _ (hS.dropN 2)) rfl (fun _ => hp4)) <| obs_cons (ob_get1 (n := marked1.length) (m := marked1) Value.bool false Agg4 (fun _ hS => ⟨_, (hr_marked1 _ (hS.dropN 2))⟩) (fun _ hS => rfl) (fun _ => hp4)) <| obs_cons (ob_ix1 (f := Value.bool) (m := in5) Und86 hi4 hs4 (hS.at_ 1 rfl).rd ((hS.at_ 1 rfl).len1) (fun hy => hp5 (hy (getb marked1 b1, true) (by simp)))) <| obs_cons (ob_get1 (n := (Int.toNat (g3.length : Int))) (m := in5) Value.bool false Agg4 (fun _ hS => ⟨_, (hS.at_ 1 rfl).rd⟩) (fun _ hS => ((hS.at_ 1 rfl).len1)) (fun hy => hp5 (hy (getb marked1 b1, true) (by simp)))) <| obs_cons (ob_loadA (cs := #[.int .i64 g1, .int .i64 g2, .slice A1 g3.length c1]) (by kernel_rfl) (by kernel_rfl) (fun _ _ hS => (hS.at_ 0 rfl).cellsAt 0 (by rfl))) <| obs_cons (ob_call Try.func110 (by kernel_rfl) rfl (fun hy _ hS => gameroomref_beside_w (ite_some hr1 (by rw [show ((getb marked1 b1) && (!(getb in5 b1))) = true from hy ((getb marked1 b1) && (!(getb in5 b1)), true) (by simp)]; try rfl)) hS (fun _ hS => (hr_g3 _ (hS.dropN 2))) _hc_g3 rfl)) <| obs_nil
                refine cond_ev (t := 52) (b := ((getb marked1 b1) && (!(getb in5 b1))) && r1) hF (by kernel_rfl) (fun hb => ?_) (fun hb => ?_)
                · replace hm := if_t hm hb
                  refine seqR ?_
                  obtain ⟨hp6, hm⟩ := asrt_b hm
                  refine at_run 3 [⟨true, [], vS (Instr.indexAt 86 (.slice A3 (Int.toNat (g3.length : Int)) c3) (.int .i64 b1)), .pointer (some (sAddr A3 b1))⟩] [none, none, some (.pointer (some (sAddr A3 b1)))] [2, 3, 7, 9, 10, 55] [pl 2 (.slice A2 marked1.length c2), pl 3 (.pointer (some ⟨g4, 0, none⟩)), pl 7 (.slice A3 (Int.toNat (g3.length : Int)) c3), pl 9 (.int .i64 a1), pl 10 (.int .i64 b1), pl 55 (.pointer (some (sAddr A3 b1)))] hF hS (by kernel_rfl) (by kernel_rfl) ?_ (fun a w hF hS => ?_)
                  · exact obs_cons (ob_ix1 (f := Value.bool) (m := in5) Und86 hi4 hs4 (hS.at_ 1 rfl).rd ((hS.at_ 1 rfl).len1) (fun _ => hp6)) <| obs_nil
                  obtain ⟨w, hrun, hS⟩ := run_set1 (P := Try.prog) (t := 4) (x := true) Value.bool (hS.at_ 1 rfl) hi4 hs4 rfl rfl hp6
                  refine at_skip hF (by kernel_rfl) hrun ?_
                  have hS : Sep w0 B w (blk g4 24 #[.int .i64 g1, .int .i64 g2, .slice A1 g3.length c1] :: own 4 (.slice A3 (Int.toNat (g3.length : Int)) c3) (vB (in5.set (Int.toNat b1) true)) :: fs) := hS
                  refine at_end [2, 3, 7, 9, 10] [pl 2 (.slice A2 marked1.length c2), pl 3 (.pointer (some ⟨g4, 0, none⟩)), pl 7 (.slice A3 (Int.toNat (g3.length : Int)) c3), pl 9 (.int .i64 a1), pl 10 (.int .i64 b1)] hF rfl (by kernel_rfl) (fun hF => ?_)
                  refine then_n ?_
                  refine reg1 [] [] [2, 3, 7, 8, 9, 10] [pl 2 (.slice A2 marked1.length c2), pl 3 (.pointer (some ⟨g4, 0, none⟩)), pl 7 (.slice A3 (Int.toNat (g3.length : Int)) c3), pl 8 (.bool true), pl 9 (.int .i64 a1), pl 10 (.int .i64 b1)] hF hS Fol (by kernel_rfl) (by kernel_rfl) (by kernel_rfl) ?_ (fun a w hF hS => ?_)
                  · exact obs_nil
                  refine block_n ?_
                  refine then_n ?_
                  exact ⟨(in5.set (Int.toNat b1) true), true, hF.weak [2, 3, 7, 8, 9, 10] (by kernel_rfl), hS, hm⟩
                · replace hm := if_f hm hb
                  refine wpIn_skip ?_
                  refine block_n ?_
                  refine then_n ?_
                  exact ⟨in5, changed4, hF.weak [2, 3, 7, 8, 9, 10] (by kernel_rfl), hS, hm⟩
            · refine reg [] [] [2, 3, 7, 8, 9, 10, 33] [pl 2 (.slice A2 marked1.length c2), pl 3 (.pointer (some ⟨g4, 0, none⟩)), pl 7 (.slice A3 (Int.toNat (g3.length : Int)) c3), pl 8 (.bool changed4), pl 9 (.int .i64 a1), pl 10 (.int .i64 b1), pl 33 (.bool (decide (b1 < (((Int.toNat (g3.length : Int)) : Nat) : Int))))] hF hS Fol (by kernel_rfl) (by kernel_rfl) (by kernel_rfl) ?_ (fun a w hF hS => ?_)
              · exact obs_nil
              refine cond_ev (t := 33) (b := decide (b1 < (((Int.toNat (g3.length : Int)) : Nat) : Int))) hF (by kernel_rfl) (fun hb => ?_) (fun hb => ?_)
              · replace hm := if_t hm hb
                refine wpIn_skip ?_
                refine then_n ?_
                exact ⟨hF.weak [2, 3, 7, 8, 9, 10] (by kernel_rfl), hS, hm⟩
              · replace hm := if_f hm hb
                refine wpIn_exit ?_
                refine then_e (then_e (block_e (block_n (then_n ?_))))
                rw [← hφ3] at hm
                replace hm := done_b hm
                unfold gameroomref_regionOf_K3 at hm
                try dsimp only at hm
                have hm : ((gameroomref_regionOf_J4 a1) in5 changed4).bind φ2 = some r := hm
                exact ⟨in5, changed4, hF.weak [2, 3, 7, 8, 9] (by kernel_rfl), hS, hm⟩
          · obtain ⟨hp3, hm⟩ := asrt_b hm
            refine reg [⟨true, [], vS (Instr.indexAt 86 (.slice A3 (Int.toNat (g3.length : Int)) c3) (.int .i64 a1)), .pointer (some (sAddr A3 a1))⟩, ⟨false, [], vS (Instr.loadAt 4 (.pointer (some (sAddr A3 a1)))), .bool (getb in3 a1)⟩] [none, none, some (.pointer (some (sAddr A3 a1))), some (.bool (getb in3 a1)), none] [2, 3, 7, 8, 9, 29] [pl 2 (.slice A2 marked1.length c2), pl 3 (.pointer (some ⟨g4, 0, none⟩)), pl 7 (.slice A3 (Int.toNat (g3.length : Int)) c3), pl 8 (.bool changed2), pl 9 (.int .i64 a1), pl 29 (.bool (!(getb in3 a1)))] hF hS Fol (by kernel_rfl) (by kernel_rfl) (by kernel_rfl) ?_ (fun a w hF hS => ?_)
            · exact obs_cons (ob_ix1 (f := Value.bool) (m := in3) Und86 hi4 hs4 (hS.at_ 1 rfl).rd ((hS.at_ 1 rfl).len1) (fun _ => hp3)) <| obs_cons (ob_get1 (n := (Int.toNat (g3.length : Int))) (m := in3) Value.bool false Agg4 (fun _ hS => ⟨_, (hS.at_ 1 rfl).rd⟩) (fun _ hS => ((hS.at_ 1 rfl).len1)) (fun _ => hp3)) <| obs_nil
            refine cond_ev (t := 29) (b := !(getb in3 a1)) hF (by kernel_rfl) (fun hb => ?_) (fun hb => ?_)
            · replace hm := if_t hm hb
              refine wpIn_exit ?_
              refine then_e (block_e (then_n ?_))
              exact ⟨in3, changed2, hF.weak [2, 3, 7, 8, 9] (by kernel_rfl), hS, hm⟩
            · replace hm := if_f hm hb
              refine wpIn_skip ?_
              refine then_n ?_
              exact ⟨hF.weak [2, 3, 7, 8, 9] (by kernel_rfl), hS, hm⟩
      · refine reg [] [] [2, 3, 7, 8, 9, 22] [pl 2 (.slice A2 marked1.length c2), pl 3 (.pointer (some ⟨g4, 0, none⟩)), pl 7 (.slice A3 (Int.toNat (g3.length : Int)) c3), pl 8 (.bool changed2), pl 9 (.int .i64 a1), pl 22 (.bool (decide (a1 < (((Int.toNat (g3.length : Int)) : Nat) : Int))))] hF hS Fol (by kernel_rfl) (by kernel_rfl) (by kernel_rfl) ?_ (fun a w hF hS => ?_)
        · exact obs_nil
        refine cond_ev (t := 22) (b := decide (a1 < (((Int.toNat (g3.length : Int)) : Nat) : Int))) hF (by kernel_rfl) (fun hb => ?_) (fun hb => ?_)
        · replace hm := if_t hm hb
          refine wpIn_skip ?_
          refine then_n ?_
          exact ⟨hF.weak [2, 3, 7, 8, 9] (by kernel_rfl), hS, hm⟩
        · replace hm := if_f hm hb
          refine wpIn_exit ?_
          refine then_e (then_e (block_e (block_n (then_n ?_))))
          rw [← hφ2] at hm
          replace hm := done_b hm
          unfold gameroomref_regionOf_K2 at hm
          try dsimp only at hm
          have hm : (some (.next (in3, changed2))).bind φ1 = some r := hm
          rw [← hφ1] at hm
          exact ⟨(in3, changed2), ⟨hF.weak [2, 3, 7, 8] (by kernel_rfl), hS⟩, hm⟩
    · refine reg [] [] [2, 3, 7, 18] [pl 2 (.slice A2 marked1.length c2), pl 3 (.pointer (some ⟨g4, 0, none⟩)), pl 7 (.slice A3 (Int.toNat (g3.length : Int)) c3), pl 18 (.bool changed1)] hF hS Fol (by kernel_rfl) (by kernel_rfl) (by kernel_rfl) ?_ (fun a w hF hS => ?_)
      · exact obs_nil
      refine cond_ev (t := 18) (b := changed1) hF (by kernel_rfl) (fun hb => ?_) (fun hb => ?_)
      · replace hm := if_t hm hb
        refine wpIn_skip ?_
        refine then_n ?_
        exact ⟨hF.weak [2, 3, 7] (by kernel_rfl), hS, hm⟩
      · replace hm := if_f hm hb
        refine wpIn_exit ?_
        refine then_e (then_e (block_e (then_n ?_)))
        have hS := hS.pickN 2 [1] (by decide)
        rw [← hφ1] at hm
        replace hm := done_b hm
        unfold gameroomref_regionOf_K1 at hm
        try dsimp only at hm
        have hm : (gameroomref_regionOf_J1 in1).bind some = some r := hm
        exact ⟨in1, hF.weak [7] (by kernel_rfl), hS, hm⟩

noncomputable def gameroomref_besideAny_J3  (i1 : Int) : Option (St Int (Fl Unit Bool)) :=
  some (.next (w64 (i1 + 1)))

noncomputable def gameroomref_besideAny_J2  (g1 : Int) (g2 : Int) (g3 : List Int) (place1 : Int) (in1 : List Bool) (i1 : Int) : Option (St Int (Fl Unit Bool)) :=
  asrt (0 ≤ i1 ∧ i1 < (in1.length : Int)) <| ((if (getb in1 i1) then gameroomref_beside_m g1 g2 g3 i1 place1 else some false)).bind fun r1 => if ((getb in1 i1) && r1) then (some (.done (.ret true))) else ((gameroomref_besideAny_J3 i1))

noncomputable def gameroomref_besideAny_J1  : Option Bool :=
  some false

noncomputable def gameroomref_besideAny_K1  : (Fl Unit Bool) → Option Bool :=
  fun (x : (Fl Unit Bool)) => match x with | .go _ => gameroomref_besideAny_J1 | .ret x => some x

noncomputable def gameroomref_besideAny_L1  (g1 : Int) (g2 : Int) (g3 : List Int) (place1 : Int) (in1 : List Bool) : Int → Option (St Int (Fl Unit Bool)) :=
  fun (x : Int) => match x with | i1 => if (decide (i1 < (in1.length : Int))) then ((gameroomref_besideAny_J2 g1 g2 g3 place1 in1 i1)) else (some (.done (.go ())))

noncomputable def gameroomref_besideAny_m  (g1 : Int) (g2 : Int) (g3 : List Int) (place1 : Int) (in1 : List Bool) : Option Bool :=
  (loop (gameroomref_besideAny_L1 g1 g2 g3 place1 in1) 0).bind gameroomref_besideAny_K1

set_option maxRecDepth 100000 in
set_option maxHeartbeats 4000000 in
theorem gameroomref_besideAny_w  {g1 : Int} {g2 : Int} {A1 : Option Addr} {c1 : Nat} {n1 : Nat} {g3 : List Int} {place1 : Int} {A2 : Option Addr} {c2 : Nat} {n2 : Nat} {in1 : List Bool} {r : Bool} {w0 w : World} {B : Nat} {fs : List HP} (hm : gameroomref_besideAny_m g1 g2 g3 place1 in1 = some r) (hS : Sep w0 B w (fs)) (hr_g3 : RdF w0 B fs A1 (vI g3)) (_hc_g3 : g3.length ≤ c1) (_hn_g3 : n1 = g3.length) (hr_in1 : RdF w0 B fs A2 (vB in1)) (_hc_in1 : in1.length ≤ c2) (_hn_in1 : n2 = in1.length) :
    Calls Try.prog 57 #[.agg #[.int .i64 g1, .int .i64 g2, .slice A1 n1 c1], .int .i64 place1, .slice A2 n2 c2] w fun e w' => e = .returned (.bool r) ∧ Sep w0 B w' (fs) := by
  obtain ⟨i3, hi3, hz3, hs3, hb3⟩ := info_parts Info3
  obtain ⟨i4, hi4, hz4, hs4, hb4⟩ := info_parts Info4
  obtain rfl := _hn_g3
  obtain rfl := _hn_in1
  unfold gameroomref_besideAny_m at hm
  replace hm := start_b hm
  refine enter (l := [.agg #[.int .i64 g1, .int .i64 g2, .slice A1 g3.length c1], .int .i64 place1, .slice A2 in1.length c2]) (n := 24) Try.func57 rfl rfl (by simp) (fun a hF => ?_)
  refine seqR ?_
  refine at_do (d := 3) (s := vS (Instr.box 24 (.agg #[.int .i64 g1, .int .i64 g2, .slice A1 g3.length c1]))) (v := .pointer (some ⟨w.heap.size, 0, none⟩)) (w' := w.alloc (.cells #[.int .i64 g1, .int .i64 g2, .slice A1 g3.length c1] 24)) hF (by kernel_rfl) (by kernel_rfl) (by kernel_rfl) (fun a hF => ?_)
  have hS : Sep w0 B (w.alloc (.cells #[.int .i64 g1, .int .i64 g2, .slice A1 g3.length c1] 24)) (blk w.heap.size 24 #[.int .i64 g1, .int .i64 g2, .slice A1 g3.length c1] :: (fs)) := hS.box 24 #[.int .i64 g1, .int .i64 g2, .slice A1 g3.length c1]
  generalize w.heap.size = g4 at hF hS
  generalize w.alloc (.cells #[.int .i64 g1, .int .i64 g2, .slice A1 g3.length c1] 24) = w at hS ⊢
  refine at_run 1 [] [] [1, 2, 3] [pl 1 (.int .i64 place1), pl 2 (.slice A2 in1.length c2), pl 3 (.pointer (some ⟨g4, 0, none⟩))] hF hS (by kernel_rfl) (by kernel_rfl) ?_ (fun a w hF hS => ?_)
  · exact obs_nil
  refine at_end [1, 2, 3] [pl 1 (.int .i64 place1), pl 2 (.slice A2 in1.length c2), pl 3 (.pointer (some ⟨g4, 0, none⟩))] hF rfl (by kernel_rfl) (fun hF => ?_)
  refine then_n ?_
  refine seq_cut (fun a w => Fr 24 [] a ∧ Sep w0 B w (fs) ∧ (gameroomref_besideAny_J1).bind some = some r) ?_ ?_
  · rintro a w ⟨hF, hS, hm⟩
    unfold gameroomref_besideAny_J1 at hm
    refine reg [] [] [6] [pl 6 (.bool false)] hF hS Fol (by kernel_rfl) (by kernel_rfl) (by kernel_rfl) ?_ (fun a w hF hS => ?_)
    · exact obs_nil
    refine wpIn_ret ?_
    have hm : some false = some r := hm
    obtain rfl := Option.some.inj hm
    exact retV (rs := [.tmp 6]) (vs := [.bool false]) hF rfl (rv_t (by kernel_rfl) <| rv_nil) rfl ⟨rfl, hS⟩
  · refine reg [] [] [1, 2, 3, 7] [pl 1 (.int .i64 place1), pl 2 (.slice A2 in1.length c2), pl 3 (.pointer (some ⟨g4, 0, none⟩)), pl 7 (.int .i64 0)] hF hS Fol (by kernel_rfl) (by kernel_rfl) (by kernel_rfl) ?_ (fun a w hF hS => ?_)
    · exact obs_nil
    refine wpIn_block ?_
    refine wp_loop_model (S := Int) (R := (Fl Unit Bool)) (gameroomref_besideAny_L1 g1 g2 g3 place1 in1) (fun x => (gameroomref_besideAny_K1 x).bind some) r (fun (x : Int) a w => Fr 24 [pl 1 (.int .i64 place1), pl 2 (.slice A2 in1.length c2), pl 3 (.pointer (some ⟨g4, 0, none⟩)), pl 7 (.int .i64 x)] a ∧ Sep w0 B w (blk g4 24 #[.int .i64 g1, .int .i64 g2, .slice A1 g3.length c1] :: fs)) (assoc_b hm) ⟨hF.weak [1, 2, 3, 7] (by kernel_rfl), hS⟩ ?_
    clear hF hS hm
    rintro nn1 i1 a w ⟨hF, hS⟩ hm
    generalize hφ1 : stK (gameroomref_besideAny_L1 g1 g2 g3 place1 in1) nn1 (fun x => (gameroomref_besideAny_K1 x).bind some) = φ1 at hm
    unfold gameroomref_besideAny_L1 at hm
    dsimp only at hm
    refine seq_cut (fun a w => Fr 24 [pl 1 (.int .i64 place1), pl 2 (.slice A2 in1.length c2), pl 3 (.pointer (some ⟨g4, 0, none⟩)), pl 7 (.int .i64 i1)] a ∧ Sep w0 B w (blk g4 24 #[.int .i64 g1, .int .i64 g2, .slice A1 g3.length c1] :: fs) ∧ ((gameroomref_besideAny_J2 g1 g2 g3 place1 in1 i1)).bind φ1 = some r) ?_ ?_
    · rintro a w ⟨hF, hS, hm⟩
      unfold gameroomref_besideAny_J2 at hm
      refine seq_cut (fun a w => Fr 24 [pl 1 (.int .i64 place1), pl 2 (.slice A2 in1.length c2), pl 3 (.pointer (some ⟨g4, 0, none⟩)), pl 7 (.int .i64 i1)] a ∧ Sep w0 B w (blk g4 24 #[.int .i64 g1, .int .i64 g2, .slice A1 g3.length c1] :: fs) ∧ ((gameroomref_besideAny_J3 i1)).bind φ1 = some r) ?_ ?_
      · rintro a w ⟨hF, hS, hm⟩
        unfold gameroomref_besideAny_J3 at hm
        refine reg1 [] [] [1, 2, 3, 7] [pl 1 (.int .i64 place1), pl 2 (.slice A2 in1.length c2), pl 3 (.pointer (some ⟨g4, 0, none⟩)), pl 7 (.int .i64 (w64 (i1 + 1)))] hF hS Fol (by kernel_rfl) (by kernel_rfl) (by kernel_rfl) ?_ (fun a w hF hS => ?_)
        · exact obs_nil
        refine then_n ?_
        rw [← hφ1] at hm
        exact ⟨(w64 (i1 + 1)), ⟨hF.weak [1, 2, 3, 7] (by kernel_rfl), hS⟩, hm⟩
      · refine wpIn_block ?_
        obtain ⟨hp1, hm⟩ := asrt_b hm
        obtain ⟨r1, hr1, hm⟩ := call_b hm
        refine reg [⟨true, [], vS (Instr.indexAt 86 (.slice A2 in1.length c2) (.int .i64 i1)), .pointer (some (sAddr A2 i1))⟩, ⟨false, [], vS (Instr.loadAt 4 (.pointer (some (sAddr A2 i1)))), .bool (getb in1 i1)⟩, ⟨false, [(getb in1 i1, true)], vS (Instr.loadAt 24 (.pointer (some ⟨g4, 0, none⟩))), .agg #[.int .i64 g1, .int .i64 g2, .slice A1 g3.length c1]⟩, ⟨false, [(getb in1 i1, true)], callFunc 110 #[.agg #[.int .i64 g1, .int .i64 g2, .slice A1 g3.length c1], .int .i64 i1, .int .i64 place1], .bool r1⟩] [none, none, some (.pointer (some (sAddr A2 i1))), some (.bool (getb in1 i1)), none, some (.agg #[.int .i64 g1, .int .i64 g2, .slice A1 g3.length c1]), none, none, some (.bool r1), none] [1, 2, 3, 7, 23] [pl 1 (.int .i64 place1), pl 2 (.slice A2 in1.length c2), pl 3 (.pointer (some ⟨g4, 0, none⟩)), pl 7 (.int .i64 i1), pl 23 (.bool ((getb in1 i1) && r1))] hF hS Fol (by kernel_rfl) (by kernel_rfl) (by kernel_rfl) ?_ (fun a w hF hS => ?_)
        · exact obs_cons (ob_ix1 (f := Value.bool) (m := in1) Und86 hi4 hs4 (hr_in1 _ (hS.dropN 1)) rfl (fun _ => hp1)) <| obs_cons (ob_get1 (n := in1.length) (m := in1) Value.bool false Agg4 (fun _ hS => ⟨_, (hr_in1 _ (hS.dropN 1))⟩) (fun _ hS => rfl) (fun _ => hp1)) <| obs_cons (ob_loadA (cs := #[.int .i64 g1, .int .i64 g2, .slice A1 g3.length c1]) (by kernel_rfl) (by kernel_rfl) (fun _ _ hS => (hS.at_ 0 rfl).cellsAt 0 (by rfl))) <| obs_cons (ob_call Try.func110 (by kernel_rfl) rfl (fun hy _ hS => gameroomref_beside_w (ite_some hr1 (by rw [show (getb in1 i1) = true from hy (getb in1 i1, true) (by simp)]; try rfl)) hS (fun _ hS => (hr_g3 _ (hS.dropN 1))) _hc_g3 rfl)) <| obs_nil
        refine cond_ev (t := 23) (b := (getb in1 i1) && r1) hF (by kernel_rfl) (fun hb => ?_) (fun hb => ?_)
        · replace hm := if_t hm hb
          refine reg [] [] [6] [pl 6 (.bool true)] hF hS Fol (by kernel_rfl) (by kernel_rfl) (by kernel_rfl) ?_ (fun a w hF hS => ?_)
          · exact obs_nil
          refine wpIn_ret ?_
          refine block_r (then_r (then_r (block_r (then_r ?_))))
          rw [← hφ1] at hm
          replace hm := done_b hm
          unfold gameroomref_besideAny_K1 at hm
          try dsimp only at hm
          have hS := hS.pickN 1 [] (by decide)
          have hm : some true = some r := hm
          obtain rfl := Option.some.inj hm
          exact retV (rs := [.tmp 6]) (vs := [.bool true]) hF rfl (rv_t (by kernel_rfl) <| rv_nil) rfl ⟨rfl, hS⟩
        · replace hm := if_f hm hb
          refine wpIn_skip ?_
          refine block_n ?_
          refine then_n ?_
          exact ⟨hF.weak [1, 2, 3, 7] (by kernel_rfl), hS, hm⟩
    · refine reg [] [] [1, 2, 3, 7, 11] [pl 1 (.int .i64 place1), pl 2 (.slice A2 in1.length c2), pl 3 (.pointer (some ⟨g4, 0, none⟩)), pl 7 (.int .i64 i1), pl 11 (.bool (decide (i1 < (in1.length : Int))))] hF hS Fol (by kernel_rfl) (by kernel_rfl) (by kernel_rfl) ?_ (fun a w hF hS => ?_)
      · exact obs_nil
      refine cond_ev (t := 11) (b := decide (i1 < (in1.length : Int))) hF (by kernel_rfl) (fun hb => ?_) (fun hb => ?_)
      · replace hm := if_t hm hb
        refine wpIn_skip ?_
        refine then_n ?_
        exact ⟨hF.weak [1, 2, 3, 7] (by kernel_rfl), hS, hm⟩
      · replace hm := if_f hm hb
        refine wpIn_exit ?_
        refine then_e (then_e (block_e (then_n ?_)))
        have hS := hS.pickN 1 [] (by decide)
        rw [← hφ1] at hm
        replace hm := done_b hm
        unfold gameroomref_besideAny_K1 at hm
        try dsimp only at hm
        have hm : (gameroomref_besideAny_J1).bind some = some r := hm
        exact ⟨hF.weak [] (by kernel_rfl), hS, hm⟩

noncomputable def gameroomref_AreasOf_J8  (k1 : Int) (one3 : Bool) (two3 : Bool) : Option (St (Bool × Bool × Int) (Bool × Bool)) :=
  some (.next (one3, two3, (w64 (k1 + 1))))

noncomputable def gameroomref_AreasOf_J7  (g1 : Int) (g2 : Int) (g3 : List Int) (in1 : List Bool) (one1 : Bool) (two1 : Bool) (k1 : Int) : Option (St (Bool × Bool × Int) (Bool × Bool)) :=
  asrt (0 ≤ k1 ∧ k1 < (g3.length : Int)) <| ((if (decide ((0 : Int) < (geti g3 k1))) then gameroomref_besideAny_m g1 g2 g3 k1 in1 else some false)).bind fun r3 => if ((decide ((0 : Int) < (geti g3 k1))) && r3) then (asrt (one1 = false → 0 ≤ k1 ∧ k1 < (g3.length : Int)) <| asrt (two1 = false → 0 ≤ k1 ∧ k1 < (g3.length : Int)) <| (gameroomref_AreasOf_J8 k1) (one1 || ((geti g3 k1) == 1)) (two1 || ((geti g3 k1) == 2))) else ((gameroomref_AreasOf_J8 k1) one1 two1)

noncomputable def gameroomref_AreasOf_J3  (i1 : Int) (out3 : List Int) : Option (St (List Int × Int) (List Int)) :=
  some (.next (out3, (w64 (i1 + 1))))

noncomputable def gameroomref_AreasOf_J6  (out1 : List Int) (i1 : Int) (one2 : Bool) (two2 : Bool) : Option (St (List Int × Int) (List Int)) :=
  if (one2 && (!two2)) then (asrt (0 ≤ (0 : Int) ∧ (0 : Int) < 3) <| asrt (0 ≤ (0 : Int) ∧ (0 : Int) < 3) <| (gameroomref_AreasOf_J3 i1) (out1.set (Int.toNat 0) (w64 ((geti out1 0) + 1)))) else (if (two2 && (!one2)) then (asrt (0 ≤ (1 : Int) ∧ (1 : Int) < 3) <| asrt (0 ≤ (1 : Int) ∧ (1 : Int) < 3) <| (gameroomref_AreasOf_J3 i1) (out1.set (Int.toNat 1) (w64 ((geti out1 1) + 1)))) else (asrt (0 ≤ (2 : Int) ∧ (2 : Int) < 3) <| asrt (0 ≤ (2 : Int) ∧ (2 : Int) < 3) <| (gameroomref_AreasOf_J3 i1) (out1.set (Int.toNat 2) (w64 ((geti out1 2) + 1)))))

noncomputable def gameroomref_AreasOf_K2  (out1 : List Int) (i1 : Int) : (Bool × Bool) → Option (St (List Int × Int) (List Int)) :=
  fun (x : (Bool × Bool)) => match x with | (one2, two2) => (gameroomref_AreasOf_J6 out1 i1) one2 two2

noncomputable def gameroomref_AreasOf_L2  (g1 : Int) (g2 : Int) (g3 : List Int) (in1 : List Bool) : (Bool × Bool × Int) → Option (St (Bool × Bool × Int) (Bool × Bool)) :=
  fun (x : (Bool × Bool × Int)) => match x with | (one1, two1, k1) => if (decide (k1 < (in1.length : Int))) then ((gameroomref_AreasOf_J7 g1 g2 g3 in1 one1 two1 k1)) else (some (.done (one1, two1)))

noncomputable def gameroomref_AreasOf_J5  (g1 : Int) (g2 : Int) (g3 : List Int) (out1 : List Int) (i1 : Int) (in1 : List Bool) : Option (St (List Int × Int) (List Int)) :=
  (loop (gameroomref_AreasOf_L2 g1 g2 g3 in1) (false, false, 0)).bind (gameroomref_AreasOf_K2 out1 i1)

noncomputable def gameroomref_AreasOf_J4  (g1 : Int) (g2 : Int) (g3 : List Int) (out1 : List Int) (i1 : Int) : Option (St (List Int × Int) (List Int)) :=
  (gameroomref_marks_m g1 g2 g3 0 false).bind fun r1 => (gameroomref_regionOf_m g1 g2 g3 i1 r1).bind fun r2 => (gameroomref_AreasOf_J5 g1 g2 g3 out1 i1) r2

noncomputable def gameroomref_AreasOf_J2  (g1 : Int) (g2 : Int) (g3 : List Int) (out1 : List Int) (i1 : Int) : Option (St (List Int × Int) (List Int)) :=
  asrt (0 ≤ i1 ∧ i1 < (g3.length : Int)) <| if (decide ((0 : Int) < (geti g3 i1))) then (asrt (0 ≤ i1 ∧ i1 < (g3.length : Int)) <| asrt (0 ≤ (w64 ((geti g3 i1) - 1)) ∧ (w64 ((geti g3 i1) - 1)) < 3) <| asrt (0 ≤ (w64 ((geti g3 i1) - 1)) ∧ (w64 ((geti g3 i1) - 1)) < 3) <| (gameroomref_AreasOf_J3 i1) (out1.set (Int.toNat (w64 ((geti g3 i1) - 1))) (w64 ((geti out1 (w64 ((geti g3 i1) - 1))) + 1)))) else ((gameroomref_AreasOf_J4 g1 g2 g3 out1 i1))

noncomputable def gameroomref_AreasOf_J1  (out2 : List Int) : Option (List Int) :=
  some out2

noncomputable def gameroomref_AreasOf_K1  : (List Int) → Option (List Int) :=
  fun (x : (List Int)) => match x with | out2 => gameroomref_AreasOf_J1 out2

noncomputable def gameroomref_AreasOf_L1  (g1 : Int) (g2 : Int) (g3 : List Int) : (List Int × Int) → Option (St (List Int × Int) (List Int)) :=
  fun (x : (List Int × Int)) => match x with | (out1, i1) => if (decide (i1 < (g3.length : Int))) then ((gameroomref_AreasOf_J2 g1 g2 g3 out1 i1)) else (some (.done out1))

noncomputable def gameroomref_AreasOf_m  (g1 : Int) (g2 : Int) (g3 : List Int) : Option (List Int) :=
  (loop (gameroomref_AreasOf_L1 g1 g2 g3) (([0, 0, 0] : List Int), 0)).bind gameroomref_AreasOf_K1

set_option maxRecDepth 100000 in
set_option maxHeartbeats 4000000 in
theorem gameroomref_AreasOf_w  {g1 : Int} {g2 : Int} {A1 : Option Addr} {c1 : Nat} {n1 : Nat} {g3 : List Int} {r : (List Int)} {w0 w : World} {B : Nat} {fs : List HP} (hm : gameroomref_AreasOf_m g1 g2 g3 = some r) (hS : Sep w0 B w (fs)) (hr_g3 : RdF w0 B fs A1 (vI g3)) (_hc_g3 : g3.length ≤ c1) (_hn_g3 : n1 = g3.length) :
    Calls Try.prog 13 #[.agg #[.int .i64 g1, .int .i64 g2, .slice A1 n1 c1]] w fun e w' => ∃ v, e = .returned v ∧ ∃ (A7 : Option Addr) (c7 : Nat), v = .slice A7 r.length c7 ∧ Sep w0 B w' (own 3 (.slice A7 r.length c7) (vI r) :: fs) := by
  obtain ⟨i3, hi3, hz3, hs3, hb3⟩ := info_parts Info3
  obtain rfl := _hn_g3
  unfold gameroomref_AreasOf_m at hm
  replace hm := start_b hm
  refine enter (l := [.agg #[.int .i64 g1, .int .i64 g2, .slice A1 g3.length c1]]) (n := 101) Try.func13 rfl rfl (by simp) (fun a hF => ?_)
  refine seqR ?_
  refine at_do (d := 1) (s := vS (Instr.box 24 (.agg #[.int .i64 g1, .int .i64 g2, .slice A1 g3.length c1]))) (v := .pointer (some ⟨w.heap.size, 0, none⟩)) (w' := w.alloc (.cells #[.int .i64 g1, .int .i64 g2, .slice A1 g3.length c1] 24)) hF (by kernel_rfl) (by kernel_rfl) (by kernel_rfl) (fun a hF => ?_)
  have hS : Sep w0 B (w.alloc (.cells #[.int .i64 g1, .int .i64 g2, .slice A1 g3.length c1] 24)) (blk w.heap.size 24 #[.int .i64 g1, .int .i64 g2, .slice A1 g3.length c1] :: (fs)) := hS.box 24 #[.int .i64 g1, .int .i64 g2, .slice A1 g3.length c1]
  generalize w.heap.size = g4 at hF hS
  generalize w.alloc (.cells #[.int .i64 g1, .int .i64 g2, .slice A1 g3.length c1] 24) = w at hS ⊢
  refine at_run 1 [] [] [1] [pl 1 (.pointer (some ⟨g4, 0, none⟩))] hF hS (by kernel_rfl) (by kernel_rfl) ?_ (fun a w hF hS => ?_)
  · exact obs_nil
  refine at_end [1] [pl 1 (.pointer (some ⟨g4, 0, none⟩))] hF rfl (by kernel_rfl) (fun hF => ?_)
  refine then_n ?_
  refine seqR ?_
  refine at_do (d := 9) (s := vS (Instr.buildSlice 22 3 #[(0, .int .i64 0), (1, .int .i64 0), (2, .int .i64 0)])) (v := .slice (some ⟨w.heap.size, 0, none⟩) 3 3) (w' := w.alloc (.cells #[.int .i64 0, .int .i64 0, .int .i64 0] 3)) hF (by kernel_rfl) (by kernel_rfl) (by kernel_rfl) (fun a hF => ?_)
  have hS : Sep w0 B (w.alloc (.cells #[.int .i64 0, .int .i64 0, .int .i64 0] 3)) (own 3 (.slice (some (⟨w.heap.size, 0, none⟩ : Addr)) 3 3) (vI ([0, 0, 0] : List Int)) :: (blk g4 24 #[.int .i64 g1, .int .i64 g2, .slice A1 g3.length c1] :: fs)) := hS.lit 3 #[.int .i64 0, .int .i64 0, .int .i64 0] 3 rfl (by omega)
  generalize (some (⟨w.heap.size, 0, none⟩ : Addr)) = g5 at hF hS
  generalize w.alloc (.cells #[.int .i64 0, .int .i64 0, .int .i64 0] 3) = w at hS ⊢
  refine at_run 1 [] [] [1, 3] [pl 1 (.pointer (some ⟨g4, 0, none⟩)), pl 3 (.slice g5 3 3)] hF hS (by kernel_rfl) (by kernel_rfl) ?_ (fun a w hF hS => ?_)
  · exact obs_nil
  refine at_end [1, 3] [pl 1 (.pointer (some ⟨g4, 0, none⟩)), pl 3 (.slice g5 3 3)] hF rfl (by kernel_rfl) (fun hF => ?_)
  refine then_n ?_
  refine seq_cut (fun a w => ∃ (out2 : List Int), Fr 101 [pl 3 (.slice g5 3 3)] a ∧ Sep w0 B w (own 3 (.slice g5 3 3) (vI out2) :: fs) ∧ (gameroomref_AreasOf_J1 out2).bind some = some r) ?_ ?_
  · rintro a w ⟨out2, hF, hS, hm⟩
    unfold gameroomref_AreasOf_J1 at hm
    refine reg [] [] [2] [pl 2 (.slice g5 3 3)] hF hS Fol (by kernel_rfl) (by kernel_rfl) (by kernel_rfl) ?_ (fun a w hF hS => ?_)
    · exact obs_nil
    refine wpIn_ret ?_
    have hl1 := (hS.at_ 0 rfl).len1
    have hS := (hS.at_ 0 rfl).reN hl1
    have hS : Sep w0 B w (own 3 (.slice g5 out2.length 3) (vI out2) :: fs) := hS
    have hF := hF.cast (t := 2) (v := .slice g5 3 3) (v' := .slice g5 out2.length 3) rfl rfl (congrArg (fun k => Value.slice g5 k 3) hl1)
    have hm : some out2 = some r := hm
    obtain rfl := Option.some.inj hm
    exact retV (rs := [.tmp 2]) (vs := [.slice g5 out2.length 3]) hF rfl (rv_t (by kernel_rfl) <| rv_nil) rfl ⟨_, rfl, g5, 3, rfl, hS⟩
  · refine reg [] [] [1, 3, 4] [pl 1 (.pointer (some ⟨g4, 0, none⟩)), pl 3 (.slice g5 3 3), pl 4 (.int .i64 0)] hF hS Fol (by kernel_rfl) (by kernel_rfl) (by kernel_rfl) ?_ (fun a w hF hS => ?_)
    · exact obs_nil
    refine wpIn_block ?_
    have hS := hS.pickN 2 [1, 0] (by decide)
    refine wp_loop_model (S := (List Int × Int)) (R := (List Int)) (gameroomref_AreasOf_L1 g1 g2 g3) (fun x => (gameroomref_AreasOf_K1 x).bind some) r (fun (x : (List Int × Int)) a w => Fr 101 [pl 1 (.pointer (some ⟨g4, 0, none⟩)), pl 3 (.slice g5 3 3), pl 4 (.int .i64 x.2)] a ∧ Sep w0 B w (blk g4 24 #[.int .i64 g1, .int .i64 g2, .slice A1 g3.length c1] :: own 3 (.slice g5 3 3) (vI x.1) :: fs)) (assoc_b hm) ⟨hF.weak [1, 3, 4] (by kernel_rfl), hS⟩ ?_
    clear hF hS hm
    rintro nn1 ⟨out1, i1⟩ a w ⟨hF, hS⟩ hm
    generalize hφ1 : stK (gameroomref_AreasOf_L1 g1 g2 g3) nn1 (fun x => (gameroomref_AreasOf_K1 x).bind some) = φ1 at hm
    unfold gameroomref_AreasOf_L1 at hm
    dsimp only at hF hS hm
    refine seq_cut (fun a w => Fr 101 [pl 1 (.pointer (some ⟨g4, 0, none⟩)), pl 3 (.slice g5 3 3), pl 4 (.int .i64 i1)] a ∧ Sep w0 B w (blk g4 24 #[.int .i64 g1, .int .i64 g2, .slice A1 g3.length c1] :: own 3 (.slice g5 3 3) (vI out1) :: fs) ∧ ((gameroomref_AreasOf_J2 g1 g2 g3 out1 i1)).bind φ1 = some r) ?_ ?_
    · rintro a w ⟨hF, hS, hm⟩
      unfold gameroomref_AreasOf_J2 at hm
      refine seq_cut (fun a w => ∃ (out3 : List Int), Fr 101 [pl 1 (.pointer (some ⟨g4, 0, none⟩)), pl 3 (.slice g5 3 3), pl 4 (.int .i64 i1)] a ∧ Sep w0 B w (blk g4 24 #[.int .i64 g1, .int .i64 g2, .slice A1 g3.length c1] :: own 3 (.slice g5 3 3) (vI out3) :: fs) ∧ ((gameroomref_AreasOf_J3 i1) out3).bind φ1 = some r) ?_ ?_
      · rintro a w ⟨out3, hF, hS, hm⟩
        unfold gameroomref_AreasOf_J3 at hm
        refine reg1 [] [] [1, 3, 4] [pl 1 (.pointer (some ⟨g4, 0, none⟩)), pl 3 (.slice g5 3 3), pl 4 (.int .i64 (w64 (i1 + 1)))] hF hS Fol (by kernel_rfl) (by kernel_rfl) (by kernel_rfl) ?_ (fun a w hF hS => ?_)
        · exact obs_nil
        refine then_n ?_
        rw [← hφ1] at hm
        exact ⟨(out3, (w64 (i1 + 1))), ⟨hF.weak [1, 3, 4] (by kernel_rfl), hS⟩, hm⟩
      · refine wpIn_block ?_
        refine seq_cut (fun a w => Fr 101 [pl 1 (.pointer (some ⟨g4, 0, none⟩)), pl 3 (.slice g5 3 3), pl 4 (.int .i64 i1)] a ∧ Sep w0 B w (blk g4 24 #[.int .i64 g1, .int .i64 g2, .slice A1 g3.length c1] :: own 3 (.slice g5 3 3) (vI out1) :: fs) ∧ ((gameroomref_AreasOf_J4 g1 g2 g3 out1 i1)).bind φ1 = some r) ?_ ?_
        · rintro a w ⟨hF, hS, hm⟩
          unfold gameroomref_AreasOf_J4 at hm
          refine seq_cut (fun a w => ∃ (in1 : List Bool) (A6 : Option Addr) (c6 : Nat), Fr 101 [pl 1 (.pointer (some ⟨g4, 0, none⟩)), pl 3 (.slice g5 3 3), pl 4 (.int .i64 i1), pl 5 (.slice A6 in1.length c6)] a ∧ Sep w0 B w (blk g4 24 #[.int .i64 g1, .int .i64 g2, .slice A1 g3.length c1] :: own 3 (.slice g5 3 3) (vI out1) :: own 4 (.slice A6 in1.length c6) (vB in1) :: fs) ∧ ((gameroomref_AreasOf_J5 g1 g2 g3 out1 i1) in1).bind φ1 = some r) ?_ ?_
          · rintro a w ⟨in1, A6, c6, hF, hS, hm⟩
            unfold gameroomref_AreasOf_J5 at hm
            refine reg [] [] [1, 3, 4, 5, 6, 7] [pl 1 (.pointer (some ⟨g4, 0, none⟩)), pl 3 (.slice g5 3 3), pl 4 (.int .i64 i1), pl 5 (.slice A6 in1.length c6), pl 6 (.bool false), pl 7 (.bool false)] hF hS Fol (by kernel_rfl) (by kernel_rfl) (by kernel_rfl) ?_ (fun a w hF hS => ?_)
            · exact obs_nil
            refine seq_cut (fun a w => ∃ (one2 : Bool) (two2 : Bool), Fr 101 [pl 1 (.pointer (some ⟨g4, 0, none⟩)), pl 3 (.slice g5 3 3), pl 4 (.int .i64 i1), pl 6 (.bool one2), pl 7 (.bool two2)] a ∧ Sep w0 B w (blk g4 24 #[.int .i64 g1, .int .i64 g2, .slice A1 g3.length c1] :: own 3 (.slice g5 3 3) (vI out1) :: fs) ∧ ((gameroomref_AreasOf_J6 out1 i1) one2 two2).bind φ1 = some r) ?_ ?_
            · rintro a w ⟨one2, two2, hF, hS, hm⟩
              unfold gameroomref_AreasOf_J6 at hm
              refine reg [] [] [1, 3, 4, 6, 7, 79] [pl 1 (.pointer (some ⟨g4, 0, none⟩)), pl 3 (.slice g5 3 3), pl 4 (.int .i64 i1), pl 6 (.bool one2), pl 7 (.bool two2), pl 79 (.bool (one2 && (!two2)))] hF hS Fol (by kernel_rfl) (by kernel_rfl) (by kernel_rfl) ?_ (fun a w hF hS => ?_)
              · exact obs_nil
              refine cond_ev (t := 79) (b := one2 && (!two2)) hF (by kernel_rfl) (fun hb => ?_) (fun hb => ?_)
              · replace hm := if_t hm hb
                refine oneR ?_
                obtain ⟨hp8, hm⟩ := asrt_b hm
                obtain ⟨hp9, hm⟩ := asrt_b hm
                refine at_run 5 [⟨true, [], vS (Instr.indexAt 22 (.slice g5 3 3) (.int .i64 0)), .pointer (some (sAddr g5 0))⟩, ⟨false, [], vS (Instr.loadAt 3 (.pointer (some (sAddr g5 0)))), .int .i64 (geti out1 0)⟩, ⟨true, [], vS (Instr.indexAt 22 (.slice g5 3 3) (.int .i64 0)), .pointer (some (sAddr g5 0))⟩] [none, some (.pointer (some (sAddr g5 0))), some (.int .i64 (geti out1 0)), none, some (.pointer (some (sAddr g5 0)))] [1, 3, 4, 83, 84] [pl 1 (.pointer (some ⟨g4, 0, none⟩)), pl 3 (.slice g5 3 3), pl 4 (.int .i64 i1), pl 83 (.int .i64 (w64 ((geti out1 0) + 1))), pl 84 (.pointer (some (sAddr g5 0)))] hF hS (by kernel_rfl) (by kernel_rfl) ?_ (fun a w hF hS => ?_)
                · exact obs_cons (ob_ix1 (f := (Value.int .i64)) (m := out1) Und22 hi3 hs3 (hS.at_ 1 rfl).rd ((hS.at_ 1 rfl).len1) (fun _ => hp8)) <| obs_cons (ob_get1 (n := 3) (m := out1) (Value.int .i64) (0 : Int) Agg3 (fun _ hS => ⟨_, (hS.at_ 1 rfl).rd⟩) (fun _ hS => ((hS.at_ 1 rfl).len1)) (fun _ => hp8)) <| obs_cons (ob_ix1 (f := (Value.int .i64)) (m := out1) Und22 hi3 hs3 (hS.at_ 1 rfl).rd ((hS.at_ 1 rfl).len1) (fun _ => hp9)) <| obs_nil
                obtain ⟨w, hrun, hS⟩ := run_set1 (P := Try.prog) (t := 3) (x := (w64 ((geti out1 0) + 1))) (Value.int .i64) (hS.at_ 1 rfl) hi3 hs3 rfl rfl hp9
                refine at_skip hF (by kernel_rfl) hrun ?_
                have hS : Sep w0 B w (blk g4 24 #[.int .i64 g1, .int .i64 g2, .slice A1 g3.length c1] :: own 3 (.slice g5 3 3) (vI (out1.set (Int.toNat 0) (w64 ((geti out1 0) + 1)))) :: fs) := hS
                refine at_end [1, 3, 4] [pl 1 (.pointer (some ⟨g4, 0, none⟩)), pl 3 (.slice g5 3 3), pl 4 (.int .i64 i1)] hF rfl (by kernel_rfl) (fun hF => ?_)
                refine block_n ?_
                refine then_n ?_
                exact ⟨(out1.set (Int.toNat 0) (w64 ((geti out1 0) + 1))), hF.weak [1, 3, 4] (by kernel_rfl), hS, hm⟩
              · replace hm := if_f hm hb
                refine reg [] [] [1, 3, 4, 89] [pl 1 (.pointer (some ⟨g4, 0, none⟩)), pl 3 (.slice g5 3 3), pl 4 (.int .i64 i1), pl 89 (.bool (two2 && (!one2)))] hF hS Fol (by kernel_rfl) (by kernel_rfl) (by kernel_rfl) ?_ (fun a w hF hS => ?_)
                · exact obs_nil
                refine cond_ev (t := 89) (b := two2 && (!one2)) hF (by kernel_rfl) (fun hb => ?_) (fun hb => ?_)
                · replace hm := if_t hm hb
                  refine oneR ?_
                  obtain ⟨hp10, hm⟩ := asrt_b hm
                  obtain ⟨hp11, hm⟩ := asrt_b hm
                  refine at_run 5 [⟨true, [], vS (Instr.indexAt 22 (.slice g5 3 3) (.int .i64 1)), .pointer (some (sAddr g5 1))⟩, ⟨false, [], vS (Instr.loadAt 3 (.pointer (some (sAddr g5 1)))), .int .i64 (geti out1 1)⟩, ⟨true, [], vS (Instr.indexAt 22 (.slice g5 3 3) (.int .i64 1)), .pointer (some (sAddr g5 1))⟩] [none, some (.pointer (some (sAddr g5 1))), some (.int .i64 (geti out1 1)), none, some (.pointer (some (sAddr g5 1)))] [1, 3, 4, 93, 94] [pl 1 (.pointer (some ⟨g4, 0, none⟩)), pl 3 (.slice g5 3 3), pl 4 (.int .i64 i1), pl 93 (.int .i64 (w64 ((geti out1 1) + 1))), pl 94 (.pointer (some (sAddr g5 1)))] hF hS (by kernel_rfl) (by kernel_rfl) ?_ (fun a w hF hS => ?_)
                  · exact obs_cons (ob_ix1 (f := (Value.int .i64)) (m := out1) Und22 hi3 hs3 (hS.at_ 1 rfl).rd ((hS.at_ 1 rfl).len1) (fun _ => hp10)) <| obs_cons (ob_get1 (n := 3) (m := out1) (Value.int .i64) (0 : Int) Agg3 (fun _ hS => ⟨_, (hS.at_ 1 rfl).rd⟩) (fun _ hS => ((hS.at_ 1 rfl).len1)) (fun _ => hp10)) <| obs_cons (ob_ix1 (f := (Value.int .i64)) (m := out1) Und22 hi3 hs3 (hS.at_ 1 rfl).rd ((hS.at_ 1 rfl).len1) (fun _ => hp11)) <| obs_nil
                  obtain ⟨w, hrun, hS⟩ := run_set1 (P := Try.prog) (t := 3) (x := (w64 ((geti out1 1) + 1))) (Value.int .i64) (hS.at_ 1 rfl) hi3 hs3 rfl rfl hp11
                  refine at_skip hF (by kernel_rfl) hrun ?_
                  have hS : Sep w0 B w (blk g4 24 #[.int .i64 g1, .int .i64 g2, .slice A1 g3.length c1] :: own 3 (.slice g5 3 3) (vI (out1.set (Int.toNat 1) (w64 ((geti out1 1) + 1)))) :: fs) := hS
                  refine at_end [1, 3, 4] [pl 1 (.pointer (some ⟨g4, 0, none⟩)), pl 3 (.slice g5 3 3), pl 4 (.int .i64 i1)] hF rfl (by kernel_rfl) (fun hF => ?_)
                  refine block_n ?_
                  refine then_n ?_
                  exact ⟨(out1.set (Int.toNat 1) (w64 ((geti out1 1) + 1))), hF.weak [1, 3, 4] (by kernel_rfl), hS, hm⟩
                · replace hm := if_f hm hb
                  refine oneR ?_
                  obtain ⟨hp12, hm⟩ := asrt_b hm
                  obtain ⟨hp13, hm⟩ := asrt_b hm
                  refine at_run 5 [⟨true, [], vS (Instr.indexAt 22 (.slice g5 3 3) (.int .i64 2)), .pointer (some (sAddr g5 2))⟩, ⟨false, [], vS (Instr.loadAt 3 (.pointer (some (sAddr g5 2)))), .int .i64 (geti out1 2)⟩, ⟨true, [], vS (Instr.indexAt 22 (.slice g5 3 3) (.int .i64 2)), .pointer (some (sAddr g5 2))⟩] [none, some (.pointer (some (sAddr g5 2))), some (.int .i64 (geti out1 2)), none, some (.pointer (some (sAddr g5 2)))] [1, 3, 4, 98, 99] [pl 1 (.pointer (some ⟨g4, 0, none⟩)), pl 3 (.slice g5 3 3), pl 4 (.int .i64 i1), pl 98 (.int .i64 (w64 ((geti out1 2) + 1))), pl 99 (.pointer (some (sAddr g5 2)))] hF hS (by kernel_rfl) (by kernel_rfl) ?_ (fun a w hF hS => ?_)
                  · exact obs_cons (ob_ix1 (f := (Value.int .i64)) (m := out1) Und22 hi3 hs3 (hS.at_ 1 rfl).rd ((hS.at_ 1 rfl).len1) (fun _ => hp12)) <| obs_cons (ob_get1 (n := 3) (m := out1) (Value.int .i64) (0 : Int) Agg3 (fun _ hS => ⟨_, (hS.at_ 1 rfl).rd⟩) (fun _ hS => ((hS.at_ 1 rfl).len1)) (fun _ => hp12)) <| obs_cons (ob_ix1 (f := (Value.int .i64)) (m := out1) Und22 hi3 hs3 (hS.at_ 1 rfl).rd ((hS.at_ 1 rfl).len1) (fun _ => hp13)) <| obs_nil
                  obtain ⟨w, hrun, hS⟩ := run_set1 (P := Try.prog) (t := 3) (x := (w64 ((geti out1 2) + 1))) (Value.int .i64) (hS.at_ 1 rfl) hi3 hs3 rfl rfl hp13
                  refine at_skip hF (by kernel_rfl) hrun ?_
                  have hS : Sep w0 B w (blk g4 24 #[.int .i64 g1, .int .i64 g2, .slice A1 g3.length c1] :: own 3 (.slice g5 3 3) (vI (out1.set (Int.toNat 2) (w64 ((geti out1 2) + 1)))) :: fs) := hS
                  refine at_end [1, 3, 4] [pl 1 (.pointer (some ⟨g4, 0, none⟩)), pl 3 (.slice g5 3 3), pl 4 (.int .i64 i1)] hF rfl (by kernel_rfl) (fun hF => ?_)
                  refine block_n ?_
                  refine then_n ?_
                  exact ⟨(out1.set (Int.toNat 2) (w64 ((geti out1 2) + 1))), hF.weak [1, 3, 4] (by kernel_rfl), hS, hm⟩
            · refine reg [] [] [1, 3, 4, 5, 6, 7, 8] [pl 1 (.pointer (some ⟨g4, 0, none⟩)), pl 3 (.slice g5 3 3), pl 4 (.int .i64 i1), pl 5 (.slice A6 in1.length c6), pl 6 (.bool false), pl 7 (.bool false), pl 8 (.int .i64 0)] hF hS Fol (by kernel_rfl) (by kernel_rfl) (by kernel_rfl) ?_ (fun a w hF hS => ?_)
              · exact obs_nil
              refine wpIn_block ?_
              refine wp_loop_model (S := (Bool × Bool × Int)) (R := (Bool × Bool)) (gameroomref_AreasOf_L2 g1 g2 g3 in1) (fun x => ((gameroomref_AreasOf_K2 out1 i1) x).bind φ1) r (fun (x : (Bool × Bool × Int)) a w => Fr 101 [pl 1 (.pointer (some ⟨g4, 0, none⟩)), pl 3 (.slice g5 3 3), pl 4 (.int .i64 i1), pl 5 (.slice A6 in1.length c6), pl 6 (.bool x.1), pl 7 (.bool x.2.1), pl 8 (.int .i64 x.2.2)] a ∧ Sep w0 B w (blk g4 24 #[.int .i64 g1, .int .i64 g2, .slice A1 g3.length c1] :: own 3 (.slice g5 3 3) (vI out1) :: own 4 (.slice A6 in1.length c6) (vB in1) :: fs)) (assoc_b hm) ⟨hF.weak [1, 3, 4, 5, 6, 7, 8] (by kernel_rfl), hS⟩ ?_
              clear hF hS hm
              rintro nn2 ⟨one1, two1, k1⟩ a w ⟨hF, hS⟩ hm
              generalize hφ2 : stK (gameroomref_AreasOf_L2 g1 g2 g3 in1) nn2 (fun x => ((gameroomref_AreasOf_K2 out1 i1) x).bind φ1) = φ2 at hm
              unfold gameroomref_AreasOf_L2 at hm
              dsimp only at hF hS hm
              refine seq_cut (fun a w => Fr 101 [pl 1 (.pointer (some ⟨g4, 0, none⟩)), pl 3 (.slice g5 3 3), pl 4 (.int .i64 i1), pl 5 (.slice A6 in1.length c6), pl 6 (.bool one1), pl 7 (.bool two1), pl 8 (.int .i64 k1)] a ∧ Sep w0 B w (blk g4 24 #[.int .i64 g1, .int .i64 g2, .slice A1 g3.length c1] :: own 3 (.slice g5 3 3) (vI out1) :: own 4 (.slice A6 in1.length c6) (vB in1) :: fs) ∧ ((gameroomref_AreasOf_J7 g1 g2 g3 in1 one1 two1 k1)).bind φ2 = some r) ?_ ?_
              · rintro a w ⟨hF, hS, hm⟩
                unfold gameroomref_AreasOf_J7 at hm
                refine seq_cut (fun a w => ∃ (one3 : Bool) (two3 : Bool), Fr 101 [pl 1 (.pointer (some ⟨g4, 0, none⟩)), pl 3 (.slice g5 3 3), pl 4 (.int .i64 i1), pl 5 (.slice A6 in1.length c6), pl 6 (.bool one3), pl 7 (.bool two3), pl 8 (.int .i64 k1)] a ∧ Sep w0 B w (blk g4 24 #[.int .i64 g1, .int .i64 g2, .slice A1 g3.length c1] :: own 3 (.slice g5 3 3) (vI out1) :: own 4 (.slice A6 in1.length c6) (vB in1) :: fs) ∧ ((gameroomref_AreasOf_J8 k1) one3 two3).bind φ2 = some r) ?_ ?_
                · rintro a w ⟨one3, two3, hF, hS, hm⟩
                  unfold gameroomref_AreasOf_J8 at hm
                  refine reg1 [] [] [1, 3, 4, 5, 6, 7, 8] [pl 1 (.pointer (some ⟨g4, 0, none⟩)), pl 3 (.slice g5 3 3), pl 4 (.int .i64 i1), pl 5 (.slice A6 in1.length c6), pl 6 (.bool one3), pl 7 (.bool two3), pl 8 (.int .i64 (w64 (k1 + 1)))] hF hS Fol (by kernel_rfl) (by kernel_rfl) (by kernel_rfl) ?_ (fun a w hF hS => ?_)
                  · exact obs_nil
                  refine then_n ?_
                  rw [← hφ2] at hm
                  exact ⟨(one3, two3, (w64 (k1 + 1))), ⟨hF.weak [1, 3, 4, 5, 6, 7, 8] (by kernel_rfl), hS⟩, hm⟩
                · refine wpIn_block ?_
                  obtain ⟨hp5, hm⟩ := asrt_b hm
                  obtain ⟨r3, hr3, hm⟩ := call_b hm
                  refine reg [⟨false, [], vS (Instr.loadAt 22 (.pointer (some ⟨g4, 2, none⟩))), .slice A1 g3.length c1⟩, ⟨true, [], vS (Instr.indexAt 22 (.slice A1 g3.length c1) (.int .i64 k1)), .pointer (some (sAddr A1 k1))⟩, ⟨false, [], vS (Instr.loadAt 3 (.pointer (some (sAddr A1 k1)))), .int .i64 (geti g3 k1)⟩, ⟨false, [(decide ((0 : Int) < (geti g3 k1)), true)], vS (Instr.loadAt 24 (.pointer (some ⟨g4, 0, none⟩))), .agg #[.int .i64 g1, .int .i64 g2, .slice A1 g3.length c1]⟩, ⟨false, [(decide ((0 : Int) < (geti g3 k1)), true)], callFunc 57 #[.agg #[.int .i64 g1, .int .i64 g2, .slice A1 g3.length c1], .int .i64 k1, .slice A6 in1.length c6], .bool r3⟩] [none, some (.slice A1 g3.length c1), none, some (.pointer (some (sAddr A1 k1))), some (.int .i64 (geti g3 k1)), none, none, some (.agg #[.int .i64 g1, .int .i64 g2, .slice A1 g3.length c1]), none, none, some (.bool r3), none] [1, 3, 4, 5, 6, 7, 8, 56] [pl 1 (.pointer (some ⟨g4, 0, none⟩)), pl 3 (.slice g5 3 3), pl 4 (.int .i64 i1), pl 5 (.slice A6 in1.length c6), pl 6 (.bool one1), pl 7 (.bool two1), pl 8 (.int .i64 k1), pl 56 (.bool ((decide ((0 : Int) < (geti g3 k1))) && r3))] hF hS Fol (by kernel_rfl) (by kernel_rfl) (by kernel_rfl) ?_ (fun a w hF hS => ?_)
                  · exact obs_cons (ob_load Agg22 (fun _ _ hS => (hS.at_ 0 rfl).cell rfl)) <| obs_cons (ob_ix1 (f := (Value.int .i64)) (m := g3) Und22 hi3 hs3 (hr_g3 _ (hS.dropN 3)) rfl (fun _ => hp5)) <| obs_cons (ob_get1 (n := g3.length) (m := g3) (Value.int .i64) (0 : Int) Agg3 (fun _ hS => ⟨_, (hr_g3 _ (hS.dropN 3))⟩) (fun _ hS => rfl) (fun _ => hp5)) <| obs_cons (ob_loadA (cs := #[.int .i64 g1, .int .i64 g2, .slice A1 g3.length c1]) (by kernel_rfl) (by kernel_rfl) (fun _ _ hS => (hS.at_ 0 rfl).cellsAt 0 (by rfl))) <| obs_cons (ob_call Try.func57 (by kernel_rfl) rfl (fun hy _ hS => gameroomref_besideAny_w (ite_some hr3 (by rw [show (decide ((0 : Int) < (geti g3 k1))) = true from hy (decide ((0 : Int) < (geti g3 k1)), true) (by simp)]; try rfl)) hS (fun _ hS => (hr_g3 _ (hS.dropN 3))) _hc_g3 rfl (fun _ hS => (hS.at_ 2 rfl).rd) ((hS.at_ 2 rfl).cap1) rfl)) <| obs_nil
                  refine cond_ev (t := 56) (b := (decide ((0 : Int) < (geti g3 k1))) && r3) hF (by kernel_rfl) (fun hb => ?_) (fun hb => ?_)
                  · replace hm := if_t hm hb
                    obtain ⟨hp6, hm⟩ := asrt_b hm
                    refine reg [⟨false, [(one1, false)], vS (Instr.loadAt 22 (.pointer (some ⟨g4, 2, none⟩))), .slice A1 g3.length c1⟩, ⟨true, [(one1, false)], vS (Instr.indexAt 22 (.slice A1 g3.length c1) (.int .i64 k1)), .pointer (some (sAddr A1 k1))⟩, ⟨false, [(one1, false)], vS (Instr.loadAt 3 (.pointer (some (sAddr A1 k1)))), .int .i64 (geti g3 k1)⟩] [none, none, none, some (.slice A1 g3.length c1), none, some (.pointer (some (sAddr A1 k1))), some (.int .i64 (geti g3 k1)), none, none, none] [1, 3, 4, 5, 6, 7, 8] [pl 1 (.pointer (some ⟨g4, 0, none⟩)), pl 3 (.slice g5 3 3), pl 4 (.int .i64 i1), pl 5 (.slice A6 in1.length c6), pl 6 (.bool (one1 || ((geti g3 k1) == 1))), pl 7 (.bool two1), pl 8 (.int .i64 k1)] hF hS Fol (by kernel_rfl) (by kernel_rfl) (by kernel_rfl) ?_ (fun a w hF hS => ?_)
                    · exact obs_cons (ob_load Agg22 (fun _ _ hS => (hS.at_ 0 rfl).cell rfl)) <| obs_cons (ob_ix1 (f := (Value.int .i64)) (m := g3) Und22 hi3 hs3 (hr_g3 _ (hS.dropN 3)) rfl (fun hy => hp6 (hy (one1, false) (by simp)))) <| obs_cons (ob_get1 (n := g3.length) (m := g3) (Value.int .i64) (0 : Int) Agg3 (fun _ hS => ⟨_, (hr_g3 _ (hS.dropN 3))⟩) (fun _ hS => rfl) (fun hy => hp6 (hy (one1, false) (by simp)))) <| obs_nil
                    obtain ⟨hp7, hm⟩ := asrt_b hm
                    refine reg1 [⟨false, [(two1, false)], vS (Instr.loadAt 22 (.pointer (some ⟨g4, 2, none⟩))), .slice A1 g3.length c1⟩, ⟨true, [(two1, false)], vS (Instr.indexAt 22 (.slice A1 g3.length c1) (.int .i64 k1)), .pointer (some (sAddr A1 k1))⟩, ⟨false, [(two1, false)], vS (Instr.loadAt 3 (.pointer (some (sAddr A1 k1)))), .int .i64 (geti g3 k1)⟩] [none, none, none, some (.slice A1 g3.length c1), none, some (.pointer (some (sAddr A1 k1))), some (.int .i64 (geti g3 k1)), none, none, none] [1, 3, 4, 5, 6, 7, 8] [pl 1 (.pointer (some ⟨g4, 0, none⟩)), pl 3 (.slice g5 3 3), pl 4 (.int .i64 i1), pl 5 (.slice A6 in1.length c6), pl 6 (.bool (one1 || ((geti g3 k1) == 1))), pl 7 (.bool (two1 || ((geti g3 k1) == 2))), pl 8 (.int .i64 k1)] hF hS Fol (by kernel_rfl) (by kernel_rfl) (by kernel_rfl) ?_ (fun a w hF hS => ?_)
                    · exact obs_cons (ob_load Agg22 (fun _ _ hS => (hS.at_ 0 rfl).cell rfl)) <| obs_cons (ob_ix1 (f := (Value.int .i64)) (m := g3) Und22 hi3 hs3 (hr_g3 _ (hS.dropN 3)) rfl (fun hy => hp7 (hy (two1, false) (by simp)))) <| obs_cons (ob_get1 (n := g3.length) (m := g3) (Value.int .i64) (0 : Int) Agg3 (fun _ hS => ⟨_, (hr_g3 _ (hS.dropN 3))⟩) (fun _ hS => rfl) (fun hy => hp7 (hy (two1, false) (by simp)))) <| obs_nil
                    refine block_n ?_
                    refine then_n ?_
                    exact ⟨(one1 || ((geti g3 k1) == 1)), (two1 || ((geti g3 k1) == 2)), hF.weak [1, 3, 4, 5, 6, 7, 8] (by kernel_rfl), hS, hm⟩
                  · replace hm := if_f hm hb
                    refine wpIn_skip ?_
                    refine block_n ?_
                    refine then_n ?_
                    exact ⟨one1, two1, hF.weak [1, 3, 4, 5, 6, 7, 8] (by kernel_rfl), hS, hm⟩
              · refine reg [] [] [1, 3, 4, 5, 6, 7, 8, 42] [pl 1 (.pointer (some ⟨g4, 0, none⟩)), pl 3 (.slice g5 3 3), pl 4 (.int .i64 i1), pl 5 (.slice A6 in1.length c6), pl 6 (.bool one1), pl 7 (.bool two1), pl 8 (.int .i64 k1), pl 42 (.bool (decide (k1 < (in1.length : Int))))] hF hS Fol (by kernel_rfl) (by kernel_rfl) (by kernel_rfl) ?_ (fun a w hF hS => ?_)
                · exact obs_nil
                refine cond_ev (t := 42) (b := decide (k1 < (in1.length : Int))) hF (by kernel_rfl) (fun hb => ?_) (fun hb => ?_)
                · replace hm := if_t hm hb
                  refine wpIn_skip ?_
                  refine then_n ?_
                  exact ⟨hF.weak [1, 3, 4, 5, 6, 7, 8] (by kernel_rfl), hS, hm⟩
                · replace hm := if_f hm hb
                  refine wpIn_exit ?_
                  refine then_e (then_e (block_e (then_n ?_)))
                  have hS := hS.pickN 3 [0, 1] (by decide)
                  rw [← hφ2] at hm
                  replace hm := done_b hm
                  unfold gameroomref_AreasOf_K2 at hm
                  try dsimp only at hm
                  have hm : ((gameroomref_AreasOf_J6 out1 i1) one1 two1).bind φ1 = some r := hm
                  exact ⟨one1, two1, hF.weak [1, 3, 4, 6, 7] (by kernel_rfl), hS, hm⟩
          · obtain ⟨r1, hr1, hm⟩ := call_b hm
            obtain ⟨r2, hr2, hm⟩ := call_b hm
            refine regMix5 [0, 1, 2] [] 3 #[true, true, true, false, false, false] [⟨false, [], vS (Instr.loadAt 24 (.pointer (some ⟨g4, 0, none⟩))), .agg #[.int .i64 g1, .int .i64 g2, .slice A1 g3.length c1]⟩, ⟨false, [], vS (Instr.loadAt 24 (.pointer (some ⟨g4, 0, none⟩))), .agg #[.int .i64 g1, .int .i64 g2, .slice A1 g3.length c1]⟩] [some (.agg #[.int .i64 g1, .int .i64 g2, .slice A1 g3.length c1]), none, some (.agg #[.int .i64 g1, .int .i64 g2, .slice A1 g3.length c1])] [1, 3, 4, 34, 35, 36] [pl 1 (.pointer (some ⟨g4, 0, none⟩)), pl 3 (.slice g5 3 3), pl 4 (.int .i64 i1), pl 34 (.agg #[.int .i64 g1, .int .i64 g2, .slice A1 g3.length c1]), pl 35 (.int .i64 i1), pl 36 (.agg #[.int .i64 g1, .int .i64 g2, .slice A1 g3.length c1])] hF hS Fol (by kernel_rfl) (by kernel_rfl) (by kernel_rfl) (by kernel_rfl) ?_ (fun a w hF hS => ?_)
            · exact obs_cons (ob_loadA (cs := #[.int .i64 g1, .int .i64 g2, .slice A1 g3.length c1]) (by kernel_rfl) (by kernel_rfl) (fun _ _ hS => (hS.at_ 0 rfl).cellsAt 0 (by rfl))) <| obs_cons (ob_loadA (cs := #[.int .i64 g1, .int .i64 g2, .slice A1 g3.length c1]) (by kernel_rfl) (by kernel_rfl) (fun _ _ hS => (hS.at_ 0 rfl).cellsAt 0 (by rfl))) <| obs_nil
            refine any_step [3] (by kernel_rfl) rfl ?_
            refine (all_cons ?_ all_nil)
            · refine any_op (listed' := #[true, true, true, true, false, false]) (by kernel_rfl) (by kernel_rfl) ?_
              refine at_call (f := 56) (args := #[.agg #[.int .i64 g1, .int .i64 g2, .slice A1 g3.length c1], .int .i64 0, .bool false]) (d := 37) hF (by kernel_rfl) (by kernel_rfl) Try.func56 (by kernel_rfl) rfl (gameroomref_marks_w hr1 hS (fun _ hS => (hr_g3 _ (hS.dropN 2))) _hc_g3 rfl) (fun v a w hR hF => ?_)
              clear hS
              obtain ⟨A4, c4, rfl, hS⟩ := hR
              have hS : Sep w0 B w (own 4 (.slice A4 r1.length c4) (vB r1) :: blk g4 24 #[.int .i64 g1, .int .i64 g2, .slice A1 g3.length c1] :: own 3 (.slice g5 3 3) (vI out1) :: fs) := hS
              refine any_fin rfl (hS.pickN 3 [1, 2] (by decide)) ?_
              refine any_step [4] (by kernel_rfl) rfl ?_
              refine (all_cons ?_ all_nil)
              · refine any_op (listed' := #[true, true, true, true, true, false]) (by kernel_rfl) (by kernel_rfl) ?_
                refine at_call (f := 55) (args := #[.agg #[.int .i64 g1, .int .i64 g2, .slice A1 g3.length c1], .int .i64 i1, .slice A4 r1.length c4]) (d := 38) hF (by kernel_rfl) (by kernel_rfl) Try.func55 (by kernel_rfl) rfl (gameroomref_regionOf_w hr2 hS (fun _ hS => (hr_g3 _ (hS.dropN 3))) _hc_g3 rfl (fun _ hS => (hS.at_ 0 rfl).rd) ((hS.at_ 0 rfl).cap1) rfl) (fun v a w hR hF => ?_)
                clear hS
                obtain ⟨A5, c5, rfl, hS⟩ := hR
                have hS : Sep w0 B w (own 4 (.slice A5 r2.length c5) (vB r2) :: own 4 (.slice A4 r1.length c4) (vB r1) :: blk g4 24 #[.int .i64 g1, .int .i64 g2, .slice A1 g3.length c1] :: own 3 (.slice g5 3 3) (vI out1) :: fs) := hS
                refine any_fin rfl (hS.pickN 4 [2, 3] (by decide)) ?_
                refine any_step [5] (by kernel_rfl) rfl ?_
                refine (all_cons ?_ all_nil)
                · refine any_op (listed' := #[true, true, true, true, true, true]) (by kernel_rfl) (by kernel_rfl) ?_
                  refine at_runW 1 [] [] [1, 3, 4, 5] [pl 1 (.pointer (some ⟨g4, 0, none⟩)), pl 3 (.slice g5 3 3), pl 4 (.int .i64 i1), pl 5 (.slice A5 r2.length c5)] hF hS (by kernel_rfl) (by kernel_rfl) ?_ (fun a hF => ?_)
                  · exact obs_nil
                  refine any_finI rfl (fun h => h) ?_
                  refine any_end (by kernel_rfl) ?_
                  refine np_n ?_
                  refine then_n ?_
                  have hS := hS.pickN 4 [2, 3, 0] (by decide)
                  exact ⟨r2, A5, c5, hF.weak [1, 3, 4, 5] (by kernel_rfl), hS, hm⟩
        · obtain ⟨hp1, hm⟩ := asrt_b hm
          refine reg [⟨false, [], vS (Instr.loadAt 22 (.pointer (some ⟨g4, 2, none⟩))), .slice A1 g3.length c1⟩, ⟨true, [], vS (Instr.indexAt 22 (.slice A1 g3.length c1) (.int .i64 i1)), .pointer (some (sAddr A1 i1))⟩, ⟨false, [], vS (Instr.loadAt 3 (.pointer (some (sAddr A1 i1)))), .int .i64 (geti g3 i1)⟩] [none, some (.slice A1 g3.length c1), none, some (.pointer (some (sAddr A1 i1))), some (.int .i64 (geti g3 i1)), none] [1, 3, 4, 22] [pl 1 (.pointer (some ⟨g4, 0, none⟩)), pl 3 (.slice g5 3 3), pl 4 (.int .i64 i1), pl 22 (.bool (decide ((0 : Int) < (geti g3 i1))))] hF hS Fol (by kernel_rfl) (by kernel_rfl) (by kernel_rfl) ?_ (fun a w hF hS => ?_)
          · exact obs_cons (ob_load Agg22 (fun _ _ hS => (hS.at_ 0 rfl).cell rfl)) <| obs_cons (ob_ix1 (f := (Value.int .i64)) (m := g3) Und22 hi3 hs3 (hr_g3 _ (hS.dropN 2)) rfl (fun _ => hp1)) <| obs_cons (ob_get1 (n := g3.length) (m := g3) (Value.int .i64) (0 : Int) Agg3 (fun _ hS => ⟨_, (hr_g3 _ (hS.dropN 2))⟩) (fun _ hS => rfl) (fun _ => hp1)) <| obs_nil
          refine cond_ev (t := 22) (b := decide ((0 : Int) < (geti g3 i1))) hF (by kernel_rfl) (fun hb => ?_) (fun hb => ?_)
          · replace hm := if_t hm hb
            refine seqR ?_
            obtain ⟨hp2, hm⟩ := asrt_b hm
            obtain ⟨hp3, hm⟩ := asrt_b hm
            obtain ⟨hp4, hm⟩ := asrt_b hm
            refine at_run 11 [⟨false, [], vS (Instr.loadAt 22 (.pointer (some ⟨g4, 2, none⟩))), .slice A1 g3.length c1⟩, ⟨true, [], vS (Instr.indexAt 22 (.slice A1 g3.length c1) (.int .i64 i1)), .pointer (some (sAddr A1 i1))⟩, ⟨false, [], vS (Instr.loadAt 3 (.pointer (some (sAddr A1 i1)))), .int .i64 (geti g3 i1)⟩, ⟨true, [], vS (Instr.indexAt 22 (.slice g5 3 3) (.int .i64 (w64 ((geti g3 i1) - 1)))), .pointer (some (sAddr g5 (w64 ((geti g3 i1) - 1))))⟩, ⟨false, [], vS (Instr.loadAt 3 (.pointer (some (sAddr g5 (w64 ((geti g3 i1) - 1)))))), .int .i64 (geti out1 (w64 ((geti g3 i1) - 1)))⟩, ⟨true, [], vS (Instr.indexAt 22 (.slice g5 3 3) (.int .i64 (w64 ((geti g3 i1) - 1)))), .pointer (some (sAddr g5 (w64 ((geti g3 i1) - 1))))⟩] [none, none, some (.slice A1 g3.length c1), none, some (.pointer (some (sAddr A1 i1))), some (.int .i64 (geti g3 i1)), none, some (.pointer (some (sAddr g5 (w64 ((geti g3 i1) - 1))))), some (.int .i64 (geti out1 (w64 ((geti g3 i1) - 1)))), none, some (.pointer (some (sAddr g5 (w64 ((geti g3 i1) - 1)))))] [1, 3, 4, 32, 33] [pl 1 (.pointer (some ⟨g4, 0, none⟩)), pl 3 (.slice g5 3 3), pl 4 (.int .i64 i1), pl 32 (.int .i64 (w64 ((geti out1 (w64 ((geti g3 i1) - 1))) + 1))), pl 33 (.pointer (some (sAddr g5 (w64 ((geti g3 i1) - 1)))))] hF hS (by kernel_rfl) (by kernel_rfl) ?_ (fun a w hF hS => ?_)
            · exact obs_cons (ob_load Agg22 (fun _ _ hS => (hS.at_ 0 rfl).cell rfl)) <| obs_cons (ob_ix1 (f := (Value.int .i64)) (m := g3) Und22 hi3 hs3 (hr_g3 _ (hS.dropN 2)) rfl (fun _ => hp2)) <| obs_cons (ob_get1 (n := g3.length) (m := g3) (Value.int .i64) (0 : Int) Agg3 (fun _ hS => ⟨_, (hr_g3 _ (hS.dropN 2))⟩) (fun _ hS => rfl) (fun _ => hp2)) <| obs_cons (ob_ix1 (f := (Value.int .i64)) (m := out1) Und22 hi3 hs3 (hS.at_ 1 rfl).rd ((hS.at_ 1 rfl).len1) (fun _ => hp3)) <| obs_cons (ob_get1 (n := 3) (m := out1) (Value.int .i64) (0 : Int) Agg3 (fun _ hS => ⟨_, (hS.at_ 1 rfl).rd⟩) (fun _ hS => ((hS.at_ 1 rfl).len1)) (fun _ => hp3)) <| obs_cons (ob_ix1 (f := (Value.int .i64)) (m := out1) Und22 hi3 hs3 (hS.at_ 1 rfl).rd ((hS.at_ 1 rfl).len1) (fun _ => hp4)) <| obs_nil
            obtain ⟨w, hrun, hS⟩ := run_set1 (P := Try.prog) (t := 3) (x := (w64 ((geti out1 (w64 ((geti g3 i1) - 1))) + 1))) (Value.int .i64) (hS.at_ 1 rfl) hi3 hs3 rfl rfl hp4
            refine at_skip hF (by kernel_rfl) hrun ?_
            have hS : Sep w0 B w (blk g4 24 #[.int .i64 g1, .int .i64 g2, .slice A1 g3.length c1] :: own 3 (.slice g5 3 3) (vI (out1.set (Int.toNat (w64 ((geti g3 i1) - 1))) (w64 ((geti out1 (w64 ((geti g3 i1) - 1))) + 1)))) :: fs) := hS
            refine at_end [1, 3, 4] [pl 1 (.pointer (some ⟨g4, 0, none⟩)), pl 3 (.slice g5 3 3), pl 4 (.int .i64 i1)] hF rfl (by kernel_rfl) (fun hF => ?_)
            refine then_n ?_
            refine wpIn_exit ?_
            refine then_e (block_e (then_n ?_))
            exact ⟨(out1.set (Int.toNat (w64 ((geti g3 i1) - 1))) (w64 ((geti out1 (w64 ((geti g3 i1) - 1))) + 1))), hF.weak [1, 3, 4] (by kernel_rfl), hS, hm⟩
          · replace hm := if_f hm hb
            refine wpIn_skip ?_
            refine then_n ?_
            exact ⟨hF.weak [1, 3, 4] (by kernel_rfl), hS, hm⟩
    · refine reg [⟨false, [], vS (Instr.loadAt 22 (.pointer (some ⟨g4, 2, none⟩))), .slice A1 g3.length c1⟩] [none, none, some (.slice A1 g3.length c1), none, none] [1, 3, 4, 14] [pl 1 (.pointer (some ⟨g4, 0, none⟩)), pl 3 (.slice g5 3 3), pl 4 (.int .i64 i1), pl 14 (.bool (decide (i1 < (g3.length : Int))))] hF hS Fol (by kernel_rfl) (by kernel_rfl) (by kernel_rfl) ?_ (fun a w hF hS => ?_)
      · exact obs_cons (ob_load Agg22 (fun _ _ hS => (hS.at_ 0 rfl).cell rfl)) <| obs_nil
      refine cond_ev (t := 14) (b := decide (i1 < (g3.length : Int))) hF (by kernel_rfl) (fun hb => ?_) (fun hb => ?_)
      · replace hm := if_t hm hb
        refine wpIn_skip ?_
        refine then_n ?_
        exact ⟨hF.weak [1, 3, 4] (by kernel_rfl), hS, hm⟩
      · replace hm := if_f hm hb
        refine wpIn_exit ?_
        refine then_e (then_e (block_e (then_n ?_)))
        have hS := hS.pickN 2 [1] (by decide)
        rw [← hφ1] at hm
        replace hm := done_b hm
        unfold gameroomref_AreasOf_K1 at hm
        try dsimp only at hm
        have hm : (gameroomref_AreasOf_J1 out1).bind some = some r := hm
        exact ⟨out1, hF.weak [3] (by kernel_rfl), hS, hm⟩

noncomputable def gameroomref_AliveOf_J13  (p1 : Int) (counted6 : List Bool) (ok4 : Bool) (some4 : Bool) : Option (St (List Bool × Bool × Bool × Int) (List Bool × Bool × Bool)) :=
  some (.next (counted6, ok4, some4, (w64 (p1 + 1))))

noncomputable def gameroomref_AliveOf_J14  (g1 : Int) (g2 : Int) (g3 : List Int) (own5 : List Bool) (out3 : List Bool) (r4 : (List Bool)) (p1 : Int) (counted5 : List Bool) (ok3 : Bool) (some3 : Bool) : Option (St (List Bool × Bool × Bool × Int) (List Bool × Bool × Bool)) :=
  asrt (0 ≤ p1 ∧ p1 < (own5.length : Int)) <| asrt ((getb own5 p1) = true → 0 ≤ p1 ∧ p1 < (((Int.toNat (g3.length : Int)) : Nat) : Int)) <| ((if ((getb own5 p1) && (getb out3 p1)) then gameroomref_besideAny_m g1 g2 g3 p1 r4 else some false)).bind fun r6 => if (((getb own5 p1) && (getb out3 p1)) && r6) then ((gameroomref_AliveOf_J13 p1) counted5 false some3) else ((gameroomref_AliveOf_J13 p1) counted5 ok3 some3)

noncomputable def gameroomref_AliveOf_J12  (g1 : Int) (g2 : Int) (g3 : List Int) (own5 : List Bool) (out3 : List Bool) (r3 : (List Bool)) (r4 : (List Bool)) (counted3 : List Bool) (ok1 : Bool) (some1 : Bool) (p1 : Int) : Option (St (List Bool × Bool × Bool × Int) (List Bool × Bool × Bool)) :=
  asrt (0 ≤ p1 ∧ p1 < (r4.length : Int)) <| if (getb r4 p1) then (asrt (0 ≤ p1 ∧ p1 < (((Int.toNat (g3.length : Int)) : Nat) : Int)) <| asrt (some1 = false → 0 ≤ p1 ∧ p1 < (g3.length : Int)) <| asrt (ok1 = true → 0 ≤ p1 ∧ p1 < (g3.length : Int)) <| ((if (!((geti g3 p1) != 0)) && ok1 then gameroomref_besideAny_m g1 g2 g3 p1 r3 else some false)).bind fun r5 => (gameroomref_AliveOf_J14 g1 g2 g3 own5 out3 r4 p1) (counted3.set (Int.toNat p1) true) (ok1 && (((geti g3 p1) != 0) || r5)) (some1 || ((geti g3 p1) == 0))) else ((gameroomref_AliveOf_J14 g1 g2 g3 own5 out3 r4 p1) counted3 ok1 some1)

noncomputable def gameroomref_AliveOf_J9  (k1 : Int) (good3 : Int) (counted2 : List Bool) : Option (St (Int × List Bool × Int) Int) :=
  some (.next (good3, counted2, (w64 (k1 + 1))))

noncomputable def gameroomref_AliveOf_J11  (good1 : Int) (k1 : Int) (counted4 : List Bool) (ok2 : Bool) (some2 : Bool) : Option (St (Int × List Bool × Int) Int) :=
  if (ok2 && some2) then ((gameroomref_AliveOf_J9 k1) (w64 (good1 + 1)) counted4) else ((gameroomref_AliveOf_J9 k1) good1 counted4)

noncomputable def gameroomref_AliveOf_K4  (good1 : Int) (k1 : Int) : (List Bool × Bool × Bool) → Option (St (Int × List Bool × Int) Int) :=
  fun (x : (List Bool × Bool × Bool)) => match x with | (counted4, ok2, some2) => (gameroomref_AliveOf_J11 good1 k1) counted4 ok2 some2

noncomputable def gameroomref_AliveOf_L4  (g1 : Int) (g2 : Int) (g3 : List Int) (own5 : List Bool) (out3 : List Bool) (r3 : (List Bool)) (r4 : (List Bool)) : (List Bool × Bool × Bool × Int) → Option (St (List Bool × Bool × Bool × Int) (List Bool × Bool × Bool)) :=
  fun (x : (List Bool × Bool × Bool × Int)) => match x with | (counted3, ok1, some1, p1) => if (decide (p1 < (g3.length : Int))) then ((gameroomref_AliveOf_J12 g1 g2 g3 own5 out3 r3 r4 counted3 ok1 some1 p1)) else (some (.done (counted3, ok1, some1)))

noncomputable def gameroomref_AliveOf_J10  (g1 : Int) (g2 : Int) (g3 : List Int) (own5 : List Bool) (rest1 : List Bool) (out3 : List Bool) (r3 : (List Bool)) (good1 : Int) (counted1 : List Bool) (k1 : Int) : Option (St (Int × List Bool × Int) Int) :=
  (gameroomref_regionOf_m g1 g2 g3 k1 rest1).bind fun r4 => (loop (gameroomref_AliveOf_L4 g1 g2 g3 own5 out3 r3 r4) (counted1, true, false, 0)).bind (gameroomref_AliveOf_K4 good1 k1)

noncomputable def gameroomref_AliveOf_J8  (g1 : Int) (g2 : Int) (g3 : List Int) (own5 : List Bool) (rest1 : List Bool) (out3 : List Bool) (r3 : (List Bool)) (good1 : Int) (counted1 : List Bool) (k1 : Int) : Option (St (Int × List Bool × Int) Int) :=
  asrt (0 ≤ k1 ∧ k1 < (rest1.length : Int)) <| asrt ((!(getb rest1 k1)) = false → 0 ≤ k1 ∧ k1 < (((Int.toNat (g3.length : Int)) : Nat) : Int)) <| if ((!(getb rest1 k1)) || (getb counted1 k1)) then ((gameroomref_AliveOf_J9 k1) good1 counted1) else ((gameroomref_AliveOf_J10 g1 g2 g3 own5 rest1 out3 r3 good1 counted1 k1))

noncomputable def gameroomref_AliveOf_J17  (p2 : Int) (out7 : List Bool) : Option (St (List Bool × Int) (List Bool)) :=
  some (.next (out7, (w64 (p2 + 1))))

noncomputable def gameroomref_AliveOf_J16  (g3 : List Int) (r3 : (List Bool)) (out5 : List Bool) (p2 : Int) : Option (St (List Bool × Int) (List Bool)) :=
  asrt (0 ≤ p2 ∧ p2 < (r3.length : Int)) <| if (getb r3 p2) then (asrt (0 ≤ p2 ∧ p2 < (((Int.toNat (g3.length : Int)) : Nat) : Int)) <| (gameroomref_AliveOf_J17 p2) (out5.set (Int.toNat p2) true)) else ((gameroomref_AliveOf_J17 p2) out5)

noncomputable def gameroomref_AliveOf_L5  (g3 : List Int) (r3 : (List Bool)) : (List Bool × Int) → Option (St (List Bool × Int) (List Bool)) :=
  fun (x : (List Bool × Int)) => match x with | (out5, p2) => if (decide (p2 < (g3.length : Int))) then ((gameroomref_AliveOf_J16 g3 r3 out5 p2)) else (some (.done out5))

noncomputable def gameroomref_AliveOf_J5  (i1 : Int) (out4 : List Bool) (changed3 : Bool) : Option (St (List Bool × Bool × Int) (List Bool × Bool)) :=
  some (.next (out4, changed3, (w64 (i1 + 1))))

noncomputable def gameroomref_AliveOf_J15  (i1 : Int) (out6 : List Bool) : Option (St (List Bool × Bool × Int) (List Bool × Bool)) :=
  (gameroomref_AliveOf_J5 i1) out6 true

noncomputable def gameroomref_AliveOf_K5  (i1 : Int) : (List Bool) → Option (St (List Bool × Bool × Int) (List Bool × Bool)) :=
  fun (x : (List Bool)) => match x with | out6 => (gameroomref_AliveOf_J15 i1) out6

noncomputable def gameroomref_AliveOf_J7  (g3 : List Int) (out3 : List Bool) (changed2 : Bool) (i1 : Int) (r3 : (List Bool)) (good2 : Int) : Option (St (List Bool × Bool × Int) (List Bool × Bool)) :=
  if (decide (good2 < 2)) then ((loop (gameroomref_AliveOf_L5 g3 r3) (out3, 0)).bind (gameroomref_AliveOf_K5 i1)) else ((gameroomref_AliveOf_J5 i1) out3 changed2)

noncomputable def gameroomref_AliveOf_K3  (g3 : List Int) (out3 : List Bool) (changed2 : Bool) (i1 : Int) (r3 : (List Bool)) : Int → Option (St (List Bool × Bool × Int) (List Bool × Bool)) :=
  fun (x : Int) => match x with | good2 => (gameroomref_AliveOf_J7 g3 out3 changed2 i1 r3) good2

noncomputable def gameroomref_AliveOf_L3  (g1 : Int) (g2 : Int) (g3 : List Int) (own5 : List Bool) (rest1 : List Bool) (out3 : List Bool) (r3 : (List Bool)) : (Int × List Bool × Int) → Option (St (Int × List Bool × Int) Int) :=
  fun (x : (Int × List Bool × Int)) => match x with | (good1, counted1, k1) => if (decide (k1 < (g3.length : Int))) then ((gameroomref_AliveOf_J8 g1 g2 g3 own5 rest1 out3 r3 good1 counted1 k1)) else (some (.done good1))

noncomputable def gameroomref_AliveOf_J6  (g1 : Int) (g2 : Int) (g3 : List Int) (own5 : List Bool) (rest1 : List Bool) (out3 : List Bool) (changed2 : Bool) (i1 : Int) : Option (St (List Bool × Bool × Int) (List Bool × Bool)) :=
  (gameroomref_regionOf_m g1 g2 g3 i1 own5).bind fun r3 => asrt ((0 : Int) ≤ (g3.length : Int) ∧ (g3.length : Int) ≤ bigN) <| (loop (gameroomref_AliveOf_L3 g1 g2 g3 own5 rest1 out3 r3) (0, (List.replicate (Int.toNat (g3.length : Int)) false), 0)).bind (gameroomref_AliveOf_K3 g3 out3 changed2 i1 r3)

noncomputable def gameroomref_AliveOf_J4  (g1 : Int) (g2 : Int) (g3 : List Int) (own5 : List Bool) (rest1 : List Bool) (out3 : List Bool) (changed2 : Bool) (i1 : Int) : Option (St (List Bool × Bool × Int) (List Bool × Bool)) :=
  asrt (0 ≤ i1 ∧ i1 < (own5.length : Int)) <| asrt ((!(getb own5 i1)) = false → 0 ≤ i1 ∧ i1 < (((Int.toNat (g3.length : Int)) : Nat) : Int)) <| if ((!(getb own5 i1)) || (getb out3 i1)) then ((gameroomref_AliveOf_J5 i1) out3 changed2) else ((gameroomref_AliveOf_J6 g1 g2 g3 own5 rest1 out3 changed2 i1))

noncomputable def gameroomref_AliveOf_K2  : (List Bool × Bool) → Option (St (List Bool × Bool) (List Bool)) :=
  fun (x : (List Bool × Bool)) => match x with | (out1, changed1) => some (.next (out1, changed1))

noncomputable def gameroomref_AliveOf_L2  (g1 : Int) (g2 : Int) (g3 : List Int) (own5 : List Bool) (rest1 : List Bool) : (List Bool × Bool × Int) → Option (St (List Bool × Bool × Int) (List Bool × Bool)) :=
  fun (x : (List Bool × Bool × Int)) => match x with | (out3, changed2, i1) => if (decide (i1 < (g3.length : Int))) then ((gameroomref_AliveOf_J4 g1 g2 g3 own5 rest1 out3 changed2 i1)) else (some (.done (out3, changed2)))

noncomputable def gameroomref_AliveOf_J3  (g1 : Int) (g2 : Int) (g3 : List Int) (own5 : List Bool) (rest1 : List Bool) (out1 : List Bool) : Option (St (List Bool × Bool) (List Bool)) :=
  (loop (gameroomref_AliveOf_L2 g1 g2 g3 own5 rest1) (out1, false, 0)).bind gameroomref_AliveOf_K2

noncomputable def gameroomref_AliveOf_J20  (i2 : Int) (l3 : List Int) : Option (St (List Int × Int) (List Int)) :=
  some (.next (l3, (w64 (i2 + 1))))

noncomputable def gameroomref_AliveOf_J19  (g3 : List Int) (own5 : List Bool) (out2 : List Bool) (l1 : List Int) (i2 : Int) : Option (St (List Int × Int) (List Int)) :=
  asrt (0 ≤ i2 ∧ i2 < (own5.length : Int)) <| asrt ((getb own5 i2) = true → 0 ≤ i2 ∧ i2 < (((Int.toNat (g3.length : Int)) : Nat) : Int)) <| if ((getb own5 i2) && (!(getb out2 i2))) then (asrt ((l1.length : Int) + 1 ≤ bigN) <| (gameroomref_AliveOf_J20 i2) (l1 ++ ([i2] : List Int))) else ((gameroomref_AliveOf_J20 i2) l1)

noncomputable def gameroomref_AliveOf_L6  (g3 : List Int) (own5 : List Bool) (out2 : List Bool) : (List Int × Int) → Option (St (List Int × Int) (List Int)) :=
  fun (x : (List Int × Int)) => match x with | (l1, i2) => if (decide (i2 < (g3.length : Int))) then ((gameroomref_AliveOf_J19 g3 own5 out2 l1 i2)) else (some (.done l1))

noncomputable def gameroomref_AliveOf_J18  (l2 : List Int) : Option (List Int) :=
  some l2

noncomputable def gameroomref_AliveOf_K6  : (List Int) → Option (List Int) :=
  fun (x : (List Int)) => match x with | l2 => gameroomref_AliveOf_J18 l2

noncomputable def gameroomref_AliveOf_J2  (g3 : List Int) (own5 : List Bool) (out2 : List Bool) : Option (List Int) :=
  (loop (gameroomref_AliveOf_L6 g3 own5 out2) (([] : List Int), 0)).bind gameroomref_AliveOf_K6

noncomputable def gameroomref_AliveOf_K1  (g3 : List Int) (own5 : List Bool) : (List Bool) → Option (List Int) :=
  fun (x : (List Bool)) => match x with | out2 => (gameroomref_AliveOf_J2 g3 own5) out2

noncomputable def gameroomref_AliveOf_L1  (g1 : Int) (g2 : Int) (g3 : List Int) (own5 : List Bool) (rest1 : List Bool) : (List Bool × Bool) → Option (St (List Bool × Bool) (List Bool)) :=
  fun (x : (List Bool × Bool)) => match x with | (out1, changed1) => if changed1 then ((gameroomref_AliveOf_J3 g1 g2 g3 own5 rest1 out1)) else (some (.done out1))

noncomputable def gameroomref_AliveOf_J1  (g1 : Int) (g2 : Int) (g3 : List Int) (own5 : List Bool) (rest1 : List Bool) : Option (List Int) :=
  asrt ((0 : Int) ≤ (g3.length : Int) ∧ (g3.length : Int) ≤ bigN) <| (loop (gameroomref_AliveOf_L1 g1 g2 g3 own5 rest1) ((List.replicate (Int.toNat (g3.length : Int)) false), true)).bind (gameroomref_AliveOf_K1 g3 own5)
end Go.Proofs.Ytdjjomghggplpaa
