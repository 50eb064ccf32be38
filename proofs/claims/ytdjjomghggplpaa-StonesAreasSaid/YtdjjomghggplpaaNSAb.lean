/-
  Models and walks, printed by our own program (wip/gen).
-/
import Derived.Test.YtdjjomghggplpaaFB
import Derived.Test.YtdjjomghggplpaaLibSc
import Derived.Test.YtdjjomghggplpaaFE
import Derived.Test.YtdjjomghggplpaaLibPl
import Derived.Test.YtdjjomghggplpaaSH
import Derived.Test.YtdjjomghggplpaaNSAa
namespace Go.Proofs.Ytdjjomghggplpaa
open Go Go.GL Go.RowKit

noncomputable def stones_parts_m  (g1 : Int) (g2 : Int) (g3 : List Int) (v1 : Int) : Option (List (List Int × List Int × Bool)) :=
  asrt ((0 : Int) ≤ (g3.length : Int) ∧ (g3.length : Int) ≤ bigN) <| (loop (stones_parts_L1 g1 g2 g3 v1) (([] : List (List Int × List Int × Bool)), (List.replicate (Int.toNat (g3.length : Int)) false), 0)).bind stones_parts_K1

set_option maxRecDepth 100000 in
set_option maxHeartbeats 4000000 in
theorem stones_parts_w  {g1 : Int} {g2 : Int} {A1 : Option Addr} {c1 : Nat} {n1 : Nat} {g3 : List Int} {g4 : Nat} {v1 : Int} {r : (List (List Int × List Int × Bool))} {w0 w : World} {B : Nat} {fs : List HP} (hm : stones_parts_m g1 g2 g3 v1 = some r) (hS : Sep w0 B w (blk g4 3 #[.int .i64 v1] :: fs)) (hr_g3 : RdF w0 B fs A1 (vI g3)) (_hc_g3 : g3.length ≤ c1) (_hn_g3 : n1 = g3.length) :
    Calls Try.prog 46 #[.agg #[.int .i64 g1, .int .i64 g2, .slice A1 n1 c1], .func (.func 47) #[] #[.pointer (some ⟨g4, 0, none⟩)]] w fun e w' => ∃ v, e = .returned v ∧ ∃ (pg4 : HP) (A9 : Option Addr) (c9 : Nat) (raw4 : List (Nat × Hd3 × Hd3)), v = .slice A9 r.length c9 ∧ Sep w0 B w' (blk g4 3 #[.int .i64 v1] :: pg4 :: prs encP92 gfP92 cfP92 RelQ92 pg4 92 94 A9 r.length c9 raw4 r :: fs) := by
  obtain ⟨i3, hi3, hz3, hs3, hb3⟩ := info_parts Info3
  obtain ⟨i4, hi4, hz4, hs4, hb4⟩ := info_parts Info4
  obtain ⟨i22, hi22, hz22, hs22, hb22⟩ := info_parts Info22
  obtain ⟨i92, hi92, hz92, hs92, hb92⟩ := info_parts Info92
  obtain rfl := _hn_g3
  unfold stones_parts_m at hm
  replace hm := start_b hm
  refine enter (l := [.agg #[.int .i64 g1, .int .i64 g2, .slice A1 g3.length c1], .func (.func 47) #[] #[.pointer (some ⟨g4, 0, none⟩)]]) (n := 68) Try.func46 rfl rfl (by simp) (fun a hF => ?_)
  refine seqR ?_
  refine at_do (d := 2) (s := vS (Instr.box 24 (.agg #[.int .i64 g1, .int .i64 g2, .slice A1 g3.length c1]))) (v := .pointer (some ⟨w.heap.size, 0, none⟩)) (w' := w.alloc (.cells #[.int .i64 g1, .int .i64 g2, .slice A1 g3.length c1] 24)) hF (by kernel_rfl) (by kernel_rfl) (by kernel_rfl) (fun a hF => ?_)
  have hS : Sep w0 B (w.alloc (.cells #[.int .i64 g1, .int .i64 g2, .slice A1 g3.length c1] 24)) (blk w.heap.size 24 #[.int .i64 g1, .int .i64 g2, .slice A1 g3.length c1] :: (blk g4 3 #[.int .i64 v1] :: fs)) := hS.box 24 #[.int .i64 g1, .int .i64 g2, .slice A1 g3.length c1]
  generalize w.heap.size = g5 at hF hS
  generalize w.alloc (.cells #[.int .i64 g1, .int .i64 g2, .slice A1 g3.length c1] 24) = w at hS ⊢
  refine at_run 1 [] [] [1, 2] [pl 1 (.func (.func 47) #[] #[.pointer (some ⟨g4, 0, none⟩)]), pl 2 (.pointer (some ⟨g5, 0, none⟩))] hF hS (by kernel_rfl) (by kernel_rfl) ?_ (fun a w hF hS => ?_)
  · exact obs_nil
  refine at_end [1, 2] [pl 1 (.func (.func 47) #[] #[.pointer (some ⟨g4, 0, none⟩)]), pl 2 (.pointer (some ⟨g5, 0, none⟩))] hF rfl (by kernel_rfl) (fun hF => ?_)
  refine then_n ?_
  refine reg [] [] [1, 2, 5] [pl 1 (.func (.func 47) #[] #[.pointer (some ⟨g4, 0, none⟩)]), pl 2 (.pointer (some ⟨g5, 0, none⟩)), pl 5 (.slice none 0 0)] hF hS Fol (by kernel_rfl) (by kernel_rfl) (by kernel_rfl) ?_ (fun a w hF hS => ?_)
  · exact obs_nil
  refine seqR ?_
  obtain ⟨hp1, hm⟩ := asrt_b hm
  refine at_run 3 [⟨false, [], vS (Instr.loadAt 22 (.pointer (some ⟨g5, 2, none⟩))), .slice A1 g3.length c1⟩] [none, some (.slice A1 g3.length c1), none] [1, 2, 5, 14] [pl 1 (.func (.func 47) #[] #[.pointer (some ⟨g4, 0, none⟩)]), pl 2 (.pointer (some ⟨g5, 0, none⟩)), pl 5 (.slice none 0 0), pl 14 (.int .i64 (g3.length : Int))] hF hS (by kernel_rfl) (by kernel_rfl) ?_ (fun a w hF hS => ?_)
  · exact obs_cons (ob_load Agg22 (fun _ _ hS => (hS.at_ 0 rfl).cell rfl)) <| obs_nil
  obtain ⟨A2, c2, w, hrun, hS⟩ := run_mk1 (P := Try.prog) (t := 86) Value.bool false hS .i64 .i64 Und86 hi4 hz4 hs4 (by omega) rfl hp1
  have hS : Sep w0 B w (own 4 (.slice A2 (Int.toNat (g3.length : Int)) c2) (vB (List.replicate (Int.toNat (g3.length : Int)) false)) :: blk g5 24 #[.int .i64 g1, .int .i64 g2, .slice A1 g3.length c1] :: blk g4 3 #[.int .i64 v1] :: fs) := hS
  refine at_do (d := 15) hF (by kernel_rfl) (by kernel_rfl) hrun (fun a hF => ?_)
  refine at_run 1 [] [] [1, 2, 5, 6] [pl 1 (.func (.func 47) #[] #[.pointer (some ⟨g4, 0, none⟩)]), pl 2 (.pointer (some ⟨g5, 0, none⟩)), pl 5 (.slice none 0 0), pl 6 (.slice A2 (Int.toNat (g3.length : Int)) c2)] hF hS (by kernel_rfl) (by kernel_rfl) ?_ (fun a w hF hS => ?_)
  · exact obs_nil
  refine at_end [1, 2, 5, 6] [pl 1 (.func (.func 47) #[] #[.pointer (some ⟨g4, 0, none⟩)]), pl 2 (.pointer (some ⟨g5, 0, none⟩)), pl 5 (.slice none 0 0), pl 6 (.slice A2 (Int.toNat (g3.length : Int)) c2)] hF rfl (by kernel_rfl) (fun hF => ?_)
  refine then_n ?_
  refine seq_cut (fun a w => ∃ (l2 : List (List Int × List Int × Bool)) (pg2 : HP) (raw2 : List (Nat × Hd3 × Hd3)) (A4 : Option Addr) (c4 : Nat), Fr 68 [pl 5 (.slice A4 l2.length c4)] a ∧ Sep w0 B w (pg2 :: prs encP92 gfP92 cfP92 RelQ92 pg2 92 94 A4 l2.length c4 raw2 l2 :: blk g4 3 #[.int .i64 v1] :: fs) ∧ (stones_parts_J1 l2).bind some = some r) ?_ ?_
  · rintro a w ⟨l2, pg2, raw2, A4, c4, hF, hS, hm⟩
    unfold stones_parts_J1 at hm
    refine reg [] [] [4] [pl 4 (.slice A4 l2.length c4)] hF hS Fol (by kernel_rfl) (by kernel_rfl) (by kernel_rfl) ?_ (fun a w hF hS => ?_)
    · exact obs_nil
    refine wpIn_ret ?_
    have hS := hS.pickN 3 [2, 0, 1] (by decide)
    have hm : some l2 = some r := hm
    obtain rfl := Option.some.inj hm
    exact retV (rs := [.tmp 4]) (vs := [.slice A4 l2.length c4]) hF rfl (rv_t (by kernel_rfl) <| rv_nil) rfl ⟨_, rfl, pg2, A4, c4, raw2, rfl, hS⟩
  · refine reg [⟨false, [], vS (Instr.loadAt 22 (.pointer (some ⟨g5, 2, none⟩))), .slice A1 g3.length c1⟩] [none, some (.slice A1 g3.length c1), none, none] [1, 2, 5, 6, 17, 18, 19] [pl 1 (.func (.func 47) #[] #[.pointer (some ⟨g4, 0, none⟩)]), pl 2 (.pointer (some ⟨g5, 0, none⟩)), pl 5 (.slice none 0 0), pl 6 (.slice A2 (Int.toNat (g3.length : Int)) c2), pl 17 (.slice A1 g3.length c1), pl 18 (.int .i64 (g3.length : Int)), pl 19 (.int .i64 0)] hF hS Fol (by kernel_rfl) (by kernel_rfl) (by kernel_rfl) ?_ (fun a w hF hS => ?_)
    · exact obs_cons (ob_load Agg22 (fun _ _ hS => (hS.at_ 1 rfl).cell rfl)) <| obs_nil
    refine wpIn_block ?_
    have hS : Sep w0 B w (noB :: own 4 (.slice A2 (Int.toNat (g3.length : Int)) c2) (vB (List.replicate (Int.toNat (g3.length : Int)) false)) :: blk g5 24 #[.int .i64 g1, .int .i64 g2, .slice A1 g3.length c1] :: blk g4 3 #[.int .i64 v1] :: fs) := hS.noB
    have hS : Sep w0 B w (prs encP92 gfP92 cfP92 RelQ92 noB 92 94 none 0 0 ([] : List (Nat × Hd3 × Hd3)) ([] : List (List Int × List Int × Bool)) :: noB :: own 4 (.slice A2 (Int.toNat (g3.length : Int)) c2) (vB (List.replicate (Int.toNat (g3.length : Int)) false)) :: blk g5 24 #[.int .i64 g1, .int .i64 g2, .slice A1 g3.length c1] :: blk g4 3 #[.int .i64 v1] :: fs) := hS.nilPr encP92 gfP92 cfP92 RelQ92 noB 92 94
    have hl1 := (hS.at_ 0 rfl).lenPr encPK92
    have hS := (hS.at_ 0 rfl).reNPr hl1
    have hS : Sep w0 B w (prs encP92 gfP92 cfP92 RelQ92 noB 92 94 none (([] : List (List Int × List Int × Bool)).length) 0 ([] : List (Nat × Hd3 × Hd3)) ([] : List (List Int × List Int × Bool)) :: noB :: own 4 (.slice A2 (Int.toNat (g3.length : Int)) c2) (vB (List.replicate (Int.toNat (g3.length : Int)) false)) :: blk g5 24 #[.int .i64 g1, .int .i64 g2, .slice A1 g3.length c1] :: blk g4 3 #[.int .i64 v1] :: fs) := hS
    have hF := hF.cast (t := 5) (v := .slice none 0 0) (v' := .slice none (([] : List (List Int × List Int × Bool)).length) 0) rfl rfl (congrArg (fun k => Value.slice none k 0) hl1)
    have hS := hS.pickN 5 [4, 3, 1, 0, 2] (by decide)
    refine wp_loop_model (S := (List (List Int × List Int × Bool) × List Bool × Int)) (R := (List (List Int × List Int × Bool))) (stones_parts_L1 g1 g2 g3 v1) (fun x => (stones_parts_K1 x).bind some) r (fun (x : (List (List Int × List Int × Bool) × List Bool × Int)) a w => ∃ (pg1 : HP) (A3 : Option Addr) (c3 : Nat) (raw1 : List (Nat × Hd3 × Hd3)), Fr 68 [pl 1 (.func (.func 47) #[] #[.pointer (some ⟨g4, 0, none⟩)]), pl 2 (.pointer (some ⟨g5, 0, none⟩)), pl 5 (.slice A3 x.1.length c3), pl 6 (.slice A2 (Int.toNat (g3.length : Int)) c2), pl 17 (.slice A1 g3.length c1), pl 18 (.int .i64 (g3.length : Int)), pl 19 (.int .i64 x.2.2)] a ∧ Sep w0 B w (blk g4 3 #[.int .i64 v1] :: blk g5 24 #[.int .i64 g1, .int .i64 g2, .slice A1 g3.length c1] :: pg1 :: prs encP92 gfP92 cfP92 RelQ92 pg1 92 94 A3 x.1.length c3 raw1 x.1 :: own 4 (.slice A2 (Int.toNat (g3.length : Int)) c2) (vB x.2.1) :: fs)) (assoc_b hm) ⟨noB, none, 0, ([] : List (Nat × Hd3 × Hd3)), hF.weak [1, 2, 5, 6, 17, 18, 19] (by kernel_rfl), hS⟩ ?_
    clear hF hS hm
    rintro nn1 ⟨l1, done1, z1⟩ a w ⟨pg1, A3, c3, raw1, hF, hS⟩ hm
    generalize hφ1 : stK (stones_parts_L1 g1 g2 g3 v1) nn1 (fun x => (stones_parts_K1 x).bind some) = φ1 at hm
    unfold stones_parts_L1 at hm
    dsimp only at hF hS hm
    refine reg [] [] [1, 2, 5, 6, 17, 18, 19, 20] [pl 1 (.func (.func 47) #[] #[.pointer (some ⟨g4, 0, none⟩)]), pl 2 (.pointer (some ⟨g5, 0, none⟩)), pl 5 (.slice A3 l1.length c3), pl 6 (.slice A2 (Int.toNat (g3.length : Int)) c2), pl 17 (.slice A1 g3.length c1), pl 18 (.int .i64 (g3.length : Int)), pl 19 (.int .i64 z1), pl 20 (.bool (decide (z1 < (g3.length : Int))))] hF hS Fol (by kernel_rfl) (by kernel_rfl) (by kernel_rfl) ?_ (fun a w hF hS => ?_)
    · exact obs_nil
    refine seq_cut (fun a w => Fr 68 [pl 1 (.func (.func 47) #[] #[.pointer (some ⟨g4, 0, none⟩)]), pl 2 (.pointer (some ⟨g5, 0, none⟩)), pl 5 (.slice A3 l1.length c3), pl 6 (.slice A2 (Int.toNat (g3.length : Int)) c2), pl 17 (.slice A1 g3.length c1), pl 18 (.int .i64 (g3.length : Int)), pl 19 (.int .i64 z1)] a ∧ Sep w0 B w (blk g4 3 #[.int .i64 v1] :: blk g5 24 #[.int .i64 g1, .int .i64 g2, .slice A1 g3.length c1] :: pg1 :: prs encP92 gfP92 cfP92 RelQ92 pg1 92 94 A3 l1.length c3 raw1 l1 :: own 4 (.slice A2 (Int.toNat (g3.length : Int)) c2) (vB done1) :: fs) ∧ ((stones_parts_J2 g1 g2 g3 v1 l1 done1 z1)).bind φ1 = some r) ?_ ?_
    · rintro a w ⟨hF, hS, hm⟩
      unfold stones_parts_J2 at hm
      refine seq_cut (fun a w => ∃ (l3 : List (List Int × List Int × Bool)) (done2 : List Bool) (pg3 : HP) (raw3 : List (Nat × Hd3 × Hd3)) (A5 : Option Addr) (c5 : Nat), Fr 68 [pl 1 (.func (.func 47) #[] #[.pointer (some ⟨g4, 0, none⟩)]), pl 2 (.pointer (some ⟨g5, 0, none⟩)), pl 5 (.slice A5 l3.length c5), pl 6 (.slice A2 (Int.toNat (g3.length : Int)) c2), pl 17 (.slice A1 g3.length c1), pl 18 (.int .i64 (g3.length : Int)), pl 19 (.int .i64 z1)] a ∧ Sep w0 B w (blk g4 3 #[.int .i64 v1] :: blk g5 24 #[.int .i64 g1, .int .i64 g2, .slice A1 g3.length c1] :: pg3 :: prs encP92 gfP92 cfP92 RelQ92 pg3 92 94 A5 l3.length c5 raw3 l3 :: own 4 (.slice A2 (Int.toNat (g3.length : Int)) c2) (vB done2) :: fs) ∧ ((stones_parts_J3 z1) l3 done2).bind φ1 = some r) ?_ ?_
      · rintro a w ⟨l3, done2, pg3, raw3, A5, c5, hF, hS, hm⟩
        unfold stones_parts_J3 at hm
        refine reg1 [] [] [1, 2, 5, 6, 17, 18, 19] [pl 1 (.func (.func 47) #[] #[.pointer (some ⟨g4, 0, none⟩)]), pl 2 (.pointer (some ⟨g5, 0, none⟩)), pl 5 (.slice A5 l3.length c5), pl 6 (.slice A2 (Int.toNat (g3.length : Int)) c2), pl 17 (.slice A1 g3.length c1), pl 18 (.int .i64 (g3.length : Int)), pl 19 (.int .i64 (w64 (z1 + 1)))] hF hS Fol (by kernel_rfl) (by kernel_rfl) (by kernel_rfl) ?_ (fun a w hF hS => ?_)
        · exact obs_nil
        refine then_n ?_
        rw [← hφ1] at hm
        exact ⟨(l3, done2, (w64 (z1 + 1))), ⟨pg3, A5, c5, raw3, hF.weak [1, 2, 5, 6, 17, 18, 19] (by kernel_rfl), hS⟩, hm⟩
      · refine wpIn_block ?_
        obtain ⟨hp2, hm⟩ := asrt_b hm
        refine reg [⟨true, [], vS (Instr.indexAt 22 (.slice A1 g3.length c1) (.int .i64 z1)), .pointer (some (sAddr A1 z1))⟩, ⟨false, [], vS (Instr.loadAt 3 (.pointer (some (sAddr A1 z1)))), .int .i64 (geti g3 z1)⟩] [none, some (.pointer (some (sAddr A1 z1))), some (.int .i64 (geti g3 z1)), none, none] [1, 2, 5, 6, 7, 8, 17, 18, 19] [pl 1 (.func (.func 47) #[] #[.pointer (some ⟨g4, 0, none⟩)]), pl 2 (.pointer (some ⟨g5, 0, none⟩)), pl 5 (.slice A3 l1.length c3), pl 6 (.slice A2 (Int.toNat (g3.length : Int)) c2), pl 7 (.int .i64 z1), pl 8 (.int .i64 (geti g3 z1)), pl 17 (.slice A1 g3.length c1), pl 18 (.int .i64 (g3.length : Int)), pl 19 (.int .i64 z1)] hF hS Fol (by kernel_rfl) (by kernel_rfl) (by kernel_rfl) ?_ (fun a w hF hS => ?_)
        · exact obs_cons (ob_ix1 (f := (Value.int .i64)) (m := g3) Und22 hi3 hs3 (hr_g3 _ (hS.dropN 5)) rfl (fun _ => hp2)) <| obs_cons (ob_get1 (n := g3.length) (m := g3) (Value.int .i64) (0 : Int) Agg3 (fun _ hS => ⟨_, (hr_g3 _ (hS.dropN 5))⟩) (fun _ hS => rfl) (fun _ => hp2)) <| obs_nil
        refine seq_cut (fun a w => Fr 68 [pl 1 (.func (.func 47) #[] #[.pointer (some ⟨g4, 0, none⟩)]), pl 2 (.pointer (some ⟨g5, 0, none⟩)), pl 5 (.slice A3 l1.length c3), pl 6 (.slice A2 (Int.toNat (g3.length : Int)) c2), pl 7 (.int .i64 z1), pl 17 (.slice A1 g3.length c1), pl 18 (.int .i64 (g3.length : Int)), pl 19 (.int .i64 z1)] a ∧ Sep w0 B w (blk g4 3 #[.int .i64 v1] :: blk g5 24 #[.int .i64 g1, .int .i64 g2, .slice A1 g3.length c1] :: pg1 :: prs encP92 gfP92 cfP92 RelQ92 pg1 92 94 A3 l1.length c3 raw1 l1 :: own 4 (.slice A2 (Int.toNat (g3.length : Int)) c2) (vB done1) :: fs) ∧ ((stones_parts_J4 g1 g2 g3 v1 l1 done1 z1)).bind φ1 = some r) ?_ ?_
        · rintro a w ⟨hF, hS, hm⟩
          unfold stones_parts_J4 at hm
          refine seqR ?_
          refine at_run 1 [] [] [1, 2, 5, 6, 7, 17, 18, 19, 34] [pl 1 (.func (.func 47) #[] #[.pointer (some ⟨g4, 0, none⟩)]), pl 2 (.pointer (some ⟨g5, 0, none⟩)), pl 5 (.slice A3 l1.length c3), pl 6 (.slice A2 (Int.toNat (g3.length : Int)) c2), pl 7 (.int .i64 z1), pl 17 (.slice A1 g3.length c1), pl 18 (.int .i64 (g3.length : Int)), pl 19 (.int .i64 z1), pl 34 (.agg #[.slice none 0 0, .slice none 0 0, .bool false])] hF hS (by kernel_rfl) (by kernel_rfl) ?_ (fun a w hF hS => ?_)
          · exact obs_nil
          refine at_do (d := 35) (s := vS (Instr.box 94 (.agg #[.slice none 0 0, .slice none 0 0, .bool false]))) (v := .pointer (some ⟨w.heap.size, 0, none⟩)) (w' := w.alloc (.cells #[.slice none 0 0, .slice none 0 0, .bool false] 94)) hF (by kernel_rfl) (by kernel_rfl) (by kernel_rfl) (fun a hF => ?_)
          have hS : Sep w0 B (w.alloc (.cells #[.slice none 0 0, .slice none 0 0, .bool false] 94)) (blk w.heap.size 94 #[.slice none 0 0, .slice none 0 0, .bool false] :: (blk g4 3 #[.int .i64 v1] :: blk g5 24 #[.int .i64 g1, .int .i64 g2, .slice A1 g3.length c1] :: pg1 :: prs encP92 gfP92 cfP92 RelQ92 pg1 92 94 A3 l1.length c3 raw1 l1 :: own 4 (.slice A2 (Int.toNat (g3.length : Int)) c2) (vB done1) :: fs)) := hS.box 94 #[.slice none 0 0, .slice none 0 0, .bool false]
          generalize w.heap.size = g6 at hF hS
          generalize w.alloc (.cells #[.slice none 0 0, .slice none 0 0, .bool false] 94) = w at hS ⊢
          refine at_run 1 [] [] [1, 2, 5, 6, 7, 9, 17, 18, 19] [pl 1 (.func (.func 47) #[] #[.pointer (some ⟨g4, 0, none⟩)]), pl 2 (.pointer (some ⟨g5, 0, none⟩)), pl 5 (.slice A3 l1.length c3), pl 6 (.slice A2 (Int.toNat (g3.length : Int)) c2), pl 7 (.int .i64 z1), pl 9 (.pointer (some ⟨g6, 0, none⟩)), pl 17 (.slice A1 g3.length c1), pl 18 (.int .i64 (g3.length : Int)), pl 19 (.int .i64 z1)] hF hS (by kernel_rfl) (by kernel_rfl) ?_ (fun a w hF hS => ?_)
          · exact obs_nil
          refine at_end [1, 2, 5, 6, 7, 9, 17, 18, 19] [pl 1 (.func (.func 47) #[] #[.pointer (some ⟨g4, 0, none⟩)]), pl 2 (.pointer (some ⟨g5, 0, none⟩)), pl 5 (.slice A3 l1.length c3), pl 6 (.slice A2 (Int.toNat (g3.length : Int)) c2), pl 7 (.int .i64 z1), pl 9 (.pointer (some ⟨g6, 0, none⟩)), pl 17 (.slice A1 g3.length c1), pl 18 (.int .i64 (g3.length : Int)), pl 19 (.int .i64 z1)] hF rfl (by kernel_rfl) (fun hF => ?_)
          refine then_n ?_
          refine seqR ?_
          obtain ⟨r2, hr2, hm⟩ := call_b hm
          refine at_run 5 [⟨false, [], vS (Instr.loadAt 24 (.pointer (some ⟨g5, 0, none⟩))), .agg #[.int .i64 g1, .int .i64 g2, .slice A1 g3.length c1]⟩] [none, none, some (.agg #[.int .i64 g1, .int .i64 g2, .slice A1 g3.length c1]), none, none] [1, 2, 5, 6, 9, 17, 18, 19, 37, 38, 39, 40, 41] [pl 1 (.func (.func 47) #[] #[.pointer (some ⟨g4, 0, none⟩)]), pl 2 (.pointer (some ⟨g5, 0, none⟩)), pl 5 (.slice A3 l1.length c3), pl 6 (.slice A2 (Int.toNat (g3.length : Int)) c2), pl 9 (.pointer (some ⟨g6, 0, none⟩)), pl 17 (.slice A1 g3.length c1), pl 18 (.int .i64 (g3.length : Int)), pl 19 (.int .i64 z1), pl 37 (.pointer (some ⟨g6, 0, none⟩)), pl 38 (.pointer (some ⟨g6, 0, none⟩)), pl 39 (.agg #[.int .i64 g1, .int .i64 g2, .slice A1 g3.length c1]), pl 40 (.int .i64 z1), pl 41 (.func (.func 47) #[] #[.pointer (some ⟨g4, 0, none⟩)])] hF hS (by kernel_rfl) (by kernel_rfl) ?_ (fun a w hF hS => ?_)
          · exact obs_cons (ob_loadA (cs := #[.int .i64 g1, .int .i64 g2, .slice A1 g3.length c1]) (by kernel_rfl) (by kernel_rfl) (fun _ _ hS => (hS.at_ 2 rfl).cellsAt 0 (by rfl))) <| obs_nil
          have hS : Sep w0 B w (blk g4 3 #[.int .i64 v1] :: blk g6 94 #[.slice none 0 0, .slice none 0 0, .bool false] :: blk g5 24 #[.int .i64 g1, .int .i64 g2, .slice A1 g3.length c1] :: pg1 :: prs encP92 gfP92 cfP92 RelQ92 pg1 92 94 A3 l1.length c3 raw1 l1 :: own 4 (.slice A2 (Int.toNat (g3.length : Int)) c2) (vB done1) :: fs) := hS.pickN 6 [1, 0, 2, 3, 4, 5] (by decide)
          refine at_call (f := 43) (args := #[.agg #[.int .i64 g1, .int .i64 g2, .slice A1 g3.length c1], .int .i64 z1, .func (.func 47) #[] #[.pointer (some ⟨g4, 0, none⟩)]]) (d := 42) hF (by kernel_rfl) (by kernel_rfl) Try.func43 (by kernel_rfl) rfl (stones_spread_2_w hr2 hS (fun _ hS => (hr_g3 _ (hS.dropN 5))) _hc_g3 rfl) (fun v a w hR hF => ?_)
          clear hS
          obtain ⟨A6, c6, A7, c7, rfl, hS⟩ := hR
          have hS : Sep w0 B w (blk g4 3 #[.int .i64 v1] :: own 3 (.slice A6 r2.1.length c6) (vI r2.1) :: own 3 (.slice A7 r2.2.length c7) (vI r2.2) :: blk g6 94 #[.slice none 0 0, .slice none 0 0, .bool false] :: blk g5 24 #[.int .i64 g1, .int .i64 g2, .slice A1 g3.length c1] :: pg1 :: prs encP92 gfP92 cfP92 RelQ92 pg1 92 94 A3 l1.length c3 raw1 l1 :: own 4 (.slice A2 (Int.toNat (g3.length : Int)) c2) (vB done1) :: fs) := hS
          refine at_run 5 [] [] [1, 2, 5, 6, 9, 17, 18, 19, 38, 43, 44, 46] [pl 1 (.func (.func 47) #[] #[.pointer (some ⟨g4, 0, none⟩)]), pl 2 (.pointer (some ⟨g5, 0, none⟩)), pl 5 (.slice A3 l1.length c3), pl 6 (.slice A2 (Int.toNat (g3.length : Int)) c2), pl 9 (.pointer (some ⟨g6, 0, none⟩)), pl 17 (.slice A1 g3.length c1), pl 18 (.int .i64 (g3.length : Int)), pl 19 (.int .i64 z1), pl 38 (.pointer (some ⟨g6, 0, none⟩)), pl 43 (.slice A6 r2.1.length c6), pl 44 (.slice A7 r2.2.length c7), pl 46 (.pointer (some ⟨g6, 0, none⟩))] hF hS (by kernel_rfl) (by kernel_rfl) ?_ (fun a w hF hS => ?_)
          · exact obs_nil
          obtain ⟨w, hrun, hS⟩ := run_put (P := Try.prog) (t := 22) (u := .slice A6 r2.1.length c6) (i := 0) (hS.at_ 3 rfl) hi22 hs22 rfl (Nat.lt_of_lt_of_eq (Nat.lt_of_succ_le (Nat.le_of_ble_eq_true (by kernel_rfl))) rfl)
          refine at_skip hF (by kernel_rfl) hrun ?_
          have hS : Sep w0 B w (blk g4 3 #[.int .i64 v1] :: own 3 (.slice A6 r2.1.length c6) (vI r2.1) :: own 3 (.slice A7 r2.2.length c7) (vI r2.2) :: blk g6 94 #[.slice A6 r2.1.length c6, .slice none 0 0, .bool false] :: blk g5 24 #[.int .i64 g1, .int .i64 g2, .slice A1 g3.length c1] :: pg1 :: prs encP92 gfP92 cfP92 RelQ92 pg1 92 94 A3 l1.length c3 raw1 l1 :: own 4 (.slice A2 (Int.toNat (g3.length : Int)) c2) (vB done1) :: fs) := hS
          refine at_run 2 [] [] [1, 2, 5, 6, 9, 17, 18, 19, 44, 48] [pl 1 (.func (.func 47) #[] #[.pointer (some ⟨g4, 0, none⟩)]), pl 2 (.pointer (some ⟨g5, 0, none⟩)), pl 5 (.slice A3 l1.length c3), pl 6 (.slice A2 (Int.toNat (g3.length : Int)) c2), pl 9 (.pointer (some ⟨g6, 0, none⟩)), pl 17 (.slice A1 g3.length c1), pl 18 (.int .i64 (g3.length : Int)), pl 19 (.int .i64 z1), pl 44 (.slice A7 r2.2.length c7), pl 48 (.pointer (some ⟨g6, 1, none⟩))] hF hS (by kernel_rfl) (by kernel_rfl) ?_ (fun a w hF hS => ?_)
          · exact obs_nil
          obtain ⟨w, hrun, hS⟩ := run_put (P := Try.prog) (t := 22) (u := .slice A7 r2.2.length c7) (i := 1) (hS.at_ 3 rfl) hi22 hs22 rfl (Nat.lt_of_lt_of_eq (Nat.lt_of_succ_le (Nat.le_of_ble_eq_true (by kernel_rfl))) rfl)
          refine at_skip hF (by kernel_rfl) hrun ?_
          have hS : Sep w0 B w (blk g4 3 #[.int .i64 v1] :: own 3 (.slice A6 r2.1.length c6) (vI r2.1) :: own 3 (.slice A7 r2.2.length c7) (vI r2.2) :: blk g6 94 #[.slice A6 r2.1.length c6, .slice A7 r2.2.length c7, .bool false] :: blk g5 24 #[.int .i64 g1, .int .i64 g2, .slice A1 g3.length c1] :: pg1 :: prs encP92 gfP92 cfP92 RelQ92 pg1 92 94 A3 l1.length c3 raw1 l1 :: own 4 (.slice A2 (Int.toNat (g3.length : Int)) c2) (vB done1) :: fs) := hS
          refine at_end [1, 2, 5, 6, 9, 17, 18, 19] [pl 1 (.func (.func 47) #[] #[.pointer (some ⟨g4, 0, none⟩)]), pl 2 (.pointer (some ⟨g5, 0, none⟩)), pl 5 (.slice A3 l1.length c3), pl 6 (.slice A2 (Int.toNat (g3.length : Int)) c2), pl 9 (.pointer (some ⟨g6, 0, none⟩)), pl 17 (.slice A1 g3.length c1), pl 18 (.int .i64 (g3.length : Int)), pl 19 (.int .i64 z1)] hF rfl (by kernel_rfl) (fun hF => ?_)
          refine then_n ?_
          refine seq_cut (fun a w => ∃ (done4 : List Bool), Fr 68 [pl 1 (.func (.func 47) #[] #[.pointer (some ⟨g4, 0, none⟩)]), pl 2 (.pointer (some ⟨g5, 0, none⟩)), pl 5 (.slice A3 l1.length c3), pl 6 (.slice A2 (Int.toNat (g3.length : Int)) c2), pl 9 (.pointer (some ⟨g6, 0, none⟩)), pl 17 (.slice A1 g3.length c1), pl 18 (.int .i64 (g3.length : Int)), pl 19 (.int .i64 z1)] a ∧ Sep w0 B w (blk g4 3 #[.int .i64 v1] :: blk g5 24 #[.int .i64 g1, .int .i64 g2, .slice A1 g3.length c1] :: pg1 :: prs encP92 gfP92 cfP92 RelQ92 pg1 92 94 A3 l1.length c3 raw1 l1 :: own 4 (.slice A2 (Int.toNat (g3.length : Int)) c2) (vB done4) :: blk g6 94 #[.slice A6 r2.1.length c6, .slice A7 r2.2.length c7, .bool false] :: own 3 (.slice A6 r2.1.length c6) (vI r2.1) :: own 3 (.slice A7 r2.2.length c7) (vI r2.2) :: fs) ∧ ((stones_parts_J5 l1 z1 r2) done4).bind φ1 = some r) ?_ ?_
          · rintro a w ⟨done4, hF, hS, hm⟩
            unfold stones_parts_J5 at hm
            refine oneR ?_
            obtain ⟨hp6, hm⟩ := asrt_b hm
            refine at_run 2 [] [] [1, 2, 6, 17, 18, 19, 62, 63] [pl 1 (.func (.func 47) #[] #[.pointer (some ⟨g4, 0, none⟩)]), pl 2 (.pointer (some ⟨g5, 0, none⟩)), pl 6 (.slice A2 (Int.toNat (g3.length : Int)) c2), pl 17 (.slice A1 g3.length c1), pl 18 (.int .i64 (g3.length : Int)), pl 19 (.int .i64 z1), pl 62 (.slice A3 l1.length c3), pl 63 (.pointer (some ⟨g6, 0, none⟩))] hF hS (by kernel_rfl) (by kernel_rfl) ?_ (fun a w hF hS => ?_)
            · exact obs_nil
            refine at_do (d := 64) (s := vS (Instr.buildSlice 90 1 #[(0, .pointer (some ⟨g6, 0, none⟩))])) (v := .slice (some ⟨w.heap.size, 0, none⟩) 1 1) (w' := w.alloc (.cells #[.pointer (some ⟨g6, 0, none⟩)] 92)) hF (by kernel_rfl) (by kernel_rfl) (by kernel_rfl) (fun a hF => ?_)
            have hS : Sep w0 B (w.alloc (.cells #[.pointer (some ⟨g6, 0, none⟩)] 92)) (own 92 (.slice (some (⟨w.heap.size, 0, none⟩ : Addr)) 1 1) (List.map (fun v => v) ([.pointer (some ⟨g6, 0, none⟩)] : List Value)) :: (blk g4 3 #[.int .i64 v1] :: blk g5 24 #[.int .i64 g1, .int .i64 g2, .slice A1 g3.length c1] :: pg1 :: prs encP92 gfP92 cfP92 RelQ92 pg1 92 94 A3 l1.length c3 raw1 l1 :: own 4 (.slice A2 (Int.toNat (g3.length : Int)) c2) (vB done4) :: blk g6 94 #[.slice A6 r2.1.length c6, .slice A7 r2.2.length c7, .bool false] :: own 3 (.slice A6 r2.1.length c6) (vI r2.1) :: own 3 (.slice A7 r2.2.length c7) (vI r2.2) :: fs)) := hS.lit 92 #[.pointer (some ⟨g6, 0, none⟩)] 1 rfl (by omega)
            generalize (some (⟨w.heap.size, 0, none⟩ : Addr)) = g7 at hF hS
            generalize w.alloc (.cells #[.pointer (some ⟨g6, 0, none⟩)] 92) = w at hS ⊢
            have hc1 := (hS.at_ 7 rfl).cap1
            have hS := hS.pickN 9 [7, 3, 0, 1, 2, 4, 5, 6, 8] (by decide)
            have hS : Sep w0 B w ((twoB (own 3 (.slice A6 r2.1.length c6) (vI r2.1)) pg1) :: own 92 (.slice g7 1 1) (List.map (fun v => v) ([.pointer (some ⟨g6, 0, none⟩)] : List Value)) :: blk g4 3 #[.int .i64 v1] :: blk g5 24 #[.int .i64 g1, .int .i64 g2, .slice A1 g3.length c1] :: prs encP92 gfP92 cfP92 RelQ92 pg1 92 94 A3 l1.length c3 raw1 l1 :: own 4 (.slice A2 (Int.toNat (g3.length : Int)) c2) (vB done4) :: blk g6 94 #[.slice A6 r2.1.length c6, .slice A7 r2.2.length c7, .bool false] :: own 3 (.slice A7 r2.2.length c7) (vI r2.2) :: fs) := hS.two
            have hS : Sep w0 B w ((twoB (own 3 (.slice A6 r2.1.length c6) (vI r2.1)) pg1) :: own 92 (.slice g7 1 1) (List.map (fun v => v) ([.pointer (some ⟨g6, 0, none⟩)] : List Value)) :: blk g4 3 #[.int .i64 v1] :: blk g5 24 #[.int .i64 g1, .int .i64 g2, .slice A1 g3.length c1] :: prs encP92 gfP92 cfP92 RelQ92 (twoB (own 3 (.slice A6 r2.1.length c6) (vI r2.1)) pg1) 92 94 A3 l1.length c3 raw1 l1 :: own 4 (.slice A2 (Int.toNat (g3.length : Int)) c2) (vB done4) :: blk g6 94 #[.slice A6 r2.1.length c6, .slice A7 r2.2.length c7, .bool false] :: own 3 (.slice A7 r2.2.length c7) (vI r2.2) :: fs) := (hS.at_ 4 rfl).prsMono RelMQ92 PoolLe.right
            have hS : Sep w0 B w ((twoB (own 3 (.slice A6 r2.1.length c6) (vI r2.1)) pg1) :: own 92 (.slice g7 1 1) (List.map (fun v => v) ([.pointer (some ⟨g6, 0, none⟩)] : List Value)) :: blk g4 3 #[.int .i64 v1] :: blk g5 24 #[.int .i64 g1, .int .i64 g2, .slice A1 g3.length c1] :: prs encP92 gfP92 cfP92 RelQ92 (twoB (own 3 (.slice A6 r2.1.length c6) (vI r2.1)) pg1) 92 94 A3 l1.length c3 raw1 l1 :: own 4 (.slice A2 (Int.toNat (g3.length : Int)) c2) (vB done4) :: blk g6 94 #[.slice A6 r2.1.length c6, .slice A7 r2.2.length c7, .bool false] :: own 3 (.slice A7 r2.2.length c7) (vI r2.2) :: fs) := hS
            have hc2 := (hS.at_ 7 rfl).cap1
            have hS := hS.pickN 8 [7, 0, 1, 2, 3, 4, 5, 6] (by decide)
            have hS : Sep w0 B w ((twoB (own 3 (.slice A7 r2.2.length c7) (vI r2.2)) (twoB (own 3 (.slice A6 r2.1.length c6) (vI r2.1)) pg1)) :: own 92 (.slice g7 1 1) (List.map (fun v => v) ([.pointer (some ⟨g6, 0, none⟩)] : List Value)) :: blk g4 3 #[.int .i64 v1] :: blk g5 24 #[.int .i64 g1, .int .i64 g2, .slice A1 g3.length c1] :: prs encP92 gfP92 cfP92 RelQ92 (twoB (own 3 (.slice A6 r2.1.length c6) (vI r2.1)) pg1) 92 94 A3 l1.length c3 raw1 l1 :: own 4 (.slice A2 (Int.toNat (g3.length : Int)) c2) (vB done4) :: blk g6 94 #[.slice A6 r2.1.length c6, .slice A7 r2.2.length c7, .bool false] :: fs) := hS.two
            have hS : Sep w0 B w ((twoB (own 3 (.slice A7 r2.2.length c7) (vI r2.2)) (twoB (own 3 (.slice A6 r2.1.length c6) (vI r2.1)) pg1)) :: own 92 (.slice g7 1 1) (List.map (fun v => v) ([.pointer (some ⟨g6, 0, none⟩)] : List Value)) :: blk g4 3 #[.int .i64 v1] :: blk g5 24 #[.int .i64 g1, .int .i64 g2, .slice A1 g3.length c1] :: prs encP92 gfP92 cfP92 RelQ92 (twoB (own 3 (.slice A7 r2.2.length c7) (vI r2.2)) (twoB (own 3 (.slice A6 r2.1.length c6) (vI r2.1)) pg1)) 92 94 A3 l1.length c3 raw1 l1 :: own 4 (.slice A2 (Int.toNat (g3.length : Int)) c2) (vB done4) :: blk g6 94 #[.slice A6 r2.1.length c6, .slice A7 r2.2.length c7, .bool false] :: fs) := (hS.at_ 4 rfl).prsMono RelMQ92 PoolLe.right
            have hS : Sep w0 B w ((twoB (own 3 (.slice A7 r2.2.length c7) (vI r2.2)) (twoB (own 3 (.slice A6 r2.1.length c6) (vI r2.1)) pg1)) :: own 92 (.slice g7 1 1) (List.map (fun v => v) ([.pointer (some ⟨g6, 0, none⟩)] : List Value)) :: blk g4 3 #[.int .i64 v1] :: blk g5 24 #[.int .i64 g1, .int .i64 g2, .slice A1 g3.length c1] :: prs encP92 gfP92 cfP92 RelQ92 (twoB (own 3 (.slice A7 r2.2.length c7) (vI r2.2)) (twoB (own 3 (.slice A6 r2.1.length c6) (vI r2.1)) pg1)) 92 94 A3 l1.length c3 raw1 l1 :: own 4 (.slice A2 (Int.toNat (g3.length : Int)) c2) (vB done4) :: blk g6 94 #[.slice A6 r2.1.length c6, .slice A7 r2.2.length c7, .bool false] :: fs) := hS
            have hS := hS.pickN 7 [6, 0, 1, 2, 3, 4, 5] (by decide)
            have hS : Sep w0 B w (blk g6 94 #[.slice A6 r2.1.length c6, .slice A7 r2.2.length c7, .bool false] :: (twoB (own 3 (.slice A7 r2.2.length c7) (vI r2.2)) (twoB (own 3 (.slice A6 r2.1.length c6) (vI r2.1)) pg1)) :: own 92 (.slice g7 1 1) (List.map (fun v => v) ([.pointer (some ⟨g6, 0, none⟩)] : List Value)) :: blk g4 3 #[.int .i64 v1] :: blk g5 24 #[.int .i64 g1, .int .i64 g2, .slice A1 g3.length c1] :: prs encP92 gfP92 cfP92 RelQ92 (twoB (own 3 (.slice A7 r2.2.length c7) (vI r2.2)) (twoB (own 3 (.slice A6 r2.1.length c6) (vI r2.1)) pg1)) 92 94 A3 l1.length c3 raw1 l1 :: own 4 (.slice A2 (Int.toNat (g3.length : Int)) c2) (vB done4) :: fs) := hS
            obtain ⟨A8, c8, w, hrun, hS⟩ := run_appPr (P := Try.prog) (t := 90) (r0 := (g6, (A6, r2.1.length, c6), (A7, r2.2.length, c7))) (x0 := (r2.1, r2.2, false)) (A2 := g7) (c2 := 1) encPK92 (hS.at2 4 rfl) rfl rfl ⟨SlR.of (PoolW.mono PoolLe.right (PoolW.own : PoolW (twoB (own 3 (.slice A6 r2.1.length c6) (vI r2.1)) pg1) A6 r2.1)) hc1, SlR.of (PoolW.own : PoolW (twoB (own 3 (.slice A7 r2.2.length c7) (vI r2.2)) (twoB (own 3 (.slice A6 r2.1.length c6) (vI r2.1)) pg1)) A7 r2.2) hc2⟩ (hS.at_ 2 rfl).rd 90 Und90 hi92 hz92 hs92 rfl (by omega) hp6
            have hS : Sep w0 B w ((twoB (own 3 (.slice A7 r2.2.length c7) (vI r2.2)) (twoB (own 3 (.slice A6 r2.1.length c6) (vI r2.1)) pg1)) :: own 92 (.slice g7 1 1) ((List.map (fun v => v) ([.pointer (some ⟨g6, 0, none⟩)] : List Value))) :: blk g4 3 #[.int .i64 v1] :: blk g5 24 #[.int .i64 g1, .int .i64 g2, .slice A1 g3.length c1] :: prs encP92 gfP92 cfP92 RelQ92 (twoB (own 3 (.slice A7 r2.2.length c7) (vI r2.2)) (twoB (own 3 (.slice A6 r2.1.length c6) (vI r2.1)) pg1)) 92 94 A8 ((l1 ++ [(r2.1, r2.2, false)]).length) c8 (raw1 ++ [(g6, (A6, r2.1.length, c6), (A7, r2.2.length, c7))]) (l1 ++ [(r2.1, r2.2, false)]) :: own 4 (.slice A2 (Int.toNat (g3.length : Int)) c2) (vB done4) :: fs) := hS
            refine at_do (d := 65) hF (by kernel_rfl) (by kernel_rfl) hrun (fun a hF => ?_)
            refine at_run 1 [] [] [1, 2, 5, 6, 17, 18, 19] [pl 1 (.func (.func 47) #[] #[.pointer (some ⟨g4, 0, none⟩)]), pl 2 (.pointer (some ⟨g5, 0, none⟩)), pl 5 (.slice A8 ((l1 ++ [(r2.1, r2.2, false)]).length) c8), pl 6 (.slice A2 (Int.toNat (g3.length : Int)) c2), pl 17 (.slice A1 g3.length c1), pl 18 (.int .i64 (g3.length : Int)), pl 19 (.int .i64 z1)] hF hS (by kernel_rfl) (by kernel_rfl) ?_ (fun a w hF hS => ?_)
            · exact obs_nil
            refine at_end [1, 2, 5, 6, 17, 18, 19] [pl 1 (.func (.func 47) #[] #[.pointer (some ⟨g4, 0, none⟩)]), pl 2 (.pointer (some ⟨g5, 0, none⟩)), pl 5 (.slice A8 ((l1 ++ [(r2.1, r2.2, false)]).length) c8), pl 6 (.slice A2 (Int.toNat (g3.length : Int)) c2), pl 17 (.slice A1 g3.length c1), pl 18 (.int .i64 (g3.length : Int)), pl 19 (.int .i64 z1)] hF rfl (by kernel_rfl) (fun hF => ?_)
            refine block_n ?_
            refine then_n ?_
            have hS := hS.pickN 6 [2, 3, 0, 4, 5] (by decide)
            exact ⟨(l1 ++ [(r2.1, r2.2, false)]), done4, (twoB (own 3 (.slice A7 r2.2.length c7) (vI r2.2)) (twoB (own 3 (.slice A6 r2.1.length c6) (vI r2.1)) pg1)), (raw1 ++ [(g6, (A6, r2.1.length, c6), (A7, r2.2.length, c7))]), A8, c8, hF.weak [1, 2, 5, 6, 17, 18, 19] (by kernel_rfl), hS, hm⟩
          · refine reg [⟨false, [], vS (Instr.loadAt 22 (.pointer (some ⟨g6, 0, none⟩))), .slice A6 r2.1.length c6⟩] [none, none, none, some (.slice A6 r2.1.length c6), none, none] [1, 2, 5, 6, 9, 17, 18, 19, 52, 53, 54] [pl 1 (.func (.func 47) #[] #[.pointer (some ⟨g4, 0, none⟩)]), pl 2 (.pointer (some ⟨g5, 0, none⟩)), pl 5 (.slice A3 l1.length c3), pl 6 (.slice A2 (Int.toNat (g3.length : Int)) c2), pl 9 (.pointer (some ⟨g6, 0, none⟩)), pl 17 (.slice A1 g3.length c1), pl 18 (.int .i64 (g3.length : Int)), pl 19 (.int .i64 z1), pl 52 (.slice A6 r2.1.length c6), pl 53 (.int .i64 (r2.1.length : Int)), pl 54 (.int .i64 0)] hF hS Fol (by kernel_rfl) (by kernel_rfl) (by kernel_rfl) ?_ (fun a w hF hS => ?_)
            · exact obs_cons (ob_load Agg22 (fun _ _ hS => (hS.at_ 3 rfl).cell rfl)) <| obs_nil
            refine wpIn_block ?_
            have hS := hS.pickN 8 [0, 4, 5, 6, 7, 3, 1, 2] (by decide)
            refine wp_loop_model (S := (List Bool × Int)) (R := (List Bool)) (stones_parts_L2 g3 r2) (fun x => ((stones_parts_K2 l1 z1 r2) x).bind φ1) r (fun (x : (List Bool × Int)) a w => Fr 68 [pl 1 (.func (.func 47) #[] #[.pointer (some ⟨g4, 0, none⟩)]), pl 2 (.pointer (some ⟨g5, 0, none⟩)), pl 5 (.slice A3 l1.length c3), pl 6 (.slice A2 (Int.toNat (g3.length : Int)) c2), pl 9 (.pointer (some ⟨g6, 0, none⟩)), pl 17 (.slice A1 g3.length c1), pl 18 (.int .i64 (g3.length : Int)), pl 19 (.int .i64 z1), pl 52 (.slice A6 r2.1.length c6), pl 53 (.int .i64 (r2.1.length : Int)), pl 54 (.int .i64 x.2)] a ∧ Sep w0 B w (blk g4 3 #[.int .i64 v1] :: blk g5 24 #[.int .i64 g1, .int .i64 g2, .slice A1 g3.length c1] :: pg1 :: prs encP92 gfP92 cfP92 RelQ92 pg1 92 94 A3 l1.length c3 raw1 l1 :: own 4 (.slice A2 (Int.toNat (g3.length : Int)) c2) (vB x.1) :: blk g6 94 #[.slice A6 r2.1.length c6, .slice A7 r2.2.length c7, .bool false] :: own 3 (.slice A6 r2.1.length c6) (vI r2.1) :: own 3 (.slice A7 r2.2.length c7) (vI r2.2) :: fs)) (assoc_b hm) ⟨hF.weak [1, 2, 5, 6, 9, 17, 18, 19, 52, 53, 54] (by kernel_rfl), hS⟩ ?_
            clear hF hS hm
            rintro nn2 ⟨done3, z2⟩ a w ⟨hF, hS⟩ hm
            generalize hφ2 : stK (stones_parts_L2 g3 r2) nn2 (fun x => ((stones_parts_K2 l1 z1 r2) x).bind φ1) = φ2 at hm
            unfold stones_parts_L2 at hm
            dsimp only at hF hS hm
            refine reg [] [] [1, 2, 5, 6, 9, 17, 18, 19, 52, 53, 54, 55] [pl 1 (.func (.func 47) #[] #[.pointer (some ⟨g4, 0, none⟩)]), pl 2 (.pointer (some ⟨g5, 0, none⟩)), pl 5 (.slice A3 l1.length c3), pl 6 (.slice A2 (Int.toNat (g3.length : Int)) c2), pl 9 (.pointer (some ⟨g6, 0, none⟩)), pl 17 (.slice A1 g3.length c1), pl 18 (.int .i64 (g3.length : Int)), pl 19 (.int .i64 z1), pl 52 (.slice A6 r2.1.length c6), pl 53 (.int .i64 (r2.1.length : Int)), pl 54 (.int .i64 z2), pl 55 (.bool (decide (z2 < (r2.1.length : Int))))] hF hS Fol (by kernel_rfl) (by kernel_rfl) (by kernel_rfl) ?_ (fun a w hF hS => ?_)
            · exact obs_nil
            refine seq_cut (fun a w => Fr 68 [pl 1 (.func (.func 47) #[] #[.pointer (some ⟨g4, 0, none⟩)]), pl 2 (.pointer (some ⟨g5, 0, none⟩)), pl 5 (.slice A3 l1.length c3), pl 6 (.slice A2 (Int.toNat (g3.length : Int)) c2), pl 9 (.pointer (some ⟨g6, 0, none⟩)), pl 17 (.slice A1 g3.length c1), pl 18 (.int .i64 (g3.length : Int)), pl 19 (.int .i64 z1), pl 52 (.slice A6 r2.1.length c6), pl 53 (.int .i64 (r2.1.length : Int)), pl 54 (.int .i64 z2)] a ∧ Sep w0 B w (blk g4 3 #[.int .i64 v1] :: blk g5 24 #[.int .i64 g1, .int .i64 g2, .slice A1 g3.length c1] :: pg1 :: prs encP92 gfP92 cfP92 RelQ92 pg1 92 94 A3 l1.length c3 raw1 l1 :: own 4 (.slice A2 (Int.toNat (g3.length : Int)) c2) (vB done3) :: blk g6 94 #[.slice A6 r2.1.length c6, .slice A7 r2.2.length c7, .bool false] :: own 3 (.slice A6 r2.1.length c6) (vI r2.1) :: own 3 (.slice A7 r2.2.length c7) (vI r2.2) :: fs) ∧ ((stones_parts_J6 g3 r2 done3 z2)).bind φ2 = some r) ?_ ?_
            · rintro a w ⟨hF, hS, hm⟩
              unfold stones_parts_J6 at hm
              refine seq_cut (fun a w => Fr 68 [pl 1 (.func (.func 47) #[] #[.pointer (some ⟨g4, 0, none⟩)]), pl 2 (.pointer (some ⟨g5, 0, none⟩)), pl 5 (.slice A3 l1.length c3), pl 6 (.slice A2 (Int.toNat (g3.length : Int)) c2), pl 9 (.pointer (some ⟨g6, 0, none⟩)), pl 17 (.slice A1 g3.length c1), pl 18 (.int .i64 (g3.length : Int)), pl 19 (.int .i64 z1), pl 52 (.slice A6 r2.1.length c6), pl 53 (.int .i64 (r2.1.length : Int)), pl 54 (.int .i64 z2)] a ∧ Sep w0 B w (blk g4 3 #[.int .i64 v1] :: blk g5 24 #[.int .i64 g1, .int .i64 g2, .slice A1 g3.length c1] :: pg1 :: prs encP92 gfP92 cfP92 RelQ92 pg1 92 94 A3 l1.length c3 raw1 l1 :: own 4 (.slice A2 (Int.toNat (g3.length : Int)) c2) (vB (done3.set (Int.toNat (geti r2.1 z2)) true)) :: blk g6 94 #[.slice A6 r2.1.length c6, .slice A7 r2.2.length c7, .bool false] :: own 3 (.slice A6 r2.1.length c6) (vI r2.1) :: own 3 (.slice A7 r2.2.length c7) (vI r2.2) :: fs) ∧ ((stones_parts_J7 r2 done3 z2)).bind φ2 = some r) ?_ ?_
              · rintro a w ⟨hF, hS, hm⟩
                unfold stones_parts_J7 at hm
                refine reg1 [] [] [1, 2, 5, 6, 9, 17, 18, 19, 52, 53, 54] [pl 1 (.func (.func 47) #[] #[.pointer (some ⟨g4, 0, none⟩)]), pl 2 (.pointer (some ⟨g5, 0, none⟩)), pl 5 (.slice A3 l1.length c3), pl 6 (.slice A2 (Int.toNat (g3.length : Int)) c2), pl 9 (.pointer (some ⟨g6, 0, none⟩)), pl 17 (.slice A1 g3.length c1), pl 18 (.int .i64 (g3.length : Int)), pl 19 (.int .i64 z1), pl 52 (.slice A6 r2.1.length c6), pl 53 (.int .i64 (r2.1.length : Int)), pl 54 (.int .i64 (w64 (z2 + 1)))] hF hS Fol (by kernel_rfl) (by kernel_rfl) (by kernel_rfl) ?_ (fun a w hF hS => ?_)
                · exact obs_nil
                refine then_n ?_
                rw [← hφ2] at hm
                exact ⟨((done3.set (Int.toNat (geti r2.1 z2)) true), (w64 (z2 + 1))), ⟨hF.weak [1, 2, 5, 6, 9, 17, 18, 19, 52, 53, 54] (by kernel_rfl), hS⟩, hm⟩
              · refine wpIn_block ?_
                obtain ⟨hp4, hm⟩ := asrt_b hm
                refine reg [⟨true, [], vS (Instr.indexAt 22 (.slice A6 r2.1.length c6) (.int .i64 z2)), .pointer (some (sAddr A6 z2))⟩, ⟨false, [], vS (Instr.loadAt 3 (.pointer (some (sAddr A6 z2)))), .int .i64 (geti r2.1 z2)⟩] [some (.pointer (some (sAddr A6 z2))), some (.int .i64 (geti r2.1 z2)), none] [1, 2, 5, 6, 9, 11, 17, 18, 19, 52, 53, 54] [pl 1 (.func (.func 47) #[] #[.pointer (some ⟨g4, 0, none⟩)]), pl 2 (.pointer (some ⟨g5, 0, none⟩)), pl 5 (.slice A3 l1.length c3), pl 6 (.slice A2 (Int.toNat (g3.length : Int)) c2), pl 9 (.pointer (some ⟨g6, 0, none⟩)), pl 11 (.int .i64 (geti r2.1 z2)), pl 17 (.slice A1 g3.length c1), pl 18 (.int .i64 (g3.length : Int)), pl 19 (.int .i64 z1), pl 52 (.slice A6 r2.1.length c6), pl 53 (.int .i64 (r2.1.length : Int)), pl 54 (.int .i64 z2)] hF hS Fol (by kernel_rfl) (by kernel_rfl) (by kernel_rfl) ?_ (fun a w hF hS => ?_)
                · exact obs_cons (ob_ix1 (f := (Value.int .i64)) (m := r2.1) Und22 hi3 hs3 (hS.at_ 6 rfl).rd rfl (fun _ => hp4)) <| obs_cons (ob_get1 (n := r2.1.length) (m := r2.1) (Value.int .i64) (0 : Int) Agg3 (fun _ hS => ⟨_, (hS.at_ 6 rfl).rd⟩) (fun _ hS => rfl) (fun _ => hp4)) <| obs_nil
                refine oneR ?_
                obtain ⟨hp5, hm⟩ := asrt_b hm
                refine at_run 3 [⟨true, [], vS (Instr.indexAt 86 (.slice A2 (Int.toNat (g3.length : Int)) c2) (.int .i64 (geti r2.1 z2))), .pointer (some (sAddr A2 (geti r2.1 z2)))⟩] [none, none, some (.pointer (some (sAddr A2 (geti r2.1 z2))))] [1, 2, 5, 6, 9, 17, 18, 19, 52, 53, 54, 60] [pl 1 (.func (.func 47) #[] #[.pointer (some ⟨g4, 0, none⟩)]), pl 2 (.pointer (some ⟨g5, 0, none⟩)), pl 5 (.slice A3 l1.length c3), pl 6 (.slice A2 (Int.toNat (g3.length : Int)) c2), pl 9 (.pointer (some ⟨g6, 0, none⟩)), pl 17 (.slice A1 g3.length c1), pl 18 (.int .i64 (g3.length : Int)), pl 19 (.int .i64 z1), pl 52 (.slice A6 r2.1.length c6), pl 53 (.int .i64 (r2.1.length : Int)), pl 54 (.int .i64 z2), pl 60 (.pointer (some (sAddr A2 (geti r2.1 z2))))] hF hS (by kernel_rfl) (by kernel_rfl) ?_ (fun a w hF hS => ?_)
                · exact obs_cons (ob_ix1 (f := Value.bool) (m := done3) Und86 hi4 hs4 (hS.at_ 4 rfl).rd ((hS.at_ 4 rfl).len1) (fun _ => hp5)) <| obs_nil
                obtain ⟨w, hrun, hS⟩ := run_set1 (P := Try.prog) (t := 4) (x := true) Value.bool (hS.at_ 4 rfl) hi4 hs4 rfl rfl hp5
                refine at_skip hF (by kernel_rfl) hrun ?_
                have hS : Sep w0 B w (blk g4 3 #[.int .i64 v1] :: blk g5 24 #[.int .i64 g1, .int .i64 g2, .slice A1 g3.length c1] :: pg1 :: prs encP92 gfP92 cfP92 RelQ92 pg1 92 94 A3 l1.length c3 raw1 l1 :: own 4 (.slice A2 (Int.toNat (g3.length : Int)) c2) (vB (done3.set (Int.toNat (geti r2.1 z2)) true)) :: blk g6 94 #[.slice A6 r2.1.length c6, .slice A7 r2.2.length c7, .bool false] :: own 3 (.slice A6 r2.1.length c6) (vI r2.1) :: own 3 (.slice A7 r2.2.length c7) (vI r2.2) :: fs) := hS
                refine at_end [1, 2, 5, 6, 9, 17, 18, 19, 52, 53, 54] [pl 1 (.func (.func 47) #[] #[.pointer (some ⟨g4, 0, none⟩)]), pl 2 (.pointer (some ⟨g5, 0, none⟩)), pl 5 (.slice A3 l1.length c3), pl 6 (.slice A2 (Int.toNat (g3.length : Int)) c2), pl 9 (.pointer (some ⟨g6, 0, none⟩)), pl 17 (.slice A1 g3.length c1), pl 18 (.int .i64 (g3.length : Int)), pl 19 (.int .i64 z1), pl 52 (.slice A6 r2.1.length c6), pl 53 (.int .i64 (r2.1.length : Int)), pl 54 (.int .i64 z2)] hF rfl (by kernel_rfl) (fun hF => ?_)
                refine block_n ?_
                refine then_n ?_
                exact ⟨hF.weak [1, 2, 5, 6, 9, 17, 18, 19, 52, 53, 54] (by kernel_rfl), hS, hm⟩
            · refine cond_ev (t := 55) (b := decide (z2 < (r2.1.length : Int))) hF (by kernel_rfl) (fun hb => ?_) (fun hb => ?_)
              · replace hm := if_t hm hb
                refine wpIn_skip ?_
                refine then_n ?_
                exact ⟨hF.weak [1, 2, 5, 6, 9, 17, 18, 19, 52, 53, 54] (by kernel_rfl), hS, hm⟩
              · replace hm := if_f hm hb
                refine wpIn_exit ?_
                refine then_e (then_e (block_e (then_n ?_)))
                rw [← hφ2] at hm
                replace hm := done_b hm
                unfold stones_parts_K2 at hm
                try dsimp only at hm
                have hm : ((stones_parts_J5 l1 z1 r2) done3).bind φ1 = some r := hm
                exact ⟨done3, hF.weak [1, 2, 5, 6, 9, 17, 18, 19] (by kernel_rfl), hS, hm⟩
        · obtain ⟨r1, hr1, hm⟩ := call_b hm
          obtain ⟨hp3, hm⟩ := asrt_b hm
          refine reg [⟨false, [], callFunc 47 #[.int .i64 (geti g3 z1), .pointer (some ⟨g4, 0, none⟩)], .bool r1⟩, ⟨true, [(!r1, false)], vS (Instr.indexAt 86 (.slice A2 (Int.toNat (g3.length : Int)) c2) (.int .i64 z1)), .pointer (some (sAddr A2 z1))⟩, ⟨false, [(!r1, false)], vS (Instr.loadAt 4 (.pointer (some (sAddr A2 z1)))), .bool (getb done1 z1)⟩] [none, none, some (.bool r1), none, none, none, none, some (.pointer (some (sAddr A2 z1))), some (.bool (getb done1 z1)), none] [1, 2, 5, 6, 7, 17, 18, 19, 33] [pl 1 (.func (.func 47) #[] #[.pointer (some ⟨g4, 0, none⟩)]), pl 2 (.pointer (some ⟨g5, 0, none⟩)), pl 5 (.slice A3 l1.length c3), pl 6 (.slice A2 (Int.toNat (g3.length : Int)) c2), pl 7 (.int .i64 z1), pl 17 (.slice A1 g3.length c1), pl 18 (.int .i64 (g3.length : Int)), pl 19 (.int .i64 z1), pl 33 (.bool ((!r1) || (getb done1 z1)))] hF hS Fol (by kernel_rfl) (by kernel_rfl) (by kernel_rfl) ?_ (fun a w hF hS => ?_)
          · exact obs_cons (ob_call Try.func47 (by kernel_rfl) rfl (fun _ _ hS => stones_Alive_1_w hr1 hS )) <| obs_cons (ob_ix1 (f := Value.bool) (m := done1) Und86 hi4 hs4 (hS.at_ 4 rfl).rd ((hS.at_ 4 rfl).len1) (fun hy => hp3 (hy (!r1, false) (by simp)))) <| obs_cons (ob_get1 (n := (Int.toNat (g3.length : Int))) (m := done1) Value.bool false Agg4 (fun _ hS => ⟨_, (hS.at_ 4 rfl).rd⟩) (fun _ hS => ((hS.at_ 4 rfl).len1)) (fun hy => hp3 (hy (!r1, false) (by simp)))) <| obs_nil
          refine cond_ev (t := 33) (b := (!r1) || (getb done1 z1)) hF (by kernel_rfl) (fun hb => ?_) (fun hb => ?_)
          · replace hm := if_t hm hb
            refine wpIn_exit ?_
            refine then_e (block_e (then_n ?_))
            exact ⟨l1, done1, pg1, raw1, A3, c3, hF.weak [1, 2, 5, 6, 17, 18, 19] (by kernel_rfl), hS, hm⟩
          · replace hm := if_f hm hb
            refine wpIn_skip ?_
            refine then_n ?_
            exact ⟨hF.weak [1, 2, 5, 6, 7, 17, 18, 19] (by kernel_rfl), hS, hm⟩
    · refine cond_ev (t := 20) (b := decide (z1 < (g3.length : Int))) hF (by kernel_rfl) (fun hb => ?_) (fun hb => ?_)
      · replace hm := if_t hm hb
        refine wpIn_skip ?_
        refine then_n ?_
        exact ⟨hF.weak [1, 2, 5, 6, 17, 18, 19] (by kernel_rfl), hS, hm⟩
      · replace hm := if_f hm hb
        refine wpIn_exit ?_
        refine then_e (then_e (block_e (then_n ?_)))
        have hS := hS.pickN 5 [2, 3, 0] (by decide)
        rw [← hφ1] at hm
        replace hm := done_b hm
        unfold stones_parts_K1 at hm
        try dsimp only at hm
        have hm : (stones_parts_J1 l1).bind some = some r := hm
        exact ⟨l1, pg1, raw1, A3, c3, hF.weak [5] (by kernel_rfl), hS, hm⟩

noncomputable def stones_Alive_2_m  (c1 : Int) (p11 : Int) : Option Bool :=
  some (c1 != p11)

set_option maxRecDepth 100000 in
set_option maxHeartbeats 4000000 in
theorem stones_Alive_2_w  {c1 : Int} {g1 : Nat} {p11 : Int} {r : Bool} {w0 w : World} {B : Nat} {fs : List HP} (hm : stones_Alive_2_m c1 p11 = some r) (hS : Sep w0 B w (blk g1 3 #[.int .i64 p11] :: fs)) :
    Calls Try.prog 48 #[.int .i64 c1, .pointer (some ⟨g1, 0, none⟩)] w fun e w' => e = .returned (.bool r) ∧ Sep w0 B w' (blk g1 3 #[.int .i64 p11] :: fs) := by
  unfold stones_Alive_2_m at hm
  replace hm := start_b hm
  refine enter (l := [.int .i64 c1, .pointer (some ⟨g1, 0, none⟩)]) (n := 7) Try.func48 rfl rfl (by simp) (fun a hF => ?_)
  refine reg [] [] [0, 1] [pl 0 (.int .i64 c1), pl 1 (.pointer (some ⟨g1, 0, none⟩))] hF hS Fol (by kernel_rfl) (by kernel_rfl) (by kernel_rfl) ?_ (fun a w hF hS => ?_)
  · exact obs_nil
  refine reg [⟨false, [], vS (Instr.loadAt 3 (.pointer (some ⟨g1, 0, none⟩))), .int .i64 p11⟩] [none, some (.int .i64 p11), none, none] [3] [pl 3 (.bool (c1 != p11))] hF hS Fol (by kernel_rfl) (by kernel_rfl) (by kernel_rfl) ?_ (fun a w hF hS => ?_)
  · exact obs_cons (ob_load Agg3 (fun _ _ hS => (hS.at_ 0 rfl).cell rfl)) <| obs_nil
  refine wpIn_ret ?_
  have hm : some (c1 != p11) = some r := hm
  obtain rfl := Option.some.inj hm
  exact retV (rs := [.tmp 3]) (vs := [.bool (c1 != p11)]) hF rfl (rv_t (by kernel_rfl) <| rv_nil) rfl ⟨rfl, hS⟩

noncomputable def stones_spread_3_J5  (z1 : Int) (in5 : List Int) (border5 : List Int) (seen4 : List Bool) : Option (St (List Int × List Int × List Bool × Int) (List Int × List Int × List Bool)) :=
  some (.next (in5, border5, seen4, (w64 (z1 + 1))))

noncomputable def stones_spread_3_J6  (g3 : List Int) (v1 : Int) (r1 : (List Int)) (in3 : List Int) (border3 : List Int) (seen2 : List Bool) (z1 : Int) : Option (St (List Int × List Int × List Bool × Int) (List Int × List Int × List Bool)) :=
  asrt (0 ≤ (geti r1 z1) ∧ (geti r1 z1) < (((Int.toNat (g3.length : Int)) : Nat) : Int)) <| asrt (0 ≤ (geti r1 z1) ∧ (geti r1 z1) < (g3.length : Int)) <| (stones_Alive_2_m (geti g3 (geti r1 z1)) v1).bind fun r2 => if r2 then (asrt ((in3.length : Int) + 1 ≤ bigN) <| (stones_spread_3_J5 z1) (in3 ++ ([geti r1 z1] : List Int)) border3 (seen2.set (Int.toNat (geti r1 z1)) true)) else (asrt ((border3.length : Int) + 1 ≤ bigN) <| (stones_spread_3_J5 z1) in3 (border3 ++ ([geti r1 z1] : List Int)) (seen2.set (Int.toNat (geti r1 z1)) true))

noncomputable def stones_spread_3_J4  (g3 : List Int) (v1 : Int) (r1 : (List Int)) (in3 : List Int) (border3 : List Int) (seen2 : List Bool) (z1 : Int) : Option (St (List Int × List Int × List Bool × Int) (List Int × List Int × List Bool)) :=
  asrt (0 ≤ z1 ∧ z1 < (r1.length : Int)) <| asrt (0 ≤ (geti r1 z1) ∧ (geti r1 z1) < (((Int.toNat (g3.length : Int)) : Nat) : Int)) <| if (getb seen2 (geti r1 z1)) then ((stones_spread_3_J5 z1) in3 border3 seen2) else ((stones_spread_3_J6 g3 v1 r1 in3 border3 seen2 z1))

noncomputable def stones_spread_3_J3  (i1 : Int) (in4 : List Int) (border4 : List Int) (seen3 : List Bool) : Option (St (List Int × List Int × List Bool × Int) (List Int × List Int)) :=
  some (.next (in4, border4, seen3, (w64 (i1 + 1))))

noncomputable def stones_spread_3_K2  (i1 : Int) : (List Int × List Int × List Bool) → Option (St (List Int × List Int × List Bool × Int) (List Int × List Int)) :=
  fun (x : (List Int × List Int × List Bool)) => match x with | (in4, border4, seen3) => (stones_spread_3_J3 i1) in4 border4 seen3

noncomputable def stones_spread_3_L2  (g3 : List Int) (v1 : Int) (r1 : (List Int)) : (List Int × List Int × List Bool × Int) → Option (St (List Int × List Int × List Bool × Int) (List Int × List Int × List Bool)) :=
  fun (x : (List Int × List Int × List Bool × Int)) => match x with | (in3, border3, seen2, z1) => if (decide (z1 < (r1.length : Int))) then ((stones_spread_3_J4 g3 v1 r1 in3 border3 seen2 z1)) else (some (.done (in3, border3, seen2)))

noncomputable def stones_spread_3_J2  (g1 : Int) (g2 : Int) (g3 : List Int) (v1 : Int) (in1 : List Int) (border1 : List Int) (seen1 : List Bool) (i1 : Int) : Option (St (List Int × List Int × List Bool × Int) (List Int × List Int)) :=
  asrt (0 ≤ i1 ∧ i1 < (in1.length : Int)) <| (stones_near_m g1 g2 g3 (geti in1 i1)).bind fun r1 => (loop (stones_spread_3_L2 g3 v1 r1) (in1, border1, seen1, 0)).bind (stones_spread_3_K2 i1)

noncomputable def stones_spread_3_J1  (in2 : List Int) (border2 : List Int) : Option (List Int × List Int) :=
  (slices_Sort_2_m in2).bind fun r3 => (slices_Sort_2_m border2).bind fun r4 => some (r3, r4)

noncomputable def stones_spread_3_K1  : (List Int × List Int) → Option (List Int × List Int) :=
  fun (x : (List Int × List Int)) => match x with | (in2, border2) => stones_spread_3_J1 in2 border2

noncomputable def stones_spread_3_L1  (g1 : Int) (g2 : Int) (g3 : List Int) (v1 : Int) : (List Int × List Int × List Bool × Int) → Option (St (List Int × List Int × List Bool × Int) (List Int × List Int)) :=
  fun (x : (List Int × List Int × List Bool × Int)) => match x with | (in1, border1, seen1, i1) => if (decide (i1 < (in1.length : Int))) then ((stones_spread_3_J2 g1 g2 g3 v1 in1 border1 seen1 i1)) else (some (.done (in1, border1)))

noncomputable def stones_spread_3_m  (g1 : Int) (g2 : Int) (g3 : List Int) (from1 : Int) (v1 : Int) : Option (List Int × List Int) :=
  asrt ((0 : Int) ≤ (g3.length : Int) ∧ (g3.length : Int) ≤ bigN) <| asrt (0 ≤ from1 ∧ from1 < (((Int.toNat (g3.length : Int)) : Nat) : Int)) <| (loop (stones_spread_3_L1 g1 g2 g3 v1) (([from1] : List Int), ([] : List Int), ((List.replicate (Int.toNat (g3.length : Int)) false).set (Int.toNat from1) true), 0)).bind stones_spread_3_K1

set_option maxRecDepth 100000 in
set_option maxHeartbeats 4000000 in
theorem stones_spread_3_w  {g1 : Int} {g2 : Int} {A1 : Option Addr} {c1 : Nat} {n1 : Nat} {g3 : List Int} {from1 : Int} {g4 : Nat} {v1 : Int} {r : (List Int × List Int)} {w0 w : World} {B : Nat} {fs : List HP} (hm : stones_spread_3_m g1 g2 g3 from1 v1 = some r) (hS : Sep w0 B w (blk g4 3 #[.int .i64 v1] :: fs)) (hr_g3 : RdF w0 B fs A1 (vI g3)) (_hc_g3 : g3.length ≤ c1) (_hn_g3 : n1 = g3.length) :
    Calls Try.prog 43 #[.agg #[.int .i64 g1, .int .i64 g2, .slice A1 n1 c1], .int .i64 from1, .func (.func 48) #[] #[.pointer (some ⟨g4, 0, none⟩)]] w fun e w' => ∃ v, e = .returned v ∧ ∃ (A16 : Option Addr) (c16 : Nat) (A17 : Option Addr) (c17 : Nat), v = .tuple #[.slice A16 r.1.length c16, .slice A17 r.2.length c17] ∧ Sep w0 B w' (blk g4 3 #[.int .i64 v1] :: own 3 (.slice A16 r.1.length c16) (vI r.1) :: own 3 (.slice A17 r.2.length c17) (vI r.2) :: fs) := by
  obtain ⟨i3, hi3, hz3, hs3, hb3⟩ := info_parts Info3
  obtain ⟨i4, hi4, hz4, hs4, hb4⟩ := info_parts Info4
  obtain rfl := _hn_g3
  unfold stones_spread_3_m at hm
  replace hm := start_b hm
  refine enter (l := [.agg #[.int .i64 g1, .int .i64 g2, .slice A1 g3.length c1], .int .i64 from1, .func (.func 48) #[] #[.pointer (some ⟨g4, 0, none⟩)]]) (n := 67) Try.func43 rfl rfl (by simp) (fun a hF => ?_)
  refine seqR ?_
  refine at_do (d := 3) (s := vS (Instr.box 24 (.agg #[.int .i64 g1, .int .i64 g2, .slice A1 g3.length c1]))) (v := .pointer (some ⟨w.heap.size, 0, none⟩)) (w' := w.alloc (.cells #[.int .i64 g1, .int .i64 g2, .slice A1 g3.length c1] 24)) hF (by kernel_rfl) (by kernel_rfl) (by kernel_rfl) (fun a hF => ?_)
  have hS : Sep w0 B (w.alloc (.cells #[.int .i64 g1, .int .i64 g2, .slice A1 g3.length c1] 24)) (blk w.heap.size 24 #[.int .i64 g1, .int .i64 g2, .slice A1 g3.length c1] :: (blk g4 3 #[.int .i64 v1] :: fs)) := hS.box 24 #[.int .i64 g1, .int .i64 g2, .slice A1 g3.length c1]
  generalize w.heap.size = g5 at hF hS
  generalize w.alloc (.cells #[.int .i64 g1, .int .i64 g2, .slice A1 g3.length c1] 24) = w at hS ⊢
  refine at_run 2 [] [] [1, 2, 3, 7] [pl 1 (.int .i64 from1), pl 2 (.func (.func 48) #[] #[.pointer (some ⟨g4, 0, none⟩)]), pl 3 (.pointer (some ⟨g5, 0, none⟩)), pl 7 (.slice none 0 0)] hF hS (by kernel_rfl) (by kernel_rfl) ?_ (fun a w hF hS => ?_)
  · exact obs_nil
  refine at_end [1, 2, 3, 7] [pl 1 (.int .i64 from1), pl 2 (.func (.func 48) #[] #[.pointer (some ⟨g4, 0, none⟩)]), pl 3 (.pointer (some ⟨g5, 0, none⟩)), pl 7 (.slice none 0 0)] hF rfl (by kernel_rfl) (fun hF => ?_)
  refine then_n ?_
  refine seqR ?_
  obtain ⟨hp1, hm⟩ := asrt_b hm
  refine at_run 3 [⟨false, [], vS (Instr.loadAt 22 (.pointer (some ⟨g5, 2, none⟩))), .slice A1 g3.length c1⟩] [none, some (.slice A1 g3.length c1), none] [1, 2, 3, 7, 14] [pl 1 (.int .i64 from1), pl 2 (.func (.func 48) #[] #[.pointer (some ⟨g4, 0, none⟩)]), pl 3 (.pointer (some ⟨g5, 0, none⟩)), pl 7 (.slice none 0 0), pl 14 (.int .i64 (g3.length : Int))] hF hS (by kernel_rfl) (by kernel_rfl) ?_ (fun a w hF hS => ?_)
  · exact obs_cons (ob_load Agg22 (fun _ _ hS => (hS.at_ 0 rfl).cell rfl)) <| obs_nil
  obtain ⟨A2, c2, w, hrun, hS⟩ := run_mk1 (P := Try.prog) (t := 86) Value.bool false hS .i64 .i64 Und86 hi4 hz4 hs4 (by omega) rfl hp1
  have hS : Sep w0 B w (own 4 (.slice A2 (Int.toNat (g3.length : Int)) c2) (vB (List.replicate (Int.toNat (g3.length : Int)) false)) :: blk g5 24 #[.int .i64 g1, .int .i64 g2, .slice A1 g3.length c1] :: blk g4 3 #[.int .i64 v1] :: fs) := hS
  refine at_do (d := 15) hF (by kernel_rfl) (by kernel_rfl) hrun (fun a hF => ?_)
  refine at_run 1 [] [] [1, 2, 3, 7, 8] [pl 1 (.int .i64 from1), pl 2 (.func (.func 48) #[] #[.pointer (some ⟨g4, 0, none⟩)]), pl 3 (.pointer (some ⟨g5, 0, none⟩)), pl 7 (.slice none 0 0), pl 8 (.slice A2 (Int.toNat (g3.length : Int)) c2)] hF hS (by kernel_rfl) (by kernel_rfl) ?_ (fun a w hF hS => ?_)
  · exact obs_nil
  refine at_end [1, 2, 3, 7, 8] [pl 1 (.int .i64 from1), pl 2 (.func (.func 48) #[] #[.pointer (some ⟨g4, 0, none⟩)]), pl 3 (.pointer (some ⟨g5, 0, none⟩)), pl 7 (.slice none 0 0), pl 8 (.slice A2 (Int.toNat (g3.length : Int)) c2)] hF rfl (by kernel_rfl) (fun hF => ?_)
  refine then_n ?_
  refine seqR ?_
  obtain ⟨hp2, hm⟩ := asrt_b hm
  refine at_run 3 [⟨true, [], vS (Instr.indexAt 86 (.slice A2 (Int.toNat (g3.length : Int)) c2) (.int .i64 from1)), .pointer (some (sAddr A2 from1))⟩] [none, none, some (.pointer (some (sAddr A2 from1)))] [1, 2, 3, 7, 8, 18] [pl 1 (.int .i64 from1), pl 2 (.func (.func 48) #[] #[.pointer (some ⟨g4, 0, none⟩)]), pl 3 (.pointer (some ⟨g5, 0, none⟩)), pl 7 (.slice none 0 0), pl 8 (.slice A2 (Int.toNat (g3.length : Int)) c2), pl 18 (.pointer (some (sAddr A2 from1)))] hF hS (by kernel_rfl) (by kernel_rfl) ?_ (fun a w hF hS => ?_)
  · exact obs_cons (ob_ix1 (f := Value.bool) (m := (List.replicate (Int.toNat (g3.length : Int)) false)) Und86 hi4 hs4 (hS.at_ 0 rfl).rd ((hS.at_ 0 rfl).len1) (fun _ => hp2)) <| obs_nil
  obtain ⟨w, hrun, hS⟩ := run_set1 (P := Try.prog) (t := 4) (x := true) Value.bool (hS.at_ 0 rfl) hi4 hs4 rfl rfl hp2
  refine at_skip hF (by kernel_rfl) hrun ?_
  have hS : Sep w0 B w (own 4 (.slice A2 (Int.toNat (g3.length : Int)) c2) (vB ((List.replicate (Int.toNat (g3.length : Int)) false).set (Int.toNat from1) true)) :: blk g5 24 #[.int .i64 g1, .int .i64 g2, .slice A1 g3.length c1] :: blk g4 3 #[.int .i64 v1] :: fs) := hS
  refine at_end [1, 2, 3, 7, 8] [pl 1 (.int .i64 from1), pl 2 (.func (.func 48) #[] #[.pointer (some ⟨g4, 0, none⟩)]), pl 3 (.pointer (some ⟨g5, 0, none⟩)), pl 7 (.slice none 0 0), pl 8 (.slice A2 (Int.toNat (g3.length : Int)) c2)] hF rfl (by kernel_rfl) (fun hF => ?_)
  refine then_n ?_
  refine seqR ?_
  refine at_run 1 [] [] [2, 3, 7, 8, 19] [pl 2 (.func (.func 48) #[] #[.pointer (some ⟨g4, 0, none⟩)]), pl 3 (.pointer (some ⟨g5, 0, none⟩)), pl 7 (.slice none 0 0), pl 8 (.slice A2 (Int.toNat (g3.length : Int)) c2), pl 19 (.int .i64 from1)] hF hS (by kernel_rfl) (by kernel_rfl) ?_ (fun a w hF hS => ?_)
  · exact obs_nil
  refine at_do (d := 20) (s := vS (Instr.buildSlice 22 1 #[(0, .int .i64 from1)])) (v := .slice (some ⟨w.heap.size, 0, none⟩) 1 1) (w' := w.alloc (.cells #[.int .i64 from1] 3)) hF (by kernel_rfl) (by kernel_rfl) (by kernel_rfl) (fun a hF => ?_)
  have hS : Sep w0 B (w.alloc (.cells #[.int .i64 from1] 3)) (own 3 (.slice (some (⟨w.heap.size, 0, none⟩ : Addr)) 1 1) (vI ([from1] : List Int)) :: (own 4 (.slice A2 (Int.toNat (g3.length : Int)) c2) (vB ((List.replicate (Int.toNat (g3.length : Int)) false).set (Int.toNat from1) true)) :: blk g5 24 #[.int .i64 g1, .int .i64 g2, .slice A1 g3.length c1] :: blk g4 3 #[.int .i64 v1] :: fs)) := hS.lit 3 #[.int .i64 from1] 1 rfl (by omega)
  generalize (some (⟨w.heap.size, 0, none⟩ : Addr)) = g6 at hF hS
  generalize w.alloc (.cells #[.int .i64 from1] 3) = w at hS ⊢
  refine at_run 1 [] [] [2, 3, 6, 7, 8] [pl 2 (.func (.func 48) #[] #[.pointer (some ⟨g4, 0, none⟩)]), pl 3 (.pointer (some ⟨g5, 0, none⟩)), pl 6 (.slice g6 1 1), pl 7 (.slice none 0 0), pl 8 (.slice A2 (Int.toNat (g3.length : Int)) c2)] hF hS (by kernel_rfl) (by kernel_rfl) ?_ (fun a w hF hS => ?_)
  · exact obs_nil
  refine at_end [2, 3, 6, 7, 8] [pl 2 (.func (.func 48) #[] #[.pointer (some ⟨g4, 0, none⟩)]), pl 3 (.pointer (some ⟨g5, 0, none⟩)), pl 6 (.slice g6 1 1), pl 7 (.slice none 0 0), pl 8 (.slice A2 (Int.toNat (g3.length : Int)) c2)] hF rfl (by kernel_rfl) (fun hF => ?_)
  refine then_n ?_
  refine seq_cut (fun a w => ∃ (in2 : List Int) (border2 : List Int) (A5 : Option Addr) (c5 : Nat) (A6 : Option Addr) (c6 : Nat), Fr 67 [pl 6 (.slice A5 in2.length c5), pl 7 (.slice A6 border2.length c6)] a ∧ Sep w0 B w (own 3 (.slice A5 in2.length c5) (vI in2) :: own 3 (.slice A6 border2.length c6) (vI border2) :: blk g4 3 #[.int .i64 v1] :: fs) ∧ (stones_spread_3_J1 in2 border2).bind some = some r) ?_ ?_
  · rintro a w ⟨in2, border2, A5, c5, A6, c6, hF, hS, hm⟩
    unfold stones_spread_3_J1 at hm
    refine seqR ?_
    obtain ⟨r3, hr3, hm⟩ := call_b hm
    refine at_run 1 [] [] [6, 7, 61] [pl 6 (.slice A5 in2.length c5), pl 7 (.slice A6 border2.length c6), pl 61 (.slice A5 in2.length c5)] hF hS (by kernel_rfl) (by kernel_rfl) ?_ (fun a w hF hS => ?_)
    · exact obs_nil
    refine at_call (f := 53) (args := #[.slice A5 in2.length c5]) (d := 62) hF (by kernel_rfl) (by kernel_rfl) Try.func53 (by kernel_rfl) rfl (slices_Sort_2_w hr3 hS ) (fun v a w hR hF => ?_)
    clear hS
    obtain ⟨rfl, hS⟩ := hR
    have hS : Sep w0 B w (own 3 (.slice A5 in2.length c5) (vI r3) :: own 3 (.slice A6 border2.length c6) (vI border2) :: blk g4 3 #[.int .i64 v1] :: fs) := hS
    refine at_end [6, 7] [pl 6 (.slice A5 in2.length c5), pl 7 (.slice A6 border2.length c6)] hF rfl (by kernel_rfl) (fun hF => ?_)
    refine then_n ?_
    refine seqR ?_
    obtain ⟨r4, hr4, hm⟩ := call_b hm
    refine at_run 1 [] [] [6, 7, 63] [pl 6 (.slice A5 in2.length c5), pl 7 (.slice A6 border2.length c6), pl 63 (.slice A6 border2.length c6)] hF hS (by kernel_rfl) (by kernel_rfl) ?_ (fun a w hF hS => ?_)
    · exact obs_nil
    have hS : Sep w0 B w (own 3 (.slice A6 border2.length c6) (vI border2) :: own 3 (.slice A5 in2.length c5) (vI r3) :: blk g4 3 #[.int .i64 v1] :: fs) := hS.pickN 3 [1, 0, 2] (by decide)
    refine at_call (f := 53) (args := #[.slice A6 border2.length c6]) (d := 64) hF (by kernel_rfl) (by kernel_rfl) Try.func53 (by kernel_rfl) rfl (slices_Sort_2_w hr4 hS ) (fun v a w hR hF => ?_)
    clear hS
    obtain ⟨rfl, hS⟩ := hR
    have hS : Sep w0 B w (own 3 (.slice A6 border2.length c6) (vI r4) :: own 3 (.slice A5 in2.length c5) (vI r3) :: blk g4 3 #[.int .i64 v1] :: fs) := hS
    refine at_end [6, 7] [pl 6 (.slice A5 in2.length c5), pl 7 (.slice A6 border2.length c6)] hF rfl (by kernel_rfl) (fun hF => ?_)
    refine then_n ?_
    refine reg [] [] [6, 7] [pl 6 (.slice A5 in2.length c5), pl 7 (.slice A6 border2.length c6)] hF hS Fol (by kernel_rfl) (by kernel_rfl) (by kernel_rfl) ?_ (fun a w hF hS => ?_)
    · exact obs_nil
    refine wpIn_ret ?_
    have hl3 := (hS.at_ 1 rfl).len1
    have hS := (hS.at_ 1 rfl).reN hl3
    have hS : Sep w0 B w (own 3 (.slice A6 border2.length c6) (vI r4) :: own 3 (.slice A5 r3.length c5) (vI r3) :: blk g4 3 #[.int .i64 v1] :: fs) := hS
    have hF := hF.cast (t := 6) (v := .slice A5 in2.length c5) (v' := .slice A5 r3.length c5) rfl rfl (congrArg (fun k => Value.slice A5 k c5) hl3)
    have hl4 := (hS.at_ 0 rfl).len1
    have hS := (hS.at_ 0 rfl).reN hl4
    have hS : Sep w0 B w (own 3 (.slice A6 r4.length c6) (vI r4) :: own 3 (.slice A5 r3.length c5) (vI r3) :: blk g4 3 #[.int .i64 v1] :: fs) := hS
    have hF := hF.cast (t := 7) (v := .slice A6 border2.length c6) (v' := .slice A6 r4.length c6) rfl rfl (congrArg (fun k => Value.slice A6 k c6) hl4)
    have hS := hS.pickN 3 [2, 1, 0] (by decide)
    have hm : some (r3, r4) = some r := hm
    obtain rfl := Option.some.inj hm
    exact retV (rs := [.tmp 6, .tmp 7]) (vs := [.slice A5 r3.length c5, .slice A6 r4.length c6]) hF rfl (rv_t (by kernel_rfl) <| rv_t (by kernel_rfl) <| rv_nil) rfl ⟨_, rfl, A5, c5, A6, c6, rfl, hS⟩
  · refine reg [] [] [2, 3, 6, 7, 8, 9] [pl 2 (.func (.func 48) #[] #[.pointer (some ⟨g4, 0, none⟩)]), pl 3 (.pointer (some ⟨g5, 0, none⟩)), pl 6 (.slice g6 1 1), pl 7 (.slice none 0 0), pl 8 (.slice A2 (Int.toNat (g3.length : Int)) c2), pl 9 (.int .i64 0)] hF hS Fol (by kernel_rfl) (by kernel_rfl) (by kernel_rfl) ?_ (fun a w hF hS => ?_)
    · exact obs_nil
    refine wpIn_block ?_
    have hl1 := (hS.at_ 0 rfl).len1
    have hS := (hS.at_ 0 rfl).reN hl1
    have hS : Sep w0 B w (own 3 (.slice g6 (([from1] : List Int).length) 1) (vI ([from1] : List Int)) :: own 4 (.slice A2 (Int.toNat (g3.length : Int)) c2) (vB ((List.replicate (Int.toNat (g3.length : Int)) false).set (Int.toNat from1) true)) :: blk g5 24 #[.int .i64 g1, .int .i64 g2, .slice A1 g3.length c1] :: blk g4 3 #[.int .i64 v1] :: fs) := hS
    have hF := hF.cast (t := 6) (v := .slice g6 1 1) (v' := .slice g6 (([from1] : List Int).length) 1) rfl rfl (congrArg (fun k => Value.slice g6 k 1) hl1)
    have hS : Sep w0 B w (own 3 (.slice none 0 0) (vI ([] : List Int)) :: own 3 (.slice g6 (([from1] : List Int).length) 1) (vI ([from1] : List Int)) :: own 4 (.slice A2 (Int.toNat (g3.length : Int)) c2) (vB ((List.replicate (Int.toNat (g3.length : Int)) false).set (Int.toNat from1) true)) :: blk g5 24 #[.int .i64 g1, .int .i64 g2, .slice A1 g3.length c1] :: blk g4 3 #[.int .i64 v1] :: fs) := hS.nil 3
    have hl2 := (hS.at_ 0 rfl).len1
    have hS := (hS.at_ 0 rfl).reN hl2
    have hS : Sep w0 B w (own 3 (.slice none (([] : List Int).length) 0) (vI ([] : List Int)) :: own 3 (.slice g6 (([from1] : List Int).length) 1) (vI ([from1] : List Int)) :: own 4 (.slice A2 (Int.toNat (g3.length : Int)) c2) (vB ((List.replicate (Int.toNat (g3.length : Int)) false).set (Int.toNat from1) true)) :: blk g5 24 #[.int .i64 g1, .int .i64 g2, .slice A1 g3.length c1] :: blk g4 3 #[.int .i64 v1] :: fs) := hS
    have hF := hF.cast (t := 7) (v := .slice none 0 0) (v' := .slice none (([] : List Int).length) 0) rfl rfl (congrArg (fun k => Value.slice none k 0) hl2)
    have hS := hS.pickN 5 [4, 3, 1, 0, 2] (by decide)
    refine wp_loop_model (S := (List Int × List Int × List Bool × Int)) (R := (List Int × List Int)) (stones_spread_3_L1 g1 g2 g3 v1) (fun x => (stones_spread_3_K1 x).bind some) r (fun (x : (List Int × List Int × List Bool × Int)) a w => ∃ (A3 : Option Addr) (c3 : Nat) (A4 : Option Addr) (c4 : Nat), Fr 67 [pl 2 (.func (.func 48) #[] #[.pointer (some ⟨g4, 0, none⟩)]), pl 3 (.pointer (some ⟨g5, 0, none⟩)), pl 6 (.slice A3 x.1.length c3), pl 7 (.slice A4 x.2.1.length c4), pl 8 (.slice A2 (Int.toNat (g3.length : Int)) c2), pl 9 (.int .i64 x.2.2.2)] a ∧ Sep w0 B w (blk g4 3 #[.int .i64 v1] :: blk g5 24 #[.int .i64 g1, .int .i64 g2, .slice A1 g3.length c1] :: own 3 (.slice A3 x.1.length c3) (vI x.1) :: own 3 (.slice A4 x.2.1.length c4) (vI x.2.1) :: own 4 (.slice A2 (Int.toNat (g3.length : Int)) c2) (vB x.2.2.1) :: fs)) (assoc_b hm) ⟨g6, 1, none, 0, hF.weak [2, 3, 6, 7, 8, 9] (by kernel_rfl), hS⟩ ?_
    clear hF hS hm
    rintro nn1 ⟨in1, border1, seen1, i1⟩ a w ⟨A3, c3, A4, c4, hF, hS⟩ hm
    generalize hφ1 : stK (stones_spread_3_L1 g1 g2 g3 v1) nn1 (fun x => (stones_spread_3_K1 x).bind some) = φ1 at hm
    unfold stones_spread_3_L1 at hm
    dsimp only at hF hS hm
    refine seq_cut (fun a w => Fr 67 [pl 2 (.func (.func 48) #[] #[.pointer (some ⟨g4, 0, none⟩)]), pl 3 (.pointer (some ⟨g5, 0, none⟩)), pl 6 (.slice A3 in1.length c3), pl 7 (.slice A4 border1.length c4), pl 8 (.slice A2 (Int.toNat (g3.length : Int)) c2), pl 9 (.int .i64 i1)] a ∧ Sep w0 B w (blk g4 3 #[.int .i64 v1] :: blk g5 24 #[.int .i64 g1, .int .i64 g2, .slice A1 g3.length c1] :: own 3 (.slice A3 in1.length c3) (vI in1) :: own 3 (.slice A4 border1.length c4) (vI border1) :: own 4 (.slice A2 (Int.toNat (g3.length : Int)) c2) (vB seen1) :: fs) ∧ ((stones_spread_3_J2 g1 g2 g3 v1 in1 border1 seen1 i1)).bind φ1 = some r) ?_ ?_
    · rintro a w ⟨hF, hS, hm⟩
      unfold stones_spread_3_J2 at hm
      refine seq_cut (fun a w => ∃ (in4 : List Int) (border4 : List Int) (seen3 : List Bool) (A10 : Option Addr) (c10 : Nat) (A11 : Option Addr) (c11 : Nat), Fr 67 [pl 2 (.func (.func 48) #[] #[.pointer (some ⟨g4, 0, none⟩)]), pl 3 (.pointer (some ⟨g5, 0, none⟩)), pl 6 (.slice A10 in4.length c10), pl 7 (.slice A11 border4.length c11), pl 8 (.slice A2 (Int.toNat (g3.length : Int)) c2), pl 9 (.int .i64 i1)] a ∧ Sep w0 B w (blk g4 3 #[.int .i64 v1] :: blk g5 24 #[.int .i64 g1, .int .i64 g2, .slice A1 g3.length c1] :: own 3 (.slice A10 in4.length c10) (vI in4) :: own 3 (.slice A11 border4.length c11) (vI border4) :: own 4 (.slice A2 (Int.toNat (g3.length : Int)) c2) (vB seen3) :: fs) ∧ ((stones_spread_3_J3 i1) in4 border4 seen3).bind φ1 = some r) ?_ ?_
      · rintro a w ⟨in4, border4, seen3, A10, c10, A11, c11, hF, hS, hm⟩
        unfold stones_spread_3_J3 at hm
        refine reg1 [] [] [2, 3, 6, 7, 8, 9] [pl 2 (.func (.func 48) #[] #[.pointer (some ⟨g4, 0, none⟩)]), pl 3 (.pointer (some ⟨g5, 0, none⟩)), pl 6 (.slice A10 in4.length c10), pl 7 (.slice A11 border4.length c11), pl 8 (.slice A2 (Int.toNat (g3.length : Int)) c2), pl 9 (.int .i64 (w64 (i1 + 1)))] hF hS Fol (by kernel_rfl) (by kernel_rfl) (by kernel_rfl) ?_ (fun a w hF hS => ?_)
        · exact obs_nil
        refine then_n ?_
        rw [← hφ1] at hm
        exact ⟨(in4, border4, seen3, (w64 (i1 + 1))), ⟨A10, c10, A11, c11, hF.weak [2, 3, 6, 7, 8, 9] (by kernel_rfl), hS⟩, hm⟩
      · refine wpIn_block ?_
        refine wpIn_seq ?_
        obtain ⟨hp3, hm⟩ := asrt_b hm
        obtain ⟨r1, hr1, hm⟩ := call_b hm
        refine regMix4 [0, 1, 2, 3, 4, 7] [5, 6] [⟨false, [], vS (Instr.loadAt 24 (.pointer (some ⟨g5, 0, none⟩))), .agg #[.int .i64 g1, .int .i64 g2, .slice A1 g3.length c1]⟩, ⟨true, [], vS (Instr.indexAt 22 (.slice A3 in1.length c3) (.int .i64 i1)), .pointer (some (sAddr A3 i1))⟩, ⟨false, [], vS (Instr.loadAt 3 (.pointer (some (sAddr A3 i1)))), .int .i64 (geti in1 i1)⟩] [some (.agg #[.int .i64 g1, .int .i64 g2, .slice A1 g3.length c1]), none, none, some (.pointer (some (sAddr A3 i1))), some (.int .i64 (geti in1 i1)), none] [2, 3, 6, 7, 8, 9, 27, 31, 34] [pl 2 (.func (.func 48) #[] #[.pointer (some ⟨g4, 0, none⟩)]), pl 3 (.pointer (some ⟨g5, 0, none⟩)), pl 6 (.slice A3 in1.length c3), pl 7 (.slice A4 border1.length c4), pl 8 (.slice A2 (Int.toNat (g3.length : Int)) c2), pl 9 (.int .i64 i1), pl 27 (.agg #[.int .i64 g1, .int .i64 g2, .slice A1 g3.length c1]), pl 31 (.int .i64 (geti in1 i1)), pl 34 (.int .i64 0)] hF hS Fol (by kernel_rfl) (by kernel_rfl) (by kernel_rfl) (by kernel_rfl) (by kernel_rfl) ?_ (fun a w hF hS => ?_)
        · exact obs_cons (ob_loadA (cs := #[.int .i64 g1, .int .i64 g2, .slice A1 g3.length c1]) (by kernel_rfl) (by kernel_rfl) (fun _ _ hS => (hS.at_ 1 rfl).cellsAt 0 (by rfl))) <| obs_cons (ob_ix1 (f := (Value.int .i64)) (m := in1) Und22 hi3 hs3 (hS.at_ 2 rfl).rd rfl (fun _ => hp3)) <| obs_cons (ob_get1 (n := in1.length) (m := in1) (Value.int .i64) (0 : Int) Agg3 (fun _ hS => ⟨_, (hS.at_ 2 rfl).rd⟩) (fun _ hS => rfl) (fun _ => hp3)) <| obs_nil
        refine at_call (f := 106) (args := #[.agg #[.int .i64 g1, .int .i64 g2, .slice A1 g3.length c1], .int .i64 (geti in1 i1)]) (d := 32) hF (by kernel_rfl) (by kernel_rfl) Try.func106 (by kernel_rfl) rfl (stones_near_w hr1 hS (fun _ hS => (hr_g3 _ (hS.dropN 5))) _hc_g3 rfl) (fun v a w hR hF => ?_)
        clear hS
        obtain ⟨A7, c7, rfl, hS⟩ := hR
        have hS : Sep w0 B w (own 3 (.slice A7 r1.length c7) (vI r1) :: blk g4 3 #[.int .i64 v1] :: blk g5 24 #[.int .i64 g1, .int .i64 g2, .slice A1 g3.length c1] :: own 3 (.slice A3 in1.length c3) (vI in1) :: own 3 (.slice A4 border1.length c4) (vI border1) :: own 4 (.slice A2 (Int.toNat (g3.length : Int)) c2) (vB seen1) :: fs) := hS
        refine at_run 1 [] [] [2, 3, 6, 7, 8, 9, 32, 33, 34] [pl 2 (.func (.func 48) #[] #[.pointer (some ⟨g4, 0, none⟩)]), pl 3 (.pointer (some ⟨g5, 0, none⟩)), pl 6 (.slice A3 in1.length c3), pl 7 (.slice A4 border1.length c4), pl 8 (.slice A2 (Int.toNat (g3.length : Int)) c2), pl 9 (.int .i64 i1), pl 32 (.slice A7 r1.length c7), pl 33 (.int .i64 (r1.length : Int)), pl 34 (.int .i64 0)] hF hS (by kernel_rfl) (by kernel_rfl) ?_ (fun a w hF hS => ?_)
        · exact obs_nil
        refine at_end [2, 3, 6, 7, 8, 9, 32, 33, 34] [pl 2 (.func (.func 48) #[] #[.pointer (some ⟨g4, 0, none⟩)]), pl 3 (.pointer (some ⟨g5, 0, none⟩)), pl 6 (.slice A3 in1.length c3), pl 7 (.slice A4 border1.length c4), pl 8 (.slice A2 (Int.toNat (g3.length : Int)) c2), pl 9 (.int .i64 i1), pl 32 (.slice A7 r1.length c7), pl 33 (.int .i64 (r1.length : Int)), pl 34 (.int .i64 0)] hF rfl (by kernel_rfl) (fun hF => ?_)
        refine np_n ?_
        refine then_n ?_
        refine wpIn_block ?_
        have hS := hS.pickN 6 [1, 2, 3, 4, 5, 0] (by decide)
        refine wp_loop_model (S := (List Int × List Int × List Bool × Int)) (R := (List Int × List Int × List Bool)) (stones_spread_3_L2 g3 v1 r1) (fun x => ((stones_spread_3_K2 i1) x).bind φ1) r (fun (x : (List Int × List Int × List Bool × Int)) a w => ∃ (A8 : Option Addr) (c8 : Nat) (A9 : Option Addr) (c9 : Nat), Fr 67 [pl 2 (.func (.func 48) #[] #[.pointer (some ⟨g4, 0, none⟩)]), pl 3 (.pointer (some ⟨g5, 0, none⟩)), pl 6 (.slice A8 x.1.length c8), pl 7 (.slice A9 x.2.1.length c9), pl 8 (.slice A2 (Int.toNat (g3.length : Int)) c2), pl 9 (.int .i64 i1), pl 32 (.slice A7 r1.length c7), pl 33 (.int .i64 (r1.length : Int)), pl 34 (.int .i64 x.2.2.2)] a ∧ Sep w0 B w (blk g4 3 #[.int .i64 v1] :: blk g5 24 #[.int .i64 g1, .int .i64 g2, .slice A1 g3.length c1] :: own 3 (.slice A8 x.1.length c8) (vI x.1) :: own 3 (.slice A9 x.2.1.length c9) (vI x.2.1) :: own 4 (.slice A2 (Int.toNat (g3.length : Int)) c2) (vB x.2.2.1) :: own 3 (.slice A7 r1.length c7) (vI r1) :: fs)) (assoc_b hm) ⟨A3, c3, A4, c4, hF.weak [2, 3, 6, 7, 8, 9, 32, 33, 34] (by kernel_rfl), hS⟩ ?_
        clear hF hS hm
        rintro nn2 ⟨in3, border3, seen2, z1⟩ a w ⟨A8, c8, A9, c9, hF, hS⟩ hm
        generalize hφ2 : stK (stones_spread_3_L2 g3 v1 r1) nn2 (fun x => ((stones_spread_3_K2 i1) x).bind φ1) = φ2 at hm
        unfold stones_spread_3_L2 at hm
        dsimp only at hF hS hm
        refine reg [] [] [2, 3, 6, 7, 8, 9, 32, 33, 34, 35] [pl 2 (.func (.func 48) #[] #[.pointer (some ⟨g4, 0, none⟩)]), pl 3 (.pointer (some ⟨g5, 0, none⟩)), pl 6 (.slice A8 in3.length c8), pl 7 (.slice A9 border3.length c9), pl 8 (.slice A2 (Int.toNat (g3.length : Int)) c2), pl 9 (.int .i64 i1), pl 32 (.slice A7 r1.length c7), pl 33 (.int .i64 (r1.length : Int)), pl 34 (.int .i64 z1), pl 35 (.bool (decide (z1 < (r1.length : Int))))] hF hS Fol (by kernel_rfl) (by kernel_rfl) (by kernel_rfl) ?_ (fun a w hF hS => ?_)
        · exact obs_nil
        refine seq_cut (fun a w => Fr 67 [pl 2 (.func (.func 48) #[] #[.pointer (some ⟨g4, 0, none⟩)]), pl 3 (.pointer (some ⟨g5, 0, none⟩)), pl 6 (.slice A8 in3.length c8), pl 7 (.slice A9 border3.length c9), pl 8 (.slice A2 (Int.toNat (g3.length : Int)) c2), pl 9 (.int .i64 i1), pl 32 (.slice A7 r1.length c7), pl 33 (.int .i64 (r1.length : Int)), pl 34 (.int .i64 z1)] a ∧ Sep w0 B w (blk g4 3 #[.int .i64 v1] :: blk g5 24 #[.int .i64 g1, .int .i64 g2, .slice A1 g3.length c1] :: own 3 (.slice A8 in3.length c8) (vI in3) :: own 3 (.slice A9 border3.length c9) (vI border3) :: own 4 (.slice A2 (Int.toNat (g3.length : Int)) c2) (vB seen2) :: own 3 (.slice A7 r1.length c7) (vI r1) :: fs) ∧ ((stones_spread_3_J4 g3 v1 r1 in3 border3 seen2 z1)).bind φ2 = some r) ?_ ?_
        · rintro a w ⟨hF, hS, hm⟩
          unfold stones_spread_3_J4 at hm
          refine seq_cut (fun a w => ∃ (in5 : List Int) (border5 : List Int) (seen4 : List Bool) (A12 : Option Addr) (c12 : Nat) (A13 : Option Addr) (c13 : Nat), Fr 67 [pl 2 (.func (.func 48) #[] #[.pointer (some ⟨g4, 0, none⟩)]), pl 3 (.pointer (some ⟨g5, 0, none⟩)), pl 6 (.slice A12 in5.length c12), pl 7 (.slice A13 border5.length c13), pl 8 (.slice A2 (Int.toNat (g3.length : Int)) c2), pl 9 (.int .i64 i1), pl 32 (.slice A7 r1.length c7), pl 33 (.int .i64 (r1.length : Int)), pl 34 (.int .i64 z1)] a ∧ Sep w0 B w (blk g4 3 #[.int .i64 v1] :: blk g5 24 #[.int .i64 g1, .int .i64 g2, .slice A1 g3.length c1] :: own 3 (.slice A12 in5.length c12) (vI in5) :: own 3 (.slice A13 border5.length c13) (vI border5) :: own 4 (.slice A2 (Int.toNat (g3.length : Int)) c2) (vB seen4) :: own 3 (.slice A7 r1.length c7) (vI r1) :: fs) ∧ ((stones_spread_3_J5 z1) in5 border5 seen4).bind φ2 = some r) ?_ ?_
          · rintro a w ⟨in5, border5, seen4, A12, c12, A13, c13, hF, hS, hm⟩
            unfold stones_spread_3_J5 at hm
            refine reg1 [] [] [2, 3, 6, 7, 8, 9, 32, 33, 34] [pl 2 (.func (.func 48) #[] #[.pointer (some ⟨g4, 0, none⟩)]), pl 3 (.pointer (some ⟨g5, 0, none⟩)), pl 6 (.slice A12 in5.length c12), pl 7 (.slice A13 border5.length c13), pl 8 (.slice A2 (Int.toNat (g3.length : Int)) c2), pl 9 (.int .i64 i1), pl 32 (.slice A7 r1.length c7), pl 33 (.int .i64 (r1.length : Int)), pl 34 (.int .i64 (w64 (z1 + 1)))] hF hS Fol (by kernel_rfl) (by kernel_rfl) (by kernel_rfl) ?_ (fun a w hF hS => ?_)
            · exact obs_nil
            refine then_n ?_
            rw [← hφ2] at hm
            exact ⟨(in5, border5, seen4, (w64 (z1 + 1))), ⟨A12, c12, A13, c13, hF.weak [2, 3, 6, 7, 8, 9, 32, 33, 34] (by kernel_rfl), hS⟩, hm⟩
          · refine wpIn_block ?_
            obtain ⟨hp4, hm⟩ := asrt_b hm
            refine reg [⟨true, [], vS (Instr.indexAt 22 (.slice A7 r1.length c7) (.int .i64 z1)), .pointer (some (sAddr A7 z1))⟩, ⟨false, [], vS (Instr.loadAt 3 (.pointer (some (sAddr A7 z1)))), .int .i64 (geti r1 z1)⟩] [some (.pointer (some (sAddr A7 z1))), some (.int .i64 (geti r1 z1)), none] [2, 3, 6, 7, 8, 9, 11, 32, 33, 34] [pl 2 (.func (.func 48) #[] #[.pointer (some ⟨g4, 0, none⟩)]), pl 3 (.pointer (some ⟨g5, 0, none⟩)), pl 6 (.slice A8 in3.length c8), pl 7 (.slice A9 border3.length c9), pl 8 (.slice A2 (Int.toNat (g3.length : Int)) c2), pl 9 (.int .i64 i1), pl 11 (.int .i64 (geti r1 z1)), pl 32 (.slice A7 r1.length c7), pl 33 (.int .i64 (r1.length : Int)), pl 34 (.int .i64 z1)] hF hS Fol (by kernel_rfl) (by kernel_rfl) (by kernel_rfl) ?_ (fun a w hF hS => ?_)
            · exact obs_cons (ob_ix1 (f := (Value.int .i64)) (m := r1) Und22 hi3 hs3 (hS.at_ 5 rfl).rd rfl (fun _ => hp4)) <| obs_cons (ob_get1 (n := r1.length) (m := r1) (Value.int .i64) (0 : Int) Agg3 (fun _ hS => ⟨_, (hS.at_ 5 rfl).rd⟩) (fun _ hS => rfl) (fun _ => hp4)) <| obs_nil
            refine seq_cut (fun a w => Fr 67 [pl 2 (.func (.func 48) #[] #[.pointer (some ⟨g4, 0, none⟩)]), pl 3 (.pointer (some ⟨g5, 0, none⟩)), pl 6 (.slice A8 in3.length c8), pl 7 (.slice A9 border3.length c9), pl 8 (.slice A2 (Int.toNat (g3.length : Int)) c2), pl 9 (.int .i64 i1), pl 11 (.int .i64 (geti r1 z1)), pl 32 (.slice A7 r1.length c7), pl 33 (.int .i64 (r1.length : Int)), pl 34 (.int .i64 z1)] a ∧ Sep w0 B w (blk g4 3 #[.int .i64 v1] :: blk g5 24 #[.int .i64 g1, .int .i64 g2, .slice A1 g3.length c1] :: own 3 (.slice A8 in3.length c8) (vI in3) :: own 3 (.slice A9 border3.length c9) (vI border3) :: own 4 (.slice A2 (Int.toNat (g3.length : Int)) c2) (vB seen2) :: own 3 (.slice A7 r1.length c7) (vI r1) :: fs) ∧ ((stones_spread_3_J6 g3 v1 r1 in3 border3 seen2 z1)).bind φ2 = some r) ?_ ?_
            · rintro a w ⟨hF, hS, hm⟩
              unfold stones_spread_3_J6 at hm
              refine seqR ?_
              obtain ⟨hp6, hm⟩ := asrt_b hm
              refine at_run 3 [⟨true, [], vS (Instr.indexAt 86 (.slice A2 (Int.toNat (g3.length : Int)) c2) (.int .i64 (geti r1 z1))), .pointer (some (sAddr A2 (geti r1 z1)))⟩] [none, none, some (.pointer (some (sAddr A2 (geti r1 z1))))] [2, 3, 6, 7, 8, 9, 11, 32, 33, 34, 44] [pl 2 (.func (.func 48) #[] #[.pointer (some ⟨g4, 0, none⟩)]), pl 3 (.pointer (some ⟨g5, 0, none⟩)), pl 6 (.slice A8 in3.length c8), pl 7 (.slice A9 border3.length c9), pl 8 (.slice A2 (Int.toNat (g3.length : Int)) c2), pl 9 (.int .i64 i1), pl 11 (.int .i64 (geti r1 z1)), pl 32 (.slice A7 r1.length c7), pl 33 (.int .i64 (r1.length : Int)), pl 34 (.int .i64 z1), pl 44 (.pointer (some (sAddr A2 (geti r1 z1))))] hF hS (by kernel_rfl) (by kernel_rfl) ?_ (fun a w hF hS => ?_)
              · exact obs_cons (ob_ix1 (f := Value.bool) (m := seen2) Und86 hi4 hs4 (hS.at_ 4 rfl).rd ((hS.at_ 4 rfl).len1) (fun _ => hp6)) <| obs_nil
              obtain ⟨w, hrun, hS⟩ := run_set1 (P := Try.prog) (t := 4) (x := true) Value.bool (hS.at_ 4 rfl) hi4 hs4 rfl rfl hp6
              refine at_skip hF (by kernel_rfl) hrun ?_
              have hS : Sep w0 B w (blk g4 3 #[.int .i64 v1] :: blk g5 24 #[.int .i64 g1, .int .i64 g2, .slice A1 g3.length c1] :: own 3 (.slice A8 in3.length c8) (vI in3) :: own 3 (.slice A9 border3.length c9) (vI border3) :: own 4 (.slice A2 (Int.toNat (g3.length : Int)) c2) (vB (seen2.set (Int.toNat (geti r1 z1)) true)) :: own 3 (.slice A7 r1.length c7) (vI r1) :: fs) := hS
              refine at_end [2, 3, 6, 7, 8, 9, 11, 32, 33, 34] [pl 2 (.func (.func 48) #[] #[.pointer (some ⟨g4, 0, none⟩)]), pl 3 (.pointer (some ⟨g5, 0, none⟩)), pl 6 (.slice A8 in3.length c8), pl 7 (.slice A9 border3.length c9), pl 8 (.slice A2 (Int.toNat (g3.length : Int)) c2), pl 9 (.int .i64 i1), pl 11 (.int .i64 (geti r1 z1)), pl 32 (.slice A7 r1.length c7), pl 33 (.int .i64 (r1.length : Int)), pl 34 (.int .i64 z1)] hF rfl (by kernel_rfl) (fun hF => ?_)
              refine then_n ?_
              obtain ⟨hp7, hm⟩ := asrt_b hm
              obtain ⟨r2, hr2, hm⟩ := call_b hm
              refine reg [⟨false, [], vS (Instr.loadAt 22 (.pointer (some ⟨g5, 2, none⟩))), .slice A1 g3.length c1⟩, ⟨true, [], vS (Instr.indexAt 22 (.slice A1 g3.length c1) (.int .i64 (geti r1 z1))), .pointer (some (sAddr A1 (geti r1 z1)))⟩, ⟨false, [], vS (Instr.loadAt 3 (.pointer (some (sAddr A1 (geti r1 z1))))), .int .i64 (geti g3 (geti r1 z1))⟩, ⟨false, [], callFunc 48 #[.int .i64 (geti g3 (geti r1 z1)), .pointer (some ⟨g4, 0, none⟩)], .bool r2⟩] [none, none, some (.slice A1 g3.length c1), none, some (.pointer (some (sAddr A1 (geti r1 z1)))), some (.int .i64 (geti g3 (geti r1 z1))), some (.bool r2)] [2, 3, 6, 7, 8, 9, 11, 32, 33, 34, 51] [pl 2 (.func (.func 48) #[] #[.pointer (some ⟨g4, 0, none⟩)]), pl 3 (.pointer (some ⟨g5, 0, none⟩)), pl 6 (.slice A8 in3.length c8), pl 7 (.slice A9 border3.length c9), pl 8 (.slice A2 (Int.toNat (g3.length : Int)) c2), pl 9 (.int .i64 i1), pl 11 (.int .i64 (geti r1 z1)), pl 32 (.slice A7 r1.length c7), pl 33 (.int .i64 (r1.length : Int)), pl 34 (.int .i64 z1), pl 51 (.bool r2)] hF hS Fol (by kernel_rfl) (by kernel_rfl) (by kernel_rfl) ?_ (fun a w hF hS => ?_)
              · exact obs_cons (ob_load Agg22 (fun _ _ hS => (hS.at_ 1 rfl).cell rfl)) <| obs_cons (ob_ix1 (f := (Value.int .i64)) (m := g3) Und22 hi3 hs3 (hr_g3 _ (hS.dropN 6)) rfl (fun _ => hp7)) <| obs_cons (ob_get1 (n := g3.length) (m := g3) (Value.int .i64) (0 : Int) Agg3 (fun _ hS => ⟨_, (hr_g3 _ (hS.dropN 6))⟩) (fun _ hS => rfl) (fun _ => hp7)) <| obs_cons (ob_call Try.func48 (by kernel_rfl) rfl (fun _ _ hS => stones_Alive_2_w hr2 hS )) <| obs_nil
              refine cond_ev (t := 51) (b := r2) hF (by kernel_rfl) (fun hb => ?_) (fun hb => ?_)
              · replace hm := if_t hm hb
                refine oneR ?_
                obtain ⟨hp8, hm⟩ := asrt_b hm
                refine at_run 2 [] [] [2, 3, 7, 8, 9, 32, 33, 34, 52, 53] [pl 2 (.func (.func 48) #[] #[.pointer (some ⟨g4, 0, none⟩)]), pl 3 (.pointer (some ⟨g5, 0, none⟩)), pl 7 (.slice A9 border3.length c9), pl 8 (.slice A2 (Int.toNat (g3.length : Int)) c2), pl 9 (.int .i64 i1), pl 32 (.slice A7 r1.length c7), pl 33 (.int .i64 (r1.length : Int)), pl 34 (.int .i64 z1), pl 52 (.slice A8 in3.length c8), pl 53 (.int .i64 (geti r1 z1))] hF hS (by kernel_rfl) (by kernel_rfl) ?_ (fun a w hF hS => ?_)
                · exact obs_nil
                refine at_do (d := 54) (s := vS (Instr.buildSlice 22 1 #[(0, .int .i64 (geti r1 z1))])) (v := .slice (some ⟨w.heap.size, 0, none⟩) 1 1) (w' := w.alloc (.cells #[.int .i64 (geti r1 z1)] 3)) hF (by kernel_rfl) (by kernel_rfl) (by kernel_rfl) (fun a hF => ?_)
                have hS : Sep w0 B (w.alloc (.cells #[.int .i64 (geti r1 z1)] 3)) (own 3 (.slice (some (⟨w.heap.size, 0, none⟩ : Addr)) 1 1) (vI ([geti r1 z1] : List Int)) :: (blk g4 3 #[.int .i64 v1] :: blk g5 24 #[.int .i64 g1, .int .i64 g2, .slice A1 g3.length c1] :: own 3 (.slice A8 in3.length c8) (vI in3) :: own 3 (.slice A9 border3.length c9) (vI border3) :: own 4 (.slice A2 (Int.toNat (g3.length : Int)) c2) (vB (seen2.set (Int.toNat (geti r1 z1)) true)) :: own 3 (.slice A7 r1.length c7) (vI r1) :: fs)) := hS.lit 3 #[.int .i64 (geti r1 z1)] 1 rfl (by omega)
                generalize (some (⟨w.heap.size, 0, none⟩ : Addr)) = g7 at hF hS
                generalize w.alloc (.cells #[.int .i64 (geti r1 z1)] 3) = w at hS ⊢
                obtain ⟨A14, c14, w, hrun, hS⟩ := run_app1 (P := Try.prog) (t := 22) (m := in3) (ys := ([geti r1 z1] : List Int)) (A2 := g7) (m2 := 1) (c2 := 1) (Value.int .i64) (0 : Int) (hS.at_ 3 rfl) (hS.at_ 0 rfl).rd ((hS.at_ 0 rfl).len1) 22 Und22 hi3 hz3 hs3 (by omega) rfl (fun _ => rfl) hp8
                have hS : Sep w0 B w (own 3 (.slice g7 1 1) (vI ([geti r1 z1] : List Int)) :: blk g4 3 #[.int .i64 v1] :: blk g5 24 #[.int .i64 g1, .int .i64 g2, .slice A1 g3.length c1] :: own 3 (.slice A14 ((in3 ++ ([geti r1 z1] : List Int)).length) c14) (vI (in3 ++ ([geti r1 z1] : List Int))) :: own 3 (.slice A9 border3.length c9) (vI border3) :: own 4 (.slice A2 (Int.toNat (g3.length : Int)) c2) (vB (seen2.set (Int.toNat (geti r1 z1)) true)) :: own 3 (.slice A7 r1.length c7) (vI r1) :: fs) := hS
                refine at_do (d := 55) hF (by kernel_rfl) (by kernel_rfl) hrun (fun a hF => ?_)
                refine at_run 1 [] [] [2, 3, 6, 7, 8, 9, 32, 33, 34] [pl 2 (.func (.func 48) #[] #[.pointer (some ⟨g4, 0, none⟩)]), pl 3 (.pointer (some ⟨g5, 0, none⟩)), pl 6 (.slice A14 ((in3 ++ ([geti r1 z1] : List Int)).length) c14), pl 7 (.slice A9 border3.length c9), pl 8 (.slice A2 (Int.toNat (g3.length : Int)) c2), pl 9 (.int .i64 i1), pl 32 (.slice A7 r1.length c7), pl 33 (.int .i64 (r1.length : Int)), pl 34 (.int .i64 z1)] hF hS (by kernel_rfl) (by kernel_rfl) ?_ (fun a w hF hS => ?_)
                · exact obs_nil
                refine at_end [2, 3, 6, 7, 8, 9, 32, 33, 34] [pl 2 (.func (.func 48) #[] #[.pointer (some ⟨g4, 0, none⟩)]), pl 3 (.pointer (some ⟨g5, 0, none⟩)), pl 6 (.slice A14 ((in3 ++ ([geti r1 z1] : List Int)).length) c14), pl 7 (.slice A9 border3.length c9), pl 8 (.slice A2 (Int.toNat (g3.length : Int)) c2), pl 9 (.int .i64 i1), pl 32 (.slice A7 r1.length c7), pl 33 (.int .i64 (r1.length : Int)), pl 34 (.int .i64 z1)] hF rfl (by kernel_rfl) (fun hF => ?_)
                refine block_n ?_
                refine then_n ?_
                have hS := hS.pickN 7 [1, 2, 3, 4, 5, 6] (by decide)
                exact ⟨(in3 ++ ([geti r1 z1] : List Int)), border3, (seen2.set (Int.toNat (geti r1 z1)) true), A14, c14, A9, c9, hF.weak [2, 3, 6, 7, 8, 9, 32, 33, 34] (by kernel_rfl), hS, hm⟩
              · replace hm := if_f hm hb
                refine oneR ?_
                obtain ⟨hp9, hm⟩ := asrt_b hm
                refine at_run 2 [] [] [2, 3, 6, 8, 9, 32, 33, 34, 56, 57] [pl 2 (.func (.func 48) #[] #[.pointer (some ⟨g4, 0, none⟩)]), pl 3 (.pointer (some ⟨g5, 0, none⟩)), pl 6 (.slice A8 in3.length c8), pl 8 (.slice A2 (Int.toNat (g3.length : Int)) c2), pl 9 (.int .i64 i1), pl 32 (.slice A7 r1.length c7), pl 33 (.int .i64 (r1.length : Int)), pl 34 (.int .i64 z1), pl 56 (.slice A9 border3.length c9), pl 57 (.int .i64 (geti r1 z1))] hF hS (by kernel_rfl) (by kernel_rfl) ?_ (fun a w hF hS => ?_)
                · exact obs_nil
                refine at_do (d := 58) (s := vS (Instr.buildSlice 22 1 #[(0, .int .i64 (geti r1 z1))])) (v := .slice (some ⟨w.heap.size, 0, none⟩) 1 1) (w' := w.alloc (.cells #[.int .i64 (geti r1 z1)] 3)) hF (by kernel_rfl) (by kernel_rfl) (by kernel_rfl) (fun a hF => ?_)
                have hS : Sep w0 B (w.alloc (.cells #[.int .i64 (geti r1 z1)] 3)) (own 3 (.slice (some (⟨w.heap.size, 0, none⟩ : Addr)) 1 1) (vI ([geti r1 z1] : List Int)) :: (blk g4 3 #[.int .i64 v1] :: blk g5 24 #[.int .i64 g1, .int .i64 g2, .slice A1 g3.length c1] :: own 3 (.slice A8 in3.length c8) (vI in3) :: own 3 (.slice A9 border3.length c9) (vI border3) :: own 4 (.slice A2 (Int.toNat (g3.length : Int)) c2) (vB (seen2.set (Int.toNat (geti r1 z1)) true)) :: own 3 (.slice A7 r1.length c7) (vI r1) :: fs)) := hS.lit 3 #[.int .i64 (geti r1 z1)] 1 rfl (by omega)
                generalize (some (⟨w.heap.size, 0, none⟩ : Addr)) = g8 at hF hS
                generalize w.alloc (.cells #[.int .i64 (geti r1 z1)] 3) = w at hS ⊢
                obtain ⟨A15, c15, w, hrun, hS⟩ := run_app1 (P := Try.prog) (t := 22) (m := border3) (ys := ([geti r1 z1] : List Int)) (A2 := g8) (m2 := 1) (c2 := 1) (Value.int .i64) (0 : Int) (hS.at_ 4 rfl) (hS.at_ 0 rfl).rd ((hS.at_ 0 rfl).len1) 22 Und22 hi3 hz3 hs3 (by omega) rfl (fun _ => rfl) hp9
                have hS : Sep w0 B w (own 3 (.slice g8 1 1) (vI ([geti r1 z1] : List Int)) :: blk g4 3 #[.int .i64 v1] :: blk g5 24 #[.int .i64 g1, .int .i64 g2, .slice A1 g3.length c1] :: own 3 (.slice A8 in3.length c8) (vI in3) :: own 3 (.slice A15 ((border3 ++ ([geti r1 z1] : List Int)).length) c15) (vI (border3 ++ ([geti r1 z1] : List Int))) :: own 4 (.slice A2 (Int.toNat (g3.length : Int)) c2) (vB (seen2.set (Int.toNat (geti r1 z1)) true)) :: own 3 (.slice A7 r1.length c7) (vI r1) :: fs) := hS
                refine at_do (d := 59) hF (by kernel_rfl) (by kernel_rfl) hrun (fun a hF => ?_)
                refine at_run 1 [] [] [2, 3, 6, 7, 8, 9, 32, 33, 34] [pl 2 (.func (.func 48) #[] #[.pointer (some ⟨g4, 0, none⟩)]), pl 3 (.pointer (some ⟨g5, 0, none⟩)), pl 6 (.slice A8 in3.length c8), pl 7 (.slice A15 ((border3 ++ ([geti r1 z1] : List Int)).length) c15), pl 8 (.slice A2 (Int.toNat (g3.length : Int)) c2), pl 9 (.int .i64 i1), pl 32 (.slice A7 r1.length c7), pl 33 (.int .i64 (r1.length : Int)), pl 34 (.int .i64 z1)] hF hS (by kernel_rfl) (by kernel_rfl) ?_ (fun a w hF hS => ?_)
                · exact obs_nil
                refine at_end [2, 3, 6, 7, 8, 9, 32, 33, 34] [pl 2 (.func (.func 48) #[] #[.pointer (some ⟨g4, 0, none⟩)]), pl 3 (.pointer (some ⟨g5, 0, none⟩)), pl 6 (.slice A8 in3.length c8), pl 7 (.slice A15 ((border3 ++ ([geti r1 z1] : List Int)).length) c15), pl 8 (.slice A2 (Int.toNat (g3.length : Int)) c2), pl 9 (.int .i64 i1), pl 32 (.slice A7 r1.length c7), pl 33 (.int .i64 (r1.length : Int)), pl 34 (.int .i64 z1)] hF rfl (by kernel_rfl) (fun hF => ?_)
                refine block_n ?_
                refine then_n ?_
                have hS := hS.pickN 7 [1, 2, 3, 4, 5, 6] (by decide)
                exact ⟨in3, (border3 ++ ([geti r1 z1] : List Int)), (seen2.set (Int.toNat (geti r1 z1)) true), A8, c8, A15, c15, hF.weak [2, 3, 6, 7, 8, 9, 32, 33, 34] (by kernel_rfl), hS, hm⟩
            · obtain ⟨hp5, hm⟩ := asrt_b hm
              refine reg [⟨true, [], vS (Instr.indexAt 86 (.slice A2 (Int.toNat (g3.length : Int)) c2) (.int .i64 (geti r1 z1))), .pointer (some (sAddr A2 (geti r1 z1)))⟩, ⟨false, [], vS (Instr.loadAt 4 (.pointer (some (sAddr A2 (geti r1 z1))))), .bool (getb seen2 (geti r1 z1))⟩] [none, none, some (.pointer (some (sAddr A2 (geti r1 z1)))), some (.bool (getb seen2 (geti r1 z1)))] [2, 3, 6, 7, 8, 9, 11, 32, 33, 34, 41] [pl 2 (.func (.func 48) #[] #[.pointer (some ⟨g4, 0, none⟩)]), pl 3 (.pointer (some ⟨g5, 0, none⟩)), pl 6 (.slice A8 in3.length c8), pl 7 (.slice A9 border3.length c9), pl 8 (.slice A2 (Int.toNat (g3.length : Int)) c2), pl 9 (.int .i64 i1), pl 11 (.int .i64 (geti r1 z1)), pl 32 (.slice A7 r1.length c7), pl 33 (.int .i64 (r1.length : Int)), pl 34 (.int .i64 z1), pl 41 (.bool (getb seen2 (geti r1 z1)))] hF hS Fol (by kernel_rfl) (by kernel_rfl) (by kernel_rfl) ?_ (fun a w hF hS => ?_)
              · exact obs_cons (ob_ix1 (f := Value.bool) (m := seen2) Und86 hi4 hs4 (hS.at_ 4 rfl).rd ((hS.at_ 4 rfl).len1) (fun _ => hp5)) <| obs_cons (ob_get1 (n := (Int.toNat (g3.length : Int))) (m := seen2) Value.bool false Agg4 (fun _ hS => ⟨_, (hS.at_ 4 rfl).rd⟩) (fun _ hS => ((hS.at_ 4 rfl).len1)) (fun _ => hp5)) <| obs_nil
              refine cond_ev (t := 41) (b := getb seen2 (geti r1 z1)) hF (by kernel_rfl) (fun hb => ?_) (fun hb => ?_)
              · replace hm := if_t hm hb
                refine wpIn_exit ?_
                refine then_e (block_e (then_n ?_))
                exact ⟨in3, border3, seen2, A8, c8, A9, c9, hF.weak [2, 3, 6, 7, 8, 9, 32, 33, 34] (by kernel_rfl), hS, hm⟩
              · replace hm := if_f hm hb
                refine wpIn_skip ?_
                refine then_n ?_
                exact ⟨hF.weak [2, 3, 6, 7, 8, 9, 11, 32, 33, 34] (by kernel_rfl), hS, hm⟩
        · refine cond_ev (t := 35) (b := decide (z1 < (r1.length : Int))) hF (by kernel_rfl) (fun hb => ?_) (fun hb => ?_)
          · replace hm := if_t hm hb
            refine wpIn_skip ?_
            refine then_n ?_
            exact ⟨hF.weak [2, 3, 6, 7, 8, 9, 32, 33, 34] (by kernel_rfl), hS, hm⟩
          · replace hm := if_f hm hb
            refine wpIn_exit ?_
            refine then_e (then_e (block_e (block_n (then_n ?_))))
            have hS := hS.pickN 6 [0, 1, 2, 3, 4] (by decide)
            rw [← hφ2] at hm
            replace hm := done_b hm
            unfold stones_spread_3_K2 at hm
            try dsimp only at hm
            have hm : ((stones_spread_3_J3 i1) in3 border3 seen2).bind φ1 = some r := hm
            exact ⟨in3, border3, seen2, A8, c8, A9, c9, hF.weak [2, 3, 6, 7, 8, 9] (by kernel_rfl), hS, hm⟩
    · refine reg [] [] [2, 3, 6, 7, 8, 9, 24] [pl 2 (.func (.func 48) #[] #[.pointer (some ⟨g4, 0, none⟩)]), pl 3 (.pointer (some ⟨g5, 0, none⟩)), pl 6 (.slice A3 in1.length c3), pl 7 (.slice A4 border1.length c4), pl 8 (.slice A2 (Int.toNat (g3.length : Int)) c2), pl 9 (.int .i64 i1), pl 24 (.bool (decide (i1 < (in1.length : Int))))] hF hS Fol (by kernel_rfl) (by kernel_rfl) (by kernel_rfl) ?_ (fun a w hF hS => ?_)
      · exact obs_nil
      refine cond_ev (t := 24) (b := decide (i1 < (in1.length : Int))) hF (by kernel_rfl) (fun hb => ?_) (fun hb => ?_)
      · replace hm := if_t hm hb
        refine wpIn_skip ?_
        refine then_n ?_
        exact ⟨hF.weak [2, 3, 6, 7, 8, 9] (by kernel_rfl), hS, hm⟩
      · replace hm := if_f hm hb
        refine wpIn_exit ?_
        refine then_e (then_e (block_e (then_n ?_)))
        have hS := hS.pickN 5 [2, 3, 0] (by decide)
        rw [← hφ1] at hm
        replace hm := done_b hm
        unfold stones_spread_3_K1 at hm
        try dsimp only at hm
        have hm : (stones_spread_3_J1 in1 border1).bind some = some r := hm
        exact ⟨in1, border1, A3, c3, A4, c4, hF.weak [6, 7] (by kernel_rfl), hS, hm⟩

noncomputable def stones_parts_2_J7  (r2 : (List Int × List Int)) (done3 : List Bool) (z2 : Int) : Option (St (List Bool × Int) (List Bool)) :=
  some (.next ((done3.set (Int.toNat (geti r2.1 z2)) true), (w64 (z2 + 1))))

noncomputable def stones_parts_2_J6  (g3 : List Int) (r2 : (List Int × List Int)) (done3 : List Bool) (z2 : Int) : Option (St (List Bool × Int) (List Bool)) :=
  asrt (0 ≤ z2 ∧ z2 < (r2.1.length : Int)) <| asrt (0 ≤ (geti r2.1 z2) ∧ (geti r2.1 z2) < (((Int.toNat (g3.length : Int)) : Nat) : Int)) <| (stones_parts_2_J7 r2 done3 z2)

noncomputable def stones_parts_2_J3  (z1 : Int) (l3 : List (List Int × List Int × Bool)) (done2 : List Bool) : Option (St (List (List Int × List Int × Bool) × List Bool × Int) (List (List Int × List Int × Bool))) :=
  some (.next (l3, done2, (w64 (z1 + 1))))

noncomputable def stones_parts_2_J5  (l1 : List (List Int × List Int × Bool)) (z1 : Int) (r2 : (List Int × List Int)) (done4 : List Bool) : Option (St (List (List Int × List Int × Bool) × List Bool × Int) (List (List Int × List Int × Bool))) :=
  asrt (((l1.length : Int) : Int) + 1 ≤ bigK) <| (stones_parts_2_J3 z1) (l1 ++ [(r2.1, r2.2, false)]) done4

noncomputable def stones_parts_2_K2  (l1 : List (List Int × List Int × Bool)) (z1 : Int) (r2 : (List Int × List Int)) : (List Bool) → Option (St (List (List Int × List Int × Bool) × List Bool × Int) (List (List Int × List Int × Bool))) :=
  fun (x : (List Bool)) => match x with | done4 => (stones_parts_2_J5 l1 z1 r2) done4

noncomputable def stones_parts_2_L2  (g3 : List Int) (r2 : (List Int × List Int)) : (List Bool × Int) → Option (St (List Bool × Int) (List Bool)) :=
  fun (x : (List Bool × Int)) => match x with | (done3, z2) => if (decide (z2 < (r2.1.length : Int))) then ((stones_parts_2_J6 g3 r2 done3 z2)) else (some (.done done3))

noncomputable def stones_parts_2_J4  (g1 : Int) (g2 : Int) (g3 : List Int) (v1 : Int) (l1 : List (List Int × List Int × Bool)) (done1 : List Bool) (z1 : Int) : Option (St (List (List Int × List Int × Bool) × List Bool × Int) (List (List Int × List Int × Bool))) :=
  (stones_spread_3_m g1 g2 g3 z1 v1).bind fun r2 => (loop (stones_parts_2_L2 g3 r2) (done1, 0)).bind (stones_parts_2_K2 l1 z1 r2)

noncomputable def stones_parts_2_J2  (g1 : Int) (g2 : Int) (g3 : List Int) (v1 : Int) (l1 : List (List Int × List Int × Bool)) (done1 : List Bool) (z1 : Int) : Option (St (List (List Int × List Int × Bool) × List Bool × Int) (List (List Int × List Int × Bool))) :=
  asrt (0 ≤ z1 ∧ z1 < (g3.length : Int)) <| (stones_Alive_2_m (geti g3 z1) v1).bind fun r1 => asrt ((!r1) = false → 0 ≤ z1 ∧ z1 < (((Int.toNat (g3.length : Int)) : Nat) : Int)) <| if ((!r1) || (getb done1 z1)) then ((stones_parts_2_J3 z1) l1 done1) else ((stones_parts_2_J4 g1 g2 g3 v1 l1 done1 z1))

noncomputable def stones_parts_2_J1  (l2 : List (List Int × List Int × Bool)) : Option (List (List Int × List Int × Bool)) :=
  some l2

noncomputable def stones_parts_2_K1  : (List (List Int × List Int × Bool)) → Option (List (List Int × List Int × Bool)) :=
  fun (x : (List (List Int × List Int × Bool))) => match x with | l2 => stones_parts_2_J1 l2

noncomputable def stones_parts_2_L1  (g1 : Int) (g2 : Int) (g3 : List Int) (v1 : Int) : (List (List Int × List Int × Bool) × List Bool × Int) → Option (St (List (List Int × List Int × Bool) × List Bool × Int) (List (List Int × List Int × Bool))) :=
  fun (x : (List (List Int × List Int × Bool) × List Bool × Int)) => match x with | (l1, done1, z1) => if (decide (z1 < (g3.length : Int))) then ((stones_parts_2_J2 g1 g2 g3 v1 l1 done1 z1)) else (some (.done l1))

noncomputable def stones_parts_2_m  (g1 : Int) (g2 : Int) (g3 : List Int) (v1 : Int) : Option (List (List Int × List Int × Bool)) :=
  asrt ((0 : Int) ≤ (g3.length : Int) ∧ (g3.length : Int) ≤ bigN) <| (loop (stones_parts_2_L1 g1 g2 g3 v1) (([] : List (List Int × List Int × Bool)), (List.replicate (Int.toNat (g3.length : Int)) false), 0)).bind stones_parts_2_K1

set_option maxRecDepth 100000 in
set_option maxHeartbeats 4000000 in
theorem stones_parts_2_w  {g1 : Int} {g2 : Int} {A1 : Option Addr} {c1 : Nat} {n1 : Nat} {g3 : List Int} {g4 : Nat} {v1 : Int} {r : (List (List Int × List Int × Bool))} {w0 w : World} {B : Nat} {fs : List HP} (hm : stones_parts_2_m g1 g2 g3 v1 = some r) (hS : Sep w0 B w (blk g4 3 #[.int .i64 v1] :: fs)) (hr_g3 : RdF w0 B fs A1 (vI g3)) (_hc_g3 : g3.length ≤ c1) (_hn_g3 : n1 = g3.length) :
    Calls Try.prog 46 #[.agg #[.int .i64 g1, .int .i64 g2, .slice A1 n1 c1], .func (.func 48) #[] #[.pointer (some ⟨g4, 0, none⟩)]] w fun e w' => ∃ v, e = .returned v ∧ ∃ (pg4 : HP) (A9 : Option Addr) (c9 : Nat) (raw4 : List (Nat × Hd3 × Hd3)), v = .slice A9 r.length c9 ∧ Sep w0 B w' (blk g4 3 #[.int .i64 v1] :: pg4 :: prs encP92 gfP92 cfP92 RelQ92 pg4 92 94 A9 r.length c9 raw4 r :: fs) := by
  obtain ⟨i3, hi3, hz3, hs3, hb3⟩ := info_parts Info3
  obtain ⟨i4, hi4, hz4, hs4, hb4⟩ := info_parts Info4
  obtain ⟨i22, hi22, hz22, hs22, hb22⟩ := info_parts Info22
  obtain ⟨i92, hi92, hz92, hs92, hb92⟩ := info_parts Info92
  obtain rfl := _hn_g3
  unfold stones_parts_2_m at hm
  replace hm := start_b hm
  refine enter (l := [.agg #[.int .i64 g1, .int .i64 g2, .slice A1 g3.length c1], .func (.func 48) #[] #[.pointer (some ⟨g4, 0, none⟩)]]) (n := 68) Try.func46 rfl rfl (by simp) (fun a hF => ?_)
  refine seqR ?_
  refine at_do (d := 2) (s := vS (Instr.box 24 (.agg #[.int .i64 g1, .int .i64 g2, .slice A1 g3.length c1]))) (v := .pointer (some ⟨w.heap.size, 0, none⟩)) (w' := w.alloc (.cells #[.int .i64 g1, .int .i64 g2, .slice A1 g3.length c1] 24)) hF (by kernel_rfl) (by kernel_rfl) (by kernel_rfl) (fun a hF => ?_)
  have hS : Sep w0 B (w.alloc (.cells #[.int .i64 g1, .int .i64 g2, .slice A1 g3.length c1] 24)) (blk w.heap.size 24 #[.int .i64 g1, .int .i64 g2, .slice A1 g3.length c1] :: (blk g4 3 #[.int .i64 v1] :: fs)) := hS.box 24 #[.int .i64 g1, .int .i64 g2, .slice A1 g3.length c1]
  generalize w.heap.size = g5 at hF hS
  generalize w.alloc (.cells #[.int .i64 g1, .int .i64 g2, .slice A1 g3.length c1] 24) = w at hS ⊢
  refine at_run 1 [] [] [1, 2] [pl 1 (.func (.func 48) #[] #[.pointer (some ⟨g4, 0, none⟩)]), pl 2 (.pointer (some ⟨g5, 0, none⟩))] hF hS (by kernel_rfl) (by kernel_rfl) ?_ (fun a w hF hS => ?_)
  · exact obs_nil
  refine at_end [1, 2] [pl 1 (.func (.func 48) #[] #[.pointer (some ⟨g4, 0, none⟩)]), pl 2 (.pointer (some ⟨g5, 0, none⟩))] hF rfl (by kernel_rfl) (fun hF => ?_)
  refine then_n ?_
  refine reg [] [] [1, 2, 5] [pl 1 (.func (.func 48) #[] #[.pointer (some ⟨g4, 0, none⟩)]), pl 2 (.pointer (some ⟨g5, 0, none⟩)), pl 5 (.slice none 0 0)] hF hS Fol (by kernel_rfl) (by kernel_rfl) (by kernel_rfl) ?_ (fun a w hF hS => ?_)
  · exact obs_nil
  refine seqR ?_
  obtain ⟨hp1, hm⟩ := asrt_b hm
  refine at_run 3 [⟨false, [], vS (Instr.loadAt 22 (.pointer (some ⟨g5, 2, none⟩))), .slice A1 g3.length c1⟩] [none, some (.slice A1 g3.length c1), none] [1, 2, 5, 14] [pl 1 (.func (.func 48) #[] #[.pointer (some ⟨g4, 0, none⟩)]), pl 2 (.pointer (some ⟨g5, 0, none⟩)), pl 5 (.slice none 0 0), pl 14 (.int .i64 (g3.length : Int))] hF hS (by kernel_rfl) (by kernel_rfl) ?_ (fun a w hF hS => ?_)
  · exact obs_cons (ob_load Agg22 (fun _ _ hS => (hS.at_ 0 rfl).cell rfl)) <| obs_nil
  obtain ⟨A2, c2, w, hrun, hS⟩ := run_mk1 (P := Try.prog) (t := 86) Value.bool false hS .i64 .i64 Und86 hi4 hz4 hs4 (by omega) rfl hp1
  have hS : Sep w0 B w (own 4 (.slice A2 (Int.toNat (g3.length : Int)) c2) (vB (List.replicate (Int.toNat (g3.length : Int)) false)) :: blk g5 24 #[.int .i64 g1, .int .i64 g2, .slice A1 g3.length c1] :: blk g4 3 #[.int .i64 v1] :: fs) := hS
  refine at_do (d := 15) hF (by kernel_rfl) (by kernel_rfl) hrun (fun a hF => ?_)
  refine at_run 1 [] [] [1, 2, 5, 6] [pl 1 (.func (.func 48) #[] #[.pointer (some ⟨g4, 0, none⟩)]), pl 2 (.pointer (some ⟨g5, 0, none⟩)), pl 5 (.slice none 0 0), pl 6 (.slice A2 (Int.toNat (g3.length : Int)) c2)] hF hS (by kernel_rfl) (by kernel_rfl) ?_ (fun a w hF hS => ?_)
  · exact obs_nil
  refine at_end [1, 2, 5, 6] [pl 1 (.func (.func 48) #[] #[.pointer (some ⟨g4, 0, none⟩)]), pl 2 (.pointer (some ⟨g5, 0, none⟩)), pl 5 (.slice none 0 0), pl 6 (.slice A2 (Int.toNat (g3.length : Int)) c2)] hF rfl (by kernel_rfl) (fun hF => ?_)
  refine then_n ?_
  refine seq_cut (fun a w => ∃ (l2 : List (List Int × List Int × Bool)) (pg2 : HP) (raw2 : List (Nat × Hd3 × Hd3)) (A4 : Option Addr) (c4 : Nat), Fr 68 [pl 5 (.slice A4 l2.length c4)] a ∧ Sep w0 B w (pg2 :: prs encP92 gfP92 cfP92 RelQ92 pg2 92 94 A4 l2.length c4 raw2 l2 :: blk g4 3 #[.int .i64 v1] :: fs) ∧ (stones_parts_2_J1 l2).bind some = some r) ?_ ?_
  · rintro a w ⟨l2, pg2, raw2, A4, c4, hF, hS, hm⟩
    unfold stones_parts_2_J1 at hm
    refine reg [] [] [4] [pl 4 (.slice A4 l2.length c4)] hF hS Fol (by kernel_rfl) (by kernel_rfl) (by kernel_rfl) ?_ (fun a w hF hS => ?_)
    · exact obs_nil
    refine wpIn_ret ?_
    have hS := hS.pickN 3 [2, 0, 1] (by decide)
    have hm : some l2 = some r := hm
    obtain rfl := Option.some.inj hm
    exact retV (rs := [.tmp 4]) (vs := [.slice A4 l2.length c4]) hF rfl (rv_t (by kernel_rfl) <| rv_nil) rfl ⟨_, rfl, pg2, A4, c4, raw2, rfl, hS⟩
  · refine reg [⟨false, [], vS (Instr.loadAt 22 (.pointer (some ⟨g5, 2, none⟩))), .slice A1 g3.length c1⟩] [none, some (.slice A1 g3.length c1), none, none] [1, 2, 5, 6, 17, 18, 19] [pl 1 (.func (.func 48) #[] #[.pointer (some ⟨g4, 0, none⟩)]), pl 2 (.pointer (some ⟨g5, 0, none⟩)), pl 5 (.slice none 0 0), pl 6 (.slice A2 (Int.toNat (g3.length : Int)) c2), pl 17 (.slice A1 g3.length c1), pl 18 (.int .i64 (g3.length : Int)), pl 19 (.int .i64 0)] hF hS Fol (by kernel_rfl) (by kernel_rfl) (by kernel_rfl) ?_ (fun a w hF hS => ?_)
    · exact obs_cons (ob_load Agg22 (fun _ _ hS => (hS.at_ 1 rfl).cell rfl)) <| obs_nil
    refine wpIn_block ?_
    have hS : Sep w0 B w (noB :: own 4 (.slice A2 (Int.toNat (g3.length : Int)) c2) (vB (List.replicate (Int.toNat (g3.length : Int)) false)) :: blk g5 24 #[.int .i64 g1, .int .i64 g2, .slice A1 g3.length c1] :: blk g4 3 #[.int .i64 v1] :: fs) := hS.noB
    have hS : Sep w0 B w (prs encP92 gfP92 cfP92 RelQ92 noB 92 94 none 0 0 ([] : List (Nat × Hd3 × Hd3)) ([] : List (List Int × List Int × Bool)) :: noB :: own 4 (.slice A2 (Int.toNat (g3.length : Int)) c2) (vB (List.replicate (Int.toNat (g3.length : Int)) false)) :: blk g5 24 #[.int .i64 g1, .int .i64 g2, .slice A1 g3.length c1] :: blk g4 3 #[.int .i64 v1] :: fs) := hS.nilPr encP92 gfP92 cfP92 RelQ92 noB 92 94
    have hl1 := (hS.at_ 0 rfl).lenPr encPK92
    have hS := (hS.at_ 0 rfl).reNPr hl1
    have hS : Sep w0 B w (prs encP92 gfP92 cfP92 RelQ92 noB 92 94 none (([] : List (List Int × List Int × Bool)).length) 0 ([] : List (Nat × Hd3 × Hd3)) ([] : List (List Int × List Int × Bool)) :: noB :: own 4 (.slice A2 (Int.toNat (g3.length : Int)) c2) (vB (List.replicate (Int.toNat (g3.length : Int)) false)) :: blk g5 24 #[.int .i64 g1, .int .i64 g2, .slice A1 g3.length c1] :: blk g4 3 #[.int .i64 v1] :: fs) := hS
    have hF := hF.cast (t := 5) (v := .slice none 0 0) (v' := .slice none (([] : List (List Int × List Int × Bool)).length) 0) rfl rfl (congrArg (fun k => Value.slice none k 0) hl1)
    have hS := hS.pickN 5 [4, 3, 1, 0, 2] (by decide)
    refine wp_loop_model (S := (List (List Int × List Int × Bool) × List Bool × Int)) (R := (List (List Int × List Int × Bool))) (stones_parts_2_L1 g1 g2 g3 v1) (fun x => (stones_parts_2_K1 x).bind some) r (fun (x : (List (List Int × List Int × Bool) × List Bool × Int)) a w => ∃ (pg1 : HP) (A3 : Option Addr) (c3 : Nat) (raw1 : List (Nat × Hd3 × Hd3)), Fr 68 [pl 1 (.func (.func 48) #[] #[.pointer (some ⟨g4, 0, none⟩)]), pl 2 (.pointer (some ⟨g5, 0, none⟩)), pl 5 (.slice A3 x.1.length c3), pl 6 (.slice A2 (Int.toNat (g3.length : Int)) c2), pl 17 (.slice A1 g3.length c1), pl 18 (.int .i64 (g3.length : Int)), pl 19 (.int .i64 x.2.2)] a ∧ Sep w0 B w (blk g4 3 #[.int .i64 v1] :: blk g5 24 #[.int .i64 g1, .int .i64 g2, .slice A1 g3.length c1] :: pg1 :: prs encP92 gfP92 cfP92 RelQ92 pg1 92 94 A3 x.1.length c3 raw1 x.1 :: own 4 (.slice A2 (Int.toNat (g3.length : Int)) c2) (vB x.2.1) :: fs)) (assoc_b hm) ⟨noB, none, 0, ([] : List (Nat × Hd3 × Hd3)), hF.weak [1, 2, 5, 6, 17, 18, 19] (by kernel_rfl), hS⟩ ?_
    clear hF hS hm
    rintro nn1 ⟨l1, done1, z1⟩ a w ⟨pg1, A3, c3, raw1, hF, hS⟩ hm
    generalize hφ1 : stK (stones_parts_2_L1 g1 g2 g3 v1) nn1 (fun x => (stones_parts_2_K1 x).bind some) = φ1 at hm
    unfold stones_parts_2_L1 at hm
    dsimp only at hF hS hm
    refine reg [] [] [1, 2, 5, 6, 17, 18, 19, 20] [pl 1 (.func (.func 48) #[] #[.pointer (some ⟨g4, 0, none⟩)]), pl 2 (.pointer (some ⟨g5, 0, none⟩)), pl 5 (.slice A3 l1.length c3), pl 6 (.slice A2 (Int.toNat (g3.length : Int)) c2), pl 17 (.slice A1 g3.length c1), pl 18 (.int .i64 (g3.length : Int)), pl 19 (.int .i64 z1), pl 20 (.bool (decide (z1 < (g3.length : Int))))] hF hS Fol (by kernel_rfl) (by kernel_rfl) (by kernel_rfl) ?_ (fun a w hF hS => ?_)
    · exact obs_nil
    refine seq_cut (fun a w => Fr 68 [pl 1 (.func (.func 48) #[] #[.pointer (some ⟨g4, 0, none⟩)]), pl 2 (.pointer (some ⟨g5, 0, none⟩)), pl 5 (.slice A3 l1.length c3), pl 6 (.slice A2 (Int.toNat (g3.length : Int)) c2), pl 17 (.slice A1 g3.length c1), pl 18 (.int .i64 (g3.length : Int)), pl 19 (.int .i64 z1)] a ∧ Sep w0 B w (blk g4 3 #[.int .i64 v1] :: blk g5 24 #[.int .i64 g1, .int .i64 g2, .slice A1 g3.length c1] :: pg1 :: prs encP92 gfP92 cfP92 RelQ92 pg1 92 94 A3 l1.length c3 raw1 l1 :: own 4 (.slice A2 (Int.toNat (g3.length : Int)) c2) (vB done1) :: fs) ∧ ((stones_parts_2_J2 g1 g2 g3 v1 l1 done1 z1)).bind φ1 = some r) ?_ ?_
    · rintro a w ⟨hF, hS, hm⟩
      unfold stones_parts_2_J2 at hm
      refine seq_cut (fun a w => ∃ (l3 : List (List Int × List Int × Bool)) (done2 : List Bool) (pg3 : HP) (raw3 : List (Nat × Hd3 × Hd3)) (A5 : Option Addr) (c5 : Nat), Fr 68 [pl 1 (.func (.func 48) #[] #[.pointer (some ⟨g4, 0, none⟩)]), pl 2 (.pointer (some ⟨g5, 0, none⟩)), pl 5 (.slice A5 l3.length c5), pl 6 (.slice A2 (Int.toNat (g3.length : Int)) c2), pl 17 (.slice A1 g3.length c1), pl 18 (.int .i64 (g3.length : Int)), pl 19 (.int .i64 z1)] a ∧ Sep w0 B w (blk g4 3 #[.int .i64 v1] :: blk g5 24 #[.int .i64 g1, .int .i64 g2, .slice A1 g3.length c1] :: pg3 :: prs encP92 gfP92 cfP92 RelQ92 pg3 92 94 A5 l3.length c5 raw3 l3 :: own 4 (.slice A2 (Int.toNat (g3.length : Int)) c2) (vB done2) :: fs) ∧ ((stones_parts_2_J3 z1) l3 done2).bind φ1 = some r) ?_ ?_
      · rintro a w ⟨l3, done2, pg3, raw3, A5, c5, hF, hS, hm⟩
        unfold stones_parts_2_J3 at hm
        refine reg1 [] [] [1, 2, 5, 6, 17, 18, 19] [pl 1 (.func (.func 48) #[] #[.pointer (some ⟨g4, 0, none⟩)]), pl 2 (.pointer (some ⟨g5, 0, none⟩)), pl 5 (.slice A5 l3.length c5), pl 6 (.slice A2 (Int.toNat (g3.length : Int)) c2), pl 17 (.slice A1 g3.length c1), pl 18 (.int .i64 (g3.length : Int)), pl 19 (.int .i64 (w64 (z1 + 1)))] hF hS Fol (by kernel_rfl) (by kernel_rfl) (by kernel_rfl) ?_ (fun a w hF hS => ?_)
        · exact obs_nil
        refine then_n ?_
        rw [← hφ1] at hm
        exact ⟨(l3, done2, (w64 (z1 + 1))), ⟨pg3, A5, c5, raw3, hF.weak [1, 2, 5, 6, 17, 18, 19] (by kernel_rfl), hS⟩, hm⟩
      · refine wpIn_block ?_
        obtain ⟨hp2, hm⟩ := asrt_b hm
        refine reg [⟨true, [], vS (Instr.indexAt 22 (.slice A1 g3.length c1) (.int .i64 z1)), .pointer (some (sAddr A1 z1))⟩, ⟨false, [], vS (Instr.loadAt 3 (.pointer (some (sAddr A1 z1)))), .int .i64 (geti g3 z1)⟩] [none, some (.pointer (some (sAddr A1 z1))), some (.int .i64 (geti g3 z1)), none, none] [1, 2, 5, 6, 7, 8, 17, 18, 19] [pl 1 (.func (.func 48) #[] #[.pointer (some ⟨g4, 0, none⟩)]), pl 2 (.pointer (some ⟨g5, 0, none⟩)), pl 5 (.slice A3 l1.length c3), pl 6 (.slice A2 (Int.toNat (g3.length : Int)) c2), pl 7 (.int .i64 z1), pl 8 (.int .i64 (geti g3 z1)), pl 17 (.slice A1 g3.length c1), pl 18 (.int .i64 (g3.length : Int)), pl 19 (.int .i64 z1)] hF hS Fol (by kernel_rfl) (by kernel_rfl) (by kernel_rfl) ?_ (fun a w hF hS => ?_)
        · exact obs_cons (ob_ix1 (f := (Value.int .i64)) (m := g3) Und22 hi3 hs3 (hr_g3 _ (hS.dropN 5)) rfl (fun _ => hp2)) <| obs_cons (ob_get1 (n := g3.length) (m := g3) (Value.int .i64) (0 : Int) Agg3 (fun _ hS => ⟨_, (hr_g3 _ (hS.dropN 5))⟩) (fun _ hS => rfl) (fun _ => hp2)) <| obs_nil
        refine seq_cut (fun a w => Fr 68 [pl 1 (.func (.func 48) #[] #[.pointer (some ⟨g4, 0, none⟩)]), pl 2 (.pointer (some ⟨g5, 0, none⟩)), pl 5 (.slice A3 l1.length c3), pl 6 (.slice A2 (Int.toNat (g3.length : Int)) c2), pl 7 (.int .i64 z1), pl 17 (.slice A1 g3.length c1), pl 18 (.int .i64 (g3.length : Int)), pl 19 (.int .i64 z1)] a ∧ Sep w0 B w (blk g4 3 #[.int .i64 v1] :: blk g5 24 #[.int .i64 g1, .int .i64 g2, .slice A1 g3.length c1] :: pg1 :: prs encP92 gfP92 cfP92 RelQ92 pg1 92 94 A3 l1.length c3 raw1 l1 :: own 4 (.slice A2 (Int.toNat (g3.length : Int)) c2) (vB done1) :: fs) ∧ ((stones_parts_2_J4 g1 g2 g3 v1 l1 done1 z1)).bind φ1 = some r) ?_ ?_
        · rintro a w ⟨hF, hS, hm⟩
          unfold stones_parts_2_J4 at hm
          refine seqR ?_
          refine at_run 1 [] [] [1, 2, 5, 6, 7, 17, 18, 19, 34] [pl 1 (.func (.func 48) #[] #[.pointer (some ⟨g4, 0, none⟩)]), pl 2 (.pointer (some ⟨g5, 0, none⟩)), pl 5 (.slice A3 l1.length c3), pl 6 (.slice A2 (Int.toNat (g3.length : Int)) c2), pl 7 (.int .i64 z1), pl 17 (.slice A1 g3.length c1), pl 18 (.int .i64 (g3.length : Int)), pl 19 (.int .i64 z1), pl 34 (.agg #[.slice none 0 0, .slice none 0 0, .bool false])] hF hS (by kernel_rfl) (by kernel_rfl) ?_ (fun a w hF hS => ?_)
          · exact obs_nil
          refine at_do (d := 35) (s := vS (Instr.box 94 (.agg #[.slice none 0 0, .slice none 0 0, .bool false]))) (v := .pointer (some ⟨w.heap.size, 0, none⟩)) (w' := w.alloc (.cells #[.slice none 0 0, .slice none 0 0, .bool false] 94)) hF (by kernel_rfl) (by kernel_rfl) (by kernel_rfl) (fun a hF => ?_)
          have hS : Sep w0 B (w.alloc (.cells #[.slice none 0 0, .slice none 0 0, .bool false] 94)) (blk w.heap.size 94 #[.slice none 0 0, .slice none 0 0, .bool false] :: (blk g4 3 #[.int .i64 v1] :: blk g5 24 #[.int .i64 g1, .int .i64 g2, .slice A1 g3.length c1] :: pg1 :: prs encP92 gfP92 cfP92 RelQ92 pg1 92 94 A3 l1.length c3 raw1 l1 :: own 4 (.slice A2 (Int.toNat (g3.length : Int)) c2) (vB done1) :: fs)) := hS.box 94 #[.slice none 0 0, .slice none 0 0, .bool false]
          generalize w.heap.size = g6 at hF hS
          generalize w.alloc (.cells #[.slice none 0 0, .slice none 0 0, .bool false] 94) = w at hS ⊢
          refine at_run 1 [] [] [1, 2, 5, 6, 7, 9, 17, 18, 19] [pl 1 (.func (.func 48) #[] #[.pointer (some ⟨g4, 0, none⟩)]), pl 2 (.pointer (some ⟨g5, 0, none⟩)), pl 5 (.slice A3 l1.length c3), pl 6 (.slice A2 (Int.toNat (g3.length : Int)) c2), pl 7 (.int .i64 z1), pl 9 (.pointer (some ⟨g6, 0, none⟩)), pl 17 (.slice A1 g3.length c1), pl 18 (.int .i64 (g3.length : Int)), pl 19 (.int .i64 z1)] hF hS (by kernel_rfl) (by kernel_rfl) ?_ (fun a w hF hS => ?_)
          · exact obs_nil
          refine at_end [1, 2, 5, 6, 7, 9, 17, 18, 19] [pl 1 (.func (.func 48) #[] #[.pointer (some ⟨g4, 0, none⟩)]), pl 2 (.pointer (some ⟨g5, 0, none⟩)), pl 5 (.slice A3 l1.length c3), pl 6 (.slice A2 (Int.toNat (g3.length : Int)) c2), pl 7 (.int .i64 z1), pl 9 (.pointer (some ⟨g6, 0, none⟩)), pl 17 (.slice A1 g3.length c1), pl 18 (.int .i64 (g3.length : Int)), pl 19 (.int .i64 z1)] hF rfl (by kernel_rfl) (fun hF => ?_)
          refine then_n ?_
          refine seqR ?_
          obtain ⟨r2, hr2, hm⟩ := call_b hm
          refine at_run 5 [⟨false, [], vS (Instr.loadAt 24 (.pointer (some ⟨g5, 0, none⟩))), .agg #[.int .i64 g1, .int .i64 g2, .slice A1 g3.length c1]⟩] [none, none, some (.agg #[.int .i64 g1, .int .i64 g2, .slice A1 g3.length c1]), none, none] [1, 2, 5, 6, 9, 17, 18, 19, 37, 38, 39, 40, 41] [pl 1 (.func (.func 48) #[] #[.pointer (some ⟨g4, 0, none⟩)]), pl 2 (.pointer (some ⟨g5, 0, none⟩)), pl 5 (.slice A3 l1.length c3), pl 6 (.slice A2 (Int.toNat (g3.length : Int)) c2), pl 9 (.pointer (some ⟨g6, 0, none⟩)), pl 17 (.slice A1 g3.length c1), pl 18 (.int .i64 (g3.length : Int)), pl 19 (.int .i64 z1), pl 37 (.pointer (some ⟨g6, 0, none⟩)), pl 38 (.pointer (some ⟨g6, 0, none⟩)), pl 39 (.agg #[.int .i64 g1, .int .i64 g2, .slice A1 g3.length c1]), pl 40 (.int .i64 z1), pl 41 (.func (.func 48) #[] #[.pointer (some ⟨g4, 0, none⟩)])] hF hS (by kernel_rfl) (by kernel_rfl) ?_ (fun a w hF hS => ?_)
          · exact obs_cons (ob_loadA (cs := #[.int .i64 g1, .int .i64 g2, .slice A1 g3.length c1]) (by kernel_rfl) (by kernel_rfl) (fun _ _ hS => (hS.at_ 2 rfl).cellsAt 0 (by rfl))) <| obs_nil
          have hS : Sep w0 B w (blk g4 3 #[.int .i64 v1] :: blk g6 94 #[.slice none 0 0, .slice none 0 0, .bool false] :: blk g5 24 #[.int .i64 g1, .int .i64 g2, .slice A1 g3.length c1] :: pg1 :: prs encP92 gfP92 cfP92 RelQ92 pg1 92 94 A3 l1.length c3 raw1 l1 :: own 4 (.slice A2 (Int.toNat (g3.length : Int)) c2) (vB done1) :: fs) := hS.pickN 6 [1, 0, 2, 3, 4, 5] (by decide)
          refine at_call (f := 43) (args := #[.agg #[.int .i64 g1, .int .i64 g2, .slice A1 g3.length c1], .int .i64 z1, .func (.func 48) #[] #[.pointer (some ⟨g4, 0, none⟩)]]) (d := 42) hF (by kernel_rfl) (by kernel_rfl) Try.func43 (by kernel_rfl) rfl (stones_spread_3_w hr2 hS (fun _ hS => (hr_g3 _ (hS.dropN 5))) _hc_g3 rfl) (fun v a w hR hF => ?_)
          clear hS
          obtain ⟨A6, c6, A7, c7, rfl, hS⟩ := hR
          have hS : Sep w0 B w (blk g4 3 #[.int .i64 v1] :: own 3 (.slice A6 r2.1.length c6) (vI r2.1) :: own 3 (.slice A7 r2.2.length c7) (vI r2.2) :: blk g6 94 #[.slice none 0 0, .slice none 0 0, .bool false] :: blk g5 24 #[.int .i64 g1, .int .i64 g2, .slice A1 g3.length c1] :: pg1 :: prs encP92 gfP92 cfP92 RelQ92 pg1 92 94 A3 l1.length c3 raw1 l1 :: own 4 (.slice A2 (Int.toNat (g3.length : Int)) c2) (vB done1) :: fs) := hS
          refine at_run 5 [] [] [1, 2, 5, 6, 9, 17, 18, 19, 38, 43, 44, 46] [pl 1 (.func (.func 48) #[] #[.pointer (some ⟨g4, 0, none⟩)]), pl 2 (.pointer (some ⟨g5, 0, none⟩)), pl 5 (.slice A3 l1.length c3), pl 6 (.slice A2 (Int.toNat (g3.length : Int)) c2), pl 9 (.pointer (some ⟨g6, 0, none⟩)), pl 17 (.slice A1 g3.length c1), pl 18 (.int .i64 (g3.length : Int)), pl 19 (.int .i64 z1), pl 38 (.pointer (some ⟨g6, 0, none⟩)), pl 43 (.slice A6 r2.1.length c6), pl 44 (.slice A7 r2.2.length c7), pl 46 (.pointer (some ⟨g6, 0, none⟩))] hF hS (by kernel_rfl) (by kernel_rfl) ?_ (fun a w hF hS => ?_)
          · exact obs_nil
          obtain ⟨w, hrun, hS⟩ := run_put (P := Try.prog) (t := 22) (u := .slice A6 r2.1.length c6) (i := 0) (hS.at_ 3 rfl) hi22 hs22 rfl (Nat.lt_of_lt_of_eq (Nat.lt_of_succ_le (Nat.le_of_ble_eq_true (by kernel_rfl))) rfl)
          refine at_skip hF (by kernel_rfl) hrun ?_
          have hS : Sep w0 B w (blk g4 3 #[.int .i64 v1] :: own 3 (.slice A6 r2.1.length c6) (vI r2.1) :: own 3 (.slice A7 r2.2.length c7) (vI r2.2) :: blk g6 94 #[.slice A6 r2.1.length c6, .slice none 0 0, .bool false] :: blk g5 24 #[.int .i64 g1, .int .i64 g2, .slice A1 g3.length c1] :: pg1 :: prs encP92 gfP92 cfP92 RelQ92 pg1 92 94 A3 l1.length c3 raw1 l1 :: own 4 (.slice A2 (Int.toNat (g3.length : Int)) c2) (vB done1) :: fs) := hS
          refine at_run 2 [] [] [1, 2, 5, 6, 9, 17, 18, 19, 44, 48] [pl 1 (.func (.func 48) #[] #[.pointer (some ⟨g4, 0, none⟩)]), pl 2 (.pointer (some ⟨g5, 0, none⟩)), pl 5 (.slice A3 l1.length c3), pl 6 (.slice A2 (Int.toNat (g3.length : Int)) c2), pl 9 (.pointer (some ⟨g6, 0, none⟩)), pl 17 (.slice A1 g3.length c1), pl 18 (.int .i64 (g3.length : Int)), pl 19 (.int .i64 z1), pl 44 (.slice A7 r2.2.length c7), pl 48 (.pointer (some ⟨g6, 1, none⟩))] hF hS (by kernel_rfl) (by kernel_rfl) ?_ (fun a w hF hS => ?_)
          · exact obs_nil
          obtain ⟨w, hrun, hS⟩ := run_put (P := Try.prog) (t := 22) (u := .slice A7 r2.2.length c7) (i := 1) (hS.at_ 3 rfl) hi22 hs22 rfl (Nat.lt_of_lt_of_eq (Nat.lt_of_succ_le (Nat.le_of_ble_eq_true (by kernel_rfl))) rfl)
          refine at_skip hF (by kernel_rfl) hrun ?_
          have hS : Sep w0 B w (blk g4 3 #[.int .i64 v1] :: own 3 (.slice A6 r2.1.length c6) (vI r2.1) :: own 3 (.slice A7 r2.2.length c7) (vI r2.2) :: blk g6 94 #[.slice A6 r2.1.length c6, .slice A7 r2.2.length c7, .bool false] :: blk g5 24 #[.int .i64 g1, .int .i64 g2, .slice A1 g3.length c1] :: pg1 :: prs encP92 gfP92 cfP92 RelQ92 pg1 92 94 A3 l1.length c3 raw1 l1 :: own 4 (.slice A2 (Int.toNat (g3.length : Int)) c2) (vB done1) :: fs) := hS
          refine at_end [1, 2, 5, 6, 9, 17, 18, 19] [pl 1 (.func (.func 48) #[] #[.pointer (some ⟨g4, 0, none⟩)]), pl 2 (.pointer (some ⟨g5, 0, none⟩)), pl 5 (.slice A3 l1.length c3), pl 6 (.slice A2 (Int.toNat (g3.length : Int)) c2), pl 9 (.pointer (some ⟨g6, 0, none⟩)), pl 17 (.slice A1 g3.length c1), pl 18 (.int .i64 (g3.length : Int)), pl 19 (.int .i64 z1)] hF rfl (by kernel_rfl) (fun hF => ?_)
          refine then_n ?_
          refine seq_cut (fun a w => ∃ (done4 : List Bool), Fr 68 [pl 1 (.func (.func 48) #[] #[.pointer (some ⟨g4, 0, none⟩)]), pl 2 (.pointer (some ⟨g5, 0, none⟩)), pl 5 (.slice A3 l1.length c3), pl 6 (.slice A2 (Int.toNat (g3.length : Int)) c2), pl 9 (.pointer (some ⟨g6, 0, none⟩)), pl 17 (.slice A1 g3.length c1), pl 18 (.int .i64 (g3.length : Int)), pl 19 (.int .i64 z1)] a ∧ Sep w0 B w (blk g4 3 #[.int .i64 v1] :: blk g5 24 #[.int .i64 g1, .int .i64 g2, .slice A1 g3.length c1] :: pg1 :: prs encP92 gfP92 cfP92 RelQ92 pg1 92 94 A3 l1.length c3 raw1 l1 :: own 4 (.slice A2 (Int.toNat (g3.length : Int)) c2) (vB done4) :: blk g6 94 #[.slice A6 r2.1.length c6, .slice A7 r2.2.length c7, .bool false] :: own 3 (.slice A6 r2.1.length c6) (vI r2.1) :: own 3 (.slice A7 r2.2.length c7) (vI r2.2) :: fs) ∧ ((stones_parts_2_J5 l1 z1 r2) done4).bind φ1 = some r) ?_ ?_
          · rintro a w ⟨done4, hF, hS, hm⟩
            unfold stones_parts_2_J5 at hm
            refine oneR ?_
            obtain ⟨hp6, hm⟩ := asrt_b hm
            refine at_run 2 [] [] [1, 2, 6, 17, 18, 19, 62, 63] [pl 1 (.func (.func 48) #[] #[.pointer (some ⟨g4, 0, none⟩)]), pl 2 (.pointer (some ⟨g5, 0, none⟩)), pl 6 (.slice A2 (Int.toNat (g3.length : Int)) c2), pl 17 (.slice A1 g3.length c1), pl 18 (.int .i64 (g3.length : Int)), pl 19 (.int .i64 z1), pl 62 (.slice A3 l1.length c3), pl 63 (.pointer (some ⟨g6, 0, none⟩))] hF hS (by kernel_rfl) (by kernel_rfl) ?_ (fun a w hF hS => ?_)
            · exact obs_nil
            refine at_do (d := 64) (s := vS (Instr.buildSlice 90 1 #[(0, .pointer (some ⟨g6, 0, none⟩))])) (v := .slice (some ⟨w.heap.size, 0, none⟩) 1 1) (w' := w.alloc (.cells #[.pointer (some ⟨g6, 0, none⟩)] 92)) hF (by kernel_rfl) (by kernel_rfl) (by kernel_rfl) (fun a hF => ?_)
            have hS : Sep w0 B (w.alloc (.cells #[.pointer (some ⟨g6, 0, none⟩)] 92)) (own 92 (.slice (some (⟨w.heap.size, 0, none⟩ : Addr)) 1 1) (List.map (fun v => v) ([.pointer (some ⟨g6, 0, none⟩)] : List Value)) :: (blk g4 3 #[.int .i64 v1] :: blk g5 24 #[.int .i64 g1, .int .i64 g2, .slice A1 g3.length c1] :: pg1 :: prs encP92 gfP92 cfP92 RelQ92 pg1 92 94 A3 l1.length c3 raw1 l1 :: own 4 (.slice A2 (Int.toNat (g3.length : Int)) c2) (vB done4) :: blk g6 94 #[.slice A6 r2.1.length c6, .slice A7 r2.2.length c7, .bool false] :: own 3 (.slice A6 r2.1.length c6) (vI r2.1) :: own 3 (.slice A7 r2.2.length c7) (vI r2.2) :: fs)) := hS.lit 92 #[.pointer (some ⟨g6, 0, none⟩)] 1 rfl (by omega)
            generalize (some (⟨w.heap.size, 0, none⟩ : Addr)) = g7 at hF hS
            generalize w.alloc (.cells #[.pointer (some ⟨g6, 0, none⟩)] 92) = w at hS ⊢
            have hc1 := (hS.at_ 7 rfl).cap1
            have hS := hS.pickN 9 [7, 3, 0, 1, 2, 4, 5, 6, 8] (by decide)
            have hS : Sep w0 B w ((twoB (own 3 (.slice A6 r2.1.length c6) (vI r2.1)) pg1) :: own 92 (.slice g7 1 1) (List.map (fun v => v) ([.pointer (some ⟨g6, 0, none⟩)] : List Value)) :: blk g4 3 #[.int .i64 v1] :: blk g5 24 #[.int .i64 g1, .int .i64 g2, .slice A1 g3.length c1] :: prs encP92 gfP92 cfP92 RelQ92 pg1 92 94 A3 l1.length c3 raw1 l1 :: own 4 (.slice A2 (Int.toNat (g3.length : Int)) c2) (vB done4) :: blk g6 94 #[.slice A6 r2.1.length c6, .slice A7 r2.2.length c7, .bool false] :: own 3 (.slice A7 r2.2.length c7) (vI r2.2) :: fs) := hS.two
            have hS : Sep w0 B w ((twoB (own 3 (.slice A6 r2.1.length c6) (vI r2.1)) pg1) :: own 92 (.slice g7 1 1) (List.map (fun v => v) ([.pointer (some ⟨g6, 0, none⟩)] : List Value)) :: blk g4 3 #[.int .i64 v1] :: blk g5 24 #[.int .i64 g1, .int .i64 g2, .slice A1 g3.length c1] :: prs encP92 gfP92 cfP92 RelQ92 (twoB (own 3 (.slice A6 r2.1.length c6) (vI r2.1)) pg1) 92 94 A3 l1.length c3 raw1 l1 :: own 4 (.slice A2 (Int.toNat (g3.length : Int)) c2) (vB done4) :: blk g6 94 #[.slice A6 r2.1.length c6, .slice A7 r2.2.length c7, .bool false] :: own 3 (.slice A7 r2.2.length c7) (vI r2.2) :: fs) := (hS.at_ 4 rfl).prsMono RelMQ92 PoolLe.right
            have hS : Sep w0 B w ((twoB (own 3 (.slice A6 r2.1.length c6) (vI r2.1)) pg1) :: own 92 (.slice g7 1 1) (List.map (fun v => v) ([.pointer (some ⟨g6, 0, none⟩)] : List Value)) :: blk g4 3 #[.int .i64 v1] :: blk g5 24 #[.int .i64 g1, .int .i64 g2, .slice A1 g3.length c1] :: prs encP92 gfP92 cfP92 RelQ92 (twoB (own 3 (.slice A6 r2.1.length c6) (vI r2.1)) pg1) 92 94 A3 l1.length c3 raw1 l1 :: own 4 (.slice A2 (Int.toNat (g3.length : Int)) c2) (vB done4) :: blk g6 94 #[.slice A6 r2.1.length c6, .slice A7 r2.2.length c7, .bool false] :: own 3 (.slice A7 r2.2.length c7) (vI r2.2) :: fs) := hS
            have hc2 := (hS.at_ 7 rfl).cap1
            have hS := hS.pickN 8 [7, 0, 1, 2, 3, 4, 5, 6] (by decide)
            have hS : Sep w0 B w ((twoB (own 3 (.slice A7 r2.2.length c7) (vI r2.2)) (twoB (own 3 (.slice A6 r2.1.length c6) (vI r2.1)) pg1)) :: own 92 (.slice g7 1 1) (List.map (fun v => v) ([.pointer (some ⟨g6, 0, none⟩)] : List Value)) :: blk g4 3 #[.int .i64 v1] :: blk g5 24 #[.int .i64 g1, .int .i64 g2, .slice A1 g3.length c1] :: prs encP92 gfP92 cfP92 RelQ92 (twoB (own 3 (.slice A6 r2.1.length c6) (vI r2.1)) pg1) 92 94 A3 l1.length c3 raw1 l1 :: own 4 (.slice A2 (Int.toNat (g3.length : Int)) c2) (vB done4) :: blk g6 94 #[.slice A6 r2.1.length c6, .slice A7 r2.2.length c7, .bool false] :: fs) := hS.two
            have hS : Sep w0 B w ((twoB (own 3 (.slice A7 r2.2.length c7) (vI r2.2)) (twoB (own 3 (.slice A6 r2.1.length c6) (vI r2.1)) pg1)) :: own 92 (.slice g7 1 1) (List.map (fun v => v) ([.pointer (some ⟨g6, 0, none⟩)] : List Value)) :: blk g4 3 #[.int .i64 v1] :: blk g5 24 #[.int .i64 g1, .int .i64 g2, .slice A1 g3.length c1] :: prs encP92 gfP92 cfP92 RelQ92 (twoB (own 3 (.slice A7 r2.2.length c7) (vI r2.2)) (twoB (own 3 (.slice A6 r2.1.length c6) (vI r2.1)) pg1)) 92 94 A3 l1.length c3 raw1 l1 :: own 4 (.slice A2 (Int.toNat (g3.length : Int)) c2) (vB done4) :: blk g6 94 #[.slice A6 r2.1.length c6, .slice A7 r2.2.length c7, .bool false] :: fs) := (hS.at_ 4 rfl).prsMono RelMQ92 PoolLe.right
            have hS : Sep w0 B w ((twoB (own 3 (.slice A7 r2.2.length c7) (vI r2.2)) (twoB (own 3 (.slice A6 r2.1.length c6) (vI r2.1)) pg1)) :: own 92 (.slice g7 1 1) (List.map (fun v => v) ([.pointer (some ⟨g6, 0, none⟩)] : List Value)) :: blk g4 3 #[.int .i64 v1] :: blk g5 24 #[.int .i64 g1, .int .i64 g2, .slice A1 g3.length c1] :: prs encP92 gfP92 cfP92 RelQ92 (twoB (own 3 (.slice A7 r2.2.length c7) (vI r2.2)) (twoB (own 3 (.slice A6 r2.1.length c6) (vI r2.1)) pg1)) 92 94 A3 l1.length c3 raw1 l1 :: own 4 (.slice A2 (Int.toNat (g3.length : Int)) c2) (vB done4) :: blk g6 94 #[.slice A6 r2.1.length c6, .slice A7 r2.2.length c7, .bool false] :: fs) := hS
            have hS := hS.pickN 7 [6, 0, 1, 2, 3, 4, 5] (by decide)
            have hS : Sep w0 B w (blk g6 94 #[.slice A6 r2.1.length c6, .slice A7 r2.2.length c7, .bool false] :: (twoB (own 3 (.slice A7 r2.2.length c7) (vI r2.2)) (twoB (own 3 (.slice A6 r2.1.length c6) (vI r2.1)) pg1)) :: own 92 (.slice g7 1 1) (List.map (fun v => v) ([.pointer (some ⟨g6, 0, none⟩)] : List Value)) :: blk g4 3 #[.int .i64 v1] :: blk g5 24 #[.int .i64 g1, .int .i64 g2, .slice A1 g3.length c1] :: prs encP92 gfP92 cfP92 RelQ92 (twoB (own 3 (.slice A7 r2.2.length c7) (vI r2.2)) (twoB (own 3 (.slice A6 r2.1.length c6) (vI r2.1)) pg1)) 92 94 A3 l1.length c3 raw1 l1 :: own 4 (.slice A2 (Int.toNat (g3.length : Int)) c2) (vB done4) :: fs) := hS
            obtain ⟨A8, c8, w, hrun, hS⟩ := run_appPr (P := Try.prog) (t := 90) (r0 := (g6, (A6, r2.1.length, c6), (A7, r2.2.length, c7))) (x0 := (r2.1, r2.2, false)) (A2 := g7) (c2 := 1) encPK92 (hS.at2 4 rfl) rfl rfl ⟨SlR.of (PoolW.mono PoolLe.right (PoolW.own : PoolW (twoB (own 3 (.slice A6 r2.1.length c6) (vI r2.1)) pg1) A6 r2.1)) hc1, SlR.of (PoolW.own : PoolW (twoB (own 3 (.slice A7 r2.2.length c7) (vI r2.2)) (twoB (own 3 (.slice A6 r2.1.length c6) (vI r2.1)) pg1)) A7 r2.2) hc2⟩ (hS.at_ 2 rfl).rd 90 Und90 hi92 hz92 hs92 rfl (by omega) hp6
            have hS : Sep w0 B w ((twoB (own 3 (.slice A7 r2.2.length c7) (vI r2.2)) (twoB (own 3 (.slice A6 r2.1.length c6) (vI r2.1)) pg1)) :: own 92 (.slice g7 1 1) ((List.map (fun v => v) ([.pointer (some ⟨g6, 0, none⟩)] : List Value))) :: blk g4 3 #[.int .i64 v1] :: blk g5 24 #[.int .i64 g1, .int .i64 g2, .slice A1 g3.length c1] :: prs encP92 gfP92 cfP92 RelQ92 (twoB (own 3 (.slice A7 r2.2.length c7) (vI r2.2)) (twoB (own 3 (.slice A6 r2.1.length c6) (vI r2.1)) pg1)) 92 94 A8 ((l1 ++ [(r2.1, r2.2, false)]).length) c8 (raw1 ++ [(g6, (A6, r2.1.length, c6), (A7, r2.2.length, c7))]) (l1 ++ [(r2.1, r2.2, false)]) :: own 4 (.slice A2 (Int.toNat (g3.length : Int)) c2) (vB done4) :: fs) := hS
            refine at_do (d := 65) hF (by kernel_rfl) (by kernel_rfl) hrun (fun a hF => ?_)
            refine at_run 1 [] [] [1, 2, 5, 6, 17, 18, 19] [pl 1 (.func (.func 48) #[] #[.pointer (some ⟨g4, 0, none⟩)]), pl 2 (.pointer (some ⟨g5, 0, none⟩)), pl 5 (.slice A8 ((l1 ++ [(r2.1, r2.2, false)]).length) c8), pl 6 (.slice A2 (Int.toNat (g3.length : Int)) c2), pl 17 (.slice A1 g3.length c1), pl 18 (.int .i64 (g3.length : Int)), pl 19 (.int .i64 z1)] hF hS (by kernel_rfl) (by kernel_rfl) ?_ (fun a w hF hS => ?_)
            · exact obs_nil
            refine at_end [1, 2, 5, 6, 17, 18, 19] [pl 1 (.func (.func 48) #[] #[.pointer (some ⟨g4, 0, none⟩)]), pl 2 (.pointer (some ⟨g5, 0, none⟩)), pl 5 (.slice A8 ((l1 ++ [(r2.1, r2.2, false)]).length) c8), pl 6 (.slice A2 (Int.toNat (g3.length : Int)) c2), pl 17 (.slice A1 g3.length c1), pl 18 (.int .i64 (g3.length : Int)), pl 19 (.int .i64 z1)] hF rfl (by kernel_rfl) (fun hF => ?_)
            refine block_n ?_
            refine then_n ?_
            have hS := hS.pickN 6 [2, 3, 0, 4, 5] (by decide)
            exact ⟨(l1 ++ [(r2.1, r2.2, false)]), done4, (twoB (own 3 (.slice A7 r2.2.length c7) (vI r2.2)) (twoB (own 3 (.slice A6 r2.1.length c6) (vI r2.1)) pg1)), (raw1 ++ [(g6, (A6, r2.1.length, c6), (A7, r2.2.length, c7))]), A8, c8, hF.weak [1, 2, 5, 6, 17, 18, 19] (by kernel_rfl), hS, hm⟩
          · refine reg [⟨false, [], vS (Instr.loadAt 22 (.pointer (some ⟨g6, 0, none⟩))), .slice A6 r2.1.length c6⟩] [none, none, none, some (.slice A6 r2.1.length c6), none, none] [1, 2, 5, 6, 9, 17, 18, 19, 52, 53, 54] [pl 1 (.func (.func 48) #[] #[.pointer (some ⟨g4, 0, none⟩)]), pl 2 (.pointer (some ⟨g5, 0, none⟩)), pl 5 (.slice A3 l1.length c3), pl 6 (.slice A2 (Int.toNat (g3.length : Int)) c2), pl 9 (.pointer (some ⟨g6, 0, none⟩)), pl 17 (.slice A1 g3.length c1), pl 18 (.int .i64 (g3.length : Int)), pl 19 (.int .i64 z1), pl 52 (.slice A6 r2.1.length c6), pl 53 (.int .i64 (r2.1.length : Int)), pl 54 (.int .i64 0)] hF hS Fol (by kernel_rfl) (by kernel_rfl) (by kernel_rfl) ?_ (fun a w hF hS => ?_)
            · exact obs_cons (ob_load Agg22 (fun _ _ hS => (hS.at_ 3 rfl).cell rfl)) <| obs_nil
            refine wpIn_block ?_
            have hS := hS.pickN 8 [0, 4, 5, 6, 7, 3, 1, 2] (by decide)
            refine wp_loop_model (S := (List Bool × Int)) (R := (List Bool)) (stones_parts_2_L2 g3 r2) (fun x => ((stones_parts_2_K2 l1 z1 r2) x).bind φ1) r (fun (x : (List Bool × Int)) a w => Fr 68 [pl 1 (.func (.func 48) #[] #[.pointer (some ⟨g4, 0, none⟩)]), pl 2 (.pointer (some ⟨g5, 0, none⟩)), pl 5 (.slice A3 l1.length c3), pl 6 (.slice A2 (Int.toNat (g3.length : Int)) c2), pl 9 (.pointer (some ⟨g6, 0, none⟩)), pl 17 (.slice A1 g3.length c1), pl 18 (.int .i64 (g3.length : Int)), pl 19 (.int .i64 z1), pl 52 (.slice A6 r2.1.length c6), pl 53 (.int .i64 (r2.1.length : Int)), pl 54 (.int .i64 x.2)] a ∧ Sep w0 B w (blk g4 3 #[.int .i64 v1] :: blk g5 24 #[.int .i64 g1, .int .i64 g2, .slice A1 g3.length c1] :: pg1 :: prs encP92 gfP92 cfP92 RelQ92 pg1 92 94 A3 l1.length c3 raw1 l1 :: own 4 (.slice A2 (Int.toNat (g3.length : Int)) c2) (vB x.1) :: blk g6 94 #[.slice A6 r2.1.length c6, .slice A7 r2.2.length c7, .bool false] :: own 3 (.slice A6 r2.1.length c6) (vI r2.1) :: own 3 (.slice A7 r2.2.length c7) (vI r2.2) :: fs)) (assoc_b hm) ⟨hF.weak [1, 2, 5, 6, 9, 17, 18, 19, 52, 53, 54] (by kernel_rfl), hS⟩ ?_
            clear hF hS hm
            rintro nn2 ⟨done3, z2⟩ a w ⟨hF, hS⟩ hm
            generalize hφ2 : stK (stones_parts_2_L2 g3 r2) nn2 (fun x => ((stones_parts_2_K2 l1 z1 r2) x).bind φ1) = φ2 at hm
            unfold stones_parts_2_L2 at hm
            dsimp only at hF hS hm
            refine reg [] [] [1, 2, 5, 6, 9, 17, 18, 19, 52, 53, 54, 55] [pl 1 (.func (.func 48) #[] #[.pointer (some ⟨g4, 0, none⟩)]), pl 2 (.pointer (some ⟨g5, 0, none⟩)), pl 5 (.slice A3 l1.length c3), pl 6 (.slice A2 (Int.toNat (g3.length : Int)) c2), pl 9 (.pointer (some ⟨g6, 0, none⟩)), pl 17 (.slice A1 g3.length c1), pl 18 (.int .i64 (g3.length : Int)), pl 19 (.int .i64 z1), pl 52 (.slice A6 r2.1.length c6), pl 53 (.int .i64 (r2.1.length : Int)), pl 54 (.int .i64 z2), pl 55 (.bool (decide (z2 < (r2.1.length : Int))))] hF hS Fol (by kernel_rfl) (by kernel_rfl) (by kernel_rfl) ?_ (fun a w hF hS => ?_)
            · exact obs_nil
            refine seq_cut (fun a w => Fr 68 [pl 1 (.func (.func 48) #[] #[.pointer (some ⟨g4, 0, none⟩)]), pl 2 (.pointer (some ⟨g5, 0, none⟩)), pl 5 (.slice A3 l1.length c3), pl 6 (.slice A2 (Int.toNat (g3.length : Int)) c2), pl 9 (.pointer (some ⟨g6, 0, none⟩)), pl 17 (.slice A1 g3.length c1), pl 18 (.int .i64 (g3.length : Int)), pl 19 (.int .i64 z1), pl 52 (.slice A6 r2.1.length c6), pl 53 (.int .i64 (r2.1.length : Int)), pl 54 (.int .i64 z2)] a ∧ Sep w0 B w (blk g4 3 #[.int .i64 v1] :: blk g5 24 #[.int .i64 g1, .int .i64 g2, .slice A1 g3.length c1] :: pg1 :: prs encP92 gfP92 cfP92 RelQ92 pg1 92 94 A3 l1.length c3 raw1 l1 :: own 4 (.slice A2 (Int.toNat (g3.length : Int)) c2) (vB done3) :: blk g6 94 #[.slice A6 r2.1.length c6, .slice A7 r2.2.length c7, .bool false] :: own 3 (.slice A6 r2.1.length c6) (vI r2.1) :: own 3 (.slice A7 r2.2.length c7) (vI r2.2) :: fs) ∧ ((stones_parts_2_J6 g3 r2 done3 z2)).bind φ2 = some r) ?_ ?_
            · rintro a w ⟨hF, hS, hm⟩
              unfold stones_parts_2_J6 at hm
              refine seq_cut (fun a w => Fr 68 [pl 1 (.func (.func 48) #[] #[.pointer (some ⟨g4, 0, none⟩)]), pl 2 (.pointer (some ⟨g5, 0, none⟩)), pl 5 (.slice A3 l1.length c3), pl 6 (.slice A2 (Int.toNat (g3.length : Int)) c2), pl 9 (.pointer (some ⟨g6, 0, none⟩)), pl 17 (.slice A1 g3.length c1), pl 18 (.int .i64 (g3.length : Int)), pl 19 (.int .i64 z1), pl 52 (.slice A6 r2.1.length c6), pl 53 (.int .i64 (r2.1.length : Int)), pl 54 (.int .i64 z2)] a ∧ Sep w0 B w (blk g4 3 #[.int .i64 v1] :: blk g5 24 #[.int .i64 g1, .int .i64 g2, .slice A1 g3.length c1] :: pg1 :: prs encP92 gfP92 cfP92 RelQ92 pg1 92 94 A3 l1.length c3 raw1 l1 :: own 4 (.slice A2 (Int.toNat (g3.length : Int)) c2) (vB (done3.set (Int.toNat (geti r2.1 z2)) true)) :: blk g6 94 #[.slice A6 r2.1.length c6, .slice A7 r2.2.length c7, .bool false] :: own 3 (.slice A6 r2.1.length c6) (vI r2.1) :: own 3 (.slice A7 r2.2.length c7) (vI r2.2) :: fs) ∧ ((stones_parts_2_J7 r2 done3 z2)).bind φ2 = some r) ?_ ?_
              · rintro a w ⟨hF, hS, hm⟩
                unfold stones_parts_2_J7 at hm
                refine reg1 [] [] [1, 2, 5, 6, 9, 17, 18, 19, 52, 53, 54] [pl 1 (.func (.func 48) #[] #[.pointer (some ⟨g4, 0, none⟩)]), pl 2 (.pointer (some ⟨g5, 0, none⟩)), pl 5 (.slice A3 l1.length c3), pl 6 (.slice A2 (Int.toNat (g3.length : Int)) c2), pl 9 (.pointer (some ⟨g6, 0, none⟩)), pl 17 (.slice A1 g3.length c1), pl 18 (.int .i64 (g3.length : Int)), pl 19 (.int .i64 z1), pl 52 (.slice A6 r2.1.length c6), pl 53 (.int .i64 (r2.1.length : Int)), pl 54 (.int .i64 (w64 (z2 + 1)))] hF hS Fol (by kernel_rfl) (by kernel_rfl) (by kernel_rfl) ?_ (fun a w hF hS => ?_)
                · exact obs_nil
                refine then_n ?_
                rw [← hφ2] at hm
                exact ⟨((done3.set (Int.toNat (geti r2.1 z2)) true), (w64 (z2 + 1))), ⟨hF.weak [1, 2, 5, 6, 9, 17, 18, 19, 52, 53, 54] (by kernel_rfl), hS⟩, hm⟩
              · refine wpIn_block ?_
                obtain ⟨hp4, hm⟩ := asrt_b hm
                refine reg [⟨true, [], vS (Instr.indexAt 22 (.slice A6 r2.1.length c6) (.int .i64 z2)), .pointer (some (sAddr A6 z2))⟩, ⟨false, [], vS (Instr.loadAt 3 (.pointer (some (sAddr A6 z2)))), .int .i64 (geti r2.1 z2)⟩] [some (.pointer (some (sAddr A6 z2))), some (.int .i64 (geti r2.1 z2)), none] [1, 2, 5, 6, 9, 11, 17, 18, 19, 52, 53, 54] [pl 1 (.func (.func 48) #[] #[.pointer (some ⟨g4, 0, none⟩)]), pl 2 (.pointer (some ⟨g5, 0, none⟩)), pl 5 (.slice A3 l1.length c3), pl 6 (.slice A2 (Int.toNat (g3.length : Int)) c2), pl 9 (.pointer (some ⟨g6, 0, none⟩)), pl 11 (.int .i64 (geti r2.1 z2)), pl 17 (.slice A1 g3.length c1), pl 18 (.int .i64 (g3.length : Int)), pl 19 (.int .i64 z1), pl 52 (.slice A6 r2.1.length c6), pl 53 (.int .i64 (r2.1.length : Int)), pl 54 (.int .i64 z2)] hF hS Fol (by kernel_rfl) (by kernel_rfl) (by kernel_rfl) ?_ (fun a w hF hS => ?_)
                · exact obs_cons (ob_ix1 (f := (Value.int .i64)) (m := r2.1) Und22 hi3 hs3 (hS.at_ 6 rfl).rd rfl (fun _ => hp4)) <| obs_cons (ob_get1 (n := r2.1.length) (m := r2.1) (Value.int .i64) (0 : Int) Agg3 (fun _ hS => ⟨_, (hS.at_ 6 rfl).rd⟩) (fun _ hS => rfl) (fun _ => hp4)) <| obs_nil
                refine oneR ?_
                obtain ⟨hp5, hm⟩ := asrt_b hm
                refine at_run 3 [⟨true, [], vS (Instr.indexAt 86 (.slice A2 (Int.toNat (g3.length : Int)) c2) (.int .i64 (geti r2.1 z2))), .pointer (some (sAddr A2 (geti r2.1 z2)))⟩] [none, none, some (.pointer (some (sAddr A2 (geti r2.1 z2))))] [1, 2, 5, 6, 9, 17, 18, 19, 52, 53, 54, 60] [pl 1 (.func (.func 48) #[] #[.pointer (some ⟨g4, 0, none⟩)]), pl 2 (.pointer (some ⟨g5, 0, none⟩)), pl 5 (.slice A3 l1.length c3), pl 6 (.slice A2 (Int.toNat (g3.length : Int)) c2), pl 9 (.pointer (some ⟨g6, 0, none⟩)), pl 17 (.slice A1 g3.length c1), pl 18 (.int .i64 (g3.length : Int)), pl 19 (.int .i64 z1), pl 52 (.slice A6 r2.1.length c6), pl 53 (.int .i64 (r2.1.length : Int)), pl 54 (.int .i64 z2), pl 60 (.pointer (some (sAddr A2 (geti r2.1 z2))))] hF hS (by kernel_rfl) (by kernel_rfl) ?_ (fun a w hF hS => ?_)
                · exact obs_cons (ob_ix1 (f := Value.bool) (m := done3) Und86 hi4 hs4 (hS.at_ 4 rfl).rd ((hS.at_ 4 rfl).len1) (fun _ => hp5)) <| obs_nil
                obtain ⟨w, hrun, hS⟩ := run_set1 (P := Try.prog) (t := 4) (x := true) Value.bool (hS.at_ 4 rfl) hi4 hs4 rfl rfl hp5
                refine at_skip hF (by kernel_rfl) hrun ?_
                have hS : Sep w0 B w (blk g4 3 #[.int .i64 v1] :: blk g5 24 #[.int .i64 g1, .int .i64 g2, .slice A1 g3.length c1] :: pg1 :: prs encP92 gfP92 cfP92 RelQ92 pg1 92 94 A3 l1.length c3 raw1 l1 :: own 4 (.slice A2 (Int.toNat (g3.length : Int)) c2) (vB (done3.set (Int.toNat (geti r2.1 z2)) true)) :: blk g6 94 #[.slice A6 r2.1.length c6, .slice A7 r2.2.length c7, .bool false] :: own 3 (.slice A6 r2.1.length c6) (vI r2.1) :: own 3 (.slice A7 r2.2.length c7) (vI r2.2) :: fs) := hS
                refine at_end [1, 2, 5, 6, 9, 17, 18, 19, 52, 53, 54] [pl 1 (.func (.func 48) #[] #[.pointer (some ⟨g4, 0, none⟩)]), pl 2 (.pointer (some ⟨g5, 0, none⟩)), pl 5 (.slice A3 l1.length c3), pl 6 (.slice A2 (Int.toNat (g3.length : Int)) c2), pl 9 (.pointer (some ⟨g6, 0, none⟩)), pl 17 (.slice A1 g3.length c1), pl 18 (.int .i64 (g3.length : Int)), pl 19 (.int .i64 z1), pl 52 (.slice A6 r2.1.length c6), pl 53 (.int .i64 (r2.1.length : Int)), pl 54 (.int .i64 z2)] hF rfl (by kernel_rfl) (fun hF => ?_)
                refine block_n ?_
                refine then_n ?_
                exact ⟨hF.weak [1, 2, 5, 6, 9, 17, 18, 19, 52, 53, 54] (by kernel_rfl), hS, hm⟩
            · refine cond_ev (t := 55) (b := decide (z2 < (r2.1.length : Int))) hF (by kernel_rfl) (fun hb => ?_) (fun hb => ?_)
              · replace hm := if_t hm hb
                refine wpIn_skip ?_
                refine then_n ?_
                exact ⟨hF.weak [1, 2, 5, 6, 9, 17, 18, 19, 52, 53, 54] (by kernel_rfl), hS, hm⟩
              · replace hm := if_f hm hb
                refine wpIn_exit ?_
                refine then_e (then_e (block_e (then_n ?_)))
                rw [← hφ2] at hm
                replace hm := done_b hm
                unfold stones_parts_2_K2 at hm
                try dsimp only at hm
                have hm : ((stones_parts_2_J5 l1 z1 r2) done3).bind φ1 = some r := hm
                exact ⟨done3, hF.weak [1, 2, 5, 6, 9, 17, 18, 19] (by kernel_rfl), hS, hm⟩
        · obtain ⟨r1, hr1, hm⟩ := call_b hm
          obtain ⟨hp3, hm⟩ := asrt_b hm
          refine reg [⟨false, [], callFunc 48 #[.int .i64 (geti g3 z1), .pointer (some ⟨g4, 0, none⟩)], .bool r1⟩, ⟨true, [(!r1, false)], vS (Instr.indexAt 86 (.slice A2 (Int.toNat (g3.length : Int)) c2) (.int .i64 z1)), .pointer (some (sAddr A2 z1))⟩, ⟨false, [(!r1, false)], vS (Instr.loadAt 4 (.pointer (some (sAddr A2 z1)))), .bool (getb done1 z1)⟩] [none, none, some (.bool r1), none, none, none, none, some (.pointer (some (sAddr A2 z1))), some (.bool (getb done1 z1)), none] [1, 2, 5, 6, 7, 17, 18, 19, 33] [pl 1 (.func (.func 48) #[] #[.pointer (some ⟨g4, 0, none⟩)]), pl 2 (.pointer (some ⟨g5, 0, none⟩)), pl 5 (.slice A3 l1.length c3), pl 6 (.slice A2 (Int.toNat (g3.length : Int)) c2), pl 7 (.int .i64 z1), pl 17 (.slice A1 g3.length c1), pl 18 (.int .i64 (g3.length : Int)), pl 19 (.int .i64 z1), pl 33 (.bool ((!r1) || (getb done1 z1)))] hF hS Fol (by kernel_rfl) (by kernel_rfl) (by kernel_rfl) ?_ (fun a w hF hS => ?_)
          · exact obs_cons (ob_call Try.func48 (by kernel_rfl) rfl (fun _ _ hS => stones_Alive_2_w hr1 hS )) <| obs_cons (ob_ix1 (f := Value.bool) (m := done1) Und86 hi4 hs4 (hS.at_ 4 rfl).rd ((hS.at_ 4 rfl).len1) (fun hy => hp3 (hy (!r1, false) (by simp)))) <| obs_cons (ob_get1 (n := (Int.toNat (g3.length : Int))) (m := done1) Value.bool false Agg4 (fun _ hS => ⟨_, (hS.at_ 4 rfl).rd⟩) (fun _ hS => ((hS.at_ 4 rfl).len1)) (fun hy => hp3 (hy (!r1, false) (by simp)))) <| obs_nil
          refine cond_ev (t := 33) (b := (!r1) || (getb done1 z1)) hF (by kernel_rfl) (fun hb => ?_) (fun hb => ?_)
          · replace hm := if_t hm hb
            refine wpIn_exit ?_
            refine then_e (block_e (then_n ?_))
            exact ⟨l1, done1, pg1, raw1, A3, c3, hF.weak [1, 2, 5, 6, 17, 18, 19] (by kernel_rfl), hS, hm⟩
          · replace hm := if_f hm hb
            refine wpIn_skip ?_
            refine then_n ?_
            exact ⟨hF.weak [1, 2, 5, 6, 7, 17, 18, 19] (by kernel_rfl), hS, hm⟩
    · refine cond_ev (t := 20) (b := decide (z1 < (g3.length : Int))) hF (by kernel_rfl) (fun hb => ?_) (fun hb => ?_)
      · replace hm := if_t hm hb
        refine wpIn_skip ?_
        refine then_n ?_
        exact ⟨hF.weak [1, 2, 5, 6, 17, 18, 19] (by kernel_rfl), hS, hm⟩
      · replace hm := if_f hm hb
        refine wpIn_exit ?_
        refine then_e (then_e (block_e (then_n ?_)))
        have hS := hS.pickN 5 [2, 3, 0] (by decide)
        rw [← hφ1] at hm
        replace hm := done_b hm
        unfold stones_parts_2_K1 at hm
        try dsimp only at hm
        have hm : (stones_parts_2_J1 l1).bind some = some r := hm
        exact ⟨l1, pg1, raw1, A3, c3, hF.weak [5] (by kernel_rfl), hS, hm⟩

noncomputable def slices_Index_J3  (z1 : Int) : Option (St Int (Fl Unit Int)) :=
  some (.next (w64 (z1 + 1)))

noncomputable def slices_Index_J2  (s1 : List Int) (v1 : Int) (z1 : Int) : Option (St Int (Fl Unit Int)) :=
  asrt (0 ≤ z1 ∧ z1 < (s1.length : Int)) <| if (v1 == (geti s1 z1)) then (some (.done (.ret z1))) else ((slices_Index_J3 z1))

noncomputable def slices_Index_J1  : Option Int :=
  some (-1)

noncomputable def slices_Index_K1  : (Fl Unit Int) → Option Int :=
  fun (x : (Fl Unit Int)) => match x with | .go _ => slices_Index_J1 | .ret x => some x

noncomputable def slices_Index_L1  (s1 : List Int) (v1 : Int) : Int → Option (St Int (Fl Unit Int)) :=
  fun (x : Int) => match x with | z1 => if (decide (z1 < (s1.length : Int))) then ((slices_Index_J2 s1 v1 z1)) else (some (.done (.go ())))

noncomputable def slices_Index_m  (s1 : List Int) (v1 : Int) : Option Int :=
  (loop (slices_Index_L1 s1 v1) 0).bind slices_Index_K1

set_option maxRecDepth 100000 in
set_option maxHeartbeats 4000000 in
theorem slices_Index_w  {A1 : Option Addr} {c1 : Nat} {n1 : Nat} {s1 : List Int} {v1 : Int} {r : Int} {w0 w : World} {B : Nat} {fs : List HP} (hm : slices_Index_m s1 v1 = some r) (hS : Sep w0 B w (fs)) (hr_s1 : RdF w0 B fs A1 (vI s1)) (_hc_s1 : s1.length ≤ c1) (_hn_s1 : n1 = s1.length) :
    Calls Try.prog 78 #[.slice A1 n1 c1, .int .i64 v1] w fun e w' => e = .returned (.int .i64 r) ∧ Sep w0 B w' (fs) := by
  obtain ⟨i3, hi3, hz3, hs3, hb3⟩ := info_parts Info3
  obtain rfl := _hn_s1
  unfold slices_Index_m at hm
  replace hm := start_b hm
  refine enter (l := [.slice A1 s1.length c1, .int .i64 v1]) (n := 19) Try.func78 rfl rfl (by simp) (fun a hF => ?_)
  refine reg [] [] [0, 1] [pl 0 (.slice A1 s1.length c1), pl 1 (.int .i64 v1)] hF hS Fol (by kernel_rfl) (by kernel_rfl) (by kernel_rfl) ?_ (fun a w hF hS => ?_)
  · exact obs_nil
  refine seq_cut (fun a w => Fr 19 [] a ∧ Sep w0 B w (fs) ∧ (slices_Index_J1).bind some = some r) ?_ ?_
  · rintro a w ⟨hF, hS, hm⟩
    unfold slices_Index_J1 at hm
    refine reg [] [] [4] [pl 4 (.int .i64 (-1))] hF hS Fol (by kernel_rfl) (by kernel_rfl) (by kernel_rfl) ?_ (fun a w hF hS => ?_)
    · exact obs_nil
    refine wpIn_ret ?_
    have hm : some (-1) = some r := hm
    obtain rfl := Option.some.inj hm
    exact retV (rs := [.tmp 4]) (vs := [.int .i64 (-1)]) hF rfl (rv_t (by kernel_rfl) <| rv_nil) rfl ⟨rfl, hS⟩
  · refine reg [] [] [0, 1, 7, 8] [pl 0 (.slice A1 s1.length c1), pl 1 (.int .i64 v1), pl 7 (.int .i64 (s1.length : Int)), pl 8 (.int .i64 0)] hF hS Fol (by kernel_rfl) (by kernel_rfl) (by kernel_rfl) ?_ (fun a w hF hS => ?_)
    · exact obs_nil
    refine wpIn_block ?_
    refine wp_loop_model (S := Int) (R := (Fl Unit Int)) (slices_Index_L1 s1 v1) (fun x => (slices_Index_K1 x).bind some) r (fun (x : Int) a w => Fr 19 [pl 0 (.slice A1 s1.length c1), pl 1 (.int .i64 v1), pl 7 (.int .i64 (s1.length : Int)), pl 8 (.int .i64 x)] a ∧ Sep w0 B w (fs)) (assoc_b hm) ⟨hF.weak [0, 1, 7, 8] (by kernel_rfl), hS⟩ ?_
    clear hF hS hm
    rintro nn1 z1 a w ⟨hF, hS⟩ hm
    generalize hφ1 : stK (slices_Index_L1 s1 v1) nn1 (fun x => (slices_Index_K1 x).bind some) = φ1 at hm
    unfold slices_Index_L1 at hm
    dsimp only at hm
    refine reg [] [] [0, 1, 7, 8, 9] [pl 0 (.slice A1 s1.length c1), pl 1 (.int .i64 v1), pl 7 (.int .i64 (s1.length : Int)), pl 8 (.int .i64 z1), pl 9 (.bool (decide (z1 < (s1.length : Int))))] hF hS Fol (by kernel_rfl) (by kernel_rfl) (by kernel_rfl) ?_ (fun a w hF hS => ?_)
    · exact obs_nil
    refine seq_cut (fun a w => Fr 19 [pl 0 (.slice A1 s1.length c1), pl 1 (.int .i64 v1), pl 7 (.int .i64 (s1.length : Int)), pl 8 (.int .i64 z1)] a ∧ Sep w0 B w (fs) ∧ ((slices_Index_J2 s1 v1 z1)).bind φ1 = some r) ?_ ?_
    · rintro a w ⟨hF, hS, hm⟩
      unfold slices_Index_J2 at hm
      refine seq_cut (fun a w => Fr 19 [pl 0 (.slice A1 s1.length c1), pl 1 (.int .i64 v1), pl 7 (.int .i64 (s1.length : Int)), pl 8 (.int .i64 z1)] a ∧ Sep w0 B w (fs) ∧ ((slices_Index_J3 z1)).bind φ1 = some r) ?_ ?_
      · rintro a w ⟨hF, hS, hm⟩
        unfold slices_Index_J3 at hm
        refine reg1 [] [] [0, 1, 7, 8] [pl 0 (.slice A1 s1.length c1), pl 1 (.int .i64 v1), pl 7 (.int .i64 (s1.length : Int)), pl 8 (.int .i64 (w64 (z1 + 1)))] hF hS Fol (by kernel_rfl) (by kernel_rfl) (by kernel_rfl) ?_ (fun a w hF hS => ?_)
        · exact obs_nil
        refine then_n ?_
        rw [← hφ1] at hm
        exact ⟨(w64 (z1 + 1)), ⟨hF.weak [0, 1, 7, 8] (by kernel_rfl), hS⟩, hm⟩
      · refine wpIn_block ?_
        refine reg [] [] [0, 1, 5, 7, 8] [pl 0 (.slice A1 s1.length c1), pl 1 (.int .i64 v1), pl 5 (.int .i64 z1), pl 7 (.int .i64 (s1.length : Int)), pl 8 (.int .i64 z1)] hF hS Fol (by kernel_rfl) (by kernel_rfl) (by kernel_rfl) ?_ (fun a w hF hS => ?_)
        · exact obs_nil
        obtain ⟨hp1, hm⟩ := asrt_b hm
        refine reg [⟨true, [], vS (Instr.indexAt 22 (.slice A1 s1.length c1) (.int .i64 z1)), .pointer (some (sAddr A1 z1))⟩, ⟨false, [], vS (Instr.loadAt 3 (.pointer (some (sAddr A1 z1)))), .int .i64 (geti s1 z1)⟩] [none, none, none, some (.pointer (some (sAddr A1 z1))), some (.int .i64 (geti s1 z1)), none] [0, 1, 5, 7, 8, 16] [pl 0 (.slice A1 s1.length c1), pl 1 (.int .i64 v1), pl 5 (.int .i64 z1), pl 7 (.int .i64 (s1.length : Int)), pl 8 (.int .i64 z1), pl 16 (.bool (v1 == (geti s1 z1)))] hF hS Fol (by kernel_rfl) (by kernel_rfl) (by kernel_rfl) ?_ (fun a w hF hS => ?_)
        · exact obs_cons (ob_ix1 (f := (Value.int .i64)) (m := s1) Und22 hi3 hs3 (hr_s1 _ (hS.dropN 0)) rfl (fun _ => hp1)) <| obs_cons (ob_get1 (n := s1.length) (m := s1) (Value.int .i64) (0 : Int) Agg3 (fun _ hS => ⟨_, (hr_s1 _ (hS.dropN 0))⟩) (fun _ hS => rfl) (fun _ => hp1)) <| obs_nil
        refine cond_ev (t := 16) (b := (v1 == (geti s1 z1))) hF (by kernel_rfl) (fun hb => ?_) (fun hb => ?_)
        · replace hm := if_t hm hb
          refine reg [] [] [4] [pl 4 (.int .i64 z1)] hF hS Fol (by kernel_rfl) (by kernel_rfl) (by kernel_rfl) ?_ (fun a w hF hS => ?_)
          · exact obs_nil
          refine wpIn_ret ?_
          refine block_r (then_r (then_r (block_r (then_r ?_))))
          rw [← hφ1] at hm
          replace hm := done_b hm
          unfold slices_Index_K1 at hm
          try dsimp only at hm
          have hm : some z1 = some r := hm
          obtain rfl := Option.some.inj hm
          exact retV (rs := [.tmp 4]) (vs := [.int .i64 z1]) hF rfl (rv_t (by kernel_rfl) <| rv_nil) rfl ⟨rfl, hS⟩
        · replace hm := if_f hm hb
          refine wpIn_skip ?_
          refine block_n ?_
          refine then_n ?_
          exact ⟨hF.weak [0, 1, 7, 8] (by kernel_rfl), hS, hm⟩
    · refine cond_ev (t := 9) (b := decide (z1 < (s1.length : Int))) hF (by kernel_rfl) (fun hb => ?_) (fun hb => ?_)
      · replace hm := if_t hm hb
        refine wpIn_skip ?_
        refine then_n ?_
        exact ⟨hF.weak [0, 1, 7, 8] (by kernel_rfl), hS, hm⟩
      · replace hm := if_f hm hb
        refine wpIn_exit ?_
        refine then_e (then_e (block_e (then_n ?_)))
        rw [← hφ1] at hm
        replace hm := done_b hm
        unfold slices_Index_K1 at hm
        try dsimp only at hm
        have hm : (slices_Index_J1).bind some = some r := hm
        exact ⟨hF.weak [] (by kernel_rfl), hS, hm⟩

noncomputable def slices_Contains_m  (s1 : List Int) (v1 : Int) : Option Bool :=
  (slices_Index_m s1 v1).bind fun r1 => some (decide ((0 : Int) ≤ r1))

set_option maxRecDepth 100000 in
set_option maxHeartbeats 4000000 in
theorem slices_Contains_w  {A1 : Option Addr} {c1 : Nat} {n1 : Nat} {s1 : List Int} {v1 : Int} {r : Bool} {w0 w : World} {B : Nat} {fs : List HP} (hm : slices_Contains_m s1 v1 = some r) (hS : Sep w0 B w (fs)) (hr_s1 : RdF w0 B fs A1 (vI s1)) (_hc_s1 : s1.length ≤ c1) (_hn_s1 : n1 = s1.length) :
    Calls Try.prog 52 #[.slice A1 n1 c1, .int .i64 v1] w fun e w' => e = .returned (.bool r) ∧ Sep w0 B w' (fs) := by
  obtain ⟨i3, hi3, hz3, hs3, hb3⟩ := info_parts Info3
  obtain rfl := _hn_s1
  unfold slices_Contains_m at hm
  replace hm := start_b hm
  refine enter (l := [.slice A1 s1.length c1, .int .i64 v1]) (n := 9) Try.func52 rfl rfl (by simp) (fun a hF => ?_)
  refine reg [] [] [0, 1] [pl 0 (.slice A1 s1.length c1), pl 1 (.int .i64 v1)] hF hS Fol (by kernel_rfl) (by kernel_rfl) (by kernel_rfl) ?_ (fun a w hF hS => ?_)
  · exact obs_nil
  obtain ⟨r1, hr1, hm⟩ := call_b hm
  refine reg [⟨false, [], callFunc 78 #[.slice A1 s1.length c1, .int .i64 v1], .int .i64 r1⟩] [none, none, some (.int .i64 r1), none, none] [4] [pl 4 (.bool (decide ((0 : Int) ≤ r1)))] hF hS Fol (by kernel_rfl) (by kernel_rfl) (by kernel_rfl) ?_ (fun a w hF hS => ?_)
  · exact obs_cons (ob_call Try.func78 (by kernel_rfl) rfl (fun _ _ hS => slices_Index_w hr1 hS (fun _ hS => (hr_s1 _ (hS.dropN 0))) _hc_s1 rfl)) <| obs_nil
  refine wpIn_ret ?_
  have hm : some (decide ((0 : Int) ≤ r1)) = some r := hm
  obtain rfl := Option.some.inj hm
  exact retV (rs := [.tmp 4]) (vs := [.bool (decide ((0 : Int) ≤ r1))]) hF rfl (rv_t (by kernel_rfl) <| rv_nil) rfl ⟨rfl, hS⟩

noncomputable def stones_vital_J3  (z1 : Int) (some3 : Bool) : Option (St (Bool × Int) (Fl Bool Bool)) :=
  some (.next (some3, (w64 (z1 + 1))))

noncomputable def stones_vital_J2  (g3 : List Int) (region1 : List Int) (group2 : List Int) (some1 : Bool) (z1 : Int) : Option (St (Bool × Int) (Fl Bool Bool)) :=
  asrt (0 ≤ z1 ∧ z1 < (region1.length : Int)) <| asrt (0 ≤ (geti region1 z1) ∧ (geti region1 z1) < (g3.length : Int)) <| if ((geti g3 (geti region1 z1)) == 0) then ((slices_Contains_m group2 (geti region1 z1)).bind fun r1 => if (!r1) then (some (.done (.ret false))) else ((stones_vital_J3 z1) true)) else ((stones_vital_J3 z1) some1)

noncomputable def stones_vital_J1  (some2 : Bool) : Option Bool :=
  some some2

noncomputable def stones_vital_K1  : (Fl Bool Bool) → Option Bool :=
  fun (x : (Fl Bool Bool)) => match x with | .go some2 => stones_vital_J1 some2 | .ret x => some x

noncomputable def stones_vital_L1  (g3 : List Int) (region1 : List Int) (group2 : List Int) : (Bool × Int) → Option (St (Bool × Int) (Fl Bool Bool)) :=
  fun (x : (Bool × Int)) => match x with | (some1, z1) => if (decide (z1 < (region1.length : Int))) then ((stones_vital_J2 g3 region1 group2 some1 z1)) else (some (.done (.go some1)))

noncomputable def stones_vital_m  (g1 : Int) (g2 : Int) (g3 : List Int) (region1 : List Int) (region2 : List Int) (region3 : Bool) (group1 : List Int) (group2 : List Int) (group3 : Bool) : Option Bool :=
  (loop (stones_vital_L1 g3 region1 group2) (false, 0)).bind stones_vital_K1

set_option maxRecDepth 100000 in
set_option maxHeartbeats 4000000 in
theorem stones_vital_w  {g1 : Int} {g2 : Int} {A1 : Option Addr} {c1 : Nat} {n1 : Nat} {g3 : List Int} {g4 : Nat} {A2 : Option Addr} {c2 : Nat} {n2 : Nat} {region1 : List Int} {A3 : Option Addr} {c3 : Nat} {n3 : Nat} {region2 : List Int} {region3 : Bool} {g5 : Nat} {A4 : Option Addr} {c4 : Nat} {n4 : Nat} {group1 : List Int} {A5 : Option Addr} {c5 : Nat} {n5 : Nat} {group2 : List Int} {group3 : Bool} {r : Bool} {w0 w : World} {B : Nat} {fs : List HP} (hm : stones_vital_m g1 g2 g3 region1 region2 region3 group1 group2 group3 = some r) (hS : Sep w0 B w (fs)) (hr_g3 : RdF w0 B fs A1 (vI g3)) (_hc_g3 : g3.length ≤ c1) (_hn_g3 : n1 = g3.length) (hr_region1 : RdF w0 B fs A2 (vI region1)) (_hc_region1 : region1.length ≤ c2) (_hn_region1 : n2 = region1.length) (hr_region2 : RdF w0 B fs A3 (vI region2)) (_hc_region2 : region2.length ≤ c3) (_hn_region2 : n3 = region2.length) (hr_group1 : RdF w0 B fs A4 (vI group1)) (_hc_group1 : group1.length ≤ c4) (_hn_group1 : n4 = group1.length) (hr_group2 : RdF w0 B fs A5 (vI group2)) (_hc_group2 : group2.length ≤ c5) (_hn_group2 : n5 = group2.length) (hB_g4 : RdB w0 B fs g4 ([.slice A2 n2 c2, .slice A3 n3 c3, .bool region3] : List Value)) (hB_g5 : RdB w0 B fs g5 ([.slice A4 n4 c4, .slice A5 n5 c5, .bool group3] : List Value)) :
    Calls Try.prog 49 #[.agg #[.int .i64 g1, .int .i64 g2, .slice A1 n1 c1], .pointer (some ⟨g4, 0, none⟩), .pointer (some ⟨g5, 0, none⟩)] w fun e w' => e = .returned (.bool r) ∧ Sep w0 B w' (fs) := by
  obtain ⟨i3, hi3, hz3, hs3, hb3⟩ := info_parts Info3
  obtain rfl := _hn_g3
  obtain rfl := _hn_region1
  obtain rfl := _hn_region2
  obtain rfl := _hn_group1
  obtain rfl := _hn_group2
  unfold stones_vital_m at hm
  replace hm := start_b hm
  refine enter (l := [.agg #[.int .i64 g1, .int .i64 g2, .slice A1 g3.length c1], .pointer (some ⟨g4, 0, none⟩), .pointer (some ⟨g5, 0, none⟩)]) (n := 34) Try.func49 rfl rfl (by simp) (fun a hF => ?_)
  refine seqR ?_
  refine at_do (d := 3) (s := vS (Instr.box 24 (.agg #[.int .i64 g1, .int .i64 g2, .slice A1 g3.length c1]))) (v := .pointer (some ⟨w.heap.size, 0, none⟩)) (w' := w.alloc (.cells #[.int .i64 g1, .int .i64 g2, .slice A1 g3.length c1] 24)) hF (by kernel_rfl) (by kernel_rfl) (by kernel_rfl) (fun a hF => ?_)
  have hS : Sep w0 B (w.alloc (.cells #[.int .i64 g1, .int .i64 g2, .slice A1 g3.length c1] 24)) (blk w.heap.size 24 #[.int .i64 g1, .int .i64 g2, .slice A1 g3.length c1] :: (fs)) := hS.box 24 #[.int .i64 g1, .int .i64 g2, .slice A1 g3.length c1]
  generalize w.heap.size = g6 at hF hS
  generalize w.alloc (.cells #[.int .i64 g1, .int .i64 g2, .slice A1 g3.length c1] 24) = w at hS ⊢
  refine at_run 1 [] [] [1, 2, 3] [pl 1 (.pointer (some ⟨g4, 0, none⟩)), pl 2 (.pointer (some ⟨g5, 0, none⟩)), pl 3 (.pointer (some ⟨g6, 0, none⟩))] hF hS (by kernel_rfl) (by kernel_rfl) ?_ (fun a w hF hS => ?_)
  · exact obs_nil
  refine at_end [1, 2, 3] [pl 1 (.pointer (some ⟨g4, 0, none⟩)), pl 2 (.pointer (some ⟨g5, 0, none⟩)), pl 3 (.pointer (some ⟨g6, 0, none⟩))] hF rfl (by kernel_rfl) (fun hF => ?_)
  refine then_n ?_
  refine reg [] [] [1, 2, 3, 7] [pl 1 (.pointer (some ⟨g4, 0, none⟩)), pl 2 (.pointer (some ⟨g5, 0, none⟩)), pl 3 (.pointer (some ⟨g6, 0, none⟩)), pl 7 (.bool false)] hF hS Fol (by kernel_rfl) (by kernel_rfl) (by kernel_rfl) ?_ (fun a w hF hS => ?_)
  · exact obs_nil
  refine seq_cut (fun a w => ∃ (some2 : Bool), Fr 34 [pl 7 (.bool some2)] a ∧ Sep w0 B w (fs) ∧ (stones_vital_J1 some2).bind some = some r) ?_ ?_
  · rintro a w ⟨some2, hF, hS, hm⟩
    unfold stones_vital_J1 at hm
    refine reg [] [] [6] [pl 6 (.bool some2)] hF hS Fol (by kernel_rfl) (by kernel_rfl) (by kernel_rfl) ?_ (fun a w hF hS => ?_)
    · exact obs_nil
    refine wpIn_ret ?_
    have hm : some some2 = some r := hm
    obtain rfl := Option.some.inj hm
    exact retV (rs := [.tmp 6]) (vs := [.bool some2]) hF rfl (rv_t (by kernel_rfl) <| rv_nil) rfl ⟨rfl, hS⟩
  · refine reg [⟨false, [], vS (Instr.loadAt 22 (.pointer (some ⟨g4, 0, none⟩))), .slice A2 region1.length c2⟩] [none, none, none, some (.slice A2 region1.length c2), none, none] [2, 3, 7, 13, 14, 15] [pl 2 (.pointer (some ⟨g5, 0, none⟩)), pl 3 (.pointer (some ⟨g6, 0, none⟩)), pl 7 (.bool false), pl 13 (.slice A2 region1.length c2), pl 14 (.int .i64 (region1.length : Int)), pl 15 (.int .i64 0)] hF hS Fol (by kernel_rfl) (by kernel_rfl) (by kernel_rfl) ?_ (fun a w hF hS => ?_)
    · exact obs_cons (ob_loadP (cs := ([.slice A2 region1.length c2, .slice A3 region2.length c3, .bool region3] : List Value)) Agg22 (fun _ hS => hB_g4 _ (hS.dropN 1)) rfl) <| obs_nil
    refine wpIn_block ?_
    refine wp_loop_model (S := (Bool × Int)) (R := (Fl Bool Bool)) (stones_vital_L1 g3 region1 group2) (fun x => (stones_vital_K1 x).bind some) r (fun (x : (Bool × Int)) a w => Fr 34 [pl 2 (.pointer (some ⟨g5, 0, none⟩)), pl 3 (.pointer (some ⟨g6, 0, none⟩)), pl 7 (.bool x.1), pl 13 (.slice A2 region1.length c2), pl 14 (.int .i64 (region1.length : Int)), pl 15 (.int .i64 x.2)] a ∧ Sep w0 B w (blk g6 24 #[.int .i64 g1, .int .i64 g2, .slice A1 g3.length c1] :: fs)) (assoc_b hm) ⟨hF.weak [2, 3, 7, 13, 14, 15] (by kernel_rfl), hS⟩ ?_
    clear hF hS hm
    rintro nn1 ⟨some1, z1⟩ a w ⟨hF, hS⟩ hm
    generalize hφ1 : stK (stones_vital_L1 g3 region1 group2) nn1 (fun x => (stones_vital_K1 x).bind some) = φ1 at hm
    unfold stones_vital_L1 at hm
    dsimp only at hF hS hm
    refine reg [] [] [2, 3, 7, 13, 14, 15, 16] [pl 2 (.pointer (some ⟨g5, 0, none⟩)), pl 3 (.pointer (some ⟨g6, 0, none⟩)), pl 7 (.bool some1), pl 13 (.slice A2 region1.length c2), pl 14 (.int .i64 (region1.length : Int)), pl 15 (.int .i64 z1), pl 16 (.bool (decide (z1 < (region1.length : Int))))] hF hS Fol (by kernel_rfl) (by kernel_rfl) (by kernel_rfl) ?_ (fun a w hF hS => ?_)
    · exact obs_nil
    refine seq_cut (fun a w => Fr 34 [pl 2 (.pointer (some ⟨g5, 0, none⟩)), pl 3 (.pointer (some ⟨g6, 0, none⟩)), pl 7 (.bool some1), pl 13 (.slice A2 region1.length c2), pl 14 (.int .i64 (region1.length : Int)), pl 15 (.int .i64 z1)] a ∧ Sep w0 B w (blk g6 24 #[.int .i64 g1, .int .i64 g2, .slice A1 g3.length c1] :: fs) ∧ ((stones_vital_J2 g3 region1 group2 some1 z1)).bind φ1 = some r) ?_ ?_
    · rintro a w ⟨hF, hS, hm⟩
      unfold stones_vital_J2 at hm
      refine seq_cut (fun a w => ∃ (some3 : Bool), Fr 34 [pl 2 (.pointer (some ⟨g5, 0, none⟩)), pl 3 (.pointer (some ⟨g6, 0, none⟩)), pl 7 (.bool some3), pl 13 (.slice A2 region1.length c2), pl 14 (.int .i64 (region1.length : Int)), pl 15 (.int .i64 z1)] a ∧ Sep w0 B w (blk g6 24 #[.int .i64 g1, .int .i64 g2, .slice A1 g3.length c1] :: fs) ∧ ((stones_vital_J3 z1) some3).bind φ1 = some r) ?_ ?_
      · rintro a w ⟨some3, hF, hS, hm⟩
        unfold stones_vital_J3 at hm
        refine reg1 [] [] [2, 3, 7, 13, 14, 15] [pl 2 (.pointer (some ⟨g5, 0, none⟩)), pl 3 (.pointer (some ⟨g6, 0, none⟩)), pl 7 (.bool some3), pl 13 (.slice A2 region1.length c2), pl 14 (.int .i64 (region1.length : Int)), pl 15 (.int .i64 (w64 (z1 + 1)))] hF hS Fol (by kernel_rfl) (by kernel_rfl) (by kernel_rfl) ?_ (fun a w hF hS => ?_)
        · exact obs_nil
        refine then_n ?_
        rw [← hφ1] at hm
        exact ⟨(some3, (w64 (z1 + 1))), ⟨hF.weak [2, 3, 7, 13, 14, 15] (by kernel_rfl), hS⟩, hm⟩
      · refine wpIn_block ?_
        obtain ⟨hp1, hm⟩ := asrt_b hm
        refine reg [⟨true, [], vS (Instr.indexAt 22 (.slice A2 region1.length c2) (.int .i64 z1)), .pointer (some (sAddr A2 z1))⟩, ⟨false, [], vS (Instr.loadAt 3 (.pointer (some (sAddr A2 z1)))), .int .i64 (geti region1 z1)⟩] [some (.pointer (some (sAddr A2 z1))), some (.int .i64 (geti region1 z1)), none] [2, 3, 7, 9, 13, 14, 15] [pl 2 (.pointer (some ⟨g5, 0, none⟩)), pl 3 (.pointer (some ⟨g6, 0, none⟩)), pl 7 (.bool some1), pl 9 (.int .i64 (geti region1 z1)), pl 13 (.slice A2 region1.length c2), pl 14 (.int .i64 (region1.length : Int)), pl 15 (.int .i64 z1)] hF hS Fol (by kernel_rfl) (by kernel_rfl) (by kernel_rfl) ?_ (fun a w hF hS => ?_)
        · exact obs_cons (ob_ix1 (f := (Value.int .i64)) (m := region1) Und22 hi3 hs3 (hr_region1 _ (hS.dropN 1)) rfl (fun _ => hp1)) <| obs_cons (ob_get1 (n := region1.length) (m := region1) (Value.int .i64) (0 : Int) Agg3 (fun _ hS => ⟨_, (hr_region1 _ (hS.dropN 1))⟩) (fun _ hS => rfl) (fun _ => hp1)) <| obs_nil
        obtain ⟨hp2, hm⟩ := asrt_b hm
        refine reg [⟨false, [], vS (Instr.loadAt 22 (.pointer (some ⟨g6, 2, none⟩))), .slice A1 g3.length c1⟩, ⟨true, [], vS (Instr.indexAt 22 (.slice A1 g3.length c1) (.int .i64 (geti region1 z1))), .pointer (some (sAddr A1 (geti region1 z1)))⟩, ⟨false, [], vS (Instr.loadAt 3 (.pointer (some (sAddr A1 (geti region1 z1))))), .int .i64 (geti g3 (geti region1 z1))⟩] [none, some (.slice A1 g3.length c1), none, some (.pointer (some (sAddr A1 (geti region1 z1)))), some (.int .i64 (geti g3 (geti region1 z1))), none] [2, 3, 7, 9, 13, 14, 15, 24] [pl 2 (.pointer (some ⟨g5, 0, none⟩)), pl 3 (.pointer (some ⟨g6, 0, none⟩)), pl 7 (.bool some1), pl 9 (.int .i64 (geti region1 z1)), pl 13 (.slice A2 region1.length c2), pl 14 (.int .i64 (region1.length : Int)), pl 15 (.int .i64 z1), pl 24 (.bool ((geti g3 (geti region1 z1)) == 0))] hF hS Fol (by kernel_rfl) (by kernel_rfl) (by kernel_rfl) ?_ (fun a w hF hS => ?_)
        · exact obs_cons (ob_load Agg22 (fun _ _ hS => (hS.at_ 0 rfl).cell rfl)) <| obs_cons (ob_ix1 (f := (Value.int .i64)) (m := g3) Und22 hi3 hs3 (hr_g3 _ (hS.dropN 1)) rfl (fun _ => hp2)) <| obs_cons (ob_get1 (n := g3.length) (m := g3) (Value.int .i64) (0 : Int) Agg3 (fun _ hS => ⟨_, (hr_g3 _ (hS.dropN 1))⟩) (fun _ hS => rfl) (fun _ => hp2)) <| obs_nil
        refine cond_ev (t := 24) (b := ((geti g3 (geti region1 z1)) == 0)) hF (by kernel_rfl) (fun hb => ?_) (fun hb => ?_)
        · replace hm := if_t hm hb
          refine reg [] [] [2, 3, 7, 9, 13, 14, 15] [pl 2 (.pointer (some ⟨g5, 0, none⟩)), pl 3 (.pointer (some ⟨g6, 0, none⟩)), pl 7 (.bool true), pl 9 (.int .i64 (geti region1 z1)), pl 13 (.slice A2 region1.length c2), pl 14 (.int .i64 (region1.length : Int)), pl 15 (.int .i64 z1)] hF hS Fol (by kernel_rfl) (by kernel_rfl) (by kernel_rfl) ?_ (fun a w hF hS => ?_)
          · exact obs_nil
          obtain ⟨r1, hr1, hm⟩ := call_b hm
          refine reg [⟨false, [], vS (Instr.loadAt 22 (.pointer (some ⟨g5, 1, none⟩))), .slice A5 group2.length c5⟩, ⟨false, [], callFunc 52 #[.slice A5 group2.length c5, .int .i64 (geti region1 z1)], .bool r1⟩] [none, none, none, some (.slice A5 group2.length c5), none, some (.bool r1), none] [2, 3, 7, 13, 14, 15, 31] [pl 2 (.pointer (some ⟨g5, 0, none⟩)), pl 3 (.pointer (some ⟨g6, 0, none⟩)), pl 7 (.bool true), pl 13 (.slice A2 region1.length c2), pl 14 (.int .i64 (region1.length : Int)), pl 15 (.int .i64 z1), pl 31 (.bool (!r1))] hF hS Fol (by kernel_rfl) (by kernel_rfl) (by kernel_rfl) ?_ (fun a w hF hS => ?_)
          · exact obs_cons (ob_loadP (cs := ([.slice A4 group1.length c4, .slice A5 group2.length c5, .bool group3] : List Value)) Agg22 (fun _ hS => hB_g5 _ (hS.dropN 1)) rfl) <| obs_cons (ob_call Try.func52 (by kernel_rfl) rfl (fun _ _ hS => slices_Contains_w hr1 hS (fun _ hS => (hr_group2 _ (hS.dropN 1))) _hc_group2 rfl)) <| obs_nil
          refine cond_ev (t := 31) (b := !r1) hF (by kernel_rfl) (fun hb => ?_) (fun hb => ?_)
          · replace hm := if_t hm hb
            refine reg [] [] [6] [pl 6 (.bool false)] hF hS Fol (by kernel_rfl) (by kernel_rfl) (by kernel_rfl) ?_ (fun a w hF hS => ?_)
            · exact obs_nil
            refine wpIn_ret ?_
            refine block_r (then_r (then_r (block_r (then_r ?_))))
            rw [← hφ1] at hm
            replace hm := done_b hm
            unfold stones_vital_K1 at hm
            try dsimp only at hm
            have hS := hS.pickN 1 [] (by decide)
            have hm : some false = some r := hm
            obtain rfl := Option.some.inj hm
            exact retV (rs := [.tmp 6]) (vs := [.bool false]) hF rfl (rv_t (by kernel_rfl) <| rv_nil) rfl ⟨rfl, hS⟩
          · replace hm := if_f hm hb
            refine wpIn_skip ?_
            refine block_n ?_
            refine then_n ?_
            exact ⟨true, hF.weak [2, 3, 7, 13, 14, 15] (by kernel_rfl), hS, hm⟩
        · replace hm := if_f hm hb
          refine wpIn_skip ?_
          refine block_n ?_
          refine then_n ?_
          exact ⟨some1, hF.weak [2, 3, 7, 13, 14, 15] (by kernel_rfl), hS, hm⟩
    · refine cond_ev (t := 16) (b := decide (z1 < (region1.length : Int))) hF (by kernel_rfl) (fun hb => ?_) (fun hb => ?_)
      · replace hm := if_t hm hb
        refine wpIn_skip ?_
        refine then_n ?_
        exact ⟨hF.weak [2, 3, 7, 13, 14, 15] (by kernel_rfl), hS, hm⟩
      · replace hm := if_f hm hb
        refine wpIn_exit ?_
        refine then_e (then_e (block_e (then_n ?_)))
        have hS := hS.pickN 1 [] (by decide)
        rw [← hφ1] at hm
        replace hm := done_b hm
        unfold stones_vital_K1 at hm
        try dsimp only at hm
        have hm : (stones_vital_J1 some1).bind some = some r := hm
        exact ⟨some1, hF.weak [7] (by kernel_rfl), hS, hm⟩

noncomputable def stones_Alive_3_m  (p1 : Int) (p11 : List Int) (p12 : List Int) (p13 : Bool) : Option Bool :=
  (slices_Contains_m p11 p1).bind fun r1 => some r1

set_option maxRecDepth 100000 in
set_option maxHeartbeats 4000000 in
theorem stones_Alive_3_w  {p1 : Int} {g1 : Nat} {g2 : Nat} {A1 : Option Addr} {c1 : Nat} {n1 : Nat} {p11 : List Int} {A2 : Option Addr} {c2 : Nat} {n2 : Nat} {p12 : List Int} {p13 : Bool} {r : Bool} {w0 w : World} {B : Nat} {fs : List HP} (hm : stones_Alive_3_m p1 p11 p12 p13 = some r) (hS : Sep w0 B w (blk g1 92 #[.pointer (some ⟨g2, 0, none⟩)] :: fs)) (hr_p11 : RdF w0 B fs A1 (vI p11)) (_hc_p11 : p11.length ≤ c1) (_hn_p11 : n1 = p11.length) (hr_p12 : RdF w0 B fs A2 (vI p12)) (_hc_p12 : p12.length ≤ c2) (_hn_p12 : n2 = p12.length) (hB_g2 : RdB w0 B fs g2 ([.slice A1 n1 c1, .slice A2 n2 c2, .bool p13] : List Value)) :
    Calls Try.prog 51 #[.int .i64 p1, .pointer (some ⟨g1, 0, none⟩)] w fun e w' => e = .returned (.bool r) ∧ Sep w0 B w' (blk g1 92 #[.pointer (some ⟨g2, 0, none⟩)] :: fs) := by
  obtain ⟨i3, hi3, hz3, hs3, hb3⟩ := info_parts Info3
  obtain rfl := _hn_p11
  obtain rfl := _hn_p12
  unfold stones_Alive_3_m at hm
  replace hm := start_b hm
  refine enter (l := [.int .i64 p1, .pointer (some ⟨g1, 0, none⟩)]) (n := 10) Try.func51 rfl rfl (by simp) (fun a hF => ?_)
  refine reg [] [] [0, 1] [pl 0 (.int .i64 p1), pl 1 (.pointer (some ⟨g1, 0, none⟩))] hF hS Fol (by kernel_rfl) (by kernel_rfl) (by kernel_rfl) ?_ (fun a w hF hS => ?_)
  · exact obs_nil
  obtain ⟨r1, hr1, hm⟩ := call_b hm
  refine reg [⟨false, [], vS (Instr.loadAt 92 (.pointer (some ⟨g1, 0, none⟩))), .pointer (some ⟨g2, 0, none⟩)⟩, ⟨false, [], vS (Instr.loadAt 22 (.pointer (some ⟨g2, 0, none⟩))), .slice A1 p11.length c1⟩, ⟨false, [], callFunc 52 #[.slice A1 p11.length c1, .int .i64 p1], .bool r1⟩] [some (.pointer (some ⟨g2, 0, none⟩)), none, none, some (.slice A1 p11.length c1), none, some (.bool r1), none] [3] [pl 3 (.bool r1)] hF hS Fol (by kernel_rfl) (by kernel_rfl) (by kernel_rfl) ?_ (fun a w hF hS => ?_)
  · exact obs_cons (ob_load Agg92 (fun _ _ hS => (hS.at_ 0 rfl).cell rfl)) <| obs_cons (ob_loadP (cs := ([.slice A1 p11.length c1, .slice A2 p12.length c2, .bool p13] : List Value)) Agg22 (fun _ hS => hB_g2 _ (hS.dropN 1)) rfl) <| obs_cons (ob_call Try.func52 (by kernel_rfl) rfl (fun _ _ hS => slices_Contains_w hr1 hS (fun _ hS => (hr_p11 _ (hS.dropN 1))) _hc_p11 rfl)) <| obs_nil
  refine wpIn_ret ?_
  have hm : some r1 = some r := hm
  obtain rfl := Option.some.inj hm
  exact retV (rs := [.tmp 3]) (vs := [.bool r1]) hF rfl (rv_t (by kernel_rfl) <| rv_nil) rfl ⟨rfl, hS⟩

noncomputable def slices_IndexFunc_2_J3  (z1 : Int) : Option (St Int (Fl Unit Int)) :=
  some (.next (w64 (z1 + 1)))

noncomputable def slices_IndexFunc_2_J2  (s1 : List Int) (v1 : List Int) (v2 : List Int) (v3 : Bool) (z1 : Int) : Option (St Int (Fl Unit Int)) :=
  asrt (0 ≤ z1 ∧ z1 < (s1.length : Int)) <| (stones_Alive_3_m (geti s1 z1) v1 v2 v3).bind fun r1 => if r1 then (some (.done (.ret z1))) else ((slices_IndexFunc_2_J3 z1))

noncomputable def slices_IndexFunc_2_J1  : Option Int :=
  some (-1)

noncomputable def slices_IndexFunc_2_K1  : (Fl Unit Int) → Option Int :=
  fun (x : (Fl Unit Int)) => match x with | .go _ => slices_IndexFunc_2_J1 | .ret x => some x

noncomputable def slices_IndexFunc_2_L1  (s1 : List Int) (v1 : List Int) (v2 : List Int) (v3 : Bool) : Int → Option (St Int (Fl Unit Int)) :=
  fun (x : Int) => match x with | z1 => if (decide (z1 < (s1.length : Int))) then ((slices_IndexFunc_2_J2 s1 v1 v2 v3 z1)) else (some (.done (.go ())))

noncomputable def slices_IndexFunc_2_m  (s1 : List Int) (v1 : List Int) (v2 : List Int) (v3 : Bool) : Option Int :=
  (loop (slices_IndexFunc_2_L1 s1 v1 v2 v3) 0).bind slices_IndexFunc_2_K1

set_option maxRecDepth 100000 in
set_option maxHeartbeats 4000000 in
theorem slices_IndexFunc_2_w  {A1 : Option Addr} {c1 : Nat} {n1 : Nat} {s1 : List Int} {g1 : Nat} {g2 : Nat} {A2 : Option Addr} {c2 : Nat} {n2 : Nat} {v1 : List Int} {A3 : Option Addr} {c3 : Nat} {n3 : Nat} {v2 : List Int} {v3 : Bool} {r : Int} {w0 w : World} {B : Nat} {fs : List HP} (hm : slices_IndexFunc_2_m s1 v1 v2 v3 = some r) (hS : Sep w0 B w (blk g1 92 #[.pointer (some ⟨g2, 0, none⟩)] :: fs)) (hr_s1 : RdF w0 B fs A1 (vI s1)) (_hc_s1 : s1.length ≤ c1) (_hn_s1 : n1 = s1.length) (hr_v1 : RdF w0 B fs A2 (vI v1)) (_hc_v1 : v1.length ≤ c2) (_hn_v1 : n2 = v1.length) (hr_v2 : RdF w0 B fs A3 (vI v2)) (_hc_v2 : v2.length ≤ c3) (_hn_v2 : n3 = v2.length) (hB_g2 : RdB w0 B fs g2 ([.slice A2 n2 c2, .slice A3 n3 c3, .bool v3] : List Value)) :
    Calls Try.prog 107 #[.slice A1 n1 c1, .func (.func 51) #[] #[.pointer (some ⟨g1, 0, none⟩)]] w fun e w' => e = .returned (.int .i64 r) ∧ Sep w0 B w' (blk g1 92 #[.pointer (some ⟨g2, 0, none⟩)] :: fs) := by
  obtain ⟨i3, hi3, hz3, hs3, hb3⟩ := info_parts Info3
  obtain rfl := _hn_s1
  obtain rfl := _hn_v1
  obtain rfl := _hn_v2
  unfold slices_IndexFunc_2_m at hm
  replace hm := start_b hm
  refine enter (l := [.slice A1 s1.length c1, .func (.func 51) #[] #[.pointer (some ⟨g1, 0, none⟩)]]) (n := 19) Try.func107 rfl rfl (by simp) (fun a hF => ?_)
  refine reg [] [] [0, 1] [pl 0 (.slice A1 s1.length c1), pl 1 (.func (.func 51) #[] #[.pointer (some ⟨g1, 0, none⟩)])] hF hS Fol (by kernel_rfl) (by kernel_rfl) (by kernel_rfl) ?_ (fun a w hF hS => ?_)
  · exact obs_nil
  refine seq_cut (fun a w => Fr 19 [] a ∧ Sep w0 B w (blk g1 92 #[.pointer (some ⟨g2, 0, none⟩)] :: fs) ∧ (slices_IndexFunc_2_J1).bind some = some r) ?_ ?_
  · rintro a w ⟨hF, hS, hm⟩
    unfold slices_IndexFunc_2_J1 at hm
    refine reg [] [] [4] [pl 4 (.int .i64 (-1))] hF hS Fol (by kernel_rfl) (by kernel_rfl) (by kernel_rfl) ?_ (fun a w hF hS => ?_)
    · exact obs_nil
    refine wpIn_ret ?_
    have hm : some (-1) = some r := hm
    obtain rfl := Option.some.inj hm
    exact retV (rs := [.tmp 4]) (vs := [.int .i64 (-1)]) hF rfl (rv_t (by kernel_rfl) <| rv_nil) rfl ⟨rfl, hS⟩
  · refine reg [] [] [0, 1, 7, 8] [pl 0 (.slice A1 s1.length c1), pl 1 (.func (.func 51) #[] #[.pointer (some ⟨g1, 0, none⟩)]), pl 7 (.int .i64 (s1.length : Int)), pl 8 (.int .i64 0)] hF hS Fol (by kernel_rfl) (by kernel_rfl) (by kernel_rfl) ?_ (fun a w hF hS => ?_)
    · exact obs_nil
    refine wpIn_block ?_
    refine wp_loop_model (S := Int) (R := (Fl Unit Int)) (slices_IndexFunc_2_L1 s1 v1 v2 v3) (fun x => (slices_IndexFunc_2_K1 x).bind some) r (fun (x : Int) a w => Fr 19 [pl 0 (.slice A1 s1.length c1), pl 1 (.func (.func 51) #[] #[.pointer (some ⟨g1, 0, none⟩)]), pl 7 (.int .i64 (s1.length : Int)), pl 8 (.int .i64 x)] a ∧ Sep w0 B w (blk g1 92 #[.pointer (some ⟨g2, 0, none⟩)] :: fs)) (assoc_b hm) ⟨hF.weak [0, 1, 7, 8] (by kernel_rfl), hS⟩ ?_
    clear hF hS hm
    rintro nn1 z1 a w ⟨hF, hS⟩ hm
    generalize hφ1 : stK (slices_IndexFunc_2_L1 s1 v1 v2 v3) nn1 (fun x => (slices_IndexFunc_2_K1 x).bind some) = φ1 at hm
    unfold slices_IndexFunc_2_L1 at hm
    dsimp only at hm
    refine reg [] [] [0, 1, 7, 8, 9] [pl 0 (.slice A1 s1.length c1), pl 1 (.func (.func 51) #[] #[.pointer (some ⟨g1, 0, none⟩)]), pl 7 (.int .i64 (s1.length : Int)), pl 8 (.int .i64 z1), pl 9 (.bool (decide (z1 < (s1.length : Int))))] hF hS Fol (by kernel_rfl) (by kernel_rfl) (by kernel_rfl) ?_ (fun a w hF hS => ?_)
    · exact obs_nil
    refine seq_cut (fun a w => Fr 19 [pl 0 (.slice A1 s1.length c1), pl 1 (.func (.func 51) #[] #[.pointer (some ⟨g1, 0, none⟩)]), pl 7 (.int .i64 (s1.length : Int)), pl 8 (.int .i64 z1)] a ∧ Sep w0 B w (blk g1 92 #[.pointer (some ⟨g2, 0, none⟩)] :: fs) ∧ ((slices_IndexFunc_2_J2 s1 v1 v2 v3 z1)).bind φ1 = some r) ?_ ?_
    · rintro a w ⟨hF, hS, hm⟩
      unfold slices_IndexFunc_2_J2 at hm
      refine seq_cut (fun a w => Fr 19 [pl 0 (.slice A1 s1.length c1), pl 1 (.func (.func 51) #[] #[.pointer (some ⟨g1, 0, none⟩)]), pl 7 (.int .i64 (s1.length : Int)), pl 8 (.int .i64 z1)] a ∧ Sep w0 B w (blk g1 92 #[.pointer (some ⟨g2, 0, none⟩)] :: fs) ∧ ((slices_IndexFunc_2_J3 z1)).bind φ1 = some r) ?_ ?_
      · rintro a w ⟨hF, hS, hm⟩
        unfold slices_IndexFunc_2_J3 at hm
        refine reg1 [] [] [0, 1, 7, 8] [pl 0 (.slice A1 s1.length c1), pl 1 (.func (.func 51) #[] #[.pointer (some ⟨g1, 0, none⟩)]), pl 7 (.int .i64 (s1.length : Int)), pl 8 (.int .i64 (w64 (z1 + 1)))] hF hS Fol (by kernel_rfl) (by kernel_rfl) (by kernel_rfl) ?_ (fun a w hF hS => ?_)
        · exact obs_nil
        refine then_n ?_
        rw [← hφ1] at hm
        exact ⟨(w64 (z1 + 1)), ⟨hF.weak [0, 1, 7, 8] (by kernel_rfl), hS⟩, hm⟩
      · refine wpIn_block ?_
        refine reg [] [] [0, 1, 5, 7, 8] [pl 0 (.slice A1 s1.length c1), pl 1 (.func (.func 51) #[] #[.pointer (some ⟨g1, 0, none⟩)]), pl 5 (.int .i64 z1), pl 7 (.int .i64 (s1.length : Int)), pl 8 (.int .i64 z1)] hF hS Fol (by kernel_rfl) (by kernel_rfl) (by kernel_rfl) ?_ (fun a w hF hS => ?_)
        · exact obs_nil
        obtain ⟨hp1, hm⟩ := asrt_b hm
        obtain ⟨r1, hr1, hm⟩ := call_b hm
        refine reg [⟨true, [], vS (Instr.indexAt 22 (.slice A1 s1.length c1) (.int .i64 z1)), .pointer (some (sAddr A1 z1))⟩, ⟨false, [], vS (Instr.loadAt 3 (.pointer (some (sAddr A1 z1)))), .int .i64 (geti s1 z1)⟩, ⟨false, [], callFunc 51 #[.int .i64 (geti s1 z1), .pointer (some ⟨g1, 0, none⟩)], .bool r1⟩] [none, none, none, some (.pointer (some (sAddr A1 z1))), some (.int .i64 (geti s1 z1)), some (.bool r1)] [0, 1, 5, 7, 8, 16] [pl 0 (.slice A1 s1.length c1), pl 1 (.func (.func 51) #[] #[.pointer (some ⟨g1, 0, none⟩)]), pl 5 (.int .i64 z1), pl 7 (.int .i64 (s1.length : Int)), pl 8 (.int .i64 z1), pl 16 (.bool r1)] hF hS Fol (by kernel_rfl) (by kernel_rfl) (by kernel_rfl) ?_ (fun a w hF hS => ?_)
        · exact obs_cons (ob_ix1 (f := (Value.int .i64)) (m := s1) Und22 hi3 hs3 (hr_s1 _ (hS.dropN 1)) rfl (fun _ => hp1)) <| obs_cons (ob_get1 (n := s1.length) (m := s1) (Value.int .i64) (0 : Int) Agg3 (fun _ hS => ⟨_, (hr_s1 _ (hS.dropN 1))⟩) (fun _ hS => rfl) (fun _ => hp1)) <| obs_cons (ob_call Try.func51 (by kernel_rfl) rfl (fun _ _ hS => stones_Alive_3_w hr1 hS (fun _ hS => (hr_v1 _ (hS.dropN 0))) _hc_v1 rfl (fun _ hS => (hr_v2 _ (hS.dropN 0))) _hc_v2 rfl (fun _ hS => hB_g2 _ (hS.dropN 0)))) <| obs_nil
        refine cond_ev (t := 16) (b := r1) hF (by kernel_rfl) (fun hb => ?_) (fun hb => ?_)
        · replace hm := if_t hm hb
          refine reg [] [] [4] [pl 4 (.int .i64 z1)] hF hS Fol (by kernel_rfl) (by kernel_rfl) (by kernel_rfl) ?_ (fun a w hF hS => ?_)
          · exact obs_nil
          refine wpIn_ret ?_
          refine block_r (then_r (then_r (block_r (then_r ?_))))
          rw [← hφ1] at hm
          replace hm := done_b hm
          unfold slices_IndexFunc_2_K1 at hm
          try dsimp only at hm
          have hm : some z1 = some r := hm
          obtain rfl := Option.some.inj hm
          exact retV (rs := [.tmp 4]) (vs := [.int .i64 z1]) hF rfl (rv_t (by kernel_rfl) <| rv_nil) rfl ⟨rfl, hS⟩
        · replace hm := if_f hm hb
          refine wpIn_skip ?_
          refine block_n ?_
          refine then_n ?_
          exact ⟨hF.weak [0, 1, 7, 8] (by kernel_rfl), hS, hm⟩
    · refine cond_ev (t := 9) (b := decide (z1 < (s1.length : Int))) hF (by kernel_rfl) (fun hb => ?_) (fun hb => ?_)
      · replace hm := if_t hm hb
        refine wpIn_skip ?_
        refine then_n ?_
        exact ⟨hF.weak [0, 1, 7, 8] (by kernel_rfl), hS, hm⟩
      · replace hm := if_f hm hb
        refine wpIn_exit ?_
        refine then_e (then_e (block_e (then_n ?_)))
        rw [← hφ1] at hm
        replace hm := done_b hm
        unfold slices_IndexFunc_2_K1 at hm
        try dsimp only at hm
        have hm : (slices_IndexFunc_2_J1).bind some = some r := hm
        exact ⟨hF.weak [] (by kernel_rfl), hS, hm⟩

noncomputable def slices_ContainsFunc_2_m  (s1 : List Int) (v1 : List Int) (v2 : List Int) (v3 : Bool) : Option Bool :=
  (slices_IndexFunc_2_m s1 v1 v2 v3).bind fun r1 => some (decide ((0 : Int) ≤ r1))

set_option maxRecDepth 100000 in
set_option maxHeartbeats 4000000 in
theorem slices_ContainsFunc_2_w  {A1 : Option Addr} {c1 : Nat} {n1 : Nat} {s1 : List Int} {g1 : Nat} {g2 : Nat} {A2 : Option Addr} {c2 : Nat} {n2 : Nat} {v1 : List Int} {A3 : Option Addr} {c3 : Nat} {n3 : Nat} {v2 : List Int} {v3 : Bool} {r : Bool} {w0 w : World} {B : Nat} {fs : List HP} (hm : slices_ContainsFunc_2_m s1 v1 v2 v3 = some r) (hS : Sep w0 B w (blk g1 92 #[.pointer (some ⟨g2, 0, none⟩)] :: fs)) (hr_s1 : RdF w0 B fs A1 (vI s1)) (_hc_s1 : s1.length ≤ c1) (_hn_s1 : n1 = s1.length) (hr_v1 : RdF w0 B fs A2 (vI v1)) (_hc_v1 : v1.length ≤ c2) (_hn_v1 : n2 = v1.length) (hr_v2 : RdF w0 B fs A3 (vI v2)) (_hc_v2 : v2.length ≤ c3) (_hn_v2 : n3 = v2.length) (hB_g2 : RdB w0 B fs g2 ([.slice A2 n2 c2, .slice A3 n3 c3, .bool v3] : List Value)) :
    Calls Try.prog 50 #[.slice A1 n1 c1, .func (.func 51) #[] #[.pointer (some ⟨g1, 0, none⟩)]] w fun e w' => e = .returned (.bool r) ∧ Sep w0 B w' (blk g1 92 #[.pointer (some ⟨g2, 0, none⟩)] :: fs) := by
  obtain ⟨i3, hi3, hz3, hs3, hb3⟩ := info_parts Info3
  obtain rfl := _hn_s1
  obtain rfl := _hn_v1
  obtain rfl := _hn_v2
  unfold slices_ContainsFunc_2_m at hm
  replace hm := start_b hm
  refine enter (l := [.slice A1 s1.length c1, .func (.func 51) #[] #[.pointer (some ⟨g1, 0, none⟩)]]) (n := 9) Try.func50 rfl rfl (by simp) (fun a hF => ?_)
  refine reg [] [] [0, 1] [pl 0 (.slice A1 s1.length c1), pl 1 (.func (.func 51) #[] #[.pointer (some ⟨g1, 0, none⟩)])] hF hS Fol (by kernel_rfl) (by kernel_rfl) (by kernel_rfl) ?_ (fun a w hF hS => ?_)
  · exact obs_nil
  obtain ⟨r1, hr1, hm⟩ := call_b hm
  refine reg [⟨false, [], callFunc 107 #[.slice A1 s1.length c1, .func (.func 51) #[] #[.pointer (some ⟨g1, 0, none⟩)]], .int .i64 r1⟩] [none, none, some (.int .i64 r1), none, none] [4] [pl 4 (.bool (decide ((0 : Int) ≤ r1)))] hF hS Fol (by kernel_rfl) (by kernel_rfl) (by kernel_rfl) ?_ (fun a w hF hS => ?_)
  · exact obs_cons (ob_call Try.func107 (by kernel_rfl) rfl (fun _ _ hS => slices_IndexFunc_2_w hr1 hS (fun _ hS => (hr_s1 _ (hS.dropN 0))) _hc_s1 rfl (fun _ hS => (hr_v1 _ (hS.dropN 0))) _hc_v1 rfl (fun _ hS => (hr_v2 _ (hS.dropN 0))) _hc_v2 rfl (fun _ hS => hB_g2 _ (hS.dropN 0)))) <| obs_nil
  refine wpIn_ret ?_
  have hm : some (decide ((0 : Int) ≤ r1)) = some r := hm
  obtain rfl := Option.some.inj hm
  exact retV (rs := [.tmp 4]) (vs := [.bool (decide ((0 : Int) ≤ r1))]) hF rfl (rv_t (by kernel_rfl) <| rv_nil) rfl ⟨rfl, hS⟩

noncomputable def stones_Alive_J7  (z2 : Int) (n4 : Int) : Option (St (Int × Int) Int) :=
  some (.next (n4, (w64 (z2 + 1))))

noncomputable def stones_Alive_J8  (n2 : Int) (z2 : Int) (z3 : Bool) : Option (St (Int × Int) Int) :=
  if z3 then ((stones_Alive_J7 z2) (w64 (n2 + 1))) else ((stones_Alive_J7 z2) n2)

noncomputable def stones_Alive_J6  (g1 : Int) (g2 : Int) (g3 : List Int) (groups1 : List (List Int × List Int × Bool)) (regions1 : List (List Int × List Int × Bool)) (z1 : Int) (n2 : Int) (z2 : Int) : Option (St (Int × Int) Int) :=
  asrt (0 ≤ z2 ∧ z2 < (regions1.length : Int)) <| if (!((getd zP92 regions1 z2).2.2)) then ((stones_vital_m g1 g2 g3 ((getd zP92 regions1 z2).1) ((getd zP92 regions1 z2).2.1) ((getd zP92 regions1 z2).2.2) ((getd zP92 groups1 z1).1) ((getd zP92 groups1 z1).2.1) ((getd zP92 groups1 z1).2.2)).bind fun r4 => (stones_Alive_J8 n2 z2) ((!((getd zP92 regions1 z2).2.2)) && r4)) else ((stones_Alive_J8 n2 z2) ((!((getd zP92 regions1 z2).2.2)) && false))

noncomputable def stones_Alive_L3  (g1 : Int) (g2 : Int) (g3 : List Int) (groups1 : List (List Int × List Int × Bool)) (regions1 : List (List Int × List Int × Bool)) (z1 : Int) : (Int × Int) → Option (St (Int × Int) Int) :=
  fun (x : (Int × Int)) => match x with | (n2, z2) => if (decide (z2 < (regions1.length : Int))) then ((stones_Alive_J6 g1 g2 g3 groups1 regions1 z1 n2 z2)) else (some (.done n2))

noncomputable def stones_Alive_J4  (z1 : Int) : Option (St Int (Fl Unit (List (List Int × List Int × Bool) × List (List Int × List Int × Bool)))) :=
  some (.next (w64 (z1 + 1)))

noncomputable def stones_Alive_J12  (z4 : Int) (regions4 : List (List Int × List Int × Bool)) : Option (St (List (List Int × List Int × Bool) × Int) (List (List Int × List Int × Bool))) :=
  some (.next (regions4, (w64 (z4 + 1))))

noncomputable def stones_Alive_J11  (groups1 : List (List Int × List Int × Bool)) (regions1 : List (List Int × List Int × Bool)) (z1 : Int) (regions2 : List (List Int × List Int × Bool)) (z4 : Int) : Option (St (List (List Int × List Int × Bool) × Int) (List (List Int × List Int × Bool))) :=
  asrt (0 ≤ z4 ∧ z4 < (regions1.length : Int)) <| (slices_ContainsFunc_2_m ((getd zP92 regions2 z4).2.1) ((getd zP92 (groups1.set (Int.toNat z1) ((getd zP92 groups1 z1).1, (getd zP92 groups1 z1).2.1, true)) z1).1) ((getd zP92 (groups1.set (Int.toNat z1) ((getd zP92 groups1 z1).1, (getd zP92 groups1 z1).2.1, true)) z1).2.1) ((getd zP92 (groups1.set (Int.toNat z1) ((getd zP92 groups1 z1).1, (getd zP92 groups1 z1).2.1, true)) z1).2.2)).bind fun r5 => if r5 then ((stones_Alive_J12 z4) (regions2.set (Int.toNat z4) ((getd zP92 regions2 z4).1, (getd zP92 regions2 z4).2.1, true))) else ((stones_Alive_J12 z4) regions2)

noncomputable def stones_Alive_L4  (groups1 : List (List Int × List Int × Bool)) (regions1 : List (List Int × List Int × Bool)) (z1 : Int) : (List (List Int × List Int × Bool) × Int) → Option (St (List (List Int × List Int × Bool) × Int) (List (List Int × List Int × Bool))) :=
  fun (x : (List (List Int × List Int × Bool) × Int)) => match x with | (regions2, z4) => if (decide (z4 < (regions1.length : Int))) then ((stones_Alive_J11 groups1 regions1 z1 regions2 z4)) else (some (.done regions2))

noncomputable def stones_Alive_J10  (groups1 : List (List Int × List Int × Bool)) (z1 : Int) (regions3 : List (List Int × List Int × Bool)) : Option (St Int (Fl Unit (List (List Int × List Int × Bool) × List (List Int × List Int × Bool)))) :=
  some (.done (.ret ((groups1.set (Int.toNat z1) ((getd zP92 groups1 z1).1, (getd zP92 groups1 z1).2.1, true)), regions3)))

noncomputable def stones_Alive_K4  (groups1 : List (List Int × List Int × Bool)) (z1 : Int) : (List (List Int × List Int × Bool)) → Option (St Int (Fl Unit (List (List Int × List Int × Bool) × List (List Int × List Int × Bool)))) :=
  fun (x : (List (List Int × List Int × Bool))) => match x with | regions3 => (stones_Alive_J10 groups1 z1) regions3

noncomputable def stones_Alive_J9  (groups1 : List (List Int × List Int × Bool)) (regions1 : List (List Int × List Int × Bool)) (z1 : Int) : Option (St Int (Fl Unit (List (List Int × List Int × Bool) × List (List Int × List Int × Bool)))) :=
  (loop (stones_Alive_L4 groups1 regions1 z1) (regions1, 0)).bind (stones_Alive_K4 groups1 z1)

noncomputable def stones_Alive_J5  (groups1 : List (List Int × List Int × Bool)) (regions1 : List (List Int × List Int × Bool)) (z1 : Int) (n3 : Int) : Option (St Int (Fl Unit (List (List Int × List Int × Bool) × List (List Int × List Int × Bool)))) :=
  if (((getd zP92 groups1 z1).2.2) || (decide ((2 : Int) ≤ n3))) then ((stones_Alive_J4 z1)) else ((stones_Alive_J9 groups1 regions1 z1))

noncomputable def stones_Alive_K3  (groups1 : List (List Int × List Int × Bool)) (regions1 : List (List Int × List Int × Bool)) (z1 : Int) : Int → Option (St Int (Fl Unit (List (List Int × List Int × Bool) × List (List Int × List Int × Bool)))) :=
  fun (x : Int) => match x with | n3 => (stones_Alive_J5 groups1 regions1 z1) n3

noncomputable def stones_Alive_J3  (g1 : Int) (g2 : Int) (g3 : List Int) (groups1 : List (List Int × List Int × Bool)) (regions1 : List (List Int × List Int × Bool)) (z1 : Int) : Option (St Int (Fl Unit (List (List Int × List Int × Bool) × List (List Int × List Int × Bool)))) :=
  asrt (0 ≤ z1 ∧ z1 < (groups1.length : Int)) <| (loop (stones_Alive_L3 g1 g2 g3 groups1 regions1 z1) (0, 0)).bind (stones_Alive_K3 groups1 regions1 z1)

noncomputable def stones_Alive_L2  (g1 : Int) (g2 : Int) (g3 : List Int) (groups1 : List (List Int × List Int × Bool)) (regions1 : List (List Int × List Int × Bool)) : Int → Option (St Int (Fl Unit (List (List Int × List Int × Bool) × List (List Int × List Int × Bool)))) :=
  fun (x : Int) => match x with | z1 => if (decide (z1 < (groups1.length : Int))) then ((stones_Alive_J3 g1 g2 g3 groups1 regions1 z1)) else (some (.done (.go ())))

noncomputable def stones_Alive_J15  (z5 : Int) (l3 : List Int) : Option (St (List Int × Int) (List Int)) :=
  some (.next (l3, (w64 (z5 + 1))))

noncomputable def stones_Alive_J14  (groups1 : List (List Int × List Int × Bool)) (l1 : List Int) (z5 : Int) : Option (St (List Int × Int) (List Int)) :=
  asrt (0 ≤ z5 ∧ z5 < (groups1.length : Int)) <| if (!((getd zP92 groups1 z5).2.2)) then (asrt ((l1.length : Int) + ((((getd zP92 groups1 z5).1).length : Nat) : Int) ≤ bigN) <| (stones_Alive_J15 z5) (l1 ++ ((getd zP92 groups1 z5).1))) else ((stones_Alive_J15 z5) l1)

noncomputable def stones_Alive_L5  (groups1 : List (List Int × List Int × Bool)) : (List Int × Int) → Option (St (List Int × Int) (List Int)) :=
  fun (x : (List Int × Int)) => match x with | (l1, z5) => if (decide (z5 < (groups1.length : Int))) then ((stones_Alive_J14 groups1 l1 z5)) else (some (.done l1))

noncomputable def stones_Alive_J13  (l2 : List Int) : Option (St (List (List Int × List Int × Bool) × List (List Int × List Int × Bool)) (List Int × Int)) :=
  (slices_Sort_2_m l2).bind fun r6 => some (.done (r6, 0))

noncomputable def stones_Alive_K5  : (List Int) → Option (St (List (List Int × List Int × Bool) × List (List Int × List Int × Bool)) (List Int × Int)) :=
  fun (x : (List Int)) => match x with | l2 => stones_Alive_J13 l2

noncomputable def stones_Alive_J2  (groups1 : List (List Int × List Int × Bool)) : Option (St (List (List Int × List Int × Bool) × List (List Int × List Int × Bool)) (List Int × Int)) :=
  (loop (stones_Alive_L5 groups1) (([] : List Int), 0)).bind stones_Alive_K5

noncomputable def stones_Alive_K2  (groups1 : List (List Int × List Int × Bool)) : (Fl Unit (List (List Int × List Int × Bool) × List (List Int × List Int × Bool))) → Option (St (List (List Int × List Int × Bool) × List (List Int × List Int × Bool)) (List Int × Int)) :=
  fun (x : (Fl Unit (List (List Int × List Int × Bool) × List (List Int × List Int × Bool)))) => match x with | .go _ => (stones_Alive_J2 groups1) | .ret (groups1z, regions1z) => some (.next (groups1z, regions1z))

noncomputable def stones_Alive_L1  (g1 : Int) (g2 : Int) (g3 : List Int) : (List (List Int × List Int × Bool) × List (List Int × List Int × Bool)) → Option (St (List (List Int × List Int × Bool) × List (List Int × List Int × Bool)) (List Int × Int)) :=
  fun (x : (List (List Int × List Int × Bool) × List (List Int × List Int × Bool))) => match x with | (groups1, regions1) => (loop (stones_Alive_L2 g1 g2 g3 groups1 regions1) 0).bind (stones_Alive_K2 groups1)

noncomputable def stones_Alive_K1  : (List Int × Int) → Option (List Int × Int) :=
  fun (x : (List Int × Int)) => match x with | x => some x

noncomputable def stones_Alive_J1  (g1 : Int) (g2 : Int) (g3 : List Int) (who1 : Int) : Option (List Int × Int) :=
  (stones_parts_m g1 g2 g3 who1).bind fun r2 => (stones_parts_2_m g1 g2 g3 who1).bind fun r3 => (loop (stones_Alive_L1 g1 g2 g3) (r2, r3)).bind stones_Alive_K1
end Go.Proofs.Ytdjjomghggplpaa
