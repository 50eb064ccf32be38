/-
  Models and walks, printed by our own program (wip/gen).
-/
import Derived.Test.YtogecbgngnjhgaaFB
import Derived.Test.YtogecbgngnjhgaaLibD
import Derived.Test.YtogecbgngnjhgaaNMVa
namespace Go.Proofs.Ytogecbgngnjhgaa
open Go Go.GL Go.RowKit

noncomputable def gameroomref_SeedsInPits_J3 (b1 : List Int) (n2 : Int) (i1 : Int) : Option (St (Int × Int) Int) :=
  some (.next ((w64 (n2 + (w64 ((geti b1 i1) + (geti b1 (w64 ((w64 (Int.tdiv (b1.length : Int) 2)) + i1))))))), (w64 (i1 + 1))))

noncomputable def gameroomref_SeedsInPits_J2 (b1 : List Int) (n2 : Int) (i1 : Int) : Option (St (Int × Int) Int) :=
  asrt (0 ≤ i1 ∧ i1 < (b1.length : Int)) <| asrt (0 ≤ (w64 ((w64 (Int.tdiv (b1.length : Int) 2)) + i1)) ∧ (w64 ((w64 (Int.tdiv (b1.length : Int) 2)) + i1)) < (b1.length : Int)) <| (gameroomref_SeedsInPits_J3 b1 n2 i1)

noncomputable def gameroomref_SeedsInPits_J1 (n3 : Int) : Option Int :=
  some n3

noncomputable def gameroomref_SeedsInPits_K1 : Int → Option Int :=
  fun (x : Int) => match x with | n3 => gameroomref_SeedsInPits_J1 n3

noncomputable def gameroomref_SeedsInPits_L1 (b1 : List Int) : (Int × Int) → Option (St (Int × Int) Int) :=
  fun (x : (Int × Int)) => match x with | (n2, i1) => if (decide (i1 < (w64 ((w64 (Int.tdiv (b1.length : Int) 2)) - 1)))) then ((gameroomref_SeedsInPits_J2 b1 n2 i1)) else (some (.done n2))

noncomputable def gameroomref_SeedsInPits_m (b1 : List Int) (b2 : Int) : Option Int :=
  (loop (gameroomref_SeedsInPits_L1 b1) (0, 0)).bind gameroomref_SeedsInPits_K1

set_option maxRecDepth 100000 in
set_option maxHeartbeats 4000000 in
theorem gameroomref_SeedsInPits_w {A1 : Option Addr} {c1 : Nat} {n1 : Nat} {b1 : List Int} {b2 : Int} {r : Int} {w0 w : World} {B : Nat} {fs : List HP} (hm : gameroomref_SeedsInPits_m b1 b2 = some r) (hS : Sep w0 B w (fs)) (hr_b1 : RdF w0 B fs A1 (vI b1)) (_hc_b1 : b1.length ≤ c1) (_hn_b1 : n1 = b1.length) :
    Calls Try.prog 27 #[.agg #[.slice A1 n1 c1, .int .i64 b2]] w fun e w' => e = .returned (.int .i64 r) ∧ Sep w0 B w' (fs) := by
  obtain ⟨i3, hi3, hz3, hs3, hb3⟩ := info_parts Info3
  obtain rfl := _hn_b1
  unfold gameroomref_SeedsInPits_m at hm
  replace hm := start_b hm
  refine enter (l := [.agg #[.slice A1 b1.length c1, .int .i64 b2]]) (n := 32) Try.func27 rfl rfl (by simp) (fun a hF => ?_)
  refine seqR ?_
  refine at_do (d := 1) (s := vS (Instr.box 44 (.agg #[.slice A1 b1.length c1, .int .i64 b2]))) (v := .pointer (some ⟨w.heap.size, 0, none⟩)) (w' := w.alloc (.cells #[.slice A1 b1.length c1, .int .i64 b2] 44)) hF (by kernel_rfl) (by kernel_rfl) (by kernel_rfl) (fun a hF => ?_)
  have hS : Sep w0 B (w.alloc (.cells #[.slice A1 b1.length c1, .int .i64 b2] 44)) (blk w.heap.size 44 #[.slice A1 b1.length c1, .int .i64 b2] :: (fs)) := hS.box 44 #[.slice A1 b1.length c1, .int .i64 b2]
  generalize w.heap.size = g1 at hF hS
  generalize w.alloc (.cells #[.slice A1 b1.length c1, .int .i64 b2] 44) = w at hS ⊢
  refine at_run 1 [] [] [1] [pl 1 (.pointer (some ⟨g1, 0, none⟩))] hF hS (by kernel_rfl) (by kernel_rfl) ?_ (fun a w hF hS => ?_)
  · exact obs_nil
  refine at_end [1] [pl 1 (.pointer (some ⟨g1, 0, none⟩))] hF rfl (by kernel_rfl) (fun hF => ?_)
  refine then_n ?_
  refine reg [⟨false, [], vS (Instr.loadAt 22 (.pointer (some ⟨g1, 0, none⟩))), .slice A1 b1.length c1⟩] [none, some (.slice A1 b1.length c1), none, none, none] [1, 3] [pl 1 (.pointer (some ⟨g1, 0, none⟩)), pl 3 (.int .i64 (w64 (Int.tdiv (b1.length : Int) 2)))] hF hS Fol (by kernel_rfl) (by kernel_rfl) (by kernel_rfl) ?_ (fun a w hF hS => ?_)
  · exact obs_cons (ob_load Agg22 (fun _ _ hS => (hS.at_ 0 rfl).cell rfl)) <| obs_nil
  refine reg [] [] [1, 3, 4] [pl 1 (.pointer (some ⟨g1, 0, none⟩)), pl 3 (.int .i64 (w64 (Int.tdiv (b1.length : Int) 2))), pl 4 (.int .i64 0)] hF hS Fol (by kernel_rfl) (by kernel_rfl) (by kernel_rfl) ?_ (fun a w hF hS => ?_)
  · exact obs_nil
  refine seq_cut (fun a w => ∃ (n3 : Int), Fr 32 [pl 4 (.int .i64 n3)] a ∧ Sep w0 B w (fs) ∧ (gameroomref_SeedsInPits_J1 n3).bind some = some r) ?_ ?_
  · rintro a w ⟨n3, hF, hS, hm⟩
    unfold gameroomref_SeedsInPits_J1 at hm
    refine reg [] [] [2] [pl 2 (.int .i64 n3)] hF hS Fol (by kernel_rfl) (by kernel_rfl) (by kernel_rfl) ?_ (fun a w hF hS => ?_)
    · exact obs_nil
    refine wp_ret ?_
    have hm : some n3 = some r := hm
    obtain rfl := Option.some.inj hm
    exact retV (rs := [.tmp 2]) (vs := [.int .i64 n3]) hF rfl (rv_t (by kernel_rfl) <| rv_nil) rfl ⟨rfl, hS⟩
  · refine reg [] [] [1, 3, 4, 5] [pl 1 (.pointer (some ⟨g1, 0, none⟩)), pl 3 (.int .i64 (w64 (Int.tdiv (b1.length : Int) 2))), pl 4 (.int .i64 0), pl 5 (.int .i64 0)] hF hS Fol (by kernel_rfl) (by kernel_rfl) (by kernel_rfl) ?_ (fun a w hF hS => ?_)
    · exact obs_nil
    refine wp_block ?_
    refine wp_loop_model (S := (Int × Int)) (R := Int) (gameroomref_SeedsInPits_L1 b1) (fun x => (gameroomref_SeedsInPits_K1 x).bind some) r (fun (x : (Int × Int)) a w => Fr 32 [pl 1 (.pointer (some ⟨g1, 0, none⟩)), pl 3 (.int .i64 (w64 (Int.tdiv (b1.length : Int) 2))), pl 4 (.int .i64 x.1), pl 5 (.int .i64 x.2)] a ∧ Sep w0 B w (blk g1 44 #[.slice A1 b1.length c1, .int .i64 b2] :: fs)) (assoc_b hm) ⟨hF.weak [1, 3, 4, 5] (by kernel_rfl), hS⟩ ?_
    clear hF hS hm
    rintro nn1 ⟨n2, i1⟩ a w ⟨hF, hS⟩ hm
    generalize hφ1 : stK (gameroomref_SeedsInPits_L1 b1) nn1 (fun x => (gameroomref_SeedsInPits_K1 x).bind some) = φ1 at hm
    unfold gameroomref_SeedsInPits_L1 at hm
    dsimp only at hF hS hm
    refine seq_cut (fun a w => Fr 32 [pl 1 (.pointer (some ⟨g1, 0, none⟩)), pl 3 (.int .i64 (w64 (Int.tdiv (b1.length : Int) 2))), pl 4 (.int .i64 n2), pl 5 (.int .i64 i1)] a ∧ Sep w0 B w (blk g1 44 #[.slice A1 b1.length c1, .int .i64 b2] :: fs) ∧ ((gameroomref_SeedsInPits_J2 b1 n2 i1)).bind φ1 = some r) ?_ ?_
    · rintro a w ⟨hF, hS, hm⟩
      unfold gameroomref_SeedsInPits_J2 at hm
      refine seq_cut (fun a w => Fr 32 [pl 1 (.pointer (some ⟨g1, 0, none⟩)), pl 3 (.int .i64 (w64 (Int.tdiv (b1.length : Int) 2))), pl 4 (.int .i64 (w64 (n2 + (w64 ((geti b1 i1) + (geti b1 (w64 ((w64 (Int.tdiv (b1.length : Int) 2)) + i1)))))))), pl 5 (.int .i64 i1)] a ∧ Sep w0 B w (blk g1 44 #[.slice A1 b1.length c1, .int .i64 b2] :: fs) ∧ ((gameroomref_SeedsInPits_J3 b1 n2 i1)).bind φ1 = some r) ?_ ?_
      · rintro a w ⟨hF, hS, hm⟩
        unfold gameroomref_SeedsInPits_J3 at hm
        refine reg1 [] [] [1, 3, 4, 5] [pl 1 (.pointer (some ⟨g1, 0, none⟩)), pl 3 (.int .i64 (w64 (Int.tdiv (b1.length : Int) 2))), pl 4 (.int .i64 (w64 (n2 + (w64 ((geti b1 i1) + (geti b1 (w64 ((w64 (Int.tdiv (b1.length : Int) 2)) + i1)))))))), pl 5 (.int .i64 (w64 (i1 + 1)))] hF hS Fol (by kernel_rfl) (by kernel_rfl) (by kernel_rfl) ?_ (fun a w hF hS => ?_)
        · exact obs_nil
        refine then_n ?_
        rw [← hφ1] at hm
        exact ⟨((w64 (n2 + (w64 ((geti b1 i1) + (geti b1 (w64 ((w64 (Int.tdiv (b1.length : Int) 2)) + i1))))))), (w64 (i1 + 1))), ⟨hF.weak [1, 3, 4, 5] (by kernel_rfl), hS⟩, hm⟩
      · refine wp_block ?_
        obtain ⟨hp1, hm⟩ := asrt_b hm
        obtain ⟨hp2, hm⟩ := asrt_b hm
        refine reg1 [⟨false, [], vS (Instr.loadAt 22 (.pointer (some ⟨g1, 0, none⟩))), .slice A1 b1.length c1⟩, ⟨true, [], vS (Instr.indexAt 22 (.slice A1 b1.length c1) (.int .i64 i1)), .pointer (some (sAddr A1 i1))⟩, ⟨false, [], vS (Instr.loadAt 3 (.pointer (some (sAddr A1 i1)))), .int .i64 (geti b1 i1)⟩, ⟨false, [], vS (Instr.loadAt 22 (.pointer (some ⟨g1, 0, none⟩))), .slice A1 b1.length c1⟩, ⟨true, [], vS (Instr.indexAt 22 (.slice A1 b1.length c1) (.int .i64 (w64 ((w64 (Int.tdiv (b1.length : Int) 2)) + i1)))), .pointer (some (sAddr A1 (w64 ((w64 (Int.tdiv (b1.length : Int) 2)) + i1))))⟩, ⟨false, [], vS (Instr.loadAt 3 (.pointer (some (sAddr A1 (w64 ((w64 (Int.tdiv (b1.length : Int) 2)) + i1)))))), .int .i64 (geti b1 (w64 ((w64 (Int.tdiv (b1.length : Int) 2)) + i1)))⟩] [none, none, some (.slice A1 b1.length c1), none, some (.pointer (some (sAddr A1 i1))), some (.int .i64 (geti b1 i1)), none, some (.slice A1 b1.length c1), none, none, none, some (.pointer (some (sAddr A1 (w64 ((w64 (Int.tdiv (b1.length : Int) 2)) + i1))))), some (.int .i64 (geti b1 (w64 ((w64 (Int.tdiv (b1.length : Int) 2)) + i1)))), none, none, none] [1, 3, 4, 5] [pl 1 (.pointer (some ⟨g1, 0, none⟩)), pl 3 (.int .i64 (w64 (Int.tdiv (b1.length : Int) 2))), pl 4 (.int .i64 (w64 (n2 + (w64 ((geti b1 i1) + (geti b1 (w64 ((w64 (Int.tdiv (b1.length : Int) 2)) + i1)))))))), pl 5 (.int .i64 i1)] hF hS Fol (by kernel_rfl) (by kernel_rfl) (by kernel_rfl) ?_ (fun a w hF hS => ?_)
        · exact obs_cons (ob_load Agg22 (fun _ _ hS => (hS.at_ 0 rfl).cell rfl)) <| obs_cons (ob_ix1 (f := (Value.int .i64)) (m := b1) Und22 hi3 hs3 (hr_b1 _ (hS.dropN 1)) rfl (fun _ => hp1)) <| obs_cons (ob_get1 (n := b1.length) (m := b1) (Value.int .i64) (0 : Int) Agg3 (fun _ hS => ⟨_, (hr_b1 _ (hS.dropN 1))⟩) (fun _ hS => rfl) (fun _ => hp1)) <| obs_cons (ob_load Agg22 (fun _ _ hS => (hS.at_ 0 rfl).cell rfl)) <| obs_cons (ob_ix1 (f := (Value.int .i64)) (m := b1) Und22 hi3 hs3 (hr_b1 _ (hS.dropN 1)) rfl (fun _ => hp2)) <| obs_cons (ob_get1 (n := b1.length) (m := b1) (Value.int .i64) (0 : Int) Agg3 (fun _ hS => ⟨_, (hr_b1 _ (hS.dropN 1))⟩) (fun _ hS => rfl) (fun _ => hp2)) <| obs_nil
        refine block_n ?_
        refine then_n ?_
        exact ⟨hF.weak [1, 3, 4, 5] (by kernel_rfl), hS, hm⟩
    · refine reg [] [] [1, 3, 4, 5, 13] [pl 1 (.pointer (some ⟨g1, 0, none⟩)), pl 3 (.int .i64 (w64 (Int.tdiv (b1.length : Int) 2))), pl 4 (.int .i64 n2), pl 5 (.int .i64 i1), pl 13 (.bool (decide (i1 < (w64 ((w64 (Int.tdiv (b1.length : Int) 2)) - 1)))))] hF hS Fol (by kernel_rfl) (by kernel_rfl) (by kernel_rfl) ?_ (fun a w hF hS => ?_)
      · exact obs_nil
      refine cond_ev (t := 13) (b := decide (i1 < (w64 ((w64 (Int.tdiv (b1.length : Int) 2)) - 1)))) hF (by kernel_rfl) (fun hb => ?_) (fun hb => ?_)
      · replace hm := if_t hm hb
        refine wp_skip ?_
        refine then_n ?_
        exact ⟨hF.weak [1, 3, 4, 5] (by kernel_rfl), hS, hm⟩
      · replace hm := if_f hm hb
        refine wp_exit ?_
        refine then_e (then_e (block_e (then_n ?_)))
        have hS := hS.pickN 1 [] (by decide)
        rw [← hφ1] at hm
        replace hm := done_b hm
        unfold gameroomref_SeedsInPits_K1 at hm
        try dsimp only at hm
        have hm : (gameroomref_SeedsInPits_J1 n2).bind some = some r := hm
        exact ⟨n2, hF.weak [4] (by kernel_rfl), hS, hm⟩

noncomputable def gameroomref_pitsEmpty_J3 (i1 : Int) : Option (St Int (Fl Unit Bool)) :=
  some (.next (w64 (i1 + 1)))

noncomputable def gameroomref_pitsEmpty_J2 (b1 : List Int) (player1 : Int) (i1 : Int) : Option (St Int (Fl Unit Bool)) :=
  asrt (0 ≤ (w64 ((w64 (player1 * (w64 (Int.tdiv (b1.length : Int) 2)))) + i1)) ∧ (w64 ((w64 (player1 * (w64 (Int.tdiv (b1.length : Int) 2)))) + i1)) < (b1.length : Int)) <| if (decide ((0 : Int) < (geti b1 (w64 ((w64 (player1 * (w64 (Int.tdiv (b1.length : Int) 2)))) + i1))))) then (some (.done (.ret false))) else ((gameroomref_pitsEmpty_J3 i1))

noncomputable def gameroomref_pitsEmpty_J1 : Option Bool :=
  some true

noncomputable def gameroomref_pitsEmpty_K1 : (Fl Unit Bool) → Option Bool :=
  fun (x : (Fl Unit Bool)) => match x with | .go _ => gameroomref_pitsEmpty_J1 | .ret x => some x

noncomputable def gameroomref_pitsEmpty_L1 (b1 : List Int) (player1 : Int) : Int → Option (St Int (Fl Unit Bool)) :=
  fun (x : Int) => match x with | i1 => if (decide (i1 < (w64 ((w64 (Int.tdiv (b1.length : Int) 2)) - 1)))) then ((gameroomref_pitsEmpty_J2 b1 player1 i1)) else (some (.done (.go ())))

noncomputable def gameroomref_pitsEmpty_m (b1 : List Int) (b2 : Int) (player1 : Int) : Option Bool :=
  (loop (gameroomref_pitsEmpty_L1 b1 player1) 0).bind gameroomref_pitsEmpty_K1

set_option maxRecDepth 100000 in
set_option maxHeartbeats 4000000 in
theorem gameroomref_pitsEmpty_w {A1 : Option Addr} {c1 : Nat} {n1 : Nat} {b1 : List Int} {b2 : Int} {player1 : Int} {r : Bool} {w0 w : World} {B : Nat} {fs : List HP} (hm : gameroomref_pitsEmpty_m b1 b2 player1 = some r) (hS : Sep w0 B w (fs)) (hr_b1 : RdF w0 B fs A1 (vI b1)) (_hc_b1 : b1.length ≤ c1) (_hn_b1 : n1 = b1.length) :
    Calls Try.prog 117 #[.agg #[.slice A1 n1 c1, .int .i64 b2], .int .i64 player1] w fun e w' => e = .returned (.bool r) ∧ Sep w0 B w' (fs) := by
  obtain ⟨i3, hi3, hz3, hs3, hb3⟩ := info_parts Info3
  obtain rfl := _hn_b1
  unfold gameroomref_pitsEmpty_m at hm
  replace hm := start_b hm
  refine enter (l := [.agg #[.slice A1 b1.length c1, .int .i64 b2], .int .i64 player1]) (n := 27) Try.func117 rfl rfl (by simp) (fun a hF => ?_)
  refine seqR ?_
  refine at_do (d := 2) (s := vS (Instr.box 44 (.agg #[.slice A1 b1.length c1, .int .i64 b2]))) (v := .pointer (some ⟨w.heap.size, 0, none⟩)) (w' := w.alloc (.cells #[.slice A1 b1.length c1, .int .i64 b2] 44)) hF (by kernel_rfl) (by kernel_rfl) (by kernel_rfl) (fun a hF => ?_)
  have hS : Sep w0 B (w.alloc (.cells #[.slice A1 b1.length c1, .int .i64 b2] 44)) (blk w.heap.size 44 #[.slice A1 b1.length c1, .int .i64 b2] :: (fs)) := hS.box 44 #[.slice A1 b1.length c1, .int .i64 b2]
  generalize w.heap.size = g1 at hF hS
  generalize w.alloc (.cells #[.slice A1 b1.length c1, .int .i64 b2] 44) = w at hS ⊢
  refine at_run 1 [] [] [1, 2] [pl 1 (.int .i64 player1), pl 2 (.pointer (some ⟨g1, 0, none⟩))] hF hS (by kernel_rfl) (by kernel_rfl) ?_ (fun a w hF hS => ?_)
  · exact obs_nil
  refine at_end [1, 2] [pl 1 (.int .i64 player1), pl 2 (.pointer (some ⟨g1, 0, none⟩))] hF rfl (by kernel_rfl) (fun hF => ?_)
  refine then_n ?_
  refine reg [⟨false, [], vS (Instr.loadAt 22 (.pointer (some ⟨g1, 0, none⟩))), .slice A1 b1.length c1⟩] [none, some (.slice A1 b1.length c1), none, none, none] [1, 2, 5] [pl 1 (.int .i64 player1), pl 2 (.pointer (some ⟨g1, 0, none⟩)), pl 5 (.int .i64 (w64 (Int.tdiv (b1.length : Int) 2)))] hF hS Fol (by kernel_rfl) (by kernel_rfl) (by kernel_rfl) ?_ (fun a w hF hS => ?_)
  · exact obs_cons (ob_load Agg22 (fun _ _ hS => (hS.at_ 0 rfl).cell rfl)) <| obs_nil
  refine seq_cut (fun a w => Fr 27 [] a ∧ Sep w0 B w (fs) ∧ (gameroomref_pitsEmpty_J1).bind some = some r) ?_ ?_
  · rintro a w ⟨hF, hS, hm⟩
    unfold gameroomref_pitsEmpty_J1 at hm
    refine reg [] [] [4] [pl 4 (.bool true)] hF hS Fol (by kernel_rfl) (by kernel_rfl) (by kernel_rfl) ?_ (fun a w hF hS => ?_)
    · exact obs_nil
    refine wp_ret ?_
    have hm : some true = some r := hm
    obtain rfl := Option.some.inj hm
    exact retV (rs := [.tmp 4]) (vs := [.bool true]) hF rfl (rv_t (by kernel_rfl) <| rv_nil) rfl ⟨rfl, hS⟩
  · refine reg [] [] [1, 2, 5, 6] [pl 1 (.int .i64 player1), pl 2 (.pointer (some ⟨g1, 0, none⟩)), pl 5 (.int .i64 (w64 (Int.tdiv (b1.length : Int) 2))), pl 6 (.int .i64 0)] hF hS Fol (by kernel_rfl) (by kernel_rfl) (by kernel_rfl) ?_ (fun a w hF hS => ?_)
    · exact obs_nil
    refine wp_block ?_
    refine wp_loop_model (S := Int) (R := (Fl Unit Bool)) (gameroomref_pitsEmpty_L1 b1 player1) (fun x => (gameroomref_pitsEmpty_K1 x).bind some) r (fun (x : Int) a w => Fr 27 [pl 1 (.int .i64 player1), pl 2 (.pointer (some ⟨g1, 0, none⟩)), pl 5 (.int .i64 (w64 (Int.tdiv (b1.length : Int) 2))), pl 6 (.int .i64 x)] a ∧ Sep w0 B w (blk g1 44 #[.slice A1 b1.length c1, .int .i64 b2] :: fs)) (assoc_b hm) ⟨hF.weak [1, 2, 5, 6] (by kernel_rfl), hS⟩ ?_
    clear hF hS hm
    rintro nn1 i1 a w ⟨hF, hS⟩ hm
    generalize hφ1 : stK (gameroomref_pitsEmpty_L1 b1 player1) nn1 (fun x => (gameroomref_pitsEmpty_K1 x).bind some) = φ1 at hm
    unfold gameroomref_pitsEmpty_L1 at hm
    dsimp only at hm
    refine seq_cut (fun a w => Fr 27 [pl 1 (.int .i64 player1), pl 2 (.pointer (some ⟨g1, 0, none⟩)), pl 5 (.int .i64 (w64 (Int.tdiv (b1.length : Int) 2))), pl 6 (.int .i64 i1)] a ∧ Sep w0 B w (blk g1 44 #[.slice A1 b1.length c1, .int .i64 b2] :: fs) ∧ ((gameroomref_pitsEmpty_J2 b1 player1 i1)).bind φ1 = some r) ?_ ?_
    · rintro a w ⟨hF, hS, hm⟩
      unfold gameroomref_pitsEmpty_J2 at hm
      refine seq_cut (fun a w => Fr 27 [pl 1 (.int .i64 player1), pl 2 (.pointer (some ⟨g1, 0, none⟩)), pl 5 (.int .i64 (w64 (Int.tdiv (b1.length : Int) 2))), pl 6 (.int .i64 i1)] a ∧ Sep w0 B w (blk g1 44 #[.slice A1 b1.length c1, .int .i64 b2] :: fs) ∧ ((gameroomref_pitsEmpty_J3 i1)).bind φ1 = some r) ?_ ?_
      · rintro a w ⟨hF, hS, hm⟩
        unfold gameroomref_pitsEmpty_J3 at hm
        refine reg1 [] [] [1, 2, 5, 6] [pl 1 (.int .i64 player1), pl 2 (.pointer (some ⟨g1, 0, none⟩)), pl 5 (.int .i64 (w64 (Int.tdiv (b1.length : Int) 2))), pl 6 (.int .i64 (w64 (i1 + 1)))] hF hS Fol (by kernel_rfl) (by kernel_rfl) (by kernel_rfl) ?_ (fun a w hF hS => ?_)
        · exact obs_nil
        refine then_n ?_
        rw [← hφ1] at hm
        exact ⟨(w64 (i1 + 1)), ⟨hF.weak [1, 2, 5, 6] (by kernel_rfl), hS⟩, hm⟩
      · refine wp_block ?_
        obtain ⟨hp1, hm⟩ := asrt_b hm
        refine reg [⟨false, [], vS (Instr.loadAt 22 (.pointer (some ⟨g1, 0, none⟩))), .slice A1 b1.length c1⟩, ⟨true, [], vS (Instr.indexAt 22 (.slice A1 b1.length c1) (.int .i64 (w64 ((w64 (player1 * (w64 (Int.tdiv (b1.length : Int) 2)))) + i1)))), .pointer (some (sAddr A1 (w64 ((w64 (player1 * (w64 (Int.tdiv (b1.length : Int) 2)))) + i1))))⟩, ⟨false, [], vS (Instr.loadAt 3 (.pointer (some (sAddr A1 (w64 ((w64 (player1 * (w64 (Int.tdiv (b1.length : Int) 2)))) + i1)))))), .int .i64 (geti b1 (w64 ((w64 (player1 * (w64 (Int.tdiv (b1.length : Int) 2)))) + i1)))⟩] [none, some (.slice A1 b1.length c1), none, none, none, none, none, some (.pointer (some (sAddr A1 (w64 ((w64 (player1 * (w64 (Int.tdiv (b1.length : Int) 2)))) + i1))))), some (.int .i64 (geti b1 (w64 ((w64 (player1 * (w64 (Int.tdiv (b1.length : Int) 2)))) + i1)))), none] [1, 2, 5, 6, 26] [pl 1 (.int .i64 player1), pl 2 (.pointer (some ⟨g1, 0, none⟩)), pl 5 (.int .i64 (w64 (Int.tdiv (b1.length : Int) 2))), pl 6 (.int .i64 i1), pl 26 (.bool (decide ((0 : Int) < (geti b1 (w64 ((w64 (player1 * (w64 (Int.tdiv (b1.length : Int) 2)))) + i1))))))] hF hS Fol (by kernel_rfl) (by kernel_rfl) (by kernel_rfl) ?_ (fun a w hF hS => ?_)
        · exact obs_cons (ob_load Agg22 (fun _ _ hS => (hS.at_ 0 rfl).cell rfl)) <| obs_cons (ob_ix1 (f := (Value.int .i64)) (m := b1) Und22 hi3 hs3 (hr_b1 _ (hS.dropN 1)) rfl (fun _ => hp1)) <| obs_cons (ob_get1 (n := b1.length) (m := b1) (Value.int .i64) (0 : Int) Agg3 (fun _ hS => ⟨_, (hr_b1 _ (hS.dropN 1))⟩) (fun _ hS => rfl) (fun _ => hp1)) <| obs_nil
        refine cond_ev (t := 26) (b := decide ((0 : Int) < (geti b1 (w64 ((w64 (player1 * (w64 (Int.tdiv (b1.length : Int) 2)))) + i1))))) hF (by kernel_rfl) (fun hb => ?_) (fun hb => ?_)
        · replace hm := if_t hm hb
          refine reg [] [] [4] [pl 4 (.bool false)] hF hS Fol (by kernel_rfl) (by kernel_rfl) (by kernel_rfl) ?_ (fun a w hF hS => ?_)
          · exact obs_nil
          refine wp_ret ?_
          refine block_r (then_r (then_r (block_r (then_r ?_))))
          rw [← hφ1] at hm
          replace hm := done_b hm
          unfold gameroomref_pitsEmpty_K1 at hm
          try dsimp only at hm
          have hS := hS.pickN 1 [] (by decide)
          have hm : some false = some r := hm
          obtain rfl := Option.some.inj hm
          exact retV (rs := [.tmp 4]) (vs := [.bool false]) hF rfl (rv_t (by kernel_rfl) <| rv_nil) rfl ⟨rfl, hS⟩
        · replace hm := if_f hm hb
          refine wp_skip ?_
          refine block_n ?_
          refine then_n ?_
          exact ⟨hF.weak [1, 2, 5, 6] (by kernel_rfl), hS, hm⟩
    · refine reg [] [] [1, 2, 5, 6, 14] [pl 1 (.int .i64 player1), pl 2 (.pointer (some ⟨g1, 0, none⟩)), pl 5 (.int .i64 (w64 (Int.tdiv (b1.length : Int) 2))), pl 6 (.int .i64 i1), pl 14 (.bool (decide (i1 < (w64 ((w64 (Int.tdiv (b1.length : Int) 2)) - 1)))))] hF hS Fol (by kernel_rfl) (by kernel_rfl) (by kernel_rfl) ?_ (fun a w hF hS => ?_)
      · exact obs_nil
      refine cond_ev (t := 14) (b := decide (i1 < (w64 ((w64 (Int.tdiv (b1.length : Int) 2)) - 1)))) hF (by kernel_rfl) (fun hb => ?_) (fun hb => ?_)
      · replace hm := if_t hm hb
        refine wp_skip ?_
        refine then_n ?_
        exact ⟨hF.weak [1, 2, 5, 6] (by kernel_rfl), hS, hm⟩
      · replace hm := if_f hm hb
        refine wp_exit ?_
        refine then_e (then_e (block_e (then_n ?_)))
        have hS := hS.pickN 1 [] (by decide)
        rw [← hφ1] at hm
        replace hm := done_b hm
        unfold gameroomref_pitsEmpty_K1 at hm
        try dsimp only at hm
        have hm : (gameroomref_pitsEmpty_J1).bind some = some r := hm
        exact ⟨hF.weak [] (by kernel_rfl), hS, hm⟩

noncomputable def gameroomref_MancalaOver_m (b1 : List Int) (b2 : Int) : Option Bool :=
  (gameroomref_pitsEmpty_m b1 b2 0).bind fun r1 => ((if (!r1) then gameroomref_pitsEmpty_m b1 b2 1 else some false)).bind fun r2 => some (r1 || r2)

set_option maxRecDepth 100000 in
set_option maxHeartbeats 4000000 in
theorem gameroomref_MancalaOver_w {A1 : Option Addr} {c1 : Nat} {n1 : Nat} {b1 : List Int} {b2 : Int} {r : Bool} {w0 w : World} {B : Nat} {fs : List HP} (hm : gameroomref_MancalaOver_m b1 b2 = some r) (hS : Sep w0 B w (fs)) (hr_b1 : RdF w0 B fs A1 (vI b1)) (_hc_b1 : b1.length ≤ c1) (_hn_b1 : n1 = b1.length) :
    Calls Try.prog 71 #[.agg #[.slice A1 n1 c1, .int .i64 b2]] w fun e w' => e = .returned (.bool r) ∧ Sep w0 B w' (fs) := by
  obtain ⟨i3, hi3, hz3, hs3, hb3⟩ := info_parts Info3
  obtain rfl := _hn_b1
  unfold gameroomref_MancalaOver_m at hm
  replace hm := start_b hm
  refine enter (l := [.agg #[.slice A1 b1.length c1, .int .i64 b2]]) (n := 9) Try.func71 rfl rfl (by simp) (fun a hF => ?_)
  refine seqR ?_
  refine at_do (d := 1) (s := vS (Instr.box 44 (.agg #[.slice A1 b1.length c1, .int .i64 b2]))) (v := .pointer (some ⟨w.heap.size, 0, none⟩)) (w' := w.alloc (.cells #[.slice A1 b1.length c1, .int .i64 b2] 44)) hF (by kernel_rfl) (by kernel_rfl) (by kernel_rfl) (fun a hF => ?_)
  have hS : Sep w0 B (w.alloc (.cells #[.slice A1 b1.length c1, .int .i64 b2] 44)) (blk w.heap.size 44 #[.slice A1 b1.length c1, .int .i64 b2] :: (fs)) := hS.box 44 #[.slice A1 b1.length c1, .int .i64 b2]
  generalize w.heap.size = g1 at hF hS
  generalize w.alloc (.cells #[.slice A1 b1.length c1, .int .i64 b2] 44) = w at hS ⊢
  refine at_run 1 [] [] [1] [pl 1 (.pointer (some ⟨g1, 0, none⟩))] hF hS (by kernel_rfl) (by kernel_rfl) ?_ (fun a w hF hS => ?_)
  · exact obs_nil
  refine at_end [1] [pl 1 (.pointer (some ⟨g1, 0, none⟩))] hF rfl (by kernel_rfl) (fun hF => ?_)
  refine then_n ?_
  obtain ⟨r1, hr1, hm⟩ := call_b hm
  obtain ⟨r2, hr2, hm⟩ := call_b hm
  refine reg [⟨false, [], vS (Instr.loadAt 44 (.pointer (some ⟨g1, 0, none⟩))), .agg #[.slice A1 b1.length c1, .int .i64 b2]⟩, ⟨false, [], callFunc 117 #[.agg #[.slice A1 b1.length c1, .int .i64 b2], .int .i64 0], .bool r1⟩, ⟨false, [(r1, false)], vS (Instr.loadAt 44 (.pointer (some ⟨g1, 0, none⟩))), .agg #[.slice A1 b1.length c1, .int .i64 b2]⟩, ⟨false, [(r1, false)], callFunc 117 #[.agg #[.slice A1 b1.length c1, .int .i64 b2], .int .i64 1], .bool r2⟩] [some (.agg #[.slice A1 b1.length c1, .int .i64 b2]), some (.bool r1), none, some (.agg #[.slice A1 b1.length c1, .int .i64 b2]), some (.bool r2), none, none] [2] [pl 2 (.bool (r1 || r2))] hF hS Fol (by kernel_rfl) (by kernel_rfl) (by kernel_rfl) ?_ (fun a w hF hS => ?_)
  · exact obs_cons (ob_loadA (cs := #[.slice A1 b1.length c1, .int .i64 b2]) (by kernel_rfl) (by kernel_rfl) (fun _ _ hS => (hS.at_ 0 rfl).cellsAt 0 (by rfl))) <| obs_cons (ob_call Try.func117 (by kernel_rfl) rfl (fun _ _ hS => gameroomref_pitsEmpty_w hr1 hS (fun _ hS => (hr_b1 _ (hS.dropN 1))) _hc_b1 rfl)) <| obs_cons (ob_loadA (cs := #[.slice A1 b1.length c1, .int .i64 b2]) (by kernel_rfl) (by kernel_rfl) (fun _ _ hS => (hS.at_ 0 rfl).cellsAt 0 (by rfl))) <| obs_cons (ob_call Try.func117 (by kernel_rfl) rfl (fun hy _ hS => gameroomref_pitsEmpty_w (ite_some hr2 (by rw [show r1 = false from hy (r1, false) (by simp)]; try rfl)) hS (fun _ hS => (hr_b1 _ (hS.dropN 1))) _hc_b1 rfl)) <| obs_nil
  refine wp_ret ?_
  have hS := hS.pickN 1 [] (by decide)
  have hm : some (r1 || r2) = some r := hm
  obtain rfl := Option.some.inj hm
  exact retV (rs := [.tmp 2]) (vs := [.bool (r1 || r2)]) hF rfl (rv_t (by kernel_rfl) <| rv_nil) rfl ⟨rfl, hS⟩

noncomputable def gameroomref_Ints_m (l1 : List Int) : Option (List Int) :=
  asrt ((0 : Int) + (l1.length : Int) ≤ bigN) <| some ([] ++ l1)

set_option maxRecDepth 100000 in
set_option maxHeartbeats 4000000 in
theorem gameroomref_Ints_w {A1 : Option Addr} {c1 : Nat} {n1 : Nat} {l1 : List Int} {r : (List Int)} {w0 w : World} {B : Nat} {fs : List HP} (hm : gameroomref_Ints_m l1 = some r) (hS : Sep w0 B w (fs)) (hr_l1 : RdF w0 B fs A1 (vI l1)) (_hc_l1 : l1.length ≤ c1) (_hn_l1 : n1 = l1.length) :
    Calls Try.prog 58 #[.slice A1 n1 c1] w fun e w' => ∃ v, e = .returned v ∧ ∃ (A3 : Option Addr) (c3 : Nat), v = .slice A3 r.length c3 ∧ Sep w0 B w' (own 3 (.slice A3 r.length c3) (vI r) :: fs) := by
  obtain ⟨i3, hi3, hz3, hs3, hb3⟩ := info_parts Info3
  obtain rfl := _hn_l1
  unfold gameroomref_Ints_m at hm
  replace hm := start_b hm
  refine enter (l := [.slice A1 l1.length c1]) (n := 5) Try.func58 rfl rfl (by simp) (fun a hF => ?_)
  refine reg [] [] [0] [pl 0 (.slice A1 l1.length c1)] hF hS Fol (by kernel_rfl) (by kernel_rfl) (by kernel_rfl) ?_ (fun a w hF hS => ?_)
  · exact obs_nil
  refine seqR ?_
  obtain ⟨hp1, hm⟩ := asrt_b hm
  refine at_run 1 [] [] [3] [pl 3 (.slice A1 l1.length c1)] hF hS (by kernel_rfl) (by kernel_rfl) ?_ (fun a w hF hS => ?_)
  · exact obs_nil
  have hS : Sep w0 B w (own 3 (.slice none 0 0) (vI ([] : List Int)) :: fs) := hS.nil 3
  obtain ⟨A2, c2, w, hrun, hS⟩ := run_app1 (P := Try.prog) (t := 22) (m := ([] : List Int)) (ys := l1) (A2 := A1) (m2 := l1.length) (c2 := c1) (Value.int .i64) (0 : Int) (hS.at_ 0 rfl) (hr_l1 _ (hS.dropN 1)) rfl 22 Und22 hi3 hz3 hs3 (by omega) rfl (fun _ => rfl) hp1
  have hS : Sep w0 B w (own 3 (.slice A2 (([] ++ l1).length) c2) (vI ([] ++ l1)) :: fs) := hS
  refine at_do (d := 4) hF (by kernel_rfl) (by kernel_rfl) hrun (fun a hF => ?_)
  refine at_run 1 [] [] [2] [pl 2 (.slice A2 (([] ++ l1).length) c2)] hF hS (by kernel_rfl) (by kernel_rfl) ?_ (fun a w hF hS => ?_)
  · exact obs_nil
  refine at_end [2] [pl 2 (.slice A2 (([] ++ l1).length) c2)] hF rfl (by kernel_rfl) (fun hF => ?_)
  refine then_n ?_
  refine wp_ret ?_
  have hm : some ([] ++ l1) = some r := hm
  obtain rfl := Option.some.inj hm
  exact retV (rs := [.tmp 2]) (vs := [.slice A2 (([] ++ l1).length) c2]) hF rfl (rv_t (by kernel_rfl) <| rv_nil) rfl ⟨_, rfl, A2, c2, rfl, hS⟩

noncomputable def gameroomref_SowOf_J6 (b1 : List Int) (r3 : (List Int)) (place1 : Int) (s1 : List Int) (hand1 : Int) : Option (St (Int × List Int × Int) (Int × List Int)) :=
  asrt (0 ≤ (Int.tmod (w64 (place1 + 1)) (b1.length : Int)) ∧ (Int.tmod (w64 (place1 + 1)) (b1.length : Int)) < (r3.length : Int)) <| asrt (0 ≤ (Int.tmod (w64 (place1 + 1)) (b1.length : Int)) ∧ (Int.tmod (w64 (place1 + 1)) (b1.length : Int)) < (r3.length : Int)) <| some (.next ((Int.tmod (w64 (place1 + 1)) (b1.length : Int)), (s1.set (Int.toNat (Int.tmod (w64 (place1 + 1)) (b1.length : Int))) (w64 ((geti s1 (Int.tmod (w64 (place1 + 1)) (b1.length : Int))) + 1))), (w64 (hand1 - 1))))

noncomputable def gameroomref_SowOf_J5 (b1 : List Int) (b2 : Int) (r3 : (List Int)) (place1 : Int) (s1 : List Int) (hand1 : Int) : Option (St (Int × List Int × Int) (Int × List Int)) :=
  asrt ((b1.length : Int) ≠ (0 : Int)) <| if ((Int.tmod (w64 (place1 + 1)) (b1.length : Int)) == (w64 ((w64 ((w64 ((w64 (1 - b2)) * (w64 (Int.tdiv (b1.length : Int) 2)))) + (w64 (Int.tdiv (b1.length : Int) 2)))) - 1))) then (some (.next ((Int.tmod (w64 (place1 + 1)) (b1.length : Int)), s1, hand1))) else ((gameroomref_SowOf_J6 b1 r3 place1 s1 hand1))

noncomputable def gameroomref_SowOf_J10 (b1 : List Int) (s4 : List Int) (i1 : Int) : Option (St (List Int × Int) (List Int)) :=
  some (.next (((((s4.set (Int.toNat (w64 ((w64 (Int.tdiv (b1.length : Int) 2)) - 1))) (w64 ((geti s4 (w64 ((w64 (Int.tdiv (b1.length : Int) 2)) - 1))) + (geti s4 i1)))).set (Int.toNat i1) 0).set (Int.toNat (w64 ((b1.length : Int) - 1))) (w64 ((geti ((s4.set (Int.toNat (w64 ((w64 (Int.tdiv (b1.length : Int) 2)) - 1))) (w64 ((geti s4 (w64 ((w64 (Int.tdiv (b1.length : Int) 2)) - 1))) + (geti s4 i1)))).set (Int.toNat i1) 0) (w64 ((b1.length : Int) - 1))) + (geti ((s4.set (Int.toNat (w64 ((w64 (Int.tdiv (b1.length : Int) 2)) - 1))) (w64 ((geti s4 (w64 ((w64 (Int.tdiv (b1.length : Int) 2)) - 1))) + (geti s4 i1)))).set (Int.toNat i1) 0) (w64 ((w64 (Int.tdiv (b1.length : Int) 2)) + i1)))))).set (Int.toNat (w64 ((w64 (Int.tdiv (b1.length : Int) 2)) + i1))) 0), (w64 (i1 + 1))))

noncomputable def gameroomref_SowOf_J9 (b1 : List Int) (r3 : (List Int)) (s4 : List Int) (i1 : Int) : Option (St (List Int × Int) (List Int)) :=
  asrt (0 ≤ (w64 ((w64 (Int.tdiv (b1.length : Int) 2)) - 1)) ∧ (w64 ((w64 (Int.tdiv (b1.length : Int) 2)) - 1)) < (r3.length : Int)) <| asrt (0 ≤ i1 ∧ i1 < (r3.length : Int)) <| asrt (0 ≤ (w64 ((w64 (Int.tdiv (b1.length : Int) 2)) - 1)) ∧ (w64 ((w64 (Int.tdiv (b1.length : Int) 2)) - 1)) < (r3.length : Int)) <| asrt (0 ≤ i1 ∧ i1 < (r3.length : Int)) <| asrt (0 ≤ (w64 ((b1.length : Int) - 1)) ∧ (w64 ((b1.length : Int) - 1)) < (r3.length : Int)) <| asrt (0 ≤ (w64 ((w64 (Int.tdiv (b1.length : Int) 2)) + i1)) ∧ (w64 ((w64 (Int.tdiv (b1.length : Int) 2)) + i1)) < (r3.length : Int)) <| asrt (0 ≤ (w64 ((b1.length : Int) - 1)) ∧ (w64 ((b1.length : Int) - 1)) < (r3.length : Int)) <| asrt (0 ≤ (w64 ((w64 (Int.tdiv (b1.length : Int) 2)) + i1)) ∧ (w64 ((w64 (Int.tdiv (b1.length : Int) 2)) + i1)) < (r3.length : Int)) <| (gameroomref_SowOf_J10 b1 s4 i1)

noncomputable def gameroomref_SowOf_L2 (b1 : List Int) (r3 : (List Int)) : (List Int × Int) → Option (St (List Int × Int) (List Int)) :=
  fun (x : (List Int × Int)) => match x with | (s4, i1) => if (decide (i1 < (w64 ((w64 (Int.tdiv (b1.length : Int) 2)) - 1)))) then ((gameroomref_SowOf_J9 b1 r3 s4 i1)) else (some (.done s4))

noncomputable def gameroomref_SowOf_J11 (b1 : List Int) (b2 : Int) (place2 : Int) (out1 : List Int) (out2 : Int) : Option (List Int × Int × Bool × Int) :=
  some (out1, out2, (place2 == (w64 ((w64 ((w64 (b2 * (w64 (Int.tdiv (b1.length : Int) 2)))) + (w64 (Int.tdiv (b1.length : Int) 2)))) - 1))), 0)

noncomputable def gameroomref_SowOf_J8 (b1 : List Int) (b2 : Int) (place2 : Int) (out1 : List Int) : Option (List Int × Int × Bool × Int) :=
  if (!(place2 == (w64 ((w64 ((w64 (b2 * (w64 (Int.tdiv (b1.length : Int) 2)))) + (w64 (Int.tdiv (b1.length : Int) 2)))) - 1)))) then ((gameroomref_SowOf_J11 b1 b2 place2 out1) (w64 (1 - b2))) else ((gameroomref_SowOf_J11 b1 b2 place2 out1) b2)

noncomputable def gameroomref_SowOf_K2 (b1 : List Int) (b2 : Int) (place2 : Int) : (List Int) → Option (List Int × Int × Bool × Int) :=
  fun (x : (List Int)) => match x with | out1 => (gameroomref_SowOf_J8 b1 b2 place2) out1

noncomputable def gameroomref_SowOf_J7 (b1 : List Int) (b2 : Int) (r3 : (List Int)) (place2 : Int) (s3 : List Int) : Option (List Int × Int × Bool × Int) :=
  (gameroomref_MancalaOver_m s3 b2).bind fun r4 => if r4 then ((loop (gameroomref_SowOf_L2 b1 r3) (s3, 0)).bind (gameroomref_SowOf_K2 b1 b2 place2)) else ((gameroomref_SowOf_J8 b1 b2 place2) s3)

noncomputable def gameroomref_SowOf_J4 (b1 : List Int) (b2 : Int) (r3 : (List Int)) (place2 : Int) (s2 : List Int) : Option (List Int × Int × Bool × Int) :=
  asrt ((w64 (Int.tdiv (b1.length : Int) 2)) ≠ (0 : Int)) <| asrt ((((w64 (Int.tdiv place2 (w64 (Int.tdiv (b1.length : Int) 2)))) == b2) && (place2 != (w64 ((w64 ((w64 (b2 * (w64 (Int.tdiv (b1.length : Int) 2)))) + (w64 (Int.tdiv (b1.length : Int) 2)))) - 1)))) = true → 0 ≤ place2 ∧ place2 < (r3.length : Int)) <| if ((((w64 (Int.tdiv place2 (w64 (Int.tdiv (b1.length : Int) 2)))) == b2) && (place2 != (w64 ((w64 ((w64 (b2 * (w64 (Int.tdiv (b1.length : Int) 2)))) + (w64 (Int.tdiv (b1.length : Int) 2)))) - 1)))) && ((geti s2 place2) == 1)) then (asrt (0 ≤ (w64 ((w64 ((b1.length : Int) - 2)) - place2)) ∧ (w64 ((w64 ((b1.length : Int) - 2)) - place2)) < (r3.length : Int)) <| if (decide ((0 : Int) < (geti s2 (w64 ((w64 ((b1.length : Int) - 2)) - place2))))) then (asrt (0 ≤ (w64 ((w64 ((w64 (b2 * (w64 (Int.tdiv (b1.length : Int) 2)))) + (w64 (Int.tdiv (b1.length : Int) 2)))) - 1)) ∧ (w64 ((w64 ((w64 (b2 * (w64 (Int.tdiv (b1.length : Int) 2)))) + (w64 (Int.tdiv (b1.length : Int) 2)))) - 1)) < (r3.length : Int)) <| asrt (0 ≤ (w64 ((w64 ((b1.length : Int) - 2)) - place2)) ∧ (w64 ((w64 ((b1.length : Int) - 2)) - place2)) < (r3.length : Int)) <| asrt (0 ≤ (w64 ((w64 ((w64 (b2 * (w64 (Int.tdiv (b1.length : Int) 2)))) + (w64 (Int.tdiv (b1.length : Int) 2)))) - 1)) ∧ (w64 ((w64 ((w64 (b2 * (w64 (Int.tdiv (b1.length : Int) 2)))) + (w64 (Int.tdiv (b1.length : Int) 2)))) - 1)) < (r3.length : Int)) <| asrt (0 ≤ place2 ∧ place2 < (r3.length : Int)) <| asrt (0 ≤ (w64 ((w64 ((b1.length : Int) - 2)) - place2)) ∧ (w64 ((w64 ((b1.length : Int) - 2)) - place2)) < (r3.length : Int)) <| (gameroomref_SowOf_J7 b1 b2 r3 place2) (((s2.set (Int.toNat (w64 ((w64 ((w64 (b2 * (w64 (Int.tdiv (b1.length : Int) 2)))) + (w64 (Int.tdiv (b1.length : Int) 2)))) - 1))) (w64 ((geti s2 (w64 ((w64 ((w64 (b2 * (w64 (Int.tdiv (b1.length : Int) 2)))) + (w64 (Int.tdiv (b1.length : Int) 2)))) - 1))) + (w64 ((geti s2 (w64 ((w64 ((b1.length : Int) - 2)) - place2))) + 1))))).set (Int.toNat place2) 0).set (Int.toNat (w64 ((w64 ((b1.length : Int) - 2)) - place2))) 0)) else ((gameroomref_SowOf_J7 b1 b2 r3 place2) s2)) else ((gameroomref_SowOf_J7 b1 b2 r3 place2) s2)

noncomputable def gameroomref_SowOf_K1 (b1 : List Int) (b2 : Int) (r3 : (List Int)) : (Int × List Int) → Option (List Int × Int × Bool × Int) :=
  fun (x : (Int × List Int)) => match x with | (place2, s2) => (gameroomref_SowOf_J4 b1 b2 r3) place2 s2

noncomputable def gameroomref_SowOf_L1 (b1 : List Int) (b2 : Int) (r3 : (List Int)) : (Int × List Int × Int) → Option (St (Int × List Int × Int) (Int × List Int)) :=
  fun (x : (Int × List Int × Int)) => match x with | (place1, s1, hand1) => if (decide ((0 : Int) < hand1)) then ((gameroomref_SowOf_J5 b1 b2 r3 place1 s1 hand1)) else (some (.done (place1, s1)))

noncomputable def gameroomref_SowOf_J3 (b1 : List Int) (b2 : Int) (pit1 : Int) : Option (List Int × Int × Bool × Int) :=
  (gameroomref_Ints_m b1).bind fun r3 => asrt (0 ≤ (w64 ((w64 (b2 * (w64 (Int.tdiv (b1.length : Int) 2)))) + pit1)) ∧ (w64 ((w64 (b2 * (w64 (Int.tdiv (b1.length : Int) 2)))) + pit1)) < (r3.length : Int)) <| asrt (0 ≤ (w64 ((w64 (b2 * (w64 (Int.tdiv (b1.length : Int) 2)))) + pit1)) ∧ (w64 ((w64 (b2 * (w64 (Int.tdiv (b1.length : Int) 2)))) + pit1)) < (r3.length : Int)) <| (loop (gameroomref_SowOf_L1 b1 b2 r3) ((w64 ((w64 (b2 * (w64 (Int.tdiv (b1.length : Int) 2)))) + pit1)), (r3.set (Int.toNat (w64 ((w64 (b2 * (w64 (Int.tdiv (b1.length : Int) 2)))) + pit1))) 0), (geti r3 (w64 ((w64 (b2 * (w64 (Int.tdiv (b1.length : Int) 2)))) + pit1))))).bind (gameroomref_SowOf_K1 b1 b2 r3)

noncomputable def gameroomref_SowOf_J2 (b1 : List Int) (b2 : Int) (pit1 : Int) : Option (List Int × Int × Bool × Int) :=
  asrt (0 ≤ (w64 ((w64 (b2 * (w64 (Int.tdiv (b1.length : Int) 2)))) + pit1)) ∧ (w64 ((w64 (b2 * (w64 (Int.tdiv (b1.length : Int) 2)))) + pit1)) < (b1.length : Int)) <| if ((geti b1 (w64 ((w64 (b2 * (w64 (Int.tdiv (b1.length : Int) 2)))) + pit1))) == 0) then (some (([] : List Int), 0, false, 10)) else ((gameroomref_SowOf_J3 b1 b2 pit1))

noncomputable def gameroomref_SowOf_J1 (b1 : List Int) (b2 : Int) (pit1 : Int) : Option (List Int × Int × Bool × Int) :=
  (gameroomref_within_m pit1 0 (w64 ((w64 (Int.tdiv (b1.length : Int) 2)) - 2))).bind fun r2 => if (!r2) then (some (([] : List Int), 0, false, 3)) else ((gameroomref_SowOf_J2 b1 b2 pit1))

noncomputable def gameroomref_SowOf_m (b1 : List Int) (b2 : Int) (pit1 : Int) : Option (List Int × Int × Bool × Int) :=
  (gameroomref_MancalaOver_m b1 b2).bind fun r1 => if r1 then (some (([] : List Int), 0, false, 9)) else ((gameroomref_SowOf_J1 b1 b2 pit1))

set_option maxRecDepth 100000 in
set_option maxHeartbeats 4000000 in
theorem gameroomref_SowOf_w {A1 : Option Addr} {c1 : Nat} {n1 : Nat} {b1 : List Int} {b2 : Int} {pit1 : Int} {r : (List Int × Int × Bool × Int)} {w0 w : World} {B : Nat} {fs : List HP} (hm : gameroomref_SowOf_m b1 b2 pit1 = some r) (hS : Sep w0 B w (fs)) (hr_b1 : RdF w0 B fs A1 (vI b1)) (_hc_b1 : b1.length ≤ c1) (_hn_b1 : n1 = b1.length) :
    Calls Try.prog 72 #[.agg #[.slice A1 n1 c1, .int .i64 b2], .int .i64 pit1] w fun e w' => ∃ v, e = .returned v ∧ ∃ (A3 : Option Addr) (c3 : Nat), v = .tuple #[.agg #[.slice A3 r.1.length c3, .int .i64 r.2.1], .bool r.2.2.1, .int .i64 r.2.2.2] ∧ Sep w0 B w' (own 3 (.slice A3 r.1.length c3) (vI r.1) :: fs) := by
  obtain ⟨i3, hi3, hz3, hs3, hb3⟩ := info_parts Info3
  obtain rfl := _hn_b1
  unfold gameroomref_SowOf_m at hm
  replace hm := start_b hm
  refine enter (l := [.agg #[.slice A1 b1.length c1, .int .i64 b2], .int .i64 pit1]) (n := 186) Try.func72 rfl rfl (by simp) (fun a hF => ?_)
  refine seqR ?_
  refine at_do (d := 2) (s := vS (Instr.box 44 (.agg #[.slice A1 b1.length c1, .int .i64 b2]))) (v := .pointer (some ⟨w.heap.size, 0, none⟩)) (w' := w.alloc (.cells #[.slice A1 b1.length c1, .int .i64 b2] 44)) hF (by kernel_rfl) (by kernel_rfl) (by kernel_rfl) (fun a hF => ?_)
  have hS : Sep w0 B (w.alloc (.cells #[.slice A1 b1.length c1, .int .i64 b2] 44)) (blk w.heap.size 44 #[.slice A1 b1.length c1, .int .i64 b2] :: (fs)) := hS.box 44 #[.slice A1 b1.length c1, .int .i64 b2]
  generalize w.heap.size = g1 at hF hS
  generalize w.alloc (.cells #[.slice A1 b1.length c1, .int .i64 b2] 44) = w at hS ⊢
  refine at_do (d := 4) (s := vS (Instr.alloc 44 true (.tuple #[]))) (v := .pointer (some ⟨w.heap.size, 0, none⟩)) (w' := w.alloc (.cells #[.slice none 0 0, .int .i64 0] 44)) hF (by kernel_rfl) (by kernel_rfl) (by kernel_rfl) (fun a hF => ?_)
  have hS : Sep w0 B (w.alloc (.cells #[.slice none 0 0, .int .i64 0] 44)) (blk w.heap.size 44 #[.slice none 0 0, .int .i64 0] :: (blk g1 44 #[.slice A1 b1.length c1, .int .i64 b2] :: fs)) := hS.box 44 #[.slice none 0 0, .int .i64 0]
  generalize w.heap.size = g2 at hF hS
  generalize w.alloc (.cells #[.slice none 0 0, .int .i64 0] 44) = w at hS ⊢
  refine at_run 2 [] [] [1, 2, 4] [pl 1 (.int .i64 pit1), pl 2 (.pointer (some ⟨g1, 0, none⟩)), pl 4 (.pointer (some ⟨g2, 0, none⟩))] hF hS (by kernel_rfl) (by kernel_rfl) ?_ (fun a w hF hS => ?_)
  · exact obs_nil
  refine at_end [1, 2, 4] [pl 1 (.int .i64 pit1), pl 2 (.pointer (some ⟨g1, 0, none⟩)), pl 4 (.pointer (some ⟨g2, 0, none⟩))] hF rfl (by kernel_rfl) (fun hF => ?_)
  refine then_n ?_
  refine reg [⟨false, [], vS (Instr.loadAt 22 (.pointer (some ⟨g1, 0, none⟩))), .slice A1 b1.length c1⟩] [none, some (.slice A1 b1.length c1), none, none] [1, 2, 4, 7] [pl 1 (.int .i64 pit1), pl 2 (.pointer (some ⟨g1, 0, none⟩)), pl 4 (.pointer (some ⟨g2, 0, none⟩)), pl 7 (.int .i64 (b1.length : Int))] hF hS Fol (by kernel_rfl) (by kernel_rfl) (by kernel_rfl) ?_ (fun a w hF hS => ?_)
  · exact obs_cons (ob_load Agg22 (fun _ _ hS => (hS.at_ 1 rfl).cell rfl)) <| obs_nil
  refine reg [] [] [1, 2, 4, 7, 8] [pl 1 (.int .i64 pit1), pl 2 (.pointer (some ⟨g1, 0, none⟩)), pl 4 (.pointer (some ⟨g2, 0, none⟩)), pl 7 (.int .i64 (b1.length : Int)), pl 8 (.int .i64 (w64 (Int.tdiv (b1.length : Int) 2)))] hF hS Fol (by kernel_rfl) (by kernel_rfl) (by kernel_rfl) ?_ (fun a w hF hS => ?_)
  · exact obs_nil
  refine seq_cut (fun a w => Fr 186 [pl 1 (.int .i64 pit1), pl 2 (.pointer (some ⟨g1, 0, none⟩)), pl 4 (.pointer (some ⟨g2, 0, none⟩)), pl 7 (.int .i64 (b1.length : Int)), pl 8 (.int .i64 (w64 (Int.tdiv (b1.length : Int) 2)))] a ∧ Sep w0 B w (blk g1 44 #[.slice A1 b1.length c1, .int .i64 b2] :: blk g2 44 #[.slice none 0 0, .int .i64 0] :: fs) ∧ ((gameroomref_SowOf_J1 b1 b2 pit1)).bind some = some r) ?_ ?_
  · rintro a w ⟨hF, hS, hm⟩
    unfold gameroomref_SowOf_J1 at hm
    refine seq_cut (fun a w => Fr 186 [pl 1 (.int .i64 pit1), pl 2 (.pointer (some ⟨g1, 0, none⟩)), pl 4 (.pointer (some ⟨g2, 0, none⟩)), pl 7 (.int .i64 (b1.length : Int)), pl 8 (.int .i64 (w64 (Int.tdiv (b1.length : Int) 2)))] a ∧ Sep w0 B w (blk g1 44 #[.slice A1 b1.length c1, .int .i64 b2] :: blk g2 44 #[.slice none 0 0, .int .i64 0] :: fs) ∧ ((gameroomref_SowOf_J2 b1 b2 pit1)).bind some = some r) ?_ ?_
    · rintro a w ⟨hF, hS, hm⟩
      unfold gameroomref_SowOf_J2 at hm
      refine reg [⟨false, [], vS (Instr.loadAt 3 (.pointer (some ⟨g1, 1, none⟩))), .int .i64 b2⟩] [none, some (.int .i64 b2), none, none, none, none, none] [2, 4, 7, 8, 9] [pl 2 (.pointer (some ⟨g1, 0, none⟩)), pl 4 (.pointer (some ⟨g2, 0, none⟩)), pl 7 (.int .i64 (b1.length : Int)), pl 8 (.int .i64 (w64 (Int.tdiv (b1.length : Int) 2))), pl 9 (.int .i64 (w64 ((w64 (b2 * (w64 (Int.tdiv (b1.length : Int) 2)))) + pit1)))] hF hS Fol (by kernel_rfl) (by kernel_rfl) (by kernel_rfl) ?_ (fun a w hF hS => ?_)
      · exact obs_cons (ob_load Agg3 (fun _ _ hS => (hS.at_ 0 rfl).cell rfl)) <| obs_nil
      refine reg [⟨false, [], vS (Instr.loadAt 3 (.pointer (some ⟨g1, 1, none⟩))), .int .i64 b2⟩] [none, some (.int .i64 b2), none, none, none, none, none, none] [2, 4, 7, 8, 9, 10] [pl 2 (.pointer (some ⟨g1, 0, none⟩)), pl 4 (.pointer (some ⟨g2, 0, none⟩)), pl 7 (.int .i64 (b1.length : Int)), pl 8 (.int .i64 (w64 (Int.tdiv (b1.length : Int) 2))), pl 9 (.int .i64 (w64 ((w64 (b2 * (w64 (Int.tdiv (b1.length : Int) 2)))) + pit1))), pl 10 (.int .i64 (w64 ((w64 ((w64 (b2 * (w64 (Int.tdiv (b1.length : Int) 2)))) + (w64 (Int.tdiv (b1.length : Int) 2)))) - 1)))] hF hS Fol (by kernel_rfl) (by kernel_rfl) (by kernel_rfl) ?_ (fun a w hF hS => ?_)
      · exact obs_cons (ob_load Agg3 (fun _ _ hS => (hS.at_ 0 rfl).cell rfl)) <| obs_nil
      refine reg [⟨false, [], vS (Instr.loadAt 3 (.pointer (some ⟨g1, 1, none⟩))), .int .i64 b2⟩] [none, some (.int .i64 b2), none, none, none, none, none, none, none] [2, 4, 7, 8, 9, 10, 11] [pl 2 (.pointer (some ⟨g1, 0, none⟩)), pl 4 (.pointer (some ⟨g2, 0, none⟩)), pl 7 (.int .i64 (b1.length : Int)), pl 8 (.int .i64 (w64 (Int.tdiv (b1.length : Int) 2))), pl 9 (.int .i64 (w64 ((w64 (b2 * (w64 (Int.tdiv (b1.length : Int) 2)))) + pit1))), pl 10 (.int .i64 (w64 ((w64 ((w64 (b2 * (w64 (Int.tdiv (b1.length : Int) 2)))) + (w64 (Int.tdiv (b1.length : Int) 2)))) - 1))), pl 11 (.int .i64 (w64 ((w64 ((w64 ((w64 (1 - b2)) * (w64 (Int.tdiv (b1.length : Int) 2)))) + (w64 (Int.tdiv (b1.length : Int) 2)))) - 1)))] hF hS Fol (by kernel_rfl) (by kernel_rfl) (by kernel_rfl) ?_ (fun a w hF hS => ?_)
      · exact obs_cons (ob_load Agg3 (fun _ _ hS => (hS.at_ 0 rfl).cell rfl)) <| obs_nil
      refine seq_cut (fun a w => Fr 186 [pl 2 (.pointer (some ⟨g1, 0, none⟩)), pl 4 (.pointer (some ⟨g2, 0, none⟩)), pl 7 (.int .i64 (b1.length : Int)), pl 8 (.int .i64 (w64 (Int.tdiv (b1.length : Int) 2))), pl 9 (.int .i64 (w64 ((w64 (b2 * (w64 (Int.tdiv (b1.length : Int) 2)))) + pit1))), pl 10 (.int .i64 (w64 ((w64 ((w64 (b2 * (w64 (Int.tdiv (b1.length : Int) 2)))) + (w64 (Int.tdiv (b1.length : Int) 2)))) - 1))), pl 11 (.int .i64 (w64 ((w64 ((w64 ((w64 (1 - b2)) * (w64 (Int.tdiv (b1.length : Int) 2)))) + (w64 (Int.tdiv (b1.length : Int) 2)))) - 1)))] a ∧ Sep w0 B w (blk g1 44 #[.slice A1 b1.length c1, .int .i64 b2] :: blk g2 44 #[.slice none 0 0, .int .i64 0] :: fs) ∧ ((gameroomref_SowOf_J3 b1 b2 pit1)).bind some = some r) ?_ ?_
      · rintro a w ⟨hF, hS, hm⟩
        unfold gameroomref_SowOf_J3 at hm
        refine seqR ?_
        obtain ⟨r3, hr3, hm⟩ := call_b hm
        refine at_run 2 [⟨false, [], vS (Instr.loadAt 22 (.pointer (some ⟨g1, 0, none⟩))), .slice A1 b1.length c1⟩] [none, some (.slice A1 b1.length c1)] [2, 4, 7, 8, 9, 10, 11, 61] [pl 2 (.pointer (some ⟨g1, 0, none⟩)), pl 4 (.pointer (some ⟨g2, 0, none⟩)), pl 7 (.int .i64 (b1.length : Int)), pl 8 (.int .i64 (w64 (Int.tdiv (b1.length : Int) 2))), pl 9 (.int .i64 (w64 ((w64 (b2 * (w64 (Int.tdiv (b1.length : Int) 2)))) + pit1))), pl 10 (.int .i64 (w64 ((w64 ((w64 (b2 * (w64 (Int.tdiv (b1.length : Int) 2)))) + (w64 (Int.tdiv (b1.length : Int) 2)))) - 1))), pl 11 (.int .i64 (w64 ((w64 ((w64 ((w64 (1 - b2)) * (w64 (Int.tdiv (b1.length : Int) 2)))) + (w64 (Int.tdiv (b1.length : Int) 2)))) - 1))), pl 61 (.slice A1 b1.length c1)] hF hS (by kernel_rfl) (by kernel_rfl) ?_ (fun a w hF hS => ?_)
        · exact obs_cons (ob_load Agg22 (fun _ _ hS => (hS.at_ 0 rfl).cell rfl)) <| obs_nil
        refine at_call (f := 58) (args := #[.slice A1 b1.length c1]) (d := 62) hF (by kernel_rfl) (by kernel_rfl) Try.func58 (by kernel_rfl) rfl (gameroomref_Ints_w hr3 hS (fun _ hS => (hr_b1 _ (hS.dropN 2))) _hc_b1 rfl) (fun v a w hR hF => ?_)
        clear hS
        obtain ⟨A2, c2, rfl, hS⟩ := hR
        have hS : Sep w0 B w (own 3 (.slice A2 r3.length c2) (vI r3) :: blk g1 44 #[.slice A1 b1.length c1, .int .i64 b2] :: blk g2 44 #[.slice none 0 0, .int .i64 0] :: fs) := hS
        refine at_run 1 [] [] [2, 4, 7, 8, 9, 10, 11, 12] [pl 2 (.pointer (some ⟨g1, 0, none⟩)), pl 4 (.pointer (some ⟨g2, 0, none⟩)), pl 7 (.int .i64 (b1.length : Int)), pl 8 (.int .i64 (w64 (Int.tdiv (b1.length : Int) 2))), pl 9 (.int .i64 (w64 ((w64 (b2 * (w64 (Int.tdiv (b1.length : Int) 2)))) + pit1))), pl 10 (.int .i64 (w64 ((w64 ((w64 (b2 * (w64 (Int.tdiv (b1.length : Int) 2)))) + (w64 (Int.tdiv (b1.length : Int) 2)))) - 1))), pl 11 (.int .i64 (w64 ((w64 ((w64 ((w64 (1 - b2)) * (w64 (Int.tdiv (b1.length : Int) 2)))) + (w64 (Int.tdiv (b1.length : Int) 2)))) - 1))), pl 12 (.slice A2 r3.length c2)] hF hS (by kernel_rfl) (by kernel_rfl) ?_ (fun a w hF hS => ?_)
        · exact obs_nil
        refine at_end [2, 4, 7, 8, 9, 10, 11, 12] [pl 2 (.pointer (some ⟨g1, 0, none⟩)), pl 4 (.pointer (some ⟨g2, 0, none⟩)), pl 7 (.int .i64 (b1.length : Int)), pl 8 (.int .i64 (w64 (Int.tdiv (b1.length : Int) 2))), pl 9 (.int .i64 (w64 ((w64 (b2 * (w64 (Int.tdiv (b1.length : Int) 2)))) + pit1))), pl 10 (.int .i64 (w64 ((w64 ((w64 (b2 * (w64 (Int.tdiv (b1.length : Int) 2)))) + (w64 (Int.tdiv (b1.length : Int) 2)))) - 1))), pl 11 (.int .i64 (w64 ((w64 ((w64 ((w64 (1 - b2)) * (w64 (Int.tdiv (b1.length : Int) 2)))) + (w64 (Int.tdiv (b1.length : Int) 2)))) - 1))), pl 12 (.slice A2 r3.length c2)] hF rfl (by kernel_rfl) (fun hF => ?_)
        refine then_n ?_
        obtain ⟨hp2, hm⟩ := asrt_b hm
        refine reg [⟨true, [], vS (Instr.indexAt 22 (.slice A2 r3.length c2) (.int .i64 (w64 ((w64 (b2 * (w64 (Int.tdiv (b1.length : Int) 2)))) + pit1)))), .pointer (some (sAddr A2 (w64 ((w64 (b2 * (w64 (Int.tdiv (b1.length : Int) 2)))) + pit1))))⟩, ⟨false, [], vS (Instr.loadAt 3 (.pointer (some (sAddr A2 (w64 ((w64 (b2 * (w64 (Int.tdiv (b1.length : Int) 2)))) + pit1)))))), .int .i64 (geti r3 (w64 ((w64 (b2 * (w64 (Int.tdiv (b1.length : Int) 2)))) + pit1)))⟩] [none, none, some (.pointer (some (sAddr A2 (w64 ((w64 (b2 * (w64 (Int.tdiv (b1.length : Int) 2)))) + pit1))))), some (.int .i64 (geti r3 (w64 ((w64 (b2 * (w64 (Int.tdiv (b1.length : Int) 2)))) + pit1)))), none] [2, 4, 7, 8, 9, 10, 11, 12, 13] [pl 2 (.pointer (some ⟨g1, 0, none⟩)), pl 4 (.pointer (some ⟨g2, 0, none⟩)), pl 7 (.int .i64 (b1.length : Int)), pl 8 (.int .i64 (w64 (Int.tdiv (b1.length : Int) 2))), pl 9 (.int .i64 (w64 ((w64 (b2 * (w64 (Int.tdiv (b1.length : Int) 2)))) + pit1))), pl 10 (.int .i64 (w64 ((w64 ((w64 (b2 * (w64 (Int.tdiv (b1.length : Int) 2)))) + (w64 (Int.tdiv (b1.length : Int) 2)))) - 1))), pl 11 (.int .i64 (w64 ((w64 ((w64 ((w64 (1 - b2)) * (w64 (Int.tdiv (b1.length : Int) 2)))) + (w64 (Int.tdiv (b1.length : Int) 2)))) - 1))), pl 12 (.slice A2 r3.length c2), pl 13 (.int .i64 (geti r3 (w64 ((w64 (b2 * (w64 (Int.tdiv (b1.length : Int) 2)))) + pit1))))] hF hS Fol (by kernel_rfl) (by kernel_rfl) (by kernel_rfl) ?_ (fun a w hF hS => ?_)
        · exact obs_cons (ob_ix1 (f := (Value.int .i64)) (m := r3) Und22 hi3 hs3 (hS.at_ 0 rfl).rd rfl (fun _ => hp2)) <| obs_cons (ob_get1 (n := r3.length) (m := r3) (Value.int .i64) (0 : Int) Agg3 (fun _ hS => ⟨_, (hS.at_ 0 rfl).rd⟩) (fun _ hS => rfl) (fun _ => hp2)) <| obs_nil
        refine seqR ?_
        obtain ⟨hp3, hm⟩ := asrt_b hm
        refine at_run 3 [⟨true, [], vS (Instr.indexAt 22 (.slice A2 r3.length c2) (.int .i64 (w64 ((w64 (b2 * (w64 (Int.tdiv (b1.length : Int) 2)))) + pit1)))), .pointer (some (sAddr A2 (w64 ((w64 (b2 * (w64 (Int.tdiv (b1.length : Int) 2)))) + pit1))))⟩] [none, none, some (.pointer (some (sAddr A2 (w64 ((w64 (b2 * (w64 (Int.tdiv (b1.length : Int) 2)))) + pit1)))))] [2, 4, 7, 8, 9, 10, 11, 12, 13, 69] [pl 2 (.pointer (some ⟨g1, 0, none⟩)), pl 4 (.pointer (some ⟨g2, 0, none⟩)), pl 7 (.int .i64 (b1.length : Int)), pl 8 (.int .i64 (w64 (Int.tdiv (b1.length : Int) 2))), pl 9 (.int .i64 (w64 ((w64 (b2 * (w64 (Int.tdiv (b1.length : Int) 2)))) + pit1))), pl 10 (.int .i64 (w64 ((w64 ((w64 (b2 * (w64 (Int.tdiv (b1.length : Int) 2)))) + (w64 (Int.tdiv (b1.length : Int) 2)))) - 1))), pl 11 (.int .i64 (w64 ((w64 ((w64 ((w64 (1 - b2)) * (w64 (Int.tdiv (b1.length : Int) 2)))) + (w64 (Int.tdiv (b1.length : Int) 2)))) - 1))), pl 12 (.slice A2 r3.length c2), pl 13 (.int .i64 (geti r3 (w64 ((w64 (b2 * (w64 (Int.tdiv (b1.length : Int) 2)))) + pit1)))), pl 69 (.pointer (some (sAddr A2 (w64 ((w64 (b2 * (w64 (Int.tdiv (b1.length : Int) 2)))) + pit1)))))] hF hS (by kernel_rfl) (by kernel_rfl) ?_ (fun a w hF hS => ?_)
        · exact obs_cons (ob_ix1 (f := (Value.int .i64)) (m := r3) Und22 hi3 hs3 (hS.at_ 0 rfl).rd rfl (fun _ => hp3)) <| obs_nil
        obtain ⟨w, hrun, hS⟩ := run_set1 (P := Try.prog) (t := 3) (x := 0) (Value.int .i64) (hS.at_ 0 rfl) hi3 hs3 rfl rfl hp3
        refine at_skip hF (by kernel_rfl) hrun ?_
        have hS : Sep w0 B w (own 3 (.slice A2 r3.length c2) (vI (r3.set (Int.toNat (w64 ((w64 (b2 * (w64 (Int.tdiv (b1.length : Int) 2)))) + pit1))) 0)) :: blk g1 44 #[.slice A1 b1.length c1, .int .i64 b2] :: blk g2 44 #[.slice none 0 0, .int .i64 0] :: fs) := hS
        refine at_end [2, 4, 7, 8, 9, 10, 11, 12, 13] [pl 2 (.pointer (some ⟨g1, 0, none⟩)), pl 4 (.pointer (some ⟨g2, 0, none⟩)), pl 7 (.int .i64 (b1.length : Int)), pl 8 (.int .i64 (w64 (Int.tdiv (b1.length : Int) 2))), pl 9 (.int .i64 (w64 ((w64 (b2 * (w64 (Int.tdiv (b1.length : Int) 2)))) + pit1))), pl 10 (.int .i64 (w64 ((w64 ((w64 (b2 * (w64 (Int.tdiv (b1.length : Int) 2)))) + (w64 (Int.tdiv (b1.length : Int) 2)))) - 1))), pl 11 (.int .i64 (w64 ((w64 ((w64 ((w64 (1 - b2)) * (w64 (Int.tdiv (b1.length : Int) 2)))) + (w64 (Int.tdiv (b1.length : Int) 2)))) - 1))), pl 12 (.slice A2 r3.length c2), pl 13 (.int .i64 (geti r3 (w64 ((w64 (b2 * (w64 (Int.tdiv (b1.length : Int) 2)))) + pit1))))] hF rfl (by kernel_rfl) (fun hF => ?_)
        refine then_n ?_
        refine seq_cut (fun a w => ∃ (place2 : Int) (s2 : List Int), Fr 186 [pl 2 (.pointer (some ⟨g1, 0, none⟩)), pl 4 (.pointer (some ⟨g2, 0, none⟩)), pl 7 (.int .i64 (b1.length : Int)), pl 8 (.int .i64 (w64 (Int.tdiv (b1.length : Int) 2))), pl 9 (.int .i64 place2), pl 10 (.int .i64 (w64 ((w64 ((w64 (b2 * (w64 (Int.tdiv (b1.length : Int) 2)))) + (w64 (Int.tdiv (b1.length : Int) 2)))) - 1))), pl 12 (.slice A2 r3.length c2)] a ∧ Sep w0 B w (blk g1 44 #[.slice A1 b1.length c1, .int .i64 b2] :: blk g2 44 #[.slice none 0 0, .int .i64 0] :: own 3 (.slice A2 r3.length c2) (vI s2) :: fs) ∧ ((gameroomref_SowOf_J4 b1 b2 r3) place2 s2).bind some = some r) ?_ ?_
        · rintro a w ⟨place2, s2, hF, hS, hm⟩
          unfold gameroomref_SowOf_J4 at hm
          refine reg [] [] [2, 4, 7, 8, 9, 10, 12, 14] [pl 2 (.pointer (some ⟨g1, 0, none⟩)), pl 4 (.pointer (some ⟨g2, 0, none⟩)), pl 7 (.int .i64 (b1.length : Int)), pl 8 (.int .i64 (w64 (Int.tdiv (b1.length : Int) 2))), pl 9 (.int .i64 place2), pl 10 (.int .i64 (w64 ((w64 ((w64 (b2 * (w64 (Int.tdiv (b1.length : Int) 2)))) + (w64 (Int.tdiv (b1.length : Int) 2)))) - 1))), pl 12 (.slice A2 r3.length c2), pl 14 (.bool (place2 == (w64 ((w64 ((w64 (b2 * (w64 (Int.tdiv (b1.length : Int) 2)))) + (w64 (Int.tdiv (b1.length : Int) 2)))) - 1))))] hF hS Fol (by kernel_rfl) (by kernel_rfl) (by kernel_rfl) ?_ (fun a w hF hS => ?_)
          · exact obs_nil
          refine seq_cut (fun a w => ∃ (s3 : List Int), Fr 186 [pl 2 (.pointer (some ⟨g1, 0, none⟩)), pl 4 (.pointer (some ⟨g2, 0, none⟩)), pl 7 (.int .i64 (b1.length : Int)), pl 8 (.int .i64 (w64 (Int.tdiv (b1.length : Int) 2))), pl 12 (.slice A2 r3.length c2), pl 14 (.bool (place2 == (w64 ((w64 ((w64 (b2 * (w64 (Int.tdiv (b1.length : Int) 2)))) + (w64 (Int.tdiv (b1.length : Int) 2)))) - 1))))] a ∧ Sep w0 B w (blk g1 44 #[.slice A1 b1.length c1, .int .i64 b2] :: blk g2 44 #[.slice none 0 0, .int .i64 0] :: own 3 (.slice A2 r3.length c2) (vI s3) :: fs) ∧ ((gameroomref_SowOf_J7 b1 b2 r3 place2) s3).bind some = some r) ?_ ?_
          · rintro a w ⟨s3, hF, hS, hm⟩
            unfold gameroomref_SowOf_J7 at hm
            refine seqR ?_
            refine at_run 4 [⟨false, [], vS (Instr.loadAt 3 (.pointer (some ⟨g1, 1, none⟩))), .int .i64 b2⟩] [none, none, some (.int .i64 b2), none] [2, 4, 7, 8, 12, 14, 137] [pl 2 (.pointer (some ⟨g1, 0, none⟩)), pl 4 (.pointer (some ⟨g2, 0, none⟩)), pl 7 (.int .i64 (b1.length : Int)), pl 8 (.int .i64 (w64 (Int.tdiv (b1.length : Int) 2))), pl 12 (.slice A2 r3.length c2), pl 14 (.bool (place2 == (w64 ((w64 ((w64 (b2 * (w64 (Int.tdiv (b1.length : Int) 2)))) + (w64 (Int.tdiv (b1.length : Int) 2)))) - 1)))), pl 137 (.agg #[.slice A2 r3.length c2, .int .i64 b2])] hF hS (by kernel_rfl) (by kernel_rfl) ?_ (fun a w hF hS => ?_)
            · exact obs_cons (ob_load Agg3 (fun _ _ hS => (hS.at_ 0 rfl).cell rfl)) <| obs_nil
            refine at_do (d := 16) (s := vS (Instr.alloc 44 true (.tuple #[]))) (v := .pointer (some ⟨w.heap.size, 0, none⟩)) (w' := w.alloc (.cells #[.slice none 0 0, .int .i64 0] 44)) hF (by kernel_rfl) (by kernel_rfl) (by kernel_rfl) (fun a hF => ?_)
            have hS : Sep w0 B (w.alloc (.cells #[.slice none 0 0, .int .i64 0] 44)) (blk w.heap.size 44 #[.slice none 0 0, .int .i64 0] :: (blk g1 44 #[.slice A1 b1.length c1, .int .i64 b2] :: blk g2 44 #[.slice none 0 0, .int .i64 0] :: own 3 (.slice A2 r3.length c2) (vI s3) :: fs)) := hS.box 44 #[.slice none 0 0, .int .i64 0]
            generalize w.heap.size = g3 at hF hS
            generalize w.alloc (.cells #[.slice none 0 0, .int .i64 0] 44) = w at hS ⊢
            obtain ⟨w, hrun, hS⟩ := run_putA (P := Try.prog) (t := 44) (us := #[.slice A2 r3.length c2, .int .i64 b2]) (o := 0) (hS.at_ 0 rfl) (by kernel_rfl) (all_one (by kernel_rfl)) (Nat.le_of_ble_eq_true (by kernel_rfl))
            refine at_skip hF (by kernel_rfl) hrun ?_
            have hS : Sep w0 B w (blk g3 44 #[.slice A2 r3.length c2, .int .i64 b2] :: blk g1 44 #[.slice A1 b1.length c1, .int .i64 b2] :: blk g2 44 #[.slice none 0 0, .int .i64 0] :: own 3 (.slice A2 r3.length c2) (vI s3) :: fs) := hS
            refine at_end [2, 4, 7, 8, 12, 14, 16] [pl 2 (.pointer (some ⟨g1, 0, none⟩)), pl 4 (.pointer (some ⟨g2, 0, none⟩)), pl 7 (.int .i64 (b1.length : Int)), pl 8 (.int .i64 (w64 (Int.tdiv (b1.length : Int) 2))), pl 12 (.slice A2 r3.length c2), pl 14 (.bool (place2 == (w64 ((w64 ((w64 (b2 * (w64 (Int.tdiv (b1.length : Int) 2)))) + (w64 (Int.tdiv (b1.length : Int) 2)))) - 1)))), pl 16 (.pointer (some ⟨g3, 0, none⟩))] hF rfl (by kernel_rfl) (fun hF => ?_)
            refine then_n ?_
            refine seq_cut (fun a w => ∃ (out1 : List Int), Fr 186 [pl 2 (.pointer (some ⟨g1, 0, none⟩)), pl 4 (.pointer (some ⟨g2, 0, none⟩)), pl 14 (.bool (place2 == (w64 ((w64 ((w64 (b2 * (w64 (Int.tdiv (b1.length : Int) 2)))) + (w64 (Int.tdiv (b1.length : Int) 2)))) - 1)))), pl 16 (.pointer (some ⟨g3, 0, none⟩))] a ∧ Sep w0 B w (blk g1 44 #[.slice A1 b1.length c1, .int .i64 b2] :: blk g2 44 #[.slice none 0 0, .int .i64 0] :: blk g3 44 #[.slice A2 r3.length c2, .int .i64 b2] :: own 3 (.slice A2 r3.length c2) (vI out1) :: fs) ∧ ((gameroomref_SowOf_J8 b1 b2 place2) out1).bind some = some r) ?_ ?_
            · rintro a w ⟨out1, hF, hS, hm⟩
              unfold gameroomref_SowOf_J8 at hm
              refine seq_cut (fun a w => ∃ (out2 : Int), Fr 186 [pl 4 (.pointer (some ⟨g2, 0, none⟩)), pl 14 (.bool (place2 == (w64 ((w64 ((w64 (b2 * (w64 (Int.tdiv (b1.length : Int) 2)))) + (w64 (Int.tdiv (b1.length : Int) 2)))) - 1)))), pl 16 (.pointer (some ⟨g3, 0, none⟩))] a ∧ Sep w0 B w (blk g2 44 #[.slice none 0 0, .int .i64 0] :: blk g3 44 #[.slice A2 r3.length c2, .int .i64 out2] :: own 3 (.slice A2 r3.length c2) (vI out1) :: fs) ∧ ((gameroomref_SowOf_J11 b1 b2 place2 out1) out2).bind some = some r) ?_ ?_
              · rintro a w ⟨out2, hF, hS, hm⟩
                unfold gameroomref_SowOf_J11 at hm
                refine seqR ?_
                refine at_run 2 [⟨false, [], vS (Instr.loadAt 44 (.pointer (some ⟨g3, 0, none⟩))), .agg #[.slice A2 r3.length c2, .int .i64 out2]⟩] [some (.agg #[.slice A2 r3.length c2, .int .i64 out2]), none] [4, 184, 185] [pl 4 (.pointer (some ⟨g2, 0, none⟩)), pl 184 (.agg #[.slice A2 r3.length c2, .int .i64 out2]), pl 185 (.bool (place2 == (w64 ((w64 ((w64 (b2 * (w64 (Int.tdiv (b1.length : Int) 2)))) + (w64 (Int.tdiv (b1.length : Int) 2)))) - 1))))] hF hS (by kernel_rfl) (by kernel_rfl) ?_ (fun a w hF hS => ?_)
                · exact obs_cons (ob_loadA (cs := #[.slice A2 r3.length c2, .int .i64 out2]) (by kernel_rfl) (by kernel_rfl) (fun _ _ hS => (hS.at_ 1 rfl).cellsAt 0 (by rfl))) <| obs_nil
                obtain ⟨w, hrun, hS⟩ := run_putA (P := Try.prog) (t := 44) (us := #[.slice A2 r3.length c2, .int .i64 out2]) (o := 0) (hS.at_ 0 rfl) (by kernel_rfl) (all_one (by kernel_rfl)) (Nat.le_of_ble_eq_true (by kernel_rfl))
                refine at_skip hF (by kernel_rfl) hrun ?_
                have hS : Sep w0 B w (blk g2 44 #[.slice A2 r3.length c2, .int .i64 out2] :: blk g3 44 #[.slice A2 r3.length c2, .int .i64 out2] :: own 3 (.slice A2 r3.length c2) (vI out1) :: fs) := hS
                refine at_run 2 [] [] [4, 5, 6] [pl 4 (.pointer (some ⟨g2, 0, none⟩)), pl 5 (.bool (place2 == (w64 ((w64 ((w64 (b2 * (w64 (Int.tdiv (b1.length : Int) 2)))) + (w64 (Int.tdiv (b1.length : Int) 2)))) - 1)))), pl 6 (.int .i64 0)] hF hS (by kernel_rfl) (by kernel_rfl) ?_ (fun a w hF hS => ?_)
                · exact obs_nil
                refine at_end [4, 5, 6] [pl 4 (.pointer (some ⟨g2, 0, none⟩)), pl 5 (.bool (place2 == (w64 ((w64 ((w64 (b2 * (w64 (Int.tdiv (b1.length : Int) 2)))) + (w64 (Int.tdiv (b1.length : Int) 2)))) - 1)))), pl 6 (.int .i64 0)] hF rfl (by kernel_rfl) (fun hF => ?_)
                refine then_n ?_
                refine wp_ret ?_
                have hl4 := (hS.at_ 2 rfl).len1
                have hS := (hS.at_ 2 rfl).reN hl4
                have hS := (hS.at_ 0 rfl).reBlk (congrArg (fun k9 => (#[.slice A2 k9 c2, .int .i64 out2] : Array Value)) hl4)
                have hS := (hS.at_ 1 rfl).reBlk (congrArg (fun k9 => (#[.slice A2 k9 c2, .int .i64 out2] : Array Value)) hl4)
                have hS : Sep w0 B w (blk g2 44 #[.slice A2 out1.length c2, .int .i64 out2] :: blk g3 44 #[.slice A2 out1.length c2, .int .i64 out2] :: own 3 (.slice A2 out1.length c2) (vI out1) :: fs) := hS
                have hld0 := run_loadVarA (P := Try.prog) (t := 44) (cs := #[.slice A2 out1.length c2, .int .i64 out2]) (by kernel_rfl) (by kernel_rfl) ((hS.at_ 0 rfl).cellsAt 0 (by rfl))
                have hS := hS.pickN 3 [2] (by decide)
                have hm : some (out1, out2, (place2 == (w64 ((w64 ((w64 (b2 * (w64 (Int.tdiv (b1.length : Int) 2)))) + (w64 (Int.tdiv (b1.length : Int) 2)))) - 1))), 0) = some r := hm
                obtain rfl := Option.some.inj hm
                exact retV (rs := [.cell 4 44, .tmp 5, .tmp 6]) (vs := [.agg #[.slice A2 out1.length c2, .int .i64 out2], .bool (place2 == (w64 ((w64 ((w64 (b2 * (w64 (Int.tdiv (b1.length : Int) 2)))) + (w64 (Int.tdiv (b1.length : Int) 2)))) - 1))), .int .i64 0]) hF rfl (rv_c (by kernel_rfl) hld0 <| rv_t (by kernel_rfl) <| rv_t (by kernel_rfl) <| rv_nil) rfl ⟨_, rfl, A2, c2, rfl, hS⟩
              · refine reg [] [] [2, 4, 14, 16, 179] [pl 2 (.pointer (some ⟨g1, 0, none⟩)), pl 4 (.pointer (some ⟨g2, 0, none⟩)), pl 14 (.bool (place2 == (w64 ((w64 ((w64 (b2 * (w64 (Int.tdiv (b1.length : Int) 2)))) + (w64 (Int.tdiv (b1.length : Int) 2)))) - 1)))), pl 16 (.pointer (some ⟨g3, 0, none⟩)), pl 179 (.bool (!(place2 == (w64 ((w64 ((w64 (b2 * (w64 (Int.tdiv (b1.length : Int) 2)))) + (w64 (Int.tdiv (b1.length : Int) 2)))) - 1)))))] hF hS Fol (by kernel_rfl) (by kernel_rfl) (by kernel_rfl) ?_ (fun a w hF hS => ?_)
                · exact obs_nil
                refine cond_ev (t := 179) (b := !(place2 == (w64 ((w64 ((w64 (b2 * (w64 (Int.tdiv (b1.length : Int) 2)))) + (w64 (Int.tdiv (b1.length : Int) 2)))) - 1)))) hF (by kernel_rfl) (fun hb => ?_) (fun hb => ?_)
                · replace hm := if_t hm hb
                  refine oneR ?_
                  refine at_run 4 [⟨false, [], vS (Instr.loadAt 3 (.pointer (some ⟨g1, 1, none⟩))), .int .i64 b2⟩] [none, some (.int .i64 b2), none, none] [4, 14, 16, 182, 183] [pl 4 (.pointer (some ⟨g2, 0, none⟩)), pl 14 (.bool (place2 == (w64 ((w64 ((w64 (b2 * (w64 (Int.tdiv (b1.length : Int) 2)))) + (w64 (Int.tdiv (b1.length : Int) 2)))) - 1)))), pl 16 (.pointer (some ⟨g3, 0, none⟩)), pl 182 (.int .i64 (w64 (1 - b2))), pl 183 (.pointer (some ⟨g3, 1, none⟩))] hF hS (by kernel_rfl) (by kernel_rfl) ?_ (fun a w hF hS => ?_)
                  · exact obs_cons (ob_load Agg3 (fun _ _ hS => (hS.at_ 0 rfl).cell rfl)) <| obs_nil
                  obtain ⟨w, hrun, hS⟩ := run_put (P := Try.prog) (t := 3) (u := .int .i64 (w64 (1 - b2))) (i := 1) (hS.at_ 2 rfl) hi3 hs3 rfl (Nat.lt_of_lt_of_eq (Nat.lt_of_succ_le (Nat.le_of_ble_eq_true (by kernel_rfl))) rfl)
                  refine at_skip hF (by kernel_rfl) hrun ?_
                  have hS : Sep w0 B w (blk g1 44 #[.slice A1 b1.length c1, .int .i64 b2] :: blk g2 44 #[.slice none 0 0, .int .i64 0] :: blk g3 44 #[.slice A2 r3.length c2, .int .i64 (w64 (1 - b2))] :: own 3 (.slice A2 r3.length c2) (vI out1) :: fs) := hS
                  refine at_end [4, 14, 16] [pl 4 (.pointer (some ⟨g2, 0, none⟩)), pl 14 (.bool (place2 == (w64 ((w64 ((w64 (b2 * (w64 (Int.tdiv (b1.length : Int) 2)))) + (w64 (Int.tdiv (b1.length : Int) 2)))) - 1)))), pl 16 (.pointer (some ⟨g3, 0, none⟩))] hF rfl (by kernel_rfl) (fun hF => ?_)
                  refine then_n ?_
                  have hS := hS.pickN 4 [1, 2, 3] (by decide)
                  exact ⟨(w64 (1 - b2)), hF.weak [4, 14, 16] (by kernel_rfl), hS, hm⟩
                · replace hm := if_f hm hb
                  refine wp_skip ?_
                  refine then_n ?_
                  have hS := hS.pickN 4 [1, 2, 3] (by decide)
                  exact ⟨b2, hF.weak [4, 14, 16] (by kernel_rfl), hS, hm⟩
            · obtain ⟨r4, hr4, hm⟩ := call_b hm
              refine reg [⟨false, [], vS (Instr.loadAt 44 (.pointer (some ⟨g3, 0, none⟩))), .agg #[.slice A2 r3.length c2, .int .i64 b2]⟩, ⟨false, [], callFunc 71 #[.agg #[.slice A2 r3.length c2, .int .i64 b2]], .bool r4⟩] [some (.agg #[.slice A2 r3.length c2, .int .i64 b2]), some (.bool r4)] [2, 4, 7, 8, 12, 14, 16, 139] [pl 2 (.pointer (some ⟨g1, 0, none⟩)), pl 4 (.pointer (some ⟨g2, 0, none⟩)), pl 7 (.int .i64 (b1.length : Int)), pl 8 (.int .i64 (w64 (Int.tdiv (b1.length : Int) 2))), pl 12 (.slice A2 r3.length c2), pl 14 (.bool (place2 == (w64 ((w64 ((w64 (b2 * (w64 (Int.tdiv (b1.length : Int) 2)))) + (w64 (Int.tdiv (b1.length : Int) 2)))) - 1)))), pl 16 (.pointer (some ⟨g3, 0, none⟩)), pl 139 (.bool r4)] hF hS Fol (by kernel_rfl) (by kernel_rfl) (by kernel_rfl) ?_ (fun a w hF hS => ?_)
              · exact obs_cons (ob_loadA (cs := #[.slice A2 r3.length c2, .int .i64 b2]) (by kernel_rfl) (by kernel_rfl) (fun _ _ hS => (hS.at_ 0 rfl).cellsAt 0 (by rfl))) <| obs_cons (ob_call Try.func71 (by kernel_rfl) rfl (fun _ _ hS => gameroomref_MancalaOver_w hr4 hS (fun _ hS => (hS.at_ 3 rfl).rd) ((hS.at_ 3 rfl).cap1) ((hS.at_ 3 rfl).len1))) <| obs_nil
              refine cond_ev (t := 139) (b := r4) hF (by kernel_rfl) (fun hb => ?_) (fun hb => ?_)
              · replace hm := if_t hm hb
                refine reg [] [] [2, 4, 7, 8, 12, 14, 16, 17] [pl 2 (.pointer (some ⟨g1, 0, none⟩)), pl 4 (.pointer (some ⟨g2, 0, none⟩)), pl 7 (.int .i64 (b1.length : Int)), pl 8 (.int .i64 (w64 (Int.tdiv (b1.length : Int) 2))), pl 12 (.slice A2 r3.length c2), pl 14 (.bool (place2 == (w64 ((w64 ((w64 (b2 * (w64 (Int.tdiv (b1.length : Int) 2)))) + (w64 (Int.tdiv (b1.length : Int) 2)))) - 1)))), pl 16 (.pointer (some ⟨g3, 0, none⟩)), pl 17 (.int .i64 0)] hF hS Fol (by kernel_rfl) (by kernel_rfl) (by kernel_rfl) ?_ (fun a w hF hS => ?_)
                · exact obs_nil
                refine wp_block ?_
                have hS := hS.pickN 4 [1, 2, 3, 0] (by decide)
                refine wp_loop_model (S := (List Int × Int)) (R := (List Int)) (gameroomref_SowOf_L2 b1 r3) (fun x => ((gameroomref_SowOf_K2 b1 b2 place2) x).bind some) r (fun (x : (List Int × Int)) a w => Fr 186 [pl 2 (.pointer (some ⟨g1, 0, none⟩)), pl 4 (.pointer (some ⟨g2, 0, none⟩)), pl 7 (.int .i64 (b1.length : Int)), pl 8 (.int .i64 (w64 (Int.tdiv (b1.length : Int) 2))), pl 12 (.slice A2 r3.length c2), pl 14 (.bool (place2 == (w64 ((w64 ((w64 (b2 * (w64 (Int.tdiv (b1.length : Int) 2)))) + (w64 (Int.tdiv (b1.length : Int) 2)))) - 1)))), pl 16 (.pointer (some ⟨g3, 0, none⟩)), pl 17 (.int .i64 x.2)] a ∧ Sep w0 B w (blk g1 44 #[.slice A1 b1.length c1, .int .i64 b2] :: blk g2 44 #[.slice none 0 0, .int .i64 0] :: own 3 (.slice A2 r3.length c2) (vI x.1) :: blk g3 44 #[.slice A2 r3.length c2, .int .i64 b2] :: fs)) (assoc_b hm) ⟨hF.weak [2, 4, 7, 8, 12, 14, 16, 17] (by kernel_rfl), hS⟩ ?_
                clear hF hS hm
                rintro nn2 ⟨s4, i1⟩ a w ⟨hF, hS⟩ hm
                generalize hφ2 : stK (gameroomref_SowOf_L2 b1 r3) nn2 (fun x => ((gameroomref_SowOf_K2 b1 b2 place2) x).bind some) = φ2 at hm
                unfold gameroomref_SowOf_L2 at hm
                dsimp only at hF hS hm
                refine seq_cut (fun a w => Fr 186 [pl 2 (.pointer (some ⟨g1, 0, none⟩)), pl 4 (.pointer (some ⟨g2, 0, none⟩)), pl 7 (.int .i64 (b1.length : Int)), pl 8 (.int .i64 (w64 (Int.tdiv (b1.length : Int) 2))), pl 12 (.slice A2 r3.length c2), pl 14 (.bool (place2 == (w64 ((w64 ((w64 (b2 * (w64 (Int.tdiv (b1.length : Int) 2)))) + (w64 (Int.tdiv (b1.length : Int) 2)))) - 1)))), pl 16 (.pointer (some ⟨g3, 0, none⟩)), pl 17 (.int .i64 i1)] a ∧ Sep w0 B w (blk g1 44 #[.slice A1 b1.length c1, .int .i64 b2] :: blk g2 44 #[.slice none 0 0, .int .i64 0] :: own 3 (.slice A2 r3.length c2) (vI s4) :: blk g3 44 #[.slice A2 r3.length c2, .int .i64 b2] :: fs) ∧ ((gameroomref_SowOf_J9 b1 r3 s4 i1)).bind φ2 = some r) ?_ ?_
                · rintro a w ⟨hF, hS, hm⟩
                  unfold gameroomref_SowOf_J9 at hm
                  refine seq_cut (fun a w => Fr 186 [pl 2 (.pointer (some ⟨g1, 0, none⟩)), pl 4 (.pointer (some ⟨g2, 0, none⟩)), pl 7 (.int .i64 (b1.length : Int)), pl 8 (.int .i64 (w64 (Int.tdiv (b1.length : Int) 2))), pl 12 (.slice A2 r3.length c2), pl 14 (.bool (place2 == (w64 ((w64 ((w64 (b2 * (w64 (Int.tdiv (b1.length : Int) 2)))) + (w64 (Int.tdiv (b1.length : Int) 2)))) - 1)))), pl 16 (.pointer (some ⟨g3, 0, none⟩)), pl 17 (.int .i64 i1)] a ∧ Sep w0 B w (blk g1 44 #[.slice A1 b1.length c1, .int .i64 b2] :: blk g2 44 #[.slice none 0 0, .int .i64 0] :: own 3 (.slice A2 r3.length c2) (vI ((((s4.set (Int.toNat (w64 ((w64 (Int.tdiv (b1.length : Int) 2)) - 1))) (w64 ((geti s4 (w64 ((w64 (Int.tdiv (b1.length : Int) 2)) - 1))) + (geti s4 i1)))).set (Int.toNat i1) 0).set (Int.toNat (w64 ((b1.length : Int) - 1))) (w64 ((geti ((s4.set (Int.toNat (w64 ((w64 (Int.tdiv (b1.length : Int) 2)) - 1))) (w64 ((geti s4 (w64 ((w64 (Int.tdiv (b1.length : Int) 2)) - 1))) + (geti s4 i1)))).set (Int.toNat i1) 0) (w64 ((b1.length : Int) - 1))) + (geti ((s4.set (Int.toNat (w64 ((w64 (Int.tdiv (b1.length : Int) 2)) - 1))) (w64 ((geti s4 (w64 ((w64 (Int.tdiv (b1.length : Int) 2)) - 1))) + (geti s4 i1)))).set (Int.toNat i1) 0) (w64 ((w64 (Int.tdiv (b1.length : Int) 2)) + i1)))))).set (Int.toNat (w64 ((w64 (Int.tdiv (b1.length : Int) 2)) + i1))) 0)) :: blk g3 44 #[.slice A2 r3.length c2, .int .i64 b2] :: fs) ∧ ((gameroomref_SowOf_J10 b1 s4 i1)).bind φ2 = some r) ?_ ?_
                  · rintro a w ⟨hF, hS, hm⟩
                    unfold gameroomref_SowOf_J10 at hm
                    refine reg1 [] [] [2, 4, 7, 8, 12, 14, 16, 17] [pl 2 (.pointer (some ⟨g1, 0, none⟩)), pl 4 (.pointer (some ⟨g2, 0, none⟩)), pl 7 (.int .i64 (b1.length : Int)), pl 8 (.int .i64 (w64 (Int.tdiv (b1.length : Int) 2))), pl 12 (.slice A2 r3.length c2), pl 14 (.bool (place2 == (w64 ((w64 ((w64 (b2 * (w64 (Int.tdiv (b1.length : Int) 2)))) + (w64 (Int.tdiv (b1.length : Int) 2)))) - 1)))), pl 16 (.pointer (some ⟨g3, 0, none⟩)), pl 17 (.int .i64 (w64 (i1 + 1)))] hF hS Fol (by kernel_rfl) (by kernel_rfl) (by kernel_rfl) ?_ (fun a w hF hS => ?_)
                    · exact obs_nil
                    refine then_n ?_
                    rw [← hφ2] at hm
                    exact ⟨(((((s4.set (Int.toNat (w64 ((w64 (Int.tdiv (b1.length : Int) 2)) - 1))) (w64 ((geti s4 (w64 ((w64 (Int.tdiv (b1.length : Int) 2)) - 1))) + (geti s4 i1)))).set (Int.toNat i1) 0).set (Int.toNat (w64 ((b1.length : Int) - 1))) (w64 ((geti ((s4.set (Int.toNat (w64 ((w64 (Int.tdiv (b1.length : Int) 2)) - 1))) (w64 ((geti s4 (w64 ((w64 (Int.tdiv (b1.length : Int) 2)) - 1))) + (geti s4 i1)))).set (Int.toNat i1) 0) (w64 ((b1.length : Int) - 1))) + (geti ((s4.set (Int.toNat (w64 ((w64 (Int.tdiv (b1.length : Int) 2)) - 1))) (w64 ((geti s4 (w64 ((w64 (Int.tdiv (b1.length : Int) 2)) - 1))) + (geti s4 i1)))).set (Int.toNat i1) 0) (w64 ((w64 (Int.tdiv (b1.length : Int) 2)) + i1)))))).set (Int.toNat (w64 ((w64 (Int.tdiv (b1.length : Int) 2)) + i1))) 0), (w64 (i1 + 1))), ⟨hF.weak [2, 4, 7, 8, 12, 14, 16, 17] (by kernel_rfl), hS⟩, hm⟩
                  · refine wp_block ?_
                    refine wp_seq ?_
                    obtain ⟨hp15, hm⟩ := asrt_b hm
                    obtain ⟨hp16, hm⟩ := asrt_b hm
                    obtain ⟨hp17, hm⟩ := asrt_b hm
                    refine regMix4 [0, 1, 2, 3, 4, 5, 6, 7, 8, 9, 10] [11] [⟨true, [], vS (Instr.indexAt 22 (.slice A2 r3.length c2) (.int .i64 (w64 ((w64 (Int.tdiv (b1.length : Int) 2)) - 1)))), .pointer (some (sAddr A2 (w64 ((w64 (Int.tdiv (b1.length : Int) 2)) - 1))))⟩, ⟨false, [], vS (Instr.loadAt 3 (.pointer (some (sAddr A2 (w64 ((w64 (Int.tdiv (b1.length : Int) 2)) - 1)))))), .int .i64 (geti s4 (w64 ((w64 (Int.tdiv (b1.length : Int) 2)) - 1)))⟩, ⟨true, [], vS (Instr.indexAt 22 (.slice A2 r3.length c2) (.int .i64 i1)), .pointer (some (sAddr A2 i1))⟩, ⟨false, [], vS (Instr.loadAt 3 (.pointer (some (sAddr A2 i1)))), .int .i64 (geti s4 i1)⟩, ⟨true, [], vS (Instr.indexAt 22 (.slice A2 r3.length c2) (.int .i64 (w64 ((w64 (Int.tdiv (b1.length : Int) 2)) - 1)))), .pointer (some (sAddr A2 (w64 ((w64 (Int.tdiv (b1.length : Int) 2)) - 1))))⟩] [none, none, none, some (.pointer (some (sAddr A2 (w64 ((w64 (Int.tdiv (b1.length : Int) 2)) - 1))))), some (.int .i64 (geti s4 (w64 ((w64 (Int.tdiv (b1.length : Int) 2)) - 1)))), none, none, some (.pointer (some (sAddr A2 i1))), some (.int .i64 (geti s4 i1)), none, some (.pointer (some (sAddr A2 (w64 ((w64 (Int.tdiv (b1.length : Int) 2)) - 1)))))] [2, 4, 7, 8, 12, 14, 16, 17, 155, 156] [pl 2 (.pointer (some ⟨g1, 0, none⟩)), pl 4 (.pointer (some ⟨g2, 0, none⟩)), pl 7 (.int .i64 (b1.length : Int)), pl 8 (.int .i64 (w64 (Int.tdiv (b1.length : Int) 2))), pl 12 (.slice A2 r3.length c2), pl 14 (.bool (place2 == (w64 ((w64 ((w64 (b2 * (w64 (Int.tdiv (b1.length : Int) 2)))) + (w64 (Int.tdiv (b1.length : Int) 2)))) - 1)))), pl 16 (.pointer (some ⟨g3, 0, none⟩)), pl 17 (.int .i64 i1), pl 155 (.int .i64 (w64 ((geti s4 (w64 ((w64 (Int.tdiv (b1.length : Int) 2)) - 1))) + (geti s4 i1)))), pl 156 (.pointer (some (sAddr A2 (w64 ((w64 (Int.tdiv (b1.length : Int) 2)) - 1)))))] hF hS Fol (by kernel_rfl) (by kernel_rfl) (by kernel_rfl) (by kernel_rfl) (by kernel_rfl) ?_ (fun a w hF hS => ?_)
                    · exact obs_cons (ob_ix1 (f := (Value.int .i64)) (m := s4) Und22 hi3 hs3 (hS.at_ 2 rfl).rd ((hS.at_ 2 rfl).len1) (fun _ => hp15)) <| obs_cons (ob_get1 (n := r3.length) (m := s4) (Value.int .i64) (0 : Int) Agg3 (fun _ hS => ⟨_, (hS.at_ 2 rfl).rd⟩) (fun _ hS => ((hS.at_ 2 rfl).len1)) (fun _ => hp15)) <| obs_cons (ob_ix1 (f := (Value.int .i64)) (m := s4) Und22 hi3 hs3 (hS.at_ 2 rfl).rd ((hS.at_ 2 rfl).len1) (fun _ => hp16)) <| obs_cons (ob_get1 (n := r3.length) (m := s4) (Value.int .i64) (0 : Int) Agg3 (fun _ hS => ⟨_, (hS.at_ 2 rfl).rd⟩) (fun _ hS => ((hS.at_ 2 rfl).len1)) (fun _ => hp16)) <| obs_cons (ob_ix1 (f := (Value.int .i64)) (m := s4) Und22 hi3 hs3 (hS.at_ 2 rfl).rd ((hS.at_ 2 rfl).len1) (fun _ => hp17)) <| obs_nil
                    obtain ⟨w, hrun, hS⟩ := run_set1 (P := Try.prog) (t := 3) (x := (w64 ((geti s4 (w64 ((w64 (Int.tdiv (b1.length : Int) 2)) - 1))) + (geti s4 i1)))) (Value.int .i64) (hS.at_ 2 rfl) hi3 hs3 rfl rfl hp17
                    refine at_skip hF (by kernel_rfl) hrun ?_
                    have hS : Sep w0 B w (blk g1 44 #[.slice A1 b1.length c1, .int .i64 b2] :: blk g2 44 #[.slice none 0 0, .int .i64 0] :: own 3 (.slice A2 r3.length c2) (vI (s4.set (Int.toNat (w64 ((w64 (Int.tdiv (b1.length : Int) 2)) - 1))) (w64 ((geti s4 (w64 ((w64 (Int.tdiv (b1.length : Int) 2)) - 1))) + (geti s4 i1))))) :: blk g3 44 #[.slice A2 r3.length c2, .int .i64 b2] :: fs) := hS
                    refine at_end [2, 4, 7, 8, 12, 14, 16, 17] [pl 2 (.pointer (some ⟨g1, 0, none⟩)), pl 4 (.pointer (some ⟨g2, 0, none⟩)), pl 7 (.int .i64 (b1.length : Int)), pl 8 (.int .i64 (w64 (Int.tdiv (b1.length : Int) 2))), pl 12 (.slice A2 r3.length c2), pl 14 (.bool (place2 == (w64 ((w64 ((w64 (b2 * (w64 (Int.tdiv (b1.length : Int) 2)))) + (w64 (Int.tdiv (b1.length : Int) 2)))) - 1)))), pl 16 (.pointer (some ⟨g3, 0, none⟩)), pl 17 (.int .i64 i1)] hF rfl (by kernel_rfl) (fun hF => ?_)
                    refine np_n ?_
                    refine then_n ?_
                    refine seqR ?_
                    obtain ⟨hp18, hm⟩ := asrt_b hm
                    refine at_run 3 [⟨true, [], vS (Instr.indexAt 22 (.slice A2 r3.length c2) (.int .i64 i1)), .pointer (some (sAddr A2 i1))⟩] [none, none, some (.pointer (some (sAddr A2 i1)))] [2, 4, 7, 8, 12, 14, 16, 17, 159] [pl 2 (.pointer (some ⟨g1, 0, none⟩)), pl 4 (.pointer (some ⟨g2, 0, none⟩)), pl 7 (.int .i64 (b1.length : Int)), pl 8 (.int .i64 (w64 (Int.tdiv (b1.length : Int) 2))), pl 12 (.slice A2 r3.length c2), pl 14 (.bool (place2 == (w64 ((w64 ((w64 (b2 * (w64 (Int.tdiv (b1.length : Int) 2)))) + (w64 (Int.tdiv (b1.length : Int) 2)))) - 1)))), pl 16 (.pointer (some ⟨g3, 0, none⟩)), pl 17 (.int .i64 i1), pl 159 (.pointer (some (sAddr A2 i1)))] hF hS (by kernel_rfl) (by kernel_rfl) ?_ (fun a w hF hS => ?_)
                    · exact obs_cons (ob_ix1 (f := (Value.int .i64)) (m := (s4.set (Int.toNat (w64 ((w64 (Int.tdiv (b1.length : Int) 2)) - 1))) (w64 ((geti s4 (w64 ((w64 (Int.tdiv (b1.length : Int) 2)) - 1))) + (geti s4 i1))))) Und22 hi3 hs3 (hS.at_ 2 rfl).rd ((hS.at_ 2 rfl).len1) (fun _ => hp18)) <| obs_nil
                    obtain ⟨w, hrun, hS⟩ := run_set1 (P := Try.prog) (t := 3) (x := 0) (Value.int .i64) (hS.at_ 2 rfl) hi3 hs3 rfl rfl hp18
                    refine at_skip hF (by kernel_rfl) hrun ?_
                    have hS : Sep w0 B w (blk g1 44 #[.slice A1 b1.length c1, .int .i64 b2] :: blk g2 44 #[.slice none 0 0, .int .i64 0] :: own 3 (.slice A2 r3.length c2) (vI ((s4.set (Int.toNat (w64 ((w64 (Int.tdiv (b1.length : Int) 2)) - 1))) (w64 ((geti s4 (w64 ((w64 (Int.tdiv (b1.length : Int) 2)) - 1))) + (geti s4 i1)))).set (Int.toNat i1) 0)) :: blk g3 44 #[.slice A2 r3.length c2, .int .i64 b2] :: fs) := hS
                    refine at_end [2, 4, 7, 8, 12, 14, 16, 17] [pl 2 (.pointer (some ⟨g1, 0, none⟩)), pl 4 (.pointer (some ⟨g2, 0, none⟩)), pl 7 (.int .i64 (b1.length : Int)), pl 8 (.int .i64 (w64 (Int.tdiv (b1.length : Int) 2))), pl 12 (.slice A2 r3.length c2), pl 14 (.bool (place2 == (w64 ((w64 ((w64 (b2 * (w64 (Int.tdiv (b1.length : Int) 2)))) + (w64 (Int.tdiv (b1.length : Int) 2)))) - 1)))), pl 16 (.pointer (some ⟨g3, 0, none⟩)), pl 17 (.int .i64 i1)] hF rfl (by kernel_rfl) (fun hF => ?_)
                    refine then_n ?_
                    refine wp_seq ?_
                    obtain ⟨hp19, hm⟩ := asrt_b hm
                    obtain ⟨hp20, hm⟩ := asrt_b hm
                    obtain ⟨hp21, hm⟩ := asrt_b hm
                    refine regMix4 [0, 1, 2, 3, 4, 5, 6, 7, 8, 9, 10, 11, 12] [13] [⟨true, [], vS (Instr.indexAt 22 (.slice A2 r3.length c2) (.int .i64 (w64 ((b1.length : Int) - 1)))), .pointer (some (sAddr A2 (w64 ((b1.length : Int) - 1))))⟩, ⟨false, [], vS (Instr.loadAt 3 (.pointer (some (sAddr A2 (w64 ((b1.length : Int) - 1)))))), .int .i64 (geti ((s4.set (Int.toNat (w64 ((w64 (Int.tdiv (b1.length : Int) 2)) - 1))) (w64 ((geti s4 (w64 ((w64 (Int.tdiv (b1.length : Int) 2)) - 1))) + (geti s4 i1)))).set (Int.toNat i1) 0) (w64 ((b1.length : Int) - 1)))⟩, ⟨true, [], vS (Instr.indexAt 22 (.slice A2 r3.length c2) (.int .i64 (w64 ((w64 (Int.tdiv (b1.length : Int) 2)) + i1)))), .pointer (some (sAddr A2 (w64 ((w64 (Int.tdiv (b1.length : Int) 2)) + i1))))⟩, ⟨false, [], vS (Instr.loadAt 3 (.pointer (some (sAddr A2 (w64 ((w64 (Int.tdiv (b1.length : Int) 2)) + i1)))))), .int .i64 (geti ((s4.set (Int.toNat (w64 ((w64 (Int.tdiv (b1.length : Int) 2)) - 1))) (w64 ((geti s4 (w64 ((w64 (Int.tdiv (b1.length : Int) 2)) - 1))) + (geti s4 i1)))).set (Int.toNat i1) 0) (w64 ((w64 (Int.tdiv (b1.length : Int) 2)) + i1)))⟩, ⟨true, [], vS (Instr.indexAt 22 (.slice A2 r3.length c2) (.int .i64 (w64 ((b1.length : Int) - 1)))), .pointer (some (sAddr A2 (w64 ((b1.length : Int) - 1))))⟩] [none, none, none, some (.pointer (some (sAddr A2 (w64 ((b1.length : Int) - 1))))), some (.int .i64 (geti ((s4.set (Int.toNat (w64 ((w64 (Int.tdiv (b1.length : Int) 2)) - 1))) (w64 ((geti s4 (w64 ((w64 (Int.tdiv (b1.length : Int) 2)) - 1))) + (geti s4 i1)))).set (Int.toNat i1) 0) (w64 ((b1.length : Int) - 1)))), none, none, none, none, some (.pointer (some (sAddr A2 (w64 ((w64 (Int.tdiv (b1.length : Int) 2)) + i1))))), some (.int .i64 (geti ((s4.set (Int.toNat (w64 ((w64 (Int.tdiv (b1.length : Int) 2)) - 1))) (w64 ((geti s4 (w64 ((w64 (Int.tdiv (b1.length : Int) 2)) - 1))) + (geti s4 i1)))).set (Int.toNat i1) 0) (w64 ((w64 (Int.tdiv (b1.length : Int) 2)) + i1)))), none, some (.pointer (some (sAddr A2 (w64 ((b1.length : Int) - 1)))))] [2, 4, 7, 8, 12, 14, 16, 17, 171, 172] [pl 2 (.pointer (some ⟨g1, 0, none⟩)), pl 4 (.pointer (some ⟨g2, 0, none⟩)), pl 7 (.int .i64 (b1.length : Int)), pl 8 (.int .i64 (w64 (Int.tdiv (b1.length : Int) 2))), pl 12 (.slice A2 r3.length c2), pl 14 (.bool (place2 == (w64 ((w64 ((w64 (b2 * (w64 (Int.tdiv (b1.length : Int) 2)))) + (w64 (Int.tdiv (b1.length : Int) 2)))) - 1)))), pl 16 (.pointer (some ⟨g3, 0, none⟩)), pl 17 (.int .i64 i1), pl 171 (.int .i64 (w64 ((geti ((s4.set (Int.toNat (w64 ((w64 (Int.tdiv (b1.length : Int) 2)) - 1))) (w64 ((geti s4 (w64 ((w64 (Int.tdiv (b1.length : Int) 2)) - 1))) + (geti s4 i1)))).set (Int.toNat i1) 0) (w64 ((b1.length : Int) - 1))) + (geti ((s4.set (Int.toNat (w64 ((w64 (Int.tdiv (b1.length : Int) 2)) - 1))) (w64 ((geti s4 (w64 ((w64 (Int.tdiv (b1.length : Int) 2)) - 1))) + (geti s4 i1)))).set (Int.toNat i1) 0) (w64 ((w64 (Int.tdiv (b1.length : Int) 2)) + i1)))))), pl 172 (.pointer (some (sAddr A2 (w64 ((b1.length : Int) - 1)))))] hF hS Fol (by kernel_rfl) (by kernel_rfl) (by kernel_rfl) (by kernel_rfl) (by kernel_rfl) ?_ (fun a w hF hS => ?_)
                    · exact obs_cons (ob_ix1 (f := (Value.int .i64)) (m := ((s4.set (Int.toNat (w64 ((w64 (Int.tdiv (b1.length : Int) 2)) - 1))) (w64 ((geti s4 (w64 ((w64 (Int.tdiv (b1.length : Int) 2)) - 1))) + (geti s4 i1)))).set (Int.toNat i1) 0)) Und22 hi3 hs3 (hS.at_ 2 rfl).rd ((hS.at_ 2 rfl).len1) (fun _ => hp19)) <| obs_cons (ob_get1 (n := r3.length) (m := ((s4.set (Int.toNat (w64 ((w64 (Int.tdiv (b1.length : Int) 2)) - 1))) (w64 ((geti s4 (w64 ((w64 (Int.tdiv (b1.length : Int) 2)) - 1))) + (geti s4 i1)))).set (Int.toNat i1) 0)) (Value.int .i64) (0 : Int) Agg3 (fun _ hS => ⟨_, (hS.at_ 2 rfl).rd⟩) (fun _ hS => ((hS.at_ 2 rfl).len1)) (fun _ => hp19)) <| obs_cons (ob_ix1 (f := (Value.int .i64)) (m := ((s4.set (Int.toNat (w64 ((w64 (Int.tdiv (b1.length : Int) 2)) - 1))) (w64 ((geti s4 (w64 ((w64 (Int.tdiv (b1.length : Int) 2)) - 1))) + (geti s4 i1)))).set (Int.toNat i1) 0)) Und22 hi3 hs3 (hS.at_ 2 rfl).rd ((hS.at_ 2 rfl).len1) (fun _ => hp20)) <| obs_cons (ob_get1 (n := r3.length) (m := ((s4.set (Int.toNat (w64 ((w64 (Int.tdiv (b1.length : Int) 2)) - 1))) (w64 ((geti s4 (w64 ((w64 (Int.tdiv (b1.length : Int) 2)) - 1))) + (geti s4 i1)))).set (Int.toNat i1) 0)) (Value.int .i64) (0 : Int) Agg3 (fun _ hS => ⟨_, (hS.at_ 2 rfl).rd⟩) (fun _ hS => ((hS.at_ 2 rfl).len1)) (fun _ => hp20)) <| obs_cons (ob_ix1 (f := (Value.int .i64)) (m := ((s4.set (Int.toNat (w64 ((w64 (Int.tdiv (b1.length : Int) 2)) - 1))) (w64 ((geti s4 (w64 ((w64 (Int.tdiv (b1.length : Int) 2)) - 1))) + (geti s4 i1)))).set (Int.toNat i1) 0)) Und22 hi3 hs3 (hS.at_ 2 rfl).rd ((hS.at_ 2 rfl).len1) (fun _ => hp21)) <| obs_nil
                    obtain ⟨w, hrun, hS⟩ := run_set1 (P := Try.prog) (t := 3) (x := (w64 ((geti ((s4.set (Int.toNat (w64 ((w64 (Int.tdiv (b1.length : Int) 2)) - 1))) (w64 ((geti s4 (w64 ((w64 (Int.tdiv (b1.length : Int) 2)) - 1))) + (geti s4 i1)))).set (Int.toNat i1) 0) (w64 ((b1.length : Int) - 1))) + (geti ((s4.set (Int.toNat (w64 ((w64 (Int.tdiv (b1.length : Int) 2)) - 1))) (w64 ((geti s4 (w64 ((w64 (Int.tdiv (b1.length : Int) 2)) - 1))) + (geti s4 i1)))).set (Int.toNat i1) 0) (w64 ((w64 (Int.tdiv (b1.length : Int) 2)) + i1)))))) (Value.int .i64) (hS.at_ 2 rfl) hi3 hs3 rfl rfl hp21
                    refine at_skip hF (by kernel_rfl) hrun ?_
                    have hS : Sep w0 B w (blk g1 44 #[.slice A1 b1.length c1, .int .i64 b2] :: blk g2 44 #[.slice none 0 0, .int .i64 0] :: own 3 (.slice A2 r3.length c2) (vI (((s4.set (Int.toNat (w64 ((w64 (Int.tdiv (b1.length : Int) 2)) - 1))) (w64 ((geti s4 (w64 ((w64 (Int.tdiv (b1.length : Int) 2)) - 1))) + (geti s4 i1)))).set (Int.toNat i1) 0).set (Int.toNat (w64 ((b1.length : Int) - 1))) (w64 ((geti ((s4.set (Int.toNat (w64 ((w64 (Int.tdiv (b1.length : Int) 2)) - 1))) (w64 ((geti s4 (w64 ((w64 (Int.tdiv (b1.length : Int) 2)) - 1))) + (geti s4 i1)))).set (Int.toNat i1) 0) (w64 ((b1.length : Int) - 1))) + (geti ((s4.set (Int.toNat (w64 ((w64 (Int.tdiv (b1.length : Int) 2)) - 1))) (w64 ((geti s4 (w64 ((w64 (Int.tdiv (b1.length : Int) 2)) - 1))) + (geti s4 i1)))).set (Int.toNat i1) 0) (w64 ((w64 (Int.tdiv (b1.length : Int) 2)) + i1))))))) :: blk g3 44 #[.slice A2 r3.length c2, .int .i64 b2] :: fs) := hS
                    refine at_end [2, 4, 7, 8, 12, 14, 16, 17] [pl 2 (.pointer (some ⟨g1, 0, none⟩)), pl 4 (.pointer (some ⟨g2, 0, none⟩)), pl 7 (.int .i64 (b1.length : Int)), pl 8 (.int .i64 (w64 (Int.tdiv (b1.length : Int) 2))), pl 12 (.slice A2 r3.length c2), pl 14 (.bool (place2 == (w64 ((w64 ((w64 (b2 * (w64 (Int.tdiv (b1.length : Int) 2)))) + (w64 (Int.tdiv (b1.length : Int) 2)))) - 1)))), pl 16 (.pointer (some ⟨g3, 0, none⟩)), pl 17 (.int .i64 i1)] hF rfl (by kernel_rfl) (fun hF => ?_)
                    refine np_n ?_
                    refine then_n ?_
                    refine oneR ?_
                    obtain ⟨hp22, hm⟩ := asrt_b hm
                    refine at_run 5 [⟨true, [], vS (Instr.indexAt 22 (.slice A2 r3.length c2) (.int .i64 (w64 ((w64 (Int.tdiv (b1.length : Int) 2)) + i1)))), .pointer (some (sAddr A2 (w64 ((w64 (Int.tdiv (b1.length : Int) 2)) + i1))))⟩] [none, none, none, none, some (.pointer (some (sAddr A2 (w64 ((w64 (Int.tdiv (b1.length : Int) 2)) + i1)))))] [2, 4, 7, 8, 12, 14, 16, 17, 177] [pl 2 (.pointer (some ⟨g1, 0, none⟩)), pl 4 (.pointer (some ⟨g2, 0, none⟩)), pl 7 (.int .i64 (b1.length : Int)), pl 8 (.int .i64 (w64 (Int.tdiv (b1.length : Int) 2))), pl 12 (.slice A2 r3.length c2), pl 14 (.bool (place2 == (w64 ((w64 ((w64 (b2 * (w64 (Int.tdiv (b1.length : Int) 2)))) + (w64 (Int.tdiv (b1.length : Int) 2)))) - 1)))), pl 16 (.pointer (some ⟨g3, 0, none⟩)), pl 17 (.int .i64 i1), pl 177 (.pointer (some (sAddr A2 (w64 ((w64 (Int.tdiv (b1.length : Int) 2)) + i1)))))] hF hS (by kernel_rfl) (by kernel_rfl) ?_ (fun a w hF hS => ?_)
                    · exact obs_cons (ob_ix1 (f := (Value.int .i64)) (m := (((s4.set (Int.toNat (w64 ((w64 (Int.tdiv (b1.length : Int) 2)) - 1))) (w64 ((geti s4 (w64 ((w64 (Int.tdiv (b1.length : Int) 2)) - 1))) + (geti s4 i1)))).set (Int.toNat i1) 0).set (Int.toNat (w64 ((b1.length : Int) - 1))) (w64 ((geti ((s4.set (Int.toNat (w64 ((w64 (Int.tdiv (b1.length : Int) 2)) - 1))) (w64 ((geti s4 (w64 ((w64 (Int.tdiv (b1.length : Int) 2)) - 1))) + (geti s4 i1)))).set (Int.toNat i1) 0) (w64 ((b1.length : Int) - 1))) + (geti ((s4.set (Int.toNat (w64 ((w64 (Int.tdiv (b1.length : Int) 2)) - 1))) (w64 ((geti s4 (w64 ((w64 (Int.tdiv (b1.length : Int) 2)) - 1))) + (geti s4 i1)))).set (Int.toNat i1) 0) (w64 ((w64 (Int.tdiv (b1.length : Int) 2)) + i1))))))) Und22 hi3 hs3 (hS.at_ 2 rfl).rd ((hS.at_ 2 rfl).len1) (fun _ => hp22)) <| obs_nil
                    obtain ⟨w, hrun, hS⟩ := run_set1 (P := Try.prog) (t := 3) (x := 0) (Value.int .i64) (hS.at_ 2 rfl) hi3 hs3 rfl rfl hp22
                    refine at_skip hF (by kernel_rfl) hrun ?_
                    have hS : Sep w0 B w (blk g1 44 #[.slice A1 b1.length c1, .int .i64 b2] :: blk g2 44 #[.slice none 0 0, .int .i64 0] :: own 3 (.slice A2 r3.length c2) (vI ((((s4.set (Int.toNat (w64 ((w64 (Int.tdiv (b1.length : Int) 2)) - 1))) (w64 ((geti s4 (w64 ((w64 (Int.tdiv (b1.length : Int) 2)) - 1))) + (geti s4 i1)))).set (Int.toNat i1) 0).set (Int.toNat (w64 ((b1.length : Int) - 1))) (w64 ((geti ((s4.set (Int.toNat (w64 ((w64 (Int.tdiv (b1.length : Int) 2)) - 1))) (w64 ((geti s4 (w64 ((w64 (Int.tdiv (b1.length : Int) 2)) - 1))) + (geti s4 i1)))).set (Int.toNat i1) 0) (w64 ((b1.length : Int) - 1))) + (geti ((s4.set (Int.toNat (w64 ((w64 (Int.tdiv (b1.length : Int) 2)) - 1))) (w64 ((geti s4 (w64 ((w64 (Int.tdiv (b1.length : Int) 2)) - 1))) + (geti s4 i1)))).set (Int.toNat i1) 0) (w64 ((w64 (Int.tdiv (b1.length : Int) 2)) + i1)))))).set (Int.toNat (w64 ((w64 (Int.tdiv (b1.length : Int) 2)) + i1))) 0)) :: blk g3 44 #[.slice A2 r3.length c2, .int .i64 b2] :: fs) := hS
                    refine at_end [2, 4, 7, 8, 12, 14, 16, 17] [pl 2 (.pointer (some ⟨g1, 0, none⟩)), pl 4 (.pointer (some ⟨g2, 0, none⟩)), pl 7 (.int .i64 (b1.length : Int)), pl 8 (.int .i64 (w64 (Int.tdiv (b1.length : Int) 2))), pl 12 (.slice A2 r3.length c2), pl 14 (.bool (place2 == (w64 ((w64 ((w64 (b2 * (w64 (Int.tdiv (b1.length : Int) 2)))) + (w64 (Int.tdiv (b1.length : Int) 2)))) - 1)))), pl 16 (.pointer (some ⟨g3, 0, none⟩)), pl 17 (.int .i64 i1)] hF rfl (by kernel_rfl) (fun hF => ?_)
                    refine block_n ?_
                    refine then_n ?_
                    exact ⟨hF.weak [2, 4, 7, 8, 12, 14, 16, 17] (by kernel_rfl), hS, hm⟩
                · refine reg [] [] [2, 4, 7, 8, 12, 14, 16, 17, 143] [pl 2 (.pointer (some ⟨g1, 0, none⟩)), pl 4 (.pointer (some ⟨g2, 0, none⟩)), pl 7 (.int .i64 (b1.length : Int)), pl 8 (.int .i64 (w64 (Int.tdiv (b1.length : Int) 2))), pl 12 (.slice A2 r3.length c2), pl 14 (.bool (place2 == (w64 ((w64 ((w64 (b2 * (w64 (Int.tdiv (b1.length : Int) 2)))) + (w64 (Int.tdiv (b1.length : Int) 2)))) - 1)))), pl 16 (.pointer (some ⟨g3, 0, none⟩)), pl 17 (.int .i64 i1), pl 143 (.bool (decide (i1 < (w64 ((w64 (Int.tdiv (b1.length : Int) 2)) - 1)))))] hF hS Fol (by kernel_rfl) (by kernel_rfl) (by kernel_rfl) ?_ (fun a w hF hS => ?_)
                  · exact obs_nil
                  refine cond_ev (t := 143) (b := decide (i1 < (w64 ((w64 (Int.tdiv (b1.length : Int) 2)) - 1)))) hF (by kernel_rfl) (fun hb => ?_) (fun hb => ?_)
                  · replace hm := if_t hm hb
                    refine wp_skip ?_
                    refine then_n ?_
                    exact ⟨hF.weak [2, 4, 7, 8, 12, 14, 16, 17] (by kernel_rfl), hS, hm⟩
                  · replace hm := if_f hm hb
                    refine wp_exit ?_
                    refine then_e (then_e (block_e (then_n ?_)))
                    have hS := hS.pickN 4 [0, 1, 3, 2] (by decide)
                    rw [← hφ2] at hm
                    replace hm := done_b hm
                    unfold gameroomref_SowOf_K2 at hm
                    try dsimp only at hm
                    have hm : ((gameroomref_SowOf_J8 b1 b2 place2) s4).bind some = some r := hm
                    exact ⟨s4, hF.weak [2, 4, 14, 16] (by kernel_rfl), hS, hm⟩
              · replace hm := if_f hm hb
                refine wp_skip ?_
                refine then_n ?_
                have hS := hS.pickN 4 [1, 2, 0, 3] (by decide)
                exact ⟨s3, hF.weak [2, 4, 14, 16] (by kernel_rfl), hS, hm⟩
          · obtain ⟨hp7, hm⟩ := asrt_b hm
            obtain ⟨hp8, hm⟩ := asrt_b hm
            refine reg [⟨true, [], vS (Op.intDiv .quo .i64 place2 (w64 (Int.tdiv (b1.length : Int) 2))), .int .i64 (w64 (Int.tdiv place2 (w64 (Int.tdiv (b1.length : Int) 2))))⟩, ⟨false, [], vS (Instr.loadAt 3 (.pointer (some ⟨g1, 1, none⟩))), .int .i64 b2⟩, ⟨true, [(((w64 (Int.tdiv place2 (w64 (Int.tdiv (b1.length : Int) 2)))) == b2) && (place2 != (w64 ((w64 ((w64 (b2 * (w64 (Int.tdiv (b1.length : Int) 2)))) + (w64 (Int.tdiv (b1.length : Int) 2)))) - 1))), true)], vS (Instr.indexAt 22 (.slice A2 r3.length c2) (.int .i64 place2)), .pointer (some (sAddr A2 place2))⟩, ⟨false, [(((w64 (Int.tdiv place2 (w64 (Int.tdiv (b1.length : Int) 2)))) == b2) && (place2 != (w64 ((w64 ((w64 (b2 * (w64 (Int.tdiv (b1.length : Int) 2)))) + (w64 (Int.tdiv (b1.length : Int) 2)))) - 1))), true)], vS (Instr.loadAt 3 (.pointer (some (sAddr A2 place2)))), .int .i64 (geti s2 place2)⟩] [none, none, some (.int .i64 (w64 (Int.tdiv place2 (w64 (Int.tdiv (b1.length : Int) 2))))), none, some (.int .i64 b2), none, none, none, none, none, none, none, none, none, some (.pointer (some (sAddr A2 place2))), some (.int .i64 (geti s2 place2)), none, none] [2, 4, 7, 8, 9, 10, 12, 14, 107] [pl 2 (.pointer (some ⟨g1, 0, none⟩)), pl 4 (.pointer (some ⟨g2, 0, none⟩)), pl 7 (.int .i64 (b1.length : Int)), pl 8 (.int .i64 (w64 (Int.tdiv (b1.length : Int) 2))), pl 9 (.int .i64 place2), pl 10 (.int .i64 (w64 ((w64 ((w64 (b2 * (w64 (Int.tdiv (b1.length : Int) 2)))) + (w64 (Int.tdiv (b1.length : Int) 2)))) - 1))), pl 12 (.slice A2 r3.length c2), pl 14 (.bool (place2 == (w64 ((w64 ((w64 (b2 * (w64 (Int.tdiv (b1.length : Int) 2)))) + (w64 (Int.tdiv (b1.length : Int) 2)))) - 1)))), pl 107 (.bool ((((w64 (Int.tdiv place2 (w64 (Int.tdiv (b1.length : Int) 2)))) == b2) && (place2 != (w64 ((w64 ((w64 (b2 * (w64 (Int.tdiv (b1.length : Int) 2)))) + (w64 (Int.tdiv (b1.length : Int) 2)))) - 1)))) && ((geti s2 place2) == 1)))] hF hS Fol (by kernel_rfl) (by kernel_rfl) (by kernel_rfl) ?_ (fun a w hF hS => ?_)
            · exact obs_cons (ob_quo rfl (fun _ => hp7)) <| obs_cons (ob_load Agg3 (fun _ _ hS => (hS.at_ 0 rfl).cell rfl)) <| obs_cons (ob_ix1 (f := (Value.int .i64)) (m := s2) Und22 hi3 hs3 (hS.at_ 2 rfl).rd ((hS.at_ 2 rfl).len1) (fun hy => hp8 (hy (((w64 (Int.tdiv place2 (w64 (Int.tdiv (b1.length : Int) 2)))) == b2) && (place2 != (w64 ((w64 ((w64 (b2 * (w64 (Int.tdiv (b1.length : Int) 2)))) + (w64 (Int.tdiv (b1.length : Int) 2)))) - 1))), true) (by simp)))) <| obs_cons (ob_get1 (n := r3.length) (m := s2) (Value.int .i64) (0 : Int) Agg3 (fun _ hS => ⟨_, (hS.at_ 2 rfl).rd⟩) (fun _ hS => ((hS.at_ 2 rfl).len1)) (fun hy => hp8 (hy (((w64 (Int.tdiv place2 (w64 (Int.tdiv (b1.length : Int) 2)))) == b2) && (place2 != (w64 ((w64 ((w64 (b2 * (w64 (Int.tdiv (b1.length : Int) 2)))) + (w64 (Int.tdiv (b1.length : Int) 2)))) - 1))), true) (by simp)))) <| obs_nil
            refine cond_ev (t := 107) (b := (((w64 (Int.tdiv place2 (w64 (Int.tdiv (b1.length : Int) 2)))) == b2) && (place2 != (w64 ((w64 ((w64 (b2 * (w64 (Int.tdiv (b1.length : Int) 2)))) + (w64 (Int.tdiv (b1.length : Int) 2)))) - 1)))) && ((geti s2 place2) == 1)) hF (by kernel_rfl) (fun hb => ?_) (fun hb => ?_)
            · replace hm := if_t hm hb
              refine reg [] [] [2, 4, 7, 8, 9, 10, 12, 14, 15] [pl 2 (.pointer (some ⟨g1, 0, none⟩)), pl 4 (.pointer (some ⟨g2, 0, none⟩)), pl 7 (.int .i64 (b1.length : Int)), pl 8 (.int .i64 (w64 (Int.tdiv (b1.length : Int) 2))), pl 9 (.int .i64 place2), pl 10 (.int .i64 (w64 ((w64 ((w64 (b2 * (w64 (Int.tdiv (b1.length : Int) 2)))) + (w64 (Int.tdiv (b1.length : Int) 2)))) - 1))), pl 12 (.slice A2 r3.length c2), pl 14 (.bool (place2 == (w64 ((w64 ((w64 (b2 * (w64 (Int.tdiv (b1.length : Int) 2)))) + (w64 (Int.tdiv (b1.length : Int) 2)))) - 1)))), pl 15 (.int .i64 (w64 ((w64 ((b1.length : Int) - 2)) - place2)))] hF hS Fol (by kernel_rfl) (by kernel_rfl) (by kernel_rfl) ?_ (fun a w hF hS => ?_)
              · exact obs_nil
              obtain ⟨hp9, hm⟩ := asrt_b hm
              refine reg [⟨true, [], vS (Instr.indexAt 22 (.slice A2 r3.length c2) (.int .i64 (w64 ((w64 ((b1.length : Int) - 2)) - place2)))), .pointer (some (sAddr A2 (w64 ((w64 ((b1.length : Int) - 2)) - place2))))⟩, ⟨false, [], vS (Instr.loadAt 3 (.pointer (some (sAddr A2 (w64 ((w64 ((b1.length : Int) - 2)) - place2)))))), .int .i64 (geti s2 (w64 ((w64 ((b1.length : Int) - 2)) - place2)))⟩] [none, none, some (.pointer (some (sAddr A2 (w64 ((w64 ((b1.length : Int) - 2)) - place2))))), some (.int .i64 (geti s2 (w64 ((w64 ((b1.length : Int) - 2)) - place2)))), none] [2, 4, 7, 8, 9, 10, 12, 14, 15, 116] [pl 2 (.pointer (some ⟨g1, 0, none⟩)), pl 4 (.pointer (some ⟨g2, 0, none⟩)), pl 7 (.int .i64 (b1.length : Int)), pl 8 (.int .i64 (w64 (Int.tdiv (b1.length : Int) 2))), pl 9 (.int .i64 place2), pl 10 (.int .i64 (w64 ((w64 ((w64 (b2 * (w64 (Int.tdiv (b1.length : Int) 2)))) + (w64 (Int.tdiv (b1.length : Int) 2)))) - 1))), pl 12 (.slice A2 r3.length c2), pl 14 (.bool (place2 == (w64 ((w64 ((w64 (b2 * (w64 (Int.tdiv (b1.length : Int) 2)))) + (w64 (Int.tdiv (b1.length : Int) 2)))) - 1)))), pl 15 (.int .i64 (w64 ((w64 ((b1.length : Int) - 2)) - place2))), pl 116 (.bool (decide ((0 : Int) < (geti s2 (w64 ((w64 ((b1.length : Int) - 2)) - place2))))))] hF hS Fol (by kernel_rfl) (by kernel_rfl) (by kernel_rfl) ?_ (fun a w hF hS => ?_)
              · exact obs_cons (ob_ix1 (f := (Value.int .i64)) (m := s2) Und22 hi3 hs3 (hS.at_ 2 rfl).rd ((hS.at_ 2 rfl).len1) (fun _ => hp9)) <| obs_cons (ob_get1 (n := r3.length) (m := s2) (Value.int .i64) (0 : Int) Agg3 (fun _ hS => ⟨_, (hS.at_ 2 rfl).rd⟩) (fun _ hS => ((hS.at_ 2 rfl).len1)) (fun _ => hp9)) <| obs_nil
              refine cond_ev (t := 116) (b := decide ((0 : Int) < (geti s2 (w64 ((w64 ((b1.length : Int) - 2)) - place2))))) hF (by kernel_rfl) (fun hb => ?_) (fun hb => ?_)
              · replace hm := if_t hm hb
                refine wp_seq ?_
                obtain ⟨hp10, hm⟩ := asrt_b hm
                obtain ⟨hp11, hm⟩ := asrt_b hm
                obtain ⟨hp12, hm⟩ := asrt_b hm
                refine regMix4 [0, 1, 2, 3, 4, 5, 6, 7, 8, 9, 10] [11] [⟨true, [], vS (Instr.indexAt 22 (.slice A2 r3.length c2) (.int .i64 (w64 ((w64 ((w64 (b2 * (w64 (Int.tdiv (b1.length : Int) 2)))) + (w64 (Int.tdiv (b1.length : Int) 2)))) - 1)))), .pointer (some (sAddr A2 (w64 ((w64 ((w64 (b2 * (w64 (Int.tdiv (b1.length : Int) 2)))) + (w64 (Int.tdiv (b1.length : Int) 2)))) - 1))))⟩, ⟨false, [], vS (Instr.loadAt 3 (.pointer (some (sAddr A2 (w64 ((w64 ((w64 (b2 * (w64 (Int.tdiv (b1.length : Int) 2)))) + (w64 (Int.tdiv (b1.length : Int) 2)))) - 1)))))), .int .i64 (geti s2 (w64 ((w64 ((w64 (b2 * (w64 (Int.tdiv (b1.length : Int) 2)))) + (w64 (Int.tdiv (b1.length : Int) 2)))) - 1)))⟩, ⟨true, [], vS (Instr.indexAt 22 (.slice A2 r3.length c2) (.int .i64 (w64 ((w64 ((b1.length : Int) - 2)) - place2)))), .pointer (some (sAddr A2 (w64 ((w64 ((b1.length : Int) - 2)) - place2))))⟩, ⟨false, [], vS (Instr.loadAt 3 (.pointer (some (sAddr A2 (w64 ((w64 ((b1.length : Int) - 2)) - place2)))))), .int .i64 (geti s2 (w64 ((w64 ((b1.length : Int) - 2)) - place2)))⟩, ⟨true, [], vS (Instr.indexAt 22 (.slice A2 r3.length c2) (.int .i64 (w64 ((w64 ((w64 (b2 * (w64 (Int.tdiv (b1.length : Int) 2)))) + (w64 (Int.tdiv (b1.length : Int) 2)))) - 1)))), .pointer (some (sAddr A2 (w64 ((w64 ((w64 (b2 * (w64 (Int.tdiv (b1.length : Int) 2)))) + (w64 (Int.tdiv (b1.length : Int) 2)))) - 1))))⟩] [none, none, some (.pointer (some (sAddr A2 (w64 ((w64 ((w64 (b2 * (w64 (Int.tdiv (b1.length : Int) 2)))) + (w64 (Int.tdiv (b1.length : Int) 2)))) - 1))))), some (.int .i64 (geti s2 (w64 ((w64 ((w64 (b2 * (w64 (Int.tdiv (b1.length : Int) 2)))) + (w64 (Int.tdiv (b1.length : Int) 2)))) - 1)))), none, none, some (.pointer (some (sAddr A2 (w64 ((w64 ((b1.length : Int) - 2)) - place2))))), some (.int .i64 (geti s2 (w64 ((w64 ((b1.length : Int) - 2)) - place2)))), none, none, some (.pointer (some (sAddr A2 (w64 ((w64 ((w64 (b2 * (w64 (Int.tdiv (b1.length : Int) 2)))) + (w64 (Int.tdiv (b1.length : Int) 2)))) - 1)))))] [2, 4, 7, 8, 9, 12, 14, 15, 126, 127] [pl 2 (.pointer (some ⟨g1, 0, none⟩)), pl 4 (.pointer (some ⟨g2, 0, none⟩)), pl 7 (.int .i64 (b1.length : Int)), pl 8 (.int .i64 (w64 (Int.tdiv (b1.length : Int) 2))), pl 9 (.int .i64 place2), pl 12 (.slice A2 r3.length c2), pl 14 (.bool (place2 == (w64 ((w64 ((w64 (b2 * (w64 (Int.tdiv (b1.length : Int) 2)))) + (w64 (Int.tdiv (b1.length : Int) 2)))) - 1)))), pl 15 (.int .i64 (w64 ((w64 ((b1.length : Int) - 2)) - place2))), pl 126 (.int .i64 (w64 ((geti s2 (w64 ((w64 ((w64 (b2 * (w64 (Int.tdiv (b1.length : Int) 2)))) + (w64 (Int.tdiv (b1.length : Int) 2)))) - 1))) + (w64 ((geti s2 (w64 ((w64 ((b1.length : Int) - 2)) - place2))) + 1))))), pl 127 (.pointer (some (sAddr A2 (w64 ((w64 ((w64 (b2 * (w64 (Int.tdiv (b1.length : Int) 2)))) + (w64 (Int.tdiv (b1.length : Int) 2)))) - 1)))))] hF hS Fol (by kernel_rfl) (by kernel_rfl) (by kernel_rfl) (by kernel_rfl) (by kernel_rfl) ?_ (fun a w hF hS => ?_)
                · exact obs_cons (ob_ix1 (f := (Value.int .i64)) (m := s2) Und22 hi3 hs3 (hS.at_ 2 rfl).rd ((hS.at_ 2 rfl).len1) (fun _ => hp10)) <| obs_cons (ob_get1 (n := r3.length) (m := s2) (Value.int .i64) (0 : Int) Agg3 (fun _ hS => ⟨_, (hS.at_ 2 rfl).rd⟩) (fun _ hS => ((hS.at_ 2 rfl).len1)) (fun _ => hp10)) <| obs_cons (ob_ix1 (f := (Value.int .i64)) (m := s2) Und22 hi3 hs3 (hS.at_ 2 rfl).rd ((hS.at_ 2 rfl).len1) (fun _ => hp11)) <| obs_cons (ob_get1 (n := r3.length) (m := s2) (Value.int .i64) (0 : Int) Agg3 (fun _ hS => ⟨_, (hS.at_ 2 rfl).rd⟩) (fun _ hS => ((hS.at_ 2 rfl).len1)) (fun _ => hp11)) <| obs_cons (ob_ix1 (f := (Value.int .i64)) (m := s2) Und22 hi3 hs3 (hS.at_ 2 rfl).rd ((hS.at_ 2 rfl).len1) (fun _ => hp12)) <| obs_nil
                obtain ⟨w, hrun, hS⟩ := run_set1 (P := Try.prog) (t := 3) (x := (w64 ((geti s2 (w64 ((w64 ((w64 (b2 * (w64 (Int.tdiv (b1.length : Int) 2)))) + (w64 (Int.tdiv (b1.length : Int) 2)))) - 1))) + (w64 ((geti s2 (w64 ((w64 ((b1.length : Int) - 2)) - place2))) + 1))))) (Value.int .i64) (hS.at_ 2 rfl) hi3 hs3 rfl rfl hp12
                refine at_skip hF (by kernel_rfl) hrun ?_
                have hS : Sep w0 B w (blk g1 44 #[.slice A1 b1.length c1, .int .i64 b2] :: blk g2 44 #[.slice none 0 0, .int .i64 0] :: own 3 (.slice A2 r3.length c2) (vI (s2.set (Int.toNat (w64 ((w64 ((w64 (b2 * (w64 (Int.tdiv (b1.length : Int) 2)))) + (w64 (Int.tdiv (b1.length : Int) 2)))) - 1))) (w64 ((geti s2 (w64 ((w64 ((w64 (b2 * (w64 (Int.tdiv (b1.length : Int) 2)))) + (w64 (Int.tdiv (b1.length : Int) 2)))) - 1))) + (w64 ((geti s2 (w64 ((w64 ((b1.length : Int) - 2)) - place2))) + 1)))))) :: fs) := hS
                refine at_end [2, 4, 7, 8, 9, 12, 14, 15] [pl 2 (.pointer (some ⟨g1, 0, none⟩)), pl 4 (.pointer (some ⟨g2, 0, none⟩)), pl 7 (.int .i64 (b1.length : Int)), pl 8 (.int .i64 (w64 (Int.tdiv (b1.length : Int) 2))), pl 9 (.int .i64 place2), pl 12 (.slice A2 r3.length c2), pl 14 (.bool (place2 == (w64 ((w64 ((w64 (b2 * (w64 (Int.tdiv (b1.length : Int) 2)))) + (w64 (Int.tdiv (b1.length : Int) 2)))) - 1)))), pl 15 (.int .i64 (w64 ((w64 ((b1.length : Int) - 2)) - place2)))] hF rfl (by kernel_rfl) (fun hF => ?_)
                refine np_n ?_
                refine then_n ?_
                refine seqR ?_
                obtain ⟨hp13, hm⟩ := asrt_b hm
                refine at_run 3 [⟨true, [], vS (Instr.indexAt 22 (.slice A2 r3.length c2) (.int .i64 place2)), .pointer (some (sAddr A2 place2))⟩] [none, none, some (.pointer (some (sAddr A2 place2)))] [2, 4, 7, 8, 12, 14, 15, 130] [pl 2 (.pointer (some ⟨g1, 0, none⟩)), pl 4 (.pointer (some ⟨g2, 0, none⟩)), pl 7 (.int .i64 (b1.length : Int)), pl 8 (.int .i64 (w64 (Int.tdiv (b1.length : Int) 2))), pl 12 (.slice A2 r3.length c2), pl 14 (.bool (place2 == (w64 ((w64 ((w64 (b2 * (w64 (Int.tdiv (b1.length : Int) 2)))) + (w64 (Int.tdiv (b1.length : Int) 2)))) - 1)))), pl 15 (.int .i64 (w64 ((w64 ((b1.length : Int) - 2)) - place2))), pl 130 (.pointer (some (sAddr A2 place2)))] hF hS (by kernel_rfl) (by kernel_rfl) ?_ (fun a w hF hS => ?_)
                · exact obs_cons (ob_ix1 (f := (Value.int .i64)) (m := (s2.set (Int.toNat (w64 ((w64 ((w64 (b2 * (w64 (Int.tdiv (b1.length : Int) 2)))) + (w64 (Int.tdiv (b1.length : Int) 2)))) - 1))) (w64 ((geti s2 (w64 ((w64 ((w64 (b2 * (w64 (Int.tdiv (b1.length : Int) 2)))) + (w64 (Int.tdiv (b1.length : Int) 2)))) - 1))) + (w64 ((geti s2 (w64 ((w64 ((b1.length : Int) - 2)) - place2))) + 1)))))) Und22 hi3 hs3 (hS.at_ 2 rfl).rd ((hS.at_ 2 rfl).len1) (fun _ => hp13)) <| obs_nil
                obtain ⟨w, hrun, hS⟩ := run_set1 (P := Try.prog) (t := 3) (x := 0) (Value.int .i64) (hS.at_ 2 rfl) hi3 hs3 rfl rfl hp13
                refine at_skip hF (by kernel_rfl) hrun ?_
                have hS : Sep w0 B w (blk g1 44 #[.slice A1 b1.length c1, .int .i64 b2] :: blk g2 44 #[.slice none 0 0, .int .i64 0] :: own 3 (.slice A2 r3.length c2) (vI ((s2.set (Int.toNat (w64 ((w64 ((w64 (b2 * (w64 (Int.tdiv (b1.length : Int) 2)))) + (w64 (Int.tdiv (b1.length : Int) 2)))) - 1))) (w64 ((geti s2 (w64 ((w64 ((w64 (b2 * (w64 (Int.tdiv (b1.length : Int) 2)))) + (w64 (Int.tdiv (b1.length : Int) 2)))) - 1))) + (w64 ((geti s2 (w64 ((w64 ((b1.length : Int) - 2)) - place2))) + 1))))).set (Int.toNat place2) 0)) :: fs) := hS
                refine at_end [2, 4, 7, 8, 12, 14, 15] [pl 2 (.pointer (some ⟨g1, 0, none⟩)), pl 4 (.pointer (some ⟨g2, 0, none⟩)), pl 7 (.int .i64 (b1.length : Int)), pl 8 (.int .i64 (w64 (Int.tdiv (b1.length : Int) 2))), pl 12 (.slice A2 r3.length c2), pl 14 (.bool (place2 == (w64 ((w64 ((w64 (b2 * (w64 (Int.tdiv (b1.length : Int) 2)))) + (w64 (Int.tdiv (b1.length : Int) 2)))) - 1)))), pl 15 (.int .i64 (w64 ((w64 ((b1.length : Int) - 2)) - place2)))] hF rfl (by kernel_rfl) (fun hF => ?_)
                refine then_n ?_
                refine oneR ?_
                obtain ⟨hp14, hm⟩ := asrt_b hm
                refine at_run 3 [⟨true, [], vS (Instr.indexAt 22 (.slice A2 r3.length c2) (.int .i64 (w64 ((w64 ((b1.length : Int) - 2)) - place2)))), .pointer (some (sAddr A2 (w64 ((w64 ((b1.length : Int) - 2)) - place2))))⟩] [none, none, some (.pointer (some (sAddr A2 (w64 ((w64 ((b1.length : Int) - 2)) - place2)))))] [2, 4, 7, 8, 12, 14, 133] [pl 2 (.pointer (some ⟨g1, 0, none⟩)), pl 4 (.pointer (some ⟨g2, 0, none⟩)), pl 7 (.int .i64 (b1.length : Int)), pl 8 (.int .i64 (w64 (Int.tdiv (b1.length : Int) 2))), pl 12 (.slice A2 r3.length c2), pl 14 (.bool (place2 == (w64 ((w64 ((w64 (b2 * (w64 (Int.tdiv (b1.length : Int) 2)))) + (w64 (Int.tdiv (b1.length : Int) 2)))) - 1)))), pl 133 (.pointer (some (sAddr A2 (w64 ((w64 ((b1.length : Int) - 2)) - place2)))))] hF hS (by kernel_rfl) (by kernel_rfl) ?_ (fun a w hF hS => ?_)
                · exact obs_cons (ob_ix1 (f := (Value.int .i64)) (m := ((s2.set (Int.toNat (w64 ((w64 ((w64 (b2 * (w64 (Int.tdiv (b1.length : Int) 2)))) + (w64 (Int.tdiv (b1.length : Int) 2)))) - 1))) (w64 ((geti s2 (w64 ((w64 ((w64 (b2 * (w64 (Int.tdiv (b1.length : Int) 2)))) + (w64 (Int.tdiv (b1.length : Int) 2)))) - 1))) + (w64 ((geti s2 (w64 ((w64 ((b1.length : Int) - 2)) - place2))) + 1))))).set (Int.toNat place2) 0)) Und22 hi3 hs3 (hS.at_ 2 rfl).rd ((hS.at_ 2 rfl).len1) (fun _ => hp14)) <| obs_nil
                obtain ⟨w, hrun, hS⟩ := run_set1 (P := Try.prog) (t := 3) (x := 0) (Value.int .i64) (hS.at_ 2 rfl) hi3 hs3 rfl rfl hp14
                refine at_skip hF (by kernel_rfl) hrun ?_
                have hS : Sep w0 B w (blk g1 44 #[.slice A1 b1.length c1, .int .i64 b2] :: blk g2 44 #[.slice none 0 0, .int .i64 0] :: own 3 (.slice A2 r3.length c2) (vI (((s2.set (Int.toNat (w64 ((w64 ((w64 (b2 * (w64 (Int.tdiv (b1.length : Int) 2)))) + (w64 (Int.tdiv (b1.length : Int) 2)))) - 1))) (w64 ((geti s2 (w64 ((w64 ((w64 (b2 * (w64 (Int.tdiv (b1.length : Int) 2)))) + (w64 (Int.tdiv (b1.length : Int) 2)))) - 1))) + (w64 ((geti s2 (w64 ((w64 ((b1.length : Int) - 2)) - place2))) + 1))))).set (Int.toNat place2) 0).set (Int.toNat (w64 ((w64 ((b1.length : Int) - 2)) - place2))) 0)) :: fs) := hS
                refine at_end [2, 4, 7, 8, 12, 14] [pl 2 (.pointer (some ⟨g1, 0, none⟩)), pl 4 (.pointer (some ⟨g2, 0, none⟩)), pl 7 (.int .i64 (b1.length : Int)), pl 8 (.int .i64 (w64 (Int.tdiv (b1.length : Int) 2))), pl 12 (.slice A2 r3.length c2), pl 14 (.bool (place2 == (w64 ((w64 ((w64 (b2 * (w64 (Int.tdiv (b1.length : Int) 2)))) + (w64 (Int.tdiv (b1.length : Int) 2)))) - 1))))] hF rfl (by kernel_rfl) (fun hF => ?_)
                refine then_n ?_
                exact ⟨(((s2.set (Int.toNat (w64 ((w64 ((w64 (b2 * (w64 (Int.tdiv (b1.length : Int) 2)))) + (w64 (Int.tdiv (b1.length : Int) 2)))) - 1))) (w64 ((geti s2 (w64 ((w64 ((w64 (b2 * (w64 (Int.tdiv (b1.length : Int) 2)))) + (w64 (Int.tdiv (b1.length : Int) 2)))) - 1))) + (w64 ((geti s2 (w64 ((w64 ((b1.length : Int) - 2)) - place2))) + 1))))).set (Int.toNat place2) 0).set (Int.toNat (w64 ((w64 ((b1.length : Int) - 2)) - place2))) 0), hF.weak [2, 4, 7, 8, 12, 14] (by kernel_rfl), hS, hm⟩
              · replace hm := if_f hm hb
                refine wp_skip ?_
                refine then_n ?_
                exact ⟨s2, hF.weak [2, 4, 7, 8, 12, 14] (by kernel_rfl), hS, hm⟩
            · replace hm := if_f hm hb
              refine wp_skip ?_
              refine then_n ?_
              exact ⟨s2, hF.weak [2, 4, 7, 8, 12, 14] (by kernel_rfl), hS, hm⟩
        · refine wp_block ?_
          have hS := hS.pickN 3 [1, 2, 0] (by decide)
          refine wp_loop_model (S := (Int × List Int × Int)) (R := (Int × List Int)) (gameroomref_SowOf_L1 b1 b2 r3) (fun x => ((gameroomref_SowOf_K1 b1 b2 r3) x).bind some) r (fun (x : (Int × List Int × Int)) a w => Fr 186 [pl 2 (.pointer (some ⟨g1, 0, none⟩)), pl 4 (.pointer (some ⟨g2, 0, none⟩)), pl 7 (.int .i64 (b1.length : Int)), pl 8 (.int .i64 (w64 (Int.tdiv (b1.length : Int) 2))), pl 9 (.int .i64 x.1), pl 10 (.int .i64 (w64 ((w64 ((w64 (b2 * (w64 (Int.tdiv (b1.length : Int) 2)))) + (w64 (Int.tdiv (b1.length : Int) 2)))) - 1))), pl 11 (.int .i64 (w64 ((w64 ((w64 ((w64 (1 - b2)) * (w64 (Int.tdiv (b1.length : Int) 2)))) + (w64 (Int.tdiv (b1.length : Int) 2)))) - 1))), pl 12 (.slice A2 r3.length c2), pl 13 (.int .i64 x.2.2)] a ∧ Sep w0 B w (blk g1 44 #[.slice A1 b1.length c1, .int .i64 b2] :: blk g2 44 #[.slice none 0 0, .int .i64 0] :: own 3 (.slice A2 r3.length c2) (vI x.2.1) :: fs)) (assoc_b hm) ⟨hF.weak [2, 4, 7, 8, 9, 10, 11, 12, 13] (by kernel_rfl), hS⟩ ?_
          clear hF hS hm
          rintro nn1 ⟨place1, s1, hand1⟩ a w ⟨hF, hS⟩ hm
          generalize hφ1 : stK (gameroomref_SowOf_L1 b1 b2 r3) nn1 (fun x => ((gameroomref_SowOf_K1 b1 b2 r3) x).bind some) = φ1 at hm
          unfold gameroomref_SowOf_L1 at hm
          dsimp only at hF hS hm
          refine seq_cut (fun a w => Fr 186 [pl 2 (.pointer (some ⟨g1, 0, none⟩)), pl 4 (.pointer (some ⟨g2, 0, none⟩)), pl 7 (.int .i64 (b1.length : Int)), pl 8 (.int .i64 (w64 (Int.tdiv (b1.length : Int) 2))), pl 9 (.int .i64 place1), pl 10 (.int .i64 (w64 ((w64 ((w64 (b2 * (w64 (Int.tdiv (b1.length : Int) 2)))) + (w64 (Int.tdiv (b1.length : Int) 2)))) - 1))), pl 11 (.int .i64 (w64 ((w64 ((w64 ((w64 (1 - b2)) * (w64 (Int.tdiv (b1.length : Int) 2)))) + (w64 (Int.tdiv (b1.length : Int) 2)))) - 1))), pl 12 (.slice A2 r3.length c2), pl 13 (.int .i64 hand1)] a ∧ Sep w0 B w (blk g1 44 #[.slice A1 b1.length c1, .int .i64 b2] :: blk g2 44 #[.slice none 0 0, .int .i64 0] :: own 3 (.slice A2 r3.length c2) (vI s1) :: fs) ∧ ((gameroomref_SowOf_J5 b1 b2 r3 place1 s1 hand1)).bind φ1 = some r) ?_ ?_
          · rintro a w ⟨hF, hS, hm⟩
            unfold gameroomref_SowOf_J5 at hm
            refine wp_block ?_
            obtain ⟨hp4, hm⟩ := asrt_b hm
            refine reg [⟨true, [], vS (Op.intDiv .rem .i64 (w64 (place1 + 1)) (b1.length : Int)), .int .i64 (Int.tmod (w64 (place1 + 1)) (b1.length : Int))⟩] [none, none, none, some (.int .i64 (Int.tmod (w64 (place1 + 1)) (b1.length : Int))), none] [2, 4, 7, 8, 9, 10, 11, 12, 13] [pl 2 (.pointer (some ⟨g1, 0, none⟩)), pl 4 (.pointer (some ⟨g2, 0, none⟩)), pl 7 (.int .i64 (b1.length : Int)), pl 8 (.int .i64 (w64 (Int.tdiv (b1.length : Int) 2))), pl 9 (.int .i64 (Int.tmod (w64 (place1 + 1)) (b1.length : Int))), pl 10 (.int .i64 (w64 ((w64 ((w64 (b2 * (w64 (Int.tdiv (b1.length : Int) 2)))) + (w64 (Int.tdiv (b1.length : Int) 2)))) - 1))), pl 11 (.int .i64 (w64 ((w64 ((w64 ((w64 (1 - b2)) * (w64 (Int.tdiv (b1.length : Int) 2)))) + (w64 (Int.tdiv (b1.length : Int) 2)))) - 1))), pl 12 (.slice A2 r3.length c2), pl 13 (.int .i64 hand1)] hF hS Fol (by kernel_rfl) (by kernel_rfl) (by kernel_rfl) ?_ (fun a w hF hS => ?_)
            · exact obs_cons (ob_rem rfl (fun _ => hp4)) <| obs_nil
            refine seq_cut (fun a w => Fr 186 [pl 2 (.pointer (some ⟨g1, 0, none⟩)), pl 4 (.pointer (some ⟨g2, 0, none⟩)), pl 7 (.int .i64 (b1.length : Int)), pl 8 (.int .i64 (w64 (Int.tdiv (b1.length : Int) 2))), pl 9 (.int .i64 (Int.tmod (w64 (place1 + 1)) (b1.length : Int))), pl 10 (.int .i64 (w64 ((w64 ((w64 (b2 * (w64 (Int.tdiv (b1.length : Int) 2)))) + (w64 (Int.tdiv (b1.length : Int) 2)))) - 1))), pl 11 (.int .i64 (w64 ((w64 ((w64 ((w64 (1 - b2)) * (w64 (Int.tdiv (b1.length : Int) 2)))) + (w64 (Int.tdiv (b1.length : Int) 2)))) - 1))), pl 12 (.slice A2 r3.length c2), pl 13 (.int .i64 hand1)] a ∧ Sep w0 B w (blk g1 44 #[.slice A1 b1.length c1, .int .i64 b2] :: blk g2 44 #[.slice none 0 0, .int .i64 0] :: own 3 (.slice A2 r3.length c2) (vI s1) :: fs) ∧ ((gameroomref_SowOf_J6 b1 r3 place1 s1 hand1)).bind φ1 = some r) ?_ ?_
            · rintro a w ⟨hF, hS, hm⟩
              unfold gameroomref_SowOf_J6 at hm
              refine seqR ?_
              obtain ⟨hp5, hm⟩ := asrt_b hm
              obtain ⟨hp6, hm⟩ := asrt_b hm
              refine at_run 6 [⟨true, [], vS (Instr.indexAt 22 (.slice A2 r3.length c2) (.int .i64 (Int.tmod (w64 (place1 + 1)) (b1.length : Int)))), .pointer (some (sAddr A2 (Int.tmod (w64 (place1 + 1)) (b1.length : Int))))⟩, ⟨false, [], vS (Instr.loadAt 3 (.pointer (some (sAddr A2 (Int.tmod (w64 (place1 + 1)) (b1.length : Int)))))), .int .i64 (geti s1 (Int.tmod (w64 (place1 + 1)) (b1.length : Int)))⟩, ⟨true, [], vS (Instr.indexAt 22 (.slice A2 r3.length c2) (.int .i64 (Int.tmod (w64 (place1 + 1)) (b1.length : Int)))), .pointer (some (sAddr A2 (Int.tmod (w64 (place1 + 1)) (b1.length : Int))))⟩] [none, none, some (.pointer (some (sAddr A2 (Int.tmod (w64 (place1 + 1)) (b1.length : Int))))), some (.int .i64 (geti s1 (Int.tmod (w64 (place1 + 1)) (b1.length : Int)))), none, some (.pointer (some (sAddr A2 (Int.tmod (w64 (place1 + 1)) (b1.length : Int)))))] [2, 4, 7, 8, 9, 10, 11, 12, 13, 83, 84] [pl 2 (.pointer (some ⟨g1, 0, none⟩)), pl 4 (.pointer (some ⟨g2, 0, none⟩)), pl 7 (.int .i64 (b1.length : Int)), pl 8 (.int .i64 (w64 (Int.tdiv (b1.length : Int) 2))), pl 9 (.int .i64 (Int.tmod (w64 (place1 + 1)) (b1.length : Int))), pl 10 (.int .i64 (w64 ((w64 ((w64 (b2 * (w64 (Int.tdiv (b1.length : Int) 2)))) + (w64 (Int.tdiv (b1.length : Int) 2)))) - 1))), pl 11 (.int .i64 (w64 ((w64 ((w64 ((w64 (1 - b2)) * (w64 (Int.tdiv (b1.length : Int) 2)))) + (w64 (Int.tdiv (b1.length : Int) 2)))) - 1))), pl 12 (.slice A2 r3.length c2), pl 13 (.int .i64 hand1), pl 83 (.int .i64 (w64 ((geti s1 (Int.tmod (w64 (place1 + 1)) (b1.length : Int))) + 1))), pl 84 (.pointer (some (sAddr A2 (Int.tmod (w64 (place1 + 1)) (b1.length : Int)))))] hF hS (by kernel_rfl) (by kernel_rfl) ?_ (fun a w hF hS => ?_)
              · exact obs_cons (ob_ix1 (f := (Value.int .i64)) (m := s1) Und22 hi3 hs3 (hS.at_ 2 rfl).rd ((hS.at_ 2 rfl).len1) (fun _ => hp5)) <| obs_cons (ob_get1 (n := r3.length) (m := s1) (Value.int .i64) (0 : Int) Agg3 (fun _ hS => ⟨_, (hS.at_ 2 rfl).rd⟩) (fun _ hS => ((hS.at_ 2 rfl).len1)) (fun _ => hp5)) <| obs_cons (ob_ix1 (f := (Value.int .i64)) (m := s1) Und22 hi3 hs3 (hS.at_ 2 rfl).rd ((hS.at_ 2 rfl).len1) (fun _ => hp6)) <| obs_nil
              obtain ⟨w, hrun, hS⟩ := run_set1 (P := Try.prog) (t := 3) (x := (w64 ((geti s1 (Int.tmod (w64 (place1 + 1)) (b1.length : Int))) + 1))) (Value.int .i64) (hS.at_ 2 rfl) hi3 hs3 rfl rfl hp6
              refine at_skip hF (by kernel_rfl) hrun ?_
              have hS : Sep w0 B w (blk g1 44 #[.slice A1 b1.length c1, .int .i64 b2] :: blk g2 44 #[.slice none 0 0, .int .i64 0] :: own 3 (.slice A2 r3.length c2) (vI (s1.set (Int.toNat (Int.tmod (w64 (place1 + 1)) (b1.length : Int))) (w64 ((geti s1 (Int.tmod (w64 (place1 + 1)) (b1.length : Int))) + 1)))) :: fs) := hS
              refine at_end [2, 4, 7, 8, 9, 10, 11, 12, 13] [pl 2 (.pointer (some ⟨g1, 0, none⟩)), pl 4 (.pointer (some ⟨g2, 0, none⟩)), pl 7 (.int .i64 (b1.length : Int)), pl 8 (.int .i64 (w64 (Int.tdiv (b1.length : Int) 2))), pl 9 (.int .i64 (Int.tmod (w64 (place1 + 1)) (b1.length : Int))), pl 10 (.int .i64 (w64 ((w64 ((w64 (b2 * (w64 (Int.tdiv (b1.length : Int) 2)))) + (w64 (Int.tdiv (b1.length : Int) 2)))) - 1))), pl 11 (.int .i64 (w64 ((w64 ((w64 ((w64 (1 - b2)) * (w64 (Int.tdiv (b1.length : Int) 2)))) + (w64 (Int.tdiv (b1.length : Int) 2)))) - 1))), pl 12 (.slice A2 r3.length c2), pl 13 (.int .i64 hand1)] hF rfl (by kernel_rfl) (fun hF => ?_)
              refine then_n ?_
              refine reg1 [] [] [2, 4, 7, 8, 9, 10, 11, 12, 13] [pl 2 (.pointer (some ⟨g1, 0, none⟩)), pl 4 (.pointer (some ⟨g2, 0, none⟩)), pl 7 (.int .i64 (b1.length : Int)), pl 8 (.int .i64 (w64 (Int.tdiv (b1.length : Int) 2))), pl 9 (.int .i64 (Int.tmod (w64 (place1 + 1)) (b1.length : Int))), pl 10 (.int .i64 (w64 ((w64 ((w64 (b2 * (w64 (Int.tdiv (b1.length : Int) 2)))) + (w64 (Int.tdiv (b1.length : Int) 2)))) - 1))), pl 11 (.int .i64 (w64 ((w64 ((w64 ((w64 (1 - b2)) * (w64 (Int.tdiv (b1.length : Int) 2)))) + (w64 (Int.tdiv (b1.length : Int) 2)))) - 1))), pl 12 (.slice A2 r3.length c2), pl 13 (.int .i64 (w64 (hand1 - 1)))] hF hS Fol (by kernel_rfl) (by kernel_rfl) (by kernel_rfl) ?_ (fun a w hF hS => ?_)
              · exact obs_nil
              refine block_n ?_
              refine then_n ?_
              rw [← hφ1] at hm
              exact ⟨((Int.tmod (w64 (place1 + 1)) (b1.length : Int)), (s1.set (Int.toNat (Int.tmod (w64 (place1 + 1)) (b1.length : Int))) (w64 ((geti s1 (Int.tmod (w64 (place1 + 1)) (b1.length : Int))) + 1))), (w64 (hand1 - 1))), ⟨hF.weak [2, 4, 7, 8, 9, 10, 11, 12, 13] (by kernel_rfl), hS⟩, hm⟩
            · refine reg [] [] [2, 4, 7, 8, 9, 10, 11, 12, 13, 78] [pl 2 (.pointer (some ⟨g1, 0, none⟩)), pl 4 (.pointer (some ⟨g2, 0, none⟩)), pl 7 (.int .i64 (b1.length : Int)), pl 8 (.int .i64 (w64 (Int.tdiv (b1.length : Int) 2))), pl 9 (.int .i64 (Int.tmod (w64 (place1 + 1)) (b1.length : Int))), pl 10 (.int .i64 (w64 ((w64 ((w64 (b2 * (w64 (Int.tdiv (b1.length : Int) 2)))) + (w64 (Int.tdiv (b1.length : Int) 2)))) - 1))), pl 11 (.int .i64 (w64 ((w64 ((w64 ((w64 (1 - b2)) * (w64 (Int.tdiv (b1.length : Int) 2)))) + (w64 (Int.tdiv (b1.length : Int) 2)))) - 1))), pl 12 (.slice A2 r3.length c2), pl 13 (.int .i64 hand1), pl 78 (.bool ((Int.tmod (w64 (place1 + 1)) (b1.length : Int)) == (w64 ((w64 ((w64 ((w64 (1 - b2)) * (w64 (Int.tdiv (b1.length : Int) 2)))) + (w64 (Int.tdiv (b1.length : Int) 2)))) - 1))))] hF hS Fol (by kernel_rfl) (by kernel_rfl) (by kernel_rfl) ?_ (fun a w hF hS => ?_)
              · exact obs_nil
              refine cond_ev (t := 78) (b := ((Int.tmod (w64 (place1 + 1)) (b1.length : Int)) == (w64 ((w64 ((w64 ((w64 (1 - b2)) * (w64 (Int.tdiv (b1.length : Int) 2)))) + (w64 (Int.tdiv (b1.length : Int) 2)))) - 1)))) hF (by kernel_rfl) (fun hb => ?_) (fun hb => ?_)
              · replace hm := if_t hm hb
                refine wp_exit ?_
                refine then_e (block_e (then_n ?_))
                rw [← hφ1] at hm
                exact ⟨((Int.tmod (w64 (place1 + 1)) (b1.length : Int)), s1, hand1), ⟨hF.weak [2, 4, 7, 8, 9, 10, 11, 12, 13] (by kernel_rfl), hS⟩, hm⟩
              · replace hm := if_f hm hb
                refine wp_skip ?_
                refine then_n ?_
                exact ⟨hF.weak [2, 4, 7, 8, 9, 10, 11, 12, 13] (by kernel_rfl), hS, hm⟩
          · refine reg [] [] [2, 4, 7, 8, 9, 10, 11, 12, 13, 71] [pl 2 (.pointer (some ⟨g1, 0, none⟩)), pl 4 (.pointer (some ⟨g2, 0, none⟩)), pl 7 (.int .i64 (b1.length : Int)), pl 8 (.int .i64 (w64 (Int.tdiv (b1.length : Int) 2))), pl 9 (.int .i64 place1), pl 10 (.int .i64 (w64 ((w64 ((w64 (b2 * (w64 (Int.tdiv (b1.length : Int) 2)))) + (w64 (Int.tdiv (b1.length : Int) 2)))) - 1))), pl 11 (.int .i64 (w64 ((w64 ((w64 ((w64 (1 - b2)) * (w64 (Int.tdiv (b1.length : Int) 2)))) + (w64 (Int.tdiv (b1.length : Int) 2)))) - 1))), pl 12 (.slice A2 r3.length c2), pl 13 (.int .i64 hand1), pl 71 (.bool (decide ((0 : Int) < hand1)))] hF hS Fol (by kernel_rfl) (by kernel_rfl) (by kernel_rfl) ?_ (fun a w hF hS => ?_)
            · exact obs_nil
            refine cond_ev (t := 71) (b := decide ((0 : Int) < hand1)) hF (by kernel_rfl) (fun hb => ?_) (fun hb => ?_)
            · replace hm := if_t hm hb
              refine wp_skip ?_
              refine then_n ?_
              exact ⟨hF.weak [2, 4, 7, 8, 9, 10, 11, 12, 13] (by kernel_rfl), hS, hm⟩
            · replace hm := if_f hm hb
              refine wp_exit ?_
              refine then_e (then_e (block_e (then_n ?_)))
              rw [← hφ1] at hm
              replace hm := done_b hm
              unfold gameroomref_SowOf_K1 at hm
              try dsimp only at hm
              have hm : ((gameroomref_SowOf_J4 b1 b2 r3) place1 s1).bind some = some r := hm
              exact ⟨place1, s1, hF.weak [2, 4, 7, 8, 9, 10, 12] (by kernel_rfl), hS, hm⟩
      · obtain ⟨hp1, hm⟩ := asrt_b hm
        refine reg [⟨false, [], vS (Instr.loadAt 22 (.pointer (some ⟨g1, 0, none⟩))), .slice A1 b1.length c1⟩, ⟨true, [], vS (Instr.indexAt 22 (.slice A1 b1.length c1) (.int .i64 (w64 ((w64 (b2 * (w64 (Int.tdiv (b1.length : Int) 2)))) + pit1)))), .pointer (some (sAddr A1 (w64 ((w64 (b2 * (w64 (Int.tdiv (b1.length : Int) 2)))) + pit1))))⟩, ⟨false, [], vS (Instr.loadAt 3 (.pointer (some (sAddr A1 (w64 ((w64 (b2 * (w64 (Int.tdiv (b1.length : Int) 2)))) + pit1)))))), .int .i64 (geti b1 (w64 ((w64 (b2 * (w64 (Int.tdiv (b1.length : Int) 2)))) + pit1)))⟩] [none, some (.slice A1 b1.length c1), none, some (.pointer (some (sAddr A1 (w64 ((w64 (b2 * (w64 (Int.tdiv (b1.length : Int) 2)))) + pit1))))), some (.int .i64 (geti b1 (w64 ((w64 (b2 * (w64 (Int.tdiv (b1.length : Int) 2)))) + pit1)))), none] [2, 4, 7, 8, 9, 10, 11, 58] [pl 2 (.pointer (some ⟨g1, 0, none⟩)), pl 4 (.pointer (some ⟨g2, 0, none⟩)), pl 7 (.int .i64 (b1.length : Int)), pl 8 (.int .i64 (w64 (Int.tdiv (b1.length : Int) 2))), pl 9 (.int .i64 (w64 ((w64 (b2 * (w64 (Int.tdiv (b1.length : Int) 2)))) + pit1))), pl 10 (.int .i64 (w64 ((w64 ((w64 (b2 * (w64 (Int.tdiv (b1.length : Int) 2)))) + (w64 (Int.tdiv (b1.length : Int) 2)))) - 1))), pl 11 (.int .i64 (w64 ((w64 ((w64 ((w64 (1 - b2)) * (w64 (Int.tdiv (b1.length : Int) 2)))) + (w64 (Int.tdiv (b1.length : Int) 2)))) - 1))), pl 58 (.bool ((geti b1 (w64 ((w64 (b2 * (w64 (Int.tdiv (b1.length : Int) 2)))) + pit1))) == 0))] hF hS Fol (by kernel_rfl) (by kernel_rfl) (by kernel_rfl) ?_ (fun a w hF hS => ?_)
        · exact obs_cons (ob_load Agg22 (fun _ _ hS => (hS.at_ 0 rfl).cell rfl)) <| obs_cons (ob_ix1 (f := (Value.int .i64)) (m := b1) Und22 hi3 hs3 (hr_b1 _ (hS.dropN 2)) rfl (fun _ => hp1)) <| obs_cons (ob_get1 (n := b1.length) (m := b1) (Value.int .i64) (0 : Int) Agg3 (fun _ hS => ⟨_, (hr_b1 _ (hS.dropN 2))⟩) (fun _ hS => rfl) (fun _ => hp1)) <| obs_nil
        refine cond_ev (t := 58) (b := ((geti b1 (w64 ((w64 (b2 * (w64 (Int.tdiv (b1.length : Int) 2)))) + pit1))) == 0)) hF (by kernel_rfl) (fun hb => ?_) (fun hb => ?_)
        · replace hm := if_t hm hb
          refine seqR ?_
          refine at_run 1 [] [] [4, 59] [pl 4 (.pointer (some ⟨g2, 0, none⟩)), pl 59 (.agg #[.slice none 0 0, .int .i64 0])] hF hS (by kernel_rfl) (by kernel_rfl) ?_ (fun a w hF hS => ?_)
          · exact obs_nil
          obtain ⟨w, hrun, hS⟩ := run_putA (P := Try.prog) (t := 44) (us := #[.slice none 0 0, .int .i64 0]) (o := 0) (hS.at_ 1 rfl) (by kernel_rfl) (all_one (by kernel_rfl)) (Nat.le_of_ble_eq_true (by kernel_rfl))
          refine at_skip hF (by kernel_rfl) hrun ?_
          have hS : Sep w0 B w (blk g1 44 #[.slice A1 b1.length c1, .int .i64 b2] :: blk g2 44 #[.slice none 0 0, .int .i64 0] :: fs) := hS
          refine at_run 2 [] [] [4, 5, 6] [pl 4 (.pointer (some ⟨g2, 0, none⟩)), pl 5 (.bool false), pl 6 (.int .i64 10)] hF hS (by kernel_rfl) (by kernel_rfl) ?_ (fun a w hF hS => ?_)
          · exact obs_nil
          refine at_end [4, 5, 6] [pl 4 (.pointer (some ⟨g2, 0, none⟩)), pl 5 (.bool false), pl 6 (.int .i64 10)] hF rfl (by kernel_rfl) (fun hF => ?_)
          refine then_n ?_
          refine wp_ret ?_
          refine then_r ?_
          have hS : Sep w0 B w (own 3 (.slice none 0 0) (vI ([] : List Int)) :: blk g1 44 #[.slice A1 b1.length c1, .int .i64 b2] :: blk g2 44 #[.slice none 0 0, .int .i64 0] :: fs) := hS.nil 3
          have hl3 := (hS.at_ 0 rfl).len1
          have hS := (hS.at_ 0 rfl).reN hl3
          have hS : Sep w0 B w (own 3 (.slice none (([] : List Int).length) 0) (vI ([] : List Int)) :: blk g1 44 #[.slice A1 b1.length c1, .int .i64 b2] :: blk g2 44 #[.slice none 0 0, .int .i64 0] :: fs) := hS
          have hld0 := run_loadVarA (P := Try.prog) (t := 44) (cs := #[.slice none (([] : List Int).length) 0, .int .i64 0]) (by kernel_rfl) (by kernel_rfl) ((hS.at_ 2 rfl).cellsAt 0 (by rfl))
          have hS := hS.pickN 3 [0] (by decide)
          have hm : some (([] : List Int), 0, false, 10) = some r := hm
          obtain rfl := Option.some.inj hm
          exact retV (rs := [.cell 4 44, .tmp 5, .tmp 6]) (vs := [.agg #[.slice none (([] : List Int).length) 0, .int .i64 0], .bool false, .int .i64 10]) hF rfl (rv_c (by kernel_rfl) hld0 <| rv_t (by kernel_rfl) <| rv_t (by kernel_rfl) <| rv_nil) rfl ⟨_, rfl, none, 0, rfl, hS⟩
        · replace hm := if_f hm hb
          refine wp_skip ?_
          refine then_n ?_
          exact ⟨hF.weak [2, 4, 7, 8, 9, 10, 11] (by kernel_rfl), hS, hm⟩
    · obtain ⟨r2, hr2, hm⟩ := call_b hm
      refine reg [⟨false, [], callFunc 64 #[.int .i64 pit1, .int .i64 0, .int .i64 (w64 ((w64 (Int.tdiv (b1.length : Int) 2)) - 2))], .bool r2⟩] [none, none, none, some (.bool r2), none] [1, 2, 4, 7, 8, 30] [pl 1 (.int .i64 pit1), pl 2 (.pointer (some ⟨g1, 0, none⟩)), pl 4 (.pointer (some ⟨g2, 0, none⟩)), pl 7 (.int .i64 (b1.length : Int)), pl 8 (.int .i64 (w64 (Int.tdiv (b1.length : Int) 2))), pl 30 (.bool (!r2))] hF hS Fol (by kernel_rfl) (by kernel_rfl) (by kernel_rfl) ?_ (fun a w hF hS => ?_)
      · exact obs_cons (ob_call Try.func64 (by kernel_rfl) rfl (fun _ _ hS => gameroomref_within_w hr2 hS )) <| obs_nil
      refine cond_ev (t := 30) (b := !r2) hF (by kernel_rfl) (fun hb => ?_) (fun hb => ?_)
      · replace hm := if_t hm hb
        refine seqR ?_
        refine at_run 1 [] [] [4, 31] [pl 4 (.pointer (some ⟨g2, 0, none⟩)), pl 31 (.agg #[.slice none 0 0, .int .i64 0])] hF hS (by kernel_rfl) (by kernel_rfl) ?_ (fun a w hF hS => ?_)
        · exact obs_nil
        obtain ⟨w, hrun, hS⟩ := run_putA (P := Try.prog) (t := 44) (us := #[.slice none 0 0, .int .i64 0]) (o := 0) (hS.at_ 1 rfl) (by kernel_rfl) (all_one (by kernel_rfl)) (Nat.le_of_ble_eq_true (by kernel_rfl))
        refine at_skip hF (by kernel_rfl) hrun ?_
        have hS : Sep w0 B w (blk g1 44 #[.slice A1 b1.length c1, .int .i64 b2] :: blk g2 44 #[.slice none 0 0, .int .i64 0] :: fs) := hS
        refine at_run 2 [] [] [4, 5, 6] [pl 4 (.pointer (some ⟨g2, 0, none⟩)), pl 5 (.bool false), pl 6 (.int .i64 3)] hF hS (by kernel_rfl) (by kernel_rfl) ?_ (fun a w hF hS => ?_)
        · exact obs_nil
        refine at_end [4, 5, 6] [pl 4 (.pointer (some ⟨g2, 0, none⟩)), pl 5 (.bool false), pl 6 (.int .i64 3)] hF rfl (by kernel_rfl) (fun hF => ?_)
        refine then_n ?_
        refine wp_ret ?_
        refine then_r ?_
        have hS : Sep w0 B w (own 3 (.slice none 0 0) (vI ([] : List Int)) :: blk g1 44 #[.slice A1 b1.length c1, .int .i64 b2] :: blk g2 44 #[.slice none 0 0, .int .i64 0] :: fs) := hS.nil 3
        have hl2 := (hS.at_ 0 rfl).len1
        have hS := (hS.at_ 0 rfl).reN hl2
        have hS : Sep w0 B w (own 3 (.slice none (([] : List Int).length) 0) (vI ([] : List Int)) :: blk g1 44 #[.slice A1 b1.length c1, .int .i64 b2] :: blk g2 44 #[.slice none 0 0, .int .i64 0] :: fs) := hS
        have hld0 := run_loadVarA (P := Try.prog) (t := 44) (cs := #[.slice none (([] : List Int).length) 0, .int .i64 0]) (by kernel_rfl) (by kernel_rfl) ((hS.at_ 2 rfl).cellsAt 0 (by rfl))
        have hS := hS.pickN 3 [0] (by decide)
        have hm : some (([] : List Int), 0, false, 3) = some r := hm
        obtain rfl := Option.some.inj hm
        exact retV (rs := [.cell 4 44, .tmp 5, .tmp 6]) (vs := [.agg #[.slice none (([] : List Int).length) 0, .int .i64 0], .bool false, .int .i64 3]) hF rfl (rv_c (by kernel_rfl) hld0 <| rv_t (by kernel_rfl) <| rv_t (by kernel_rfl) <| rv_nil) rfl ⟨_, rfl, none, 0, rfl, hS⟩
      · replace hm := if_f hm hb
        refine wp_skip ?_
        refine then_n ?_
        exact ⟨hF.weak [1, 2, 4, 7, 8] (by kernel_rfl), hS, hm⟩
  · obtain ⟨r1, hr1, hm⟩ := call_b hm
    refine reg [⟨false, [], vS (Instr.loadAt 44 (.pointer (some ⟨g1, 0, none⟩))), .agg #[.slice A1 b1.length c1, .int .i64 b2]⟩, ⟨false, [], callFunc 71 #[.agg #[.slice A1 b1.length c1, .int .i64 b2]], .bool r1⟩] [some (.agg #[.slice A1 b1.length c1, .int .i64 b2]), some (.bool r1)] [1, 2, 4, 7, 8, 24] [pl 1 (.int .i64 pit1), pl 2 (.pointer (some ⟨g1, 0, none⟩)), pl 4 (.pointer (some ⟨g2, 0, none⟩)), pl 7 (.int .i64 (b1.length : Int)), pl 8 (.int .i64 (w64 (Int.tdiv (b1.length : Int) 2))), pl 24 (.bool r1)] hF hS Fol (by kernel_rfl) (by kernel_rfl) (by kernel_rfl) ?_ (fun a w hF hS => ?_)
    · exact obs_cons (ob_loadA (cs := #[.slice A1 b1.length c1, .int .i64 b2]) (by kernel_rfl) (by kernel_rfl) (fun _ _ hS => (hS.at_ 1 rfl).cellsAt 0 (by rfl))) <| obs_cons (ob_call Try.func71 (by kernel_rfl) rfl (fun _ _ hS => gameroomref_MancalaOver_w hr1 hS (fun _ hS => (hr_b1 _ (hS.dropN 2))) _hc_b1 rfl)) <| obs_nil
    refine cond_ev (t := 24) (b := r1) hF (by kernel_rfl) (fun hb => ?_) (fun hb => ?_)
    · replace hm := if_t hm hb
      refine seqR ?_
      refine at_run 1 [] [] [4, 25] [pl 4 (.pointer (some ⟨g2, 0, none⟩)), pl 25 (.agg #[.slice none 0 0, .int .i64 0])] hF hS (by kernel_rfl) (by kernel_rfl) ?_ (fun a w hF hS => ?_)
      · exact obs_nil
      obtain ⟨w, hrun, hS⟩ := run_putA (P := Try.prog) (t := 44) (us := #[.slice none 0 0, .int .i64 0]) (o := 0) (hS.at_ 0 rfl) (by kernel_rfl) (all_one (by kernel_rfl)) (Nat.le_of_ble_eq_true (by kernel_rfl))
      refine at_skip hF (by kernel_rfl) hrun ?_
      have hS : Sep w0 B w (blk g2 44 #[.slice none 0 0, .int .i64 0] :: blk g1 44 #[.slice A1 b1.length c1, .int .i64 b2] :: fs) := hS
      refine at_run 2 [] [] [4, 5, 6] [pl 4 (.pointer (some ⟨g2, 0, none⟩)), pl 5 (.bool false), pl 6 (.int .i64 9)] hF hS (by kernel_rfl) (by kernel_rfl) ?_ (fun a w hF hS => ?_)
      · exact obs_nil
      refine at_end [4, 5, 6] [pl 4 (.pointer (some ⟨g2, 0, none⟩)), pl 5 (.bool false), pl 6 (.int .i64 9)] hF rfl (by kernel_rfl) (fun hF => ?_)
      refine then_n ?_
      refine wp_ret ?_
      refine then_r ?_
      have hS : Sep w0 B w (own 3 (.slice none 0 0) (vI ([] : List Int)) :: blk g2 44 #[.slice none 0 0, .int .i64 0] :: blk g1 44 #[.slice A1 b1.length c1, .int .i64 b2] :: fs) := hS.nil 3
      have hl1 := (hS.at_ 0 rfl).len1
      have hS := (hS.at_ 0 rfl).reN hl1
      have hS : Sep w0 B w (own 3 (.slice none (([] : List Int).length) 0) (vI ([] : List Int)) :: blk g2 44 #[.slice none 0 0, .int .i64 0] :: blk g1 44 #[.slice A1 b1.length c1, .int .i64 b2] :: fs) := hS
      have hld0 := run_loadVarA (P := Try.prog) (t := 44) (cs := #[.slice none (([] : List Int).length) 0, .int .i64 0]) (by kernel_rfl) (by kernel_rfl) ((hS.at_ 1 rfl).cellsAt 0 (by rfl))
      have hS := hS.pickN 3 [0] (by decide)
      have hm : some (([] : List Int), 0, false, 9) = some r := hm
      obtain rfl := Option.some.inj hm
      exact retV (rs := [.cell 4 44, .tmp 5, .tmp 6]) (vs := [.agg #[.slice none (([] : List Int).length) 0, .int .i64 0], .bool false, .int .i64 9]) hF rfl (rv_c (by kernel_rfl) hld0 <| rv_t (by kernel_rfl) <| rv_t (by kernel_rfl) <| rv_nil) rfl ⟨_, rfl, none, 0, rfl, hS⟩
    · replace hm := if_f hm hb
      refine wp_skip ?_
      refine then_n ?_
      have hS := hS.pickN 2 [1, 0] (by decide)
      exact ⟨hF.weak [1, 2, 4, 7, 8] (by kernel_rfl), hS, hm⟩

noncomputable def gameroomref_MancalaValue_J4 (b1 : List Int) (n2 : Int) (i1 : Int) : Option (St (Int × Int) Int) :=
  some (.next ((w64 (n2 + (w64 ((geti b1 i1) - (geti b1 (w64 ((w64 (Int.tdiv (b1.length : Int) 2)) + i1))))))), (w64 (i1 + 1))))

noncomputable def gameroomref_MancalaValue_J3 (b1 : List Int) (n2 : Int) (i1 : Int) : Option (St (Int × Int) Int) :=
  asrt (0 ≤ i1 ∧ i1 < (b1.length : Int)) <| asrt (0 ≤ (w64 ((w64 (Int.tdiv (b1.length : Int) 2)) + i1)) ∧ (w64 ((w64 (Int.tdiv (b1.length : Int) 2)) + i1)) < (b1.length : Int)) <| (gameroomref_MancalaValue_J4 b1 n2 i1)

noncomputable def gameroomref_MancalaValue_J2 (n3 : Int) : Option (Int × Int) :=
  some (n3, (-1))

noncomputable def gameroomref_MancalaValue_K1 : Int → Option (Int × Int) :=
  fun (x : Int) => match x with | n3 => gameroomref_MancalaValue_J2 n3

noncomputable def gameroomref_MancalaValue_L1 (b1 : List Int) : (Int × Int) → Option (St (Int × Int) Int) :=
  fun (x : (Int × Int)) => match x with | (n2, i1) => if (decide (i1 < (w64 (Int.tdiv (b1.length : Int) 2)))) then ((gameroomref_MancalaValue_J3 b1 n2 i1)) else (some (.done n2))

noncomputable def gameroomref_MancalaValue_J7 (pit1 : Int) (best3 : Int) (who3 : Int) : Option (St (Int × Int × Int) (Int × Int)) :=
  some (.next (best3, who3, (w64 (pit1 + 1))))

noncomputable def gameroomref_MancalaValue_J8 (rec_gameroomref_MancalaValue : List Int → Int → Option (Int × Int)) (b2 : Int) (best1 : Int) (who1 : Int) (pit1 : Int) (r2 : (List Int × Int × Bool × Int)) : Option (St (Int × Int × Int) (Int × Int)) :=
  (rec_gameroomref_MancalaValue r2.1 r2.2.1).bind fun r3 => if (((decide (who1 < 0)) || ((b2 == 0) && (decide (best1 < r3.1)))) || ((b2 == 1) && (decide (r3.1 < best1)))) then ((gameroomref_MancalaValue_J7 pit1) r3.1 pit1) else ((gameroomref_MancalaValue_J7 pit1) best1 who1)

noncomputable def gameroomref_MancalaValue_J6 (rec_gameroomref_MancalaValue : List Int → Int → Option (Int × Int)) (b1 : List Int) (b2 : Int) (best1 : Int) (who1 : Int) (pit1 : Int) : Option (St (Int × Int × Int) (Int × Int)) :=
  (gameroomref_SowOf_m b1 b2 pit1).bind fun r2 => if (r2.2.2.2 != 0) then ((gameroomref_MancalaValue_J7 pit1) best1 who1) else ((gameroomref_MancalaValue_J8 rec_gameroomref_MancalaValue b2 best1 who1 pit1 r2))

noncomputable def gameroomref_MancalaValue_J5 (best2 : Int) (who2 : Int) : Option (Int × Int) :=
  some (best2, who2)

noncomputable def gameroomref_MancalaValue_K2 : (Int × Int) → Option (Int × Int) :=
  fun (x : (Int × Int)) => match x with | (best2, who2) => gameroomref_MancalaValue_J5 best2 who2

noncomputable def gameroomref_MancalaValue_L2 (rec_gameroomref_MancalaValue : List Int → Int → Option (Int × Int)) (b1 : List Int) (b2 : Int) : (Int × Int × Int) → Option (St (Int × Int × Int) (Int × Int)) :=
  fun (x : (Int × Int × Int)) => match x with | (best1, who1, pit1) => if (decide (pit1 < (w64 ((w64 (Int.tdiv (b1.length : Int) 2)) - 1)))) then ((gameroomref_MancalaValue_J6 rec_gameroomref_MancalaValue b1 b2 best1 who1 pit1)) else (some (.done (best1, who1)))

noncomputable def gameroomref_MancalaValue_J1 (rec_gameroomref_MancalaValue : List Int → Int → Option (Int × Int)) (b1 : List Int) (b2 : Int) : Option (Int × Int) :=
  (loop (gameroomref_MancalaValue_L2 rec_gameroomref_MancalaValue b1 b2) (0, (-1), 0)).bind gameroomref_MancalaValue_K2

noncomputable def gameroomref_MancalaValue_B (rec_gameroomref_MancalaValue : List Int → Int → Option (Int × Int)) (b1 : List Int) (b2 : Int) : Option (Int × Int) :=
  (gameroomref_MancalaOver_m b1 b2).bind fun r1 => if r1 then ((loop (gameroomref_MancalaValue_L1 b1) (0, 0)).bind gameroomref_MancalaValue_K1) else ((gameroomref_MancalaValue_J1 rec_gameroomref_MancalaValue b1 b2))

noncomputable def gameroomref_MancalaValue_mF : Nat → List Int → Int → Option (Int × Int)
  | 0 => fun _ _ => none
  | n + 1 => fun b1 b2 => gameroomref_MancalaValue_B (gameroomref_MancalaValue_mF n) b1 b2

noncomputable def gameroomref_MancalaValue_m (b1 : List Int) (b2 : Int) : Option (Int × Int) :=
  recM fun n => gameroomref_MancalaValue_mF n b1 b2

set_option maxRecDepth 100000 in
set_option maxHeartbeats 4000000 in
theorem gameroomref_MancalaValue_wB {rec_gameroomref_MancalaValue : List Int → Int → Option (Int × Int)} (ih_gameroomref_MancalaValue : ∀ {A1 : Option Addr} {c1 : Nat} {n1 : Nat} {b1 : List Int} {b2 : Int} {r : (Int × Int)} {w0 w : World} {B : Nat} {fs : List HP} (_ : rec_gameroomref_MancalaValue b1 b2 = some r) (_ : Sep w0 B w (fs)) (hr_b1 : RdF w0 B fs A1 (vI b1)) (_hc_b1 : b1.length ≤ c1) (_hn_b1 : n1 = b1.length), Calls Try.prog 28 #[.agg #[.slice A1 n1 c1, .int .i64 b2]] w fun e w' => e = .returned (.tuple #[.int .i64 r.1, .int .i64 r.2]) ∧ Sep w0 B w' (fs)) {A1 : Option Addr} {c1 : Nat} {n1 : Nat} {b1 : List Int} {b2 : Int} {r : (Int × Int)} {w0 w : World} {B : Nat} {fs : List HP} (hm : gameroomref_MancalaValue_B rec_gameroomref_MancalaValue b1 b2 = some r) (hS : Sep w0 B w (fs)) (hr_b1 : RdF w0 B fs A1 (vI b1)) (_hc_b1 : b1.length ≤ c1) (_hn_b1 : n1 = b1.length) :
    Calls Try.prog 28 #[.agg #[.slice A1 n1 c1, .int .i64 b2]] w fun e w' => e = .returned (.tuple #[.int .i64 r.1, .int .i64 r.2]) ∧ Sep w0 B w' (fs) := by
  obtain ⟨i3, hi3, hz3, hs3, hb3⟩ := info_parts Info3
  obtain rfl := _hn_b1
  unfold gameroomref_MancalaValue_B at hm
  replace hm := start_b hm
  refine enter (l := [.agg #[.slice A1 b1.length c1, .int .i64 b2]]) (n := 88) Try.func28 rfl rfl (by simp) (fun a hF => ?_)
  refine seqR ?_
  refine at_do (d := 1) (s := vS (Instr.box 44 (.agg #[.slice A1 b1.length c1, .int .i64 b2]))) (v := .pointer (some ⟨w.heap.size, 0, none⟩)) (w' := w.alloc (.cells #[.slice A1 b1.length c1, .int .i64 b2] 44)) hF (by kernel_rfl) (by kernel_rfl) (by kernel_rfl) (fun a hF => ?_)
  have hS : Sep w0 B (w.alloc (.cells #[.slice A1 b1.length c1, .int .i64 b2] 44)) (blk w.heap.size 44 #[.slice A1 b1.length c1, .int .i64 b2] :: (fs)) := hS.box 44 #[.slice A1 b1.length c1, .int .i64 b2]
  generalize w.heap.size = g1 at hF hS
  generalize w.alloc (.cells #[.slice A1 b1.length c1, .int .i64 b2] 44) = w at hS ⊢
  refine at_run 2 [] [] [1] [pl 1 (.pointer (some ⟨g1, 0, none⟩))] hF hS (by kernel_rfl) (by kernel_rfl) ?_ (fun a w hF hS => ?_)
  · exact obs_nil
  refine at_end [1] [pl 1 (.pointer (some ⟨g1, 0, none⟩))] hF rfl (by kernel_rfl) (fun hF => ?_)
  refine then_n ?_
  refine reg [⟨false, [], vS (Instr.loadAt 22 (.pointer (some ⟨g1, 0, none⟩))), .slice A1 b1.length c1⟩] [none, some (.slice A1 b1.length c1), none, none, none] [1, 4] [pl 1 (.pointer (some ⟨g1, 0, none⟩)), pl 4 (.int .i64 (w64 (Int.tdiv (b1.length : Int) 2)))] hF hS Fol (by kernel_rfl) (by kernel_rfl) (by kernel_rfl) ?_ (fun a w hF hS => ?_)
  · exact obs_cons (ob_load Agg22 (fun _ _ hS => (hS.at_ 0 rfl).cell rfl)) <| obs_nil
  refine seq_cut (fun a w => Fr 88 [pl 1 (.pointer (some ⟨g1, 0, none⟩)), pl 4 (.int .i64 (w64 (Int.tdiv (b1.length : Int) 2)))] a ∧ Sep w0 B w (blk g1 44 #[.slice A1 b1.length c1, .int .i64 b2] :: fs) ∧ ((gameroomref_MancalaValue_J1 rec_gameroomref_MancalaValue b1 b2)).bind some = some r) ?_ ?_
  · rintro a w ⟨hF, hS, hm⟩
    unfold gameroomref_MancalaValue_J1 at hm
    refine reg [] [] [1, 4, 7, 8] [pl 1 (.pointer (some ⟨g1, 0, none⟩)), pl 4 (.int .i64 (w64 (Int.tdiv (b1.length : Int) 2))), pl 7 (.int .i64 0), pl 8 (.int .i64 (-1))] hF hS Fol (by kernel_rfl) (by kernel_rfl) (by kernel_rfl) ?_ (fun a w hF hS => ?_)
    · exact obs_nil
    refine seq_cut (fun a w => ∃ (best2 : Int) (who2 : Int), Fr 88 [pl 7 (.int .i64 best2), pl 8 (.int .i64 who2)] a ∧ Sep w0 B w (fs) ∧ (gameroomref_MancalaValue_J5 best2 who2).bind some = some r) ?_ ?_
    · rintro a w ⟨best2, who2, hF, hS, hm⟩
      unfold gameroomref_MancalaValue_J5 at hm
      refine reg [] [] [2, 3] [pl 2 (.int .i64 best2), pl 3 (.int .i64 who2)] hF hS Fol (by kernel_rfl) (by kernel_rfl) (by kernel_rfl) ?_ (fun a w hF hS => ?_)
      · exact obs_nil
      refine wp_ret ?_
      have hm : some (best2, who2) = some r := hm
      obtain rfl := Option.some.inj hm
      exact retV (rs := [.tmp 2, .tmp 3]) (vs := [.int .i64 best2, .int .i64 who2]) hF rfl (rv_t (by kernel_rfl) <| rv_t (by kernel_rfl) <| rv_nil) rfl ⟨rfl, hS⟩
    · refine reg [] [] [1, 4, 7, 8, 9] [pl 1 (.pointer (some ⟨g1, 0, none⟩)), pl 4 (.int .i64 (w64 (Int.tdiv (b1.length : Int) 2))), pl 7 (.int .i64 0), pl 8 (.int .i64 (-1)), pl 9 (.int .i64 0)] hF hS Fol (by kernel_rfl) (by kernel_rfl) (by kernel_rfl) ?_ (fun a w hF hS => ?_)
      · exact obs_nil
      refine wp_block ?_
      refine wp_loop_model (S := (Int × Int × Int)) (R := (Int × Int)) (gameroomref_MancalaValue_L2 rec_gameroomref_MancalaValue b1 b2) (fun x => (gameroomref_MancalaValue_K2 x).bind some) r (fun (x : (Int × Int × Int)) a w => Fr 88 [pl 1 (.pointer (some ⟨g1, 0, none⟩)), pl 4 (.int .i64 (w64 (Int.tdiv (b1.length : Int) 2))), pl 7 (.int .i64 x.1), pl 8 (.int .i64 x.2.1), pl 9 (.int .i64 x.2.2)] a ∧ Sep w0 B w (blk g1 44 #[.slice A1 b1.length c1, .int .i64 b2] :: fs)) (assoc_b hm) ⟨hF.weak [1, 4, 7, 8, 9] (by kernel_rfl), hS⟩ ?_
      clear hF hS hm
      rintro nn2 ⟨best1, who1, pit1⟩ a w ⟨hF, hS⟩ hm
      generalize hφ2 : stK (gameroomref_MancalaValue_L2 rec_gameroomref_MancalaValue b1 b2) nn2 (fun x => (gameroomref_MancalaValue_K2 x).bind some) = φ2 at hm
      unfold gameroomref_MancalaValue_L2 at hm
      dsimp only at hF hS hm
      refine seq_cut (fun a w => Fr 88 [pl 1 (.pointer (some ⟨g1, 0, none⟩)), pl 4 (.int .i64 (w64 (Int.tdiv (b1.length : Int) 2))), pl 7 (.int .i64 best1), pl 8 (.int .i64 who1), pl 9 (.int .i64 pit1)] a ∧ Sep w0 B w (blk g1 44 #[.slice A1 b1.length c1, .int .i64 b2] :: fs) ∧ ((gameroomref_MancalaValue_J6 rec_gameroomref_MancalaValue b1 b2 best1 who1 pit1)).bind φ2 = some r) ?_ ?_
      · rintro a w ⟨hF, hS, hm⟩
        unfold gameroomref_MancalaValue_J6 at hm
        refine seq_cut (fun a w => ∃ (best3 : Int) (who3 : Int), Fr 88 [pl 1 (.pointer (some ⟨g1, 0, none⟩)), pl 4 (.int .i64 (w64 (Int.tdiv (b1.length : Int) 2))), pl 7 (.int .i64 best3), pl 8 (.int .i64 who3), pl 9 (.int .i64 pit1)] a ∧ Sep w0 B w (blk g1 44 #[.slice A1 b1.length c1, .int .i64 b2] :: fs) ∧ ((gameroomref_MancalaValue_J7 pit1) best3 who3).bind φ2 = some r) ?_ ?_
        · rintro a w ⟨best3, who3, hF, hS, hm⟩
          unfold gameroomref_MancalaValue_J7 at hm
          refine reg1 [] [] [1, 4, 7, 8, 9] [pl 1 (.pointer (some ⟨g1, 0, none⟩)), pl 4 (.int .i64 (w64 (Int.tdiv (b1.length : Int) 2))), pl 7 (.int .i64 best3), pl 8 (.int .i64 who3), pl 9 (.int .i64 (w64 (pit1 + 1)))] hF hS Fol (by kernel_rfl) (by kernel_rfl) (by kernel_rfl) ?_ (fun a w hF hS => ?_)
          · exact obs_nil
          refine then_n ?_
          rw [← hφ2] at hm
          exact ⟨(best3, who3, (w64 (pit1 + 1))), ⟨hF.weak [1, 4, 7, 8, 9] (by kernel_rfl), hS⟩, hm⟩
        · refine wp_block ?_
          refine seqR ?_
          obtain ⟨r2, hr2, hm⟩ := call_b hm
          refine at_run 2 [⟨false, [], vS (Instr.loadAt 44 (.pointer (some ⟨g1, 0, none⟩))), .agg #[.slice A1 b1.length c1, .int .i64 b2]⟩] [some (.agg #[.slice A1 b1.length c1, .int .i64 b2]), none] [1, 4, 7, 8, 9, 49, 50] [pl 1 (.pointer (some ⟨g1, 0, none⟩)), pl 4 (.int .i64 (w64 (Int.tdiv (b1.length : Int) 2))), pl 7 (.int .i64 best1), pl 8 (.int .i64 who1), pl 9 (.int .i64 pit1), pl 49 (.agg #[.slice A1 b1.length c1, .int .i64 b2]), pl 50 (.int .i64 pit1)] hF hS (by kernel_rfl) (by kernel_rfl) ?_ (fun a w hF hS => ?_)
          · exact obs_cons (ob_loadA (cs := #[.slice A1 b1.length c1, .int .i64 b2]) (by kernel_rfl) (by kernel_rfl) (fun _ _ hS => (hS.at_ 0 rfl).cellsAt 0 (by rfl))) <| obs_nil
          refine at_call (f := 72) (args := #[.agg #[.slice A1 b1.length c1, .int .i64 b2], .int .i64 pit1]) (d := 51) hF (by kernel_rfl) (by kernel_rfl) Try.func72 (by kernel_rfl) rfl (gameroomref_SowOf_w hr2 hS (fun _ hS => (hr_b1 _ (hS.dropN 1))) _hc_b1 rfl) (fun v a w hR hF => ?_)
          clear hS
          obtain ⟨A2, c2, rfl, hS⟩ := hR
          have hS : Sep w0 B w (own 3 (.slice A2 r2.1.length c2) (vI r2.1) :: blk g1 44 #[.slice A1 b1.length c1, .int .i64 b2] :: fs) := hS
          refine at_run 4 [] [] [1, 4, 7, 8, 9, 52, 53, 54] [pl 1 (.pointer (some ⟨g1, 0, none⟩)), pl 4 (.int .i64 (w64 (Int.tdiv (b1.length : Int) 2))), pl 7 (.int .i64 best1), pl 8 (.int .i64 who1), pl 9 (.int .i64 pit1), pl 52 (.agg #[.slice A2 r2.1.length c2, .int .i64 r2.2.1]), pl 53 (.bool r2.2.2.1), pl 54 (.int .i64 r2.2.2.2)] hF hS (by kernel_rfl) (by kernel_rfl) ?_ (fun a w hF hS => ?_)
          · exact obs_nil
          refine at_do (d := 10) (s := vS (Instr.alloc 44 true (.tuple #[]))) (v := .pointer (some ⟨w.heap.size, 0, none⟩)) (w' := w.alloc (.cells #[.slice none 0 0, .int .i64 0] 44)) hF (by kernel_rfl) (by kernel_rfl) (by kernel_rfl) (fun a hF => ?_)
          have hS : Sep w0 B (w.alloc (.cells #[.slice none 0 0, .int .i64 0] 44)) (blk w.heap.size 44 #[.slice none 0 0, .int .i64 0] :: (own 3 (.slice A2 r2.1.length c2) (vI r2.1) :: blk g1 44 #[.slice A1 b1.length c1, .int .i64 b2] :: fs)) := hS.box 44 #[.slice none 0 0, .int .i64 0]
          generalize w.heap.size = g2 at hF hS
          generalize w.alloc (.cells #[.slice none 0 0, .int .i64 0] 44) = w at hS ⊢
          obtain ⟨w, hrun, hS⟩ := run_putA (P := Try.prog) (t := 44) (us := #[.slice A2 r2.1.length c2, .int .i64 r2.2.1]) (o := 0) (hS.at_ 0 rfl) (by kernel_rfl) (all_one (by kernel_rfl)) (Nat.le_of_ble_eq_true (by kernel_rfl))
          refine at_skip hF (by kernel_rfl) hrun ?_
          have hS : Sep w0 B w (blk g2 44 #[.slice A2 r2.1.length c2, .int .i64 r2.2.1] :: own 3 (.slice A2 r2.1.length c2) (vI r2.1) :: blk g1 44 #[.slice A1 b1.length c1, .int .i64 b2] :: fs) := hS
          refine at_run 2 [] [] [1, 4, 7, 8, 9, 10, 12] [pl 1 (.pointer (some ⟨g1, 0, none⟩)), pl 4 (.int .i64 (w64 (Int.tdiv (b1.length : Int) 2))), pl 7 (.int .i64 best1), pl 8 (.int .i64 who1), pl 9 (.int .i64 pit1), pl 10 (.pointer (some ⟨g2, 0, none⟩)), pl 12 (.int .i64 r2.2.2.2)] hF hS (by kernel_rfl) (by kernel_rfl) ?_ (fun a w hF hS => ?_)
          · exact obs_nil
          refine at_end [1, 4, 7, 8, 9, 10, 12] [pl 1 (.pointer (some ⟨g1, 0, none⟩)), pl 4 (.int .i64 (w64 (Int.tdiv (b1.length : Int) 2))), pl 7 (.int .i64 best1), pl 8 (.int .i64 who1), pl 9 (.int .i64 pit1), pl 10 (.pointer (some ⟨g2, 0, none⟩)), pl 12 (.int .i64 r2.2.2.2)] hF rfl (by kernel_rfl) (fun hF => ?_)
          refine then_n ?_
          refine seq_cut (fun a w => Fr 88 [pl 1 (.pointer (some ⟨g1, 0, none⟩)), pl 4 (.int .i64 (w64 (Int.tdiv (b1.length : Int) 2))), pl 7 (.int .i64 best1), pl 8 (.int .i64 who1), pl 9 (.int .i64 pit1), pl 10 (.pointer (some ⟨g2, 0, none⟩))] a ∧ Sep w0 B w (blk g1 44 #[.slice A1 b1.length c1, .int .i64 b2] :: blk g2 44 #[.slice A2 r2.1.length c2, .int .i64 r2.2.1] :: own 3 (.slice A2 r2.1.length c2) (vI r2.1) :: fs) ∧ ((gameroomref_MancalaValue_J8 rec_gameroomref_MancalaValue b2 best1 who1 pit1 r2)).bind φ2 = some r) ?_ ?_
          · rintro a w ⟨hF, hS, hm⟩
            unfold gameroomref_MancalaValue_J8 at hm
            obtain ⟨r3, hr3, hm⟩ := call_b hm
            refine reg [⟨false, [], vS (Instr.loadAt 44 (.pointer (some ⟨g2, 0, none⟩))), .agg #[.slice A2 r2.1.length c2, .int .i64 r2.2.1]⟩, ⟨false, [], callFunc 28 #[.agg #[.slice A2 r2.1.length c2, .int .i64 r2.2.1]], .tuple #[.int .i64 r3.1, .int .i64 r3.2]⟩] [some (.agg #[.slice A2 r2.1.length c2, .int .i64 r2.2.1]), some (.tuple #[.int .i64 r3.1, .int .i64 r3.2]), none, none, none, none, none] [1, 4, 7, 8, 9, 13] [pl 1 (.pointer (some ⟨g1, 0, none⟩)), pl 4 (.int .i64 (w64 (Int.tdiv (b1.length : Int) 2))), pl 7 (.int .i64 best1), pl 8 (.int .i64 who1), pl 9 (.int .i64 pit1), pl 13 (.int .i64 r3.1)] hF hS Fol (by kernel_rfl) (by kernel_rfl) (by kernel_rfl) ?_ (fun a w hF hS => ?_)
            · exact obs_cons (ob_loadA (cs := #[.slice A2 r2.1.length c2, .int .i64 r2.2.1]) (by kernel_rfl) (by kernel_rfl) (fun _ _ hS => (hS.at_ 1 rfl).cellsAt 0 (by rfl))) <| obs_cons (ob_call Try.func28 (by kernel_rfl) rfl (fun _ _ hS => ih_gameroomref_MancalaValue hr3 hS (fun _ hS => (hS.at_ 2 rfl).rd) ((hS.at_ 2 rfl).cap1) rfl)) <| obs_nil
            refine reg [⟨false, [(decide (who1 < 0), false)], vS (Instr.loadAt 3 (.pointer (some ⟨g1, 1, none⟩))), .int .i64 b2⟩, ⟨false, [((decide (who1 < 0)) || ((b2 == 0) && (decide (best1 < r3.1))), false)], vS (Instr.loadAt 3 (.pointer (some ⟨g1, 1, none⟩))), .int .i64 b2⟩] [none, none, none, none, some (.int .i64 b2), none, none, none, none, none, none, none, none, none, some (.int .i64 b2), none, none, none, none, none, none, none] [1, 4, 7, 8, 9, 13, 83] [pl 1 (.pointer (some ⟨g1, 0, none⟩)), pl 4 (.int .i64 (w64 (Int.tdiv (b1.length : Int) 2))), pl 7 (.int .i64 best1), pl 8 (.int .i64 who1), pl 9 (.int .i64 pit1), pl 13 (.int .i64 r3.1), pl 83 (.bool (((decide (who1 < 0)) || ((b2 == 0) && (decide (best1 < r3.1)))) || ((b2 == 1) && (decide (r3.1 < best1)))))] hF hS Fol (by kernel_rfl) (by kernel_rfl) (by kernel_rfl) ?_ (fun a w hF hS => ?_)
            · exact obs_cons (ob_load Agg3 (fun _ _ hS => (hS.at_ 0 rfl).cell rfl)) <| obs_cons (ob_load Agg3 (fun _ _ hS => (hS.at_ 0 rfl).cell rfl)) <| obs_nil
            refine cond_ev (t := 83) (b := ((decide (who1 < 0)) || ((b2 == 0) && (decide (best1 < r3.1)))) || ((b2 == 1) && (decide (r3.1 < best1)))) hF (by kernel_rfl) (fun hb => ?_) (fun hb => ?_)
            · replace hm := if_t hm hb
              refine reg [] [] [1, 4, 7, 9] [pl 1 (.pointer (some ⟨g1, 0, none⟩)), pl 4 (.int .i64 (w64 (Int.tdiv (b1.length : Int) 2))), pl 7 (.int .i64 r3.1), pl 9 (.int .i64 pit1)] hF hS Fol (by kernel_rfl) (by kernel_rfl) (by kernel_rfl) ?_ (fun a w hF hS => ?_)
              · exact obs_nil
              refine reg1 [] [] [1, 4, 7, 8, 9] [pl 1 (.pointer (some ⟨g1, 0, none⟩)), pl 4 (.int .i64 (w64 (Int.tdiv (b1.length : Int) 2))), pl 7 (.int .i64 r3.1), pl 8 (.int .i64 pit1), pl 9 (.int .i64 pit1)] hF hS Fol (by kernel_rfl) (by kernel_rfl) (by kernel_rfl) ?_ (fun a w hF hS => ?_)
              · exact obs_nil
              refine block_n ?_
              refine then_n ?_
              have hS := hS.pickN 3 [0] (by decide)
              exact ⟨r3.1, pit1, hF.weak [1, 4, 7, 8, 9] (by kernel_rfl), hS, hm⟩
            · replace hm := if_f hm hb
              refine wp_skip ?_
              refine block_n ?_
              refine then_n ?_
              have hS := hS.pickN 3 [0] (by decide)
              exact ⟨best1, who1, hF.weak [1, 4, 7, 8, 9] (by kernel_rfl), hS, hm⟩
          · refine reg [] [] [1, 4, 7, 8, 9, 10, 56] [pl 1 (.pointer (some ⟨g1, 0, none⟩)), pl 4 (.int .i64 (w64 (Int.tdiv (b1.length : Int) 2))), pl 7 (.int .i64 best1), pl 8 (.int .i64 who1), pl 9 (.int .i64 pit1), pl 10 (.pointer (some ⟨g2, 0, none⟩)), pl 56 (.bool (r2.2.2.2 != 0))] hF hS Fol (by kernel_rfl) (by kernel_rfl) (by kernel_rfl) ?_ (fun a w hF hS => ?_)
            · exact obs_nil
            refine cond_ev (t := 56) (b := (r2.2.2.2 != 0)) hF (by kernel_rfl) (fun hb => ?_) (fun hb => ?_)
            · replace hm := if_t hm hb
              refine wp_exit ?_
              refine then_e (block_e (then_n ?_))
              have hS := hS.pickN 3 [2] (by decide)
              exact ⟨best1, who1, hF.weak [1, 4, 7, 8, 9] (by kernel_rfl), hS, hm⟩
            · replace hm := if_f hm hb
              refine wp_skip ?_
              refine then_n ?_
              have hS := hS.pickN 3 [2, 0, 1] (by decide)
              exact ⟨hF.weak [1, 4, 7, 8, 9, 10] (by kernel_rfl), hS, hm⟩
      · refine reg [] [] [1, 4, 7, 8, 9, 45] [pl 1 (.pointer (some ⟨g1, 0, none⟩)), pl 4 (.int .i64 (w64 (Int.tdiv (b1.length : Int) 2))), pl 7 (.int .i64 best1), pl 8 (.int .i64 who1), pl 9 (.int .i64 pit1), pl 45 (.bool (decide (pit1 < (w64 ((w64 (Int.tdiv (b1.length : Int) 2)) - 1)))))] hF hS Fol (by kernel_rfl) (by kernel_rfl) (by kernel_rfl) ?_ (fun a w hF hS => ?_)
        · exact obs_nil
        refine cond_ev (t := 45) (b := decide (pit1 < (w64 ((w64 (Int.tdiv (b1.length : Int) 2)) - 1)))) hF (by kernel_rfl) (fun hb => ?_) (fun hb => ?_)
        · replace hm := if_t hm hb
          refine wp_skip ?_
          refine then_n ?_
          exact ⟨hF.weak [1, 4, 7, 8, 9] (by kernel_rfl), hS, hm⟩
        · replace hm := if_f hm hb
          refine wp_exit ?_
          refine then_e (then_e (block_e (then_n ?_)))
          have hS := hS.pickN 1 [] (by decide)
          rw [← hφ2] at hm
          replace hm := done_b hm
          unfold gameroomref_MancalaValue_K2 at hm
          try dsimp only at hm
          have hm : (gameroomref_MancalaValue_J5 best1 who1).bind some = some r := hm
          exact ⟨best1, who1, hF.weak [7, 8] (by kernel_rfl), hS, hm⟩
  · obtain ⟨r1, hr1, hm⟩ := call_b hm
    refine reg [⟨false, [], vS (Instr.loadAt 44 (.pointer (some ⟨g1, 0, none⟩))), .agg #[.slice A1 b1.length c1, .int .i64 b2]⟩, ⟨false, [], callFunc 71 #[.agg #[.slice A1 b1.length c1, .int .i64 b2]], .bool r1⟩] [some (.agg #[.slice A1 b1.length c1, .int .i64 b2]), some (.bool r1)] [1, 4, 20] [pl 1 (.pointer (some ⟨g1, 0, none⟩)), pl 4 (.int .i64 (w64 (Int.tdiv (b1.length : Int) 2))), pl 20 (.bool r1)] hF hS Fol (by kernel_rfl) (by kernel_rfl) (by kernel_rfl) ?_ (fun a w hF hS => ?_)
    · exact obs_cons (ob_loadA (cs := #[.slice A1 b1.length c1, .int .i64 b2]) (by kernel_rfl) (by kernel_rfl) (fun _ _ hS => (hS.at_ 0 rfl).cellsAt 0 (by rfl))) <| obs_cons (ob_call Try.func71 (by kernel_rfl) rfl (fun _ _ hS => gameroomref_MancalaOver_w hr1 hS (fun _ hS => (hr_b1 _ (hS.dropN 1))) _hc_b1 rfl)) <| obs_nil
    refine cond_ev (t := 20) (b := r1) hF (by kernel_rfl) (fun hb => ?_) (fun hb => ?_)
    · replace hm := if_t hm hb
      refine reg [] [] [1, 4, 5] [pl 1 (.pointer (some ⟨g1, 0, none⟩)), pl 4 (.int .i64 (w64 (Int.tdiv (b1.length : Int) 2))), pl 5 (.int .i64 0)] hF hS Fol (by kernel_rfl) (by kernel_rfl) (by kernel_rfl) ?_ (fun a w hF hS => ?_)
      · exact obs_nil
      refine seq_cut (fun a w => ∃ (n3 : Int), Fr 88 [pl 5 (.int .i64 n3)] a ∧ Sep w0 B w (fs) ∧ (gameroomref_MancalaValue_J2 n3).bind some = some r) ?_ ?_
      · rintro a w ⟨n3, hF, hS, hm⟩
        unfold gameroomref_MancalaValue_J2 at hm
        refine reg [] [] [2, 3] [pl 2 (.int .i64 n3), pl 3 (.int .i64 (-1))] hF hS Fol (by kernel_rfl) (by kernel_rfl) (by kernel_rfl) ?_ (fun a w hF hS => ?_)
        · exact obs_nil
        refine wp_ret ?_
        refine then_r ?_
        have hm : some (n3, (-1)) = some r := hm
        obtain rfl := Option.some.inj hm
        exact retV (rs := [.tmp 2, .tmp 3]) (vs := [.int .i64 n3, .int .i64 (-1)]) hF rfl (rv_t (by kernel_rfl) <| rv_t (by kernel_rfl) <| rv_nil) rfl ⟨rfl, hS⟩
      · refine reg [] [] [1, 4, 5, 6] [pl 1 (.pointer (some ⟨g1, 0, none⟩)), pl 4 (.int .i64 (w64 (Int.tdiv (b1.length : Int) 2))), pl 5 (.int .i64 0), pl 6 (.int .i64 0)] hF hS Fol (by kernel_rfl) (by kernel_rfl) (by kernel_rfl) ?_ (fun a w hF hS => ?_)
        · exact obs_nil
        refine wp_block ?_
        refine wp_loop_model (S := (Int × Int)) (R := Int) (gameroomref_MancalaValue_L1 b1) (fun x => (gameroomref_MancalaValue_K1 x).bind some) r (fun (x : (Int × Int)) a w => Fr 88 [pl 1 (.pointer (some ⟨g1, 0, none⟩)), pl 4 (.int .i64 (w64 (Int.tdiv (b1.length : Int) 2))), pl 5 (.int .i64 x.1), pl 6 (.int .i64 x.2)] a ∧ Sep w0 B w (blk g1 44 #[.slice A1 b1.length c1, .int .i64 b2] :: fs)) (assoc_b hm) ⟨hF.weak [1, 4, 5, 6] (by kernel_rfl), hS⟩ ?_
        clear hF hS hm
        rintro nn1 ⟨n2, i1⟩ a w ⟨hF, hS⟩ hm
        generalize hφ1 : stK (gameroomref_MancalaValue_L1 b1) nn1 (fun x => (gameroomref_MancalaValue_K1 x).bind some) = φ1 at hm
        unfold gameroomref_MancalaValue_L1 at hm
        dsimp only at hF hS hm
        refine seq_cut (fun a w => Fr 88 [pl 1 (.pointer (some ⟨g1, 0, none⟩)), pl 4 (.int .i64 (w64 (Int.tdiv (b1.length : Int) 2))), pl 5 (.int .i64 n2), pl 6 (.int .i64 i1)] a ∧ Sep w0 B w (blk g1 44 #[.slice A1 b1.length c1, .int .i64 b2] :: fs) ∧ ((gameroomref_MancalaValue_J3 b1 n2 i1)).bind φ1 = some r) ?_ ?_
        · rintro a w ⟨hF, hS, hm⟩
          unfold gameroomref_MancalaValue_J3 at hm
          refine seq_cut (fun a w => Fr 88 [pl 1 (.pointer (some ⟨g1, 0, none⟩)), pl 4 (.int .i64 (w64 (Int.tdiv (b1.length : Int) 2))), pl 5 (.int .i64 (w64 (n2 + (w64 ((geti b1 i1) - (geti b1 (w64 ((w64 (Int.tdiv (b1.length : Int) 2)) + i1)))))))), pl 6 (.int .i64 i1)] a ∧ Sep w0 B w (blk g1 44 #[.slice A1 b1.length c1, .int .i64 b2] :: fs) ∧ ((gameroomref_MancalaValue_J4 b1 n2 i1)).bind φ1 = some r) ?_ ?_
          · rintro a w ⟨hF, hS, hm⟩
            unfold gameroomref_MancalaValue_J4 at hm
            refine reg1 [] [] [1, 4, 5, 6] [pl 1 (.pointer (some ⟨g1, 0, none⟩)), pl 4 (.int .i64 (w64 (Int.tdiv (b1.length : Int) 2))), pl 5 (.int .i64 (w64 (n2 + (w64 ((geti b1 i1) - (geti b1 (w64 ((w64 (Int.tdiv (b1.length : Int) 2)) + i1)))))))), pl 6 (.int .i64 (w64 (i1 + 1)))] hF hS Fol (by kernel_rfl) (by kernel_rfl) (by kernel_rfl) ?_ (fun a w hF hS => ?_)
            · exact obs_nil
            refine then_n ?_
            rw [← hφ1] at hm
            exact ⟨((w64 (n2 + (w64 ((geti b1 i1) - (geti b1 (w64 ((w64 (Int.tdiv (b1.length : Int) 2)) + i1))))))), (w64 (i1 + 1))), ⟨hF.weak [1, 4, 5, 6] (by kernel_rfl), hS⟩, hm⟩
          · refine wp_block ?_
            obtain ⟨hp1, hm⟩ := asrt_b hm
            obtain ⟨hp2, hm⟩ := asrt_b hm
            refine reg1 [⟨false, [], vS (Instr.loadAt 22 (.pointer (some ⟨g1, 0, none⟩))), .slice A1 b1.length c1⟩, ⟨true, [], vS (Instr.indexAt 22 (.slice A1 b1.length c1) (.int .i64 i1)), .pointer (some (sAddr A1 i1))⟩, ⟨false, [], vS (Instr.loadAt 3 (.pointer (some (sAddr A1 i1)))), .int .i64 (geti b1 i1)⟩, ⟨false, [], vS (Instr.loadAt 22 (.pointer (some ⟨g1, 0, none⟩))), .slice A1 b1.length c1⟩, ⟨true, [], vS (Instr.indexAt 22 (.slice A1 b1.length c1) (.int .i64 (w64 ((w64 (Int.tdiv (b1.length : Int) 2)) + i1)))), .pointer (some (sAddr A1 (w64 ((w64 (Int.tdiv (b1.length : Int) 2)) + i1))))⟩, ⟨false, [], vS (Instr.loadAt 3 (.pointer (some (sAddr A1 (w64 ((w64 (Int.tdiv (b1.length : Int) 2)) + i1)))))), .int .i64 (geti b1 (w64 ((w64 (Int.tdiv (b1.length : Int) 2)) + i1)))⟩] [none, none, some (.slice A1 b1.length c1), none, some (.pointer (some (sAddr A1 i1))), some (.int .i64 (geti b1 i1)), none, some (.slice A1 b1.length c1), none, none, none, some (.pointer (some (sAddr A1 (w64 ((w64 (Int.tdiv (b1.length : Int) 2)) + i1))))), some (.int .i64 (geti b1 (w64 ((w64 (Int.tdiv (b1.length : Int) 2)) + i1)))), none, none, none] [1, 4, 5, 6] [pl 1 (.pointer (some ⟨g1, 0, none⟩)), pl 4 (.int .i64 (w64 (Int.tdiv (b1.length : Int) 2))), pl 5 (.int .i64 (w64 (n2 + (w64 ((geti b1 i1) - (geti b1 (w64 ((w64 (Int.tdiv (b1.length : Int) 2)) + i1)))))))), pl 6 (.int .i64 i1)] hF hS Fol (by kernel_rfl) (by kernel_rfl) (by kernel_rfl) ?_ (fun a w hF hS => ?_)
            · exact obs_cons (ob_load Agg22 (fun _ _ hS => (hS.at_ 0 rfl).cell rfl)) <| obs_cons (ob_ix1 (f := (Value.int .i64)) (m := b1) Und22 hi3 hs3 (hr_b1 _ (hS.dropN 1)) rfl (fun _ => hp1)) <| obs_cons (ob_get1 (n := b1.length) (m := b1) (Value.int .i64) (0 : Int) Agg3 (fun _ hS => ⟨_, (hr_b1 _ (hS.dropN 1))⟩) (fun _ hS => rfl) (fun _ => hp1)) <| obs_cons (ob_load Agg22 (fun _ _ hS => (hS.at_ 0 rfl).cell rfl)) <| obs_cons (ob_ix1 (f := (Value.int .i64)) (m := b1) Und22 hi3 hs3 (hr_b1 _ (hS.dropN 1)) rfl (fun _ => hp2)) <| obs_cons (ob_get1 (n := b1.length) (m := b1) (Value.int .i64) (0 : Int) Agg3 (fun _ hS => ⟨_, (hr_b1 _ (hS.dropN 1))⟩) (fun _ hS => rfl) (fun _ => hp2)) <| obs_nil
            refine block_n ?_
            refine then_n ?_
            exact ⟨hF.weak [1, 4, 5, 6] (by kernel_rfl), hS, hm⟩
        · refine reg [] [] [1, 4, 5, 6, 23] [pl 1 (.pointer (some ⟨g1, 0, none⟩)), pl 4 (.int .i64 (w64 (Int.tdiv (b1.length : Int) 2))), pl 5 (.int .i64 n2), pl 6 (.int .i64 i1), pl 23 (.bool (decide (i1 < (w64 (Int.tdiv (b1.length : Int) 2)))))] hF hS Fol (by kernel_rfl) (by kernel_rfl) (by kernel_rfl) ?_ (fun a w hF hS => ?_)
          · exact obs_nil
          refine cond_ev (t := 23) (b := decide (i1 < (w64 (Int.tdiv (b1.length : Int) 2)))) hF (by kernel_rfl) (fun hb => ?_) (fun hb => ?_)
          · replace hm := if_t hm hb
            refine wp_skip ?_
            refine then_n ?_
            exact ⟨hF.weak [1, 4, 5, 6] (by kernel_rfl), hS, hm⟩
          · replace hm := if_f hm hb
            refine wp_exit ?_
            refine then_e (then_e (block_e (then_n ?_)))
            have hS := hS.pickN 1 [] (by decide)
            rw [← hφ1] at hm
            replace hm := done_b hm
            unfold gameroomref_MancalaValue_K1 at hm
            try dsimp only at hm
            have hm : (gameroomref_MancalaValue_J2 n2).bind some = some r := hm
            exact ⟨n2, hF.weak [5] (by kernel_rfl), hS, hm⟩
    · replace hm := if_f hm hb
      refine wp_skip ?_
      refine then_n ?_
      exact ⟨hF.weak [1, 4] (by kernel_rfl), hS, hm⟩

theorem gameroomref_MancalaValue_w {A1 : Option Addr} {c1 : Nat} {n1 : Nat} {b1 : List Int} {b2 : Int} {r : (Int × Int)} {w0 w : World} {B : Nat} {fs : List HP} (hm : gameroomref_MancalaValue_m b1 b2 = some r) (hS : Sep w0 B w (fs)) (hr_b1 : RdF w0 B fs A1 (vI b1)) (_hc_b1 : b1.length ≤ c1) (_hn_b1 : n1 = b1.length) :
    Calls Try.prog 28 #[.agg #[.slice A1 n1 c1, .int .i64 b2]] w fun e w' => e = .returned (.tuple #[.int .i64 r.1, .int .i64 r.2]) ∧ Sep w0 B w' (fs) := by
  have key : ∀ (n : Nat) {A1 : Option Addr} {c1 : Nat} {n1 : Nat} {b1 : List Int} {b2 : Int} {r : (Int × Int)} {w0 w : World} {B : Nat} {fs : List HP} (_ : gameroomref_MancalaValue_mF n b1 b2 = some r) (_ : Sep w0 B w (fs)) (hr_b1 : RdF w0 B fs A1 (vI b1)) (_hc_b1 : b1.length ≤ c1) (_hn_b1 : n1 = b1.length), Calls Try.prog 28 #[.agg #[.slice A1 n1 c1, .int .i64 b2]] w fun e w' => e = .returned (.tuple #[.int .i64 r.1, .int .i64 r.2]) ∧ Sep w0 B w' (fs) := by
    intro n
    induction n with
    | zero => intros; rename_i hm0 _ _ _ _; cases hm0
    | succ n ih => intros; rename_i hm0 hS0 h0 h1 h2; exact gameroomref_MancalaValue_wB (rec_gameroomref_MancalaValue := gameroomref_MancalaValue_mF n) (fun hm hS h0 h1 h2 => ih hm hS h0 h1 h2) hm0 hS0 h0 h1 h2
  obtain ⟨n, hn⟩ := recM_some hm
  exact key n hn hS hr_b1 _hc_b1 _hn_b1

theorem gameroomref_MancalaValue_J8_le_gameroomref_MancalaValue {rec_gameroomref_MancalaValue1 rec_gameroomref_MancalaValue2 : List Int → Int → Option (Int × Int)} (h_rec_gameroomref_MancalaValue : ∀ a0 a1, Le (rec_gameroomref_MancalaValue1 a0 a1) (rec_gameroomref_MancalaValue2 a0 a1)) (b2 : Int) (best1 : Int) (who1 : Int) (pit1 : Int) (r2 : (List Int × Int × Bool × Int)) : Le (gameroomref_MancalaValue_J8 rec_gameroomref_MancalaValue1 b2 best1 who1 pit1 r2) (gameroomref_MancalaValue_J8 rec_gameroomref_MancalaValue2 b2 best1 who1 pit1 r2) := by
  unfold gameroomref_MancalaValue_J8
  repeat' (first | with_reducible exact Le.refl _ | with_reducible exact h_rec_gameroomref_MancalaValue _ _ | refine Le.asrt ?_ | refine Le.ite ?_ ?_ | refine Le.bind ?_ (fun _ => ?_) | refine Le.loop2 (fun _ => ?_) | refine Le.elim2 (fun _ => ?_) (fun _ => ?_))

theorem gameroomref_MancalaValue_J6_le_gameroomref_MancalaValue {rec_gameroomref_MancalaValue1 rec_gameroomref_MancalaValue2 : List Int → Int → Option (Int × Int)} (h_rec_gameroomref_MancalaValue : ∀ a0 a1, Le (rec_gameroomref_MancalaValue1 a0 a1) (rec_gameroomref_MancalaValue2 a0 a1)) (b1 : List Int) (b2 : Int) (best1 : Int) (who1 : Int) (pit1 : Int) : Le (gameroomref_MancalaValue_J6 rec_gameroomref_MancalaValue1 b1 b2 best1 who1 pit1) (gameroomref_MancalaValue_J6 rec_gameroomref_MancalaValue2 b1 b2 best1 who1 pit1) := by
  unfold gameroomref_MancalaValue_J6
  repeat' (first | with_reducible exact Le.refl _ | with_reducible exact h_rec_gameroomref_MancalaValue _ _ | with_reducible exact gameroomref_MancalaValue_J8_le_gameroomref_MancalaValue h_rec_gameroomref_MancalaValue _ _ _ _ _ | refine Le.asrt ?_ | refine Le.ite ?_ ?_ | refine Le.bind ?_ (fun _ => ?_) | refine Le.loop2 (fun _ => ?_) | refine Le.elim2 (fun _ => ?_) (fun _ => ?_))

theorem gameroomref_MancalaValue_L2_le_gameroomref_MancalaValue {rec_gameroomref_MancalaValue1 rec_gameroomref_MancalaValue2 : List Int → Int → Option (Int × Int)} (h_rec_gameroomref_MancalaValue : ∀ a0 a1, Le (rec_gameroomref_MancalaValue1 a0 a1) (rec_gameroomref_MancalaValue2 a0 a1)) (b1 : List Int) (b2 : Int) (x : (Int × Int × Int)) : Le (gameroomref_MancalaValue_L2 rec_gameroomref_MancalaValue1 b1 b2 x) (gameroomref_MancalaValue_L2 rec_gameroomref_MancalaValue2 b1 b2 x) := by
  rcases x with ⟨best1, who1, pit1⟩
  all_goals
    unfold gameroomref_MancalaValue_L2
    try dsimp only
    repeat' (first | with_reducible exact Le.refl _ | with_reducible exact h_rec_gameroomref_MancalaValue _ _ | with_reducible exact gameroomref_MancalaValue_J6_le_gameroomref_MancalaValue h_rec_gameroomref_MancalaValue _ _ _ _ _ | refine Le.asrt ?_ | refine Le.ite ?_ ?_ | refine Le.bind ?_ (fun _ => ?_) | refine Le.loop2 (fun _ => ?_) | refine Le.elim2 (fun _ => ?_) (fun _ => ?_))

theorem gameroomref_MancalaValue_J1_le_gameroomref_MancalaValue {rec_gameroomref_MancalaValue1 rec_gameroomref_MancalaValue2 : List Int → Int → Option (Int × Int)} (h_rec_gameroomref_MancalaValue : ∀ a0 a1, Le (rec_gameroomref_MancalaValue1 a0 a1) (rec_gameroomref_MancalaValue2 a0 a1)) (b1 : List Int) (b2 : Int) : Le (gameroomref_MancalaValue_J1 rec_gameroomref_MancalaValue1 b1 b2) (gameroomref_MancalaValue_J1 rec_gameroomref_MancalaValue2 b1 b2) := by
  unfold gameroomref_MancalaValue_J1
  repeat' (first | with_reducible exact Le.refl _ | with_reducible exact h_rec_gameroomref_MancalaValue _ _ | with_reducible exact gameroomref_MancalaValue_L2_le_gameroomref_MancalaValue h_rec_gameroomref_MancalaValue _ _ _ | refine Le.asrt ?_ | refine Le.ite ?_ ?_ | refine Le.bind ?_ (fun _ => ?_) | refine Le.loop2 (fun _ => ?_) | refine Le.elim2 (fun _ => ?_) (fun _ => ?_))

theorem gameroomref_MancalaValue_B_le {rec_gameroomref_MancalaValue1 rec_gameroomref_MancalaValue2 : List Int → Int → Option (Int × Int)} (h_rec_gameroomref_MancalaValue : ∀ a0 a1, Le (rec_gameroomref_MancalaValue1 a0 a1) (rec_gameroomref_MancalaValue2 a0 a1)) (b1 : List Int) (b2 : Int) : Le (gameroomref_MancalaValue_B rec_gameroomref_MancalaValue1 b1 b2) (gameroomref_MancalaValue_B rec_gameroomref_MancalaValue2 b1 b2) := by
  unfold gameroomref_MancalaValue_B
  repeat' (first | with_reducible exact Le.refl _ | with_reducible exact h_rec_gameroomref_MancalaValue _ _ | with_reducible exact gameroomref_MancalaValue_J1_le_gameroomref_MancalaValue h_rec_gameroomref_MancalaValue _ _ | refine Le.asrt ?_ | refine Le.ite ?_ ?_ | refine Le.bind ?_ (fun _ => ?_) | refine Le.loop2 (fun _ => ?_) | refine Le.elim2 (fun _ => ?_) (fun _ => ?_))

theorem gameroomref_MancalaValue_mF_le : ∀ (n : Nat) (b1 : List Int) (b2 : Int), Le (gameroomref_MancalaValue_mF n b1 b2) (gameroomref_MancalaValue_mF (n + 1) b1 b2)
  | 0, _, _ => fun _ h => by cases h
  | n + 1, _, _ => gameroomref_MancalaValue_B_le (fun a0 a1 => gameroomref_MancalaValue_mF_le n a0 a1) _ _

theorem gameroomref_MancalaValue_m_of (N : Nat) (b1 : List Int) (b2 : Int) {r : (Int × Int)} (h : gameroomref_MancalaValue_mF N b1 b2 = some r) : gameroomref_MancalaValue_m b1 b2 = some r :=
  recM_mono (fun n => gameroomref_MancalaValue_mF_le n _ _) h

noncomputable def gameroomlaw_MancalaValues_J2 (b1 : List Int) (b2 : Int) (r2 : (Int × Int × Int)) : Option Bool :=
  (gameroomref_MancalaValue_m b1 b2).bind fun r5 => some (((r2.2.2 == 0) && (r2.1 == r5.1)) && (r2.2.1 == r5.2))

noncomputable def gameroomlaw_MancalaValues_J1 (b1 : List Int) (b2 : Int) (r2 : (Int × Int × Int)) (no1 : Int) : Option Bool :=
  if (no1 != 0) then (some (((r2.2.2 == no1) && (r2.1 == 0)) && (r2.2.1 == 0))) else ((gameroomlaw_MancalaValues_J2 b1 b2 r2))

noncomputable def gameroomlaw_MancalaValues_m (b1 : List Int) (b2 : Int) : Option Bool :=
  (gameroomlaw_seeds_m b1 b2).bind fun r1 => (mancala_Value_m r1.1 r1.2).bind fun r2 => (gameroomref_MancalaMay_m b1 b2).bind fun r3 => if (!r3) then ((gameroomlaw_MancalaValues_J1 b1 b2 r2) 12) else ((gameroomref_SeedsInPits_m b1 b2).bind fun r4 => if (decide ((4 : Int) < r4)) then ((gameroomlaw_MancalaValues_J1 b1 b2 r2) 2) else ((gameroomlaw_MancalaValues_J1 b1 b2 r2) 0))

set_option maxRecDepth 100000 in
set_option maxHeartbeats 4000000 in
theorem gameroomlaw_MancalaValues_w {A1 : Option Addr} {c1 : Nat} {n1 : Nat} {b1 : List Int} {b2 : Int} {r : Bool} {w0 w : World} {B : Nat} {fs : List HP} (hm : gameroomlaw_MancalaValues_m b1 b2 = some r) (hS : Sep w0 B w (fs)) (hr_b1 : RdF w0 B fs A1 (vI b1)) (_hc_b1 : b1.length ≤ c1) (_hn_b1 : n1 = b1.length) :
    Calls Try.prog 4 #[.agg #[.slice A1 n1 c1, .int .i64 b2]] w fun e w' => e = .returned (.bool r) ∧ Sep w0 B w' (fs) := by
  obtain ⟨i3, hi3, hz3, hs3, hb3⟩ := info_parts Info3
  obtain rfl := _hn_b1
  unfold gameroomlaw_MancalaValues_m at hm
  replace hm := start_b hm
  refine enter (l := [.agg #[.slice A1 b1.length c1, .int .i64 b2]]) (n := 52) Try.func4 rfl rfl (by simp) (fun a hF => ?_)
  refine seqR ?_
  refine at_do (d := 1) (s := vS (Instr.box 44 (.agg #[.slice A1 b1.length c1, .int .i64 b2]))) (v := .pointer (some ⟨w.heap.size, 0, none⟩)) (w' := w.alloc (.cells #[.slice A1 b1.length c1, .int .i64 b2] 44)) hF (by kernel_rfl) (by kernel_rfl) (by kernel_rfl) (fun a hF => ?_)
  have hS : Sep w0 B (w.alloc (.cells #[.slice A1 b1.length c1, .int .i64 b2] 44)) (blk w.heap.size 44 #[.slice A1 b1.length c1, .int .i64 b2] :: (fs)) := hS.box 44 #[.slice A1 b1.length c1, .int .i64 b2]
  generalize w.heap.size = g1 at hF hS
  generalize w.alloc (.cells #[.slice A1 b1.length c1, .int .i64 b2] 44) = w at hS ⊢
  refine at_run 1 [] [] [1] [pl 1 (.pointer (some ⟨g1, 0, none⟩))] hF hS (by kernel_rfl) (by kernel_rfl) ?_ (fun a w hF hS => ?_)
  · exact obs_nil
  refine at_end [1] [pl 1 (.pointer (some ⟨g1, 0, none⟩))] hF rfl (by kernel_rfl) (fun hF => ?_)
  refine then_n ?_
  refine seqR ?_
  obtain ⟨r1, hr1, hm⟩ := call_b hm
  obtain ⟨r2, hr2, hm⟩ := call_b hm
  refine at_run 1 [⟨false, [], vS (Instr.loadAt 44 (.pointer (some ⟨g1, 0, none⟩))), .agg #[.slice A1 b1.length c1, .int .i64 b2]⟩] [some (.agg #[.slice A1 b1.length c1, .int .i64 b2])] [1, 10] [pl 1 (.pointer (some ⟨g1, 0, none⟩)), pl 10 (.agg #[.slice A1 b1.length c1, .int .i64 b2])] hF hS (by kernel_rfl) (by kernel_rfl) ?_ (fun a w hF hS => ?_)
  · exact obs_cons (ob_loadA (cs := #[.slice A1 b1.length c1, .int .i64 b2]) (by kernel_rfl) (by kernel_rfl) (fun _ _ hS => (hS.at_ 0 rfl).cellsAt 0 (by rfl))) <| obs_nil
  refine at_call (f := 25) (args := #[.agg #[.slice A1 b1.length c1, .int .i64 b2]]) (d := 11) hF (by kernel_rfl) (by kernel_rfl) Try.func25 (by kernel_rfl) rfl (gameroomlaw_seeds_w hr1 hS (fun _ hS => (hr_b1 _ (hS.dropN 1))) _hc_b1 rfl) (fun v a w hR hF => ?_)
  clear hS
  obtain ⟨A2, c2, rfl, hS⟩ := hR
  have hS : Sep w0 B w (own 3 (.slice A2 r1.1.length c2) (vI r1.1) :: blk g1 44 #[.slice A1 b1.length c1, .int .i64 b2] :: fs) := hS
  refine at_run 8 [⟨false, [], callFunc 24 #[.agg #[.slice A2 r1.1.length c2, .int .i64 r1.2]], .tuple #[.int .i64 r2.1, .int .i64 r2.2.1, .int .i64 r2.2.2]⟩] [some (.tuple #[.int .i64 r2.1, .int .i64 r2.2.1, .int .i64 r2.2.2]), none, none, none, none, none, none, none] [1, 3, 4, 5] [pl 1 (.pointer (some ⟨g1, 0, none⟩)), pl 3 (.int .i64 r2.1), pl 4 (.int .i64 r2.2.1), pl 5 (.int .i64 r2.2.2)] hF hS (by kernel_rfl) (by kernel_rfl) ?_ (fun a w hF hS => ?_)
  · exact obs_cons (ob_call Try.func24 (by kernel_rfl) rfl (fun _ _ hS => mancala_Value_w hr2 hS (fun _ hS => (hS.at_ 0 rfl).rd) ((hS.at_ 0 rfl).cap1) rfl)) <| obs_nil
  refine at_end [1, 3, 4, 5] [pl 1 (.pointer (some ⟨g1, 0, none⟩)), pl 3 (.int .i64 r2.1), pl 4 (.int .i64 r2.2.1), pl 5 (.int .i64 r2.2.2)] hF rfl (by kernel_rfl) (fun hF => ?_)
  refine then_n ?_
  refine reg [] [] [1, 3, 4, 5, 6] [pl 1 (.pointer (some ⟨g1, 0, none⟩)), pl 3 (.int .i64 r2.1), pl 4 (.int .i64 r2.2.1), pl 5 (.int .i64 r2.2.2), pl 6 (.int .i64 0)] hF hS Fol (by kernel_rfl) (by kernel_rfl) (by kernel_rfl) ?_ (fun a w hF hS => ?_)
  · exact obs_nil
  refine seq_cut (fun a w => ∃ (no1 : Int), Fr 52 [pl 1 (.pointer (some ⟨g1, 0, none⟩)), pl 3 (.int .i64 r2.1), pl 4 (.int .i64 r2.2.1), pl 5 (.int .i64 r2.2.2), pl 6 (.int .i64 no1)] a ∧ Sep w0 B w (blk g1 44 #[.slice A1 b1.length c1, .int .i64 b2] :: fs) ∧ ((gameroomlaw_MancalaValues_J1 b1 b2 r2) no1).bind some = some r) ?_ ?_
  · rintro a w ⟨no1, hF, hS, hm⟩
    unfold gameroomlaw_MancalaValues_J1 at hm
    refine seq_cut (fun a w => Fr 52 [pl 1 (.pointer (some ⟨g1, 0, none⟩)), pl 3 (.int .i64 r2.1), pl 4 (.int .i64 r2.2.1), pl 5 (.int .i64 r2.2.2)] a ∧ Sep w0 B w (blk g1 44 #[.slice A1 b1.length c1, .int .i64 b2] :: fs) ∧ ((gameroomlaw_MancalaValues_J2 b1 b2 r2)).bind some = some r) ?_ ?_
    · rintro a w ⟨hF, hS, hm⟩
      unfold gameroomlaw_MancalaValues_J2 at hm
      obtain ⟨r5, hr5, hm⟩ := call_b hm
      refine reg [⟨false, [], vS (Instr.loadAt 44 (.pointer (some ⟨g1, 0, none⟩))), .agg #[.slice A1 b1.length c1, .int .i64 b2]⟩, ⟨false, [], callFunc 28 #[.agg #[.slice A1 b1.length c1, .int .i64 b2]], .tuple #[.int .i64 r5.1, .int .i64 r5.2]⟩] [some (.agg #[.slice A1 b1.length c1, .int .i64 b2]), some (.tuple #[.int .i64 r5.1, .int .i64 r5.2]), none, none, none, none, none] [3, 4, 5, 7, 8] [pl 3 (.int .i64 r2.1), pl 4 (.int .i64 r2.2.1), pl 5 (.int .i64 r2.2.2), pl 7 (.int .i64 r5.1), pl 8 (.int .i64 r5.2)] hF hS Fol (by kernel_rfl) (by kernel_rfl) (by kernel_rfl) ?_ (fun a w hF hS => ?_)
      · exact obs_cons (ob_loadA (cs := #[.slice A1 b1.length c1, .int .i64 b2]) (by kernel_rfl) (by kernel_rfl) (fun _ _ hS => (hS.at_ 0 rfl).cellsAt 0 (by rfl))) <| obs_cons (ob_call Try.func28 (by kernel_rfl) rfl (fun _ _ hS => gameroomref_MancalaValue_w hr5 hS (fun _ hS => (hr_b1 _ (hS.dropN 1))) _hc_b1 rfl)) <| obs_nil
      refine reg [] [] [2] [pl 2 (.bool (((r2.2.2 == 0) && (r2.1 == r5.1)) && (r2.2.1 == r5.2)))] hF hS Fol (by kernel_rfl) (by kernel_rfl) (by kernel_rfl) ?_ (fun a w hF hS => ?_)
      · exact obs_nil
      refine wp_ret ?_
      have hS := hS.pickN 1 [] (by decide)
      have hm : some (((r2.2.2 == 0) && (r2.1 == r5.1)) && (r2.2.1 == r5.2)) = some r := hm
      obtain rfl := Option.some.inj hm
      exact retV (rs := [.tmp 2]) (vs := [.bool (((r2.2.2 == 0) && (r2.1 == r5.1)) && (r2.2.1 == r5.2))]) hF rfl (rv_t (by kernel_rfl) <| rv_nil) rfl ⟨rfl, hS⟩
    · refine reg [] [] [1, 3, 4, 5, 6, 23] [pl 1 (.pointer (some ⟨g1, 0, none⟩)), pl 3 (.int .i64 r2.1), pl 4 (.int .i64 r2.2.1), pl 5 (.int .i64 r2.2.2), pl 6 (.int .i64 no1), pl 23 (.bool (no1 != 0))] hF hS Fol (by kernel_rfl) (by kernel_rfl) (by kernel_rfl) ?_ (fun a w hF hS => ?_)
      · exact obs_nil
      refine cond_ev (t := 23) (b := (no1 != 0)) hF (by kernel_rfl) (fun hb => ?_) (fun hb => ?_)
      · replace hm := if_t hm hb
        refine reg [] [] [2] [pl 2 (.bool (((r2.2.2 == no1) && (r2.1 == 0)) && (r2.2.1 == 0)))] hF hS Fol (by kernel_rfl) (by kernel_rfl) (by kernel_rfl) ?_ (fun a w hF hS => ?_)
        · exact obs_nil
        refine wp_ret ?_
        refine then_r ?_
        have hS := hS.pickN 1 [] (by decide)
        have hm : some (((r2.2.2 == no1) && (r2.1 == 0)) && (r2.2.1 == 0)) = some r := hm
        obtain rfl := Option.some.inj hm
        exact retV (rs := [.tmp 2]) (vs := [.bool (((r2.2.2 == no1) && (r2.1 == 0)) && (r2.2.1 == 0))]) hF rfl (rv_t (by kernel_rfl) <| rv_nil) rfl ⟨rfl, hS⟩
      · replace hm := if_f hm hb
        refine wp_skip ?_
        refine then_n ?_
        exact ⟨hF.weak [1, 3, 4, 5] (by kernel_rfl), hS, hm⟩
  · obtain ⟨r3, hr3, hm⟩ := call_b hm
    refine reg [⟨false, [], vS (Instr.loadAt 44 (.pointer (some ⟨g1, 0, none⟩))), .agg #[.slice A1 b1.length c1, .int .i64 b2]⟩, ⟨false, [], callFunc 26 #[.agg #[.slice A1 b1.length c1, .int .i64 b2]], .bool r3⟩] [some (.agg #[.slice A1 b1.length c1, .int .i64 b2]), some (.bool r3), none] [1, 3, 4, 5, 6, 18] [pl 1 (.pointer (some ⟨g1, 0, none⟩)), pl 3 (.int .i64 r2.1), pl 4 (.int .i64 r2.2.1), pl 5 (.int .i64 r2.2.2), pl 6 (.int .i64 0), pl 18 (.bool (!r3))] hF hS Fol (by kernel_rfl) (by kernel_rfl) (by kernel_rfl) ?_ (fun a w hF hS => ?_)
    · exact obs_cons (ob_loadA (cs := #[.slice A1 b1.length c1, .int .i64 b2]) (by kernel_rfl) (by kernel_rfl) (fun _ _ hS => (hS.at_ 1 rfl).cellsAt 0 (by rfl))) <| obs_cons (ob_call Try.func26 (by kernel_rfl) rfl (fun _ _ hS => gameroomref_MancalaMay_w hr3 hS (fun _ hS => (hr_b1 _ (hS.dropN 2))) _hc_b1 rfl)) <| obs_nil
    refine cond_ev (t := 18) (b := !r3) hF (by kernel_rfl) (fun hb => ?_) (fun hb => ?_)
    · replace hm := if_t hm hb
      refine reg1 [] [] [1, 3, 4, 5, 6] [pl 1 (.pointer (some ⟨g1, 0, none⟩)), pl 3 (.int .i64 r2.1), pl 4 (.int .i64 r2.2.1), pl 5 (.int .i64 r2.2.2), pl 6 (.int .i64 12)] hF hS Fol (by kernel_rfl) (by kernel_rfl) (by kernel_rfl) ?_ (fun a w hF hS => ?_)
      · exact obs_nil
      refine then_n ?_
      have hS := hS.pickN 2 [1] (by decide)
      exact ⟨12, hF.weak [1, 3, 4, 5, 6] (by kernel_rfl), hS, hm⟩
    · replace hm := if_f hm hb
      obtain ⟨r4, hr4, hm⟩ := call_b hm
      refine reg [⟨false, [], vS (Instr.loadAt 44 (.pointer (some ⟨g1, 0, none⟩))), .agg #[.slice A1 b1.length c1, .int .i64 b2]⟩, ⟨false, [], callFunc 27 #[.agg #[.slice A1 b1.length c1, .int .i64 b2]], .int .i64 r4⟩] [some (.agg #[.slice A1 b1.length c1, .int .i64 b2]), some (.int .i64 r4), none] [1, 3, 4, 5, 6, 21] [pl 1 (.pointer (some ⟨g1, 0, none⟩)), pl 3 (.int .i64 r2.1), pl 4 (.int .i64 r2.2.1), pl 5 (.int .i64 r2.2.2), pl 6 (.int .i64 0), pl 21 (.bool (decide ((4 : Int) < r4)))] hF hS Fol (by kernel_rfl) (by kernel_rfl) (by kernel_rfl) ?_ (fun a w hF hS => ?_)
      · exact obs_cons (ob_loadA (cs := #[.slice A1 b1.length c1, .int .i64 b2]) (by kernel_rfl) (by kernel_rfl) (fun _ _ hS => (hS.at_ 1 rfl).cellsAt 0 (by rfl))) <| obs_cons (ob_call Try.func27 (by kernel_rfl) rfl (fun _ _ hS => gameroomref_SeedsInPits_w hr4 hS (fun _ hS => (hr_b1 _ (hS.dropN 2))) _hc_b1 rfl)) <| obs_nil
      refine cond_ev (t := 21) (b := decide ((4 : Int) < r4)) hF (by kernel_rfl) (fun hb => ?_) (fun hb => ?_)
      · replace hm := if_t hm hb
        refine reg1 [] [] [1, 3, 4, 5, 6] [pl 1 (.pointer (some ⟨g1, 0, none⟩)), pl 3 (.int .i64 r2.1), pl 4 (.int .i64 r2.2.1), pl 5 (.int .i64 r2.2.2), pl 6 (.int .i64 2)] hF hS Fol (by kernel_rfl) (by kernel_rfl) (by kernel_rfl) ?_ (fun a w hF hS => ?_)
        · exact obs_nil
        refine then_n ?_
        have hS := hS.pickN 2 [1] (by decide)
        exact ⟨2, hF.weak [1, 3, 4, 5, 6] (by kernel_rfl), hS, hm⟩
      · replace hm := if_f hm hb
        refine wp_skip ?_
        refine then_n ?_
        have hS := hS.pickN 2 [1] (by decide)
        exact ⟨0, hF.weak [1, 3, 4, 5, 6] (by kernel_rfl), hS, hm⟩

end Go.Proofs.Ytogecbgngnjhgaa
