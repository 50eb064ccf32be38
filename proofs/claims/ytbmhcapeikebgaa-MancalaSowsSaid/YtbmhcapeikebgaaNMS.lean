/-
  Models and walks, printed by our own program (wip/gen).
-/
import Derived.Test.YtbmhcapeikebgaaFB
import Derived.Test.YtbmhcapeikebgaaLibD
import Derived.Test.YtbmhcapeikebgaaNMSa
namespace Go.Proofs.Ytbmhcapeikebgaa
open Go Go.GL Go.RowKit

noncomputable def gameroomref_SowOf_J4 (b1 : List Int) (b2 : Int) (r3 : (List Int)) (place2 : Int) (s2 : List Int) : Option (List Int × Int × Bool × Int) :=
  asrt ((w64 (Int.tdiv (b1.length : Int) 2)) ≠ (0 : Int)) <| asrt ((((w64 (Int.tdiv place2 (w64 (Int.tdiv (b1.length : Int) 2)))) == b2) && (place2 != (w64 ((w64 ((w64 (b2 * (w64 (Int.tdiv (b1.length : Int) 2)))) + (w64 (Int.tdiv (b1.length : Int) 2)))) - 1)))) = true → 0 ≤ place2 ∧ place2 < (r3.length : Int)) <| if ((((w64 (Int.tdiv place2 (w64 (Int.tdiv (b1.length : Int) 2)))) == b2) && (place2 != (w64 ((w64 ((w64 (b2 * (w64 (Int.tdiv (b1.length : Int) 2)))) + (w64 (Int.tdiv (b1.length : Int) 2)))) - 1)))) && ((geti s2 place2) == 1)) then (asrt (0 ≤ (w64 ((w64 ((b1.length : Int) - 2)) - place2)) ∧ (w64 ((w64 ((b1.length : Int) - 2)) - place2)) < (r3.length : Int)) <| if (decide ((0 : Int) < (geti s2 (w64 ((w64 ((b1.length : Int) - 2)) - place2))))) then (asrt (0 ≤ (w64 ((w64 ((w64 (b2 * (w64 (Int.tdiv (b1.length : Int) 2)))) + (w64 (Int.tdiv (b1.length : Int) 2)))) - 1)) ∧ (w64 ((w64 ((w64 (b2 * (w64 (Int.tdiv (b1.length : Int) 2)))) + (w64 (Int.tdiv (b1.length : Int) 2)))) - 1)) < (r3.length : Int)) <| asrt (0 ≤ (w64 ((w64 ((b1.length : Int) - 2)) - place2)) ∧ (w64 ((w64 ((b1.length : Int) - 2)) - place2)) < (r3.length : Int)) <| asrt (0 ≤ (w64 ((w64 ((w64 (b2 * (w64 (Int.tdiv (b1.length : Int) 2)))) + (w64 (Int.tdiv (b1.length : Int) 2)))) - 1)) ∧ (w64 ((w64 ((w64 (b2 * (w64 (Int.tdiv (b1.length : Int) 2)))) + (w64 (Int.tdiv (b1.length : Int) 2)))) - 1)) < (r3.length : Int)) <| asrt (0 ≤ place2 ∧ place2 < (r3.length : Int)) <| asrt (0 ≤ (w64 ((w64 ((b1.length : Int) - 2)) - place2)) ∧ (w64 ((w64 ((b1.length : Int) - 2)) - place2)) < (r3.length : Int)) <| (gameroomref_SowOf_J7 b1 b2 r3 place2) (((s2.set (Int.toNat (w64 ((w64 ((w64 (b2 * (w64 (Int.tdiv (b1.length : Int) 2)))) + (w64 (Int.tdiv (b1.length : Int) 2)))) - 1))) (w64 ((geti s2 (w64 ((w64 ((w64 (b2 * (w64 (Int.tdiv (b1.length : Int) 2)))) + (w64 (Int.tdiv (b1.length : Int) 2)))) - 1))) + (w64 ((geti s2 (w64 ((w64 ((b1.length : Int) - 2)) - place2))) + 1))))).set (Int.toNat place2) 0).set (Int.toNat (w64 ((w64 ((b1.length : Int) - 2)) - place2))) 0)) else ((gameroomref_SowOf_J7 b1 b2 r3 place2) s2)) else ((gameroomref_SowOf_J7 b1 b2 r3 place2) s2)

noncomputable def gameroomref_SowOf_K1 (b1 : List Int) (b2 : Int) (r3 : (List Int)) : (Int × List Int) → Option (List Int × Int × Bool × Int) :=
  fun (x : (Int × List Int)) => match x with | (place2, s2) => (gameroomref_SowOf_J4 b1 b2 r3) place2 s2

noncomputable def gameroomref_SowOf_L1 (b1 : List Int) (b2 : Int) (r3 : (List Int)) : (Int × List Int × Int) → Option (St (Int × List Int × Int) (Int × List Int)) :=
  fun (x : (Int × List Int × Int)) => match x with | (place1, s1, hand1) => if (decide ((0 : Int) < hand1)) then ((gameroomref_SowOf_J5 b1 b2 r3 place1 s1 hand1)) else (some (.done (place1, s1)))

noncomputable def gameroomref_SowOf_J3 (b1 : List Int) (b2 : Int) (pit1 : Int) : Option (List Int × Int × Bool × Int) :=
  (gameroomref_Ints_m b1).bind fun r3 => asrt (0 ≤ (w64 ((w64 (b2 * (w64 (Int.tdiv (b1.length : Int) 2)))) + pit1)) ∧ (w64 ((w64 (b2 * (w64 (Int.tdiv (b1.length : Int) 2)))) + pit1)) < (r3.length : Int)) <| asrt (0 ≤ (w64 ((w64 (b2 * (w64 (Int.tdiv (b1.length : Int) 2)))) + pit1)) ∧ (w64 ((w64 (b2 * (w64 (Int.tdiv (b1.length : Int) 2)))) + pit1)) < (r3.length : Int)) <| (loop (gameroomref_SowOf_L1 b1 b2 r3) ((w64 ((w64 (b2 * (w64 (Int.tdiv (b1.length : Int) 2)))) + pit1)), (r3.set (Int.toNat (w64 ((w64 (b2 * (w64 (Int.tdiv (b1.length : Int) 2)))) + pit1))) 0), (geti r3 (w64 ((w64 (b2 * (w64 (Int.tdiv (b1.length : Int) 2)))) + pit1))))).bind (gameroomref_SowOf_K1 b1 b2 r3)

noncomputable def gameroomref_SowOf_J2 (b1 : List Int) (b2 : Int) (pit1 : Int) : Option (List Int × Int × Bool × Int) :=
  asrt (0 ≤ (w64 ((w64 (b2 * (w64 (Int.tdiv (b1.length : Int) 2)))) + pit1)) ∧ (w64 ((w64 (b2 * (w64 (Int.tdiv (b1.length : Int) 2)))) + pit1)) < (b1.length : Int)) <| if ((geti b1 (w64 ((w64 (b2 * (w64 (Int.tdiv (b1.length : Int) 2)))) + pit1))) == 0) then (some (([] : List Int), 0, false, 10)) else ((gameroomref_SowOf_J3 b1 b2 pit1))

noncomputable def gameroomref_SowOf_J1 (b1 : List Int) (b2 : Int) (pit1 : Int) : Option (List Int × Int × Bool × Int) :=
  (gameroomref_within_m pit1 0 (w64 ((w64 (Int.tdiv (b1.length : Int) 2)) - 2))).bind fun r2 => if (!r2) then (some (([] : List Int), 0, false, 3)) else ((gameroomref_SowOf_J2 b1 b2 pit1))

noncomputable def gameroomref_SowOf_m (b1 : List Int) (b2 : Int) (pit1 : Int) : Option (List Int × Int × Bool × Int) :=
  (gameroomref_MancalaOver_m b1 b2).bind fun r1 => if r1 then (some (([] : List Int), 0, false, 9)) else ((gameroomref_SowOf_J1 b1 b2 pit1))

set_option maxRecDepth 100000 in
set_option maxHeartbeats 4000000 in
theorem gameroomref_SowOf_w {A1 : Option Addr} {c1 : Nat} {n1 : Nat} {b1 : List Int} {b2 : Int} {pit1 : Int} {r : (List Int × Int × Bool × Int)} {w0 w : World} {B : Nat} {fs : List HP} (hm : gameroomref_SowOf_m b1 b2 pit1 = some r) (hS : Sep w0 B w (fs)) (hr_b1 : RdF w0 B fs A1 (vI b1)) (_hc_b1 : b1.length ≤ c1) (_hn_b1 : n1 = b1.length) :
    Calls Try.prog 76 #[.agg #[.slice A1 n1 c1, .int .i64 b2], .int .i64 pit1] w fun e w' => ∃ v, e = .returned v ∧ ∃ (A3 : Option Addr) (c3 : Nat), v = .tuple #[.agg #[.slice A3 r.1.length c3, .int .i64 r.2.1], .bool r.2.2.1, .int .i64 r.2.2.2] ∧ Sep w0 B w' (own 3 (.slice A3 r.1.length c3) (vI r.1) :: fs) := by
  obtain ⟨i3, hi3, hz3, hs3, hb3⟩ := info_parts Info3
  obtain rfl := _hn_b1
  unfold gameroomref_SowOf_m at hm
  replace hm := start_b hm
  refine enter (l := [.agg #[.slice A1 b1.length c1, .int .i64 b2], .int .i64 pit1]) (n := 186) Try.func76 rfl rfl (by simp) (fun a hF => ?_)
  refine seqR ?_
  refine at_do (d := 2) (s := vS (Instr.box 71 (.agg #[.slice A1 b1.length c1, .int .i64 b2]))) (v := .pointer (some ⟨w.heap.size, 0, none⟩)) (w' := w.alloc (.cells #[.slice A1 b1.length c1, .int .i64 b2] 71)) hF (by kernel_rfl) (by kernel_rfl) (by kernel_rfl) (fun a hF => ?_)
  have hS : Sep w0 B (w.alloc (.cells #[.slice A1 b1.length c1, .int .i64 b2] 71)) (blk w.heap.size 71 #[.slice A1 b1.length c1, .int .i64 b2] :: (fs)) := hS.box 71 #[.slice A1 b1.length c1, .int .i64 b2]
  generalize w.heap.size = g1 at hF hS
  generalize w.alloc (.cells #[.slice A1 b1.length c1, .int .i64 b2] 71) = w at hS ⊢
  refine at_do (d := 4) (s := vS (Instr.alloc 71 true (.tuple #[]))) (v := .pointer (some ⟨w.heap.size, 0, none⟩)) (w' := w.alloc (.cells #[.slice none 0 0, .int .i64 0] 71)) hF (by kernel_rfl) (by kernel_rfl) (by kernel_rfl) (fun a hF => ?_)
  have hS : Sep w0 B (w.alloc (.cells #[.slice none 0 0, .int .i64 0] 71)) (blk w.heap.size 71 #[.slice none 0 0, .int .i64 0] :: (blk g1 71 #[.slice A1 b1.length c1, .int .i64 b2] :: fs)) := hS.box 71 #[.slice none 0 0, .int .i64 0]
  generalize w.heap.size = g2 at hF hS
  generalize w.alloc (.cells #[.slice none 0 0, .int .i64 0] 71) = w at hS ⊢
  refine at_run 2 [] [] [1, 2, 4] [pl 1 (.int .i64 pit1), pl 2 (.pointer (some ⟨g1, 0, none⟩)), pl 4 (.pointer (some ⟨g2, 0, none⟩))] hF hS (by kernel_rfl) (by kernel_rfl) ?_ (fun a w hF hS => ?_)
  · exact obs_nil
  refine at_end [1, 2, 4] [pl 1 (.int .i64 pit1), pl 2 (.pointer (some ⟨g1, 0, none⟩)), pl 4 (.pointer (some ⟨g2, 0, none⟩))] hF rfl (by kernel_rfl) (fun hF => ?_)
  refine then_n ?_
  refine reg [⟨false, [], vS (Instr.loadAt 40 (.pointer (some ⟨g1, 0, none⟩))), .slice A1 b1.length c1⟩] [none, some (.slice A1 b1.length c1), none, none] [1, 2, 4, 7] [pl 1 (.int .i64 pit1), pl 2 (.pointer (some ⟨g1, 0, none⟩)), pl 4 (.pointer (some ⟨g2, 0, none⟩)), pl 7 (.int .i64 (b1.length : Int))] hF hS Fol (by kernel_rfl) (by kernel_rfl) (by kernel_rfl) ?_ (fun a w hF hS => ?_)
  · exact obs_cons (ob_load Agg40 (fun _ _ hS => (hS.at_ 1 rfl).cell rfl)) <| obs_nil
  refine reg [] [] [1, 2, 4, 7, 8] [pl 1 (.int .i64 pit1), pl 2 (.pointer (some ⟨g1, 0, none⟩)), pl 4 (.pointer (some ⟨g2, 0, none⟩)), pl 7 (.int .i64 (b1.length : Int)), pl 8 (.int .i64 (w64 (Int.tdiv (b1.length : Int) 2)))] hF hS Fol (by kernel_rfl) (by kernel_rfl) (by kernel_rfl) ?_ (fun a w hF hS => ?_)
  · exact obs_nil
  refine seq_cut (fun a w => Fr 186 [pl 1 (.int .i64 pit1), pl 2 (.pointer (some ⟨g1, 0, none⟩)), pl 4 (.pointer (some ⟨g2, 0, none⟩)), pl 7 (.int .i64 (b1.length : Int)), pl 8 (.int .i64 (w64 (Int.tdiv (b1.length : Int) 2)))] a ∧ Sep w0 B w (blk g1 71 #[.slice A1 b1.length c1, .int .i64 b2] :: blk g2 71 #[.slice none 0 0, .int .i64 0] :: fs) ∧ ((gameroomref_SowOf_J1 b1 b2 pit1)).bind some = some r) ?_ ?_
  · rintro a w ⟨hF, hS, hm⟩
    unfold gameroomref_SowOf_J1 at hm
    refine seq_cut (fun a w => Fr 186 [pl 1 (.int .i64 pit1), pl 2 (.pointer (some ⟨g1, 0, none⟩)), pl 4 (.pointer (some ⟨g2, 0, none⟩)), pl 7 (.int .i64 (b1.length : Int)), pl 8 (.int .i64 (w64 (Int.tdiv (b1.length : Int) 2)))] a ∧ Sep w0 B w (blk g1 71 #[.slice A1 b1.length c1, .int .i64 b2] :: blk g2 71 #[.slice none 0 0, .int .i64 0] :: fs) ∧ ((gameroomref_SowOf_J2 b1 b2 pit1)).bind some = some r) ?_ ?_
    · rintro a w ⟨hF, hS, hm⟩
      unfold gameroomref_SowOf_J2 at hm
      refine reg [⟨false, [], vS (Instr.loadAt 3 (.pointer (some ⟨g1, 1, none⟩))), .int .i64 b2⟩] [none, some (.int .i64 b2), none, none, none, none, none] [2, 4, 7, 8, 9] [pl 2 (.pointer (some ⟨g1, 0, none⟩)), pl 4 (.pointer (some ⟨g2, 0, none⟩)), pl 7 (.int .i64 (b1.length : Int)), pl 8 (.int .i64 (w64 (Int.tdiv (b1.length : Int) 2))), pl 9 (.int .i64 (w64 ((w64 (b2 * (w64 (Int.tdiv (b1.length : Int) 2)))) + pit1)))] hF hS Fol (by kernel_rfl) (by kernel_rfl) (by kernel_rfl) ?_ (fun a w hF hS => ?_)
      · exact obs_cons (ob_load Agg3 (fun _ _ hS => (hS.at_ 0 rfl).cell rfl)) <| obs_nil
      refine reg [⟨false, [], vS (Instr.loadAt 3 (.pointer (some ⟨g1, 1, none⟩))), .int .i64 b2⟩] [none, some (.int .i64 b2), none, none, none, none, none, none] [2, 4, 7, 8, 9, 10] [pl 2 (.pointer (some ⟨g1, 0, none⟩)), pl 4 (.pointer (some ⟨g2, 0, none⟩)), pl 7 (.int .i64 (b1.length : Int)), pl 8 (.int .i64 (w64 (Int.tdiv (b1.length : Int) 2))), pl 9 (.int .i64 (w64 ((w64 (b2 * (w64 (Int.tdiv (b1.length : Int) 2)))) + pit1))), pl 10 (.int .i64 (w64 ((w64 ((w64 (b2 * (w64 (Int.tdiv (b1.length : Int) 2)))) + (w64 (Int.tdiv (b1.length : Int) 2)))) - 1)))] hF hS Fol (by kernel_rfl) (by kernel_rfl) (by kernel_rfl) ?_ (fun a w hF hS => ?_)
      · exact obs_cons (ob_load Agg3 (fun _ _ hS => (hS.at_ 0 rfl).cell rfl)) <| obs_nil
      refine reg [⟨false, [], vS (Instr.loadAt 3 (.pointer (some ⟨g1, 1, none⟩))), .int .i64 b2⟩] [none, some (.int .i64 b2), none, none, none, none, none, none, none] [2, 4, 7, 8, 9, 10, 11] [pl 2 (.pointer (some ⟨g1, 0, none⟩)), pl 4 (.pointer (some ⟨g2, 0, none⟩)), pl 7 (.int .i64 (b1.length : Int)), pl 8 (.int .i64 (w64 (Int.tdiv (b1.length : Int) 2))), pl 9 (.int .i64 (w64 ((w64 (b2 * (w64 (Int.tdiv (b1.length : Int) 2)))) + pit1))), pl 10 (.int .i64 (w64 ((w64 ((w64 (b2 * (w64 (Int.tdiv (b1.length : Int) 2)))) + (w64 (Int.tdiv (b1.length : Int) 2)))) - 1))), pl 11 (.int .i64 (w64 ((w64 ((w64 ((w64 (1 - b2)) * (w64 (Int.tdiv (b1.length : Int) 2)))) + (w64 (Int.tdiv (b1.length : Int) 2)))) - 1)))] hF hS Fol (by kernel_rfl) (by kernel_rfl) (by kernel_rfl) ?_ (fun a w hF hS => ?_)
      · exact obs_cons (ob_load Agg3 (fun _ _ hS => (hS.at_ 0 rfl).cell rfl)) <| obs_nil
      refine seq_cut (fun a w => Fr 186 [pl 2 (.pointer (some ⟨g1, 0, none⟩)), pl 4 (.pointer (some ⟨g2, 0, none⟩)), pl 7 (.int .i64 (b1.length : Int)), pl 8 (.int .i64 (w64 (Int.tdiv (b1.length : Int) 2))), pl 9 (.int .i64 (w64 ((w64 (b2 * (w64 (Int.tdiv (b1.length : Int) 2)))) + pit1))), pl 10 (.int .i64 (w64 ((w64 ((w64 (b2 * (w64 (Int.tdiv (b1.length : Int) 2)))) + (w64 (Int.tdiv (b1.length : Int) 2)))) - 1))), pl 11 (.int .i64 (w64 ((w64 ((w64 ((w64 (1 - b2)) * (w64 (Int.tdiv (b1.length : Int) 2)))) + (w64 (Int.tdiv (b1.length : Int) 2)))) - 1)))] a ∧ Sep w0 B w (blk g1 71 #[.slice A1 b1.length c1, .int .i64 b2] :: blk g2 71 #[.slice none 0 0, .int .i64 0] :: fs) ∧ ((gameroomref_SowOf_J3 b1 b2 pit1)).bind some = some r) ?_ ?_
      · rintro a w ⟨hF, hS, hm⟩
        unfold gameroomref_SowOf_J3 at hm
        refine seqR ?_
        obtain ⟨r3, hr3, hm⟩ := call_b hm
        refine at_run 2 [⟨false, [], vS (Instr.loadAt 40 (.pointer (some ⟨g1, 0, none⟩))), .slice A1 b1.length c1⟩] [none, some (.slice A1 b1.length c1)] [2, 4, 7, 8, 9, 10, 11, 61] [pl 2 (.pointer (some ⟨g1, 0, none⟩)), pl 4 (.pointer (some ⟨g2, 0, none⟩)), pl 7 (.int .i64 (b1.length : Int)), pl 8 (.int .i64 (w64 (Int.tdiv (b1.length : Int) 2))), pl 9 (.int .i64 (w64 ((w64 (b2 * (w64 (Int.tdiv (b1.length : Int) 2)))) + pit1))), pl 10 (.int .i64 (w64 ((w64 ((w64 (b2 * (w64 (Int.tdiv (b1.length : Int) 2)))) + (w64 (Int.tdiv (b1.length : Int) 2)))) - 1))), pl 11 (.int .i64 (w64 ((w64 ((w64 ((w64 (1 - b2)) * (w64 (Int.tdiv (b1.length : Int) 2)))) + (w64 (Int.tdiv (b1.length : Int) 2)))) - 1))), pl 61 (.slice A1 b1.length c1)] hF hS (by kernel_rfl) (by kernel_rfl) ?_ (fun a w hF hS => ?_)
        · exact obs_cons (ob_load Agg40 (fun _ _ hS => (hS.at_ 0 rfl).cell rfl)) <| obs_nil
        refine at_call (f := 93) (args := #[.slice A1 b1.length c1]) (d := 62) hF (by kernel_rfl) (by kernel_rfl) Try.func93 (by kernel_rfl) rfl (gameroomref_Ints_w hr3 hS (fun _ hS => (hr_b1 _ (hS.dropN 2))) _hc_b1 rfl) (fun v a w hR hF => ?_)
        clear hS
        obtain ⟨A2, c2, rfl, hS⟩ := hR
        have hS : Sep w0 B w (own 3 (.slice A2 r3.length c2) (vI r3) :: blk g1 71 #[.slice A1 b1.length c1, .int .i64 b2] :: blk g2 71 #[.slice none 0 0, .int .i64 0] :: fs) := hS
        refine at_run 1 [] [] [2, 4, 7, 8, 9, 10, 11, 12] [pl 2 (.pointer (some ⟨g1, 0, none⟩)), pl 4 (.pointer (some ⟨g2, 0, none⟩)), pl 7 (.int .i64 (b1.length : Int)), pl 8 (.int .i64 (w64 (Int.tdiv (b1.length : Int) 2))), pl 9 (.int .i64 (w64 ((w64 (b2 * (w64 (Int.tdiv (b1.length : Int) 2)))) + pit1))), pl 10 (.int .i64 (w64 ((w64 ((w64 (b2 * (w64 (Int.tdiv (b1.length : Int) 2)))) + (w64 (Int.tdiv (b1.length : Int) 2)))) - 1))), pl 11 (.int .i64 (w64 ((w64 ((w64 ((w64 (1 - b2)) * (w64 (Int.tdiv (b1.length : Int) 2)))) + (w64 (Int.tdiv (b1.length : Int) 2)))) - 1))), pl 12 (.slice A2 r3.length c2)] hF hS (by kernel_rfl) (by kernel_rfl) ?_ (fun a w hF hS => ?_)
        · exact obs_nil
        refine at_end [2, 4, 7, 8, 9, 10, 11, 12] [pl 2 (.pointer (some ⟨g1, 0, none⟩)), pl 4 (.pointer (some ⟨g2, 0, none⟩)), pl 7 (.int .i64 (b1.length : Int)), pl 8 (.int .i64 (w64 (Int.tdiv (b1.length : Int) 2))), pl 9 (.int .i64 (w64 ((w64 (b2 * (w64 (Int.tdiv (b1.length : Int) 2)))) + pit1))), pl 10 (.int .i64 (w64 ((w64 ((w64 (b2 * (w64 (Int.tdiv (b1.length : Int) 2)))) + (w64 (Int.tdiv (b1.length : Int) 2)))) - 1))), pl 11 (.int .i64 (w64 ((w64 ((w64 ((w64 (1 - b2)) * (w64 (Int.tdiv (b1.length : Int) 2)))) + (w64 (Int.tdiv (b1.length : Int) 2)))) - 1))), pl 12 (.slice A2 r3.length c2)] hF rfl (by kernel_rfl) (fun hF => ?_)
        refine then_n ?_
        obtain ⟨hp2, hm⟩ := asrt_b hm
        refine reg [⟨true, [], vS (Instr.indexAt 40 (.slice A2 r3.length c2) (.int .i64 (w64 ((w64 (b2 * (w64 (Int.tdiv (b1.length : Int) 2)))) + pit1)))), .pointer (some (sAddr A2 (w64 ((w64 (b2 * (w64 (Int.tdiv (b1.length : Int) 2)))) + pit1))))⟩, ⟨false, [], vS (Instr.loadAt 3 (.pointer (some (sAddr A2 (w64 ((w64 (b2 * (w64 (Int.tdiv (b1.length : Int) 2)))) + pit1)))))), .int .i64 (geti r3 (w64 ((w64 (b2 * (w64 (Int.tdiv (b1.length : Int) 2)))) + pit1)))⟩] [none, none, some (.pointer (some (sAddr A2 (w64 ((w64 (b2 * (w64 (Int.tdiv (b1.length : Int) 2)))) + pit1))))), some (.int .i64 (geti r3 (w64 ((w64 (b2 * (w64 (Int.tdiv (b1.length : Int) 2)))) + pit1)))), none] [2, 4, 7, 8, 9, 10, 11, 12, 13] [pl 2 (.pointer (some ⟨g1, 0, none⟩)), pl 4 (.pointer (some ⟨g2, 0, none⟩)), pl 7 (.int .i64 (b1.length : Int)), pl 8 (.int .i64 (w64 (Int.tdiv (b1.length : Int) 2))), pl 9 (.int .i64 (w64 ((w64 (b2 * (w64 (Int.tdiv (b1.length : Int) 2)))) + pit1))), pl 10 (.int .i64 (w64 ((w64 ((w64 (b2 * (w64 (Int.tdiv (b1.length : Int) 2)))) + (w64 (Int.tdiv (b1.length : Int) 2)))) - 1))), pl 11 (.int .i64 (w64 ((w64 ((w64 ((w64 (1 - b2)) * (w64 (Int.tdiv (b1.length : Int) 2)))) + (w64 (Int.tdiv (b1.length : Int) 2)))) - 1))), pl 12 (.slice A2 r3.length c2), pl 13 (.int .i64 (geti r3 (w64 ((w64 (b2 * (w64 (Int.tdiv (b1.length : Int) 2)))) + pit1))))] hF hS Fol (by kernel_rfl) (by kernel_rfl) (by kernel_rfl) ?_ (fun a w hF hS => ?_)
        · exact obs_cons (ob_ix1 (f := (Value.int .i64)) (m := r3) Und40 hi3 hs3 (hS.at_ 0 rfl).rd rfl (fun _ => hp2)) <| obs_cons (ob_get1 (n := r3.length) (m := r3) (Value.int .i64) (0 : Int) Agg3 (fun _ hS => ⟨_, (hS.at_ 0 rfl).rd⟩) (fun _ hS => rfl) (fun _ => hp2)) <| obs_nil
        refine seqR ?_
        obtain ⟨hp3, hm⟩ := asrt_b hm
        refine at_run 3 [⟨true, [], vS (Instr.indexAt 40 (.slice A2 r3.length c2) (.int .i64 (w64 ((w64 (b2 * (w64 (Int.tdiv (b1.length : Int) 2)))) + pit1)))), .pointer (some (sAddr A2 (w64 ((w64 (b2 * (w64 (Int.tdiv (b1.length : Int) 2)))) + pit1))))⟩] [none, none, some (.pointer (some (sAddr A2 (w64 ((w64 (b2 * (w64 (Int.tdiv (b1.length : Int) 2)))) + pit1)))))] [2, 4, 7, 8, 9, 10, 11, 12, 13, 69] [pl 2 (.pointer (some ⟨g1, 0, none⟩)), pl 4 (.pointer (some ⟨g2, 0, none⟩)), pl 7 (.int .i64 (b1.length : Int)), pl 8 (.int .i64 (w64 (Int.tdiv (b1.length : Int) 2))), pl 9 (.int .i64 (w64 ((w64 (b2 * (w64 (Int.tdiv (b1.length : Int) 2)))) + pit1))), pl 10 (.int .i64 (w64 ((w64 ((w64 (b2 * (w64 (Int.tdiv (b1.length : Int) 2)))) + (w64 (Int.tdiv (b1.length : Int) 2)))) - 1))), pl 11 (.int .i64 (w64 ((w64 ((w64 ((w64 (1 - b2)) * (w64 (Int.tdiv (b1.length : Int) 2)))) + (w64 (Int.tdiv (b1.length : Int) 2)))) - 1))), pl 12 (.slice A2 r3.length c2), pl 13 (.int .i64 (geti r3 (w64 ((w64 (b2 * (w64 (Int.tdiv (b1.length : Int) 2)))) + pit1)))), pl 69 (.pointer (some (sAddr A2 (w64 ((w64 (b2 * (w64 (Int.tdiv (b1.length : Int) 2)))) + pit1)))))] hF hS (by kernel_rfl) (by kernel_rfl) ?_ (fun a w hF hS => ?_)
        · exact obs_cons (ob_ix1 (f := (Value.int .i64)) (m := r3) Und40 hi3 hs3 (hS.at_ 0 rfl).rd rfl (fun _ => hp3)) <| obs_nil
        obtain ⟨w, hrun, hS⟩ := run_set1 (P := Try.prog) (t := 3) (x := 0) (Value.int .i64) (hS.at_ 0 rfl) hi3 hs3 rfl rfl hp3
        refine at_skip hF (by kernel_rfl) hrun ?_
        have hS : Sep w0 B w (own 3 (.slice A2 r3.length c2) (vI (r3.set (Int.toNat (w64 ((w64 (b2 * (w64 (Int.tdiv (b1.length : Int) 2)))) + pit1))) 0)) :: blk g1 71 #[.slice A1 b1.length c1, .int .i64 b2] :: blk g2 71 #[.slice none 0 0, .int .i64 0] :: fs) := hS
        refine at_end [2, 4, 7, 8, 9, 10, 11, 12, 13] [pl 2 (.pointer (some ⟨g1, 0, none⟩)), pl 4 (.pointer (some ⟨g2, 0, none⟩)), pl 7 (.int .i64 (b1.length : Int)), pl 8 (.int .i64 (w64 (Int.tdiv (b1.length : Int) 2))), pl 9 (.int .i64 (w64 ((w64 (b2 * (w64 (Int.tdiv (b1.length : Int) 2)))) + pit1))), pl 10 (.int .i64 (w64 ((w64 ((w64 (b2 * (w64 (Int.tdiv (b1.length : Int) 2)))) + (w64 (Int.tdiv (b1.length : Int) 2)))) - 1))), pl 11 (.int .i64 (w64 ((w64 ((w64 ((w64 (1 - b2)) * (w64 (Int.tdiv (b1.length : Int) 2)))) + (w64 (Int.tdiv (b1.length : Int) 2)))) - 1))), pl 12 (.slice A2 r3.length c2), pl 13 (.int .i64 (geti r3 (w64 ((w64 (b2 * (w64 (Int.tdiv (b1.length : Int) 2)))) + pit1))))] hF rfl (by kernel_rfl) (fun hF => ?_)
        refine then_n ?_
        refine seq_cut (fun a w => ∃ (place2 : Int) (s2 : List Int), Fr 186 [pl 2 (.pointer (some ⟨g1, 0, none⟩)), pl 4 (.pointer (some ⟨g2, 0, none⟩)), pl 7 (.int .i64 (b1.length : Int)), pl 8 (.int .i64 (w64 (Int.tdiv (b1.length : Int) 2))), pl 9 (.int .i64 place2), pl 10 (.int .i64 (w64 ((w64 ((w64 (b2 * (w64 (Int.tdiv (b1.length : Int) 2)))) + (w64 (Int.tdiv (b1.length : Int) 2)))) - 1))), pl 12 (.slice A2 r3.length c2)] a ∧ Sep w0 B w (blk g1 71 #[.slice A1 b1.length c1, .int .i64 b2] :: blk g2 71 #[.slice none 0 0, .int .i64 0] :: own 3 (.slice A2 r3.length c2) (vI s2) :: fs) ∧ ((gameroomref_SowOf_J4 b1 b2 r3) place2 s2).bind some = some r) ?_ ?_
        · rintro a w ⟨place2, s2, hF, hS, hm⟩
          unfold gameroomref_SowOf_J4 at hm
          refine reg [] [] [2, 4, 7, 8, 9, 10, 12, 14] [pl 2 (.pointer (some ⟨g1, 0, none⟩)), pl 4 (.pointer (some ⟨g2, 0, none⟩)), pl 7 (.int .i64 (b1.length : Int)), pl 8 (.int .i64 (w64 (Int.tdiv (b1.length : Int) 2))), pl 9 (.int .i64 place2), pl 10 (.int .i64 (w64 ((w64 ((w64 (b2 * (w64 (Int.tdiv (b1.length : Int) 2)))) + (w64 (Int.tdiv (b1.length : Int) 2)))) - 1))), pl 12 (.slice A2 r3.length c2), pl 14 (.bool (place2 == (w64 ((w64 ((w64 (b2 * (w64 (Int.tdiv (b1.length : Int) 2)))) + (w64 (Int.tdiv (b1.length : Int) 2)))) - 1))))] hF hS Fol (by kernel_rfl) (by kernel_rfl) (by kernel_rfl) ?_ (fun a w hF hS => ?_)
          · exact obs_nil
          refine seq_cut (fun a w => ∃ (s3 : List Int), Fr 186 [pl 2 (.pointer (some ⟨g1, 0, none⟩)), pl 4 (.pointer (some ⟨g2, 0, none⟩)), pl 7 (.int .i64 (b1.length : Int)), pl 8 (.int .i64 (w64 (Int.tdiv (b1.length : Int) 2))), pl 12 (.slice A2 r3.length c2), pl 14 (.bool (place2 == (w64 ((w64 ((w64 (b2 * (w64 (Int.tdiv (b1.length : Int) 2)))) + (w64 (Int.tdiv (b1.length : Int) 2)))) - 1))))] a ∧ Sep w0 B w (blk g1 71 #[.slice A1 b1.length c1, .int .i64 b2] :: blk g2 71 #[.slice none 0 0, .int .i64 0] :: own 3 (.slice A2 r3.length c2) (vI s3) :: fs) ∧ ((gameroomref_SowOf_J7 b1 b2 r3 place2) s3).bind some = some r) ?_ ?_
          · rintro a w ⟨s3, hF, hS, hm⟩
            unfold gameroomref_SowOf_J7 at hm
            refine seqR ?_
            refine at_run 4 [⟨false, [], vS (Instr.loadAt 3 (.pointer (some ⟨g1, 1, none⟩))), .int .i64 b2⟩] [none, none, some (.int .i64 b2), none] [2, 4, 7, 8, 12, 14, 137] [pl 2 (.pointer (some ⟨g1, 0, none⟩)), pl 4 (.pointer (some ⟨g2, 0, none⟩)), pl 7 (.int .i64 (b1.length : Int)), pl 8 (.int .i64 (w64 (Int.tdiv (b1.length : Int) 2))), pl 12 (.slice A2 r3.length c2), pl 14 (.bool (place2 == (w64 ((w64 ((w64 (b2 * (w64 (Int.tdiv (b1.length : Int) 2)))) + (w64 (Int.tdiv (b1.length : Int) 2)))) - 1)))), pl 137 (.agg #[.slice A2 r3.length c2, .int .i64 b2])] hF hS (by kernel_rfl) (by kernel_rfl) ?_ (fun a w hF hS => ?_)
            · exact obs_cons (ob_load Agg3 (fun _ _ hS => (hS.at_ 0 rfl).cell rfl)) <| obs_nil
            refine at_do (d := 16) (s := vS (Instr.alloc 71 true (.tuple #[]))) (v := .pointer (some ⟨w.heap.size, 0, none⟩)) (w' := w.alloc (.cells #[.slice none 0 0, .int .i64 0] 71)) hF (by kernel_rfl) (by kernel_rfl) (by kernel_rfl) (fun a hF => ?_)
            have hS : Sep w0 B (w.alloc (.cells #[.slice none 0 0, .int .i64 0] 71)) (blk w.heap.size 71 #[.slice none 0 0, .int .i64 0] :: (blk g1 71 #[.slice A1 b1.length c1, .int .i64 b2] :: blk g2 71 #[.slice none 0 0, .int .i64 0] :: own 3 (.slice A2 r3.length c2) (vI s3) :: fs)) := hS.box 71 #[.slice none 0 0, .int .i64 0]
            generalize w.heap.size = g3 at hF hS
            generalize w.alloc (.cells #[.slice none 0 0, .int .i64 0] 71) = w at hS ⊢
            obtain ⟨w, hrun, hS⟩ := run_putA (P := Try.prog) (t := 71) (us := #[.slice A2 r3.length c2, .int .i64 b2]) (o := 0) (hS.at_ 0 rfl) (by kernel_rfl) (all_one (by kernel_rfl)) (Nat.le_of_ble_eq_true (by kernel_rfl))
            refine at_skip hF (by kernel_rfl) hrun ?_
            have hS : Sep w0 B w (blk g3 71 #[.slice A2 r3.length c2, .int .i64 b2] :: blk g1 71 #[.slice A1 b1.length c1, .int .i64 b2] :: blk g2 71 #[.slice none 0 0, .int .i64 0] :: own 3 (.slice A2 r3.length c2) (vI s3) :: fs) := hS
            refine at_end [2, 4, 7, 8, 12, 14, 16] [pl 2 (.pointer (some ⟨g1, 0, none⟩)), pl 4 (.pointer (some ⟨g2, 0, none⟩)), pl 7 (.int .i64 (b1.length : Int)), pl 8 (.int .i64 (w64 (Int.tdiv (b1.length : Int) 2))), pl 12 (.slice A2 r3.length c2), pl 14 (.bool (place2 == (w64 ((w64 ((w64 (b2 * (w64 (Int.tdiv (b1.length : Int) 2)))) + (w64 (Int.tdiv (b1.length : Int) 2)))) - 1)))), pl 16 (.pointer (some ⟨g3, 0, none⟩))] hF rfl (by kernel_rfl) (fun hF => ?_)
            refine then_n ?_
            refine seq_cut (fun a w => ∃ (out1 : List Int), Fr 186 [pl 2 (.pointer (some ⟨g1, 0, none⟩)), pl 4 (.pointer (some ⟨g2, 0, none⟩)), pl 14 (.bool (place2 == (w64 ((w64 ((w64 (b2 * (w64 (Int.tdiv (b1.length : Int) 2)))) + (w64 (Int.tdiv (b1.length : Int) 2)))) - 1)))), pl 16 (.pointer (some ⟨g3, 0, none⟩))] a ∧ Sep w0 B w (blk g1 71 #[.slice A1 b1.length c1, .int .i64 b2] :: blk g2 71 #[.slice none 0 0, .int .i64 0] :: blk g3 71 #[.slice A2 r3.length c2, .int .i64 b2] :: own 3 (.slice A2 r3.length c2) (vI out1) :: fs) ∧ ((gameroomref_SowOf_J8 b1 b2 place2) out1).bind some = some r) ?_ ?_
            · rintro a w ⟨out1, hF, hS, hm⟩
              unfold gameroomref_SowOf_J8 at hm
              refine seq_cut (fun a w => ∃ (out2 : Int), Fr 186 [pl 4 (.pointer (some ⟨g2, 0, none⟩)), pl 14 (.bool (place2 == (w64 ((w64 ((w64 (b2 * (w64 (Int.tdiv (b1.length : Int) 2)))) + (w64 (Int.tdiv (b1.length : Int) 2)))) - 1)))), pl 16 (.pointer (some ⟨g3, 0, none⟩))] a ∧ Sep w0 B w (blk g2 71 #[.slice none 0 0, .int .i64 0] :: blk g3 71 #[.slice A2 r3.length c2, .int .i64 out2] :: own 3 (.slice A2 r3.length c2) (vI out1) :: fs) ∧ ((gameroomref_SowOf_J11 b1 b2 place2 out1) out2).bind some = some r) ?_ ?_
              · rintro a w ⟨out2, hF, hS, hm⟩
                unfold gameroomref_SowOf_J11 at hm
                refine seqR ?_
                refine at_run 2 [⟨false, [], vS (Instr.loadAt 71 (.pointer (some ⟨g3, 0, none⟩))), .agg #[.slice A2 r3.length c2, .int .i64 out2]⟩] [some (.agg #[.slice A2 r3.length c2, .int .i64 out2]), none] [4, 184, 185] [pl 4 (.pointer (some ⟨g2, 0, none⟩)), pl 184 (.agg #[.slice A2 r3.length c2, .int .i64 out2]), pl 185 (.bool (place2 == (w64 ((w64 ((w64 (b2 * (w64 (Int.tdiv (b1.length : Int) 2)))) + (w64 (Int.tdiv (b1.length : Int) 2)))) - 1))))] hF hS (by kernel_rfl) (by kernel_rfl) ?_ (fun a w hF hS => ?_)
                · exact obs_cons (ob_loadA (cs := #[.slice A2 r3.length c2, .int .i64 out2]) (by kernel_rfl) (by kernel_rfl) (fun _ _ hS => (hS.at_ 1 rfl).cellsAt 0 (by rfl))) <| obs_nil
                obtain ⟨w, hrun, hS⟩ := run_putA (P := Try.prog) (t := 71) (us := #[.slice A2 r3.length c2, .int .i64 out2]) (o := 0) (hS.at_ 0 rfl) (by kernel_rfl) (all_one (by kernel_rfl)) (Nat.le_of_ble_eq_true (by kernel_rfl))
                refine at_skip hF (by kernel_rfl) hrun ?_
                have hS : Sep w0 B w (blk g2 71 #[.slice A2 r3.length c2, .int .i64 out2] :: blk g3 71 #[.slice A2 r3.length c2, .int .i64 out2] :: own 3 (.slice A2 r3.length c2) (vI out1) :: fs) := hS
                refine at_run 2 [] [] [4, 5, 6] [pl 4 (.pointer (some ⟨g2, 0, none⟩)), pl 5 (.bool (place2 == (w64 ((w64 ((w64 (b2 * (w64 (Int.tdiv (b1.length : Int) 2)))) + (w64 (Int.tdiv (b1.length : Int) 2)))) - 1)))), pl 6 (.int .i64 0)] hF hS (by kernel_rfl) (by kernel_rfl) ?_ (fun a w hF hS => ?_)
                · exact obs_nil
                refine at_end [4, 5, 6] [pl 4 (.pointer (some ⟨g2, 0, none⟩)), pl 5 (.bool (place2 == (w64 ((w64 ((w64 (b2 * (w64 (Int.tdiv (b1.length : Int) 2)))) + (w64 (Int.tdiv (b1.length : Int) 2)))) - 1)))), pl 6 (.int .i64 0)] hF rfl (by kernel_rfl) (fun hF => ?_)
                refine then_n ?_
                refine wp_ret ?_
                have hl4 := (hS.at_ 2 rfl).len1
                have hS := (hS.at_ 2 rfl).reN hl4
                have hS := (hS.at_ 0 rfl).reBlk (congrArg (fun k9 => (#[.slice A2 k9 c2, .int .i64 out2] : Array Value)) hl4)
                have hS := (hS.at_ 1 rfl).reBlk (congrArg (fun k9 => (#[.slice A2 k9 c2, .int .i64 out2] : Array Value)) hl4)
                have hS : Sep w0 B w (blk g2 71 #[.slice A2 out1.length c2, .int .i64 out2] :: blk g3 71 #[.slice A2 out1.length c2, .int .i64 out2] :: own 3 (.slice A2 out1.length c2) (vI out1) :: fs) := hS
                have hld0 := run_loadVarA (P := Try.prog) (t := 71) (cs := #[.slice A2 out1.length c2, .int .i64 out2]) (by kernel_rfl) (by kernel_rfl) ((hS.at_ 0 rfl).cellsAt 0 (by rfl))
                have hS := hS.pickN 3 [2] (by decide)
                have hm : some (out1, out2, (place2 == (w64 ((w64 ((w64 (b2 * (w64 (Int.tdiv (b1.length : Int) 2)))) + (w64 (Int.tdiv (b1.length : Int) 2)))) - 1))), 0) = some r := hm
                obtain rfl := Option.some.inj hm
                exact retV (rs := [.cell 4 71, .tmp 5, .tmp 6]) (vs := [.agg #[.slice A2 out1.length c2, .int .i64 out2], .bool (place2 == (w64 ((w64 ((w64 (b2 * (w64 (Int.tdiv (b1.length : Int) 2)))) + (w64 (Int.tdiv (b1.length : Int) 2)))) - 1))), .int .i64 0]) hF rfl (rv_c (by kernel_rfl) hld0 <| rv_t (by kernel_rfl) <| rv_t (by kernel_rfl) <| rv_nil) rfl ⟨_, rfl, A2, c2, rfl, hS⟩
              · refine reg [] [] [2, 4, 14, 16, 179] [pl 2 (.pointer (some ⟨g1, 0, none⟩)), pl 4 (.pointer (some ⟨g2, 0, none⟩)), pl 14 (.bool (place2 == (w64 ((w64 ((w64 (b2 * (w64 (Int.tdiv (b1.length : Int) 2)))) + (w64 (Int.tdiv (b1.length : Int) 2)))) - 1)))), pl 16 (.pointer (some ⟨g3, 0, none⟩)), pl 179 (.bool (!(place2 == (w64 ((w64 ((w64 (b2 * (w64 (Int.tdiv (b1.length : Int) 2)))) + (w64 (Int.tdiv (b1.length : Int) 2)))) - 1)))))] hF hS Fol (by kernel_rfl) (by kernel_rfl) (by kernel_rfl) ?_ (fun a w hF hS => ?_)
                · exact obs_nil
                refine cond_ev (t := 179) (b := !(place2 == (w64 ((w64 ((w64 (b2 * (w64 (Int.tdiv (b1.length : Int) 2)))) + (w64 (Int.tdiv (b1.length : Int) 2)))) - 1)))) hF (by kernel_rfl) (fun hb => ?_) (fun hb => ?_)
                · replace hm := if_t hm hb
                  refine oneR ?_
                  refine at_run 4 [⟨false, [], vS (Instr.loadAt 3 (.pointer (some ⟨g1, 1, none⟩))), .int .i64 b2⟩] [none, some (.int .i64 b2), none, none] [4, 14, 16, 182, 183] [pl 4 (.pointer (some ⟨g2, 0, none⟩)), pl 14 (.bool (place2 == (w64 ((w64 ((w64 (b2 * (w64 (Int.tdiv (b1.length : Int) 2)))) + (w64 (Int.tdiv (b1.length : Int) 2)))) - 1)))), pl 16 (.pointer (some ⟨g3, 0, none⟩)), pl 182 (.int .i64 (w64 (1 - b2))), pl 183 (.pointer (some ⟨g3, 1, none⟩))] hF hS (by kernel_rfl) (by kernel_rfl) ?_ (fun a w hF hS => ?_)
                  · exact obs_cons (ob_load Agg3 (fun _ _ hS => (hS.at_ 0 rfl).cell rfl)) <| obs_nil
                  obtain ⟨w, hrun, hS⟩ := run_put (P := Try.prog) (t := 3) (u := .int .i64 (w64 (1 - b2))) (i := 1) (hS.at_ 2 rfl) hi3 hs3 rfl (Nat.lt_of_lt_of_eq (Nat.lt_of_succ_le (Nat.le_of_ble_eq_true (by kernel_rfl))) rfl)
                  refine at_skip hF (by kernel_rfl) hrun ?_
                  have hS : Sep w0 B w (blk g1 71 #[.slice A1 b1.length c1, .int .i64 b2] :: blk g2 71 #[.slice none 0 0, .int .i64 0] :: blk g3 71 #[.slice A2 r3.length c2, .int .i64 (w64 (1 - b2))] :: own 3 (.slice A2 r3.length c2) (vI out1) :: fs) := hS
                  refine at_end [4, 14, 16] [pl 4 (.pointer (some ⟨g2, 0, none⟩)), pl 14 (.bool (place2 == (w64 ((w64 ((w64 (b2 * (w64 (Int.tdiv (b1.length : Int) 2)))) + (w64 (Int.tdiv (b1.length : Int) 2)))) - 1)))), pl 16 (.pointer (some ⟨g3, 0, none⟩))] hF rfl (by kernel_rfl) (fun hF => ?_)
                  refine then_n ?_
                  have hS := hS.pickN 4 [1, 2, 3] (by decide)
                  exact ⟨(w64 (1 - b2)), hF.weak [4, 14, 16] (by kernel_rfl), hS, hm⟩
                · replace hm := if_f hm hb
                  refine wp_skip ?_
                  refine then_n ?_
                  have hS := hS.pickN 4 [1, 2, 3] (by decide)
                  exact ⟨b2, hF.weak [4, 14, 16] (by kernel_rfl), hS, hm⟩
            · obtain ⟨r4, hr4, hm⟩ := call_b hm
              refine reg [⟨false, [], vS (Instr.loadAt 71 (.pointer (some ⟨g3, 0, none⟩))), .agg #[.slice A2 r3.length c2, .int .i64 b2]⟩, ⟨false, [], callFunc 130 #[.agg #[.slice A2 r3.length c2, .int .i64 b2]], .bool r4⟩] [some (.agg #[.slice A2 r3.length c2, .int .i64 b2]), some (.bool r4)] [2, 4, 7, 8, 12, 14, 16, 139] [pl 2 (.pointer (some ⟨g1, 0, none⟩)), pl 4 (.pointer (some ⟨g2, 0, none⟩)), pl 7 (.int .i64 (b1.length : Int)), pl 8 (.int .i64 (w64 (Int.tdiv (b1.length : Int) 2))), pl 12 (.slice A2 r3.length c2), pl 14 (.bool (place2 == (w64 ((w64 ((w64 (b2 * (w64 (Int.tdiv (b1.length : Int) 2)))) + (w64 (Int.tdiv (b1.length : Int) 2)))) - 1)))), pl 16 (.pointer (some ⟨g3, 0, none⟩)), pl 139 (.bool r4)] hF hS Fol (by kernel_rfl) (by kernel_rfl) (by kernel_rfl) ?_ (fun a w hF hS => ?_)
              · exact obs_cons (ob_loadA (cs := #[.slice A2 r3.length c2, .int .i64 b2]) (by kernel_rfl) (by kernel_rfl) (fun _ _ hS => (hS.at_ 0 rfl).cellsAt 0 (by rfl))) <| obs_cons (ob_call Try.func130 (by kernel_rfl) rfl (fun _ _ hS => gameroomref_MancalaOver_w hr4 hS (fun _ hS => (hS.at_ 3 rfl).rd) ((hS.at_ 3 rfl).cap1) ((hS.at_ 3 rfl).len1))) <| obs_nil
              refine cond_ev (t := 139) (b := r4) hF (by kernel_rfl) (fun hb => ?_) (fun hb => ?_)
              · replace hm := if_t hm hb
                refine reg [] [] [2, 4, 7, 8, 12, 14, 16, 17] [pl 2 (.pointer (some ⟨g1, 0, none⟩)), pl 4 (.pointer (some ⟨g2, 0, none⟩)), pl 7 (.int .i64 (b1.length : Int)), pl 8 (.int .i64 (w64 (Int.tdiv (b1.length : Int) 2))), pl 12 (.slice A2 r3.length c2), pl 14 (.bool (place2 == (w64 ((w64 ((w64 (b2 * (w64 (Int.tdiv (b1.length : Int) 2)))) + (w64 (Int.tdiv (b1.length : Int) 2)))) - 1)))), pl 16 (.pointer (some ⟨g3, 0, none⟩)), pl 17 (.int .i64 0)] hF hS Fol (by kernel_rfl) (by kernel_rfl) (by kernel_rfl) ?_ (fun a w hF hS => ?_)
                · exact obs_nil
                refine wp_block ?_
                have hS := hS.pickN 4 [1, 2, 3, 0] (by decide)
                refine wp_loop_model (S := (List Int × Int)) (R := (List Int)) (gameroomref_SowOf_L2 b1 r3) (fun x => ((gameroomref_SowOf_K2 b1 b2 place2) x).bind some) r (fun (x : (List Int × Int)) a w => Fr 186 [pl 2 (.pointer (some ⟨g1, 0, none⟩)), pl 4 (.pointer (some ⟨g2, 0, none⟩)), pl 7 (.int .i64 (b1.length : Int)), pl 8 (.int .i64 (w64 (Int.tdiv (b1.length : Int) 2))), pl 12 (.slice A2 r3.length c2), pl 14 (.bool (place2 == (w64 ((w64 ((w64 (b2 * (w64 (Int.tdiv (b1.length : Int) 2)))) + (w64 (Int.tdiv (b1.length : Int) 2)))) - 1)))), pl 16 (.pointer (some ⟨g3, 0, none⟩)), pl 17 (.int .i64 x.2)] a ∧ Sep w0 B w (blk g1 71 #[.slice A1 b1.length c1, .int .i64 b2] :: blk g2 71 #[.slice none 0 0, .int .i64 0] :: own 3 (.slice A2 r3.length c2) (vI x.1) :: blk g3 71 #[.slice A2 r3.length c2, .int .i64 b2] :: fs)) (assoc_b hm) ⟨hF.weak [2, 4, 7, 8, 12, 14, 16, 17] (by kernel_rfl), hS⟩ ?_
                clear hF hS hm
                rintro nn2 ⟨s4, i1⟩ a w ⟨hF, hS⟩ hm
                generalize hφ2 : stK (gameroomref_SowOf_L2 b1 r3) nn2 (fun x => ((gameroomref_SowOf_K2 b1 b2 place2) x).bind some) = φ2 at hm
                unfold gameroomref_SowOf_L2 at hm
                dsimp only at hF hS hm
                refine seq_cut (fun a w => Fr 186 [pl 2 (.pointer (some ⟨g1, 0, none⟩)), pl 4 (.pointer (some ⟨g2, 0, none⟩)), pl 7 (.int .i64 (b1.length : Int)), pl 8 (.int .i64 (w64 (Int.tdiv (b1.length : Int) 2))), pl 12 (.slice A2 r3.length c2), pl 14 (.bool (place2 == (w64 ((w64 ((w64 (b2 * (w64 (Int.tdiv (b1.length : Int) 2)))) + (w64 (Int.tdiv (b1.length : Int) 2)))) - 1)))), pl 16 (.pointer (some ⟨g3, 0, none⟩)), pl 17 (.int .i64 i1)] a ∧ Sep w0 B w (blk g1 71 #[.slice A1 b1.length c1, .int .i64 b2] :: blk g2 71 #[.slice none 0 0, .int .i64 0] :: own 3 (.slice A2 r3.length c2) (vI s4) :: blk g3 71 #[.slice A2 r3.length c2, .int .i64 b2] :: fs) ∧ ((gameroomref_SowOf_J9 b1 r3 s4 i1)).bind φ2 = some r) ?_ ?_
                · rintro a w ⟨hF, hS, hm⟩
                  unfold gameroomref_SowOf_J9 at hm
                  refine seq_cut (fun a w => Fr 186 [pl 2 (.pointer (some ⟨g1, 0, none⟩)), pl 4 (.pointer (some ⟨g2, 0, none⟩)), pl 7 (.int .i64 (b1.length : Int)), pl 8 (.int .i64 (w64 (Int.tdiv (b1.length : Int) 2))), pl 12 (.slice A2 r3.length c2), pl 14 (.bool (place2 == (w64 ((w64 ((w64 (b2 * (w64 (Int.tdiv (b1.length : Int) 2)))) + (w64 (Int.tdiv (b1.length : Int) 2)))) - 1)))), pl 16 (.pointer (some ⟨g3, 0, none⟩)), pl 17 (.int .i64 i1)] a ∧ Sep w0 B w (blk g1 71 #[.slice A1 b1.length c1, .int .i64 b2] :: blk g2 71 #[.slice none 0 0, .int .i64 0] :: own 3 (.slice A2 r3.length c2) (vI ((((s4.set (Int.toNat (w64 ((w64 (Int.tdiv (b1.length : Int) 2)) - 1))) (w64 ((geti s4 (w64 ((w64 (Int.tdiv (b1.length : Int) 2)) - 1))) + (geti s4 i1)))).set (Int.toNat i1) 0).set (Int.toNat (w64 ((b1.length : Int) - 1))) (w64 ((geti ((s4.set (Int.toNat (w64 ((w64 (Int.tdiv (b1.length : Int) 2)) - 1))) (w64 ((geti s4 (w64 ((w64 (Int.tdiv (b1.length : Int) 2)) - 1))) + (geti s4 i1)))).set (Int.toNat i1) 0) (w64 ((b1.length : Int) - 1))) + (geti ((s4.set (Int.toNat (w64 ((w64 (Int.tdiv (b1.length : Int) 2)) - 1))) (w64 ((geti s4 (w64 ((w64 (Int.tdiv (b1.length : Int) 2)) - 1))) + (geti s4 i1)))).set (Int.toNat i1) 0) (w64 ((w64 (Int.tdiv (b1.length : Int) 2)) + i1)))))).set (Int.toNat (w64 ((w64 (Int.tdiv (b1.length : Int) 2)) + i1))) 0)) :: blk g3 71 #[.slice A2 r3.length c2, .int .i64 b2] :: fs) ∧ ((gameroomref_SowOf_J10 b1 s4 i1)).bind φ2 = some r) ?_ ?_
                  · rintro a w ⟨hF, hS, hm⟩
                    unfold gameroomref_SowOf_J10 at hm
                    refine reg1 [] [] [2, 4, 7, 8, 12, 14, 16, 17] [pl 2 (.pointer (some ⟨g1, 0, none⟩)), pl 4 (.pointer (some ⟨g2, 0, none⟩)), pl 7 (.int .i64 (b1.length : Int)), pl 8 (.int .i64 (w64 (Int.tdiv (b1.length : Int) 2))), pl 12 (.slice A2 r3.length c2), pl 14 (.bool (place2 == (w64 ((w64 ((w64 (b2 * (w64 (Int.tdiv (b1.length : Int) 2)))) + (w64 (Int.tdiv (b1.length : Int) 2)))) - 1)))), pl 16 (.pointer (some ⟨g3, 0, none⟩)), pl 17 (.int .i64 (w64 (i1 + 1)))] hF hS Fol (by kernel_rfl) (by kernel_rfl) (by kernel_rfl) ?_ (fun a w hF hS => ?_)
                    · exact obs_nil
                    refine then_n ?_
                    rw [← hφ2] at hm
                    exact ⟨(((((s4.set (Int.toNat (w64 ((w64 (Int.tdiv (b1.length : Int) 2)) - 1))) (w64 ((geti s4 (w64 ((w64 (Int.tdiv (b1.length : Int) 2)) - 1))) + (geti s4 i1)))).set (Int.toNat i1) 0).set (Int.toNat (w64 ((b1.length : Int) - 1))) (w64 ((geti ((s4.set (Int.toNat (w64 ((w64 (Int.tdiv (b1.length : Int) 2)) - 1))) (w64 ((geti s4 (w64 ((w64 (Int.tdiv (b1.length : Int) 2)) - 1))) + (geti s4 i1)))).set (Int.toNat i1) 0) (w64 ((b1.length : Int) - 1))) + (geti ((s4.set (Int.toNat (w64 ((w64 (Int.tdiv (b1.length : Int) 2)) - 1))) (w64 ((geti s4 (w64 ((w64 (Int.tdiv (b1.length : Int) 2)) - 1))) + (geti s4 i1)))).set (Int.toNat i1) 0) (w64 ((w64 (Int.tdiv (b1.length : Int) 2)) + i1)))))).set (Int.toNat (w64 ((w64 (Int.tdiv (b1.length : Int) 2)) + i1))) 0), (w64 (i1 + 1))), ⟨hF.weak [2, 4, 7, 8, 12, 14, 16, 17] (by kernel_rfl), hS⟩, hm⟩
                  · refine wp_block ?_
                    refine wp_seq ?_
                    obtain ⟨hp15, hm⟩ := asrt_b hm
                    obtain ⟨hp16, hm⟩ := asrt_b hm
                    obtain ⟨hp17, hm⟩ := asrt_b hm
                    refine regMix4 [0, 1, 2, 3, 4, 5, 6, 7, 8, 9, 10] [11] [⟨true, [], vS (Instr.indexAt 40 (.slice A2 r3.length c2) (.int .i64 (w64 ((w64 (Int.tdiv (b1.length : Int) 2)) - 1)))), .pointer (some (sAddr A2 (w64 ((w64 (Int.tdiv (b1.length : Int) 2)) - 1))))⟩, ⟨false, [], vS (Instr.loadAt 3 (.pointer (some (sAddr A2 (w64 ((w64 (Int.tdiv (b1.length : Int) 2)) - 1)))))), .int .i64 (geti s4 (w64 ((w64 (Int.tdiv (b1.length : Int) 2)) - 1)))⟩, ⟨true, [], vS (Instr.indexAt 40 (.slice A2 r3.length c2) (.int .i64 i1)), .pointer (some (sAddr A2 i1))⟩, ⟨false, [], vS (Instr.loadAt 3 (.pointer (some (sAddr A2 i1)))), .int .i64 (geti s4 i1)⟩, ⟨true, [], vS (Instr.indexAt 40 (.slice A2 r3.length c2) (.int .i64 (w64 ((w64 (Int.tdiv (b1.length : Int) 2)) - 1)))), .pointer (some (sAddr A2 (w64 ((w64 (Int.tdiv (b1.length : Int) 2)) - 1))))⟩] [none, none, none, some (.pointer (some (sAddr A2 (w64 ((w64 (Int.tdiv (b1.length : Int) 2)) - 1))))), some (.int .i64 (geti s4 (w64 ((w64 (Int.tdiv (b1.length : Int) 2)) - 1)))), none, none, some (.pointer (some (sAddr A2 i1))), some (.int .i64 (geti s4 i1)), none, some (.pointer (some (sAddr A2 (w64 ((w64 (Int.tdiv (b1.length : Int) 2)) - 1)))))] [2, 4, 7, 8, 12, 14, 16, 17, 155, 156] [pl 2 (.pointer (some ⟨g1, 0, none⟩)), pl 4 (.pointer (some ⟨g2, 0, none⟩)), pl 7 (.int .i64 (b1.length : Int)), pl 8 (.int .i64 (w64 (Int.tdiv (b1.length : Int) 2))), pl 12 (.slice A2 r3.length c2), pl 14 (.bool (place2 == (w64 ((w64 ((w64 (b2 * (w64 (Int.tdiv (b1.length : Int) 2)))) + (w64 (Int.tdiv (b1.length : Int) 2)))) - 1)))), pl 16 (.pointer (some ⟨g3, 0, none⟩)), pl 17 (.int .i64 i1), pl 155 (.int .i64 (w64 ((geti s4 (w64 ((w64 (Int.tdiv (b1.length : Int) 2)) - 1))) + (geti s4 i1)))), pl 156 (.pointer (some (sAddr A2 (w64 ((w64 (Int.tdiv (b1.length : Int) 2)) - 1)))))] hF hS Fol (by kernel_rfl) (by kernel_rfl) (by kernel_rfl) (by kernel_rfl) (by kernel_rfl) ?_ (fun a w hF hS => ?_)
                    · exact obs_cons (ob_ix1 (f := (Value.int .i64)) (m := s4) Und40 hi3 hs3 (hS.at_ 2 rfl).rd ((hS.at_ 2 rfl).len1) (fun _ => hp15)) <| obs_cons (ob_get1 (n := r3.length) (m := s4) (Value.int .i64) (0 : Int) Agg3 (fun _ hS => ⟨_, (hS.at_ 2 rfl).rd⟩) (fun _ hS => ((hS.at_ 2 rfl).len1)) (fun _ => hp15)) <| obs_cons (ob_ix1 (f := (Value.int .i64)) (m := s4) Und40 hi3 hs3 (hS.at_ 2 rfl).rd ((hS.at_ 2 rfl).len1) (fun _ => hp16)) <| obs_cons (ob_get1 (n := r3.length) (m := s4) (Value.int .i64) (0 : Int) Agg3 (fun _ hS => ⟨_, (hS.at_ 2 rfl).rd⟩) (fun _ hS => ((hS.at_ 2 rfl).len1)) (fun _ => hp16)) <| obs_cons (ob_ix1 (f := (Value.int .i64)) (m := s4) Und40 hi3 hs3 (hS.at_ 2 rfl).rd ((hS.at_ 2 rfl).len1) (fun _ => hp17)) <| obs_nil
                    obtain ⟨w, hrun, hS⟩ := run_set1 (P := Try.prog) (t := 3) (x := (w64 ((geti s4 (w64 ((w64 (Int.tdiv (b1.length : Int) 2)) - 1))) + (geti s4 i1)))) (Value.int .i64) (hS.at_ 2 rfl) hi3 hs3 rfl rfl hp17
                    refine at_skip hF (by kernel_rfl) hrun ?_
                    have hS : Sep w0 B w (blk g1 71 #[.slice A1 b1.length c1, .int .i64 b2] :: blk g2 71 #[.slice none 0 0, .int .i64 0] :: own 3 (.slice A2 r3.length c2) (vI (s4.set (Int.toNat (w64 ((w64 (Int.tdiv (b1.length : Int) 2)) - 1))) (w64 ((geti s4 (w64 ((w64 (Int.tdiv (b1.length : Int) 2)) - 1))) + (geti s4 i1))))) :: blk g3 71 #[.slice A2 r3.length c2, .int .i64 b2] :: fs) := hS
                    refine at_end [2, 4, 7, 8, 12, 14, 16, 17] [pl 2 (.pointer (some ⟨g1, 0, none⟩)), pl 4 (.pointer (some ⟨g2, 0, none⟩)), pl 7 (.int .i64 (b1.length : Int)), pl 8 (.int .i64 (w64 (Int.tdiv (b1.length : Int) 2))), pl 12 (.slice A2 r3.length c2), pl 14 (.bool (place2 == (w64 ((w64 ((w64 (b2 * (w64 (Int.tdiv (b1.length : Int) 2)))) + (w64 (Int.tdiv (b1.length : Int) 2)))) - 1)))), pl 16 (.pointer (some ⟨g3, 0, none⟩)), pl 17 (.int .i64 i1)] hF rfl (by kernel_rfl) (fun hF => ?_)
                    refine np_n ?_
                    refine then_n ?_
                    refine seqR ?_
                    obtain ⟨hp18, hm⟩ := asrt_b hm
                    refine at_run 3 [⟨true, [], vS (Instr.indexAt 40 (.slice A2 r3.length c2) (.int .i64 i1)), .pointer (some (sAddr A2 i1))⟩] [none, none, some (.pointer (some (sAddr A2 i1)))] [2, 4, 7, 8, 12, 14, 16, 17, 159] [pl 2 (.pointer (some ⟨g1, 0, none⟩)), pl 4 (.pointer (some ⟨g2, 0, none⟩)), pl 7 (.int .i64 (b1.length : Int)), pl 8 (.int .i64 (w64 (Int.tdiv (b1.length : Int) 2))), pl 12 (.slice A2 r3.length c2), pl 14 (.bool (place2 == (w64 ((w64 ((w64 (b2 * (w64 (Int.tdiv (b1.length : Int) 2)))) + (w64 (Int.tdiv (b1.length : Int) 2)))) - 1)))), pl 16 (.pointer (some ⟨g3, 0, none⟩)), pl 17 (.int .i64 i1), pl 159 (.pointer (some (sAddr A2 i1)))] hF hS (by kernel_rfl) (by kernel_rfl) ?_ (fun a w hF hS => ?_)
                    · exact obs_cons (ob_ix1 (f := (Value.int .i64)) (m := (s4.set (Int.toNat (w64 ((w64 (Int.tdiv (b1.length : Int) 2)) - 1))) (w64 ((geti s4 (w64 ((w64 (Int.tdiv (b1.length : Int) 2)) - 1))) + (geti s4 i1))))) Und40 hi3 hs3 (hS.at_ 2 rfl).rd ((hS.at_ 2 rfl).len1) (fun _ => hp18)) <| obs_nil
                    obtain ⟨w, hrun, hS⟩ := run_set1 (P := Try.prog) (t := 3) (x := 0) (Value.int .i64) (hS.at_ 2 rfl) hi3 hs3 rfl rfl hp18
                    refine at_skip hF (by kernel_rfl) hrun ?_
                    have hS : Sep w0 B w (blk g1 71 #[.slice A1 b1.length c1, .int .i64 b2] :: blk g2 71 #[.slice none 0 0, .int .i64 0] :: own 3 (.slice A2 r3.length c2) (vI ((s4.set (Int.toNat (w64 ((w64 (Int.tdiv (b1.length : Int) 2)) - 1))) (w64 ((geti s4 (w64 ((w64 (Int.tdiv (b1.length : Int) 2)) - 1))) + (geti s4 i1)))).set (Int.toNat i1) 0)) :: blk g3 71 #[.slice A2 r3.length c2, .int .i64 b2] :: fs) := hS
                    refine at_end [2, 4, 7, 8, 12, 14, 16, 17] [pl 2 (.pointer (some ⟨g1, 0, none⟩)), pl 4 (.pointer (some ⟨g2, 0, none⟩)), pl 7 (.int .i64 (b1.length : Int)), pl 8 (.int .i64 (w64 (Int.tdiv (b1.length : Int) 2))), pl 12 (.slice A2 r3.length c2), pl 14 (.bool (place2 == (w64 ((w64 ((w64 (b2 * (w64 (Int.tdiv (b1.length : Int) 2)))) + (w64 (Int.tdiv (b1.length : Int) 2)))) - 1)))), pl 16 (.pointer (some ⟨g3, 0, none⟩)), pl 17 (.int .i64 i1)] hF rfl (by kernel_rfl) (fun hF => ?_)
                    refine then_n ?_
                    refine wp_seq ?_
                    obtain ⟨hp19, hm⟩ := asrt_b hm
                    obtain ⟨hp20, hm⟩ := asrt_b hm
                    obtain ⟨hp21, hm⟩ := asrt_b hm
                    refine regMix4 [0, 1, 2, 3, 4, 5, 6, 7, 8, 9, 10, 11, 12] [13] [⟨true, [], vS (Instr.indexAt 40 (.slice A2 r3.length c2) (.int .i64 (w64 ((b1.length : Int) - 1)))), .pointer (some (sAddr A2 (w64 ((b1.length : Int) - 1))))⟩, ⟨false, [], vS (Instr.loadAt 3 (.pointer (some (sAddr A2 (w64 ((b1.length : Int) - 1)))))), .int .i64 (geti ((s4.set (Int.toNat (w64 ((w64 (Int.tdiv (b1.length : Int) 2)) - 1))) (w64 ((geti s4 (w64 ((w64 (Int.tdiv (b1.length : Int) 2)) - 1))) + (geti s4 i1)))).set (Int.toNat i1) 0) (w64 ((b1.length : Int) - 1)))⟩, ⟨true, [], vS (Instr.indexAt 40 (.slice A2 r3.length c2) (.int .i64 (w64 ((w64 (Int.tdiv (b1.length : Int) 2)) + i1)))), .pointer (some (sAddr A2 (w64 ((w64 (Int.tdiv (b1.length : Int) 2)) + i1))))⟩, ⟨false, [], vS (Instr.loadAt 3 (.pointer (some (sAddr A2 (w64 ((w64 (Int.tdiv (b1.length : Int) 2)) + i1)))))), .int .i64 (geti ((s4.set (Int.toNat (w64 ((w64 (Int.tdiv (b1.length : Int) 2)) - 1))) (w64 ((geti s4 (w64 ((w64 (Int.tdiv (b1.length : Int) 2)) - 1))) + (geti s4 i1)))).set (Int.toNat i1) 0) (w64 ((w64 (Int.tdiv (b1.length : Int) 2)) + i1)))⟩, ⟨true, [], vS (Instr.indexAt 40 (.slice A2 r3.length c2) (.int .i64 (w64 ((b1.length : Int) - 1)))), .pointer (some (sAddr A2 (w64 ((b1.length : Int) - 1))))⟩] [none, none, none, some (.pointer (some (sAddr A2 (w64 ((b1.length : Int) - 1))))), some (.int .i64 (geti ((s4.set (Int.toNat (w64 ((w64 (Int.tdiv (b1.length : Int) 2)) - 1))) (w64 ((geti s4 (w64 ((w64 (Int.tdiv (b1.length : Int) 2)) - 1))) + (geti s4 i1)))).set (Int.toNat i1) 0) (w64 ((b1.length : Int) - 1)))), none, none, none, none, some (.pointer (some (sAddr A2 (w64 ((w64 (Int.tdiv (b1.length : Int) 2)) + i1))))), some (.int .i64 (geti ((s4.set (Int.toNat (w64 ((w64 (Int.tdiv (b1.length : Int) 2)) - 1))) (w64 ((geti s4 (w64 ((w64 (Int.tdiv (b1.length : Int) 2)) - 1))) + (geti s4 i1)))).set (Int.toNat i1) 0) (w64 ((w64 (Int.tdiv (b1.length : Int) 2)) + i1)))), none, some (.pointer (some (sAddr A2 (w64 ((b1.length : Int) - 1)))))] [2, 4, 7, 8, 12, 14, 16, 17, 171, 172] [pl 2 (.pointer (some ⟨g1, 0, none⟩)), pl 4 (.pointer (some ⟨g2, 0, none⟩)), pl 7 (.int .i64 (b1.length : Int)), pl 8 (.int .i64 (w64 (Int.tdiv (b1.length : Int) 2))), pl 12 (.slice A2 r3.length c2), pl 14 (.bool (place2 == (w64 ((w64 ((w64 (b2 * (w64 (Int.tdiv (b1.length : Int) 2)))) + (w64 (Int.tdiv (b1.length : Int) 2)))) - 1)))), pl 16 (.pointer (some ⟨g3, 0, none⟩)), pl 17 (.int .i64 i1), pl 171 (.int .i64 (w64 ((geti ((s4.set (Int.toNat (w64 ((w64 (Int.tdiv (b1.length : Int) 2)) - 1))) (w64 ((geti s4 (w64 ((w64 (Int.tdiv (b1.length : Int) 2)) - 1))) + (geti s4 i1)))).set (Int.toNat i1) 0) (w64 ((b1.length : Int) - 1))) + (geti ((s4.set (Int.toNat (w64 ((w64 (Int.tdiv (b1.length : Int) 2)) - 1))) (w64 ((geti s4 (w64 ((w64 (Int.tdiv (b1.length : Int) 2)) - 1))) + (geti s4 i1)))).set (Int.toNat i1) 0) (w64 ((w64 (Int.tdiv (b1.length : Int) 2)) + i1)))))), pl 172 (.pointer (some (sAddr A2 (w64 ((b1.length : Int) - 1)))))] hF hS Fol (by kernel_rfl) (by kernel_rfl) (by kernel_rfl) (by kernel_rfl) (by kernel_rfl) ?_ (fun a w hF hS => ?_)
                    · exact obs_cons (ob_ix1 (f := (Value.int .i64)) (m := ((s4.set (Int.toNat (w64 ((w64 (Int.tdiv (b1.length : Int) 2)) - 1))) (w64 ((geti s4 (w64 ((w64 (Int.tdiv (b1.length : Int) 2)) - 1))) + (geti s4 i1)))).set (Int.toNat i1) 0)) Und40 hi3 hs3 (hS.at_ 2 rfl).rd ((hS.at_ 2 rfl).len1) (fun _ => hp19)) <| obs_cons (ob_get1 (n := r3.length) (m := ((s4.set (Int.toNat (w64 ((w64 (Int.tdiv (b1.length : Int) 2)) - 1))) (w64 ((geti s4 (w64 ((w64 (Int.tdiv (b1.length : Int) 2)) - 1))) + (geti s4 i1)))).set (Int.toNat i1) 0)) (Value.int .i64) (0 : Int) Agg3 (fun _ hS => ⟨_, (hS.at_ 2 rfl).rd⟩) (fun _ hS => ((hS.at_ 2 rfl).len1)) (fun _ => hp19)) <| obs_cons (ob_ix1 (f := (Value.int .i64)) (m := ((s4.set (Int.toNat (w64 ((w64 (Int.tdiv (b1.length : Int) 2)) - 1))) (w64 ((geti s4 (w64 ((w64 (Int.tdiv (b1.length : Int) 2)) - 1))) + (geti s4 i1)))).set (Int.toNat i1) 0)) Und40 hi3 hs3 (hS.at_ 2 rfl).rd ((hS.at_ 2 rfl).len1) (fun _ => hp20)) <| obs_cons (ob_get1 (n := r3.length) (m := ((s4.set (Int.toNat (w64 ((w64 (Int.tdiv (b1.length : Int) 2)) - 1))) (w64 ((geti s4 (w64 ((w64 (Int.tdiv (b1.length : Int) 2)) - 1))) + (geti s4 i1)))).set (Int.toNat i1) 0)) (Value.int .i64) (0 : Int) Agg3 (fun _ hS => ⟨_, (hS.at_ 2 rfl).rd⟩) (fun _ hS => ((hS.at_ 2 rfl).len1)) (fun _ => hp20)) <| obs_cons (ob_ix1 (f := (Value.int .i64)) (m := ((s4.set (Int.toNat (w64 ((w64 (Int.tdiv (b1.length : Int) 2)) - 1))) (w64 ((geti s4 (w64 ((w64 (Int.tdiv (b1.length : Int) 2)) - 1))) + (geti s4 i1)))).set (Int.toNat i1) 0)) Und40 hi3 hs3 (hS.at_ 2 rfl).rd ((hS.at_ 2 rfl).len1) (fun _ => hp21)) <| obs_nil
                    obtain ⟨w, hrun, hS⟩ := run_set1 (P := Try.prog) (t := 3) (x := (w64 ((geti ((s4.set (Int.toNat (w64 ((w64 (Int.tdiv (b1.length : Int) 2)) - 1))) (w64 ((geti s4 (w64 ((w64 (Int.tdiv (b1.length : Int) 2)) - 1))) + (geti s4 i1)))).set (Int.toNat i1) 0) (w64 ((b1.length : Int) - 1))) + (geti ((s4.set (Int.toNat (w64 ((w64 (Int.tdiv (b1.length : Int) 2)) - 1))) (w64 ((geti s4 (w64 ((w64 (Int.tdiv (b1.length : Int) 2)) - 1))) + (geti s4 i1)))).set (Int.toNat i1) 0) (w64 ((w64 (Int.tdiv (b1.length : Int) 2)) + i1)))))) (Value.int .i64) (hS.at_ 2 rfl) hi3 hs3 rfl rfl hp21
                    refine at_skip hF (by kernel_rfl) hrun ?_
                    have hS : Sep w0 B w (blk g1 71 #[.slice A1 b1.length c1, .int .i64 b2] :: blk g2 71 #[.slice none 0 0, .int .i64 0] :: own 3 (.slice A2 r3.length c2) (vI (((s4.set (Int.toNat (w64 ((w64 (Int.tdiv (b1.length : Int) 2)) - 1))) (w64 ((geti s4 (w64 ((w64 (Int.tdiv (b1.length : Int) 2)) - 1))) + (geti s4 i1)))).set (Int.toNat i1) 0).set (Int.toNat (w64 ((b1.length : Int) - 1))) (w64 ((geti ((s4.set (Int.toNat (w64 ((w64 (Int.tdiv (b1.length : Int) 2)) - 1))) (w64 ((geti s4 (w64 ((w64 (Int.tdiv (b1.length : Int) 2)) - 1))) + (geti s4 i1)))).set (Int.toNat i1) 0) (w64 ((b1.length : Int) - 1))) + (geti ((s4.set (Int.toNat (w64 ((w64 (Int.tdiv (b1.length : Int) 2)) - 1))) (w64 ((geti s4 (w64 ((w64 (Int.tdiv (b1.length : Int) 2)) - 1))) + (geti s4 i1)))).set (Int.toNat i1) 0) (w64 ((w64 (Int.tdiv (b1.length : Int) 2)) + i1))))))) :: blk g3 71 #[.slice A2 r3.length c2, .int .i64 b2] :: fs) := hS
                    refine at_end [2, 4, 7, 8, 12, 14, 16, 17] [pl 2 (.pointer (some ⟨g1, 0, none⟩)), pl 4 (.pointer (some ⟨g2, 0, none⟩)), pl 7 (.int .i64 (b1.length : Int)), pl 8 (.int .i64 (w64 (Int.tdiv (b1.length : Int) 2))), pl 12 (.slice A2 r3.length c2), pl 14 (.bool (place2 == (w64 ((w64 ((w64 (b2 * (w64 (Int.tdiv (b1.length : Int) 2)))) + (w64 (Int.tdiv (b1.length : Int) 2)))) - 1)))), pl 16 (.pointer (some ⟨g3, 0, none⟩)), pl 17 (.int .i64 i1)] hF rfl (by kernel_rfl) (fun hF => ?_)
                    refine np_n ?_
                    refine then_n ?_
                    refine oneR ?_
                    obtain ⟨hp22, hm⟩ := asrt_b hm
                    refine at_run 5 [⟨true, [], vS (Instr.indexAt 40 (.slice A2 r3.length c2) (.int .i64 (w64 ((w64 (Int.tdiv (b1.length : Int) 2)) + i1)))), .pointer (some (sAddr A2 (w64 ((w64 (Int.tdiv (b1.length : Int) 2)) + i1))))⟩] [none, none, none, none, some (.pointer (some (sAddr A2 (w64 ((w64 (Int.tdiv (b1.length : Int) 2)) + i1)))))] [2, 4, 7, 8, 12, 14, 16, 17, 177] [pl 2 (.pointer (some ⟨g1, 0, none⟩)), pl 4 (.pointer (some ⟨g2, 0, none⟩)), pl 7 (.int .i64 (b1.length : Int)), pl 8 (.int .i64 (w64 (Int.tdiv (b1.length : Int) 2))), pl 12 (.slice A2 r3.length c2), pl 14 (.bool (place2 == (w64 ((w64 ((w64 (b2 * (w64 (Int.tdiv (b1.length : Int) 2)))) + (w64 (Int.tdiv (b1.length : Int) 2)))) - 1)))), pl 16 (.pointer (some ⟨g3, 0, none⟩)), pl 17 (.int .i64 i1), pl 177 (.pointer (some (sAddr A2 (w64 ((w64 (Int.tdiv (b1.length : Int) 2)) + i1)))))] hF hS (by kernel_rfl) (by kernel_rfl) ?_ (fun a w hF hS => ?_)
                    · exact obs_cons (ob_ix1 (f := (Value.int .i64)) (m := (((s4.set (Int.toNat (w64 ((w64 (Int.tdiv (b1.length : Int) 2)) - 1))) (w64 ((geti s4 (w64 ((w64 (Int.tdiv (b1.length : Int) 2)) - 1))) + (geti s4 i1)))).set (Int.toNat i1) 0).set (Int.toNat (w64 ((b1.length : Int) - 1))) (w64 ((geti ((s4.set (Int.toNat (w64 ((w64 (Int.tdiv (b1.length : Int) 2)) - 1))) (w64 ((geti s4 (w64 ((w64 (Int.tdiv (b1.length : Int) 2)) - 1))) + (geti s4 i1)))).set (Int.toNat i1) 0) (w64 ((b1.length : Int) - 1))) + (geti ((s4.set (Int.toNat (w64 ((w64 (Int.tdiv (b1.length : Int) 2)) - 1))) (w64 ((geti s4 (w64 ((w64 (Int.tdiv (b1.length : Int) 2)) - 1))) + (geti s4 i1)))).set (Int.toNat i1) 0) (w64 ((w64 (Int.tdiv (b1.length : Int) 2)) + i1))))))) Und40 hi3 hs3 (hS.at_ 2 rfl).rd ((hS.at_ 2 rfl).len1) (fun _ => hp22)) <| obs_nil
                    obtain ⟨w, hrun, hS⟩ := run_set1 (P := Try.prog) (t := 3) (x := 0) (Value.int .i64) (hS.at_ 2 rfl) hi3 hs3 rfl rfl hp22
                    refine at_skip hF (by kernel_rfl) hrun ?_
                    have hS : Sep w0 B w (blk g1 71 #[.slice A1 b1.length c1, .int .i64 b2] :: blk g2 71 #[.slice none 0 0, .int .i64 0] :: own 3 (.slice A2 r3.length c2) (vI ((((s4.set (Int.toNat (w64 ((w64 (Int.tdiv (b1.length : Int) 2)) - 1))) (w64 ((geti s4 (w64 ((w64 (Int.tdiv (b1.length : Int) 2)) - 1))) + (geti s4 i1)))).set (Int.toNat i1) 0).set (Int.toNat (w64 ((b1.length : Int) - 1))) (w64 ((geti ((s4.set (Int.toNat (w64 ((w64 (Int.tdiv (b1.length : Int) 2)) - 1))) (w64 ((geti s4 (w64 ((w64 (Int.tdiv (b1.length : Int) 2)) - 1))) + (geti s4 i1)))).set (Int.toNat i1) 0) (w64 ((b1.length : Int) - 1))) + (geti ((s4.set (Int.toNat (w64 ((w64 (Int.tdiv (b1.length : Int) 2)) - 1))) (w64 ((geti s4 (w64 ((w64 (Int.tdiv (b1.length : Int) 2)) - 1))) + (geti s4 i1)))).set (Int.toNat i1) 0) (w64 ((w64 (Int.tdiv (b1.length : Int) 2)) + i1)))))).set (Int.toNat (w64 ((w64 (Int.tdiv (b1.length : Int) 2)) + i1))) 0)) :: blk g3 71 #[.slice A2 r3.length c2, .int .i64 b2] :: fs) := hS
                    refine at_end [2, 4, 7, 8, 12, 14, 16, 17] [pl 2 (.pointer (some ⟨g1, 0, none⟩)), pl 4 (.pointer (some ⟨g2, 0, none⟩)), pl 7 (.int .i64 (b1.length : Int)), pl 8 (.int .i64 (w64 (Int.tdiv (b1.length : Int) 2))), pl 12 (.slice A2 r3.length c2), pl 14 (.bool (place2 == (w64 ((w64 ((w64 (b2 * (w64 (Int.tdiv (b1.length : Int) 2)))) + (w64 (Int.tdiv (b1.length : Int) 2)))) - 1)))), pl 16 (.pointer (some ⟨g3, 0, none⟩)), pl 17 (.int .i64 i1)] hF rfl (by kernel_rfl) (fun hF => ?_)
                    refine block_n ?_
                    refine then_n ?_
                    exact ⟨hF.weak [2, 4, 7, 8, 12, 14, 16, 17] (by kernel_rfl), hS, hm⟩
                · refine reg [] [] [2, 4, 7, 8, 12, 14, 16, 17, 143] [pl 2 (.pointer (some ⟨g1, 0, none⟩)), pl 4 (.pointer (some ⟨g2, 0, none⟩)), pl 7 (.int .i64 (b1.length : Int)), pl 8 (.int .i64 (w64 (Int.tdiv (b1.length : Int) 2))), pl 12 (.slice A2 r3.length c2), pl 14 (.bool (place2 == (w64 ((w64 ((w64 (b2 * (w64 (Int.tdiv (b1.length : Int) 2)))) + (w64 (Int.tdiv (b1.length : Int) 2)))) - 1)))), pl 16 (.pointer (some ⟨g3, 0, none⟩)), pl 17 (.int .i64 i1), pl 143 (.bool (decide (i1 < (w64 ((w64 (Int.tdiv (b1.length : Int) 2)) - 1)))))] hF hS Fol (by kernel_rfl) (by kernel_rfl) (by kernel_rfl) ?_ (fun a w hF hS => ?_)
                  · exact obs_nil
                  refine cond_ev (t := 143) (b := decide (i1 < (w64 ((w64 (Int.tdiv (b1.length : Int) 2)) - 1)))) hF (by kernel_rfl) (fun hb => ?_) (fun hb => ?_)
                  · replace hm := if_t hm hb
                    refine wp_skip ?_
                    refine then_n ?_
                    exact ⟨hF.weak [2, 4, 7, 8, 12, 14, 16, 17] (by kernel_rfl), hS, hm⟩
                  · replace hm := if_f hm hb
                    refine wp_exit ?_
                    refine then_e (then_e (block_e (then_n ?_)))
                    have hS := hS.pickN 4 [0, 1, 3, 2] (by decide)
                    rw [← hφ2] at hm
                    replace hm := done_b hm
                    unfold gameroomref_SowOf_K2 at hm
                    try dsimp only at hm
                    have hm : ((gameroomref_SowOf_J8 b1 b2 place2) s4).bind some = some r := hm
                    exact ⟨s4, hF.weak [2, 4, 14, 16] (by kernel_rfl), hS, hm⟩
              · replace hm := if_f hm hb
                refine wp_skip ?_
                refine then_n ?_
                have hS := hS.pickN 4 [1, 2, 0, 3] (by decide)
                exact ⟨s3, hF.weak [2, 4, 14, 16] (by kernel_rfl), hS, hm⟩
          · obtain ⟨hp7, hm⟩ := asrt_b hm
            obtain ⟨hp8, hm⟩ := asrt_b hm
            refine reg [⟨true, [], vS (Op.intDiv .quo .i64 place2 (w64 (Int.tdiv (b1.length : Int) 2))), .int .i64 (w64 (Int.tdiv place2 (w64 (Int.tdiv (b1.length : Int) 2))))⟩, ⟨false, [], vS (Instr.loadAt 3 (.pointer (some ⟨g1, 1, none⟩))), .int .i64 b2⟩, ⟨true, [(((w64 (Int.tdiv place2 (w64 (Int.tdiv (b1.length : Int) 2)))) == b2) && (place2 != (w64 ((w64 ((w64 (b2 * (w64 (Int.tdiv (b1.length : Int) 2)))) + (w64 (Int.tdiv (b1.length : Int) 2)))) - 1))), true)], vS (Instr.indexAt 40 (.slice A2 r3.length c2) (.int .i64 place2)), .pointer (some (sAddr A2 place2))⟩, ⟨false, [(((w64 (Int.tdiv place2 (w64 (Int.tdiv (b1.length : Int) 2)))) == b2) && (place2 != (w64 ((w64 ((w64 (b2 * (w64 (Int.tdiv (b1.length : Int) 2)))) + (w64 (Int.tdiv (b1.length : Int) 2)))) - 1))), true)], vS (Instr.loadAt 3 (.pointer (some (sAddr A2 place2)))), .int .i64 (geti s2 place2)⟩] [none, none, some (.int .i64 (w64 (Int.tdiv place2 (w64 (Int.tdiv (b1.length : Int) 2))))), none, some (.int .i64 b2), none, none, none, none, none, none, none, none, none, some (.pointer (some (sAddr A2 place2))), some (.int .i64 (geti s2 place2)), none, none] [2, 4, 7, 8, 9, 10, 12, 14, 107] [pl 2 (.pointer (some ⟨g1, 0, none⟩)), pl 4 (.pointer (some ⟨g2, 0, none⟩)), pl 7 (.int .i64 (b1.length : Int)), pl 8 (.int .i64 (w64 (Int.tdiv (b1.length : Int) 2))), pl 9 (.int .i64 place2), pl 10 (.int .i64 (w64 ((w64 ((w64 (b2 * (w64 (Int.tdiv (b1.length : Int) 2)))) + (w64 (Int.tdiv (b1.length : Int) 2)))) - 1))), pl 12 (.slice A2 r3.length c2), pl 14 (.bool (place2 == (w64 ((w64 ((w64 (b2 * (w64 (Int.tdiv (b1.length : Int) 2)))) + (w64 (Int.tdiv (b1.length : Int) 2)))) - 1)))), pl 107 (.bool ((((w64 (Int.tdiv place2 (w64 (Int.tdiv (b1.length : Int) 2)))) == b2) && (place2 != (w64 ((w64 ((w64 (b2 * (w64 (Int.tdiv (b1.length : Int) 2)))) + (w64 (Int.tdiv (b1.length : Int) 2)))) - 1)))) && ((geti s2 place2) == 1)))] hF hS Fol (by kernel_rfl) (by kernel_rfl) (by kernel_rfl) ?_ (fun a w hF hS => ?_)
            · exact obs_cons (ob_quo rfl (fun _ => hp7)) <| obs_cons (ob_load Agg3 (fun _ _ hS => (hS.at_ 0 rfl).cell rfl)) <| obs_cons (ob_ix1 (f := (Value.int .i64)) (m := s2) Und40 hi3 hs3 (hS.at_ 2 rfl).rd ((hS.at_ 2 rfl).len1) (fun hy => hp8 (hy (((w64 (Int.tdiv place2 (w64 (Int.tdiv (b1.length : Int) 2)))) == b2) && (place2 != (w64 ((w64 ((w64 (b2 * (w64 (Int.tdiv (b1.length : Int) 2)))) + (w64 (Int.tdiv (b1.length : Int) 2)))) - 1))), true) (by simp)))) <| obs_cons (ob_get1 (n := r3.length) (m := s2) (Value.int .i64) (0 : Int) Agg3 (fun _ hS => ⟨_, (hS.at_ 2 rfl).rd⟩) (fun _ hS => ((hS.at_ 2 rfl).len1)) (fun hy => hp8 (hy (((w64 (Int.tdiv place2 (w64 (Int.tdiv (b1.length : Int) 2)))) == b2) && (place2 != (w64 ((w64 ((w64 (b2 * (w64 (Int.tdiv (b1.length : Int) 2)))) + (w64 (Int.tdiv (b1.length : Int) 2)))) - 1))), true) (by simp)))) <| obs_nil
            refine cond_ev (t := 107) (b := (((w64 (Int.tdiv place2 (w64 (Int.tdiv (b1.length : Int) 2)))) == b2) && (place2 != (w64 ((w64 ((w64 (b2 * (w64 (Int.tdiv (b1.length : Int) 2)))) + (w64 (Int.tdiv (b1.length : Int) 2)))) - 1)))) && ((geti s2 place2) == 1)) hF (by kernel_rfl) (fun hb => ?_) (fun hb => ?_)
            · replace hm := if_t hm hb
              refine reg [] [] [2, 4, 7, 8, 9, 10, 12, 14, 15] [pl 2 (.pointer (some ⟨g1, 0, none⟩)), pl 4 (.pointer (some ⟨g2, 0, none⟩)), pl 7 (.int .i64 (b1.length : Int)), pl 8 (.int .i64 (w64 (Int.tdiv (b1.length : Int) 2))), pl 9 (.int .i64 place2), pl 10 (.int .i64 (w64 ((w64 ((w64 (b2 * (w64 (Int.tdiv (b1.length : Int) 2)))) + (w64 (Int.tdiv (b1.length : Int) 2)))) - 1))), pl 12 (.slice A2 r3.length c2), pl 14 (.bool (place2 == (w64 ((w64 ((w64 (b2 * (w64 (Int.tdiv (b1.length : Int) 2)))) + (w64 (Int.tdiv (b1.length : Int) 2)))) - 1)))), pl 15 (.int .i64 (w64 ((w64 ((b1.length : Int) - 2)) - place2)))] hF hS Fol (by kernel_rfl) (by kernel_rfl) (by kernel_rfl) ?_ (fun a w hF hS => ?_)
              · exact obs_nil
              obtain ⟨hp9, hm⟩ := asrt_b hm
              refine reg [⟨true, [], vS (Instr.indexAt 40 (.slice A2 r3.length c2) (.int .i64 (w64 ((w64 ((b1.length : Int) - 2)) - place2)))), .pointer (some (sAddr A2 (w64 ((w64 ((b1.length : Int) - 2)) - place2))))⟩, ⟨false, [], vS (Instr.loadAt 3 (.pointer (some (sAddr A2 (w64 ((w64 ((b1.length : Int) - 2)) - place2)))))), .int .i64 (geti s2 (w64 ((w64 ((b1.length : Int) - 2)) - place2)))⟩] [none, none, some (.pointer (some (sAddr A2 (w64 ((w64 ((b1.length : Int) - 2)) - place2))))), some (.int .i64 (geti s2 (w64 ((w64 ((b1.length : Int) - 2)) - place2)))), none] [2, 4, 7, 8, 9, 10, 12, 14, 15, 116] [pl 2 (.pointer (some ⟨g1, 0, none⟩)), pl 4 (.pointer (some ⟨g2, 0, none⟩)), pl 7 (.int .i64 (b1.length : Int)), pl 8 (.int .i64 (w64 (Int.tdiv (b1.length : Int) 2))), pl 9 (.int .i64 place2), pl 10 (.int .i64 (w64 ((w64 ((w64 (b2 * (w64 (Int.tdiv (b1.length : Int) 2)))) + (w64 (Int.tdiv (b1.length : Int) 2)))) - 1))), pl 12 (.slice A2 r3.length c2), pl 14 (.bool (place2 == (w64 ((w64 ((w64 (b2 * (w64 (Int.tdiv (b1.length : Int) 2)))) + (w64 (Int.tdiv (b1.length : Int) 2)))) - 1)))), pl 15 (.int .i64 (w64 ((w64 ((b1.length : Int) - 2)) - place2))), pl 116 (.bool (decide ((0 : Int) < (geti s2 (w64 ((w64 ((b1.length : Int) - 2)) - place2))))))] hF hS Fol (by kernel_rfl) (by kernel_rfl) (by kernel_rfl) ?_ (fun a w hF hS => ?_)
              · exact obs_cons (ob_ix1 (f := (Value.int .i64)) (m := s2) Und40 hi3 hs3 (hS.at_ 2 rfl).rd ((hS.at_ 2 rfl).len1) (fun _ => hp9)) <| obs_cons (ob_get1 (n := r3.length) (m := s2) (Value.int .i64) (0 : Int) Agg3 (fun _ hS => ⟨_, (hS.at_ 2 rfl).rd⟩) (fun _ hS => ((hS.at_ 2 rfl).len1)) (fun _ => hp9)) <| obs_nil
              refine cond_ev (t := 116) (b := decide ((0 : Int) < (geti s2 (w64 ((w64 ((b1.length : Int) - 2)) - place2))))) hF (by kernel_rfl) (fun hb => ?_) (fun hb => ?_)
              · replace hm := if_t hm hb
                refine wp_seq ?_
                obtain ⟨hp10, hm⟩ := asrt_b hm
                obtain ⟨hp11, hm⟩ := asrt_b hm
                obtain ⟨hp12, hm⟩ := asrt_b hm
                refine regMix4 [0, 1, 2, 3, 4, 5, 6, 7, 8, 9, 10] [11] [⟨true, [], vS (Instr.indexAt 40 (.slice A2 r3.length c2) (.int .i64 (w64 ((w64 ((w64 (b2 * (w64 (Int.tdiv (b1.length : Int) 2)))) + (w64 (Int.tdiv (b1.length : Int) 2)))) - 1)))), .pointer (some (sAddr A2 (w64 ((w64 ((w64 (b2 * (w64 (Int.tdiv (b1.length : Int) 2)))) + (w64 (Int.tdiv (b1.length : Int) 2)))) - 1))))⟩, ⟨false, [], vS (Instr.loadAt 3 (.pointer (some (sAddr A2 (w64 ((w64 ((w64 (b2 * (w64 (Int.tdiv (b1.length : Int) 2)))) + (w64 (Int.tdiv (b1.length : Int) 2)))) - 1)))))), .int .i64 (geti s2 (w64 ((w64 ((w64 (b2 * (w64 (Int.tdiv (b1.length : Int) 2)))) + (w64 (Int.tdiv (b1.length : Int) 2)))) - 1)))⟩, ⟨true, [], vS (Instr.indexAt 40 (.slice A2 r3.length c2) (.int .i64 (w64 ((w64 ((b1.length : Int) - 2)) - place2)))), .pointer (some (sAddr A2 (w64 ((w64 ((b1.length : Int) - 2)) - place2))))⟩, ⟨false, [], vS (Instr.loadAt 3 (.pointer (some (sAddr A2 (w64 ((w64 ((b1.length : Int) - 2)) - place2)))))), .int .i64 (geti s2 (w64 ((w64 ((b1.length : Int) - 2)) - place2)))⟩, ⟨true, [], vS (Instr.indexAt 40 (.slice A2 r3.length c2) (.int .i64 (w64 ((w64 ((w64 (b2 * (w64 (Int.tdiv (b1.length : Int) 2)))) + (w64 (Int.tdiv (b1.length : Int) 2)))) - 1)))), .pointer (some (sAddr A2 (w64 ((w64 ((w64 (b2 * (w64 (Int.tdiv (b1.length : Int) 2)))) + (w64 (Int.tdiv (b1.length : Int) 2)))) - 1))))⟩] [none, none, some (.pointer (some (sAddr A2 (w64 ((w64 ((w64 (b2 * (w64 (Int.tdiv (b1.length : Int) 2)))) + (w64 (Int.tdiv (b1.length : Int) 2)))) - 1))))), some (.int .i64 (geti s2 (w64 ((w64 ((w64 (b2 * (w64 (Int.tdiv (b1.length : Int) 2)))) + (w64 (Int.tdiv (b1.length : Int) 2)))) - 1)))), none, none, some (.pointer (some (sAddr A2 (w64 ((w64 ((b1.length : Int) - 2)) - place2))))), some (.int .i64 (geti s2 (w64 ((w64 ((b1.length : Int) - 2)) - place2)))), none, none, some (.pointer (some (sAddr A2 (w64 ((w64 ((w64 (b2 * (w64 (Int.tdiv (b1.length : Int) 2)))) + (w64 (Int.tdiv (b1.length : Int) 2)))) - 1)))))] [2, 4, 7, 8, 9, 12, 14, 15, 126, 127] [pl 2 (.pointer (some ⟨g1, 0, none⟩)), pl 4 (.pointer (some ⟨g2, 0, none⟩)), pl 7 (.int .i64 (b1.length : Int)), pl 8 (.int .i64 (w64 (Int.tdiv (b1.length : Int) 2))), pl 9 (.int .i64 place2), pl 12 (.slice A2 r3.length c2), pl 14 (.bool (place2 == (w64 ((w64 ((w64 (b2 * (w64 (Int.tdiv (b1.length : Int) 2)))) + (w64 (Int.tdiv (b1.length : Int) 2)))) - 1)))), pl 15 (.int .i64 (w64 ((w64 ((b1.length : Int) - 2)) - place2))), pl 126 (.int .i64 (w64 ((geti s2 (w64 ((w64 ((w64 (b2 * (w64 (Int.tdiv (b1.length : Int) 2)))) + (w64 (Int.tdiv (b1.length : Int) 2)))) - 1))) + (w64 ((geti s2 (w64 ((w64 ((b1.length : Int) - 2)) - place2))) + 1))))), pl 127 (.pointer (some (sAddr A2 (w64 ((w64 ((w64 (b2 * (w64 (Int.tdiv (b1.length : Int) 2)))) + (w64 (Int.tdiv (b1.length : Int) 2)))) - 1)))))] hF hS Fol (by kernel_rfl) (by kernel_rfl) (by kernel_rfl) (by kernel_rfl) (by kernel_rfl) ?_ (fun a w hF hS => ?_)
                · exact obs_cons (ob_ix1 (f := (Value.int .i64)) (m := s2) Und40 hi3 hs3 (hS.at_ 2 rfl).rd ((hS.at_ 2 rfl).len1) (fun _ => hp10)) <| obs_cons (ob_get1 (n := r3.length) (m := s2) (Value.int .i64) (0 : Int) Agg3 (fun _ hS => ⟨_, (hS.at_ 2 rfl).rd⟩) (fun _ hS => ((hS.at_ 2 rfl).len1)) (fun _ => hp10)) <| obs_cons (ob_ix1 (f := (Value.int .i64)) (m := s2) Und40 hi3 hs3 (hS.at_ 2 rfl).rd ((hS.at_ 2 rfl).len1) (fun _ => hp11)) <| obs_cons (ob_get1 (n := r3.length) (m := s2) (Value.int .i64) (0 : Int) Agg3 (fun _ hS => ⟨_, (hS.at_ 2 rfl).rd⟩) (fun _ hS => ((hS.at_ 2 rfl).len1)) (fun _ => hp11)) <| obs_cons (ob_ix1 (f := (Value.int .i64)) (m := s2) Und40 hi3 hs3 (hS.at_ 2 rfl).rd ((hS.at_ 2 rfl).len1) (fun _ => hp12)) <| obs_nil
                obtain ⟨w, hrun, hS⟩ := run_set1 (P := Try.prog) (t := 3) (x := (w64 ((geti s2 (w64 ((w64 ((w64 (b2 * (w64 (Int.tdiv (b1.length : Int) 2)))) + (w64 (Int.tdiv (b1.length : Int) 2)))) - 1))) + (w64 ((geti s2 (w64 ((w64 ((b1.length : Int) - 2)) - place2))) + 1))))) (Value.int .i64) (hS.at_ 2 rfl) hi3 hs3 rfl rfl hp12
                refine at_skip hF (by kernel_rfl) hrun ?_
                have hS : Sep w0 B w (blk g1 71 #[.slice A1 b1.length c1, .int .i64 b2] :: blk g2 71 #[.slice none 0 0, .int .i64 0] :: own 3 (.slice A2 r3.length c2) (vI (s2.set (Int.toNat (w64 ((w64 ((w64 (b2 * (w64 (Int.tdiv (b1.length : Int) 2)))) + (w64 (Int.tdiv (b1.length : Int) 2)))) - 1))) (w64 ((geti s2 (w64 ((w64 ((w64 (b2 * (w64 (Int.tdiv (b1.length : Int) 2)))) + (w64 (Int.tdiv (b1.length : Int) 2)))) - 1))) + (w64 ((geti s2 (w64 ((w64 ((b1.length : Int) - 2)) - place2))) + 1)))))) :: fs) := hS
                refine at_end [2, 4, 7, 8, 9, 12, 14, 15] [pl 2 (.pointer (some ⟨g1, 0, none⟩)), pl 4 (.pointer (some ⟨g2, 0, none⟩)), pl 7 (.int .i64 (b1.length : Int)), pl 8 (.int .i64 (w64 (Int.tdiv (b1.length : Int) 2))), pl 9 (.int .i64 place2), pl 12 (.slice A2 r3.length c2), pl 14 (.bool (place2 == (w64 ((w64 ((w64 (b2 * (w64 (Int.tdiv (b1.length : Int) 2)))) + (w64 (Int.tdiv (b1.length : Int) 2)))) - 1)))), pl 15 (.int .i64 (w64 ((w64 ((b1.length : Int) - 2)) - place2)))] hF rfl (by kernel_rfl) (fun hF => ?_)
                refine np_n ?_
                refine then_n ?_
                refine seqR ?_
                obtain ⟨hp13, hm⟩ := asrt_b hm
                refine at_run 3 [⟨true, [], vS (Instr.indexAt 40 (.slice A2 r3.length c2) (.int .i64 place2)), .pointer (some (sAddr A2 place2))⟩] [none, none, some (.pointer (some (sAddr A2 place2)))] [2, 4, 7, 8, 12, 14, 15, 130] [pl 2 (.pointer (some ⟨g1, 0, none⟩)), pl 4 (.pointer (some ⟨g2, 0, none⟩)), pl 7 (.int .i64 (b1.length : Int)), pl 8 (.int .i64 (w64 (Int.tdiv (b1.length : Int) 2))), pl 12 (.slice A2 r3.length c2), pl 14 (.bool (place2 == (w64 ((w64 ((w64 (b2 * (w64 (Int.tdiv (b1.length : Int) 2)))) + (w64 (Int.tdiv (b1.length : Int) 2)))) - 1)))), pl 15 (.int .i64 (w64 ((w64 ((b1.length : Int) - 2)) - place2))), pl 130 (.pointer (some (sAddr A2 place2)))] hF hS (by kernel_rfl) (by kernel_rfl) ?_ (fun a w hF hS => ?_)
                · exact obs_cons (ob_ix1 (f := (Value.int .i64)) (m := (s2.set (Int.toNat (w64 ((w64 ((w64 (b2 * (w64 (Int.tdiv (b1.length : Int) 2)))) + (w64 (Int.tdiv (b1.length : Int) 2)))) - 1))) (w64 ((geti s2 (w64 ((w64 ((w64 (b2 * (w64 (Int.tdiv (b1.length : Int) 2)))) + (w64 (Int.tdiv (b1.length : Int) 2)))) - 1))) + (w64 ((geti s2 (w64 ((w64 ((b1.length : Int) - 2)) - place2))) + 1)))))) Und40 hi3 hs3 (hS.at_ 2 rfl).rd ((hS.at_ 2 rfl).len1) (fun _ => hp13)) <| obs_nil
                obtain ⟨w, hrun, hS⟩ := run_set1 (P := Try.prog) (t := 3) (x := 0) (Value.int .i64) (hS.at_ 2 rfl) hi3 hs3 rfl rfl hp13
                refine at_skip hF (by kernel_rfl) hrun ?_
                have hS : Sep w0 B w (blk g1 71 #[.slice A1 b1.length c1, .int .i64 b2] :: blk g2 71 #[.slice none 0 0, .int .i64 0] :: own 3 (.slice A2 r3.length c2) (vI ((s2.set (Int.toNat (w64 ((w64 ((w64 (b2 * (w64 (Int.tdiv (b1.length : Int) 2)))) + (w64 (Int.tdiv (b1.length : Int) 2)))) - 1))) (w64 ((geti s2 (w64 ((w64 ((w64 (b2 * (w64 (Int.tdiv (b1.length : Int) 2)))) + (w64 (Int.tdiv (b1.length : Int) 2)))) - 1))) + (w64 ((geti s2 (w64 ((w64 ((b1.length : Int) - 2)) - place2))) + 1))))).set (Int.toNat place2) 0)) :: fs) := hS
                refine at_end [2, 4, 7, 8, 12, 14, 15] [pl 2 (.pointer (some ⟨g1, 0, none⟩)), pl 4 (.pointer (some ⟨g2, 0, none⟩)), pl 7 (.int .i64 (b1.length : Int)), pl 8 (.int .i64 (w64 (Int.tdiv (b1.length : Int) 2))), pl 12 (.slice A2 r3.length c2), pl 14 (.bool (place2 == (w64 ((w64 ((w64 (b2 * (w64 (Int.tdiv (b1.length : Int) 2)))) + (w64 (Int.tdiv (b1.length : Int) 2)))) - 1)))), pl 15 (.int .i64 (w64 ((w64 ((b1.length : Int) - 2)) - place2)))] hF rfl (by kernel_rfl) (fun hF => ?_)
                refine then_n ?_
                refine oneR ?_
                obtain ⟨hp14, hm⟩ := asrt_b hm
                refine at_run 3 [⟨true, [], vS (Instr.indexAt 40 (.slice A2 r3.length c2) (.int .i64 (w64 ((w64 ((b1.length : Int) - 2)) - place2)))), .pointer (some (sAddr A2 (w64 ((w64 ((b1.length : Int) - 2)) - place2))))⟩] [none, none, some (.pointer (some (sAddr A2 (w64 ((w64 ((b1.length : Int) - 2)) - place2)))))] [2, 4, 7, 8, 12, 14, 133] [pl 2 (.pointer (some ⟨g1, 0, none⟩)), pl 4 (.pointer (some ⟨g2, 0, none⟩)), pl 7 (.int .i64 (b1.length : Int)), pl 8 (.int .i64 (w64 (Int.tdiv (b1.length : Int) 2))), pl 12 (.slice A2 r3.length c2), pl 14 (.bool (place2 == (w64 ((w64 ((w64 (b2 * (w64 (Int.tdiv (b1.length : Int) 2)))) + (w64 (Int.tdiv (b1.length : Int) 2)))) - 1)))), pl 133 (.pointer (some (sAddr A2 (w64 ((w64 ((b1.length : Int) - 2)) - place2)))))] hF hS (by kernel_rfl) (by kernel_rfl) ?_ (fun a w hF hS => ?_)
                · exact obs_cons (ob_ix1 (f := (Value.int .i64)) (m := ((s2.set (Int.toNat (w64 ((w64 ((w64 (b2 * (w64 (Int.tdiv (b1.length : Int) 2)))) + (w64 (Int.tdiv (b1.length : Int) 2)))) - 1))) (w64 ((geti s2 (w64 ((w64 ((w64 (b2 * (w64 (Int.tdiv (b1.length : Int) 2)))) + (w64 (Int.tdiv (b1.length : Int) 2)))) - 1))) + (w64 ((geti s2 (w64 ((w64 ((b1.length : Int) - 2)) - place2))) + 1))))).set (Int.toNat place2) 0)) Und40 hi3 hs3 (hS.at_ 2 rfl).rd ((hS.at_ 2 rfl).len1) (fun _ => hp14)) <| obs_nil
                obtain ⟨w, hrun, hS⟩ := run_set1 (P := Try.prog) (t := 3) (x := 0) (Value.int .i64) (hS.at_ 2 rfl) hi3 hs3 rfl rfl hp14
                refine at_skip hF (by kernel_rfl) hrun ?_
                have hS : Sep w0 B w (blk g1 71 #[.slice A1 b1.length c1, .int .i64 b2] :: blk g2 71 #[.slice none 0 0, .int .i64 0] :: own 3 (.slice A2 r3.length c2) (vI (((s2.set (Int.toNat (w64 ((w64 ((w64 (b2 * (w64 (Int.tdiv (b1.length : Int) 2)))) + (w64 (Int.tdiv (b1.length : Int) 2)))) - 1))) (w64 ((geti s2 (w64 ((w64 ((w64 (b2 * (w64 (Int.tdiv (b1.length : Int) 2)))) + (w64 (Int.tdiv (b1.length : Int) 2)))) - 1))) + (w64 ((geti s2 (w64 ((w64 ((b1.length : Int) - 2)) - place2))) + 1))))).set (Int.toNat place2) 0).set (Int.toNat (w64 ((w64 ((b1.length : Int) - 2)) - place2))) 0)) :: fs) := hS
                refine at_end [2, 4, 7, 8, 12, 14] [pl 2 (.pointer (some ⟨g1, 0, none⟩)), pl 4 (.pointer (some ⟨g2, 0, none⟩)), pl 7 (.int .i64 (b1.length : Int)), pl 8 (.int .i64 (w64 (Int.tdiv (b1.length : Int) 2))), pl 12 (.slice A2 r3.length c2), pl 14 (.bool (place2 == (w64 ((w64 ((w64 (b2 * (w64 (Int.tdiv (b1.length : Int) 2)))) + (w64 (Int.tdiv (b1.length : Int) 2)))) - 1))))] hF rfl (by kernel_rfl) (fun hF => ?_)
                refine then_n ?_
                exact ⟨(((s2.set (Int.toNat (w64 ((w64 ((w64 (b2 * (w64 (Int.tdiv (b1.length : Int) 2)))) + (w64 (Int.tdiv (b1.length : Int) 2)))) - 1))) (w64 ((geti s2 (w64 ((w64 ((w64 (b2 * (w64 (Int.tdiv (b1.length : Int) 2)))) + (w64 (Int.tdiv (b1.length : Int) 2)))) - 1))) + (w64 ((geti s2 (w64 ((w64 ((b1.length : Int) - 2)) - place2))) + 1))))).set (Int.toNat place2) 0).set (Int.toNat (w64 ((w64 ((b1.length : Int) - 2)) - place2))) 0), hF.weak [2, 4, 7, 8, 12, 14] (by kernel_rfl), hS, hm⟩
              · replace hm := if_f hm hb
                refine wp_skip ?_
                refine then_n ?_
                exact ⟨s2, hF.weak [2, 4, 7, 8, 12, 14] (by kernel_rfl), hS, hm⟩
            · replace hm := if_f hm hb
              refine wp_skip ?_
              refine then_n ?_
              exact ⟨s2, hF.weak [2, 4, 7, 8, 12, 14] (by kernel_rfl), hS, hm⟩
        · refine wp_block ?_
          have hS := hS.pickN 3 [1, 2, 0] (by decide)
          refine wp_loop_model (S := (Int × List Int × Int)) (R := (Int × List Int)) (gameroomref_SowOf_L1 b1 b2 r3) (fun x => ((gameroomref_SowOf_K1 b1 b2 r3) x).bind some) r (fun (x : (Int × List Int × Int)) a w => Fr 186 [pl 2 (.pointer (some ⟨g1, 0, none⟩)), pl 4 (.pointer (some ⟨g2, 0, none⟩)), pl 7 (.int .i64 (b1.length : Int)), pl 8 (.int .i64 (w64 (Int.tdiv (b1.length : Int) 2))), pl 9 (.int .i64 x.1), pl 10 (.int .i64 (w64 ((w64 ((w64 (b2 * (w64 (Int.tdiv (b1.length : Int) 2)))) + (w64 (Int.tdiv (b1.length : Int) 2)))) - 1))), pl 11 (.int .i64 (w64 ((w64 ((w64 ((w64 (1 - b2)) * (w64 (Int.tdiv (b1.length : Int) 2)))) + (w64 (Int.tdiv (b1.length : Int) 2)))) - 1))), pl 12 (.slice A2 r3.length c2), pl 13 (.int .i64 x.2.2)] a ∧ Sep w0 B w (blk g1 71 #[.slice A1 b1.length c1, .int .i64 b2] :: blk g2 71 #[.slice none 0 0, .int .i64 0] :: own 3 (.slice A2 r3.length c2) (vI x.2.1) :: fs)) (assoc_b hm) ⟨hF.weak [2, 4, 7, 8, 9, 10, 11, 12, 13] (by kernel_rfl), hS⟩ ?_
          clear hF hS hm
          rintro nn1 ⟨place1, s1, hand1⟩ a w ⟨hF, hS⟩ hm
          generalize hφ1 : stK (gameroomref_SowOf_L1 b1 b2 r3) nn1 (fun x => ((gameroomref_SowOf_K1 b1 b2 r3) x).bind some) = φ1 at hm
          unfold gameroomref_SowOf_L1 at hm
          dsimp only at hF hS hm
          refine seq_cut (fun a w => Fr 186 [pl 2 (.pointer (some ⟨g1, 0, none⟩)), pl 4 (.pointer (some ⟨g2, 0, none⟩)), pl 7 (.int .i64 (b1.length : Int)), pl 8 (.int .i64 (w64 (Int.tdiv (b1.length : Int) 2))), pl 9 (.int .i64 place1), pl 10 (.int .i64 (w64 ((w64 ((w64 (b2 * (w64 (Int.tdiv (b1.length : Int) 2)))) + (w64 (Int.tdiv (b1.length : Int) 2)))) - 1))), pl 11 (.int .i64 (w64 ((w64 ((w64 ((w64 (1 - b2)) * (w64 (Int.tdiv (b1.length : Int) 2)))) + (w64 (Int.tdiv (b1.length : Int) 2)))) - 1))), pl 12 (.slice A2 r3.length c2), pl 13 (.int .i64 hand1)] a ∧ Sep w0 B w (blk g1 71 #[.slice A1 b1.length c1, .int .i64 b2] :: blk g2 71 #[.slice none 0 0, .int .i64 0] :: own 3 (.slice A2 r3.length c2) (vI s1) :: fs) ∧ ((gameroomref_SowOf_J5 b1 b2 r3 place1 s1 hand1)).bind φ1 = some r) ?_ ?_
          · rintro a w ⟨hF, hS, hm⟩
            unfold gameroomref_SowOf_J5 at hm
            refine wp_block ?_
            obtain ⟨hp4, hm⟩ := asrt_b hm
            refine reg [⟨true, [], vS (Op.intDiv .rem .i64 (w64 (place1 + 1)) (b1.length : Int)), .int .i64 (Int.tmod (w64 (place1 + 1)) (b1.length : Int))⟩] [none, none, none, some (.int .i64 (Int.tmod (w64 (place1 + 1)) (b1.length : Int))), none] [2, 4, 7, 8, 9, 10, 11, 12, 13] [pl 2 (.pointer (some ⟨g1, 0, none⟩)), pl 4 (.pointer (some ⟨g2, 0, none⟩)), pl 7 (.int .i64 (b1.length : Int)), pl 8 (.int .i64 (w64 (Int.tdiv (b1.length : Int) 2))), pl 9 (.int .i64 (Int.tmod (w64 (place1 + 1)) (b1.length : Int))), pl 10 (.int .i64 (w64 ((w64 ((w64 (b2 * (w64 (Int.tdiv (b1.length : Int) 2)))) + (w64 (Int.tdiv (b1.length : Int) 2)))) - 1))), pl 11 (.int .i64 (w64 ((w64 ((w64 ((w64 (1 - b2)) * (w64 (Int.tdiv (b1.length : Int) 2)))) + (w64 (Int.tdiv (b1.length : Int) 2)))) - 1))), pl 12 (.slice A2 r3.length c2), pl 13 (.int .i64 hand1)] hF hS Fol (by kernel_rfl) (by kernel_rfl) (by kernel_rfl) ?_ (fun a w hF hS => ?_)
            · exact obs_cons (ob_rem rfl (fun _ => hp4)) <| obs_nil
            refine seq_cut (fun a w => Fr 186 [pl 2 (.pointer (some ⟨g1, 0, none⟩)), pl 4 (.pointer (some ⟨g2, 0, none⟩)), pl 7 (.int .i64 (b1.length : Int)), pl 8 (.int .i64 (w64 (Int.tdiv (b1.length : Int) 2))), pl 9 (.int .i64 (Int.tmod (w64 (place1 + 1)) (b1.length : Int))), pl 10 (.int .i64 (w64 ((w64 ((w64 (b2 * (w64 (Int.tdiv (b1.length : Int) 2)))) + (w64 (Int.tdiv (b1.length : Int) 2)))) - 1))), pl 11 (.int .i64 (w64 ((w64 ((w64 ((w64 (1 - b2)) * (w64 (Int.tdiv (b1.length : Int) 2)))) + (w64 (Int.tdiv (b1.length : Int) 2)))) - 1))), pl 12 (.slice A2 r3.length c2), pl 13 (.int .i64 hand1)] a ∧ Sep w0 B w (blk g1 71 #[.slice A1 b1.length c1, .int .i64 b2] :: blk g2 71 #[.slice none 0 0, .int .i64 0] :: own 3 (.slice A2 r3.length c2) (vI s1) :: fs) ∧ ((gameroomref_SowOf_J6 b1 r3 place1 s1 hand1)).bind φ1 = some r) ?_ ?_
            · rintro a w ⟨hF, hS, hm⟩
              unfold gameroomref_SowOf_J6 at hm
              refine seqR ?_
              obtain ⟨hp5, hm⟩ := asrt_b hm
              obtain ⟨hp6, hm⟩ := asrt_b hm
              refine at_run 6 [⟨true, [], vS (Instr.indexAt 40 (.slice A2 r3.length c2) (.int .i64 (Int.tmod (w64 (place1 + 1)) (b1.length : Int)))), .pointer (some (sAddr A2 (Int.tmod (w64 (place1 + 1)) (b1.length : Int))))⟩, ⟨false, [], vS (Instr.loadAt 3 (.pointer (some (sAddr A2 (Int.tmod (w64 (place1 + 1)) (b1.length : Int)))))), .int .i64 (geti s1 (Int.tmod (w64 (place1 + 1)) (b1.length : Int)))⟩, ⟨true, [], vS (Instr.indexAt 40 (.slice A2 r3.length c2) (.int .i64 (Int.tmod (w64 (place1 + 1)) (b1.length : Int)))), .pointer (some (sAddr A2 (Int.tmod (w64 (place1 + 1)) (b1.length : Int))))⟩] [none, none, some (.pointer (some (sAddr A2 (Int.tmod (w64 (place1 + 1)) (b1.length : Int))))), some (.int .i64 (geti s1 (Int.tmod (w64 (place1 + 1)) (b1.length : Int)))), none, some (.pointer (some (sAddr A2 (Int.tmod (w64 (place1 + 1)) (b1.length : Int)))))] [2, 4, 7, 8, 9, 10, 11, 12, 13, 83, 84] [pl 2 (.pointer (some ⟨g1, 0, none⟩)), pl 4 (.pointer (some ⟨g2, 0, none⟩)), pl 7 (.int .i64 (b1.length : Int)), pl 8 (.int .i64 (w64 (Int.tdiv (b1.length : Int) 2))), pl 9 (.int .i64 (Int.tmod (w64 (place1 + 1)) (b1.length : Int))), pl 10 (.int .i64 (w64 ((w64 ((w64 (b2 * (w64 (Int.tdiv (b1.length : Int) 2)))) + (w64 (Int.tdiv (b1.length : Int) 2)))) - 1))), pl 11 (.int .i64 (w64 ((w64 ((w64 ((w64 (1 - b2)) * (w64 (Int.tdiv (b1.length : Int) 2)))) + (w64 (Int.tdiv (b1.length : Int) 2)))) - 1))), pl 12 (.slice A2 r3.length c2), pl 13 (.int .i64 hand1), pl 83 (.int .i64 (w64 ((geti s1 (Int.tmod (w64 (place1 + 1)) (b1.length : Int))) + 1))), pl 84 (.pointer (some (sAddr A2 (Int.tmod (w64 (place1 + 1)) (b1.length : Int)))))] hF hS (by kernel_rfl) (by kernel_rfl) ?_ (fun a w hF hS => ?_)
              · exact obs_cons (ob_ix1 (f := (Value.int .i64)) (m := s1) Und40 hi3 hs3 (hS.at_ 2 rfl).rd ((hS.at_ 2 rfl).len1) (fun _ => hp5)) <| obs_cons (ob_get1 (n := r3.length) (m := s1) (Value.int .i64) (0 : Int) Agg3 (fun _ hS => ⟨_, (hS.at_ 2 rfl).rd⟩) (fun _ hS => ((hS.at_ 2 rfl).len1)) (fun _ => hp5)) <| obs_cons (ob_ix1 (f := (Value.int .i64)) (m := s1) Und40 hi3 hs3 (hS.at_ 2 rfl).rd ((hS.at_ 2 rfl).len1) (fun _ => hp6)) <| obs_nil
              obtain ⟨w, hrun, hS⟩ := run_set1 (P := Try.prog) (t := 3) (x := (w64 ((geti s1 (Int.tmod (w64 (place1 + 1)) (b1.length : Int))) + 1))) (Value.int .i64) (hS.at_ 2 rfl) hi3 hs3 rfl rfl hp6
              refine at_skip hF (by kernel_rfl) hrun ?_
              have hS : Sep w0 B w (blk g1 71 #[.slice A1 b1.length c1, .int .i64 b2] :: blk g2 71 #[.slice none 0 0, .int .i64 0] :: own 3 (.slice A2 r3.length c2) (vI (s1.set (Int.toNat (Int.tmod (w64 (place1 + 1)) (b1.length : Int))) (w64 ((geti s1 (Int.tmod (w64 (place1 + 1)) (b1.length : Int))) + 1)))) :: fs) := hS
              refine at_end [2, 4, 7, 8, 9, 10, 11, 12, 13] [pl 2 (.pointer (some ⟨g1, 0, none⟩)), pl 4 (.pointer (some ⟨g2, 0, none⟩)), pl 7 (.int .i64 (b1.length : Int)), pl 8 (.int .i64 (w64 (Int.tdiv (b1.length : Int) 2))), pl 9 (.int .i64 (Int.tmod (w64 (place1 + 1)) (b1.length : Int))), pl 10 (.int .i64 (w64 ((w64 ((w64 (b2 * (w64 (Int.tdiv (b1.length : Int) 2)))) + (w64 (Int.tdiv (b1.length : Int) 2)))) - 1))), pl 11 (.int .i64 (w64 ((w64 ((w64 ((w64 (1 - b2)) * (w64 (Int.tdiv (b1.length : Int) 2)))) + (w64 (Int.tdiv (b1.length : Int) 2)))) - 1))), pl 12 (.slice A2 r3.length c2), pl 13 (.int .i64 hand1)] hF rfl (by kernel_rfl) (fun hF => ?_)
              refine then_n ?_
              refine reg1 [] [] [2, 4, 7, 8, 9, 10, 11, 12, 13] [pl 2 (.pointer (some ⟨g1, 0, none⟩)), pl 4 (.pointer (some ⟨g2, 0, none⟩)), pl 7 (.int .i64 (b1.length : Int)), pl 8 (.int .i64 (w64 (Int.tdiv (b1.length : Int) 2))), pl 9 (.int .i64 (Int.tmod (w64 (place1 + 1)) (b1.length : Int))), pl 10 (.int .i64 (w64 ((w64 ((w64 (b2 * (w64 (Int.tdiv (b1.length : Int) 2)))) + (w64 (Int.tdiv (b1.length : Int) 2)))) - 1))), pl 11 (.int .i64 (w64 ((w64 ((w64 ((w64 (1 - b2)) * (w64 (Int.tdiv (b1.length : Int) 2)))) + (w64 (Int.tdiv (b1.length : Int) 2)))) - 1))), pl 12 (.slice A2 r3.length c2), pl 13 (.int .i64 (w64 (hand1 - 1)))] hF hS Fol (by kernel_rfl) (by kernel_rfl) (by kernel_rfl) ?_ (fun a w hF hS => ?_)
              · exact obs_nil
              refine block_n ?_
              refine then_n ?_
              rw [← hφ1] at hm
              exact ⟨((Int.tmod (w64 (place1 + 1)) (b1.length : Int)), (s1.set (Int.toNat (Int.tmod (w64 (place1 + 1)) (b1.length : Int))) (w64 ((geti s1 (Int.tmod (w64 (place1 + 1)) (b1.length : Int))) + 1))), (w64 (hand1 - 1))), ⟨hF.weak [2, 4, 7, 8, 9, 10, 11, 12, 13] (by kernel_rfl), hS⟩, hm⟩
            · refine reg [] [] [2, 4, 7, 8, 9, 10, 11, 12, 13, 78] [pl 2 (.pointer (some ⟨g1, 0, none⟩)), pl 4 (.pointer (some ⟨g2, 0, none⟩)), pl 7 (.int .i64 (b1.length : Int)), pl 8 (.int .i64 (w64 (Int.tdiv (b1.length : Int) 2))), pl 9 (.int .i64 (Int.tmod (w64 (place1 + 1)) (b1.length : Int))), pl 10 (.int .i64 (w64 ((w64 ((w64 (b2 * (w64 (Int.tdiv (b1.length : Int) 2)))) + (w64 (Int.tdiv (b1.length : Int) 2)))) - 1))), pl 11 (.int .i64 (w64 ((w64 ((w64 ((w64 (1 - b2)) * (w64 (Int.tdiv (b1.length : Int) 2)))) + (w64 (Int.tdiv (b1.length : Int) 2)))) - 1))), pl 12 (.slice A2 r3.length c2), pl 13 (.int .i64 hand1), pl 78 (.bool ((Int.tmod (w64 (place1 + 1)) (b1.length : Int)) == (w64 ((w64 ((w64 ((w64 (1 - b2)) * (w64 (Int.tdiv (b1.length : Int) 2)))) + (w64 (Int.tdiv (b1.length : Int) 2)))) - 1))))] hF hS Fol (by kernel_rfl) (by kernel_rfl) (by kernel_rfl) ?_ (fun a w hF hS => ?_)
              · exact obs_nil
              refine cond_ev (t := 78) (b := ((Int.tmod (w64 (place1 + 1)) (b1.length : Int)) == (w64 ((w64 ((w64 ((w64 (1 - b2)) * (w64 (Int.tdiv (b1.length : Int) 2)))) + (w64 (Int.tdiv (b1.length : Int) 2)))) - 1)))) hF (by kernel_rfl) (fun hb => ?_) (fun hb => ?_)
              · replace hm := if_t hm hb
                refine wp_exit ?_
                refine then_e (block_e (then_n ?_))
                rw [← hφ1] at hm
                exact ⟨((Int.tmod (w64 (place1 + 1)) (b1.length : Int)), s1, hand1), ⟨hF.weak [2, 4, 7, 8, 9, 10, 11, 12, 13] (by kernel_rfl), hS⟩, hm⟩
              · replace hm := if_f hm hb
                refine wp_skip ?_
                refine then_n ?_
                exact ⟨hF.weak [2, 4, 7, 8, 9, 10, 11, 12, 13] (by kernel_rfl), hS, hm⟩
          · refine reg [] [] [2, 4, 7, 8, 9, 10, 11, 12, 13, 71] [pl 2 (.pointer (some ⟨g1, 0, none⟩)), pl 4 (.pointer (some ⟨g2, 0, none⟩)), pl 7 (.int .i64 (b1.length : Int)), pl 8 (.int .i64 (w64 (Int.tdiv (b1.length : Int) 2))), pl 9 (.int .i64 place1), pl 10 (.int .i64 (w64 ((w64 ((w64 (b2 * (w64 (Int.tdiv (b1.length : Int) 2)))) + (w64 (Int.tdiv (b1.length : Int) 2)))) - 1))), pl 11 (.int .i64 (w64 ((w64 ((w64 ((w64 (1 - b2)) * (w64 (Int.tdiv (b1.length : Int) 2)))) + (w64 (Int.tdiv (b1.length : Int) 2)))) - 1))), pl 12 (.slice A2 r3.length c2), pl 13 (.int .i64 hand1), pl 71 (.bool (decide ((0 : Int) < hand1)))] hF hS Fol (by kernel_rfl) (by kernel_rfl) (by kernel_rfl) ?_ (fun a w hF hS => ?_)
            · exact obs_nil
            refine cond_ev (t := 71) (b := decide ((0 : Int) < hand1)) hF (by kernel_rfl) (fun hb => ?_) (fun hb => ?_)
            · replace hm := if_t hm hb
              refine wp_skip ?_
              refine then_n ?_
              exact ⟨hF.weak [2, 4, 7, 8, 9, 10, 11, 12, 13] (by kernel_rfl), hS, hm⟩
            · replace hm := if_f hm hb
              refine wp_exit ?_
              refine then_e (then_e (block_e (then_n ?_)))
              rw [← hφ1] at hm
              replace hm := done_b hm
              unfold gameroomref_SowOf_K1 at hm
              try dsimp only at hm
              have hm : ((gameroomref_SowOf_J4 b1 b2 r3) place1 s1).bind some = some r := hm
              exact ⟨place1, s1, hF.weak [2, 4, 7, 8, 9, 10, 12] (by kernel_rfl), hS, hm⟩
      · obtain ⟨hp1, hm⟩ := asrt_b hm
        refine reg [⟨false, [], vS (Instr.loadAt 40 (.pointer (some ⟨g1, 0, none⟩))), .slice A1 b1.length c1⟩, ⟨true, [], vS (Instr.indexAt 40 (.slice A1 b1.length c1) (.int .i64 (w64 ((w64 (b2 * (w64 (Int.tdiv (b1.length : Int) 2)))) + pit1)))), .pointer (some (sAddr A1 (w64 ((w64 (b2 * (w64 (Int.tdiv (b1.length : Int) 2)))) + pit1))))⟩, ⟨false, [], vS (Instr.loadAt 3 (.pointer (some (sAddr A1 (w64 ((w64 (b2 * (w64 (Int.tdiv (b1.length : Int) 2)))) + pit1)))))), .int .i64 (geti b1 (w64 ((w64 (b2 * (w64 (Int.tdiv (b1.length : Int) 2)))) + pit1)))⟩] [none, some (.slice A1 b1.length c1), none, some (.pointer (some (sAddr A1 (w64 ((w64 (b2 * (w64 (Int.tdiv (b1.length : Int) 2)))) + pit1))))), some (.int .i64 (geti b1 (w64 ((w64 (b2 * (w64 (Int.tdiv (b1.length : Int) 2)))) + pit1)))), none] [2, 4, 7, 8, 9, 10, 11, 58] [pl 2 (.pointer (some ⟨g1, 0, none⟩)), pl 4 (.pointer (some ⟨g2, 0, none⟩)), pl 7 (.int .i64 (b1.length : Int)), pl 8 (.int .i64 (w64 (Int.tdiv (b1.length : Int) 2))), pl 9 (.int .i64 (w64 ((w64 (b2 * (w64 (Int.tdiv (b1.length : Int) 2)))) + pit1))), pl 10 (.int .i64 (w64 ((w64 ((w64 (b2 * (w64 (Int.tdiv (b1.length : Int) 2)))) + (w64 (Int.tdiv (b1.length : Int) 2)))) - 1))), pl 11 (.int .i64 (w64 ((w64 ((w64 ((w64 (1 - b2)) * (w64 (Int.tdiv (b1.length : Int) 2)))) + (w64 (Int.tdiv (b1.length : Int) 2)))) - 1))), pl 58 (.bool ((geti b1 (w64 ((w64 (b2 * (w64 (Int.tdiv (b1.length : Int) 2)))) + pit1))) == 0))] hF hS Fol (by kernel_rfl) (by kernel_rfl) (by kernel_rfl) ?_ (fun a w hF hS => ?_)
        · exact obs_cons (ob_load Agg40 (fun _ _ hS => (hS.at_ 0 rfl).cell rfl)) <| obs_cons (ob_ix1 (f := (Value.int .i64)) (m := b1) Und40 hi3 hs3 (hr_b1 _ (hS.dropN 2)) rfl (fun _ => hp1)) <| obs_cons (ob_get1 (n := b1.length) (m := b1) (Value.int .i64) (0 : Int) Agg3 (fun _ hS => ⟨_, (hr_b1 _ (hS.dropN 2))⟩) (fun _ hS => rfl) (fun _ => hp1)) <| obs_nil
        refine cond_ev (t := 58) (b := ((geti b1 (w64 ((w64 (b2 * (w64 (Int.tdiv (b1.length : Int) 2)))) + pit1))) == 0)) hF (by kernel_rfl) (fun hb => ?_) (fun hb => ?_)
        · replace hm := if_t hm hb
          refine seqR ?_
          refine at_run 1 [] [] [4, 59] [pl 4 (.pointer (some ⟨g2, 0, none⟩)), pl 59 (.agg #[.slice none 0 0, .int .i64 0])] hF hS (by kernel_rfl) (by kernel_rfl) ?_ (fun a w hF hS => ?_)
          · exact obs_nil
          obtain ⟨w, hrun, hS⟩ := run_putA (P := Try.prog) (t := 71) (us := #[.slice none 0 0, .int .i64 0]) (o := 0) (hS.at_ 1 rfl) (by kernel_rfl) (all_one (by kernel_rfl)) (Nat.le_of_ble_eq_true (by kernel_rfl))
          refine at_skip hF (by kernel_rfl) hrun ?_
          have hS : Sep w0 B w (blk g1 71 #[.slice A1 b1.length c1, .int .i64 b2] :: blk g2 71 #[.slice none 0 0, .int .i64 0] :: fs) := hS
          refine at_run 2 [] [] [4, 5, 6] [pl 4 (.pointer (some ⟨g2, 0, none⟩)), pl 5 (.bool false), pl 6 (.int .i64 10)] hF hS (by kernel_rfl) (by kernel_rfl) ?_ (fun a w hF hS => ?_)
          · exact obs_nil
          refine at_end [4, 5, 6] [pl 4 (.pointer (some ⟨g2, 0, none⟩)), pl 5 (.bool false), pl 6 (.int .i64 10)] hF rfl (by kernel_rfl) (fun hF => ?_)
          refine then_n ?_
          refine wp_ret ?_
          refine then_r ?_
          have hS : Sep w0 B w (own 3 (.slice none 0 0) (vI ([] : List Int)) :: blk g1 71 #[.slice A1 b1.length c1, .int .i64 b2] :: blk g2 71 #[.slice none 0 0, .int .i64 0] :: fs) := hS.nil 3
          have hl3 := (hS.at_ 0 rfl).len1
          have hS := (hS.at_ 0 rfl).reN hl3
          have hS : Sep w0 B w (own 3 (.slice none (([] : List Int).length) 0) (vI ([] : List Int)) :: blk g1 71 #[.slice A1 b1.length c1, .int .i64 b2] :: blk g2 71 #[.slice none 0 0, .int .i64 0] :: fs) := hS
          have hld0 := run_loadVarA (P := Try.prog) (t := 71) (cs := #[.slice none (([] : List Int).length) 0, .int .i64 0]) (by kernel_rfl) (by kernel_rfl) ((hS.at_ 2 rfl).cellsAt 0 (by rfl))
          have hS := hS.pickN 3 [0] (by decide)
          have hm : some (([] : List Int), 0, false, 10) = some r := hm
          obtain rfl := Option.some.inj hm
          exact retV (rs := [.cell 4 71, .tmp 5, .tmp 6]) (vs := [.agg #[.slice none (([] : List Int).length) 0, .int .i64 0], .bool false, .int .i64 10]) hF rfl (rv_c (by kernel_rfl) hld0 <| rv_t (by kernel_rfl) <| rv_t (by kernel_rfl) <| rv_nil) rfl ⟨_, rfl, none, 0, rfl, hS⟩
        · replace hm := if_f hm hb
          refine wp_skip ?_
          refine then_n ?_
          exact ⟨hF.weak [2, 4, 7, 8, 9, 10, 11] (by kernel_rfl), hS, hm⟩
    · obtain ⟨r2, hr2, hm⟩ := call_b hm
      refine reg [⟨false, [], callFunc 90 #[.int .i64 pit1, .int .i64 0, .int .i64 (w64 ((w64 (Int.tdiv (b1.length : Int) 2)) - 2))], .bool r2⟩] [none, none, none, some (.bool r2), none] [1, 2, 4, 7, 8, 30] [pl 1 (.int .i64 pit1), pl 2 (.pointer (some ⟨g1, 0, none⟩)), pl 4 (.pointer (some ⟨g2, 0, none⟩)), pl 7 (.int .i64 (b1.length : Int)), pl 8 (.int .i64 (w64 (Int.tdiv (b1.length : Int) 2))), pl 30 (.bool (!r2))] hF hS Fol (by kernel_rfl) (by kernel_rfl) (by kernel_rfl) ?_ (fun a w hF hS => ?_)
      · exact obs_cons (ob_call Try.func90 (by kernel_rfl) rfl (fun _ _ hS => gameroomref_within_w hr2 hS )) <| obs_nil
      refine cond_ev (t := 30) (b := !r2) hF (by kernel_rfl) (fun hb => ?_) (fun hb => ?_)
      · replace hm := if_t hm hb
        refine seqR ?_
        refine at_run 1 [] [] [4, 31] [pl 4 (.pointer (some ⟨g2, 0, none⟩)), pl 31 (.agg #[.slice none 0 0, .int .i64 0])] hF hS (by kernel_rfl) (by kernel_rfl) ?_ (fun a w hF hS => ?_)
        · exact obs_nil
        obtain ⟨w, hrun, hS⟩ := run_putA (P := Try.prog) (t := 71) (us := #[.slice none 0 0, .int .i64 0]) (o := 0) (hS.at_ 1 rfl) (by kernel_rfl) (all_one (by kernel_rfl)) (Nat.le_of_ble_eq_true (by kernel_rfl))
        refine at_skip hF (by kernel_rfl) hrun ?_
        have hS : Sep w0 B w (blk g1 71 #[.slice A1 b1.length c1, .int .i64 b2] :: blk g2 71 #[.slice none 0 0, .int .i64 0] :: fs) := hS
        refine at_run 2 [] [] [4, 5, 6] [pl 4 (.pointer (some ⟨g2, 0, none⟩)), pl 5 (.bool false), pl 6 (.int .i64 3)] hF hS (by kernel_rfl) (by kernel_rfl) ?_ (fun a w hF hS => ?_)
        · exact obs_nil
        refine at_end [4, 5, 6] [pl 4 (.pointer (some ⟨g2, 0, none⟩)), pl 5 (.bool false), pl 6 (.int .i64 3)] hF rfl (by kernel_rfl) (fun hF => ?_)
        refine then_n ?_
        refine wp_ret ?_
        refine then_r ?_
        have hS : Sep w0 B w (own 3 (.slice none 0 0) (vI ([] : List Int)) :: blk g1 71 #[.slice A1 b1.length c1, .int .i64 b2] :: blk g2 71 #[.slice none 0 0, .int .i64 0] :: fs) := hS.nil 3
        have hl2 := (hS.at_ 0 rfl).len1
        have hS := (hS.at_ 0 rfl).reN hl2
        have hS : Sep w0 B w (own 3 (.slice none (([] : List Int).length) 0) (vI ([] : List Int)) :: blk g1 71 #[.slice A1 b1.length c1, .int .i64 b2] :: blk g2 71 #[.slice none 0 0, .int .i64 0] :: fs) := hS
        have hld0 := run_loadVarA (P := Try.prog) (t := 71) (cs := #[.slice none (([] : List Int).length) 0, .int .i64 0]) (by kernel_rfl) (by kernel_rfl) ((hS.at_ 2 rfl).cellsAt 0 (by rfl))
        have hS := hS.pickN 3 [0] (by decide)
        have hm : some (([] : List Int), 0, false, 3) = some r := hm
        obtain rfl := Option.some.inj hm
        exact retV (rs := [.cell 4 71, .tmp 5, .tmp 6]) (vs := [.agg #[.slice none (([] : List Int).length) 0, .int .i64 0], .bool false, .int .i64 3]) hF rfl (rv_c (by kernel_rfl) hld0 <| rv_t (by kernel_rfl) <| rv_t (by kernel_rfl) <| rv_nil) rfl ⟨_, rfl, none, 0, rfl, hS⟩
      · replace hm := if_f hm hb
        refine wp_skip ?_
        refine then_n ?_
        exact ⟨hF.weak [1, 2, 4, 7, 8] (by kernel_rfl), hS, hm⟩
  · obtain ⟨r1, hr1, hm⟩ := call_b hm
    refine reg [⟨false, [], vS (Instr.loadAt 71 (.pointer (some ⟨g1, 0, none⟩))), .agg #[.slice A1 b1.length c1, .int .i64 b2]⟩, ⟨false, [], callFunc 130 #[.agg #[.slice A1 b1.length c1, .int .i64 b2]], .bool r1⟩] [some (.agg #[.slice A1 b1.length c1, .int .i64 b2]), some (.bool r1)] [1, 2, 4, 7, 8, 24] [pl 1 (.int .i64 pit1), pl 2 (.pointer (some ⟨g1, 0, none⟩)), pl 4 (.pointer (some ⟨g2, 0, none⟩)), pl 7 (.int .i64 (b1.length : Int)), pl 8 (.int .i64 (w64 (Int.tdiv (b1.length : Int) 2))), pl 24 (.bool r1)] hF hS Fol (by kernel_rfl) (by kernel_rfl) (by kernel_rfl) ?_ (fun a w hF hS => ?_)
    · exact obs_cons (ob_loadA (cs := #[.slice A1 b1.length c1, .int .i64 b2]) (by kernel_rfl) (by kernel_rfl) (fun _ _ hS => (hS.at_ 1 rfl).cellsAt 0 (by rfl))) <| obs_cons (ob_call Try.func130 (by kernel_rfl) rfl (fun _ _ hS => gameroomref_MancalaOver_w hr1 hS (fun _ hS => (hr_b1 _ (hS.dropN 2))) _hc_b1 rfl)) <| obs_nil
    refine cond_ev (t := 24) (b := r1) hF (by kernel_rfl) (fun hb => ?_) (fun hb => ?_)
    · replace hm := if_t hm hb
      refine seqR ?_
      refine at_run 1 [] [] [4, 25] [pl 4 (.pointer (some ⟨g2, 0, none⟩)), pl 25 (.agg #[.slice none 0 0, .int .i64 0])] hF hS (by kernel_rfl) (by kernel_rfl) ?_ (fun a w hF hS => ?_)
      · exact obs_nil
      obtain ⟨w, hrun, hS⟩ := run_putA (P := Try.prog) (t := 71) (us := #[.slice none 0 0, .int .i64 0]) (o := 0) (hS.at_ 0 rfl) (by kernel_rfl) (all_one (by kernel_rfl)) (Nat.le_of_ble_eq_true (by kernel_rfl))
      refine at_skip hF (by kernel_rfl) hrun ?_
      have hS : Sep w0 B w (blk g2 71 #[.slice none 0 0, .int .i64 0] :: blk g1 71 #[.slice A1 b1.length c1, .int .i64 b2] :: fs) := hS
      refine at_run 2 [] [] [4, 5, 6] [pl 4 (.pointer (some ⟨g2, 0, none⟩)), pl 5 (.bool false), pl 6 (.int .i64 9)] hF hS (by kernel_rfl) (by kernel_rfl) ?_ (fun a w hF hS => ?_)
      · exact obs_nil
      refine at_end [4, 5, 6] [pl 4 (.pointer (some ⟨g2, 0, none⟩)), pl 5 (.bool false), pl 6 (.int .i64 9)] hF rfl (by kernel_rfl) (fun hF => ?_)
      refine then_n ?_
      refine wp_ret ?_
      refine then_r ?_
      have hS : Sep w0 B w (own 3 (.slice none 0 0) (vI ([] : List Int)) :: blk g2 71 #[.slice none 0 0, .int .i64 0] :: blk g1 71 #[.slice A1 b1.length c1, .int .i64 b2] :: fs) := hS.nil 3
      have hl1 := (hS.at_ 0 rfl).len1
      have hS := (hS.at_ 0 rfl).reN hl1
      have hS : Sep w0 B w (own 3 (.slice none (([] : List Int).length) 0) (vI ([] : List Int)) :: blk g2 71 #[.slice none 0 0, .int .i64 0] :: blk g1 71 #[.slice A1 b1.length c1, .int .i64 b2] :: fs) := hS
      have hld0 := run_loadVarA (P := Try.prog) (t := 71) (cs := #[.slice none (([] : List Int).length) 0, .int .i64 0]) (by kernel_rfl) (by kernel_rfl) ((hS.at_ 1 rfl).cellsAt 0 (by rfl))
      have hS := hS.pickN 3 [0] (by decide)
      have hm : some (([] : List Int), 0, false, 9) = some r := hm
      obtain rfl := Option.some.inj hm
      exact retV (rs := [.cell 4 71, .tmp 5, .tmp 6]) (vs := [.agg #[.slice none (([] : List Int).length) 0, .int .i64 0], .bool false, .int .i64 9]) hF rfl (rv_c (by kernel_rfl) hld0 <| rv_t (by kernel_rfl) <| rv_t (by kernel_rfl) <| rv_nil) rfl ⟨_, rfl, none, 0, rfl, hS⟩
    · replace hm := if_f hm hb
      refine wp_skip ?_
      refine then_n ?_
      have hS := hS.pickN 2 [1, 0] (by decide)
      exact ⟨hF.weak [1, 2, 4, 7, 8] (by kernel_rfl), hS, hm⟩

noncomputable def gameroomlaw_sameInts_J4 (i1 : Int) : Option (St Int (Fl Unit Bool)) :=
  some (.next (w64 (i1 + 1)))

noncomputable def gameroomlaw_sameInts_J3 (a1 : List Int) (b1 : List Int) (i1 : Int) : Option (St Int (Fl Unit Bool)) :=
  asrt (0 ≤ i1 ∧ i1 < (a1.length : Int)) <| asrt (0 ≤ i1 ∧ i1 < (b1.length : Int)) <| if ((geti a1 i1) != (geti b1 i1)) then (some (.done (.ret false))) else ((gameroomlaw_sameInts_J4 i1))

noncomputable def gameroomlaw_sameInts_J2 : Option Bool :=
  some true

noncomputable def gameroomlaw_sameInts_K1 : (Fl Unit Bool) → Option Bool :=
  fun (x : (Fl Unit Bool)) => match x with | .go _ => gameroomlaw_sameInts_J2 | .ret x => some x

noncomputable def gameroomlaw_sameInts_L1 (a1 : List Int) (b1 : List Int) : Int → Option (St Int (Fl Unit Bool)) :=
  fun (x : Int) => match x with | i1 => if (decide (i1 < (a1.length : Int))) then ((gameroomlaw_sameInts_J3 a1 b1 i1)) else (some (.done (.go ())))

noncomputable def gameroomlaw_sameInts_J1 (a1 : List Int) (b1 : List Int) : Option Bool :=
  (loop (gameroomlaw_sameInts_L1 a1 b1) 0).bind gameroomlaw_sameInts_K1

noncomputable def gameroomlaw_sameInts_m (a1 : List Int) (b1 : List Int) : Option Bool :=
  if ((a1.length : Int) != (b1.length : Int)) then (some false) else ((gameroomlaw_sameInts_J1 a1 b1))

set_option maxRecDepth 100000 in
set_option maxHeartbeats 4000000 in
theorem gameroomlaw_sameInts_w {A1 : Option Addr} {c1 : Nat} {n1 : Nat} {a1 : List Int} {A2 : Option Addr} {c2 : Nat} {n2 : Nat} {b1 : List Int} {r : Bool} {w0 w : World} {B : Nat} {fs : List HP} (hm : gameroomlaw_sameInts_m a1 b1 = some r) (hS : Sep w0 B w (fs)) (hr_a1 : RdF w0 B fs A1 (vI a1)) (_hc_a1 : a1.length ≤ c1) (_hn_a1 : n1 = a1.length) (hr_b1 : RdF w0 B fs A2 (vI b1)) (_hc_b1 : b1.length ≤ c2) (_hn_b1 : n2 = b1.length) :
    Calls Try.prog 36 #[.slice A1 n1 c1, .slice A2 n2 c2] w fun e w' => e = .returned (.bool r) ∧ Sep w0 B w' (fs) := by
  obtain ⟨i3, hi3, hz3, hs3, hb3⟩ := info_parts Info3
  obtain rfl := _hn_a1
  obtain rfl := _hn_b1
  unfold gameroomlaw_sameInts_m at hm
  replace hm := start_b hm
  refine enter (l := [.slice A1 a1.length c1, .slice A2 b1.length c2]) (n := 26) Try.func36 rfl rfl (by simp) (fun a hF => ?_)
  refine reg [] [] [0, 1] [pl 0 (.slice A1 a1.length c1), pl 1 (.slice A2 b1.length c2)] hF hS Fol (by kernel_rfl) (by kernel_rfl) (by kernel_rfl) ?_ (fun a w hF hS => ?_)
  · exact obs_nil
  refine seq_cut (fun a w => Fr 26 [pl 0 (.slice A1 a1.length c1), pl 1 (.slice A2 b1.length c2)] a ∧ Sep w0 B w (fs) ∧ ((gameroomlaw_sameInts_J1 a1 b1)).bind some = some r) ?_ ?_
  · rintro a w ⟨hF, hS, hm⟩
    unfold gameroomlaw_sameInts_J1 at hm
    refine seq_cut (fun a w => Fr 26 [] a ∧ Sep w0 B w (fs) ∧ (gameroomlaw_sameInts_J2).bind some = some r) ?_ ?_
    · rintro a w ⟨hF, hS, hm⟩
      unfold gameroomlaw_sameInts_J2 at hm
      refine reg [] [] [4] [pl 4 (.bool true)] hF hS Fol (by kernel_rfl) (by kernel_rfl) (by kernel_rfl) ?_ (fun a w hF hS => ?_)
      · exact obs_nil
      refine wp_ret ?_
      have hm : some true = some r := hm
      obtain rfl := Option.some.inj hm
      exact retV (rs := [.tmp 4]) (vs := [.bool true]) hF rfl (rv_t (by kernel_rfl) <| rv_nil) rfl ⟨rfl, hS⟩
    · refine reg [] [] [0, 1, 5] [pl 0 (.slice A1 a1.length c1), pl 1 (.slice A2 b1.length c2), pl 5 (.int .i64 0)] hF hS Fol (by kernel_rfl) (by kernel_rfl) (by kernel_rfl) ?_ (fun a w hF hS => ?_)
      · exact obs_nil
      refine wp_block ?_
      refine wp_loop_model (S := Int) (R := (Fl Unit Bool)) (gameroomlaw_sameInts_L1 a1 b1) (fun x => (gameroomlaw_sameInts_K1 x).bind some) r (fun (x : Int) a w => Fr 26 [pl 0 (.slice A1 a1.length c1), pl 1 (.slice A2 b1.length c2), pl 5 (.int .i64 x)] a ∧ Sep w0 B w (fs)) (assoc_b hm) ⟨hF.weak [0, 1, 5] (by kernel_rfl), hS⟩ ?_
      clear hF hS hm
      rintro nn1 i1 a w ⟨hF, hS⟩ hm
      generalize hφ1 : stK (gameroomlaw_sameInts_L1 a1 b1) nn1 (fun x => (gameroomlaw_sameInts_K1 x).bind some) = φ1 at hm
      unfold gameroomlaw_sameInts_L1 at hm
      dsimp only at hm
      refine seq_cut (fun a w => Fr 26 [pl 0 (.slice A1 a1.length c1), pl 1 (.slice A2 b1.length c2), pl 5 (.int .i64 i1)] a ∧ Sep w0 B w (fs) ∧ ((gameroomlaw_sameInts_J3 a1 b1 i1)).bind φ1 = some r) ?_ ?_
      · rintro a w ⟨hF, hS, hm⟩
        unfold gameroomlaw_sameInts_J3 at hm
        refine seq_cut (fun a w => Fr 26 [pl 0 (.slice A1 a1.length c1), pl 1 (.slice A2 b1.length c2), pl 5 (.int .i64 i1)] a ∧ Sep w0 B w (fs) ∧ ((gameroomlaw_sameInts_J4 i1)).bind φ1 = some r) ?_ ?_
        · rintro a w ⟨hF, hS, hm⟩
          unfold gameroomlaw_sameInts_J4 at hm
          refine reg1 [] [] [0, 1, 5] [pl 0 (.slice A1 a1.length c1), pl 1 (.slice A2 b1.length c2), pl 5 (.int .i64 (w64 (i1 + 1)))] hF hS Fol (by kernel_rfl) (by kernel_rfl) (by kernel_rfl) ?_ (fun a w hF hS => ?_)
          · exact obs_nil
          refine then_n ?_
          rw [← hφ1] at hm
          exact ⟨(w64 (i1 + 1)), ⟨hF.weak [0, 1, 5] (by kernel_rfl), hS⟩, hm⟩
        · refine wp_block ?_
          obtain ⟨hp1, hm⟩ := asrt_b hm
          obtain ⟨hp2, hm⟩ := asrt_b hm
          refine reg [⟨true, [], vS (Instr.indexAt 40 (.slice A1 a1.length c1) (.int .i64 i1)), .pointer (some (sAddr A1 i1))⟩, ⟨false, [], vS (Instr.loadAt 3 (.pointer (some (sAddr A1 i1)))), .int .i64 (geti a1 i1)⟩, ⟨true, [], vS (Instr.indexAt 40 (.slice A2 b1.length c2) (.int .i64 i1)), .pointer (some (sAddr A2 i1))⟩, ⟨false, [], vS (Instr.loadAt 3 (.pointer (some (sAddr A2 i1)))), .int .i64 (geti b1 i1)⟩] [none, none, some (.pointer (some (sAddr A1 i1))), some (.int .i64 (geti a1 i1)), none, none, some (.pointer (some (sAddr A2 i1))), some (.int .i64 (geti b1 i1)), none] [0, 1, 5, 25] [pl 0 (.slice A1 a1.length c1), pl 1 (.slice A2 b1.length c2), pl 5 (.int .i64 i1), pl 25 (.bool ((geti a1 i1) != (geti b1 i1)))] hF hS Fol (by kernel_rfl) (by kernel_rfl) (by kernel_rfl) ?_ (fun a w hF hS => ?_)
          · exact obs_cons (ob_ix1 (f := (Value.int .i64)) (m := a1) Und40 hi3 hs3 (hr_a1 _ (hS.dropN 0)) rfl (fun _ => hp1)) <| obs_cons (ob_get1 (n := a1.length) (m := a1) (Value.int .i64) (0 : Int) Agg3 (fun _ hS => ⟨_, (hr_a1 _ (hS.dropN 0))⟩) (fun _ hS => rfl) (fun _ => hp1)) <| obs_cons (ob_ix1 (f := (Value.int .i64)) (m := b1) Und40 hi3 hs3 (hr_b1 _ (hS.dropN 0)) rfl (fun _ => hp2)) <| obs_cons (ob_get1 (n := b1.length) (m := b1) (Value.int .i64) (0 : Int) Agg3 (fun _ hS => ⟨_, (hr_b1 _ (hS.dropN 0))⟩) (fun _ hS => rfl) (fun _ => hp2)) <| obs_nil
          refine cond_ev (t := 25) (b := ((geti a1 i1) != (geti b1 i1))) hF (by kernel_rfl) (fun hb => ?_) (fun hb => ?_)
          · replace hm := if_t hm hb
            refine reg [] [] [4] [pl 4 (.bool false)] hF hS Fol (by kernel_rfl) (by kernel_rfl) (by kernel_rfl) ?_ (fun a w hF hS => ?_)
            · exact obs_nil
            refine wp_ret ?_
            refine block_r (then_r (then_r (block_r (then_r ?_))))
            rw [← hφ1] at hm
            replace hm := done_b hm
            unfold gameroomlaw_sameInts_K1 at hm
            try dsimp only at hm
            have hm : some false = some r := hm
            obtain rfl := Option.some.inj hm
            exact retV (rs := [.tmp 4]) (vs := [.bool false]) hF rfl (rv_t (by kernel_rfl) <| rv_nil) rfl ⟨rfl, hS⟩
          · replace hm := if_f hm hb
            refine wp_skip ?_
            refine block_n ?_
            refine then_n ?_
            exact ⟨hF.weak [0, 1, 5] (by kernel_rfl), hS, hm⟩
      · refine reg [] [] [0, 1, 5, 14] [pl 0 (.slice A1 a1.length c1), pl 1 (.slice A2 b1.length c2), pl 5 (.int .i64 i1), pl 14 (.bool (decide (i1 < (a1.length : Int))))] hF hS Fol (by kernel_rfl) (by kernel_rfl) (by kernel_rfl) ?_ (fun a w hF hS => ?_)
        · exact obs_nil
        refine cond_ev (t := 14) (b := decide (i1 < (a1.length : Int))) hF (by kernel_rfl) (fun hb => ?_) (fun hb => ?_)
        · replace hm := if_t hm hb
          refine wp_skip ?_
          refine then_n ?_
          exact ⟨hF.weak [0, 1, 5] (by kernel_rfl), hS, hm⟩
        · replace hm := if_f hm hb
          refine wp_exit ?_
          refine then_e (then_e (block_e (then_n ?_)))
          rw [← hφ1] at hm
          replace hm := done_b hm
          unfold gameroomlaw_sameInts_K1 at hm
          try dsimp only at hm
          have hm : (gameroomlaw_sameInts_J2).bind some = some r := hm
          exact ⟨hF.weak [] (by kernel_rfl), hS, hm⟩
  · refine reg [] [] [0, 1, 10] [pl 0 (.slice A1 a1.length c1), pl 1 (.slice A2 b1.length c2), pl 10 (.bool ((a1.length : Int) != (b1.length : Int)))] hF hS Fol (by kernel_rfl) (by kernel_rfl) (by kernel_rfl) ?_ (fun a w hF hS => ?_)
    · exact obs_nil
    refine cond_ev (t := 10) (b := ((a1.length : Int) != (b1.length : Int))) hF (by kernel_rfl) (fun hb => ?_) (fun hb => ?_)
    · replace hm := if_t hm hb
      refine reg [] [] [4] [pl 4 (.bool false)] hF hS Fol (by kernel_rfl) (by kernel_rfl) (by kernel_rfl) ?_ (fun a w hF hS => ?_)
      · exact obs_nil
      refine wp_ret ?_
      refine then_r ?_
      have hm : some false = some r := hm
      obtain rfl := Option.some.inj hm
      exact retV (rs := [.tmp 4]) (vs := [.bool false]) hF rfl (rv_t (by kernel_rfl) <| rv_nil) rfl ⟨rfl, hS⟩
    · replace hm := if_f hm hb
      refine wp_skip ?_
      refine then_n ?_
      exact ⟨hF.weak [0, 1] (by kernel_rfl), hS, hm⟩

noncomputable def gameroomlaw_sameSeeds_m (a1 : List Int) (a2 : Int) (b1 : List Int) (b2 : Int) : Option Bool :=
  ((if (a2 == b2) then gameroomlaw_sameInts_m a1 b1 else some false)).bind fun r1 => some ((a2 == b2) && r1)

set_option maxRecDepth 100000 in
set_option maxHeartbeats 4000000 in
theorem gameroomlaw_sameSeeds_w {A1 : Option Addr} {c1 : Nat} {n1 : Nat} {a1 : List Int} {a2 : Int} {A2 : Option Addr} {c2 : Nat} {n2 : Nat} {b1 : List Int} {b2 : Int} {r : Bool} {w0 w : World} {B : Nat} {fs : List HP} (hm : gameroomlaw_sameSeeds_m a1 a2 b1 b2 = some r) (hS : Sep w0 B w (fs)) (hr_a1 : RdF w0 B fs A1 (vI a1)) (_hc_a1 : a1.length ≤ c1) (_hn_a1 : n1 = a1.length) (hr_b1 : RdF w0 B fs A2 (vI b1)) (_hc_b1 : b1.length ≤ c2) (_hn_b1 : n2 = b1.length) :
    Calls Try.prog 77 #[.agg #[.slice A1 n1 c1, .int .i64 a2], .agg #[.slice A2 n2 c2, .int .i64 b2]] w fun e w' => e = .returned (.bool r) ∧ Sep w0 B w' (fs) := by
  obtain ⟨i3, hi3, hz3, hs3, hb3⟩ := info_parts Info3
  obtain rfl := _hn_a1
  obtain rfl := _hn_b1
  unfold gameroomlaw_sameSeeds_m at hm
  replace hm := start_b hm
  refine enter (l := [.agg #[.slice A1 a1.length c1, .int .i64 a2], .agg #[.slice A2 b1.length c2, .int .i64 b2]]) (n := 17) Try.func77 rfl rfl (by simp) (fun a hF => ?_)
  refine seqR ?_
  refine at_do (d := 2) (s := vS (Instr.box 71 (.agg #[.slice A1 a1.length c1, .int .i64 a2]))) (v := .pointer (some ⟨w.heap.size, 0, none⟩)) (w' := w.alloc (.cells #[.slice A1 a1.length c1, .int .i64 a2] 71)) hF (by kernel_rfl) (by kernel_rfl) (by kernel_rfl) (fun a hF => ?_)
  have hS : Sep w0 B (w.alloc (.cells #[.slice A1 a1.length c1, .int .i64 a2] 71)) (blk w.heap.size 71 #[.slice A1 a1.length c1, .int .i64 a2] :: (fs)) := hS.box 71 #[.slice A1 a1.length c1, .int .i64 a2]
  generalize w.heap.size = g1 at hF hS
  generalize w.alloc (.cells #[.slice A1 a1.length c1, .int .i64 a2] 71) = w at hS ⊢
  refine at_do (d := 3) (s := vS (Instr.box 71 (.agg #[.slice A2 b1.length c2, .int .i64 b2]))) (v := .pointer (some ⟨w.heap.size, 0, none⟩)) (w' := w.alloc (.cells #[.slice A2 b1.length c2, .int .i64 b2] 71)) hF (by kernel_rfl) (by kernel_rfl) (by kernel_rfl) (fun a hF => ?_)
  have hS : Sep w0 B (w.alloc (.cells #[.slice A2 b1.length c2, .int .i64 b2] 71)) (blk w.heap.size 71 #[.slice A2 b1.length c2, .int .i64 b2] :: (blk g1 71 #[.slice A1 a1.length c1, .int .i64 a2] :: fs)) := hS.box 71 #[.slice A2 b1.length c2, .int .i64 b2]
  generalize w.heap.size = g2 at hF hS
  generalize w.alloc (.cells #[.slice A2 b1.length c2, .int .i64 b2] 71) = w at hS ⊢
  refine at_run 1 [] [] [2, 3] [pl 2 (.pointer (some ⟨g1, 0, none⟩)), pl 3 (.pointer (some ⟨g2, 0, none⟩))] hF hS (by kernel_rfl) (by kernel_rfl) ?_ (fun a w hF hS => ?_)
  · exact obs_nil
  refine at_end [2, 3] [pl 2 (.pointer (some ⟨g1, 0, none⟩)), pl 3 (.pointer (some ⟨g2, 0, none⟩))] hF rfl (by kernel_rfl) (fun hF => ?_)
  refine then_n ?_
  obtain ⟨r1, hr1, hm⟩ := call_b hm
  refine reg [⟨false, [], vS (Instr.loadAt 3 (.pointer (some ⟨g1, 1, none⟩))), .int .i64 a2⟩, ⟨false, [], vS (Instr.loadAt 3 (.pointer (some ⟨g2, 1, none⟩))), .int .i64 b2⟩, ⟨false, [((a2 == b2), true)], vS (Instr.loadAt 40 (.pointer (some ⟨g1, 0, none⟩))), .slice A1 a1.length c1⟩, ⟨false, [((a2 == b2), true)], vS (Instr.loadAt 40 (.pointer (some ⟨g2, 0, none⟩))), .slice A2 b1.length c2⟩, ⟨false, [((a2 == b2), true)], callFunc 36 #[.slice A1 a1.length c1, .slice A2 b1.length c2], .bool r1⟩] [none, some (.int .i64 a2), none, some (.int .i64 b2), none, none, none, some (.slice A1 a1.length c1), none, some (.slice A2 b1.length c2), some (.bool r1), none, none] [4] [pl 4 (.bool ((a2 == b2) && r1))] hF hS Fol (by kernel_rfl) (by kernel_rfl) (by kernel_rfl) ?_ (fun a w hF hS => ?_)
  · exact obs_cons (ob_load Agg3 (fun _ _ hS => (hS.at_ 1 rfl).cell rfl)) <| obs_cons (ob_load Agg3 (fun _ _ hS => (hS.at_ 0 rfl).cell rfl)) <| obs_cons (ob_load Agg40 (fun _ _ hS => (hS.at_ 1 rfl).cell rfl)) <| obs_cons (ob_load Agg40 (fun _ _ hS => (hS.at_ 0 rfl).cell rfl)) <| obs_cons (ob_call Try.func36 (by kernel_rfl) rfl (fun hy _ hS => gameroomlaw_sameInts_w (ite_some hr1 (by rw [show (a2 == b2) = true from hy ((a2 == b2), true) (by simp)]; try rfl)) hS (fun _ hS => (hr_a1 _ (hS.dropN 2))) _hc_a1 rfl (fun _ hS => (hr_b1 _ (hS.dropN 2))) _hc_b1 rfl)) <| obs_nil
  refine wp_ret ?_
  have hS := hS.pickN 2 [] (by decide)
  have hm : some ((a2 == b2) && r1) = some r := hm
  obtain rfl := Option.some.inj hm
  exact retV (rs := [.tmp 4]) (vs := [.bool ((a2 == b2) && r1)]) hF rfl (rv_t (by kernel_rfl) <| rv_nil) rfl ⟨rfl, hS⟩

noncomputable def gameroomlaw_MancalaSows_J1 (b1 : List Int) (b2 : Int) (pit1 : Int) (r2 : (List Int × Int × Bool × Int)) : Option Bool :=
  (gameroomref_SowOf_m b1 b2 pit1).bind fun r4 => ((if ((r2.2.2.2 == r4.2.2.2) && (r2.2.2.1 == r4.2.2.1)) then gameroomlaw_sameSeeds_m r2.1 r2.2.1 r4.1 r4.2.1 else some false)).bind fun r5 => some (((r2.2.2.2 == r4.2.2.2) && (r2.2.2.1 == r4.2.2.1)) && r5)

noncomputable def gameroomlaw_MancalaSows_m (b1 : List Int) (b2 : Int) (pit1 : Int) : Option Bool :=
  (gameroomlaw_seeds_m b1 b2).bind fun r1 => (mancala_Sow_m r1.1 r1.2 pit1).bind fun r2 => (gameroomref_MancalaMay_m b1 b2).bind fun r3 => if (!r3) then (some ((((r2.2.2.2 == 12) && (!r2.2.2.1)) && ((r2.1.length : Int) == 0)) && (r2.2.1 == 0))) else ((gameroomlaw_MancalaSows_J1 b1 b2 pit1 r2))

set_option maxRecDepth 100000 in
set_option maxHeartbeats 4000000 in
theorem gameroomlaw_MancalaSows_w {A1 : Option Addr} {c1 : Nat} {n1 : Nat} {b1 : List Int} {b2 : Int} {pit1 : Int} {r : Bool} {w0 w : World} {B : Nat} {fs : List HP} (hm : gameroomlaw_MancalaSows_m b1 b2 pit1 = some r) (hS : Sep w0 B w (fs)) (hr_b1 : RdF w0 B fs A1 (vI b1)) (_hc_b1 : b1.length ≤ c1) (_hn_b1 : n1 = b1.length) :
    Calls Try.prog 14 #[.agg #[.slice A1 n1 c1, .int .i64 b2], .int .i64 pit1] w fun e w' => e = .returned (.bool r) ∧ Sep w0 B w' (fs) := by
  obtain ⟨i3, hi3, hz3, hs3, hb3⟩ := info_parts Info3
  obtain rfl := _hn_b1
  unfold gameroomlaw_MancalaSows_m at hm
  replace hm := start_b hm
  refine enter (l := [.agg #[.slice A1 b1.length c1, .int .i64 b2], .int .i64 pit1]) (n := 59) Try.func14 rfl rfl (by simp) (fun a hF => ?_)
  refine seqR ?_
  refine at_do (d := 2) (s := vS (Instr.box 71 (.agg #[.slice A1 b1.length c1, .int .i64 b2]))) (v := .pointer (some ⟨w.heap.size, 0, none⟩)) (w' := w.alloc (.cells #[.slice A1 b1.length c1, .int .i64 b2] 71)) hF (by kernel_rfl) (by kernel_rfl) (by kernel_rfl) (fun a hF => ?_)
  have hS : Sep w0 B (w.alloc (.cells #[.slice A1 b1.length c1, .int .i64 b2] 71)) (blk w.heap.size 71 #[.slice A1 b1.length c1, .int .i64 b2] :: (fs)) := hS.box 71 #[.slice A1 b1.length c1, .int .i64 b2]
  generalize w.heap.size = g1 at hF hS
  generalize w.alloc (.cells #[.slice A1 b1.length c1, .int .i64 b2] 71) = w at hS ⊢
  refine at_run 1 [] [] [1, 2] [pl 1 (.int .i64 pit1), pl 2 (.pointer (some ⟨g1, 0, none⟩))] hF hS (by kernel_rfl) (by kernel_rfl) ?_ (fun a w hF hS => ?_)
  · exact obs_nil
  refine at_end [1, 2] [pl 1 (.int .i64 pit1), pl 2 (.pointer (some ⟨g1, 0, none⟩))] hF rfl (by kernel_rfl) (fun hF => ?_)
  refine then_n ?_
  refine seqR ?_
  obtain ⟨r1, hr1, hm⟩ := call_b hm
  obtain ⟨r2, hr2, hm⟩ := call_b hm
  refine at_run 1 [⟨false, [], vS (Instr.loadAt 71 (.pointer (some ⟨g1, 0, none⟩))), .agg #[.slice A1 b1.length c1, .int .i64 b2]⟩] [some (.agg #[.slice A1 b1.length c1, .int .i64 b2])] [1, 2, 12] [pl 1 (.int .i64 pit1), pl 2 (.pointer (some ⟨g1, 0, none⟩)), pl 12 (.agg #[.slice A1 b1.length c1, .int .i64 b2])] hF hS (by kernel_rfl) (by kernel_rfl) ?_ (fun a w hF hS => ?_)
  · exact obs_cons (ob_loadA (cs := #[.slice A1 b1.length c1, .int .i64 b2]) (by kernel_rfl) (by kernel_rfl) (fun _ _ hS => (hS.at_ 0 rfl).cellsAt 0 (by rfl))) <| obs_nil
  refine at_call (f := 49) (args := #[.agg #[.slice A1 b1.length c1, .int .i64 b2]]) (d := 13) hF (by kernel_rfl) (by kernel_rfl) Try.func49 (by kernel_rfl) rfl (gameroomlaw_seeds_w hr1 hS (fun _ hS => (hr_b1 _ (hS.dropN 1))) _hc_b1 rfl) (fun v a w hR hF => ?_)
  clear hS
  obtain ⟨A2, c2, rfl, hS⟩ := hR
  have hS : Sep w0 B w (own 3 (.slice A2 r1.1.length c2) (vI r1.1) :: blk g1 71 #[.slice A1 b1.length c1, .int .i64 b2] :: fs) := hS
  refine at_run 1 [] [] [1, 2, 13, 14] [pl 1 (.int .i64 pit1), pl 2 (.pointer (some ⟨g1, 0, none⟩)), pl 13 (.agg #[.slice A2 r1.1.length c2, .int .i64 r1.2]), pl 14 (.int .i64 pit1)] hF hS (by kernel_rfl) (by kernel_rfl) ?_ (fun a w hF hS => ?_)
  · exact obs_nil
  refine at_call (f := 75) (args := #[.agg #[.slice A2 r1.1.length c2, .int .i64 r1.2], .int .i64 pit1]) (d := 15) hF (by kernel_rfl) (by kernel_rfl) Try.func75 (by kernel_rfl) rfl (mancala_Sow_w hr2 hS (fun _ hS => (hS.at_ 0 rfl).rd) ((hS.at_ 0 rfl).cap1) rfl) (fun v a w hR hF => ?_)
  clear hS
  obtain ⟨A3, c3, rfl, hS⟩ := hR
  have hS : Sep w0 B w (own 3 (.slice A3 r2.1.length c3) (vI r2.1) :: own 3 (.slice A2 r1.1.length c2) (vI r1.1) :: blk g1 71 #[.slice A1 b1.length c1, .int .i64 b2] :: fs) := hS
  refine at_run 4 [] [] [1, 2, 16, 17, 18] [pl 1 (.int .i64 pit1), pl 2 (.pointer (some ⟨g1, 0, none⟩)), pl 16 (.agg #[.slice A3 r2.1.length c3, .int .i64 r2.2.1]), pl 17 (.bool r2.2.2.1), pl 18 (.int .i64 r2.2.2.2)] hF hS (by kernel_rfl) (by kernel_rfl) ?_ (fun a w hF hS => ?_)
  · exact obs_nil
  refine at_do (d := 5) (s := vS (Instr.alloc 71 true (.tuple #[]))) (v := .pointer (some ⟨w.heap.size, 0, none⟩)) (w' := w.alloc (.cells #[.slice none 0 0, .int .i64 0] 71)) hF (by kernel_rfl) (by kernel_rfl) (by kernel_rfl) (fun a hF => ?_)
  have hS : Sep w0 B (w.alloc (.cells #[.slice none 0 0, .int .i64 0] 71)) (blk w.heap.size 71 #[.slice none 0 0, .int .i64 0] :: (own 3 (.slice A3 r2.1.length c3) (vI r2.1) :: own 3 (.slice A2 r1.1.length c2) (vI r1.1) :: blk g1 71 #[.slice A1 b1.length c1, .int .i64 b2] :: fs)) := hS.box 71 #[.slice none 0 0, .int .i64 0]
  generalize w.heap.size = g2 at hF hS
  generalize w.alloc (.cells #[.slice none 0 0, .int .i64 0] 71) = w at hS ⊢
  obtain ⟨w, hrun, hS⟩ := run_putA (P := Try.prog) (t := 71) (us := #[.slice A3 r2.1.length c3, .int .i64 r2.2.1]) (o := 0) (hS.at_ 0 rfl) (by kernel_rfl) (all_one (by kernel_rfl)) (Nat.le_of_ble_eq_true (by kernel_rfl))
  refine at_skip hF (by kernel_rfl) hrun ?_
  have hS : Sep w0 B w (blk g2 71 #[.slice A3 r2.1.length c3, .int .i64 r2.2.1] :: own 3 (.slice A3 r2.1.length c3) (vI r2.1) :: own 3 (.slice A2 r1.1.length c2) (vI r1.1) :: blk g1 71 #[.slice A1 b1.length c1, .int .i64 b2] :: fs) := hS
  refine at_run 2 [] [] [1, 2, 5, 6, 7] [pl 1 (.int .i64 pit1), pl 2 (.pointer (some ⟨g1, 0, none⟩)), pl 5 (.pointer (some ⟨g2, 0, none⟩)), pl 6 (.bool r2.2.2.1), pl 7 (.int .i64 r2.2.2.2)] hF hS (by kernel_rfl) (by kernel_rfl) ?_ (fun a w hF hS => ?_)
  · exact obs_nil
  refine at_end [1, 2, 5, 6, 7] [pl 1 (.int .i64 pit1), pl 2 (.pointer (some ⟨g1, 0, none⟩)), pl 5 (.pointer (some ⟨g2, 0, none⟩)), pl 6 (.bool r2.2.2.1), pl 7 (.int .i64 r2.2.2.2)] hF rfl (by kernel_rfl) (fun hF => ?_)
  refine then_n ?_
  refine seq_cut (fun a w => Fr 59 [pl 1 (.int .i64 pit1), pl 2 (.pointer (some ⟨g1, 0, none⟩)), pl 5 (.pointer (some ⟨g2, 0, none⟩)), pl 6 (.bool r2.2.2.1), pl 7 (.int .i64 r2.2.2.2)] a ∧ Sep w0 B w (blk g1 71 #[.slice A1 b1.length c1, .int .i64 b2] :: blk g2 71 #[.slice A3 r2.1.length c3, .int .i64 r2.2.1] :: own 3 (.slice A3 r2.1.length c3) (vI r2.1) :: fs) ∧ ((gameroomlaw_MancalaSows_J1 b1 b2 pit1 r2)).bind some = some r) ?_ ?_
  · rintro a w ⟨hF, hS, hm⟩
    unfold gameroomlaw_MancalaSows_J1 at hm
    refine seqR ?_
    obtain ⟨r4, hr4, hm⟩ := call_b hm
    refine at_run 2 [⟨false, [], vS (Instr.loadAt 71 (.pointer (some ⟨g1, 0, none⟩))), .agg #[.slice A1 b1.length c1, .int .i64 b2]⟩] [some (.agg #[.slice A1 b1.length c1, .int .i64 b2]), none] [5, 6, 7, 40, 41] [pl 5 (.pointer (some ⟨g2, 0, none⟩)), pl 6 (.bool r2.2.2.1), pl 7 (.int .i64 r2.2.2.2), pl 40 (.agg #[.slice A1 b1.length c1, .int .i64 b2]), pl 41 (.int .i64 pit1)] hF hS (by kernel_rfl) (by kernel_rfl) ?_ (fun a w hF hS => ?_)
    · exact obs_cons (ob_loadA (cs := #[.slice A1 b1.length c1, .int .i64 b2]) (by kernel_rfl) (by kernel_rfl) (fun _ _ hS => (hS.at_ 0 rfl).cellsAt 0 (by rfl))) <| obs_nil
    refine at_call (f := 76) (args := #[.agg #[.slice A1 b1.length c1, .int .i64 b2], .int .i64 pit1]) (d := 42) hF (by kernel_rfl) (by kernel_rfl) Try.func76 (by kernel_rfl) rfl (gameroomref_SowOf_w hr4 hS (fun _ hS => (hr_b1 _ (hS.dropN 3))) _hc_b1 rfl) (fun v a w hR hF => ?_)
    clear hS
    obtain ⟨A4, c4, rfl, hS⟩ := hR
    have hS : Sep w0 B w (own 3 (.slice A4 r4.1.length c4) (vI r4.1) :: blk g1 71 #[.slice A1 b1.length c1, .int .i64 b2] :: blk g2 71 #[.slice A3 r2.1.length c3, .int .i64 r2.2.1] :: own 3 (.slice A3 r2.1.length c3) (vI r2.1) :: fs) := hS
    refine at_run 4 [] [] [5, 6, 7, 43, 44, 45] [pl 5 (.pointer (some ⟨g2, 0, none⟩)), pl 6 (.bool r2.2.2.1), pl 7 (.int .i64 r2.2.2.2), pl 43 (.agg #[.slice A4 r4.1.length c4, .int .i64 r4.2.1]), pl 44 (.bool r4.2.2.1), pl 45 (.int .i64 r4.2.2.2)] hF hS (by kernel_rfl) (by kernel_rfl) ?_ (fun a w hF hS => ?_)
    · exact obs_nil
    refine at_do (d := 8) (s := vS (Instr.alloc 71 true (.tuple #[]))) (v := .pointer (some ⟨w.heap.size, 0, none⟩)) (w' := w.alloc (.cells #[.slice none 0 0, .int .i64 0] 71)) hF (by kernel_rfl) (by kernel_rfl) (by kernel_rfl) (fun a hF => ?_)
    have hS : Sep w0 B (w.alloc (.cells #[.slice none 0 0, .int .i64 0] 71)) (blk w.heap.size 71 #[.slice none 0 0, .int .i64 0] :: (own 3 (.slice A4 r4.1.length c4) (vI r4.1) :: blk g1 71 #[.slice A1 b1.length c1, .int .i64 b2] :: blk g2 71 #[.slice A3 r2.1.length c3, .int .i64 r2.2.1] :: own 3 (.slice A3 r2.1.length c3) (vI r2.1) :: fs)) := hS.box 71 #[.slice none 0 0, .int .i64 0]
    generalize w.heap.size = g3 at hF hS
    generalize w.alloc (.cells #[.slice none 0 0, .int .i64 0] 71) = w at hS ⊢
    obtain ⟨w, hrun, hS⟩ := run_putA (P := Try.prog) (t := 71) (us := #[.slice A4 r4.1.length c4, .int .i64 r4.2.1]) (o := 0) (hS.at_ 0 rfl) (by kernel_rfl) (all_one (by kernel_rfl)) (Nat.le_of_ble_eq_true (by kernel_rfl))
    refine at_skip hF (by kernel_rfl) hrun ?_
    have hS : Sep w0 B w (blk g3 71 #[.slice A4 r4.1.length c4, .int .i64 r4.2.1] :: own 3 (.slice A4 r4.1.length c4) (vI r4.1) :: blk g1 71 #[.slice A1 b1.length c1, .int .i64 b2] :: blk g2 71 #[.slice A3 r2.1.length c3, .int .i64 r2.2.1] :: own 3 (.slice A3 r2.1.length c3) (vI r2.1) :: fs) := hS
    refine at_run 2 [] [] [5, 6, 7, 8, 9, 10] [pl 5 (.pointer (some ⟨g2, 0, none⟩)), pl 6 (.bool r2.2.2.1), pl 7 (.int .i64 r2.2.2.2), pl 8 (.pointer (some ⟨g3, 0, none⟩)), pl 9 (.bool r4.2.2.1), pl 10 (.int .i64 r4.2.2.2)] hF hS (by kernel_rfl) (by kernel_rfl) ?_ (fun a w hF hS => ?_)
    · exact obs_nil
    refine at_end [5, 6, 7, 8, 9, 10] [pl 5 (.pointer (some ⟨g2, 0, none⟩)), pl 6 (.bool r2.2.2.1), pl 7 (.int .i64 r2.2.2.2), pl 8 (.pointer (some ⟨g3, 0, none⟩)), pl 9 (.bool r4.2.2.1), pl 10 (.int .i64 r4.2.2.2)] hF rfl (by kernel_rfl) (fun hF => ?_)
    refine then_n ?_
    obtain ⟨r5, hr5, hm⟩ := call_b hm
    refine reg [⟨false, [((r2.2.2.2 == r4.2.2.2) && (r2.2.2.1 == r4.2.2.1), true)], vS (Instr.loadAt 71 (.pointer (some ⟨g2, 0, none⟩))), .agg #[.slice A3 r2.1.length c3, .int .i64 r2.2.1]⟩, ⟨false, [((r2.2.2.2 == r4.2.2.2) && (r2.2.2.1 == r4.2.2.1), true)], vS (Instr.loadAt 71 (.pointer (some ⟨g3, 0, none⟩))), .agg #[.slice A4 r4.1.length c4, .int .i64 r4.2.1]⟩, ⟨false, [((r2.2.2.2 == r4.2.2.2) && (r2.2.2.1 == r4.2.2.1), true)], callFunc 77 #[.agg #[.slice A3 r2.1.length c3, .int .i64 r2.2.1], .agg #[.slice A4 r4.1.length c4, .int .i64 r4.2.1]], .bool r5⟩] [none, none, none, none, none, none, none, none, none, some (.agg #[.slice A3 r2.1.length c3, .int .i64 r2.2.1]), some (.agg #[.slice A4 r4.1.length c4, .int .i64 r4.2.1]), some (.bool r5), none, none] [4] [pl 4 (.bool (((r2.2.2.2 == r4.2.2.2) && (r2.2.2.1 == r4.2.2.1)) && r5))] hF hS Fol (by kernel_rfl) (by kernel_rfl) (by kernel_rfl) ?_ (fun a w hF hS => ?_)
    · exact obs_cons (ob_loadA (cs := #[.slice A3 r2.1.length c3, .int .i64 r2.2.1]) (by kernel_rfl) (by kernel_rfl) (fun _ _ hS => (hS.at_ 3 rfl).cellsAt 0 (by rfl))) <| obs_cons (ob_loadA (cs := #[.slice A4 r4.1.length c4, .int .i64 r4.2.1]) (by kernel_rfl) (by kernel_rfl) (fun _ _ hS => (hS.at_ 0 rfl).cellsAt 0 (by rfl))) <| obs_cons (ob_call Try.func77 (by kernel_rfl) rfl (fun hy _ hS => gameroomlaw_sameSeeds_w (ite_some hr5 (by rw [show ((r2.2.2.2 == r4.2.2.2) && (r2.2.2.1 == r4.2.2.1)) = true from hy ((r2.2.2.2 == r4.2.2.2) && (r2.2.2.1 == r4.2.2.1), true) (by simp)]; try rfl)) hS (fun _ hS => (hS.at_ 4 rfl).rd) ((hS.at_ 4 rfl).cap1) rfl (fun _ hS => (hS.at_ 1 rfl).rd) ((hS.at_ 1 rfl).cap1) rfl)) <| obs_nil
    refine wp_ret ?_
    have hS := hS.pickN 5 [] (by decide)
    have hm : some (((r2.2.2.2 == r4.2.2.2) && (r2.2.2.1 == r4.2.2.1)) && r5) = some r := hm
    obtain rfl := Option.some.inj hm
    exact retV (rs := [.tmp 4]) (vs := [.bool (((r2.2.2.2 == r4.2.2.2) && (r2.2.2.1 == r4.2.2.1)) && r5)]) hF rfl (rv_t (by kernel_rfl) <| rv_nil) rfl ⟨rfl, hS⟩
  · obtain ⟨r3, hr3, hm⟩ := call_b hm
    refine reg [⟨false, [], vS (Instr.loadAt 71 (.pointer (some ⟨g1, 0, none⟩))), .agg #[.slice A1 b1.length c1, .int .i64 b2]⟩, ⟨false, [], callFunc 50 #[.agg #[.slice A1 b1.length c1, .int .i64 b2]], .bool r3⟩] [some (.agg #[.slice A1 b1.length c1, .int .i64 b2]), some (.bool r3), none] [1, 2, 5, 6, 7, 21] [pl 1 (.int .i64 pit1), pl 2 (.pointer (some ⟨g1, 0, none⟩)), pl 5 (.pointer (some ⟨g2, 0, none⟩)), pl 6 (.bool r2.2.2.1), pl 7 (.int .i64 r2.2.2.2), pl 21 (.bool (!r3))] hF hS Fol (by kernel_rfl) (by kernel_rfl) (by kernel_rfl) ?_ (fun a w hF hS => ?_)
    · exact obs_cons (ob_loadA (cs := #[.slice A1 b1.length c1, .int .i64 b2]) (by kernel_rfl) (by kernel_rfl) (fun _ _ hS => (hS.at_ 3 rfl).cellsAt 0 (by rfl))) <| obs_cons (ob_call Try.func50 (by kernel_rfl) rfl (fun _ _ hS => gameroomref_MancalaMay_w hr3 hS (fun _ hS => (hr_b1 _ (hS.dropN 4))) _hc_b1 rfl)) <| obs_nil
    refine cond_ev (t := 21) (b := !r3) hF (by kernel_rfl) (fun hb => ?_) (fun hb => ?_)
    · replace hm := if_t hm hb
      refine reg [⟨false, [((r2.2.2.2 == 12) && (!r2.2.2.1), true)], vS (Instr.loadAt 40 (.pointer (some ⟨g2, 0, none⟩))), .slice A3 r2.1.length c3⟩, ⟨false, [(((r2.2.2.2 == 12) && (!r2.2.2.1)) && ((r2.1.length : Int) == 0), true)], vS (Instr.loadAt 3 (.pointer (some ⟨g2, 1, none⟩))), .int .i64 r2.2.1⟩] [none, none, none, none, none, none, none, none, some (.slice A3 r2.1.length c3), none, none, none, none, none, some (.int .i64 r2.2.1), none, none, none] [4] [pl 4 (.bool ((((r2.2.2.2 == 12) && (!r2.2.2.1)) && ((r2.1.length : Int) == 0)) && (r2.2.1 == 0)))] hF hS Fol (by kernel_rfl) (by kernel_rfl) (by kernel_rfl) ?_ (fun a w hF hS => ?_)
      · exact obs_cons (ob_load Agg40 (fun _ _ hS => (hS.at_ 0 rfl).cell rfl)) <| obs_cons (ob_load Agg3 (fun _ _ hS => (hS.at_ 0 rfl).cell rfl)) <| obs_nil
      refine wp_ret ?_
      refine then_r ?_
      have hS := hS.pickN 4 [] (by decide)
      have hm : some ((((r2.2.2.2 == 12) && (!r2.2.2.1)) && ((r2.1.length : Int) == 0)) && (r2.2.1 == 0)) = some r := hm
      obtain rfl := Option.some.inj hm
      exact retV (rs := [.tmp 4]) (vs := [.bool ((((r2.2.2.2 == 12) && (!r2.2.2.1)) && ((r2.1.length : Int) == 0)) && (r2.2.1 == 0))]) hF rfl (rv_t (by kernel_rfl) <| rv_nil) rfl ⟨rfl, hS⟩
    · replace hm := if_f hm hb
      refine wp_skip ?_
      refine then_n ?_
      have hS := hS.pickN 4 [3, 0, 1] (by decide)
      exact ⟨hF.weak [1, 2, 5, 6, 7] (by kernel_rfl), hS, hm⟩

end Go.Proofs.Ytbmhcapeikebgaa
