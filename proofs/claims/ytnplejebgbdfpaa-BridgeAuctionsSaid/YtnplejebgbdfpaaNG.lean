/-
  Models and walks, printed by our own program (wip/gen).
-/
import Derived.Test.YtnplejebgbdfpaaFB
namespace Go.Proofs.Ytnplejebgbdfpaa
open Go Go.GL Go.RowKit


noncomputable def gameroomlaw_ints_m (l1 : List Int) : Option (List Int) :=
  asrt ((0 : Int) + (l1.length : Int) ≤ bigN) <| some ([] ++ l1)

set_option maxRecDepth 100000 in
set_option maxHeartbeats 4000000 in
theorem gameroomlaw_ints_w {A1 : Option Addr} {c1 : Nat} {n1 : Nat} {l1 : List Int} {r : (List Int)} {w0 w : World} {B : Nat} {fs : List HP} (hm : gameroomlaw_ints_m l1 = some r) (hS : Sep w0 B w (fs)) (hr_l1 : RdF w0 B fs A1 (vI l1)) (_hc_l1 : l1.length ≤ c1) (_hn_l1 : n1 = l1.length) :
    Calls Try.prog 16 #[.slice A1 n1 c1] w fun e w' => ∃ v, e = .returned v ∧ ∃ (A3 : Option Addr) (c3 : Nat), v = .slice A3 r.length c3 ∧ Sep w0 B w' (own 3 (.slice A3 r.length c3) (vI r) :: fs) := by
  obtain ⟨i3, hi3, hz3, hs3, hb3⟩ := info_parts Info3
  obtain rfl := _hn_l1
  unfold gameroomlaw_ints_m at hm
  replace hm := start_b hm
  refine enter (l := [.slice A1 l1.length c1]) (n := 5) Try.func16 rfl rfl (by simp) (fun a hF => ?_)
  refine reg [] [] [0] [pl 0 (.slice A1 l1.length c1)] hF hS Fol (by kernel_rfl) (by kernel_rfl) (by kernel_rfl) ?_ (fun a w hF hS => ?_)
  · exact obs_nil
  refine seqR ?_
  obtain ⟨hp1, hm⟩ := asrt_b hm
  refine at_run 1 [] [] [3] [pl 3 (.slice A1 l1.length c1)] hF hS (by kernel_rfl) (by kernel_rfl) ?_ (fun a w hF hS => ?_)
  · exact obs_nil
  have hS : Sep w0 B w (own 3 (.slice none 0 0) (vI ([] : List Int)) :: fs) := hS.nil 3
  obtain ⟨A2, c2, w, hrun, hS⟩ := run_app1 (P := Try.prog) (t := 22) (m := ([] : List Int)) (ys := l1) (A2 := A1) (m2 := l1.length) (c2 := c1) (Value.int .i64) (0 : Int) (hS.at_ 0 rfl) (hr_l1 _ (hS.dropN 1)) rfl 22 Und22 hi3 hz3 hs3 (by omega) rfl (fun _ => rfl) hp1
  have hS : Sep w0 B w (own 3 (.slice A2 (([] ++ l1).length) c2) (vI ([] ++ l1)) :: fs) := hS
  refine at_do (d := 4) hF (by kernel_rfl) (by kernel_rfl) hrun (fun a hF => ?_)
  refine at_run 1 [] [] [2] [pl 2 (.slice A2 (([] ++ l1).length) c2)] hF hS (by kernel_rfl) (by kernel_rfl) ?_ (fun a w hF hS => ?_)
  · exact obs_nil
  refine at_end [2] [pl 2 (.slice A2 (([] ++ l1).length) c2)] hF rfl (by kernel_rfl) (fun hF => ?_)
  refine then_n ?_
  refine wp_ret ?_
  have hm : some ([] ++ l1) = some r := hm
  obtain rfl := Option.some.inj hm
  exact retV (rs := [.tmp 2]) (vs := [.slice A2 (([] ++ l1).length) c2]) hF rfl (rv_t (by kernel_rfl) <| rv_nil) rfl ⟨_, rfl, A2, c2, rfl, hS⟩

noncomputable def bridge_auction_over_m (a_bid1 : Int) (a_bidder1 : Int) (a_doubled1 : Int) (a_last1 : Int) (a_passes1 : Int) (a_first1 : List Int) (a_calls1 : Int) : Option Bool :=
  some ((a_passes1 == 4) || ((decide ((0 : Int) ≤ a_bid1)) && (a_passes1 == 3)))

set_option maxRecDepth 100000 in
set_option maxHeartbeats 4000000 in
theorem bridge_auction_over_w {g1 : Nat} {a_bid1 : Int} {a_bidder1 : Int} {a_doubled1 : Int} {a_last1 : Int} {a_passes1 : Int} {a_first1 : List Int} {a_calls1 : Int} {r : Bool} {w0 w : World} {B : Nat} {fs : List HP} (hm : bridge_auction_over_m a_bid1 a_bidder1 a_doubled1 a_last1 a_passes1 a_first1 a_calls1 = some r) (hS : Sep w0 B w (blk g1 110 (List.toArray (([.int .i64 a_bid1, .int .i64 a_bidder1, .int .i64 a_doubled1, .int .i64 a_last1, .int .i64 a_passes1] : List Value) ++ (arr1 (Value.int .i64) (0 : Int) 10 a_first1 ++ ([.int .i64 a_calls1] : List Value)))) :: fs)) :
    Calls Try.prog 80 #[.pointer (some ⟨g1, 0, none⟩)] w fun e w' => e = .returned (.bool r) ∧ Sep w0 B w' (blk g1 110 (List.toArray (([.int .i64 a_bid1, .int .i64 a_bidder1, .int .i64 a_doubled1, .int .i64 a_last1, .int .i64 a_passes1] : List Value) ++ (arr1 (Value.int .i64) (0 : Int) 10 a_first1 ++ ([.int .i64 a_calls1] : List Value)))) :: fs) := by
  unfold bridge_auction_over_m at hm
  replace hm := start_b hm
  refine enter (l := [.pointer (some ⟨g1, 0, none⟩)]) (n := 22) Try.func80 rfl rfl (by simp) (fun a hF => ?_)
  refine reg [] [] [0] [pl 0 (.pointer (some ⟨g1, 0, none⟩))] hF hS Fol (by kernel_rfl) (by kernel_rfl) (by kernel_rfl) ?_ (fun a w hF hS => ?_)
  · exact obs_nil
  refine reg [⟨false, [], vS (Instr.loadAt 3 (.pointer (some ⟨g1, 4, none⟩))), .int .i64 a_passes1⟩, ⟨false, [((a_passes1 == 4), false)], vS (Instr.loadAt 3 (.pointer (some ⟨g1, 0, none⟩))), .int .i64 a_bid1⟩, ⟨false, [(decide ((0 : Int) ≤ a_bid1), true), ((a_passes1 == 4), false)], vS (Instr.loadAt 3 (.pointer (some ⟨g1, 4, none⟩))), .int .i64 a_passes1⟩] [none, none, none, some (.int .i64 a_passes1), none, none, none, none, none, some (.int .i64 a_bid1), none, none, none, none, none, some (.int .i64 a_passes1), none, none, none, none] [2] [pl 2 (.bool ((a_passes1 == 4) || ((decide ((0 : Int) ≤ a_bid1)) && (a_passes1 == 3))))] hF hS Fol (by kernel_rfl) (by kernel_rfl) (by kernel_rfl) ?_ (fun a w hF hS => ?_)
  · exact obs_cons (ob_load Agg3 (fun _ _ hS => (hS.at_ 0 rfl).cell rfl)) <| obs_cons (ob_load Agg3 (fun _ _ hS => (hS.at_ 0 rfl).cell rfl)) <| obs_cons (ob_load Agg3 (fun _ _ hS => (hS.at_ 0 rfl).cell rfl)) <| obs_nil
  refine wp_ret ?_
  have hm : some ((a_passes1 == 4) || ((decide ((0 : Int) ≤ a_bid1)) && (a_passes1 == 3))) = some r := hm
  obtain rfl := Option.some.inj hm
  exact retV (rs := [.tmp 2]) (vs := [.bool ((a_passes1 == 4) || ((decide ((0 : Int) ≤ a_bid1)) && (a_passes1 == 3)))]) hF rfl (rv_t (by kernel_rfl) <| rv_nil) rfl ⟨rfl, hS⟩

noncomputable def bridge_auction_call_J1 (a_calls1 : Int) (a8 : Int) (a9 : Int) (a10 : Int) (a11 : List Int) : Option (Bool × Int × Int × Int × Int × Int × List Int × Int) :=
  some (true, a8, a9, a10, (Int.tmod a_calls1 4), 0, a11, (w64 (a_calls1 + 1)))

noncomputable def bridge_auction_call_J2 (a_bid1 : Int) (a_bidder1 : Int) (a_first1 : List Int) (a_calls1 : Int) : Option (Bool × Int × Int × Int × Int × Int × List Int × Int) :=
  (bridge_auction_call_J1 a_calls1) a_bid1 a_bidder1 1 a_first1

noncomputable def bridge_auction_call_J3 (a_bid1 : Int) (a_bidder1 : Int) (a_first1 : List Int) (a_calls1 : Int) : Option (Bool × Int × Int × Int × Int × Int × List Int × Int) :=
  (bridge_auction_call_J1 a_calls1) a_bid1 a_bidder1 2 a_first1

noncomputable def bridge_auction_call_J4 (a_first1 : List Int) (a_calls1 : Int) (c1 : Int) : Option (Bool × Int × Int × Int × Int × Int × List Int × Int) :=
  asrt (0 ≤ (bAnd (Int.tmod a_calls1 4) 1) ∧ (bAnd (Int.tmod a_calls1 4) 1) < 2) <| asrt (0 ≤ (Int.tmod (w64 (c1 - 3)) 5) ∧ (Int.tmod (w64 (c1 - 3)) 5) < 5) <| if (decide ((geti a_first1 ((bAnd (Int.tmod a_calls1 4) 1) * 5 + (Int.tmod (w64 (c1 - 3)) 5))) < 0)) then (asrt (((bAnd (Int.tmod a_calls1 4) 1) * 5 + (Int.tmod (w64 (c1 - 3)) 5)) < (a_first1.length : Int)) <| (bridge_auction_call_J1 a_calls1) (w64 (c1 - 3)) (Int.tmod a_calls1 4) 0 (a_first1.set (Int.toNat ((bAnd (Int.tmod a_calls1 4) 1) * 5 + (Int.tmod (w64 (c1 - 3)) 5))) (Int.tmod a_calls1 4))) else ((bridge_auction_call_J1 a_calls1) (w64 (c1 - 3)) (Int.tmod a_calls1 4) 0 a_first1)

noncomputable def bridge_auction_call_m (a_bid1 : Int) (a_bidder1 : Int) (a_doubled1 : Int) (a_last1 : Int) (a_passes1 : Int) (a_first1 : List Int) (a_calls1 : Int) (c1 : Int) : Option (Bool × Int × Int × Int × Int × Int × List Int × Int) :=
  if (c1 == 0) then (some (true, a_bid1, a_bidder1, a_doubled1, a_last1, (w64 (a_passes1 + 1)), a_first1, (w64 (a_calls1 + 1)))) else (if (c1 == 1) then (if ((!((decide ((0 : Int) ≤ a_bid1)) && ((bAnd (w64 ((Int.tmod a_calls1 4) - a_last1)) 1) == 1))) || (a_doubled1 != 0)) then (some (false, a_bid1, a_bidder1, a_doubled1, a_last1, a_passes1, a_first1, a_calls1)) else ((bridge_auction_call_J2 a_bid1 a_bidder1 a_first1 a_calls1))) else (if (c1 == 2) then (if ((!((decide ((0 : Int) ≤ a_bid1)) && ((bAnd (w64 ((Int.tmod a_calls1 4) - a_last1)) 1) == 1))) || (a_doubled1 != 1)) then (some (false, a_bid1, a_bidder1, a_doubled1, a_last1, a_passes1, a_first1, a_calls1)) else ((bridge_auction_call_J3 a_bid1 a_bidder1 a_first1 a_calls1))) else (if (decide ((w64 (c1 - 3)) ≤ a_bid1)) then (some (false, a_bid1, a_bidder1, a_doubled1, a_last1, a_passes1, a_first1, a_calls1)) else ((bridge_auction_call_J4 a_first1 a_calls1 c1)))))

set_option maxRecDepth 100000 in
set_option maxHeartbeats 4000000 in
theorem bridge_auction_call_w {g1 : Nat} {a_bid1 : Int} {a_bidder1 : Int} {a_doubled1 : Int} {a_last1 : Int} {a_passes1 : Int} {a_first1 : List Int} {a_calls1 : Int} {c1 : Int} {r : (Bool × Int × Int × Int × Int × Int × List Int × Int)} {w0 w : World} {B : Nat} {fs : List HP} (hm : bridge_auction_call_m a_bid1 a_bidder1 a_doubled1 a_last1 a_passes1 a_first1 a_calls1 c1 = some r) (hS : Sep w0 B w (blk g1 110 (List.toArray (([.int .i64 a_bid1, .int .i64 a_bidder1, .int .i64 a_doubled1, .int .i64 a_last1, .int .i64 a_passes1] : List Value) ++ (arr1 (Value.int .i64) (0 : Int) 10 a_first1 ++ ([.int .i64 a_calls1] : List Value)))) :: fs)) :
    Calls Try.prog 81 #[.pointer (some ⟨g1, 0, none⟩), .int .i64 c1] w fun e w' => ∃ v, e = .returned v ∧ v = .bool r.1 ∧ Sep w0 B w' (blk g1 110 (List.toArray (([.int .i64 r.2.1, .int .i64 r.2.2.1, .int .i64 r.2.2.2.1, .int .i64 r.2.2.2.2.1, .int .i64 r.2.2.2.2.2.1] : List Value) ++ (arr1 (Value.int .i64) (0 : Int) 10 r.2.2.2.2.2.2.1 ++ ([.int .i64 r.2.2.2.2.2.2.2] : List Value)))) :: fs) := by
  obtain ⟨i3, hi3, hz3, hs3, hb3⟩ := info_parts Info3
  obtain ⟨i107, hi107, hz107, hs107, hb107⟩ := info_parts Info107
  unfold bridge_auction_call_m at hm
  replace hm := start_b hm
  refine enter (l := [.pointer (some ⟨g1, 0, none⟩), .int .i64 c1]) (n := 127) Try.func81 rfl rfl (by simp) (fun a hF => ?_)
  refine reg [] [] [0, 1] [pl 0 (.pointer (some ⟨g1, 0, none⟩)), pl 1 (.int .i64 c1)] hF hS Fol (by kernel_rfl) (by kernel_rfl) (by kernel_rfl) ?_ (fun a w hF hS => ?_)
  · exact obs_nil
  refine reg [⟨false, [], vS (Instr.loadAt 3 (.pointer (some ⟨g1, 15, none⟩))), .int .i64 a_calls1⟩] [none, none, none, some (.int .i64 a_calls1), none, none] [0, 1, 5] [pl 0 (.pointer (some ⟨g1, 0, none⟩)), pl 1 (.int .i64 c1), pl 5 (.int .i64 (Int.tmod a_calls1 4))] hF hS Fol (by kernel_rfl) (by kernel_rfl) (by kernel_rfl) ?_ (fun a w hF hS => ?_)
  · exact obs_cons (ob_load Agg3 (fun _ _ hS => (hS.at_ 0 rfl).cell rfl)) <| obs_nil
  refine reg [⟨false, [], vS (Instr.loadAt 3 (.pointer (some ⟨g1, 0, none⟩))), .int .i64 a_bid1⟩, ⟨false, [(decide ((0 : Int) ≤ a_bid1), true)], vS (Instr.loadAt 3 (.pointer (some ⟨g1, 3, none⟩))), .int .i64 a_last1⟩] [none, none, none, some (.int .i64 a_bid1), none, none, none, none, none, none, some (.int .i64 a_last1), none, none, none, none, none] [0, 1, 5, 6] [pl 0 (.pointer (some ⟨g1, 0, none⟩)), pl 1 (.int .i64 c1), pl 5 (.int .i64 (Int.tmod a_calls1 4)), pl 6 (.bool ((decide ((0 : Int) ≤ a_bid1)) && ((bAnd (w64 ((Int.tmod a_calls1 4) - a_last1)) 1) == 1)))] hF hS Fol (by kernel_rfl) (by kernel_rfl) (by kernel_rfl) ?_ (fun a w hF hS => ?_)
  · exact obs_cons (ob_load Agg3 (fun _ _ hS => (hS.at_ 0 rfl).cell rfl)) <| obs_cons (ob_load Agg3 (fun _ _ hS => (hS.at_ 0 rfl).cell rfl)) <| obs_nil
  refine seq_cut (fun a w => ∃ (a8 : Int) (a9 : Int) (a10 : Int) (a11 : List Int), Fr 127 [pl 0 (.pointer (some ⟨g1, 0, none⟩)), pl 5 (.int .i64 (Int.tmod a_calls1 4))] a ∧ Sep w0 B w (blk g1 110 (List.toArray (([.int .i64 a8, .int .i64 a9, .int .i64 a10, .int .i64 a_last1, .int .i64 a_passes1] : List Value) ++ (arr1 (Value.int .i64) (0 : Int) 10 a11 ++ ([.int .i64 a_calls1] : List Value)))) :: fs) ∧ ((bridge_auction_call_J1 a_calls1) a8 a9 a10 a11).bind some = some r) ?_ ?_
  · rintro a w ⟨a8, a9, a10, a11, hF, hS, hm⟩
    unfold bridge_auction_call_J1 at hm
    refine seqR ?_
    refine at_run 5 [] [] [0, 114, 115, 117] [pl 0 (.pointer (some ⟨g1, 0, none⟩)), pl 114 (.pointer (some ⟨g1, 0, none⟩)), pl 115 (.int .i64 (Int.tmod a_calls1 4)), pl 117 (.pointer (some ⟨g1, 3, none⟩))] hF hS (by kernel_rfl) (by kernel_rfl) ?_ (fun a w hF hS => ?_)
    · exact obs_nil
    obtain ⟨w, hrun, hS⟩ := run_put (P := Try.prog) (t := 3) (u := .int .i64 (Int.tmod a_calls1 4)) (i := 3) (hS.at_ 0 rfl) hi3 hs3 rfl (Nat.lt_of_lt_of_eq (Nat.lt_of_succ_le (Nat.le_of_ble_eq_true (by kernel_rfl))) rfl)
    refine at_skip hF (by kernel_rfl) hrun ?_
    have hS : Sep w0 B w (blk g1 110 (List.toArray (([.int .i64 a8, .int .i64 a9, .int .i64 a10, .int .i64 (Int.tmod a_calls1 4), .int .i64 a_passes1] : List Value) ++ (arr1 (Value.int .i64) (0 : Int) 10 a11 ++ ([.int .i64 a_calls1] : List Value)))) :: fs) := hS
    refine at_run 2 [] [] [0, 119] [pl 0 (.pointer (some ⟨g1, 0, none⟩)), pl 119 (.pointer (some ⟨g1, 4, none⟩))] hF hS (by kernel_rfl) (by kernel_rfl) ?_ (fun a w hF hS => ?_)
    · exact obs_nil
    obtain ⟨w, hrun, hS⟩ := run_put (P := Try.prog) (t := 3) (u := .int .i64 0) (i := 4) (hS.at_ 0 rfl) hi3 hs3 rfl (Nat.lt_of_lt_of_eq (Nat.lt_of_succ_le (Nat.le_of_ble_eq_true (by kernel_rfl))) rfl)
    refine at_skip hF (by kernel_rfl) hrun ?_
    have hS : Sep w0 B w (blk g1 110 (List.toArray (([.int .i64 a8, .int .i64 a9, .int .i64 a10, .int .i64 (Int.tmod a_calls1 4), .int .i64 0] : List Value) ++ (arr1 (Value.int .i64) (0 : Int) 10 a11 ++ ([.int .i64 a_calls1] : List Value)))) :: fs) := hS
    refine at_end [0] [pl 0 (.pointer (some ⟨g1, 0, none⟩))] hF rfl (by kernel_rfl) (fun hF => ?_)
    refine then_n ?_
    refine seqR ?_
    refine at_run 7 [⟨false, [], vS (Instr.loadAt 3 (.pointer (some ⟨g1, 15, none⟩))), .int .i64 a_calls1⟩] [none, none, none, some (.int .i64 a_calls1), none, none, none] [124, 126] [pl 124 (.int .i64 (w64 (a_calls1 + 1))), pl 126 (.pointer (some ⟨g1, 15, none⟩))] hF hS (by kernel_rfl) (by kernel_rfl) ?_ (fun a w hF hS => ?_)
    · exact obs_cons (ob_load Agg3 (fun _ _ hS => (hS.at_ 0 rfl).cell rfl)) <| obs_nil
    obtain ⟨w, hrun, hS⟩ := run_put (P := Try.prog) (t := 3) (u := .int .i64 (w64 (a_calls1 + 1))) (i := 15) (hS.at_ 0 rfl) hi3 hs3 rfl (Nat.lt_of_lt_of_eq (Nat.lt_of_succ_le (Nat.le_of_ble_eq_true (by kernel_rfl))) rfl)
    refine at_skip hF (by kernel_rfl) hrun ?_
    have hS : Sep w0 B w (blk g1 110 (List.toArray (([.int .i64 a8, .int .i64 a9, .int .i64 a10, .int .i64 (Int.tmod a_calls1 4), .int .i64 0] : List Value) ++ (arr1 (Value.int .i64) (0 : Int) 10 a11 ++ ([.int .i64 (w64 (a_calls1 + 1))] : List Value)))) :: fs) := hS
    refine at_end [] [] hF rfl (by kernel_rfl) (fun hF => ?_)
    refine then_n ?_
    refine reg [] [] [4] [pl 4 (.bool true)] hF hS Fol (by kernel_rfl) (by kernel_rfl) (by kernel_rfl) ?_ (fun a w hF hS => ?_)
    · exact obs_nil
    refine wp_ret ?_
    have hm : some (true, a8, a9, a10, (Int.tmod a_calls1 4), 0, a11, (w64 (a_calls1 + 1))) = some r := hm
    obtain rfl := Option.some.inj hm
    exact retV (rs := [.tmp 4]) (vs := [.bool true]) hF rfl (rv_t (by kernel_rfl) <| rv_nil) rfl ⟨_, rfl, rfl, hS⟩
  · refine wp_block ?_
    refine reg [] [] [0, 1, 5, 6, 66] [pl 0 (.pointer (some ⟨g1, 0, none⟩)), pl 1 (.int .i64 c1), pl 5 (.int .i64 (Int.tmod a_calls1 4)), pl 6 (.bool ((decide ((0 : Int) ≤ a_bid1)) && ((bAnd (w64 ((Int.tmod a_calls1 4) - a_last1)) 1) == 1))), pl 66 (.bool (c1 == 0))] hF hS Fol (by kernel_rfl) (by kernel_rfl) (by kernel_rfl) ?_ (fun a w hF hS => ?_)
    · exact obs_nil
    refine cond_ev (t := 66) (b := (c1 == 0)) hF (by kernel_rfl) (fun hb => ?_) (fun hb => ?_)
    · replace hm := if_t hm hb
      refine seqR ?_
      refine at_run 7 [⟨false, [], vS (Instr.loadAt 3 (.pointer (some ⟨g1, 4, none⟩))), .int .i64 a_passes1⟩] [none, none, none, some (.int .i64 a_passes1), none, none, none] [0, 73, 75] [pl 0 (.pointer (some ⟨g1, 0, none⟩)), pl 73 (.int .i64 (w64 (a_passes1 + 1))), pl 75 (.pointer (some ⟨g1, 4, none⟩))] hF hS (by kernel_rfl) (by kernel_rfl) ?_ (fun a w hF hS => ?_)
      · exact obs_cons (ob_load Agg3 (fun _ _ hS => (hS.at_ 0 rfl).cell rfl)) <| obs_nil
      obtain ⟨w, hrun, hS⟩ := run_put (P := Try.prog) (t := 3) (u := .int .i64 (w64 (a_passes1 + 1))) (i := 4) (hS.at_ 0 rfl) hi3 hs3 rfl (Nat.lt_of_lt_of_eq (Nat.lt_of_succ_le (Nat.le_of_ble_eq_true (by kernel_rfl))) rfl)
      refine at_skip hF (by kernel_rfl) hrun ?_
      have hS : Sep w0 B w (blk g1 110 (List.toArray (([.int .i64 a_bid1, .int .i64 a_bidder1, .int .i64 a_doubled1, .int .i64 a_last1, .int .i64 (w64 (a_passes1 + 1))] : List Value) ++ (arr1 (Value.int .i64) (0 : Int) 10 a_first1 ++ ([.int .i64 a_calls1] : List Value)))) :: fs) := hS
      refine at_end [0] [pl 0 (.pointer (some ⟨g1, 0, none⟩))] hF rfl (by kernel_rfl) (fun hF => ?_)
      refine then_n ?_
      refine seqR ?_
      refine at_run 7 [⟨false, [], vS (Instr.loadAt 3 (.pointer (some ⟨g1, 15, none⟩))), .int .i64 a_calls1⟩] [none, none, none, some (.int .i64 a_calls1), none, none, none] [80, 82] [pl 80 (.int .i64 (w64 (a_calls1 + 1))), pl 82 (.pointer (some ⟨g1, 15, none⟩))] hF hS (by kernel_rfl) (by kernel_rfl) ?_ (fun a w hF hS => ?_)
      · exact obs_cons (ob_load Agg3 (fun _ _ hS => (hS.at_ 0 rfl).cell rfl)) <| obs_nil
      obtain ⟨w, hrun, hS⟩ := run_put (P := Try.prog) (t := 3) (u := .int .i64 (w64 (a_calls1 + 1))) (i := 15) (hS.at_ 0 rfl) hi3 hs3 rfl (Nat.lt_of_lt_of_eq (Nat.lt_of_succ_le (Nat.le_of_ble_eq_true (by kernel_rfl))) rfl)
      refine at_skip hF (by kernel_rfl) hrun ?_
      have hS : Sep w0 B w (blk g1 110 (List.toArray (([.int .i64 a_bid1, .int .i64 a_bidder1, .int .i64 a_doubled1, .int .i64 a_last1, .int .i64 (w64 (a_passes1 + 1))] : List Value) ++ (arr1 (Value.int .i64) (0 : Int) 10 a_first1 ++ ([.int .i64 (w64 (a_calls1 + 1))] : List Value)))) :: fs) := hS
      refine at_end [] [] hF rfl (by kernel_rfl) (fun hF => ?_)
      refine then_n ?_
      refine reg [] [] [4] [pl 4 (.bool true)] hF hS Fol (by kernel_rfl) (by kernel_rfl) (by kernel_rfl) ?_ (fun a w hF hS => ?_)
      · exact obs_nil
      refine wp_ret ?_
      refine block_r (then_r ?_)
      have hm : some (true, a_bid1, a_bidder1, a_doubled1, a_last1, (w64 (a_passes1 + 1)), a_first1, (w64 (a_calls1 + 1))) = some r := hm
      obtain rfl := Option.some.inj hm
      exact retV (rs := [.tmp 4]) (vs := [.bool true]) hF rfl (rv_t (by kernel_rfl) <| rv_nil) rfl ⟨_, rfl, rfl, hS⟩
    · replace hm := if_f hm hb
      refine reg [] [] [0, 1, 5, 6, 83] [pl 0 (.pointer (some ⟨g1, 0, none⟩)), pl 1 (.int .i64 c1), pl 5 (.int .i64 (Int.tmod a_calls1 4)), pl 6 (.bool ((decide ((0 : Int) ≤ a_bid1)) && ((bAnd (w64 ((Int.tmod a_calls1 4) - a_last1)) 1) == 1))), pl 83 (.bool (c1 == 1))] hF hS Fol (by kernel_rfl) (by kernel_rfl) (by kernel_rfl) ?_ (fun a w hF hS => ?_)
      · exact obs_nil
      refine cond_ev (t := 83) (b := (c1 == 1)) hF (by kernel_rfl) (fun hb => ?_) (fun hb => ?_)
      · replace hm := if_t hm hb
        refine seq_cut (fun a w => Fr 127 [pl 0 (.pointer (some ⟨g1, 0, none⟩)), pl 5 (.int .i64 (Int.tmod a_calls1 4))] a ∧ Sep w0 B w (blk g1 110 (List.toArray (([.int .i64 a_bid1, .int .i64 a_bidder1, .int .i64 a_doubled1, .int .i64 a_last1, .int .i64 a_passes1] : List Value) ++ (arr1 (Value.int .i64) (0 : Int) 10 a_first1 ++ ([.int .i64 a_calls1] : List Value)))) :: fs) ∧ ((bridge_auction_call_J2 a_bid1 a_bidder1 a_first1 a_calls1)).bind some = some r) ?_ ?_
        · rintro a w ⟨hF, hS, hm⟩
          unfold bridge_auction_call_J2 at hm
          refine oneR ?_
          refine at_run 3 [] [] [0, 5, 97] [pl 0 (.pointer (some ⟨g1, 0, none⟩)), pl 5 (.int .i64 (Int.tmod a_calls1 4)), pl 97 (.pointer (some ⟨g1, 2, none⟩))] hF hS (by kernel_rfl) (by kernel_rfl) ?_ (fun a w hF hS => ?_)
          · exact obs_nil
          obtain ⟨w, hrun, hS⟩ := run_put (P := Try.prog) (t := 3) (u := .int .i64 1) (i := 2) (hS.at_ 0 rfl) hi3 hs3 rfl (Nat.lt_of_lt_of_eq (Nat.lt_of_succ_le (Nat.le_of_ble_eq_true (by kernel_rfl))) rfl)
          refine at_skip hF (by kernel_rfl) hrun ?_
          have hS : Sep w0 B w (blk g1 110 (List.toArray (([.int .i64 a_bid1, .int .i64 a_bidder1, .int .i64 1, .int .i64 a_last1, .int .i64 a_passes1] : List Value) ++ (arr1 (Value.int .i64) (0 : Int) 10 a_first1 ++ ([.int .i64 a_calls1] : List Value)))) :: fs) := hS
          refine at_end [0, 5] [pl 0 (.pointer (some ⟨g1, 0, none⟩)), pl 5 (.int .i64 (Int.tmod a_calls1 4))] hF rfl (by kernel_rfl) (fun hF => ?_)
          refine block_n ?_
          refine then_n ?_
          exact ⟨a_bid1, a_bidder1, 1, a_first1, hF.weak [0, 5] (by kernel_rfl), hS, hm⟩
        · refine reg [⟨false, [(!((decide ((0 : Int) ≤ a_bid1)) && ((bAnd (w64 ((Int.tmod a_calls1 4) - a_last1)) 1) == 1)), false)], vS (Instr.loadAt 3 (.pointer (some ⟨g1, 2, none⟩))), .int .i64 a_doubled1⟩] [none, none, none, none, none, none, some (.int .i64 a_doubled1), none, none] [0, 5, 94] [pl 0 (.pointer (some ⟨g1, 0, none⟩)), pl 5 (.int .i64 (Int.tmod a_calls1 4)), pl 94 (.bool ((!((decide ((0 : Int) ≤ a_bid1)) && ((bAnd (w64 ((Int.tmod a_calls1 4) - a_last1)) 1) == 1))) || (a_doubled1 != 0)))] hF hS Fol (by kernel_rfl) (by kernel_rfl) (by kernel_rfl) ?_ (fun a w hF hS => ?_)
          · exact obs_cons (ob_load Agg3 (fun _ _ hS => (hS.at_ 0 rfl).cell rfl)) <| obs_nil
          refine cond_ev (t := 94) (b := (!((decide ((0 : Int) ≤ a_bid1)) && ((bAnd (w64 ((Int.tmod a_calls1 4) - a_last1)) 1) == 1))) || (a_doubled1 != 0)) hF (by kernel_rfl) (fun hb => ?_) (fun hb => ?_)
          · replace hm := if_t hm hb
            refine reg [] [] [4] [pl 4 (.bool false)] hF hS Fol (by kernel_rfl) (by kernel_rfl) (by kernel_rfl) ?_ (fun a w hF hS => ?_)
            · exact obs_nil
            refine wp_ret ?_
            refine then_r (block_r (then_r ?_))
            have hm : some (false, a_bid1, a_bidder1, a_doubled1, a_last1, a_passes1, a_first1, a_calls1) = some r := hm
            obtain rfl := Option.some.inj hm
            exact retV (rs := [.tmp 4]) (vs := [.bool false]) hF rfl (rv_t (by kernel_rfl) <| rv_nil) rfl ⟨_, rfl, rfl, hS⟩
          · replace hm := if_f hm hb
            refine wp_skip ?_
            refine then_n ?_
            exact ⟨hF.weak [0, 5] (by kernel_rfl), hS, hm⟩
      · replace hm := if_f hm hb
        refine reg [] [] [0, 1, 5, 6, 98] [pl 0 (.pointer (some ⟨g1, 0, none⟩)), pl 1 (.int .i64 c1), pl 5 (.int .i64 (Int.tmod a_calls1 4)), pl 6 (.bool ((decide ((0 : Int) ≤ a_bid1)) && ((bAnd (w64 ((Int.tmod a_calls1 4) - a_last1)) 1) == 1))), pl 98 (.bool (c1 == 2))] hF hS Fol (by kernel_rfl) (by kernel_rfl) (by kernel_rfl) ?_ (fun a w hF hS => ?_)
        · exact obs_nil
        refine cond_ev (t := 98) (b := (c1 == 2)) hF (by kernel_rfl) (fun hb => ?_) (fun hb => ?_)
        · replace hm := if_t hm hb
          refine seq_cut (fun a w => Fr 127 [pl 0 (.pointer (some ⟨g1, 0, none⟩)), pl 5 (.int .i64 (Int.tmod a_calls1 4))] a ∧ Sep w0 B w (blk g1 110 (List.toArray (([.int .i64 a_bid1, .int .i64 a_bidder1, .int .i64 a_doubled1, .int .i64 a_last1, .int .i64 a_passes1] : List Value) ++ (arr1 (Value.int .i64) (0 : Int) 10 a_first1 ++ ([.int .i64 a_calls1] : List Value)))) :: fs) ∧ ((bridge_auction_call_J3 a_bid1 a_bidder1 a_first1 a_calls1)).bind some = some r) ?_ ?_
          · rintro a w ⟨hF, hS, hm⟩
            unfold bridge_auction_call_J3 at hm
            refine oneR ?_
            refine at_run 3 [] [] [0, 5, 112] [pl 0 (.pointer (some ⟨g1, 0, none⟩)), pl 5 (.int .i64 (Int.tmod a_calls1 4)), pl 112 (.pointer (some ⟨g1, 2, none⟩))] hF hS (by kernel_rfl) (by kernel_rfl) ?_ (fun a w hF hS => ?_)
            · exact obs_nil
            obtain ⟨w, hrun, hS⟩ := run_put (P := Try.prog) (t := 3) (u := .int .i64 2) (i := 2) (hS.at_ 0 rfl) hi3 hs3 rfl (Nat.lt_of_lt_of_eq (Nat.lt_of_succ_le (Nat.le_of_ble_eq_true (by kernel_rfl))) rfl)
            refine at_skip hF (by kernel_rfl) hrun ?_
            have hS : Sep w0 B w (blk g1 110 (List.toArray (([.int .i64 a_bid1, .int .i64 a_bidder1, .int .i64 2, .int .i64 a_last1, .int .i64 a_passes1] : List Value) ++ (arr1 (Value.int .i64) (0 : Int) 10 a_first1 ++ ([.int .i64 a_calls1] : List Value)))) :: fs) := hS
            refine at_end [0, 5] [pl 0 (.pointer (some ⟨g1, 0, none⟩)), pl 5 (.int .i64 (Int.tmod a_calls1 4))] hF rfl (by kernel_rfl) (fun hF => ?_)
            refine block_n ?_
            refine then_n ?_
            exact ⟨a_bid1, a_bidder1, 2, a_first1, hF.weak [0, 5] (by kernel_rfl), hS, hm⟩
          · refine reg [⟨false, [(!((decide ((0 : Int) ≤ a_bid1)) && ((bAnd (w64 ((Int.tmod a_calls1 4) - a_last1)) 1) == 1)), false)], vS (Instr.loadAt 3 (.pointer (some ⟨g1, 2, none⟩))), .int .i64 a_doubled1⟩] [none, none, none, none, none, none, some (.int .i64 a_doubled1), none, none] [0, 5, 109] [pl 0 (.pointer (some ⟨g1, 0, none⟩)), pl 5 (.int .i64 (Int.tmod a_calls1 4)), pl 109 (.bool ((!((decide ((0 : Int) ≤ a_bid1)) && ((bAnd (w64 ((Int.tmod a_calls1 4) - a_last1)) 1) == 1))) || (a_doubled1 != 1)))] hF hS Fol (by kernel_rfl) (by kernel_rfl) (by kernel_rfl) ?_ (fun a w hF hS => ?_)
            · exact obs_cons (ob_load Agg3 (fun _ _ hS => (hS.at_ 0 rfl).cell rfl)) <| obs_nil
            refine cond_ev (t := 109) (b := (!((decide ((0 : Int) ≤ a_bid1)) && ((bAnd (w64 ((Int.tmod a_calls1 4) - a_last1)) 1) == 1))) || (a_doubled1 != 1)) hF (by kernel_rfl) (fun hb => ?_) (fun hb => ?_)
            · replace hm := if_t hm hb
              refine reg [] [] [4] [pl 4 (.bool false)] hF hS Fol (by kernel_rfl) (by kernel_rfl) (by kernel_rfl) ?_ (fun a w hF hS => ?_)
              · exact obs_nil
              refine wp_ret ?_
              refine then_r (block_r (then_r ?_))
              have hm : some (false, a_bid1, a_bidder1, a_doubled1, a_last1, a_passes1, a_first1, a_calls1) = some r := hm
              obtain rfl := Option.some.inj hm
              exact retV (rs := [.tmp 4]) (vs := [.bool false]) hF rfl (rv_t (by kernel_rfl) <| rv_nil) rfl ⟨_, rfl, rfl, hS⟩
            · replace hm := if_f hm hb
              refine wp_skip ?_
              refine then_n ?_
              exact ⟨hF.weak [0, 5] (by kernel_rfl), hS, hm⟩
        · replace hm := if_f hm hb
          refine seq_cut (fun a w => Fr 127 [pl 0 (.pointer (some ⟨g1, 0, none⟩)), pl 1 (.int .i64 c1), pl 5 (.int .i64 (Int.tmod a_calls1 4))] a ∧ Sep w0 B w (blk g1 110 (List.toArray (([.int .i64 a_bid1, .int .i64 a_bidder1, .int .i64 a_doubled1, .int .i64 a_last1, .int .i64 a_passes1] : List Value) ++ (arr1 (Value.int .i64) (0 : Int) 10 a_first1 ++ ([.int .i64 a_calls1] : List Value)))) :: fs) ∧ ((bridge_auction_call_J4 a_first1 a_calls1 c1)).bind some = some r) ?_ ?_
          · rintro a w ⟨hF, hS, hm⟩
            unfold bridge_auction_call_J4 at hm
            refine seqR ?_
            refine at_run 8 [] [] [0, 5, 36, 37, 39, 40, 42] [pl 0 (.pointer (some ⟨g1, 0, none⟩)), pl 5 (.int .i64 (Int.tmod a_calls1 4)), pl 36 (.pointer (some ⟨g1, 0, none⟩)), pl 37 (.pointer (some ⟨g1, 0, none⟩)), pl 39 (.int .i64 (w64 (c1 - 3))), pl 40 (.int .i64 (Int.tmod a_calls1 4)), pl 42 (.pointer (some ⟨g1, 0, none⟩))] hF hS (by kernel_rfl) (by kernel_rfl) ?_ (fun a w hF hS => ?_)
            · exact obs_nil
            obtain ⟨w, hrun, hS⟩ := run_put (P := Try.prog) (t := 3) (u := .int .i64 (w64 (c1 - 3))) (i := 0) (hS.at_ 0 rfl) hi3 hs3 rfl (Nat.lt_of_lt_of_eq (Nat.lt_of_succ_le (Nat.le_of_ble_eq_true (by kernel_rfl))) rfl)
            refine at_skip hF (by kernel_rfl) hrun ?_
            have hS : Sep w0 B w (blk g1 110 (List.toArray (([.int .i64 (w64 (c1 - 3)), .int .i64 a_bidder1, .int .i64 a_doubled1, .int .i64 a_last1, .int .i64 a_passes1] : List Value) ++ (arr1 (Value.int .i64) (0 : Int) 10 a_first1 ++ ([.int .i64 a_calls1] : List Value)))) :: fs) := hS
            refine at_run 2 [] [] [0, 5, 37, 40, 44] [pl 0 (.pointer (some ⟨g1, 0, none⟩)), pl 5 (.int .i64 (Int.tmod a_calls1 4)), pl 37 (.pointer (some ⟨g1, 0, none⟩)), pl 40 (.int .i64 (Int.tmod a_calls1 4)), pl 44 (.pointer (some ⟨g1, 1, none⟩))] hF hS (by kernel_rfl) (by kernel_rfl) ?_ (fun a w hF hS => ?_)
            · exact obs_nil
            obtain ⟨w, hrun, hS⟩ := run_put (P := Try.prog) (t := 3) (u := .int .i64 (Int.tmod a_calls1 4)) (i := 1) (hS.at_ 0 rfl) hi3 hs3 rfl (Nat.lt_of_lt_of_eq (Nat.lt_of_succ_le (Nat.le_of_ble_eq_true (by kernel_rfl))) rfl)
            refine at_skip hF (by kernel_rfl) hrun ?_
            have hS : Sep w0 B w (blk g1 110 (List.toArray (([.int .i64 (w64 (c1 - 3)), .int .i64 (Int.tmod a_calls1 4), .int .i64 a_doubled1, .int .i64 a_last1, .int .i64 a_passes1] : List Value) ++ (arr1 (Value.int .i64) (0 : Int) 10 a_first1 ++ ([.int .i64 a_calls1] : List Value)))) :: fs) := hS
            refine at_run 2 [] [] [0, 5, 46] [pl 0 (.pointer (some ⟨g1, 0, none⟩)), pl 5 (.int .i64 (Int.tmod a_calls1 4)), pl 46 (.pointer (some ⟨g1, 2, none⟩))] hF hS (by kernel_rfl) (by kernel_rfl) ?_ (fun a w hF hS => ?_)
            · exact obs_nil
            obtain ⟨w, hrun, hS⟩ := run_put (P := Try.prog) (t := 3) (u := .int .i64 0) (i := 2) (hS.at_ 0 rfl) hi3 hs3 rfl (Nat.lt_of_lt_of_eq (Nat.lt_of_succ_le (Nat.le_of_ble_eq_true (by kernel_rfl))) rfl)
            refine at_skip hF (by kernel_rfl) hrun ?_
            have hS : Sep w0 B w (blk g1 110 (List.toArray (([.int .i64 (w64 (c1 - 3)), .int .i64 (Int.tmod a_calls1 4), .int .i64 0, .int .i64 a_last1, .int .i64 a_passes1] : List Value) ++ (arr1 (Value.int .i64) (0 : Int) 10 a_first1 ++ ([.int .i64 a_calls1] : List Value)))) :: fs) := hS
            refine at_end [0, 5] [pl 0 (.pointer (some ⟨g1, 0, none⟩)), pl 5 (.int .i64 (Int.tmod a_calls1 4))] hF rfl (by kernel_rfl) (fun hF => ?_)
            refine then_n ?_
            obtain ⟨hp1, hm⟩ := asrt_b hm
            obtain ⟨hp2, hm⟩ := asrt_b hm
            refine reg [⟨false, [], vS (Instr.loadAt 3 (.pointer (some ⟨g1, 0, none⟩))), .int .i64 (w64 (c1 - 3))⟩, ⟨true, [], vS (Instr.indexAt 108 (.pointer (some ⟨g1, 5, none⟩)) (.int .i64 (bAnd (Int.tmod a_calls1 4) 1))), .pointer (some ((⟨g1, 5, none⟩ : Addr).add (Int.toNat (bAnd (Int.tmod a_calls1 4) 1) * 5)))⟩, ⟨true, [], vS (Instr.indexAt 107 (.pointer (some ((⟨g1, 5, none⟩ : Addr).add (Int.toNat (bAnd (Int.tmod a_calls1 4) 1) * 5)))) (.int .i64 (Int.tmod (w64 (c1 - 3)) 5))), .pointer (some ((⟨g1, 5, none⟩ : Addr).add (Int.toNat (bAnd (Int.tmod a_calls1 4) 1) * 5 + Int.toNat (Int.tmod (w64 (c1 - 3)) 5) * 1)))⟩] [none, none, none, none, none, none, some (.int .i64 (w64 (c1 - 3))), none, none, none, some (.pointer (some ((⟨g1, 5, none⟩ : Addr).add (Int.toNat (bAnd (Int.tmod a_calls1 4) 1) * 5)))), some (.pointer (some ((⟨g1, 5, none⟩ : Addr).add (Int.toNat (bAnd (Int.tmod a_calls1 4) 1) * 5 + Int.toNat (Int.tmod (w64 (c1 - 3)) 5) * 1)))), none] [0, 5, 7] [pl 0 (.pointer (some ⟨g1, 0, none⟩)), pl 5 (.int .i64 (Int.tmod a_calls1 4)), pl 7 (.pointer (some ((⟨g1, 5, none⟩ : Addr).add (Int.toNat (bAnd (Int.tmod a_calls1 4) 1) * 5 + Int.toNat (Int.tmod (w64 (c1 - 3)) 5) * 1))))] hF hS Fol (by kernel_rfl) (by kernel_rfl) (by kernel_rfl) ?_ (fun a w hF hS => ?_)
            · exact obs_cons (ob_load Agg3 (fun _ _ hS => (hS.at_ 0 rfl).cell rfl)) <| obs_cons (ob_ixA UndA108 hi107 hs107 (fun _ => hp1)) <| obs_cons (ob_ixA2 UndA107 hi3 hs3 (fun _ => hp2)) <| obs_nil
            refine reg [⟨false, [], vS (Instr.loadAt 3 (.pointer (some ((⟨g1, 5, none⟩ : Addr).add (Int.toNat (bAnd (Int.tmod a_calls1 4) 1) * 5 + Int.toNat (Int.tmod (w64 (c1 - 3)) 5) * 1))))), .int .i64 (geti a_first1 ((bAnd (Int.tmod a_calls1 4) 1) * 5 + (Int.tmod (w64 (c1 - 3)) 5)))⟩] [none, none, some (.int .i64 (geti a_first1 ((bAnd (Int.tmod a_calls1 4) 1) * 5 + (Int.tmod (w64 (c1 - 3)) 5)))), none] [0, 5, 7, 62] [pl 0 (.pointer (some ⟨g1, 0, none⟩)), pl 5 (.int .i64 (Int.tmod a_calls1 4)), pl 7 (.pointer (some ((⟨g1, 5, none⟩ : Addr).add (Int.toNat (bAnd (Int.tmod a_calls1 4) 1) * 5 + Int.toNat (Int.tmod (w64 (c1 - 3)) 5) * 1)))), pl 62 (.bool (decide ((geti a_first1 ((bAnd (Int.tmod a_calls1 4) 1) * 5 + (Int.tmod (w64 (c1 - 3)) 5))) < 0)))] hF hS Fol (by kernel_rfl) (by kernel_rfl) (by kernel_rfl) ?_ (fun a w hF hS => ?_)
            · exact obs_cons (ob_getA (m := a_first1) (Value.int .i64) (0 : Int) 10 ([.int .i64 (w64 (c1 - 3)), .int .i64 (Int.tmod a_calls1 4), .int .i64 0, .int .i64 a_last1, .int .i64 a_passes1] : List Value) ([.int .i64 a_calls1] : List Value) ((bAnd (Int.tmod a_calls1 4) 1) * 5 + (Int.tmod (w64 (c1 - 3)) 5)) Agg3 rfl (fun _ hS => ⟨_, _, _, _, _, hS.at_ 0 rfl⟩) (fun hy => by have h0 := hp1; have h1 := hp2; omega)) <| obs_nil
            refine cond_ev (t := 62) (b := decide ((geti a_first1 ((bAnd (Int.tmod a_calls1 4) 1) * 5 + (Int.tmod (w64 (c1 - 3)) 5))) < 0)) hF (by kernel_rfl) (fun hb => ?_) (fun hb => ?_)
            · replace hm := if_t hm hb
              refine oneR ?_
              obtain ⟨hp3, hm⟩ := asrt_b hm
              refine at_run 3 [] [] [0, 5, 64, 65] [pl 0 (.pointer (some ⟨g1, 0, none⟩)), pl 5 (.int .i64 (Int.tmod a_calls1 4)), pl 64 (.int .i64 (Int.tmod a_calls1 4)), pl 65 (.pointer (some ((⟨g1, 5, none⟩ : Addr).add (Int.toNat (bAnd (Int.tmod a_calls1 4) 1) * 5 + Int.toNat (Int.tmod (w64 (c1 - 3)) 5) * 1))))] hF hS (by kernel_rfl) (by kernel_rfl) ?_ (fun a w hF hS => ?_)
              · exact obs_nil
              obtain ⟨w, hrun, hS⟩ := run_setA (P := Try.prog) (t := 3) (x := (Int.tmod a_calls1 4)) (i := ((bAnd (Int.tmod a_calls1 4) 1) * 5 + (Int.tmod (w64 (c1 - 3)) 5))) (m := a_first1) (d := Int.toNat (bAnd (Int.tmod a_calls1 4) 1) * 5 + Int.toNat (Int.tmod (w64 (c1 - 3)) 5) * 1) (Value.int .i64) (0 : Int) 10 ([.int .i64 (w64 (c1 - 3)), .int .i64 (Int.tmod a_calls1 4), .int .i64 0, .int .i64 a_last1, .int .i64 a_passes1] : List Value) ([.int .i64 a_calls1] : List Value) (hS.at_ 0 rfl) rfl hi3 hs3 rfl (by have h0 := hp1; have h1 := hp2; omega) (by have h0 := hp1; have h1 := hp2; have h9 := hp3; omega)
              refine at_skip hF (by kernel_rfl) hrun ?_
              have hS : Sep w0 B w (blk g1 110 (List.toArray (([.int .i64 (w64 (c1 - 3)), .int .i64 (Int.tmod a_calls1 4), .int .i64 0, .int .i64 a_last1, .int .i64 a_passes1] : List Value) ++ (arr1 (Value.int .i64) (0 : Int) 10 (a_first1.set (Int.toNat ((bAnd (Int.tmod a_calls1 4) 1) * 5 + (Int.tmod (w64 (c1 - 3)) 5))) (Int.tmod a_calls1 4)) ++ ([.int .i64 a_calls1] : List Value)))) :: fs) := hS
              refine at_end [0, 5] [pl 0 (.pointer (some ⟨g1, 0, none⟩)), pl 5 (.int .i64 (Int.tmod a_calls1 4))] hF rfl (by kernel_rfl) (fun hF => ?_)
              refine block_n ?_
              refine then_n ?_
              exact ⟨(w64 (c1 - 3)), (Int.tmod a_calls1 4), 0, (a_first1.set (Int.toNat ((bAnd (Int.tmod a_calls1 4) 1) * 5 + (Int.tmod (w64 (c1 - 3)) 5))) (Int.tmod a_calls1 4)), hF.weak [0, 5] (by kernel_rfl), hS, hm⟩
            · replace hm := if_f hm hb
              refine wp_skip ?_
              refine block_n ?_
              refine then_n ?_
              exact ⟨(w64 (c1 - 3)), (Int.tmod a_calls1 4), 0, a_first1, hF.weak [0, 5] (by kernel_rfl), hS, hm⟩
          · refine reg [⟨false, [], vS (Instr.loadAt 3 (.pointer (some ⟨g1, 0, none⟩))), .int .i64 a_bid1⟩] [none, none, none, none, none, some (.int .i64 a_bid1), none] [0, 1, 5, 34] [pl 0 (.pointer (some ⟨g1, 0, none⟩)), pl 1 (.int .i64 c1), pl 5 (.int .i64 (Int.tmod a_calls1 4)), pl 34 (.bool (decide ((w64 (c1 - 3)) ≤ a_bid1)))] hF hS Fol (by kernel_rfl) (by kernel_rfl) (by kernel_rfl) ?_ (fun a w hF hS => ?_)
            · exact obs_cons (ob_load Agg3 (fun _ _ hS => (hS.at_ 0 rfl).cell rfl)) <| obs_nil
            refine cond_ev (t := 34) (b := decide ((w64 (c1 - 3)) ≤ a_bid1)) hF (by kernel_rfl) (fun hb => ?_) (fun hb => ?_)
            · replace hm := if_t hm hb
              refine reg [] [] [4] [pl 4 (.bool false)] hF hS Fol (by kernel_rfl) (by kernel_rfl) (by kernel_rfl) ?_ (fun a w hF hS => ?_)
              · exact obs_nil
              refine wp_ret ?_
              refine then_r (block_r (then_r ?_))
              have hm : some (false, a_bid1, a_bidder1, a_doubled1, a_last1, a_passes1, a_first1, a_calls1) = some r := hm
              obtain rfl := Option.some.inj hm
              exact retV (rs := [.tmp 4]) (vs := [.bool false]) hF rfl (rv_t (by kernel_rfl) <| rv_nil) rfl ⟨_, rfl, rfl, hS⟩
            · replace hm := if_f hm hb
              refine wp_skip ?_
              refine then_n ?_
              exact ⟨hF.weak [0, 1, 5] (by kernel_rfl), hS, hm⟩

noncomputable def bridge_Auction_J5 (z1 : Int) (a3 : List Int) (z2 : Int) : Option (St (List Int × Int) (List Int)) :=
  some (.next ((a3.set (Int.toNat (z1 * 5 + z2)) (-1)), (w64 (z2 + 1))))

noncomputable def bridge_Auction_J4 (z1 : Int) (a3 : List Int) (z2 : Int) : Option (St (List Int × Int) (List Int)) :=
  asrt (0 ≤ z1 ∧ z1 < 2) <| asrt (0 ≤ z2 ∧ z2 < 5) <| asrt ((z1 * 5 + z2) < (a3.length : Int)) <| (bridge_Auction_J5 z1 a3 z2)

noncomputable def bridge_Auction_J3 (z1 : Int) (a4 : List Int) : Option (St (List Int × Int) (List Int)) :=
  some (.next (a4, (w64 (z1 + 1))))

noncomputable def bridge_Auction_K2 (z1 : Int) : (List Int) → Option (St (List Int × Int) (List Int)) :=
  fun (x : (List Int)) => match x with | a4 => (bridge_Auction_J3 z1) a4

noncomputable def bridge_Auction_L2 (z1 : Int) : (List Int × Int) → Option (St (List Int × Int) (List Int)) :=
  fun (x : (List Int × Int)) => match x with | (a3, z2) => if (decide (z2 < 5)) then ((bridge_Auction_J4 z1 a3 z2)) else (some (.done a3))

noncomputable def bridge_Auction_J2 (a1 : List Int) (z1 : Int) : Option (St (List Int × Int) (List Int)) :=
  (loop (bridge_Auction_L2 z1) (a1, 0)).bind (bridge_Auction_K2 z1)

noncomputable def bridge_Auction_J8 (z3 : Int) (a19 : Int) (a20 : Int) (a21 : Int) (a22 : Int) (a23 : Int) (a24 : List Int) (a25 : Int) : Option (St (Int × Int × Int × Int × Int × List Int × Int × Int) (Fl (Int × Int × Int × Int × Int × List Int × Int) (Int × Int × Int × Int × Int))) :=
  some (.next (a19, a20, a21, a22, a23, a24, a25, (w64 (z3 + 1))))

noncomputable def bridge_Auction_J7 (calls1 : List Int) (a5 : Int) (a6 : Int) (a7 : Int) (a8 : Int) (a9 : Int) (a10 : List Int) (a11 : Int) (z3 : Int) : Option (St (Int × Int × Int × Int × Int × List Int × Int × Int) (Fl (Int × Int × Int × Int × Int × List Int × Int) (Int × Int × Int × Int × Int))) :=
  asrt (0 ≤ z3 ∧ z3 < (calls1.length : Int)) <| if ((decide ((geti calls1 z3) < 0)) || (decide ((37 : Int) < (geti calls1 z3)))) then (some (.done (.ret (0, 0, 0, 0, 3)))) else ((bridge_auction_over_m a5 a6 a7 a8 a9 a10 a11).bind fun r1 => if r1 then (some (.done (.ret (0, 0, 0, 0, 9)))) else ((bridge_auction_call_m a5 a6 a7 a8 a9 a10 a11 (geti calls1 z3)).bind fun r2 => if (!r2.1) then (some (.done (.ret (0, 0, 0, 0, 8)))) else ((bridge_Auction_J8 z3) r2.2.1 r2.2.2.1 r2.2.2.2.1 r2.2.2.2.2.1 r2.2.2.2.2.2.1 r2.2.2.2.2.2.2.1 r2.2.2.2.2.2.2.2)))

noncomputable def bridge_Auction_L3 (calls1 : List Int) : (Int × Int × Int × Int × Int × List Int × Int × Int) → Option (St (Int × Int × Int × Int × Int × List Int × Int × Int) (Fl (Int × Int × Int × Int × Int × List Int × Int) (Int × Int × Int × Int × Int))) :=
  fun (x : (Int × Int × Int × Int × Int × List Int × Int × Int)) => match x with | (a5, a6, a7, a8, a9, a10, a11, z3) => if (decide (z3 < (calls1.length : Int))) then ((bridge_Auction_J7 calls1 a5 a6 a7 a8 a9 a10 a11 z3)) else (some (.done (.go (a5, a6, a7, a8, a9, a10, a11))))

noncomputable def bridge_Auction_J9 (a12 : Int) (a13 : Int) (a14 : Int) (a17 : List Int) : Option (Int × Int × Int × Int × Int) :=
  asrt (0 ≤ (bAnd a13 1) ∧ (bAnd a13 1) < 2) <| asrt (0 ≤ (Int.tmod a12 5) ∧ (Int.tmod a12 5) < 5) <| some ((w64 ((w64 (Int.tdiv a12 5)) + 1)), (Int.tmod a12 5), a14, (geti a17 ((bAnd a13 1) * 5 + (Int.tmod a12 5))), 0)

noncomputable def bridge_Auction_J6 (a12 : Int) (a13 : Int) (a14 : Int) (a15 : Int) (a16 : Int) (a17 : List Int) (a18 : Int) : Option (Int × Int × Int × Int × Int) :=
  (bridge_auction_over_m a12 a13 a14 a15 a16 a17 a18).bind fun r3 => if (!r3) then (some (0, 0, 0, 0, 13)) else (if (decide (a12 < 0)) then (some (0, 0, 0, 0, 10)) else ((bridge_Auction_J9 a12 a13 a14 a17)))

noncomputable def bridge_Auction_K3 : (Fl (Int × Int × Int × Int × Int × List Int × Int) (Int × Int × Int × Int × Int)) → Option (Int × Int × Int × Int × Int) :=
  fun (x : (Fl (Int × Int × Int × Int × Int × List Int × Int) (Int × Int × Int × Int × Int))) => match x with | .go (a12, a13, a14, a15, a16, a17, a18) => bridge_Auction_J6 a12 a13 a14 a15 a16 a17 a18 | .ret x => some x

noncomputable def bridge_Auction_J1 (calls1 : List Int) (a2 : List Int) : Option (Int × Int × Int × Int × Int) :=
  (loop (bridge_Auction_L3 calls1) ((-1), 0, 0, 0, 0, a2, 0, 0)).bind bridge_Auction_K3

noncomputable def bridge_Auction_K1 (calls1 : List Int) : (List Int) → Option (Int × Int × Int × Int × Int) :=
  fun (x : (List Int)) => match x with | a2 => (bridge_Auction_J1 calls1) a2

noncomputable def bridge_Auction_L1 : (List Int × Int) → Option (St (List Int × Int) (List Int)) :=
  fun (x : (List Int × Int)) => match x with | (a1, z1) => if (decide (z1 < 2)) then ((bridge_Auction_J2 a1 z1)) else (some (.done a1))

noncomputable def bridge_Auction_m (calls1 : List Int) : Option (Int × Int × Int × Int × Int) :=
  (loop bridge_Auction_L1 ((List.replicate 10 (0 : Int)), 0)).bind (bridge_Auction_K1 calls1)

set_option maxRecDepth 100000 in
set_option maxHeartbeats 4000000 in
theorem bridge_Auction_w {A1 : Option Addr} {c1 : Nat} {n1 : Nat} {calls1 : List Int} {r : (Int × Int × Int × Int × Int)} {w0 w : World} {B : Nat} {fs : List HP} (hm : bridge_Auction_m calls1 = some r) (hS : Sep w0 B w (fs)) (hr_calls1 : RdF w0 B fs A1 (vI calls1)) (_hc_calls1 : calls1.length ≤ c1) (_hn_calls1 : n1 = calls1.length) :
    Calls Try.prog 46 #[.slice A1 n1 c1] w fun e w' => e = .returned (.tuple #[.agg #[.int .i64 r.1, .int .i64 r.2.1, .int .i64 r.2.2.1, .int .i64 r.2.2.2.1], .int .i64 r.2.2.2.2]) ∧ Sep w0 B w' (fs) := by
  obtain ⟨i3, hi3, hz3, hs3, hb3⟩ := info_parts Info3
  obtain ⟨i107, hi107, hz107, hs107, hb107⟩ := info_parts Info107
  obtain rfl := _hn_calls1
  unfold bridge_Auction_m at hm
  replace hm := start_b hm
  refine enter (l := [.slice A1 calls1.length c1]) (n := 75) Try.func46 rfl rfl (by simp) (fun a hF => ?_)
  refine seqR ?_
  refine at_do (d := 2) (s := vS (Instr.alloc 47 true (.tuple #[]))) (v := .pointer (some ⟨w.heap.size, 0, none⟩)) (w' := w.alloc (.cells #[.int .i64 0, .int .i64 0, .int .i64 0, .int .i64 0] 47)) hF (by kernel_rfl) (by kernel_rfl) (by kernel_rfl) (fun a hF => ?_)
  have hS : Sep w0 B (w.alloc (.cells #[.int .i64 0, .int .i64 0, .int .i64 0, .int .i64 0] 47)) (blk w.heap.size 47 #[.int .i64 0, .int .i64 0, .int .i64 0, .int .i64 0] :: (fs)) := hS.box 47 #[.int .i64 0, .int .i64 0, .int .i64 0, .int .i64 0]
  generalize w.heap.size = g1 at hF hS
  generalize w.alloc (.cells #[.int .i64 0, .int .i64 0, .int .i64 0, .int .i64 0] 47) = w at hS ⊢
  refine at_run 1 [] [] [0, 2] [pl 0 (.slice A1 calls1.length c1), pl 2 (.pointer (some ⟨g1, 0, none⟩))] hF hS (by kernel_rfl) (by kernel_rfl) ?_ (fun a w hF hS => ?_)
  · exact obs_nil
  refine at_end [0, 2] [pl 0 (.slice A1 calls1.length c1), pl 2 (.pointer (some ⟨g1, 0, none⟩))] hF rfl (by kernel_rfl) (fun hF => ?_)
  refine then_n ?_
  refine seqR ?_
  refine at_run 1 [] [] [0, 2, 9] [pl 0 (.slice A1 calls1.length c1), pl 2 (.pointer (some ⟨g1, 0, none⟩)), pl 9 (.agg (List.toArray (([.int .i64 (-1), .int .i64 0, .int .i64 0, .int .i64 0, .int .i64 0] : List Value) ++ (arr1 (Value.int .i64) (0 : Int) 10 (List.replicate 10 (0 : Int)) ++ ([.int .i64 0] : List Value)))))] hF hS (by kernel_rfl) (by kernel_rfl) ?_ (fun a w hF hS => ?_)
  · exact obs_nil
  refine at_do (d := 4) (s := vS (Instr.alloc 110 true (.tuple #[]))) (v := .pointer (some ⟨w.heap.size, 0, none⟩)) (w' := w.alloc (.cells (List.toArray (([.int .i64 0, .int .i64 0, .int .i64 0, .int .i64 0, .int .i64 0] : List Value) ++ (arr1 (Value.int .i64) (0 : Int) 10 (List.replicate 10 (0 : Int)) ++ ([.int .i64 0] : List Value)))) 110)) hF (by kernel_rfl) (by kernel_rfl) (by kernel_rfl) (fun a hF => ?_)
  have hS : Sep w0 B (w.alloc (.cells (List.toArray (([.int .i64 0, .int .i64 0, .int .i64 0, .int .i64 0, .int .i64 0] : List Value) ++ (arr1 (Value.int .i64) (0 : Int) 10 (List.replicate 10 (0 : Int)) ++ ([.int .i64 0] : List Value)))) 110)) (blk w.heap.size 110 (List.toArray (([.int .i64 0, .int .i64 0, .int .i64 0, .int .i64 0, .int .i64 0] : List Value) ++ (arr1 (Value.int .i64) (0 : Int) 10 (List.replicate 10 (0 : Int)) ++ ([.int .i64 0] : List Value)))) :: (blk g1 47 #[.int .i64 0, .int .i64 0, .int .i64 0, .int .i64 0] :: fs)) := hS.box 110 (List.toArray (([.int .i64 0, .int .i64 0, .int .i64 0, .int .i64 0, .int .i64 0] : List Value) ++ (arr1 (Value.int .i64) (0 : Int) 10 (List.replicate 10 (0 : Int)) ++ ([.int .i64 0] : List Value))))
  generalize w.heap.size = g2 at hF hS
  generalize w.alloc (.cells (List.toArray (([.int .i64 0, .int .i64 0, .int .i64 0, .int .i64 0, .int .i64 0] : List Value) ++ (arr1 (Value.int .i64) (0 : Int) 10 (List.replicate 10 (0 : Int)) ++ ([.int .i64 0] : List Value)))) 110) = w at hS ⊢
  obtain ⟨w, hrun, hS⟩ := run_putA (P := Try.prog) (t := 110) (us := (List.toArray (([.int .i64 (-1), .int .i64 0, .int .i64 0, .int .i64 0, .int .i64 0] : List Value) ++ (arr1 (Value.int .i64) (0 : Int) 10 (List.replicate 10 (0 : Int)) ++ ([.int .i64 0] : List Value))))) (o := 0) (hS.at_ 0 rfl) (by kernel_rfl) (all_one (by kernel_rfl)) (Nat.le_of_ble_eq_true (by kernel_rfl))
  refine at_skip hF (by kernel_rfl) hrun ?_
  have hS : Sep w0 B w (blk g2 110 (List.toArray (([.int .i64 (-1), .int .i64 0, .int .i64 0, .int .i64 0, .int .i64 0] : List Value) ++ (arr1 (Value.int .i64) (0 : Int) 10 (List.replicate 10 (0 : Int)) ++ ([.int .i64 0] : List Value)))) :: blk g1 47 #[.int .i64 0, .int .i64 0, .int .i64 0, .int .i64 0] :: fs) := hS
  refine at_end [0, 2, 4] [pl 0 (.slice A1 calls1.length c1), pl 2 (.pointer (some ⟨g1, 0, none⟩)), pl 4 (.pointer (some ⟨g2, 0, none⟩))] hF rfl (by kernel_rfl) (fun hF => ?_)
  refine then_n ?_
  refine seq_cut (fun a w => ∃ (a2 : List Int), Fr 75 [pl 0 (.slice A1 calls1.length c1), pl 2 (.pointer (some ⟨g1, 0, none⟩)), pl 4 (.pointer (some ⟨g2, 0, none⟩))] a ∧ Sep w0 B w (blk g1 47 #[.int .i64 0, .int .i64 0, .int .i64 0, .int .i64 0] :: blk g2 110 (List.toArray (([.int .i64 (-1), .int .i64 0, .int .i64 0, .int .i64 0, .int .i64 0] : List Value) ++ (arr1 (Value.int .i64) (0 : Int) 10 a2 ++ ([.int .i64 0] : List Value)))) :: fs) ∧ ((bridge_Auction_J1 calls1) a2).bind some = some r) ?_ ?_
  · rintro a w ⟨a2, hF, hS, hm⟩
    unfold bridge_Auction_J1 at hm
    refine seq_cut (fun a w => ∃ (a12 : Int) (a13 : Int) (a14 : Int) (a15 : Int) (a16 : Int) (a17 : List Int) (a18 : Int), Fr 75 [pl 2 (.pointer (some ⟨g1, 0, none⟩)), pl 4 (.pointer (some ⟨g2, 0, none⟩))] a ∧ Sep w0 B w (blk g1 47 #[.int .i64 0, .int .i64 0, .int .i64 0, .int .i64 0] :: blk g2 110 (List.toArray (([.int .i64 a12, .int .i64 a13, .int .i64 a14, .int .i64 a15, .int .i64 a16] : List Value) ++ (arr1 (Value.int .i64) (0 : Int) 10 a17 ++ ([.int .i64 a18] : List Value)))) :: fs) ∧ (bridge_Auction_J6 a12 a13 a14 a15 a16 a17 a18).bind some = some r) ?_ ?_
    · rintro a w ⟨a12, a13, a14, a15, a16, a17, a18, hF, hS, hm⟩
      unfold bridge_Auction_J6 at hm
      refine seq_cut (fun a w => Fr 75 [pl 2 (.pointer (some ⟨g1, 0, none⟩)), pl 4 (.pointer (some ⟨g2, 0, none⟩))] a ∧ Sep w0 B w (blk g1 47 #[.int .i64 0, .int .i64 0, .int .i64 0, .int .i64 0] :: blk g2 110 (List.toArray (([.int .i64 a12, .int .i64 a13, .int .i64 a14, .int .i64 a15, .int .i64 a16] : List Value) ++ (arr1 (Value.int .i64) (0 : Int) 10 a17 ++ ([.int .i64 a18] : List Value)))) :: fs) ∧ ((bridge_Auction_J9 a12 a13 a14 a17)).bind some = some r) ?_ ?_
      · rintro a w ⟨hF, hS, hm⟩
        unfold bridge_Auction_J9 at hm
        refine wp_seq ?_
        obtain ⟨hp5, hm⟩ := asrt_b hm
        obtain ⟨hp6, hm⟩ := asrt_b hm
        refine regMix4 [0, 1, 2, 3, 4, 5, 6, 7, 8, 9, 10, 11, 12, 13, 14, 15, 16, 17, 18, 19] [20, 21] [⟨false, [], vS (Instr.loadAt 3 (.pointer (some ⟨g2, 0, none⟩))), .int .i64 a12⟩, ⟨false, [], vS (Instr.loadAt 3 (.pointer (some ⟨g2, 0, none⟩))), .int .i64 a12⟩, ⟨false, [], vS (Instr.loadAt 3 (.pointer (some ⟨g2, 2, none⟩))), .int .i64 a14⟩, ⟨false, [], vS (Instr.loadAt 3 (.pointer (some ⟨g2, 1, none⟩))), .int .i64 a13⟩, ⟨false, [], vS (Instr.loadAt 3 (.pointer (some ⟨g2, 0, none⟩))), .int .i64 a12⟩, ⟨true, [], vS (Instr.indexAt 108 (.pointer (some ⟨g2, 5, none⟩)) (.int .i64 (bAnd a13 1))), .pointer (some ((⟨g2, 5, none⟩ : Addr).add (Int.toNat (bAnd a13 1) * 5)))⟩, ⟨true, [], vS (Instr.indexAt 107 (.pointer (some ((⟨g2, 5, none⟩ : Addr).add (Int.toNat (bAnd a13 1) * 5)))) (.int .i64 (Int.tmod a12 5))), .pointer (some ((⟨g2, 5, none⟩ : Addr).add (Int.toNat (bAnd a13 1) * 5 + Int.toNat (Int.tmod a12 5) * 1)))⟩, ⟨false, [], vS (Instr.loadAt 3 (.pointer (some ((⟨g2, 5, none⟩ : Addr).add (Int.toNat (bAnd a13 1) * 5 + Int.toNat (Int.tmod a12 5) * 1))))), .int .i64 (geti a17 ((bAnd a13 1) * 5 + (Int.tmod a12 5)))⟩] [none, some (.int .i64 a12), none, none, none, some (.int .i64 a12), none, none, some (.int .i64 a14), none, some (.int .i64 a13), none, none, some (.int .i64 a12), none, none, some (.pointer (some ((⟨g2, 5, none⟩ : Addr).add (Int.toNat (bAnd a13 1) * 5)))), some (.pointer (some ((⟨g2, 5, none⟩ : Addr).add (Int.toNat (bAnd a13 1) * 5 + Int.toNat (Int.tmod a12 5) * 1)))), some (.int .i64 (geti a17 ((bAnd a13 1) * 5 + (Int.tmod a12 5)))), none] [2, 74] [pl 2 (.pointer (some ⟨g1, 0, none⟩)), pl 74 (.agg #[.int .i64 (w64 ((w64 (Int.tdiv a12 5)) + 1)), .int .i64 (Int.tmod a12 5), .int .i64 a14, .int .i64 (geti a17 ((bAnd a13 1) * 5 + (Int.tmod a12 5)))])] hF hS Fol (by kernel_rfl) (by kernel_rfl) (by kernel_rfl) (by kernel_rfl) (by kernel_rfl) ?_ (fun a w hF hS => ?_)
        · exact obs_cons (ob_load Agg3 (fun _ _ hS => (hS.at_ 1 rfl).cell rfl)) <| obs_cons (ob_load Agg3 (fun _ _ hS => (hS.at_ 1 rfl).cell rfl)) <| obs_cons (ob_load Agg3 (fun _ _ hS => (hS.at_ 1 rfl).cell rfl)) <| obs_cons (ob_load Agg3 (fun _ _ hS => (hS.at_ 1 rfl).cell rfl)) <| obs_cons (ob_load Agg3 (fun _ _ hS => (hS.at_ 1 rfl).cell rfl)) <| obs_cons (ob_ixA UndA108 hi107 hs107 (fun _ => hp5)) <| obs_cons (ob_ixA2 UndA107 hi3 hs3 (fun _ => hp6)) <| obs_cons (ob_getA (m := a17) (Value.int .i64) (0 : Int) 10 ([.int .i64 a12, .int .i64 a13, .int .i64 a14, .int .i64 a15, .int .i64 a16] : List Value) ([.int .i64 a18] : List Value) ((bAnd a13 1) * 5 + (Int.tmod a12 5)) Agg3 rfl (fun _ hS => ⟨_, _, _, _, _, hS.at_ 1 rfl⟩) (fun hy => by have h0 := hp5; have h1 := hp6; omega)) <| obs_nil
        obtain ⟨w, hrun, hS⟩ := run_putA (P := Try.prog) (t := 47) (us := #[.int .i64 (w64 ((w64 (Int.tdiv a12 5)) + 1)), .int .i64 (Int.tmod a12 5), .int .i64 a14, .int .i64 (geti a17 ((bAnd a13 1) * 5 + (Int.tmod a12 5)))]) (o := 0) (hS.at_ 0 rfl) (by kernel_rfl) (all_one (by kernel_rfl)) (Nat.le_of_ble_eq_true (by kernel_rfl))
        refine at_skip hF (by kernel_rfl) hrun ?_
        have hS : Sep w0 B w (blk g1 47 #[.int .i64 (w64 ((w64 (Int.tdiv a12 5)) + 1)), .int .i64 (Int.tmod a12 5), .int .i64 a14, .int .i64 (geti a17 ((bAnd a13 1) * 5 + (Int.tmod a12 5)))] :: blk g2 110 (List.toArray (([.int .i64 a12, .int .i64 a13, .int .i64 a14, .int .i64 a15, .int .i64 a16] : List Value) ++ (arr1 (Value.int .i64) (0 : Int) 10 a17 ++ ([.int .i64 a18] : List Value)))) :: fs) := hS
        refine at_run 1 [] [] [2, 3] [pl 2 (.pointer (some ⟨g1, 0, none⟩)), pl 3 (.int .i64 0)] hF hS (by kernel_rfl) (by kernel_rfl) ?_ (fun a w hF hS => ?_)
        · exact obs_nil
        refine at_end [2, 3] [pl 2 (.pointer (some ⟨g1, 0, none⟩)), pl 3 (.int .i64 0)] hF rfl (by kernel_rfl) (fun hF => ?_)
        refine np_n ?_
        refine then_n ?_
        refine wp_ret ?_
        have hld0 := run_loadVarA (P := Try.prog) (t := 47) (cs := #[.int .i64 (w64 ((w64 (Int.tdiv a12 5)) + 1)), .int .i64 (Int.tmod a12 5), .int .i64 a14, .int .i64 (geti a17 ((bAnd a13 1) * 5 + (Int.tmod a12 5)))]) (by kernel_rfl) (by kernel_rfl) ((hS.at_ 0 rfl).cellsAt 0 (by rfl))
        have hS := hS.pickN 2 [] (by decide)
        have hm : some ((w64 ((w64 (Int.tdiv a12 5)) + 1)), (Int.tmod a12 5), a14, (geti a17 ((bAnd a13 1) * 5 + (Int.tmod a12 5))), 0) = some r := hm
        obtain rfl := Option.some.inj hm
        exact retV (rs := [.cell 2 47, .tmp 3]) (vs := [.agg #[.int .i64 (w64 ((w64 (Int.tdiv a12 5)) + 1)), .int .i64 (Int.tmod a12 5), .int .i64 a14, .int .i64 (geti a17 ((bAnd a13 1) * 5 + (Int.tmod a12 5)))], .int .i64 0]) hF rfl (rv_c (by kernel_rfl) hld0 <| rv_t (by kernel_rfl) <| rv_nil) rfl ⟨rfl, hS⟩
      · refine wp_block ?_
        obtain ⟨r3, hr3, hm⟩ := call_b hm
        refine reg [⟨false, [], callFunc 80 #[.pointer (some ⟨g2, 0, none⟩)], .bool r3⟩] [some (.bool r3), none, none] [2, 4, 46] [pl 2 (.pointer (some ⟨g1, 0, none⟩)), pl 4 (.pointer (some ⟨g2, 0, none⟩)), pl 46 (.bool (!r3))] hF hS Fol (by kernel_rfl) (by kernel_rfl) (by kernel_rfl) ?_ (fun a w hF hS => ?_)
        · exact obs_cons (ob_call Try.func80 (by kernel_rfl) rfl (fun _ _ hS => quiet_pick hS 2 [1, 0] (by decide) [1, 0] (by decide) (qs := (blk g2 110 (List.toArray (([.int .i64 a12, .int .i64 a13, .int .i64 a14, .int .i64 a15, .int .i64 a16] : List Value) ++ (arr1 (Value.int .i64) (0 : Int) 10 a17 ++ ([.int .i64 a18] : List Value)))) :: blk g1 47 #[.int .i64 0, .int .i64 0, .int .i64 0, .int .i64 0] :: fs)) rfl (fun hS => bridge_auction_over_w hr3 hS ) 2 rfl)) <| obs_nil
        refine cond_ev (t := 46) (b := !r3) hF (by kernel_rfl) (fun hb => ?_) (fun hb => ?_)
        · replace hm := if_t hm hb
          refine seqR ?_
          refine at_run 1 [] [] [2, 49] [pl 2 (.pointer (some ⟨g1, 0, none⟩)), pl 49 (.agg #[.int .i64 0, .int .i64 0, .int .i64 0, .int .i64 0])] hF hS (by kernel_rfl) (by kernel_rfl) ?_ (fun a w hF hS => ?_)
          · exact obs_nil
          obtain ⟨w, hrun, hS⟩ := run_putA (P := Try.prog) (t := 47) (us := #[.int .i64 0, .int .i64 0, .int .i64 0, .int .i64 0]) (o := 0) (hS.at_ 0 rfl) (by kernel_rfl) (all_one (by kernel_rfl)) (Nat.le_of_ble_eq_true (by kernel_rfl))
          refine at_skip hF (by kernel_rfl) hrun ?_
          have hS : Sep w0 B w (blk g1 47 #[.int .i64 0, .int .i64 0, .int .i64 0, .int .i64 0] :: blk g2 110 (List.toArray (([.int .i64 a12, .int .i64 a13, .int .i64 a14, .int .i64 a15, .int .i64 a16] : List Value) ++ (arr1 (Value.int .i64) (0 : Int) 10 a17 ++ ([.int .i64 a18] : List Value)))) :: fs) := hS
          refine at_run 1 [] [] [2, 3] [pl 2 (.pointer (some ⟨g1, 0, none⟩)), pl 3 (.int .i64 13)] hF hS (by kernel_rfl) (by kernel_rfl) ?_ (fun a w hF hS => ?_)
          · exact obs_nil
          refine at_end [2, 3] [pl 2 (.pointer (some ⟨g1, 0, none⟩)), pl 3 (.int .i64 13)] hF rfl (by kernel_rfl) (fun hF => ?_)
          refine then_n ?_
          refine wp_ret ?_
          refine block_r (then_r ?_)
          have hld0 := run_loadVarA (P := Try.prog) (t := 47) (cs := #[.int .i64 0, .int .i64 0, .int .i64 0, .int .i64 0]) (by kernel_rfl) (by kernel_rfl) ((hS.at_ 0 rfl).cellsAt 0 (by rfl))
          have hS := hS.pickN 2 [] (by decide)
          have hm : some (0, 0, 0, 0, 13) = some r := hm
          obtain rfl := Option.some.inj hm
          exact retV (rs := [.cell 2 47, .tmp 3]) (vs := [.agg #[.int .i64 0, .int .i64 0, .int .i64 0, .int .i64 0], .int .i64 13]) hF rfl (rv_c (by kernel_rfl) hld0 <| rv_t (by kernel_rfl) <| rv_nil) rfl ⟨rfl, hS⟩
        · replace hm := if_f hm hb
          refine reg [⟨false, [], vS (Instr.loadAt 3 (.pointer (some ⟨g2, 0, none⟩))), .int .i64 a12⟩] [none, some (.int .i64 a12), none, none] [2, 4, 50] [pl 2 (.pointer (some ⟨g1, 0, none⟩)), pl 4 (.pointer (some ⟨g2, 0, none⟩)), pl 50 (.bool (decide (a12 < 0)))] hF hS Fol (by kernel_rfl) (by kernel_rfl) (by kernel_rfl) ?_ (fun a w hF hS => ?_)
          · exact obs_cons (ob_load Agg3 (fun _ _ hS => (hS.at_ 1 rfl).cell rfl)) <| obs_nil
          refine cond_ev (t := 50) (b := decide (a12 < 0)) hF (by kernel_rfl) (fun hb => ?_) (fun hb => ?_)
          · replace hm := if_t hm hb
            refine seqR ?_
            refine at_run 1 [] [] [2, 54] [pl 2 (.pointer (some ⟨g1, 0, none⟩)), pl 54 (.agg #[.int .i64 0, .int .i64 0, .int .i64 0, .int .i64 0])] hF hS (by kernel_rfl) (by kernel_rfl) ?_ (fun a w hF hS => ?_)
            · exact obs_nil
            obtain ⟨w, hrun, hS⟩ := run_putA (P := Try.prog) (t := 47) (us := #[.int .i64 0, .int .i64 0, .int .i64 0, .int .i64 0]) (o := 0) (hS.at_ 0 rfl) (by kernel_rfl) (all_one (by kernel_rfl)) (Nat.le_of_ble_eq_true (by kernel_rfl))
            refine at_skip hF (by kernel_rfl) hrun ?_
            have hS : Sep w0 B w (blk g1 47 #[.int .i64 0, .int .i64 0, .int .i64 0, .int .i64 0] :: blk g2 110 (List.toArray (([.int .i64 a12, .int .i64 a13, .int .i64 a14, .int .i64 a15, .int .i64 a16] : List Value) ++ (arr1 (Value.int .i64) (0 : Int) 10 a17 ++ ([.int .i64 a18] : List Value)))) :: fs) := hS
            refine at_run 1 [] [] [2, 3] [pl 2 (.pointer (some ⟨g1, 0, none⟩)), pl 3 (.int .i64 10)] hF hS (by kernel_rfl) (by kernel_rfl) ?_ (fun a w hF hS => ?_)
            · exact obs_nil
            refine at_end [2, 3] [pl 2 (.pointer (some ⟨g1, 0, none⟩)), pl 3 (.int .i64 10)] hF rfl (by kernel_rfl) (fun hF => ?_)
            refine then_n ?_
            refine wp_ret ?_
            refine block_r (then_r ?_)
            have hld0 := run_loadVarA (P := Try.prog) (t := 47) (cs := #[.int .i64 0, .int .i64 0, .int .i64 0, .int .i64 0]) (by kernel_rfl) (by kernel_rfl) ((hS.at_ 0 rfl).cellsAt 0 (by rfl))
            have hS := hS.pickN 2 [] (by decide)
            have hm : some (0, 0, 0, 0, 10) = some r := hm
            obtain rfl := Option.some.inj hm
            exact retV (rs := [.cell 2 47, .tmp 3]) (vs := [.agg #[.int .i64 0, .int .i64 0, .int .i64 0, .int .i64 0], .int .i64 10]) hF rfl (rv_c (by kernel_rfl) hld0 <| rv_t (by kernel_rfl) <| rv_nil) rfl ⟨rfl, hS⟩
          · replace hm := if_f hm hb
            refine wp_skip ?_
            refine block_n ?_
            refine then_n ?_
            exact ⟨hF.weak [2, 4] (by kernel_rfl), hS, hm⟩
    · refine reg [] [] [2, 4, 23, 24, 25] [pl 2 (.pointer (some ⟨g1, 0, none⟩)), pl 4 (.pointer (some ⟨g2, 0, none⟩)), pl 23 (.slice A1 calls1.length c1), pl 24 (.int .i64 (calls1.length : Int)), pl 25 (.int .i64 0)] hF hS Fol (by kernel_rfl) (by kernel_rfl) (by kernel_rfl) ?_ (fun a w hF hS => ?_)
      · exact obs_nil
      refine wp_block ?_
      refine wp_loop_model (S := (Int × Int × Int × Int × Int × List Int × Int × Int)) (R := (Fl (Int × Int × Int × Int × Int × List Int × Int) (Int × Int × Int × Int × Int))) (bridge_Auction_L3 calls1) (fun x => (bridge_Auction_K3 x).bind some) r (fun (x : (Int × Int × Int × Int × Int × List Int × Int × Int)) a w => Fr 75 [pl 2 (.pointer (some ⟨g1, 0, none⟩)), pl 4 (.pointer (some ⟨g2, 0, none⟩)), pl 23 (.slice A1 calls1.length c1), pl 24 (.int .i64 (calls1.length : Int)), pl 25 (.int .i64 x.2.2.2.2.2.2.2)] a ∧ Sep w0 B w (blk g1 47 #[.int .i64 0, .int .i64 0, .int .i64 0, .int .i64 0] :: blk g2 110 (List.toArray (([.int .i64 x.1, .int .i64 x.2.1, .int .i64 x.2.2.1, .int .i64 x.2.2.2.1, .int .i64 x.2.2.2.2.1] : List Value) ++ (arr1 (Value.int .i64) (0 : Int) 10 x.2.2.2.2.2.1 ++ ([.int .i64 x.2.2.2.2.2.2.1] : List Value)))) :: fs)) (assoc_b hm) ⟨hF.weak [2, 4, 23, 24, 25] (by kernel_rfl), hS⟩ ?_
      clear hF hS hm
      rintro nn3 ⟨a5, a6, a7, a8, a9, a10, a11, z3⟩ a w ⟨hF, hS⟩ hm
      generalize hφ3 : stK (bridge_Auction_L3 calls1) nn3 (fun x => (bridge_Auction_K3 x).bind some) = φ3 at hm
      unfold bridge_Auction_L3 at hm
      dsimp only at hF hS hm
      refine reg [] [] [2, 4, 23, 24, 25, 26] [pl 2 (.pointer (some ⟨g1, 0, none⟩)), pl 4 (.pointer (some ⟨g2, 0, none⟩)), pl 23 (.slice A1 calls1.length c1), pl 24 (.int .i64 (calls1.length : Int)), pl 25 (.int .i64 z3), pl 26 (.bool (decide (z3 < (calls1.length : Int))))] hF hS Fol (by kernel_rfl) (by kernel_rfl) (by kernel_rfl) ?_ (fun a w hF hS => ?_)
      · exact obs_nil
      refine seq_cut (fun a w => Fr 75 [pl 2 (.pointer (some ⟨g1, 0, none⟩)), pl 4 (.pointer (some ⟨g2, 0, none⟩)), pl 23 (.slice A1 calls1.length c1), pl 24 (.int .i64 (calls1.length : Int)), pl 25 (.int .i64 z3)] a ∧ Sep w0 B w (blk g1 47 #[.int .i64 0, .int .i64 0, .int .i64 0, .int .i64 0] :: blk g2 110 (List.toArray (([.int .i64 a5, .int .i64 a6, .int .i64 a7, .int .i64 a8, .int .i64 a9] : List Value) ++ (arr1 (Value.int .i64) (0 : Int) 10 a10 ++ ([.int .i64 a11] : List Value)))) :: fs) ∧ ((bridge_Auction_J7 calls1 a5 a6 a7 a8 a9 a10 a11 z3)).bind φ3 = some r) ?_ ?_
      · rintro a w ⟨hF, hS, hm⟩
        unfold bridge_Auction_J7 at hm
        refine seq_cut (fun a w => ∃ (a19 : Int) (a20 : Int) (a21 : Int) (a22 : Int) (a23 : Int) (a24 : List Int) (a25 : Int), Fr 75 [pl 2 (.pointer (some ⟨g1, 0, none⟩)), pl 4 (.pointer (some ⟨g2, 0, none⟩)), pl 23 (.slice A1 calls1.length c1), pl 24 (.int .i64 (calls1.length : Int)), pl 25 (.int .i64 z3)] a ∧ Sep w0 B w (blk g1 47 #[.int .i64 0, .int .i64 0, .int .i64 0, .int .i64 0] :: blk g2 110 (List.toArray (([.int .i64 a19, .int .i64 a20, .int .i64 a21, .int .i64 a22, .int .i64 a23] : List Value) ++ (arr1 (Value.int .i64) (0 : Int) 10 a24 ++ ([.int .i64 a25] : List Value)))) :: fs) ∧ ((bridge_Auction_J8 z3) a19 a20 a21 a22 a23 a24 a25).bind φ3 = some r) ?_ ?_
        · rintro a w ⟨a19, a20, a21, a22, a23, a24, a25, hF, hS, hm⟩
          unfold bridge_Auction_J8 at hm
          refine reg1 [] [] [2, 4, 23, 24, 25] [pl 2 (.pointer (some ⟨g1, 0, none⟩)), pl 4 (.pointer (some ⟨g2, 0, none⟩)), pl 23 (.slice A1 calls1.length c1), pl 24 (.int .i64 (calls1.length : Int)), pl 25 (.int .i64 (w64 (z3 + 1)))] hF hS Fol (by kernel_rfl) (by kernel_rfl) (by kernel_rfl) ?_ (fun a w hF hS => ?_)
          · exact obs_nil
          refine then_n ?_
          rw [← hφ3] at hm
          exact ⟨(a19, a20, a21, a22, a23, a24, a25, (w64 (z3 + 1))), ⟨hF.weak [2, 4, 23, 24, 25] (by kernel_rfl), hS⟩, hm⟩
        · refine wp_block ?_
          obtain ⟨hp4, hm⟩ := asrt_b hm
          refine reg [⟨true, [], vS (Instr.indexAt 22 (.slice A1 calls1.length c1) (.int .i64 z3)), .pointer (some (sAddr A1 z3))⟩, ⟨false, [], vS (Instr.loadAt 3 (.pointer (some (sAddr A1 z3)))), .int .i64 (geti calls1 z3)⟩] [some (.pointer (some (sAddr A1 z3))), some (.int .i64 (geti calls1 z3)), none] [2, 4, 8, 23, 24, 25] [pl 2 (.pointer (some ⟨g1, 0, none⟩)), pl 4 (.pointer (some ⟨g2, 0, none⟩)), pl 8 (.int .i64 (geti calls1 z3)), pl 23 (.slice A1 calls1.length c1), pl 24 (.int .i64 (calls1.length : Int)), pl 25 (.int .i64 z3)] hF hS Fol (by kernel_rfl) (by kernel_rfl) (by kernel_rfl) ?_ (fun a w hF hS => ?_)
          · exact obs_cons (ob_ix1 (f := (Value.int .i64)) (m := calls1) Und22 hi3 hs3 (hr_calls1 _ (hS.dropN 2)) rfl (fun _ => hp4)) <| obs_cons (ob_get1 (n := calls1.length) (m := calls1) (Value.int .i64) (0 : Int) Agg3 (fun _ hS => ⟨_, (hr_calls1 _ (hS.dropN 2))⟩) (fun _ hS => rfl) (fun _ => hp4)) <| obs_nil
          refine wp_block ?_
          refine reg [] [] [2, 4, 8, 23, 24, 25, 29] [pl 2 (.pointer (some ⟨g1, 0, none⟩)), pl 4 (.pointer (some ⟨g2, 0, none⟩)), pl 8 (.int .i64 (geti calls1 z3)), pl 23 (.slice A1 calls1.length c1), pl 24 (.int .i64 (calls1.length : Int)), pl 25 (.int .i64 z3), pl 29 (.bool ((decide ((geti calls1 z3) < 0)) || (decide ((37 : Int) < (geti calls1 z3)))))] hF hS Fol (by kernel_rfl) (by kernel_rfl) (by kernel_rfl) ?_ (fun a w hF hS => ?_)
          · exact obs_nil
          refine cond_ev (t := 29) (b := (decide ((geti calls1 z3) < 0)) || (decide ((37 : Int) < (geti calls1 z3)))) hF (by kernel_rfl) (fun hb => ?_) (fun hb => ?_)
          · replace hm := if_t hm hb
            refine seqR ?_
            refine at_run 1 [] [] [2, 36] [pl 2 (.pointer (some ⟨g1, 0, none⟩)), pl 36 (.agg #[.int .i64 0, .int .i64 0, .int .i64 0, .int .i64 0])] hF hS (by kernel_rfl) (by kernel_rfl) ?_ (fun a w hF hS => ?_)
            · exact obs_nil
            obtain ⟨w, hrun, hS⟩ := run_putA (P := Try.prog) (t := 47) (us := #[.int .i64 0, .int .i64 0, .int .i64 0, .int .i64 0]) (o := 0) (hS.at_ 0 rfl) (by kernel_rfl) (all_one (by kernel_rfl)) (Nat.le_of_ble_eq_true (by kernel_rfl))
            refine at_skip hF (by kernel_rfl) hrun ?_
            have hS : Sep w0 B w (blk g1 47 #[.int .i64 0, .int .i64 0, .int .i64 0, .int .i64 0] :: blk g2 110 (List.toArray (([.int .i64 a5, .int .i64 a6, .int .i64 a7, .int .i64 a8, .int .i64 a9] : List Value) ++ (arr1 (Value.int .i64) (0 : Int) 10 a10 ++ ([.int .i64 a11] : List Value)))) :: fs) := hS
            refine at_run 1 [] [] [2, 3] [pl 2 (.pointer (some ⟨g1, 0, none⟩)), pl 3 (.int .i64 3)] hF hS (by kernel_rfl) (by kernel_rfl) ?_ (fun a w hF hS => ?_)
            · exact obs_nil
            refine at_end [2, 3] [pl 2 (.pointer (some ⟨g1, 0, none⟩)), pl 3 (.int .i64 3)] hF rfl (by kernel_rfl) (fun hF => ?_)
            refine then_n ?_
            refine wp_ret ?_
            refine block_r (block_r (then_r (then_r (block_r (then_r ?_)))))
            rw [← hφ3] at hm
            have hld0 := run_loadVarA (P := Try.prog) (t := 47) (cs := #[.int .i64 0, .int .i64 0, .int .i64 0, .int .i64 0]) (by kernel_rfl) (by kernel_rfl) ((hS.at_ 0 rfl).cellsAt 0 (by rfl))
            have hS := hS.pickN 2 [] (by decide)
            have hm : some (0, 0, 0, 0, 3) = some r := hm
            obtain rfl := Option.some.inj hm
            exact retV (rs := [.cell 2 47, .tmp 3]) (vs := [.agg #[.int .i64 0, .int .i64 0, .int .i64 0, .int .i64 0], .int .i64 3]) hF rfl (rv_c (by kernel_rfl) hld0 <| rv_t (by kernel_rfl) <| rv_nil) rfl ⟨rfl, hS⟩
          · replace hm := if_f hm hb
            obtain ⟨r1, hr1, hm⟩ := call_b hm
            refine reg [⟨false, [], callFunc 80 #[.pointer (some ⟨g2, 0, none⟩)], .bool r1⟩] [some (.bool r1), none] [2, 4, 8, 23, 24, 25, 37] [pl 2 (.pointer (some ⟨g1, 0, none⟩)), pl 4 (.pointer (some ⟨g2, 0, none⟩)), pl 8 (.int .i64 (geti calls1 z3)), pl 23 (.slice A1 calls1.length c1), pl 24 (.int .i64 (calls1.length : Int)), pl 25 (.int .i64 z3), pl 37 (.bool r1)] hF hS Fol (by kernel_rfl) (by kernel_rfl) (by kernel_rfl) ?_ (fun a w hF hS => ?_)
            · exact obs_cons (ob_call Try.func80 (by kernel_rfl) rfl (fun _ _ hS => quiet_pick hS 2 [1, 0] (by decide) [1, 0] (by decide) (qs := (blk g2 110 (List.toArray (([.int .i64 a5, .int .i64 a6, .int .i64 a7, .int .i64 a8, .int .i64 a9] : List Value) ++ (arr1 (Value.int .i64) (0 : Int) 10 a10 ++ ([.int .i64 a11] : List Value)))) :: blk g1 47 #[.int .i64 0, .int .i64 0, .int .i64 0, .int .i64 0] :: fs)) rfl (fun hS => bridge_auction_over_w hr1 hS ) 2 rfl)) <| obs_nil
            refine cond_ev (t := 37) (b := r1) hF (by kernel_rfl) (fun hb => ?_) (fun hb => ?_)
            · replace hm := if_t hm hb
              refine seqR ?_
              refine at_run 1 [] [] [2, 39] [pl 2 (.pointer (some ⟨g1, 0, none⟩)), pl 39 (.agg #[.int .i64 0, .int .i64 0, .int .i64 0, .int .i64 0])] hF hS (by kernel_rfl) (by kernel_rfl) ?_ (fun a w hF hS => ?_)
              · exact obs_nil
              obtain ⟨w, hrun, hS⟩ := run_putA (P := Try.prog) (t := 47) (us := #[.int .i64 0, .int .i64 0, .int .i64 0, .int .i64 0]) (o := 0) (hS.at_ 0 rfl) (by kernel_rfl) (all_one (by kernel_rfl)) (Nat.le_of_ble_eq_true (by kernel_rfl))
              refine at_skip hF (by kernel_rfl) hrun ?_
              have hS : Sep w0 B w (blk g1 47 #[.int .i64 0, .int .i64 0, .int .i64 0, .int .i64 0] :: blk g2 110 (List.toArray (([.int .i64 a5, .int .i64 a6, .int .i64 a7, .int .i64 a8, .int .i64 a9] : List Value) ++ (arr1 (Value.int .i64) (0 : Int) 10 a10 ++ ([.int .i64 a11] : List Value)))) :: fs) := hS
              refine at_run 1 [] [] [2, 3] [pl 2 (.pointer (some ⟨g1, 0, none⟩)), pl 3 (.int .i64 9)] hF hS (by kernel_rfl) (by kernel_rfl) ?_ (fun a w hF hS => ?_)
              · exact obs_nil
              refine at_end [2, 3] [pl 2 (.pointer (some ⟨g1, 0, none⟩)), pl 3 (.int .i64 9)] hF rfl (by kernel_rfl) (fun hF => ?_)
              refine then_n ?_
              refine wp_ret ?_
              refine block_r (block_r (then_r (then_r (block_r (then_r ?_)))))
              rw [← hφ3] at hm
              have hld0 := run_loadVarA (P := Try.prog) (t := 47) (cs := #[.int .i64 0, .int .i64 0, .int .i64 0, .int .i64 0]) (by kernel_rfl) (by kernel_rfl) ((hS.at_ 0 rfl).cellsAt 0 (by rfl))
              have hS := hS.pickN 2 [] (by decide)
              have hm : some (0, 0, 0, 0, 9) = some r := hm
              obtain rfl := Option.some.inj hm
              exact retV (rs := [.cell 2 47, .tmp 3]) (vs := [.agg #[.int .i64 0, .int .i64 0, .int .i64 0, .int .i64 0], .int .i64 9]) hF rfl (rv_c (by kernel_rfl) hld0 <| rv_t (by kernel_rfl) <| rv_nil) rfl ⟨rfl, hS⟩
            · replace hm := if_f hm hb
              refine seqR ?_
              obtain ⟨r2, hr2, hm⟩ := call_b hm
              refine at_run 1 [] [] [2, 4, 23, 24, 25, 41] [pl 2 (.pointer (some ⟨g1, 0, none⟩)), pl 4 (.pointer (some ⟨g2, 0, none⟩)), pl 23 (.slice A1 calls1.length c1), pl 24 (.int .i64 (calls1.length : Int)), pl 25 (.int .i64 z3), pl 41 (.int .i64 (geti calls1 z3))] hF hS (by kernel_rfl) (by kernel_rfl) ?_ (fun a w hF hS => ?_)
              · exact obs_nil
              have hS : Sep w0 B w (blk g2 110 (List.toArray (([.int .i64 a5, .int .i64 a6, .int .i64 a7, .int .i64 a8, .int .i64 a9] : List Value) ++ (arr1 (Value.int .i64) (0 : Int) 10 a10 ++ ([.int .i64 a11] : List Value)))) :: blk g1 47 #[.int .i64 0, .int .i64 0, .int .i64 0, .int .i64 0] :: fs) := hS.pickN 2 [1, 0] (by decide)
              refine at_call (f := 81) (args := #[.pointer (some ⟨g2, 0, none⟩), .int .i64 (geti calls1 z3)]) (d := 42) hF (by kernel_rfl) (by kernel_rfl) Try.func81 (by kernel_rfl) rfl (bridge_auction_call_w hr2 hS ) (fun v a w hR hF => ?_)
              clear hS
              obtain ⟨rfl, hS⟩ := hR
              have hS : Sep w0 B w (blk g2 110 (List.toArray (([.int .i64 r2.2.1, .int .i64 r2.2.2.1, .int .i64 r2.2.2.2.1, .int .i64 r2.2.2.2.2.1, .int .i64 r2.2.2.2.2.2.1] : List Value) ++ (arr1 (Value.int .i64) (0 : Int) 10 r2.2.2.2.2.2.2.1 ++ ([.int .i64 r2.2.2.2.2.2.2.2] : List Value)))) :: blk g1 47 #[.int .i64 0, .int .i64 0, .int .i64 0, .int .i64 0] :: fs) := hS
              refine at_run 2 [] [] [2, 4, 23, 24, 25, 40] [pl 2 (.pointer (some ⟨g1, 0, none⟩)), pl 4 (.pointer (some ⟨g2, 0, none⟩)), pl 23 (.slice A1 calls1.length c1), pl 24 (.int .i64 (calls1.length : Int)), pl 25 (.int .i64 z3), pl 40 (.bool (!r2.1))] hF hS (by kernel_rfl) (by kernel_rfl) ?_ (fun a w hF hS => ?_)
              · exact obs_nil
              refine at_end [2, 4, 23, 24, 25, 40] [pl 2 (.pointer (some ⟨g1, 0, none⟩)), pl 4 (.pointer (some ⟨g2, 0, none⟩)), pl 23 (.slice A1 calls1.length c1), pl 24 (.int .i64 (calls1.length : Int)), pl 25 (.int .i64 z3), pl 40 (.bool (!r2.1))] hF rfl (by kernel_rfl) (fun hF => ?_)
              refine then_n ?_
              refine cond_ev (t := 40) (b := !r2.1) hF (by kernel_rfl) (fun hb => ?_) (fun hb => ?_)
              · replace hm := if_t hm hb
                refine seqR ?_
                refine at_run 1 [] [] [2, 44] [pl 2 (.pointer (some ⟨g1, 0, none⟩)), pl 44 (.agg #[.int .i64 0, .int .i64 0, .int .i64 0, .int .i64 0])] hF hS (by kernel_rfl) (by kernel_rfl) ?_ (fun a w hF hS => ?_)
                · exact obs_nil
                obtain ⟨w, hrun, hS⟩ := run_putA (P := Try.prog) (t := 47) (us := #[.int .i64 0, .int .i64 0, .int .i64 0, .int .i64 0]) (o := 0) (hS.at_ 1 rfl) (by kernel_rfl) (all_one (by kernel_rfl)) (Nat.le_of_ble_eq_true (by kernel_rfl))
                refine at_skip hF (by kernel_rfl) hrun ?_
                have hS : Sep w0 B w (blk g2 110 (List.toArray (([.int .i64 r2.2.1, .int .i64 r2.2.2.1, .int .i64 r2.2.2.2.1, .int .i64 r2.2.2.2.2.1, .int .i64 r2.2.2.2.2.2.1] : List Value) ++ (arr1 (Value.int .i64) (0 : Int) 10 r2.2.2.2.2.2.2.1 ++ ([.int .i64 r2.2.2.2.2.2.2.2] : List Value)))) :: blk g1 47 #[.int .i64 0, .int .i64 0, .int .i64 0, .int .i64 0] :: fs) := hS
                refine at_run 1 [] [] [2, 3] [pl 2 (.pointer (some ⟨g1, 0, none⟩)), pl 3 (.int .i64 8)] hF hS (by kernel_rfl) (by kernel_rfl) ?_ (fun a w hF hS => ?_)
                · exact obs_nil
                refine at_end [2, 3] [pl 2 (.pointer (some ⟨g1, 0, none⟩)), pl 3 (.int .i64 8)] hF rfl (by kernel_rfl) (fun hF => ?_)
                refine then_n ?_
                refine wp_ret ?_
                refine block_r (block_r (then_r (then_r (block_r (then_r ?_)))))
                rw [← hφ3] at hm
                have hld0 := run_loadVarA (P := Try.prog) (t := 47) (cs := #[.int .i64 0, .int .i64 0, .int .i64 0, .int .i64 0]) (by kernel_rfl) (by kernel_rfl) ((hS.at_ 1 rfl).cellsAt 0 (by rfl))
                have hS := hS.pickN 2 [] (by decide)
                have hm : some (0, 0, 0, 0, 8) = some r := hm
                obtain rfl := Option.some.inj hm
                exact retV (rs := [.cell 2 47, .tmp 3]) (vs := [.agg #[.int .i64 0, .int .i64 0, .int .i64 0, .int .i64 0], .int .i64 8]) hF rfl (rv_c (by kernel_rfl) hld0 <| rv_t (by kernel_rfl) <| rv_nil) rfl ⟨rfl, hS⟩
              · replace hm := if_f hm hb
                refine wp_skip ?_
                refine block_n ?_
                refine block_n ?_
                refine then_n ?_
                have hS := hS.pickN 2 [1, 0] (by decide)
                exact ⟨r2.2.1, r2.2.2.1, r2.2.2.2.1, r2.2.2.2.2.1, r2.2.2.2.2.2.1, r2.2.2.2.2.2.2.1, r2.2.2.2.2.2.2.2, hF.weak [2, 4, 23, 24, 25] (by kernel_rfl), hS, hm⟩
      · refine cond_ev (t := 26) (b := decide (z3 < (calls1.length : Int))) hF (by kernel_rfl) (fun hb => ?_) (fun hb => ?_)
        · replace hm := if_t hm hb
          refine wp_skip ?_
          refine then_n ?_
          exact ⟨hF.weak [2, 4, 23, 24, 25] (by kernel_rfl), hS, hm⟩
        · replace hm := if_f hm hb
          refine wp_exit ?_
          refine then_e (then_e (block_e (then_n ?_)))
          rw [← hφ3] at hm
          have hm : (bridge_Auction_J6 a5 a6 a7 a8 a9 a10 a11).bind some = some r := hm
          exact ⟨a5, a6, a7, a8, a9, a10, a11, hF.weak [2, 4] (by kernel_rfl), hS, hm⟩
  · refine reg [] [] [0, 2, 4, 10] [pl 0 (.slice A1 calls1.length c1), pl 2 (.pointer (some ⟨g1, 0, none⟩)), pl 4 (.pointer (some ⟨g2, 0, none⟩)), pl 10 (.int .i64 0)] hF hS Fol (by kernel_rfl) (by kernel_rfl) (by kernel_rfl) ?_ (fun a w hF hS => ?_)
    · exact obs_nil
    refine wp_block ?_
    have hS := hS.pickN 2 [1, 0] (by decide)
    refine wp_loop_model (S := (List Int × Int)) (R := (List Int)) bridge_Auction_L1 (fun x => ((bridge_Auction_K1 calls1) x).bind some) r (fun (x : (List Int × Int)) a w => Fr 75 [pl 0 (.slice A1 calls1.length c1), pl 2 (.pointer (some ⟨g1, 0, none⟩)), pl 4 (.pointer (some ⟨g2, 0, none⟩)), pl 10 (.int .i64 x.2)] a ∧ Sep w0 B w (blk g1 47 #[.int .i64 0, .int .i64 0, .int .i64 0, .int .i64 0] :: blk g2 110 (List.toArray (([.int .i64 (-1), .int .i64 0, .int .i64 0, .int .i64 0, .int .i64 0] : List Value) ++ (arr1 (Value.int .i64) (0 : Int) 10 x.1 ++ ([.int .i64 0] : List Value)))) :: fs)) (assoc_b hm) ⟨hF.weak [0, 2, 4, 10] (by kernel_rfl), hS⟩ ?_
    clear hF hS hm
    rintro nn1 ⟨a1, z1⟩ a w ⟨hF, hS⟩ hm
    generalize hφ1 : stK bridge_Auction_L1 nn1 (fun x => ((bridge_Auction_K1 calls1) x).bind some) = φ1 at hm
    unfold bridge_Auction_L1 at hm
    dsimp only at hF hS hm
    refine reg [] [] [0, 2, 4, 10, 11] [pl 0 (.slice A1 calls1.length c1), pl 2 (.pointer (some ⟨g1, 0, none⟩)), pl 4 (.pointer (some ⟨g2, 0, none⟩)), pl 10 (.int .i64 z1), pl 11 (.bool (decide (z1 < 2)))] hF hS Fol (by kernel_rfl) (by kernel_rfl) (by kernel_rfl) ?_ (fun a w hF hS => ?_)
    · exact obs_nil
    refine seq_cut (fun a w => Fr 75 [pl 0 (.slice A1 calls1.length c1), pl 2 (.pointer (some ⟨g1, 0, none⟩)), pl 4 (.pointer (some ⟨g2, 0, none⟩)), pl 10 (.int .i64 z1)] a ∧ Sep w0 B w (blk g1 47 #[.int .i64 0, .int .i64 0, .int .i64 0, .int .i64 0] :: blk g2 110 (List.toArray (([.int .i64 (-1), .int .i64 0, .int .i64 0, .int .i64 0, .int .i64 0] : List Value) ++ (arr1 (Value.int .i64) (0 : Int) 10 a1 ++ ([.int .i64 0] : List Value)))) :: fs) ∧ ((bridge_Auction_J2 a1 z1)).bind φ1 = some r) ?_ ?_
    · rintro a w ⟨hF, hS, hm⟩
      unfold bridge_Auction_J2 at hm
      refine seq_cut (fun a w => ∃ (a4 : List Int), Fr 75 [pl 0 (.slice A1 calls1.length c1), pl 2 (.pointer (some ⟨g1, 0, none⟩)), pl 4 (.pointer (some ⟨g2, 0, none⟩)), pl 10 (.int .i64 z1)] a ∧ Sep w0 B w (blk g1 47 #[.int .i64 0, .int .i64 0, .int .i64 0, .int .i64 0] :: blk g2 110 (List.toArray (([.int .i64 (-1), .int .i64 0, .int .i64 0, .int .i64 0, .int .i64 0] : List Value) ++ (arr1 (Value.int .i64) (0 : Int) 10 a4 ++ ([.int .i64 0] : List Value)))) :: fs) ∧ ((bridge_Auction_J3 z1) a4).bind φ1 = some r) ?_ ?_
      · rintro a w ⟨a4, hF, hS, hm⟩
        unfold bridge_Auction_J3 at hm
        refine reg1 [] [] [0, 2, 4, 10] [pl 0 (.slice A1 calls1.length c1), pl 2 (.pointer (some ⟨g1, 0, none⟩)), pl 4 (.pointer (some ⟨g2, 0, none⟩)), pl 10 (.int .i64 (w64 (z1 + 1)))] hF hS Fol (by kernel_rfl) (by kernel_rfl) (by kernel_rfl) ?_ (fun a w hF hS => ?_)
        · exact obs_nil
        refine then_n ?_
        rw [← hφ1] at hm
        exact ⟨(a4, (w64 (z1 + 1))), ⟨hF.weak [0, 2, 4, 10] (by kernel_rfl), hS⟩, hm⟩
      · refine wp_block ?_
        refine reg [] [] [0, 2, 4, 5, 10] [pl 0 (.slice A1 calls1.length c1), pl 2 (.pointer (some ⟨g1, 0, none⟩)), pl 4 (.pointer (some ⟨g2, 0, none⟩)), pl 5 (.int .i64 z1), pl 10 (.int .i64 z1)] hF hS Fol (by kernel_rfl) (by kernel_rfl) (by kernel_rfl) ?_ (fun a w hF hS => ?_)
        · exact obs_nil
        refine reg [] [] [0, 2, 4, 5, 10, 13] [pl 0 (.slice A1 calls1.length c1), pl 2 (.pointer (some ⟨g1, 0, none⟩)), pl 4 (.pointer (some ⟨g2, 0, none⟩)), pl 5 (.int .i64 z1), pl 10 (.int .i64 z1), pl 13 (.int .i64 0)] hF hS Fol (by kernel_rfl) (by kernel_rfl) (by kernel_rfl) ?_ (fun a w hF hS => ?_)
        · exact obs_nil
        refine wp_block ?_
        refine wp_loop_model (S := (List Int × Int)) (R := (List Int)) (bridge_Auction_L2 z1) (fun x => ((bridge_Auction_K2 z1) x).bind φ1) r (fun (x : (List Int × Int)) a w => Fr 75 [pl 0 (.slice A1 calls1.length c1), pl 2 (.pointer (some ⟨g1, 0, none⟩)), pl 4 (.pointer (some ⟨g2, 0, none⟩)), pl 5 (.int .i64 z1), pl 10 (.int .i64 z1), pl 13 (.int .i64 x.2)] a ∧ Sep w0 B w (blk g1 47 #[.int .i64 0, .int .i64 0, .int .i64 0, .int .i64 0] :: blk g2 110 (List.toArray (([.int .i64 (-1), .int .i64 0, .int .i64 0, .int .i64 0, .int .i64 0] : List Value) ++ (arr1 (Value.int .i64) (0 : Int) 10 x.1 ++ ([.int .i64 0] : List Value)))) :: fs)) (assoc_b hm) ⟨hF.weak [0, 2, 4, 5, 10, 13] (by kernel_rfl), hS⟩ ?_
        clear hF hS hm
        rintro nn2 ⟨a3, z2⟩ a w ⟨hF, hS⟩ hm
        generalize hφ2 : stK (bridge_Auction_L2 z1) nn2 (fun x => ((bridge_Auction_K2 z1) x).bind φ1) = φ2 at hm
        unfold bridge_Auction_L2 at hm
        dsimp only at hF hS hm
        refine reg [] [] [0, 2, 4, 5, 10, 13, 14] [pl 0 (.slice A1 calls1.length c1), pl 2 (.pointer (some ⟨g1, 0, none⟩)), pl 4 (.pointer (some ⟨g2, 0, none⟩)), pl 5 (.int .i64 z1), pl 10 (.int .i64 z1), pl 13 (.int .i64 z2), pl 14 (.bool (decide (z2 < 5)))] hF hS Fol (by kernel_rfl) (by kernel_rfl) (by kernel_rfl) ?_ (fun a w hF hS => ?_)
        · exact obs_nil
        refine seq_cut (fun a w => Fr 75 [pl 0 (.slice A1 calls1.length c1), pl 2 (.pointer (some ⟨g1, 0, none⟩)), pl 4 (.pointer (some ⟨g2, 0, none⟩)), pl 5 (.int .i64 z1), pl 10 (.int .i64 z1), pl 13 (.int .i64 z2)] a ∧ Sep w0 B w (blk g1 47 #[.int .i64 0, .int .i64 0, .int .i64 0, .int .i64 0] :: blk g2 110 (List.toArray (([.int .i64 (-1), .int .i64 0, .int .i64 0, .int .i64 0, .int .i64 0] : List Value) ++ (arr1 (Value.int .i64) (0 : Int) 10 a3 ++ ([.int .i64 0] : List Value)))) :: fs) ∧ ((bridge_Auction_J4 z1 a3 z2)).bind φ2 = some r) ?_ ?_
        · rintro a w ⟨hF, hS, hm⟩
          unfold bridge_Auction_J4 at hm
          refine seq_cut (fun a w => Fr 75 [pl 0 (.slice A1 calls1.length c1), pl 2 (.pointer (some ⟨g1, 0, none⟩)), pl 4 (.pointer (some ⟨g2, 0, none⟩)), pl 5 (.int .i64 z1), pl 10 (.int .i64 z1), pl 13 (.int .i64 z2)] a ∧ Sep w0 B w (blk g1 47 #[.int .i64 0, .int .i64 0, .int .i64 0, .int .i64 0] :: blk g2 110 (List.toArray (([.int .i64 (-1), .int .i64 0, .int .i64 0, .int .i64 0, .int .i64 0] : List Value) ++ (arr1 (Value.int .i64) (0 : Int) 10 (a3.set (Int.toNat (z1 * 5 + z2)) (-1)) ++ ([.int .i64 0] : List Value)))) :: fs) ∧ ((bridge_Auction_J5 z1 a3 z2)).bind φ2 = some r) ?_ ?_
          · rintro a w ⟨hF, hS, hm⟩
            unfold bridge_Auction_J5 at hm
            refine reg1 [] [] [0, 2, 4, 5, 10, 13] [pl 0 (.slice A1 calls1.length c1), pl 2 (.pointer (some ⟨g1, 0, none⟩)), pl 4 (.pointer (some ⟨g2, 0, none⟩)), pl 5 (.int .i64 z1), pl 10 (.int .i64 z1), pl 13 (.int .i64 (w64 (z2 + 1)))] hF hS Fol (by kernel_rfl) (by kernel_rfl) (by kernel_rfl) ?_ (fun a w hF hS => ?_)
            · exact obs_nil
            refine then_n ?_
            rw [← hφ2] at hm
            exact ⟨((a3.set (Int.toNat (z1 * 5 + z2)) (-1)), (w64 (z2 + 1))), ⟨hF.weak [0, 2, 4, 5, 10, 13] (by kernel_rfl), hS⟩, hm⟩
          · refine wp_block ?_
            refine reg [] [] [0, 2, 4, 5, 6, 10, 13] [pl 0 (.slice A1 calls1.length c1), pl 2 (.pointer (some ⟨g1, 0, none⟩)), pl 4 (.pointer (some ⟨g2, 0, none⟩)), pl 5 (.int .i64 z1), pl 6 (.int .i64 z2), pl 10 (.int .i64 z1), pl 13 (.int .i64 z2)] hF hS Fol (by kernel_rfl) (by kernel_rfl) (by kernel_rfl) ?_ (fun a w hF hS => ?_)
            · exact obs_nil
            refine oneR ?_
            obtain ⟨hp1, hm⟩ := asrt_b hm
            obtain ⟨hp2, hm⟩ := asrt_b hm
            obtain ⟨hp3, hm⟩ := asrt_b hm
            refine at_run 5 [⟨true, [], vS (Instr.indexAt 108 (.pointer (some ⟨g2, 5, none⟩)) (.int .i64 z1)), .pointer (some ((⟨g2, 5, none⟩ : Addr).add (Int.toNat z1 * 5)))⟩, ⟨true, [], vS (Instr.indexAt 107 (.pointer (some ((⟨g2, 5, none⟩ : Addr).add (Int.toNat z1 * 5)))) (.int .i64 z2)), .pointer (some ((⟨g2, 5, none⟩ : Addr).add (Int.toNat z1 * 5 + Int.toNat z2 * 1)))⟩] [none, none, none, some (.pointer (some ((⟨g2, 5, none⟩ : Addr).add (Int.toNat z1 * 5)))), some (.pointer (some ((⟨g2, 5, none⟩ : Addr).add (Int.toNat z1 * 5 + Int.toNat z2 * 1))))] [0, 2, 4, 5, 10, 13, 20] [pl 0 (.slice A1 calls1.length c1), pl 2 (.pointer (some ⟨g1, 0, none⟩)), pl 4 (.pointer (some ⟨g2, 0, none⟩)), pl 5 (.int .i64 z1), pl 10 (.int .i64 z1), pl 13 (.int .i64 z2), pl 20 (.pointer (some ((⟨g2, 5, none⟩ : Addr).add (Int.toNat z1 * 5 + Int.toNat z2 * 1))))] hF hS (by kernel_rfl) (by kernel_rfl) ?_ (fun a w hF hS => ?_)
            · exact obs_cons (ob_ixA UndA108 hi107 hs107 (fun _ => hp1)) <| obs_cons (ob_ixA2 UndA107 hi3 hs3 (fun _ => hp2)) <| obs_nil
            obtain ⟨w, hrun, hS⟩ := run_setA (P := Try.prog) (t := 3) (x := (-1)) (i := (z1 * 5 + z2)) (m := a3) (d := Int.toNat z1 * 5 + Int.toNat z2 * 1) (Value.int .i64) (0 : Int) 10 ([.int .i64 (-1), .int .i64 0, .int .i64 0, .int .i64 0, .int .i64 0] : List Value) ([.int .i64 0] : List Value) (hS.at_ 1 rfl) rfl hi3 hs3 rfl (by have h0 := hp1; have h1 := hp2; omega) (by have h0 := hp1; have h1 := hp2; have h9 := hp3; omega)
            refine at_skip hF (by kernel_rfl) hrun ?_
            have hS : Sep w0 B w (blk g1 47 #[.int .i64 0, .int .i64 0, .int .i64 0, .int .i64 0] :: blk g2 110 (List.toArray (([.int .i64 (-1), .int .i64 0, .int .i64 0, .int .i64 0, .int .i64 0] : List Value) ++ (arr1 (Value.int .i64) (0 : Int) 10 (a3.set (Int.toNat (z1 * 5 + z2)) (-1)) ++ ([.int .i64 0] : List Value)))) :: fs) := hS
            refine at_end [0, 2, 4, 5, 10, 13] [pl 0 (.slice A1 calls1.length c1), pl 2 (.pointer (some ⟨g1, 0, none⟩)), pl 4 (.pointer (some ⟨g2, 0, none⟩)), pl 5 (.int .i64 z1), pl 10 (.int .i64 z1), pl 13 (.int .i64 z2)] hF rfl (by kernel_rfl) (fun hF => ?_)
            refine block_n ?_
            refine then_n ?_
            exact ⟨hF.weak [0, 2, 4, 5, 10, 13] (by kernel_rfl), hS, hm⟩
        · refine cond_ev (t := 14) (b := decide (z2 < 5)) hF (by kernel_rfl) (fun hb => ?_) (fun hb => ?_)
          · replace hm := if_t hm hb
            refine wp_skip ?_
            refine then_n ?_
            exact ⟨hF.weak [0, 2, 4, 5, 10, 13] (by kernel_rfl), hS, hm⟩
          · replace hm := if_f hm hb
            refine wp_exit ?_
            refine then_e (then_e (block_e (block_n (then_n ?_))))
            rw [← hφ2] at hm
            have hm : ((bridge_Auction_J3 z1) a3).bind φ1 = some r := hm
            exact ⟨a3, hF.weak [0, 2, 4, 10] (by kernel_rfl), hS, hm⟩
    · refine cond_ev (t := 11) (b := decide (z1 < 2)) hF (by kernel_rfl) (fun hb => ?_) (fun hb => ?_)
      · replace hm := if_t hm hb
        refine wp_skip ?_
        refine then_n ?_
        exact ⟨hF.weak [0, 2, 4, 10] (by kernel_rfl), hS, hm⟩
      · replace hm := if_f hm hb
        refine wp_exit ?_
        refine then_e (then_e (block_e (then_n ?_)))
        rw [← hφ1] at hm
        have hm : ((bridge_Auction_J1 calls1) a1).bind some = some r := hm
        exact ⟨a1, hF.weak [0, 2, 4] (by kernel_rfl), hS, hm⟩

noncomputable def gameroomref_within_m (n1 : Int) (low1 : Int) (high1 : Int) : Option Bool :=
  some ((decide (low1 ≤ n1)) && (decide (n1 ≤ high1)))

set_option maxRecDepth 100000 in
set_option maxHeartbeats 4000000 in
theorem gameroomref_within_w {n1 : Int} {low1 : Int} {high1 : Int} {r : Bool} {w0 w : World} {B : Nat} {fs : List HP} (hm : gameroomref_within_m n1 low1 high1 = some r) (hS : Sep w0 B w (fs)) :
    Calls Try.prog 60 #[.int .i64 n1, .int .i64 low1, .int .i64 high1] w fun e w' => e = .returned (.bool r) ∧ Sep w0 B w' (fs) := by
  unfold gameroomref_within_m at hm
  replace hm := start_b hm
  refine enter (l := [.int .i64 n1, .int .i64 low1, .int .i64 high1]) (n := 15) Try.func60 rfl rfl (by simp) (fun a hF => ?_)
  refine reg [] [] [0, 1, 2] [pl 0 (.int .i64 n1), pl 1 (.int .i64 low1), pl 2 (.int .i64 high1)] hF hS Fol (by kernel_rfl) (by kernel_rfl) (by kernel_rfl) ?_ (fun a w hF hS => ?_)
  · exact obs_nil
  refine reg [] [] [6] [pl 6 (.bool ((decide (low1 ≤ n1)) && (decide (n1 ≤ high1))))] hF hS Fol (by kernel_rfl) (by kernel_rfl) (by kernel_rfl) ?_ (fun a w hF hS => ?_)
  · exact obs_nil
  refine wp_ret ?_
  have hm : some ((decide (low1 ≤ n1)) && (decide (n1 ≤ high1))) = some r := hm
  obtain rfl := Option.some.inj hm
  exact retV (rs := [.tmp 6]) (vs := [.bool ((decide (low1 ≤ n1)) && (decide (n1 ≤ high1)))]) hF rfl (rv_t (by kernel_rfl) <| rv_nil) rfl ⟨rfl, hS⟩

noncomputable def gameroomref_auctionOver_J4 (i1 : Int) : Option (St Int (Fl Unit Bool)) :=
  some (.next (w64 (i1 + 1)))

noncomputable def gameroomref_auctionOver_J3 (calls1 : List Int) (i1 : Int) : Option (St Int (Fl Unit Bool)) :=
  asrt (0 ≤ i1 ∧ i1 < (calls1.length : Int)) <| if ((geti calls1 i1) != 0) then (some (.done (.ret false))) else ((gameroomref_auctionOver_J4 i1))

noncomputable def gameroomref_auctionOver_J2 : Option Bool :=
  some true

noncomputable def gameroomref_auctionOver_K1 : (Fl Unit Bool) → Option Bool :=
  fun (x : (Fl Unit Bool)) => match x with | .go _ => gameroomref_auctionOver_J2 | .ret x => some x

noncomputable def gameroomref_auctionOver_L1 (calls1 : List Int) : Int → Option (St Int (Fl Unit Bool)) :=
  fun (x : Int) => match x with | i1 => if (decide (i1 < (calls1.length : Int))) then ((gameroomref_auctionOver_J3 calls1 i1)) else (some (.done (.go ())))

noncomputable def gameroomref_auctionOver_J1 (calls1 : List Int) : Option Bool :=
  (loop (gameroomref_auctionOver_L1 calls1) (w64 ((calls1.length : Int) - 3))).bind gameroomref_auctionOver_K1

noncomputable def gameroomref_auctionOver_m (calls1 : List Int) : Option Bool :=
  if (decide ((calls1.length : Int) < 4)) then (some false) else ((gameroomref_auctionOver_J1 calls1))

set_option maxRecDepth 100000 in
set_option maxHeartbeats 4000000 in
theorem gameroomref_auctionOver_w {A1 : Option Addr} {c1 : Nat} {n1 : Nat} {calls1 : List Int} {r : Bool} {w0 w : World} {B : Nat} {fs : List HP} (hm : gameroomref_auctionOver_m calls1 = some r) (hS : Sep w0 B w (fs)) (hr_calls1 : RdF w0 B fs A1 (vI calls1)) (_hc_calls1 : calls1.length ≤ c1) (_hn_calls1 : n1 = calls1.length) :
    Calls Try.prog 82 #[.slice A1 n1 c1] w fun e w' => e = .returned (.bool r) ∧ Sep w0 B w' (fs) := by
  obtain ⟨i3, hi3, hz3, hs3, hb3⟩ := info_parts Info3
  obtain rfl := _hn_calls1
  unfold gameroomref_auctionOver_m at hm
  replace hm := start_b hm
  refine enter (l := [.slice A1 calls1.length c1]) (n := 21) Try.func82 rfl rfl (by simp) (fun a hF => ?_)
  refine reg [] [] [0] [pl 0 (.slice A1 calls1.length c1)] hF hS Fol (by kernel_rfl) (by kernel_rfl) (by kernel_rfl) ?_ (fun a w hF hS => ?_)
  · exact obs_nil
  refine reg [] [] [0, 3] [pl 0 (.slice A1 calls1.length c1), pl 3 (.int .i64 (calls1.length : Int))] hF hS Fol (by kernel_rfl) (by kernel_rfl) (by kernel_rfl) ?_ (fun a w hF hS => ?_)
  · exact obs_nil
  refine seq_cut (fun a w => Fr 21 [pl 0 (.slice A1 calls1.length c1), pl 3 (.int .i64 (calls1.length : Int))] a ∧ Sep w0 B w (fs) ∧ ((gameroomref_auctionOver_J1 calls1)).bind some = some r) ?_ ?_
  · rintro a w ⟨hF, hS, hm⟩
    unfold gameroomref_auctionOver_J1 at hm
    refine seq_cut (fun a w => Fr 21 [] a ∧ Sep w0 B w (fs) ∧ (gameroomref_auctionOver_J2).bind some = some r) ?_ ?_
    · rintro a w ⟨hF, hS, hm⟩
      unfold gameroomref_auctionOver_J2 at hm
      refine reg [] [] [2] [pl 2 (.bool true)] hF hS Fol (by kernel_rfl) (by kernel_rfl) (by kernel_rfl) ?_ (fun a w hF hS => ?_)
      · exact obs_nil
      refine wp_ret ?_
      have hm : some true = some r := hm
      obtain rfl := Option.some.inj hm
      exact retV (rs := [.tmp 2]) (vs := [.bool true]) hF rfl (rv_t (by kernel_rfl) <| rv_nil) rfl ⟨rfl, hS⟩
    · refine reg [] [] [0, 3, 4] [pl 0 (.slice A1 calls1.length c1), pl 3 (.int .i64 (calls1.length : Int)), pl 4 (.int .i64 (w64 ((calls1.length : Int) - 3)))] hF hS Fol (by kernel_rfl) (by kernel_rfl) (by kernel_rfl) ?_ (fun a w hF hS => ?_)
      · exact obs_nil
      refine wp_block ?_
      refine wp_loop_model (S := Int) (R := (Fl Unit Bool)) (gameroomref_auctionOver_L1 calls1) (fun x => (gameroomref_auctionOver_K1 x).bind some) r (fun (x : Int) a w => Fr 21 [pl 0 (.slice A1 calls1.length c1), pl 3 (.int .i64 (calls1.length : Int)), pl 4 (.int .i64 x)] a ∧ Sep w0 B w (fs)) (assoc_b hm) ⟨hF.weak [0, 3, 4] (by kernel_rfl), hS⟩ ?_
      clear hF hS hm
      rintro nn1 i1 a w ⟨hF, hS⟩ hm
      generalize hφ1 : stK (gameroomref_auctionOver_L1 calls1) nn1 (fun x => (gameroomref_auctionOver_K1 x).bind some) = φ1 at hm
      unfold gameroomref_auctionOver_L1 at hm
      dsimp only at hm
      refine seq_cut (fun a w => Fr 21 [pl 0 (.slice A1 calls1.length c1), pl 3 (.int .i64 (calls1.length : Int)), pl 4 (.int .i64 i1)] a ∧ Sep w0 B w (fs) ∧ ((gameroomref_auctionOver_J3 calls1 i1)).bind φ1 = some r) ?_ ?_
      · rintro a w ⟨hF, hS, hm⟩
        unfold gameroomref_auctionOver_J3 at hm
        refine seq_cut (fun a w => Fr 21 [pl 0 (.slice A1 calls1.length c1), pl 3 (.int .i64 (calls1.length : Int)), pl 4 (.int .i64 i1)] a ∧ Sep w0 B w (fs) ∧ ((gameroomref_auctionOver_J4 i1)).bind φ1 = some r) ?_ ?_
        · rintro a w ⟨hF, hS, hm⟩
          unfold gameroomref_auctionOver_J4 at hm
          refine reg1 [] [] [0, 3, 4] [pl 0 (.slice A1 calls1.length c1), pl 3 (.int .i64 (calls1.length : Int)), pl 4 (.int .i64 (w64 (i1 + 1)))] hF hS Fol (by kernel_rfl) (by kernel_rfl) (by kernel_rfl) ?_ (fun a w hF hS => ?_)
          · exact obs_nil
          refine then_n ?_
          rw [← hφ1] at hm
          exact ⟨(w64 (i1 + 1)), ⟨hF.weak [0, 3, 4] (by kernel_rfl), hS⟩, hm⟩
        · refine wp_block ?_
          obtain ⟨hp1, hm⟩ := asrt_b hm
          refine reg [⟨true, [], vS (Instr.indexAt 22 (.slice A1 calls1.length c1) (.int .i64 i1)), .pointer (some (sAddr A1 i1))⟩, ⟨false, [], vS (Instr.loadAt 3 (.pointer (some (sAddr A1 i1)))), .int .i64 (geti calls1 i1)⟩] [none, none, some (.pointer (some (sAddr A1 i1))), some (.int .i64 (geti calls1 i1)), none] [0, 3, 4, 20] [pl 0 (.slice A1 calls1.length c1), pl 3 (.int .i64 (calls1.length : Int)), pl 4 (.int .i64 i1), pl 20 (.bool ((geti calls1 i1) != 0))] hF hS Fol (by kernel_rfl) (by kernel_rfl) (by kernel_rfl) ?_ (fun a w hF hS => ?_)
          · exact obs_cons (ob_ix1 (f := (Value.int .i64)) (m := calls1) Und22 hi3 hs3 (hr_calls1 _ (hS.dropN 0)) rfl (fun _ => hp1)) <| obs_cons (ob_get1 (n := calls1.length) (m := calls1) (Value.int .i64) (0 : Int) Agg3 (fun _ hS => ⟨_, (hr_calls1 _ (hS.dropN 0))⟩) (fun _ hS => rfl) (fun _ => hp1)) <| obs_nil
          refine cond_ev (t := 20) (b := ((geti calls1 i1) != 0)) hF (by kernel_rfl) (fun hb => ?_) (fun hb => ?_)
          · replace hm := if_t hm hb
            refine reg [] [] [2] [pl 2 (.bool false)] hF hS Fol (by kernel_rfl) (by kernel_rfl) (by kernel_rfl) ?_ (fun a w hF hS => ?_)
            · exact obs_nil
            refine wp_ret ?_
            refine block_r (then_r (then_r (block_r (then_r ?_))))
            rw [← hφ1] at hm
            have hm : some false = some r := hm
            obtain rfl := Option.some.inj hm
            exact retV (rs := [.tmp 2]) (vs := [.bool false]) hF rfl (rv_t (by kernel_rfl) <| rv_nil) rfl ⟨rfl, hS⟩
          · replace hm := if_f hm hb
            refine wp_skip ?_
            refine block_n ?_
            refine then_n ?_
            exact ⟨hF.weak [0, 3, 4] (by kernel_rfl), hS, hm⟩
      · refine reg [] [] [0, 3, 4, 13] [pl 0 (.slice A1 calls1.length c1), pl 3 (.int .i64 (calls1.length : Int)), pl 4 (.int .i64 i1), pl 13 (.bool (decide (i1 < (calls1.length : Int))))] hF hS Fol (by kernel_rfl) (by kernel_rfl) (by kernel_rfl) ?_ (fun a w hF hS => ?_)
        · exact obs_nil
        refine cond_ev (t := 13) (b := decide (i1 < (calls1.length : Int))) hF (by kernel_rfl) (fun hb => ?_) (fun hb => ?_)
        · replace hm := if_t hm hb
          refine wp_skip ?_
          refine then_n ?_
          exact ⟨hF.weak [0, 3, 4] (by kernel_rfl), hS, hm⟩
        · replace hm := if_f hm hb
          refine wp_exit ?_
          refine then_e (then_e (block_e (then_n ?_)))
          rw [← hφ1] at hm
          have hm : (gameroomref_auctionOver_J2).bind some = some r := hm
          exact ⟨hF.weak [] (by kernel_rfl), hS, hm⟩
  · refine reg [] [] [0, 3, 8] [pl 0 (.slice A1 calls1.length c1), pl 3 (.int .i64 (calls1.length : Int)), pl 8 (.bool (decide ((calls1.length : Int) < 4)))] hF hS Fol (by kernel_rfl) (by kernel_rfl) (by kernel_rfl) ?_ (fun a w hF hS => ?_)
    · exact obs_nil
    refine cond_ev (t := 8) (b := decide ((calls1.length : Int) < 4)) hF (by kernel_rfl) (fun hb => ?_) (fun hb => ?_)
    · replace hm := if_t hm hb
      refine reg [] [] [2] [pl 2 (.bool false)] hF hS Fol (by kernel_rfl) (by kernel_rfl) (by kernel_rfl) ?_ (fun a w hF hS => ?_)
      · exact obs_nil
      refine wp_ret ?_
      refine then_r ?_
      have hm : some false = some r := hm
      obtain rfl := Option.some.inj hm
      exact retV (rs := [.tmp 2]) (vs := [.bool false]) hF rfl (rv_t (by kernel_rfl) <| rv_nil) rfl ⟨rfl, hS⟩
    · replace hm := if_f hm hb
      refine wp_skip ?_
      refine then_n ?_
      exact ⟨hF.weak [0, 3] (by kernel_rfl), hS, hm⟩

noncomputable def gameroomref_callMay_J3 (last1 : Int) : Option (St Int Int) :=
  some (.next (w64 (last1 - 1)))

noncomputable def gameroomref_callMay_J8 (i1 : Int) : Option (St Int (Fl Unit Bool)) :=
  some (.next (w64 (i1 + 1)))

noncomputable def gameroomref_callMay_J7 (calls1 : List Int) (c2 : Int) (i1 : Int) : Option (St Int (Fl Unit Bool)) :=
  asrt (0 ≤ i1 ∧ i1 < (calls1.length : Int)) <| if (decide (c2 ≤ (geti calls1 i1))) then (some (.done (.ret false))) else ((gameroomref_callMay_J8 i1))

noncomputable def gameroomref_callMay_L2 (calls1 : List Int) (c2 : Int) : Int → Option (St Int (Fl Unit Bool)) :=
  fun (x : Int) => match x with | i1 => if (decide (i1 < (calls1.length : Int))) then ((gameroomref_callMay_J7 calls1 c2 i1)) else (some (.done (.go ())))

noncomputable def gameroomref_callMay_J6 : Option Bool :=
  some true

noncomputable def gameroomref_callMay_K2 : (Fl Unit Bool) → Option Bool :=
  fun (x : (Fl Unit Bool)) => match x with | .go _ => gameroomref_callMay_J6 | .ret x => some x

noncomputable def gameroomref_callMay_J5 (calls1 : List Int) (c2 : Int) : Option Bool :=
  (loop (gameroomref_callMay_L2 calls1 c2) 0).bind gameroomref_callMay_K2

noncomputable def gameroomref_callMay_J4 (calls1 : List Int) (c2 : Int) (last2 : Int) : Option Bool :=
  if (c2 == 2) then (asrt (((decide ((0 : Int) ≤ last2)) && ((Int.tmod (w64 ((calls1.length : Int) - last2)) 2) == 1)) = true → 0 ≤ last2 ∧ last2 < (calls1.length : Int)) <| some (((decide ((0 : Int) ≤ last2)) && ((Int.tmod (w64 ((calls1.length : Int) - last2)) 2) == 1)) && ((geti calls1 last2) == 1))) else ((gameroomref_callMay_J5 calls1 c2))

noncomputable def gameroomref_callMay_J2 (calls1 : List Int) (c2 : Int) (last2 : Int) : Option Bool :=
  if (c2 == 1) then (asrt (((decide ((0 : Int) ≤ last2)) && ((Int.tmod (w64 ((calls1.length : Int) - last2)) 2) == 1)) = true → 0 ≤ last2 ∧ last2 < (calls1.length : Int)) <| some (((decide ((0 : Int) ≤ last2)) && ((Int.tmod (w64 ((calls1.length : Int) - last2)) 2) == 1)) && (decide ((3 : Int) ≤ (geti calls1 last2))))) else ((gameroomref_callMay_J4 calls1 c2 last2))

noncomputable def gameroomref_callMay_K1 (calls1 : List Int) (c2 : Int) : Int → Option Bool :=
  fun (x : Int) => match x with | last2 => (gameroomref_callMay_J2 calls1 c2) last2

noncomputable def gameroomref_callMay_L1 (calls1 : List Int) : Int → Option (St Int Int) :=
  fun (x : Int) => match x with | last1 => asrt ((decide ((0 : Int) ≤ last1)) = true → 0 ≤ last1 ∧ last1 < (calls1.length : Int)) <| if ((decide ((0 : Int) ≤ last1)) && ((geti calls1 last1) == 0)) then ((gameroomref_callMay_J3 last1)) else (some (.done last1))

noncomputable def gameroomref_callMay_J1 (calls1 : List Int) (c2 : Int) : Option Bool :=
  (loop (gameroomref_callMay_L1 calls1) (w64 ((calls1.length : Int) - 1))).bind (gameroomref_callMay_K1 calls1 c2)

noncomputable def gameroomref_callMay_m (calls1 : List Int) (c2 : Int) : Option Bool :=
  if (c2 == 0) then (some true) else ((gameroomref_callMay_J1 calls1 c2))

set_option maxRecDepth 100000 in
set_option maxHeartbeats 4000000 in
theorem gameroomref_callMay_w {A1 : Option Addr} {c1 : Nat} {n1 : Nat} {calls1 : List Int} {c2 : Int} {r : Bool} {w0 w : World} {B : Nat} {fs : List HP} (hm : gameroomref_callMay_m calls1 c2 = some r) (hS : Sep w0 B w (fs)) (hr_calls1 : RdF w0 B fs A1 (vI calls1)) (_hc_calls1 : calls1.length ≤ c1) (_hn_calls1 : n1 = calls1.length) :
    Calls Try.prog 83 #[.slice A1 n1 c1, .int .i64 c2] w fun e w' => e = .returned (.bool r) ∧ Sep w0 B w' (fs) := by
  obtain ⟨i3, hi3, hz3, hs3, hb3⟩ := info_parts Info3
  obtain rfl := _hn_calls1
  unfold gameroomref_callMay_m at hm
  replace hm := start_b hm
  refine enter (l := [.slice A1 calls1.length c1, .int .i64 c2]) (n := 66) Try.func83 rfl rfl (by simp) (fun a hF => ?_)
  refine reg [] [] [0, 1] [pl 0 (.slice A1 calls1.length c1), pl 1 (.int .i64 c2)] hF hS Fol (by kernel_rfl) (by kernel_rfl) (by kernel_rfl) ?_ (fun a w hF hS => ?_)
  · exact obs_nil
  refine seq_cut (fun a w => Fr 66 [pl 0 (.slice A1 calls1.length c1), pl 1 (.int .i64 c2)] a ∧ Sep w0 B w (fs) ∧ ((gameroomref_callMay_J1 calls1 c2)).bind some = some r) ?_ ?_
  · rintro a w ⟨hF, hS, hm⟩
    unfold gameroomref_callMay_J1 at hm
    refine reg [] [] [0, 1, 5] [pl 0 (.slice A1 calls1.length c1), pl 1 (.int .i64 c2), pl 5 (.int .i64 (w64 ((calls1.length : Int) - 1)))] hF hS Fol (by kernel_rfl) (by kernel_rfl) (by kernel_rfl) ?_ (fun a w hF hS => ?_)
    · exact obs_nil
    refine seq_cut (fun a w => ∃ (last2 : Int), Fr 66 [pl 0 (.slice A1 calls1.length c1), pl 1 (.int .i64 c2), pl 5 (.int .i64 last2)] a ∧ Sep w0 B w (fs) ∧ ((gameroomref_callMay_J2 calls1 c2) last2).bind some = some r) ?_ ?_
    · rintro a w ⟨last2, hF, hS, hm⟩
      unfold gameroomref_callMay_J2 at hm
      refine reg [] [] [0, 1, 5, 6] [pl 0 (.slice A1 calls1.length c1), pl 1 (.int .i64 c2), pl 5 (.int .i64 last2), pl 6 (.bool ((decide ((0 : Int) ≤ last2)) && ((Int.tmod (w64 ((calls1.length : Int) - last2)) 2) == 1)))] hF hS Fol (by kernel_rfl) (by kernel_rfl) (by kernel_rfl) ?_ (fun a w hF hS => ?_)
      · exact obs_nil
      refine seq_cut (fun a w => Fr 66 [pl 0 (.slice A1 calls1.length c1), pl 1 (.int .i64 c2), pl 5 (.int .i64 last2), pl 6 (.bool ((decide ((0 : Int) ≤ last2)) && ((Int.tmod (w64 ((calls1.length : Int) - last2)) 2) == 1)))] a ∧ Sep w0 B w (fs) ∧ ((gameroomref_callMay_J4 calls1 c2 last2)).bind some = some r) ?_ ?_
      · rintro a w ⟨hF, hS, hm⟩
        unfold gameroomref_callMay_J4 at hm
        refine seq_cut (fun a w => Fr 66 [pl 0 (.slice A1 calls1.length c1), pl 1 (.int .i64 c2)] a ∧ Sep w0 B w (fs) ∧ ((gameroomref_callMay_J5 calls1 c2)).bind some = some r) ?_ ?_
        · rintro a w ⟨hF, hS, hm⟩
          unfold gameroomref_callMay_J5 at hm
          refine seq_cut (fun a w => Fr 66 [] a ∧ Sep w0 B w (fs) ∧ (gameroomref_callMay_J6).bind some = some r) ?_ ?_
          · rintro a w ⟨hF, hS, hm⟩
            unfold gameroomref_callMay_J6 at hm
            refine reg [] [] [4] [pl 4 (.bool true)] hF hS Fol (by kernel_rfl) (by kernel_rfl) (by kernel_rfl) ?_ (fun a w hF hS => ?_)
            · exact obs_nil
            refine wp_ret ?_
            have hm : some true = some r := hm
            obtain rfl := Option.some.inj hm
            exact retV (rs := [.tmp 4]) (vs := [.bool true]) hF rfl (rv_t (by kernel_rfl) <| rv_nil) rfl ⟨rfl, hS⟩
          · refine reg [] [] [0, 1, 7] [pl 0 (.slice A1 calls1.length c1), pl 1 (.int .i64 c2), pl 7 (.int .i64 0)] hF hS Fol (by kernel_rfl) (by kernel_rfl) (by kernel_rfl) ?_ (fun a w hF hS => ?_)
            · exact obs_nil
            refine wp_block ?_
            refine wp_loop_model (S := Int) (R := (Fl Unit Bool)) (gameroomref_callMay_L2 calls1 c2) (fun x => (gameroomref_callMay_K2 x).bind some) r (fun (x : Int) a w => Fr 66 [pl 0 (.slice A1 calls1.length c1), pl 1 (.int .i64 c2), pl 7 (.int .i64 x)] a ∧ Sep w0 B w (fs)) (assoc_b hm) ⟨hF.weak [0, 1, 7] (by kernel_rfl), hS⟩ ?_
            clear hF hS hm
            rintro nn2 i1 a w ⟨hF, hS⟩ hm
            generalize hφ2 : stK (gameroomref_callMay_L2 calls1 c2) nn2 (fun x => (gameroomref_callMay_K2 x).bind some) = φ2 at hm
            unfold gameroomref_callMay_L2 at hm
            dsimp only at hm
            refine seq_cut (fun a w => Fr 66 [pl 0 (.slice A1 calls1.length c1), pl 1 (.int .i64 c2), pl 7 (.int .i64 i1)] a ∧ Sep w0 B w (fs) ∧ ((gameroomref_callMay_J7 calls1 c2 i1)).bind φ2 = some r) ?_ ?_
            · rintro a w ⟨hF, hS, hm⟩
              unfold gameroomref_callMay_J7 at hm
              refine seq_cut (fun a w => Fr 66 [pl 0 (.slice A1 calls1.length c1), pl 1 (.int .i64 c2), pl 7 (.int .i64 i1)] a ∧ Sep w0 B w (fs) ∧ ((gameroomref_callMay_J8 i1)).bind φ2 = some r) ?_ ?_
              · rintro a w ⟨hF, hS, hm⟩
                unfold gameroomref_callMay_J8 at hm
                refine reg1 [] [] [0, 1, 7] [pl 0 (.slice A1 calls1.length c1), pl 1 (.int .i64 c2), pl 7 (.int .i64 (w64 (i1 + 1)))] hF hS Fol (by kernel_rfl) (by kernel_rfl) (by kernel_rfl) ?_ (fun a w hF hS => ?_)
                · exact obs_nil
                refine then_n ?_
                rw [← hφ2] at hm
                exact ⟨(w64 (i1 + 1)), ⟨hF.weak [0, 1, 7] (by kernel_rfl), hS⟩, hm⟩
              · refine wp_block ?_
                obtain ⟨hp4, hm⟩ := asrt_b hm
                refine reg [⟨true, [], vS (Instr.indexAt 22 (.slice A1 calls1.length c1) (.int .i64 i1)), .pointer (some (sAddr A1 i1))⟩, ⟨false, [], vS (Instr.loadAt 3 (.pointer (some (sAddr A1 i1)))), .int .i64 (geti calls1 i1)⟩] [none, none, some (.pointer (some (sAddr A1 i1))), some (.int .i64 (geti calls1 i1)), none, none] [0, 1, 7, 65] [pl 0 (.slice A1 calls1.length c1), pl 1 (.int .i64 c2), pl 7 (.int .i64 i1), pl 65 (.bool (decide (c2 ≤ (geti calls1 i1))))] hF hS Fol (by kernel_rfl) (by kernel_rfl) (by kernel_rfl) ?_ (fun a w hF hS => ?_)
                · exact obs_cons (ob_ix1 (f := (Value.int .i64)) (m := calls1) Und22 hi3 hs3 (hr_calls1 _ (hS.dropN 0)) rfl (fun _ => hp4)) <| obs_cons (ob_get1 (n := calls1.length) (m := calls1) (Value.int .i64) (0 : Int) Agg3 (fun _ hS => ⟨_, (hr_calls1 _ (hS.dropN 0))⟩) (fun _ hS => rfl) (fun _ => hp4)) <| obs_nil
                refine cond_ev (t := 65) (b := decide (c2 ≤ (geti calls1 i1))) hF (by kernel_rfl) (fun hb => ?_) (fun hb => ?_)
                · replace hm := if_t hm hb
                  refine reg [] [] [4] [pl 4 (.bool false)] hF hS Fol (by kernel_rfl) (by kernel_rfl) (by kernel_rfl) ?_ (fun a w hF hS => ?_)
                  · exact obs_nil
                  refine wp_ret ?_
                  refine block_r (then_r (then_r (block_r (then_r ?_))))
                  rw [← hφ2] at hm
                  have hm : some false = some r := hm
                  obtain rfl := Option.some.inj hm
                  exact retV (rs := [.tmp 4]) (vs := [.bool false]) hF rfl (rv_t (by kernel_rfl) <| rv_nil) rfl ⟨rfl, hS⟩
                · replace hm := if_f hm hb
                  refine wp_skip ?_
                  refine block_n ?_
                  refine then_n ?_
                  exact ⟨hF.weak [0, 1, 7] (by kernel_rfl), hS, hm⟩
            · refine reg [] [] [0, 1, 7, 57] [pl 0 (.slice A1 calls1.length c1), pl 1 (.int .i64 c2), pl 7 (.int .i64 i1), pl 57 (.bool (decide (i1 < (calls1.length : Int))))] hF hS Fol (by kernel_rfl) (by kernel_rfl) (by kernel_rfl) ?_ (fun a w hF hS => ?_)
              · exact obs_nil
              refine cond_ev (t := 57) (b := decide (i1 < (calls1.length : Int))) hF (by kernel_rfl) (fun hb => ?_) (fun hb => ?_)
              · replace hm := if_t hm hb
                refine wp_skip ?_
                refine then_n ?_
                exact ⟨hF.weak [0, 1, 7] (by kernel_rfl), hS, hm⟩
              · replace hm := if_f hm hb
                refine wp_exit ?_
                refine then_e (then_e (block_e (then_n ?_)))
                rw [← hφ2] at hm
                have hm : (gameroomref_callMay_J6).bind some = some r := hm
                exact ⟨hF.weak [] (by kernel_rfl), hS, hm⟩
        · refine reg [] [] [0, 1, 5, 6, 45] [pl 0 (.slice A1 calls1.length c1), pl 1 (.int .i64 c2), pl 5 (.int .i64 last2), pl 6 (.bool ((decide ((0 : Int) ≤ last2)) && ((Int.tmod (w64 ((calls1.length : Int) - last2)) 2) == 1))), pl 45 (.bool (c2 == 2))] hF hS Fol (by kernel_rfl) (by kernel_rfl) (by kernel_rfl) ?_ (fun a w hF hS => ?_)
          · exact obs_nil
          refine cond_ev (t := 45) (b := (c2 == 2)) hF (by kernel_rfl) (fun hb => ?_) (fun hb => ?_)
          · replace hm := if_t hm hb
            obtain ⟨hp3, hm⟩ := asrt_b hm
            refine reg [⟨true, [((decide ((0 : Int) ≤ last2)) && ((Int.tmod (w64 ((calls1.length : Int) - last2)) 2) == 1), true)], vS (Instr.indexAt 22 (.slice A1 calls1.length c1) (.int .i64 last2)), .pointer (some (sAddr A1 last2))⟩, ⟨false, [((decide ((0 : Int) ≤ last2)) && ((Int.tmod (w64 ((calls1.length : Int) - last2)) 2) == 1), true)], vS (Instr.loadAt 3 (.pointer (some (sAddr A1 last2)))), .int .i64 (geti calls1 last2)⟩] [none, none, none, none, some (.pointer (some (sAddr A1 last2))), some (.int .i64 (geti calls1 last2)), none, none, none] [4] [pl 4 (.bool (((decide ((0 : Int) ≤ last2)) && ((Int.tmod (w64 ((calls1.length : Int) - last2)) 2) == 1)) && ((geti calls1 last2) == 1)))] hF hS Fol (by kernel_rfl) (by kernel_rfl) (by kernel_rfl) ?_ (fun a w hF hS => ?_)
            · exact obs_cons (ob_ix1 (f := (Value.int .i64)) (m := calls1) Und22 hi3 hs3 (hr_calls1 _ (hS.dropN 0)) rfl (fun hy => hp3 (hy ((decide ((0 : Int) ≤ last2)) && ((Int.tmod (w64 ((calls1.length : Int) - last2)) 2) == 1), true) (by simp)))) <| obs_cons (ob_get1 (n := calls1.length) (m := calls1) (Value.int .i64) (0 : Int) Agg3 (fun _ hS => ⟨_, (hr_calls1 _ (hS.dropN 0))⟩) (fun _ hS => rfl) (fun hy => hp3 (hy ((decide ((0 : Int) ≤ last2)) && ((Int.tmod (w64 ((calls1.length : Int) - last2)) 2) == 1), true) (by simp)))) <| obs_nil
            refine wp_ret ?_
            refine then_r ?_
            have hm : some (((decide ((0 : Int) ≤ last2)) && ((Int.tmod (w64 ((calls1.length : Int) - last2)) 2) == 1)) && ((geti calls1 last2) == 1)) = some r := hm
            obtain rfl := Option.some.inj hm
            exact retV (rs := [.tmp 4]) (vs := [.bool (((decide ((0 : Int) ≤ last2)) && ((Int.tmod (w64 ((calls1.length : Int) - last2)) 2) == 1)) && ((geti calls1 last2) == 1))]) hF rfl (rv_t (by kernel_rfl) <| rv_nil) rfl ⟨rfl, hS⟩
          · replace hm := if_f hm hb
            refine wp_skip ?_
            refine then_n ?_
            exact ⟨hF.weak [0, 1] (by kernel_rfl), hS, hm⟩
      · refine reg [] [] [0, 1, 5, 6, 35] [pl 0 (.slice A1 calls1.length c1), pl 1 (.int .i64 c2), pl 5 (.int .i64 last2), pl 6 (.bool ((decide ((0 : Int) ≤ last2)) && ((Int.tmod (w64 ((calls1.length : Int) - last2)) 2) == 1))), pl 35 (.bool (c2 == 1))] hF hS Fol (by kernel_rfl) (by kernel_rfl) (by kernel_rfl) ?_ (fun a w hF hS => ?_)
        · exact obs_nil
        refine cond_ev (t := 35) (b := (c2 == 1)) hF (by kernel_rfl) (fun hb => ?_) (fun hb => ?_)
        · replace hm := if_t hm hb
          obtain ⟨hp2, hm⟩ := asrt_b hm
          refine reg [⟨true, [((decide ((0 : Int) ≤ last2)) && ((Int.tmod (w64 ((calls1.length : Int) - last2)) 2) == 1), true)], vS (Instr.indexAt 22 (.slice A1 calls1.length c1) (.int .i64 last2)), .pointer (some (sAddr A1 last2))⟩, ⟨false, [((decide ((0 : Int) ≤ last2)) && ((Int.tmod (w64 ((calls1.length : Int) - last2)) 2) == 1), true)], vS (Instr.loadAt 3 (.pointer (some (sAddr A1 last2)))), .int .i64 (geti calls1 last2)⟩] [none, none, none, none, some (.pointer (some (sAddr A1 last2))), some (.int .i64 (geti calls1 last2)), none, none, none] [4] [pl 4 (.bool (((decide ((0 : Int) ≤ last2)) && ((Int.tmod (w64 ((calls1.length : Int) - last2)) 2) == 1)) && (decide ((3 : Int) ≤ (geti calls1 last2)))))] hF hS Fol (by kernel_rfl) (by kernel_rfl) (by kernel_rfl) ?_ (fun a w hF hS => ?_)
          · exact obs_cons (ob_ix1 (f := (Value.int .i64)) (m := calls1) Und22 hi3 hs3 (hr_calls1 _ (hS.dropN 0)) rfl (fun hy => hp2 (hy ((decide ((0 : Int) ≤ last2)) && ((Int.tmod (w64 ((calls1.length : Int) - last2)) 2) == 1), true) (by simp)))) <| obs_cons (ob_get1 (n := calls1.length) (m := calls1) (Value.int .i64) (0 : Int) Agg3 (fun _ hS => ⟨_, (hr_calls1 _ (hS.dropN 0))⟩) (fun _ hS => rfl) (fun hy => hp2 (hy ((decide ((0 : Int) ≤ last2)) && ((Int.tmod (w64 ((calls1.length : Int) - last2)) 2) == 1), true) (by simp)))) <| obs_nil
          refine wp_ret ?_
          refine then_r ?_
          have hm : some (((decide ((0 : Int) ≤ last2)) && ((Int.tmod (w64 ((calls1.length : Int) - last2)) 2) == 1)) && (decide ((3 : Int) ≤ (geti calls1 last2)))) = some r := hm
          obtain rfl := Option.some.inj hm
          exact retV (rs := [.tmp 4]) (vs := [.bool (((decide ((0 : Int) ≤ last2)) && ((Int.tmod (w64 ((calls1.length : Int) - last2)) 2) == 1)) && (decide ((3 : Int) ≤ (geti calls1 last2))))]) hF rfl (rv_t (by kernel_rfl) <| rv_nil) rfl ⟨rfl, hS⟩
        · replace hm := if_f hm hb
          refine wp_skip ?_
          refine then_n ?_
          exact ⟨hF.weak [0, 1, 5, 6] (by kernel_rfl), hS, hm⟩
    · refine wp_block ?_
      refine wp_loop_model (S := Int) (R := Int) (gameroomref_callMay_L1 calls1) (fun x => ((gameroomref_callMay_K1 calls1 c2) x).bind some) r (fun (x : Int) a w => Fr 66 [pl 0 (.slice A1 calls1.length c1), pl 1 (.int .i64 c2), pl 5 (.int .i64 x)] a ∧ Sep w0 B w (fs)) (assoc_b hm) ⟨hF.weak [0, 1, 5] (by kernel_rfl), hS⟩ ?_
      clear hF hS hm
      rintro nn1 last1 a w ⟨hF, hS⟩ hm
      generalize hφ1 : stK (gameroomref_callMay_L1 calls1) nn1 (fun x => ((gameroomref_callMay_K1 calls1 c2) x).bind some) = φ1 at hm
      unfold gameroomref_callMay_L1 at hm
      dsimp only at hm
      refine seq_cut (fun a w => Fr 66 [pl 0 (.slice A1 calls1.length c1), pl 1 (.int .i64 c2), pl 5 (.int .i64 last1)] a ∧ Sep w0 B w (fs) ∧ ((gameroomref_callMay_J3 last1)).bind φ1 = some r) ?_ ?_
      · rintro a w ⟨hF, hS, hm⟩
        unfold gameroomref_callMay_J3 at hm
        refine wp_block ?_
        refine reg1 [] [] [0, 1, 5] [pl 0 (.slice A1 calls1.length c1), pl 1 (.int .i64 c2), pl 5 (.int .i64 (w64 (last1 - 1)))] hF hS Fol (by kernel_rfl) (by kernel_rfl) (by kernel_rfl) ?_ (fun a w hF hS => ?_)
        · exact obs_nil
        refine block_n ?_
        refine then_n ?_
        rw [← hφ1] at hm
        exact ⟨(w64 (last1 - 1)), ⟨hF.weak [0, 1, 5] (by kernel_rfl), hS⟩, hm⟩
      · obtain ⟨hp1, hm⟩ := asrt_b hm
        refine reg [⟨true, [(decide ((0 : Int) ≤ last1), true)], vS (Instr.indexAt 22 (.slice A1 calls1.length c1) (.int .i64 last1)), .pointer (some (sAddr A1 last1))⟩, ⟨false, [(decide ((0 : Int) ≤ last1), true)], vS (Instr.loadAt 3 (.pointer (some (sAddr A1 last1)))), .int .i64 (geti calls1 last1)⟩] [none, none, none, none, none, some (.pointer (some (sAddr A1 last1))), some (.int .i64 (geti calls1 last1)), none, none] [0, 1, 5, 21] [pl 0 (.slice A1 calls1.length c1), pl 1 (.int .i64 c2), pl 5 (.int .i64 last1), pl 21 (.bool ((decide ((0 : Int) ≤ last1)) && ((geti calls1 last1) == 0)))] hF hS Fol (by kernel_rfl) (by kernel_rfl) (by kernel_rfl) ?_ (fun a w hF hS => ?_)
        · exact obs_cons (ob_ix1 (f := (Value.int .i64)) (m := calls1) Und22 hi3 hs3 (hr_calls1 _ (hS.dropN 0)) rfl (fun hy => hp1 (hy (decide ((0 : Int) ≤ last1), true) (by simp)))) <| obs_cons (ob_get1 (n := calls1.length) (m := calls1) (Value.int .i64) (0 : Int) Agg3 (fun _ hS => ⟨_, (hr_calls1 _ (hS.dropN 0))⟩) (fun _ hS => rfl) (fun hy => hp1 (hy (decide ((0 : Int) ≤ last1), true) (by simp)))) <| obs_nil
        refine cond_ev (t := 21) (b := (decide ((0 : Int) ≤ last1)) && ((geti calls1 last1) == 0)) hF (by kernel_rfl) (fun hb => ?_) (fun hb => ?_)
        · replace hm := if_t hm hb
          refine wp_skip ?_
          refine then_n ?_
          exact ⟨hF.weak [0, 1, 5] (by kernel_rfl), hS, hm⟩
        · replace hm := if_f hm hb
          refine wp_exit ?_
          refine then_e (then_e (block_e (then_n ?_)))
          rw [← hφ1] at hm
          have hm : ((gameroomref_callMay_J2 calls1 c2) last1).bind some = some r := hm
          exact ⟨last1, hF.weak [0, 1, 5] (by kernel_rfl), hS, hm⟩
  · refine reg [] [] [0, 1, 9] [pl 0 (.slice A1 calls1.length c1), pl 1 (.int .i64 c2), pl 9 (.bool (c2 == 0))] hF hS Fol (by kernel_rfl) (by kernel_rfl) (by kernel_rfl) ?_ (fun a w hF hS => ?_)
    · exact obs_nil
    refine cond_ev (t := 9) (b := (c2 == 0)) hF (by kernel_rfl) (fun hb => ?_) (fun hb => ?_)
    · replace hm := if_t hm hb
      refine reg [] [] [4] [pl 4 (.bool true)] hF hS Fol (by kernel_rfl) (by kernel_rfl) (by kernel_rfl) ?_ (fun a w hF hS => ?_)
      · exact obs_nil
      refine wp_ret ?_
      refine then_r ?_
      have hm : some true = some r := hm
      obtain rfl := Option.some.inj hm
      exact retV (rs := [.tmp 4]) (vs := [.bool true]) hF rfl (rv_t (by kernel_rfl) <| rv_nil) rfl ⟨rfl, hS⟩
    · replace hm := if_f hm hb
      refine wp_skip ?_
      refine then_n ?_
      exact ⟨hF.weak [0, 1] (by kernel_rfl), hS, hm⟩

noncomputable def gameroomref_AuctionOf_J3 (i1 : Int) : Option (St Int (Fl Unit (Int × Int × Int × Int × Int))) :=
  some (.next (w64 (i1 + 1)))

noncomputable def gameroomref_AuctionOf_J5 (calls1 : List Int) (i1 : Int) : Option (St Int (Fl Unit (Int × Int × Int × Int × Int))) :=
  asrt (0 ≤ (0 : Int) ∧ (0 : Int) ≤ i1 ∧ i1 ≤ (calls1.length : Int)) <| asrt (0 ≤ i1 ∧ i1 < (calls1.length : Int)) <| (gameroomref_callMay_m (cut calls1 (0 : Int) i1) (geti calls1 i1)).bind fun r3 => if (!r3) then (some (.done (.ret (0, 0, 0, 0, 8)))) else ((gameroomref_AuctionOf_J3 i1))

noncomputable def gameroomref_AuctionOf_J4 (calls1 : List Int) (i1 : Int) : Option (St Int (Fl Unit (Int × Int × Int × Int × Int))) :=
  asrt (0 ≤ (0 : Int) ∧ (0 : Int) ≤ i1 ∧ i1 ≤ (calls1.length : Int)) <| (gameroomref_auctionOver_m (cut calls1 (0 : Int) i1)).bind fun r2 => if r2 then (some (.done (.ret (0, 0, 0, 0, 9)))) else ((gameroomref_AuctionOf_J5 calls1 i1))

noncomputable def gameroomref_AuctionOf_J2 (calls1 : List Int) (i1 : Int) : Option (St Int (Fl Unit (Int × Int × Int × Int × Int))) :=
  asrt (0 ≤ i1 ∧ i1 < (calls1.length : Int)) <| (gameroomref_within_m (geti calls1 i1) 0 37).bind fun r1 => if (!r1) then (some (.done (.ret (0, 0, 0, 0, 3)))) else ((gameroomref_AuctionOf_J4 calls1 i1))

noncomputable def gameroomref_AuctionOf_J9 (i2 : Int) (bid4 : Int) (doubled4 : Int) : Option (St (Int × Int × Int) (Int × Int)) :=
  some (.next (bid4, doubled4, (w64 (i2 + 1))))

noncomputable def gameroomref_AuctionOf_J10 (calls1 : List Int) (i2 : Int) (bid3 : Int) (doubled3 : Int) : Option (St (Int × Int × Int) (Int × Int)) :=
  asrt (0 ≤ i2 ∧ i2 < (calls1.length : Int)) <| asrt (((geti calls1 i2) == 1) = false → 0 ≤ i2 ∧ i2 < (calls1.length : Int)) <| if (((geti calls1 i2) == 1) || ((geti calls1 i2) == 2)) then (asrt (0 ≤ i2 ∧ i2 < (calls1.length : Int)) <| (gameroomref_AuctionOf_J9 i2) bid3 (geti calls1 i2)) else ((gameroomref_AuctionOf_J9 i2) bid3 doubled3)

noncomputable def gameroomref_AuctionOf_J8 (calls1 : List Int) (bid1 : Int) (doubled1 : Int) (i2 : Int) : Option (St (Int × Int × Int) (Int × Int)) :=
  asrt (0 ≤ i2 ∧ i2 < (calls1.length : Int)) <| if (decide ((3 : Int) ≤ (geti calls1 i2))) then ((gameroomref_AuctionOf_J10 calls1 i2) i2 0) else ((gameroomref_AuctionOf_J10 calls1 i2) bid1 doubled1)

noncomputable def gameroomref_AuctionOf_L2 (calls1 : List Int) : (Int × Int × Int) → Option (St (Int × Int × Int) (Int × Int)) :=
  fun (x : (Int × Int × Int)) => match x with | (bid1, doubled1, i2) => if (decide (i2 < (calls1.length : Int))) then ((gameroomref_AuctionOf_J8 calls1 bid1 doubled1 i2)) else (some (.done (bid1, doubled1)))

noncomputable def gameroomref_AuctionOf_J14 (i3 : Int) (first3 : Int) : Option (St (Int × Int) Int) :=
  some (.next (first3, (w64 (i3 - 2))))

noncomputable def gameroomref_AuctionOf_J13 (calls1 : List Int) (bid2 : Int) (first1 : Int) (i3 : Int) : Option (St (Int × Int) Int) :=
  asrt (0 ≤ i3 ∧ i3 < (calls1.length : Int)) <| asrt ((decide ((3 : Int) ≤ (geti calls1 i3))) = true → 0 ≤ i3 ∧ i3 < (calls1.length : Int)) <| if ((decide ((3 : Int) ≤ (geti calls1 i3))) && ((Int.tmod (w64 ((geti calls1 i3) - 3)) 5) == (Int.tmod (w64 ((geti calls1 bid2) - 3)) 5))) then ((gameroomref_AuctionOf_J14 i3) i3) else ((gameroomref_AuctionOf_J14 i3) first1)

noncomputable def gameroomref_AuctionOf_L3 (calls1 : List Int) (bid2 : Int) : (Int × Int) → Option (St (Int × Int) Int) :=
  fun (x : (Int × Int)) => match x with | (first1, i3) => if (decide ((0 : Int) ≤ i3)) then ((gameroomref_AuctionOf_J13 calls1 bid2 first1 i3)) else (some (.done first1))

noncomputable def gameroomref_AuctionOf_J12 (calls1 : List Int) (bid2 : Int) (doubled2 : Int) (first2 : Int) : Option (Int × Int × Int × Int × Int) :=
  asrt (0 ≤ bid2 ∧ bid2 < (calls1.length : Int)) <| some ((w64 ((w64 (Int.tdiv (w64 ((geti calls1 bid2) - 3)) 5)) + 1)), (Int.tmod (w64 ((geti calls1 bid2) - 3)) 5), doubled2, (Int.tmod first2 4), 0)

noncomputable def gameroomref_AuctionOf_K3 (calls1 : List Int) (bid2 : Int) (doubled2 : Int) : Int → Option (Int × Int × Int × Int × Int) :=
  fun (x : Int) => match x with | first2 => (gameroomref_AuctionOf_J12 calls1 bid2 doubled2) first2

noncomputable def gameroomref_AuctionOf_J11 (calls1 : List Int) (bid2 : Int) (doubled2 : Int) : Option (Int × Int × Int × Int × Int) :=
  asrt (0 ≤ bid2 ∧ bid2 < (calls1.length : Int)) <| (loop (gameroomref_AuctionOf_L3 calls1 bid2) (bid2, bid2)).bind (gameroomref_AuctionOf_K3 calls1 bid2 doubled2)

noncomputable def gameroomref_AuctionOf_J7 (calls1 : List Int) (bid2 : Int) (doubled2 : Int) : Option (Int × Int × Int × Int × Int) :=
  if (decide (bid2 < 0)) then (some (0, 0, 0, 0, 10)) else ((gameroomref_AuctionOf_J11 calls1 bid2 doubled2))

noncomputable def gameroomref_AuctionOf_K2 (calls1 : List Int) : (Int × Int) → Option (Int × Int × Int × Int × Int) :=
  fun (x : (Int × Int)) => match x with | (bid2, doubled2) => (gameroomref_AuctionOf_J7 calls1) bid2 doubled2

noncomputable def gameroomref_AuctionOf_J6 (calls1 : List Int) : Option (Int × Int × Int × Int × Int) :=
  (loop (gameroomref_AuctionOf_L2 calls1) ((-1), 0, 0)).bind (gameroomref_AuctionOf_K2 calls1)

noncomputable def gameroomref_AuctionOf_J1 (calls1 : List Int) : Option (Int × Int × Int × Int × Int) :=
  (gameroomref_auctionOver_m calls1).bind fun r4 => if (!r4) then (some (0, 0, 0, 0, 13)) else ((gameroomref_AuctionOf_J6 calls1))

noncomputable def gameroomref_AuctionOf_K1 (calls1 : List Int) : (Fl Unit (Int × Int × Int × Int × Int)) → Option (Int × Int × Int × Int × Int) :=
  fun (x : (Fl Unit (Int × Int × Int × Int × Int))) => match x with | .go _ => (gameroomref_AuctionOf_J1 calls1) | .ret x => some x

noncomputable def gameroomref_AuctionOf_L1 (calls1 : List Int) : Int → Option (St Int (Fl Unit (Int × Int × Int × Int × Int))) :=
  fun (x : Int) => match x with | i1 => if (decide (i1 < (calls1.length : Int))) then ((gameroomref_AuctionOf_J2 calls1 i1)) else (some (.done (.go ())))

noncomputable def gameroomref_AuctionOf_m (calls1 : List Int) : Option (Int × Int × Int × Int × Int) :=
  (loop (gameroomref_AuctionOf_L1 calls1) 0).bind (gameroomref_AuctionOf_K1 calls1)

set_option maxRecDepth 100000 in
set_option maxHeartbeats 4000000 in
theorem gameroomref_AuctionOf_w {A1 : Option Addr} {c1 : Nat} {n1 : Nat} {calls1 : List Int} {r : (Int × Int × Int × Int × Int)} {w0 w : World} {B : Nat} {fs : List HP} (hm : gameroomref_AuctionOf_m calls1 = some r) (hS : Sep w0 B w (fs)) (hr_calls1 : RdF w0 B fs A1 (vI calls1)) (_hc_calls1 : calls1.length ≤ c1) (_hn_calls1 : n1 = calls1.length) :
    Calls Try.prog 47 #[.slice A1 n1 c1] w fun e w' => e = .returned (.tuple #[.agg #[.int .i64 r.1, .int .i64 r.2.1, .int .i64 r.2.2.1, .int .i64 r.2.2.2.1], .int .i64 r.2.2.2.2]) ∧ Sep w0 B w' (fs) := by
  obtain ⟨i3, hi3, hz3, hs3, hb3⟩ := info_parts Info3
  obtain rfl := _hn_calls1
  unfold gameroomref_AuctionOf_m at hm
  replace hm := start_b hm
  refine enter (l := [.slice A1 calls1.length c1]) (n := 114) Try.func47 rfl rfl (by simp) (fun a hF => ?_)
  refine seqR ?_
  refine at_do (d := 2) (s := vS (Instr.alloc 47 true (.tuple #[]))) (v := .pointer (some ⟨w.heap.size, 0, none⟩)) (w' := w.alloc (.cells #[.int .i64 0, .int .i64 0, .int .i64 0, .int .i64 0] 47)) hF (by kernel_rfl) (by kernel_rfl) (by kernel_rfl) (fun a hF => ?_)
  have hS : Sep w0 B (w.alloc (.cells #[.int .i64 0, .int .i64 0, .int .i64 0, .int .i64 0] 47)) (blk w.heap.size 47 #[.int .i64 0, .int .i64 0, .int .i64 0, .int .i64 0] :: (fs)) := hS.box 47 #[.int .i64 0, .int .i64 0, .int .i64 0, .int .i64 0]
  generalize w.heap.size = g1 at hF hS
  generalize w.alloc (.cells #[.int .i64 0, .int .i64 0, .int .i64 0, .int .i64 0] 47) = w at hS ⊢
  refine at_run 1 [] [] [0, 2] [pl 0 (.slice A1 calls1.length c1), pl 2 (.pointer (some ⟨g1, 0, none⟩))] hF hS (by kernel_rfl) (by kernel_rfl) ?_ (fun a w hF hS => ?_)
  · exact obs_nil
  refine at_end [0, 2] [pl 0 (.slice A1 calls1.length c1), pl 2 (.pointer (some ⟨g1, 0, none⟩))] hF rfl (by kernel_rfl) (fun hF => ?_)
  refine then_n ?_
  refine seq_cut (fun a w => Fr 114 [pl 0 (.slice A1 calls1.length c1), pl 2 (.pointer (some ⟨g1, 0, none⟩))] a ∧ Sep w0 B w (blk g1 47 #[.int .i64 0, .int .i64 0, .int .i64 0, .int .i64 0] :: fs) ∧ ((gameroomref_AuctionOf_J1 calls1)).bind some = some r) ?_ ?_
  · rintro a w ⟨hF, hS, hm⟩
    unfold gameroomref_AuctionOf_J1 at hm
    refine seq_cut (fun a w => Fr 114 [pl 0 (.slice A1 calls1.length c1), pl 2 (.pointer (some ⟨g1, 0, none⟩))] a ∧ Sep w0 B w (blk g1 47 #[.int .i64 0, .int .i64 0, .int .i64 0, .int .i64 0] :: fs) ∧ ((gameroomref_AuctionOf_J6 calls1)).bind some = some r) ?_ ?_
    · rintro a w ⟨hF, hS, hm⟩
      unfold gameroomref_AuctionOf_J6 at hm
      refine reg [] [] [0, 2, 5] [pl 0 (.slice A1 calls1.length c1), pl 2 (.pointer (some ⟨g1, 0, none⟩)), pl 5 (.int .i64 (-1))] hF hS Fol (by kernel_rfl) (by kernel_rfl) (by kernel_rfl) ?_ (fun a w hF hS => ?_)
      · exact obs_nil
      refine reg [] [] [0, 2, 5, 6] [pl 0 (.slice A1 calls1.length c1), pl 2 (.pointer (some ⟨g1, 0, none⟩)), pl 5 (.int .i64 (-1)), pl 6 (.int .i64 0)] hF hS Fol (by kernel_rfl) (by kernel_rfl) (by kernel_rfl) ?_ (fun a w hF hS => ?_)
      · exact obs_nil
      refine seq_cut (fun a w => ∃ (bid2 : Int) (doubled2 : Int), Fr 114 [pl 0 (.slice A1 calls1.length c1), pl 2 (.pointer (some ⟨g1, 0, none⟩)), pl 5 (.int .i64 bid2), pl 6 (.int .i64 doubled2)] a ∧ Sep w0 B w (blk g1 47 #[.int .i64 0, .int .i64 0, .int .i64 0, .int .i64 0] :: fs) ∧ ((gameroomref_AuctionOf_J7 calls1) bid2 doubled2).bind some = some r) ?_ ?_
      · rintro a w ⟨bid2, doubled2, hF, hS, hm⟩
        unfold gameroomref_AuctionOf_J7 at hm
        refine seq_cut (fun a w => Fr 114 [pl 0 (.slice A1 calls1.length c1), pl 2 (.pointer (some ⟨g1, 0, none⟩)), pl 5 (.int .i64 bid2), pl 6 (.int .i64 doubled2)] a ∧ Sep w0 B w (blk g1 47 #[.int .i64 0, .int .i64 0, .int .i64 0, .int .i64 0] :: fs) ∧ ((gameroomref_AuctionOf_J11 calls1 bid2 doubled2)).bind some = some r) ?_ ?_
        · rintro a w ⟨hF, hS, hm⟩
          unfold gameroomref_AuctionOf_J11 at hm
          obtain ⟨hp9, hm⟩ := asrt_b hm
          refine reg [⟨true, [], vS (Instr.indexAt 22 (.slice A1 calls1.length c1) (.int .i64 bid2)), .pointer (some (sAddr A1 bid2))⟩, ⟨false, [], vS (Instr.loadAt 3 (.pointer (some (sAddr A1 bid2)))), .int .i64 (geti calls1 bid2)⟩] [none, none, some (.pointer (some (sAddr A1 bid2))), some (.int .i64 (geti calls1 bid2)), none, none, none] [0, 2, 5, 6, 8] [pl 0 (.slice A1 calls1.length c1), pl 2 (.pointer (some ⟨g1, 0, none⟩)), pl 5 (.int .i64 bid2), pl 6 (.int .i64 doubled2), pl 8 (.int .i64 (Int.tmod (w64 ((geti calls1 bid2) - 3)) 5))] hF hS Fol (by kernel_rfl) (by kernel_rfl) (by kernel_rfl) ?_ (fun a w hF hS => ?_)
          · exact obs_cons (ob_ix1 (f := (Value.int .i64)) (m := calls1) Und22 hi3 hs3 (hr_calls1 _ (hS.dropN 1)) rfl (fun _ => hp9)) <| obs_cons (ob_get1 (n := calls1.length) (m := calls1) (Value.int .i64) (0 : Int) Agg3 (fun _ hS => ⟨_, (hr_calls1 _ (hS.dropN 1))⟩) (fun _ hS => rfl) (fun _ => hp9)) <| obs_nil
          refine reg [] [] [0, 2, 5, 6, 8, 9] [pl 0 (.slice A1 calls1.length c1), pl 2 (.pointer (some ⟨g1, 0, none⟩)), pl 5 (.int .i64 bid2), pl 6 (.int .i64 doubled2), pl 8 (.int .i64 (Int.tmod (w64 ((geti calls1 bid2) - 3)) 5)), pl 9 (.int .i64 bid2)] hF hS Fol (by kernel_rfl) (by kernel_rfl) (by kernel_rfl) ?_ (fun a w hF hS => ?_)
          · exact obs_nil
          refine seq_cut (fun a w => ∃ (first2 : Int), Fr 114 [pl 0 (.slice A1 calls1.length c1), pl 2 (.pointer (some ⟨g1, 0, none⟩)), pl 5 (.int .i64 bid2), pl 6 (.int .i64 doubled2), pl 8 (.int .i64 (Int.tmod (w64 ((geti calls1 bid2) - 3)) 5)), pl 9 (.int .i64 first2)] a ∧ Sep w0 B w (blk g1 47 #[.int .i64 0, .int .i64 0, .int .i64 0, .int .i64 0] :: fs) ∧ ((gameroomref_AuctionOf_J12 calls1 bid2 doubled2) first2).bind some = some r) ?_ ?_
          · rintro a w ⟨first2, hF, hS, hm⟩
            unfold gameroomref_AuctionOf_J12 at hm
            refine seqR ?_
            obtain ⟨hp12, hm⟩ := asrt_b hm
            refine at_run 12 [⟨true, [], vS (Instr.indexAt 22 (.slice A1 calls1.length c1) (.int .i64 bid2)), .pointer (some (sAddr A1 bid2))⟩, ⟨false, [], vS (Instr.loadAt 3 (.pointer (some (sAddr A1 bid2)))), .int .i64 (geti calls1 bid2)⟩] [none, none, some (.pointer (some (sAddr A1 bid2))), some (.int .i64 (geti calls1 bid2)), none, none, none, none, none, none, none, none] [2, 113] [pl 2 (.pointer (some ⟨g1, 0, none⟩)), pl 113 (.agg #[.int .i64 (w64 ((w64 (Int.tdiv (w64 ((geti calls1 bid2) - 3)) 5)) + 1)), .int .i64 (Int.tmod (w64 ((geti calls1 bid2) - 3)) 5), .int .i64 doubled2, .int .i64 (Int.tmod first2 4)])] hF hS (by kernel_rfl) (by kernel_rfl) ?_ (fun a w hF hS => ?_)
            · exact obs_cons (ob_ix1 (f := (Value.int .i64)) (m := calls1) Und22 hi3 hs3 (hr_calls1 _ (hS.dropN 1)) rfl (fun _ => hp12)) <| obs_cons (ob_get1 (n := calls1.length) (m := calls1) (Value.int .i64) (0 : Int) Agg3 (fun _ hS => ⟨_, (hr_calls1 _ (hS.dropN 1))⟩) (fun _ hS => rfl) (fun _ => hp12)) <| obs_nil
            obtain ⟨w, hrun, hS⟩ := run_putA (P := Try.prog) (t := 47) (us := #[.int .i64 (w64 ((w64 (Int.tdiv (w64 ((geti calls1 bid2) - 3)) 5)) + 1)), .int .i64 (Int.tmod (w64 ((geti calls1 bid2) - 3)) 5), .int .i64 doubled2, .int .i64 (Int.tmod first2 4)]) (o := 0) (hS.at_ 0 rfl) (by kernel_rfl) (all_one (by kernel_rfl)) (Nat.le_of_ble_eq_true (by kernel_rfl))
            refine at_skip hF (by kernel_rfl) hrun ?_
            have hS : Sep w0 B w (blk g1 47 #[.int .i64 (w64 ((w64 (Int.tdiv (w64 ((geti calls1 bid2) - 3)) 5)) + 1)), .int .i64 (Int.tmod (w64 ((geti calls1 bid2) - 3)) 5), .int .i64 doubled2, .int .i64 (Int.tmod first2 4)] :: fs) := hS
            refine at_run 1 [] [] [2, 3] [pl 2 (.pointer (some ⟨g1, 0, none⟩)), pl 3 (.int .i64 0)] hF hS (by kernel_rfl) (by kernel_rfl) ?_ (fun a w hF hS => ?_)
            · exact obs_nil
            refine at_end [2, 3] [pl 2 (.pointer (some ⟨g1, 0, none⟩)), pl 3 (.int .i64 0)] hF rfl (by kernel_rfl) (fun hF => ?_)
            refine then_n ?_
            refine wp_ret ?_
            have hld0 := run_loadVarA (P := Try.prog) (t := 47) (cs := #[.int .i64 (w64 ((w64 (Int.tdiv (w64 ((geti calls1 bid2) - 3)) 5)) + 1)), .int .i64 (Int.tmod (w64 ((geti calls1 bid2) - 3)) 5), .int .i64 doubled2, .int .i64 (Int.tmod first2 4)]) (by kernel_rfl) (by kernel_rfl) ((hS.at_ 0 rfl).cellsAt 0 (by rfl))
            have hS := hS.pickN 1 [] (by decide)
            have hm : some ((w64 ((w64 (Int.tdiv (w64 ((geti calls1 bid2) - 3)) 5)) + 1)), (Int.tmod (w64 ((geti calls1 bid2) - 3)) 5), doubled2, (Int.tmod first2 4), 0) = some r := hm
            obtain rfl := Option.some.inj hm
            exact retV (rs := [.cell 2 47, .tmp 3]) (vs := [.agg #[.int .i64 (w64 ((w64 (Int.tdiv (w64 ((geti calls1 bid2) - 3)) 5)) + 1)), .int .i64 (Int.tmod (w64 ((geti calls1 bid2) - 3)) 5), .int .i64 doubled2, .int .i64 (Int.tmod first2 4)], .int .i64 0]) hF rfl (rv_c (by kernel_rfl) hld0 <| rv_t (by kernel_rfl) <| rv_nil) rfl ⟨rfl, hS⟩
          · refine reg [] [] [0, 2, 5, 6, 8, 9, 10] [pl 0 (.slice A1 calls1.length c1), pl 2 (.pointer (some ⟨g1, 0, none⟩)), pl 5 (.int .i64 bid2), pl 6 (.int .i64 doubled2), pl 8 (.int .i64 (Int.tmod (w64 ((geti calls1 bid2) - 3)) 5)), pl 9 (.int .i64 bid2), pl 10 (.int .i64 bid2)] hF hS Fol (by kernel_rfl) (by kernel_rfl) (by kernel_rfl) ?_ (fun a w hF hS => ?_)
            · exact obs_nil
            refine wp_block ?_
            refine wp_loop_model (S := (Int × Int)) (R := Int) (gameroomref_AuctionOf_L3 calls1 bid2) (fun x => ((gameroomref_AuctionOf_K3 calls1 bid2 doubled2) x).bind some) r (fun (x : (Int × Int)) a w => Fr 114 [pl 0 (.slice A1 calls1.length c1), pl 2 (.pointer (some ⟨g1, 0, none⟩)), pl 5 (.int .i64 bid2), pl 6 (.int .i64 doubled2), pl 8 (.int .i64 (Int.tmod (w64 ((geti calls1 bid2) - 3)) 5)), pl 9 (.int .i64 x.1), pl 10 (.int .i64 x.2)] a ∧ Sep w0 B w (blk g1 47 #[.int .i64 0, .int .i64 0, .int .i64 0, .int .i64 0] :: fs)) (assoc_b hm) ⟨hF.weak [0, 2, 5, 6, 8, 9, 10] (by kernel_rfl), hS⟩ ?_
            clear hF hS hm
            rintro nn3 ⟨first1, i3⟩ a w ⟨hF, hS⟩ hm
            generalize hφ3 : stK (gameroomref_AuctionOf_L3 calls1 bid2) nn3 (fun x => ((gameroomref_AuctionOf_K3 calls1 bid2 doubled2) x).bind some) = φ3 at hm
            unfold gameroomref_AuctionOf_L3 at hm
            dsimp only at hF hS hm
            refine seq_cut (fun a w => Fr 114 [pl 0 (.slice A1 calls1.length c1), pl 2 (.pointer (some ⟨g1, 0, none⟩)), pl 5 (.int .i64 bid2), pl 6 (.int .i64 doubled2), pl 8 (.int .i64 (Int.tmod (w64 ((geti calls1 bid2) - 3)) 5)), pl 9 (.int .i64 first1), pl 10 (.int .i64 i3)] a ∧ Sep w0 B w (blk g1 47 #[.int .i64 0, .int .i64 0, .int .i64 0, .int .i64 0] :: fs) ∧ ((gameroomref_AuctionOf_J13 calls1 bid2 first1 i3)).bind φ3 = some r) ?_ ?_
            · rintro a w ⟨hF, hS, hm⟩
              unfold gameroomref_AuctionOf_J13 at hm
              refine seq_cut (fun a w => ∃ (first3 : Int), Fr 114 [pl 0 (.slice A1 calls1.length c1), pl 2 (.pointer (some ⟨g1, 0, none⟩)), pl 5 (.int .i64 bid2), pl 6 (.int .i64 doubled2), pl 8 (.int .i64 (Int.tmod (w64 ((geti calls1 bid2) - 3)) 5)), pl 9 (.int .i64 first3), pl 10 (.int .i64 i3)] a ∧ Sep w0 B w (blk g1 47 #[.int .i64 0, .int .i64 0, .int .i64 0, .int .i64 0] :: fs) ∧ ((gameroomref_AuctionOf_J14 i3) first3).bind φ3 = some r) ?_ ?_
              · rintro a w ⟨first3, hF, hS, hm⟩
                unfold gameroomref_AuctionOf_J14 at hm
                refine reg1 [] [] [0, 2, 5, 6, 8, 9, 10] [pl 0 (.slice A1 calls1.length c1), pl 2 (.pointer (some ⟨g1, 0, none⟩)), pl 5 (.int .i64 bid2), pl 6 (.int .i64 doubled2), pl 8 (.int .i64 (Int.tmod (w64 ((geti calls1 bid2) - 3)) 5)), pl 9 (.int .i64 first3), pl 10 (.int .i64 (w64 (i3 - 2)))] hF hS Fol (by kernel_rfl) (by kernel_rfl) (by kernel_rfl) ?_ (fun a w hF hS => ?_)
                · exact obs_nil
                refine then_n ?_
                rw [← hφ3] at hm
                exact ⟨(first3, (w64 (i3 - 2))), ⟨hF.weak [0, 2, 5, 6, 8, 9, 10] (by kernel_rfl), hS⟩, hm⟩
              · refine wp_block ?_
                obtain ⟨hp10, hm⟩ := asrt_b hm
                obtain ⟨hp11, hm⟩ := asrt_b hm
                refine reg [⟨true, [], vS (Instr.indexAt 22 (.slice A1 calls1.length c1) (.int .i64 i3)), .pointer (some (sAddr A1 i3))⟩, ⟨false, [], vS (Instr.loadAt 3 (.pointer (some (sAddr A1 i3)))), .int .i64 (geti calls1 i3)⟩, ⟨true, [(decide ((3 : Int) ≤ (geti calls1 i3)), true)], vS (Instr.indexAt 22 (.slice A1 calls1.length c1) (.int .i64 i3)), .pointer (some (sAddr A1 i3))⟩, ⟨false, [(decide ((3 : Int) ≤ (geti calls1 i3)), true)], vS (Instr.loadAt 3 (.pointer (some (sAddr A1 i3)))), .int .i64 (geti calls1 i3)⟩] [none, none, some (.pointer (some (sAddr A1 i3))), some (.int .i64 (geti calls1 i3)), none, none, none, none, some (.pointer (some (sAddr A1 i3))), some (.int .i64 (geti calls1 i3)), none, none, none, none, none] [0, 2, 5, 6, 8, 9, 10, 100] [pl 0 (.slice A1 calls1.length c1), pl 2 (.pointer (some ⟨g1, 0, none⟩)), pl 5 (.int .i64 bid2), pl 6 (.int .i64 doubled2), pl 8 (.int .i64 (Int.tmod (w64 ((geti calls1 bid2) - 3)) 5)), pl 9 (.int .i64 first1), pl 10 (.int .i64 i3), pl 100 (.bool ((decide ((3 : Int) ≤ (geti calls1 i3))) && ((Int.tmod (w64 ((geti calls1 i3) - 3)) 5) == (Int.tmod (w64 ((geti calls1 bid2) - 3)) 5))))] hF hS Fol (by kernel_rfl) (by kernel_rfl) (by kernel_rfl) ?_ (fun a w hF hS => ?_)
                · exact obs_cons (ob_ix1 (f := (Value.int .i64)) (m := calls1) Und22 hi3 hs3 (hr_calls1 _ (hS.dropN 1)) rfl (fun _ => hp10)) <| obs_cons (ob_get1 (n := calls1.length) (m := calls1) (Value.int .i64) (0 : Int) Agg3 (fun _ hS => ⟨_, (hr_calls1 _ (hS.dropN 1))⟩) (fun _ hS => rfl) (fun _ => hp10)) <| obs_cons (ob_ix1 (f := (Value.int .i64)) (m := calls1) Und22 hi3 hs3 (hr_calls1 _ (hS.dropN 1)) rfl (fun hy => hp11 (hy (decide ((3 : Int) ≤ (geti calls1 i3)), true) (by simp)))) <| obs_cons (ob_get1 (n := calls1.length) (m := calls1) (Value.int .i64) (0 : Int) Agg3 (fun _ hS => ⟨_, (hr_calls1 _ (hS.dropN 1))⟩) (fun _ hS => rfl) (fun hy => hp11 (hy (decide ((3 : Int) ≤ (geti calls1 i3)), true) (by simp)))) <| obs_nil
                refine cond_ev (t := 100) (b := (decide ((3 : Int) ≤ (geti calls1 i3))) && ((Int.tmod (w64 ((geti calls1 i3) - 3)) 5) == (Int.tmod (w64 ((geti calls1 bid2) - 3)) 5))) hF (by kernel_rfl) (fun hb => ?_) (fun hb => ?_)
                · replace hm := if_t hm hb
                  refine reg1 [] [] [0, 2, 5, 6, 8, 9, 10] [pl 0 (.slice A1 calls1.length c1), pl 2 (.pointer (some ⟨g1, 0, none⟩)), pl 5 (.int .i64 bid2), pl 6 (.int .i64 doubled2), pl 8 (.int .i64 (Int.tmod (w64 ((geti calls1 bid2) - 3)) 5)), pl 9 (.int .i64 i3), pl 10 (.int .i64 i3)] hF hS Fol (by kernel_rfl) (by kernel_rfl) (by kernel_rfl) ?_ (fun a w hF hS => ?_)
                  · exact obs_nil
                  refine block_n ?_
                  refine then_n ?_
                  exact ⟨i3, hF.weak [0, 2, 5, 6, 8, 9, 10] (by kernel_rfl), hS, hm⟩
                · replace hm := if_f hm hb
                  refine wp_skip ?_
                  refine block_n ?_
                  refine then_n ?_
                  exact ⟨first1, hF.weak [0, 2, 5, 6, 8, 9, 10] (by kernel_rfl), hS, hm⟩
            · refine reg [] [] [0, 2, 5, 6, 8, 9, 10, 83] [pl 0 (.slice A1 calls1.length c1), pl 2 (.pointer (some ⟨g1, 0, none⟩)), pl 5 (.int .i64 bid2), pl 6 (.int .i64 doubled2), pl 8 (.int .i64 (Int.tmod (w64 ((geti calls1 bid2) - 3)) 5)), pl 9 (.int .i64 first1), pl 10 (.int .i64 i3), pl 83 (.bool (decide ((0 : Int) ≤ i3)))] hF hS Fol (by kernel_rfl) (by kernel_rfl) (by kernel_rfl) ?_ (fun a w hF hS => ?_)
              · exact obs_nil
              refine cond_ev (t := 83) (b := decide ((0 : Int) ≤ i3)) hF (by kernel_rfl) (fun hb => ?_) (fun hb => ?_)
              · replace hm := if_t hm hb
                refine wp_skip ?_
                refine then_n ?_
                exact ⟨hF.weak [0, 2, 5, 6, 8, 9, 10] (by kernel_rfl), hS, hm⟩
              · replace hm := if_f hm hb
                refine wp_exit ?_
                refine then_e (then_e (block_e (then_n ?_)))
                rw [← hφ3] at hm
                have hm : ((gameroomref_AuctionOf_J12 calls1 bid2 doubled2) first1).bind some = some r := hm
                exact ⟨first1, hF.weak [0, 2, 5, 6, 8, 9] (by kernel_rfl), hS, hm⟩
        · refine reg [] [] [0, 2, 5, 6, 72] [pl 0 (.slice A1 calls1.length c1), pl 2 (.pointer (some ⟨g1, 0, none⟩)), pl 5 (.int .i64 bid2), pl 6 (.int .i64 doubled2), pl 72 (.bool (decide (bid2 < 0)))] hF hS Fol (by kernel_rfl) (by kernel_rfl) (by kernel_rfl) ?_ (fun a w hF hS => ?_)
          · exact obs_nil
          refine cond_ev (t := 72) (b := decide (bid2 < 0)) hF (by kernel_rfl) (fun hb => ?_) (fun hb => ?_)
          · replace hm := if_t hm hb
            refine seqR ?_
            refine at_run 1 [] [] [2, 73] [pl 2 (.pointer (some ⟨g1, 0, none⟩)), pl 73 (.agg #[.int .i64 0, .int .i64 0, .int .i64 0, .int .i64 0])] hF hS (by kernel_rfl) (by kernel_rfl) ?_ (fun a w hF hS => ?_)
            · exact obs_nil
            obtain ⟨w, hrun, hS⟩ := run_putA (P := Try.prog) (t := 47) (us := #[.int .i64 0, .int .i64 0, .int .i64 0, .int .i64 0]) (o := 0) (hS.at_ 0 rfl) (by kernel_rfl) (all_one (by kernel_rfl)) (Nat.le_of_ble_eq_true (by kernel_rfl))
            refine at_skip hF (by kernel_rfl) hrun ?_
            have hS : Sep w0 B w (blk g1 47 #[.int .i64 0, .int .i64 0, .int .i64 0, .int .i64 0] :: fs) := hS
            refine at_run 1 [] [] [2, 3] [pl 2 (.pointer (some ⟨g1, 0, none⟩)), pl 3 (.int .i64 10)] hF hS (by kernel_rfl) (by kernel_rfl) ?_ (fun a w hF hS => ?_)
            · exact obs_nil
            refine at_end [2, 3] [pl 2 (.pointer (some ⟨g1, 0, none⟩)), pl 3 (.int .i64 10)] hF rfl (by kernel_rfl) (fun hF => ?_)
            refine then_n ?_
            refine wp_ret ?_
            refine then_r ?_
            have hld0 := run_loadVarA (P := Try.prog) (t := 47) (cs := #[.int .i64 0, .int .i64 0, .int .i64 0, .int .i64 0]) (by kernel_rfl) (by kernel_rfl) ((hS.at_ 0 rfl).cellsAt 0 (by rfl))
            have hS := hS.pickN 1 [] (by decide)
            have hm : some (0, 0, 0, 0, 10) = some r := hm
            obtain rfl := Option.some.inj hm
            exact retV (rs := [.cell 2 47, .tmp 3]) (vs := [.agg #[.int .i64 0, .int .i64 0, .int .i64 0, .int .i64 0], .int .i64 10]) hF rfl (rv_c (by kernel_rfl) hld0 <| rv_t (by kernel_rfl) <| rv_nil) rfl ⟨rfl, hS⟩
          · replace hm := if_f hm hb
            refine wp_skip ?_
            refine then_n ?_
            exact ⟨hF.weak [0, 2, 5, 6] (by kernel_rfl), hS, hm⟩
      · refine reg [] [] [0, 2, 5, 6, 7] [pl 0 (.slice A1 calls1.length c1), pl 2 (.pointer (some ⟨g1, 0, none⟩)), pl 5 (.int .i64 (-1)), pl 6 (.int .i64 0), pl 7 (.int .i64 0)] hF hS Fol (by kernel_rfl) (by kernel_rfl) (by kernel_rfl) ?_ (fun a w hF hS => ?_)
        · exact obs_nil
        refine wp_block ?_
        refine wp_loop_model (S := (Int × Int × Int)) (R := (Int × Int)) (gameroomref_AuctionOf_L2 calls1) (fun x => ((gameroomref_AuctionOf_K2 calls1) x).bind some) r (fun (x : (Int × Int × Int)) a w => Fr 114 [pl 0 (.slice A1 calls1.length c1), pl 2 (.pointer (some ⟨g1, 0, none⟩)), pl 5 (.int .i64 x.1), pl 6 (.int .i64 x.2.1), pl 7 (.int .i64 x.2.2)] a ∧ Sep w0 B w (blk g1 47 #[.int .i64 0, .int .i64 0, .int .i64 0, .int .i64 0] :: fs)) (assoc_b hm) ⟨hF.weak [0, 2, 5, 6, 7] (by kernel_rfl), hS⟩ ?_
        clear hF hS hm
        rintro nn2 ⟨bid1, doubled1, i2⟩ a w ⟨hF, hS⟩ hm
        generalize hφ2 : stK (gameroomref_AuctionOf_L2 calls1) nn2 (fun x => ((gameroomref_AuctionOf_K2 calls1) x).bind some) = φ2 at hm
        unfold gameroomref_AuctionOf_L2 at hm
        dsimp only at hF hS hm
        refine seq_cut (fun a w => Fr 114 [pl 0 (.slice A1 calls1.length c1), pl 2 (.pointer (some ⟨g1, 0, none⟩)), pl 5 (.int .i64 bid1), pl 6 (.int .i64 doubled1), pl 7 (.int .i64 i2)] a ∧ Sep w0 B w (blk g1 47 #[.int .i64 0, .int .i64 0, .int .i64 0, .int .i64 0] :: fs) ∧ ((gameroomref_AuctionOf_J8 calls1 bid1 doubled1 i2)).bind φ2 = some r) ?_ ?_
        · rintro a w ⟨hF, hS, hm⟩
          unfold gameroomref_AuctionOf_J8 at hm
          refine seq_cut (fun a w => ∃ (bid4 : Int) (doubled4 : Int), Fr 114 [pl 0 (.slice A1 calls1.length c1), pl 2 (.pointer (some ⟨g1, 0, none⟩)), pl 5 (.int .i64 bid4), pl 6 (.int .i64 doubled4), pl 7 (.int .i64 i2)] a ∧ Sep w0 B w (blk g1 47 #[.int .i64 0, .int .i64 0, .int .i64 0, .int .i64 0] :: fs) ∧ ((gameroomref_AuctionOf_J9 i2) bid4 doubled4).bind φ2 = some r) ?_ ?_
          · rintro a w ⟨bid4, doubled4, hF, hS, hm⟩
            unfold gameroomref_AuctionOf_J9 at hm
            refine reg1 [] [] [0, 2, 5, 6, 7] [pl 0 (.slice A1 calls1.length c1), pl 2 (.pointer (some ⟨g1, 0, none⟩)), pl 5 (.int .i64 bid4), pl 6 (.int .i64 doubled4), pl 7 (.int .i64 (w64 (i2 + 1)))] hF hS Fol (by kernel_rfl) (by kernel_rfl) (by kernel_rfl) ?_ (fun a w hF hS => ?_)
            · exact obs_nil
            refine then_n ?_
            rw [← hφ2] at hm
            exact ⟨(bid4, doubled4, (w64 (i2 + 1))), ⟨hF.weak [0, 2, 5, 6, 7] (by kernel_rfl), hS⟩, hm⟩
          · refine wp_block ?_
            refine seq_cut (fun a w => ∃ (bid3 : Int) (doubled3 : Int), Fr 114 [pl 0 (.slice A1 calls1.length c1), pl 2 (.pointer (some ⟨g1, 0, none⟩)), pl 5 (.int .i64 bid3), pl 6 (.int .i64 doubled3), pl 7 (.int .i64 i2)] a ∧ Sep w0 B w (blk g1 47 #[.int .i64 0, .int .i64 0, .int .i64 0, .int .i64 0] :: fs) ∧ ((gameroomref_AuctionOf_J10 calls1 i2) bid3 doubled3).bind φ2 = some r) ?_ ?_
            · rintro a w ⟨bid3, doubled3, hF, hS, hm⟩
              unfold gameroomref_AuctionOf_J10 at hm
              obtain ⟨hp6, hm⟩ := asrt_b hm
              obtain ⟨hp7, hm⟩ := asrt_b hm
              refine reg [⟨true, [], vS (Instr.indexAt 22 (.slice A1 calls1.length c1) (.int .i64 i2)), .pointer (some (sAddr A1 i2))⟩, ⟨false, [], vS (Instr.loadAt 3 (.pointer (some (sAddr A1 i2)))), .int .i64 (geti calls1 i2)⟩, ⟨true, [(((geti calls1 i2) == 1), false)], vS (Instr.indexAt 22 (.slice A1 calls1.length c1) (.int .i64 i2)), .pointer (some (sAddr A1 i2))⟩, ⟨false, [(((geti calls1 i2) == 1), false)], vS (Instr.loadAt 3 (.pointer (some (sAddr A1 i2)))), .int .i64 (geti calls1 i2)⟩] [none, none, some (.pointer (some (sAddr A1 i2))), some (.int .i64 (geti calls1 i2)), none, none, none, none, some (.pointer (some (sAddr A1 i2))), some (.int .i64 (geti calls1 i2)), none, none] [0, 2, 5, 6, 7, 66] [pl 0 (.slice A1 calls1.length c1), pl 2 (.pointer (some ⟨g1, 0, none⟩)), pl 5 (.int .i64 bid3), pl 6 (.int .i64 doubled3), pl 7 (.int .i64 i2), pl 66 (.bool (((geti calls1 i2) == 1) || ((geti calls1 i2) == 2)))] hF hS Fol (by kernel_rfl) (by kernel_rfl) (by kernel_rfl) ?_ (fun a w hF hS => ?_)
              · exact obs_cons (ob_ix1 (f := (Value.int .i64)) (m := calls1) Und22 hi3 hs3 (hr_calls1 _ (hS.dropN 1)) rfl (fun _ => hp6)) <| obs_cons (ob_get1 (n := calls1.length) (m := calls1) (Value.int .i64) (0 : Int) Agg3 (fun _ hS => ⟨_, (hr_calls1 _ (hS.dropN 1))⟩) (fun _ hS => rfl) (fun _ => hp6)) <| obs_cons (ob_ix1 (f := (Value.int .i64)) (m := calls1) Und22 hi3 hs3 (hr_calls1 _ (hS.dropN 1)) rfl (fun hy => hp7 (hy (((geti calls1 i2) == 1), false) (by simp)))) <| obs_cons (ob_get1 (n := calls1.length) (m := calls1) (Value.int .i64) (0 : Int) Agg3 (fun _ hS => ⟨_, (hr_calls1 _ (hS.dropN 1))⟩) (fun _ hS => rfl) (fun hy => hp7 (hy (((geti calls1 i2) == 1), false) (by simp)))) <| obs_nil
              refine cond_ev (t := 66) (b := ((geti calls1 i2) == 1) || ((geti calls1 i2) == 2)) hF (by kernel_rfl) (fun hb => ?_) (fun hb => ?_)
              · replace hm := if_t hm hb
                obtain ⟨hp8, hm⟩ := asrt_b hm
                refine reg1 [⟨true, [], vS (Instr.indexAt 22 (.slice A1 calls1.length c1) (.int .i64 i2)), .pointer (some (sAddr A1 i2))⟩, ⟨false, [], vS (Instr.loadAt 3 (.pointer (some (sAddr A1 i2)))), .int .i64 (geti calls1 i2)⟩] [none, none, some (.pointer (some (sAddr A1 i2))), some (.int .i64 (geti calls1 i2)), none] [0, 2, 5, 6, 7] [pl 0 (.slice A1 calls1.length c1), pl 2 (.pointer (some ⟨g1, 0, none⟩)), pl 5 (.int .i64 bid3), pl 6 (.int .i64 (geti calls1 i2)), pl 7 (.int .i64 i2)] hF hS Fol (by kernel_rfl) (by kernel_rfl) (by kernel_rfl) ?_ (fun a w hF hS => ?_)
                · exact obs_cons (ob_ix1 (f := (Value.int .i64)) (m := calls1) Und22 hi3 hs3 (hr_calls1 _ (hS.dropN 1)) rfl (fun _ => hp8)) <| obs_cons (ob_get1 (n := calls1.length) (m := calls1) (Value.int .i64) (0 : Int) Agg3 (fun _ hS => ⟨_, (hr_calls1 _ (hS.dropN 1))⟩) (fun _ hS => rfl) (fun _ => hp8)) <| obs_nil
                refine block_n ?_
                refine then_n ?_
                exact ⟨bid3, (geti calls1 i2), hF.weak [0, 2, 5, 6, 7] (by kernel_rfl), hS, hm⟩
              · replace hm := if_f hm hb
                refine wp_skip ?_
                refine block_n ?_
                refine then_n ?_
                exact ⟨bid3, doubled3, hF.weak [0, 2, 5, 6, 7] (by kernel_rfl), hS, hm⟩
            · obtain ⟨hp5, hm⟩ := asrt_b hm
              refine reg [⟨true, [], vS (Instr.indexAt 22 (.slice A1 calls1.length c1) (.int .i64 i2)), .pointer (some (sAddr A1 i2))⟩, ⟨false, [], vS (Instr.loadAt 3 (.pointer (some (sAddr A1 i2)))), .int .i64 (geti calls1 i2)⟩] [none, none, some (.pointer (some (sAddr A1 i2))), some (.int .i64 (geti calls1 i2)), none] [0, 2, 5, 6, 7, 53] [pl 0 (.slice A1 calls1.length c1), pl 2 (.pointer (some ⟨g1, 0, none⟩)), pl 5 (.int .i64 bid1), pl 6 (.int .i64 doubled1), pl 7 (.int .i64 i2), pl 53 (.bool (decide ((3 : Int) ≤ (geti calls1 i2))))] hF hS Fol (by kernel_rfl) (by kernel_rfl) (by kernel_rfl) ?_ (fun a w hF hS => ?_)
              · exact obs_cons (ob_ix1 (f := (Value.int .i64)) (m := calls1) Und22 hi3 hs3 (hr_calls1 _ (hS.dropN 1)) rfl (fun _ => hp5)) <| obs_cons (ob_get1 (n := calls1.length) (m := calls1) (Value.int .i64) (0 : Int) Agg3 (fun _ hS => ⟨_, (hr_calls1 _ (hS.dropN 1))⟩) (fun _ hS => rfl) (fun _ => hp5)) <| obs_nil
              refine cond_ev (t := 53) (b := decide ((3 : Int) ≤ (geti calls1 i2))) hF (by kernel_rfl) (fun hb => ?_) (fun hb => ?_)
              · replace hm := if_t hm hb
                refine reg [] [] [0, 2, 5, 7] [pl 0 (.slice A1 calls1.length c1), pl 2 (.pointer (some ⟨g1, 0, none⟩)), pl 5 (.int .i64 i2), pl 7 (.int .i64 i2)] hF hS Fol (by kernel_rfl) (by kernel_rfl) (by kernel_rfl) ?_ (fun a w hF hS => ?_)
                · exact obs_nil
                refine reg1 [] [] [0, 2, 5, 6, 7] [pl 0 (.slice A1 calls1.length c1), pl 2 (.pointer (some ⟨g1, 0, none⟩)), pl 5 (.int .i64 i2), pl 6 (.int .i64 0), pl 7 (.int .i64 i2)] hF hS Fol (by kernel_rfl) (by kernel_rfl) (by kernel_rfl) ?_ (fun a w hF hS => ?_)
                · exact obs_nil
                refine then_n ?_
                exact ⟨i2, 0, hF.weak [0, 2, 5, 6, 7] (by kernel_rfl), hS, hm⟩
              · replace hm := if_f hm hb
                refine wp_skip ?_
                refine then_n ?_
                exact ⟨bid1, doubled1, hF.weak [0, 2, 5, 6, 7] (by kernel_rfl), hS, hm⟩
        · refine reg [] [] [0, 2, 5, 6, 7, 46] [pl 0 (.slice A1 calls1.length c1), pl 2 (.pointer (some ⟨g1, 0, none⟩)), pl 5 (.int .i64 bid1), pl 6 (.int .i64 doubled1), pl 7 (.int .i64 i2), pl 46 (.bool (decide (i2 < (calls1.length : Int))))] hF hS Fol (by kernel_rfl) (by kernel_rfl) (by kernel_rfl) ?_ (fun a w hF hS => ?_)
          · exact obs_nil
          refine cond_ev (t := 46) (b := decide (i2 < (calls1.length : Int))) hF (by kernel_rfl) (fun hb => ?_) (fun hb => ?_)
          · replace hm := if_t hm hb
            refine wp_skip ?_
            refine then_n ?_
            exact ⟨hF.weak [0, 2, 5, 6, 7] (by kernel_rfl), hS, hm⟩
          · replace hm := if_f hm hb
            refine wp_exit ?_
            refine then_e (then_e (block_e (then_n ?_)))
            rw [← hφ2] at hm
            have hm : ((gameroomref_AuctionOf_J7 calls1) bid1 doubled1).bind some = some r := hm
            exact ⟨bid1, doubled1, hF.weak [0, 2, 5, 6] (by kernel_rfl), hS, hm⟩
    · obtain ⟨r4, hr4, hm⟩ := call_b hm
      refine reg [⟨false, [], callFunc 82 #[.slice A1 calls1.length c1], .bool r4⟩] [none, some (.bool r4), none] [0, 2, 41] [pl 0 (.slice A1 calls1.length c1), pl 2 (.pointer (some ⟨g1, 0, none⟩)), pl 41 (.bool (!r4))] hF hS Fol (by kernel_rfl) (by kernel_rfl) (by kernel_rfl) ?_ (fun a w hF hS => ?_)
      · exact obs_cons (ob_call Try.func82 (by kernel_rfl) rfl (fun _ _ hS => gameroomref_auctionOver_w hr4 hS (fun _ hS => (hr_calls1 _ (hS.dropN 1))) _hc_calls1 rfl)) <| obs_nil
      refine cond_ev (t := 41) (b := !r4) hF (by kernel_rfl) (fun hb => ?_) (fun hb => ?_)
      · replace hm := if_t hm hb
        refine seqR ?_
        refine at_run 1 [] [] [2, 42] [pl 2 (.pointer (some ⟨g1, 0, none⟩)), pl 42 (.agg #[.int .i64 0, .int .i64 0, .int .i64 0, .int .i64 0])] hF hS (by kernel_rfl) (by kernel_rfl) ?_ (fun a w hF hS => ?_)
        · exact obs_nil
        obtain ⟨w, hrun, hS⟩ := run_putA (P := Try.prog) (t := 47) (us := #[.int .i64 0, .int .i64 0, .int .i64 0, .int .i64 0]) (o := 0) (hS.at_ 0 rfl) (by kernel_rfl) (all_one (by kernel_rfl)) (Nat.le_of_ble_eq_true (by kernel_rfl))
        refine at_skip hF (by kernel_rfl) hrun ?_
        have hS : Sep w0 B w (blk g1 47 #[.int .i64 0, .int .i64 0, .int .i64 0, .int .i64 0] :: fs) := hS
        refine at_run 1 [] [] [2, 3] [pl 2 (.pointer (some ⟨g1, 0, none⟩)), pl 3 (.int .i64 13)] hF hS (by kernel_rfl) (by kernel_rfl) ?_ (fun a w hF hS => ?_)
        · exact obs_nil
        refine at_end [2, 3] [pl 2 (.pointer (some ⟨g1, 0, none⟩)), pl 3 (.int .i64 13)] hF rfl (by kernel_rfl) (fun hF => ?_)
        refine then_n ?_
        refine wp_ret ?_
        refine then_r ?_
        have hld0 := run_loadVarA (P := Try.prog) (t := 47) (cs := #[.int .i64 0, .int .i64 0, .int .i64 0, .int .i64 0]) (by kernel_rfl) (by kernel_rfl) ((hS.at_ 0 rfl).cellsAt 0 (by rfl))
        have hS := hS.pickN 1 [] (by decide)
        have hm : some (0, 0, 0, 0, 13) = some r := hm
        obtain rfl := Option.some.inj hm
        exact retV (rs := [.cell 2 47, .tmp 3]) (vs := [.agg #[.int .i64 0, .int .i64 0, .int .i64 0, .int .i64 0], .int .i64 13]) hF rfl (rv_c (by kernel_rfl) hld0 <| rv_t (by kernel_rfl) <| rv_nil) rfl ⟨rfl, hS⟩
      · replace hm := if_f hm hb
        refine wp_skip ?_
        refine then_n ?_
        exact ⟨hF.weak [0, 2] (by kernel_rfl), hS, hm⟩
  · refine reg [] [] [0, 2, 4] [pl 0 (.slice A1 calls1.length c1), pl 2 (.pointer (some ⟨g1, 0, none⟩)), pl 4 (.int .i64 0)] hF hS Fol (by kernel_rfl) (by kernel_rfl) (by kernel_rfl) ?_ (fun a w hF hS => ?_)
    · exact obs_nil
    refine wp_block ?_
    refine wp_loop_model (S := Int) (R := (Fl Unit (Int × Int × Int × Int × Int))) (gameroomref_AuctionOf_L1 calls1) (fun x => ((gameroomref_AuctionOf_K1 calls1) x).bind some) r (fun (x : Int) a w => Fr 114 [pl 0 (.slice A1 calls1.length c1), pl 2 (.pointer (some ⟨g1, 0, none⟩)), pl 4 (.int .i64 x)] a ∧ Sep w0 B w (blk g1 47 #[.int .i64 0, .int .i64 0, .int .i64 0, .int .i64 0] :: fs)) (assoc_b hm) ⟨hF.weak [0, 2, 4] (by kernel_rfl), hS⟩ ?_
    clear hF hS hm
    rintro nn1 i1 a w ⟨hF, hS⟩ hm
    generalize hφ1 : stK (gameroomref_AuctionOf_L1 calls1) nn1 (fun x => ((gameroomref_AuctionOf_K1 calls1) x).bind some) = φ1 at hm
    unfold gameroomref_AuctionOf_L1 at hm
    dsimp only at hm
    refine seq_cut (fun a w => Fr 114 [pl 0 (.slice A1 calls1.length c1), pl 2 (.pointer (some ⟨g1, 0, none⟩)), pl 4 (.int .i64 i1)] a ∧ Sep w0 B w (blk g1 47 #[.int .i64 0, .int .i64 0, .int .i64 0, .int .i64 0] :: fs) ∧ ((gameroomref_AuctionOf_J2 calls1 i1)).bind φ1 = some r) ?_ ?_
    · rintro a w ⟨hF, hS, hm⟩
      unfold gameroomref_AuctionOf_J2 at hm
      refine seq_cut (fun a w => Fr 114 [pl 0 (.slice A1 calls1.length c1), pl 2 (.pointer (some ⟨g1, 0, none⟩)), pl 4 (.int .i64 i1)] a ∧ Sep w0 B w (blk g1 47 #[.int .i64 0, .int .i64 0, .int .i64 0, .int .i64 0] :: fs) ∧ ((gameroomref_AuctionOf_J3 i1)).bind φ1 = some r) ?_ ?_
      · rintro a w ⟨hF, hS, hm⟩
        unfold gameroomref_AuctionOf_J3 at hm
        refine reg1 [] [] [0, 2, 4] [pl 0 (.slice A1 calls1.length c1), pl 2 (.pointer (some ⟨g1, 0, none⟩)), pl 4 (.int .i64 (w64 (i1 + 1)))] hF hS Fol (by kernel_rfl) (by kernel_rfl) (by kernel_rfl) ?_ (fun a w hF hS => ?_)
        · exact obs_nil
        refine then_n ?_
        rw [← hφ1] at hm
        exact ⟨(w64 (i1 + 1)), ⟨hF.weak [0, 2, 4] (by kernel_rfl), hS⟩, hm⟩
      · refine wp_block ?_
        refine seq_cut (fun a w => Fr 114 [pl 0 (.slice A1 calls1.length c1), pl 2 (.pointer (some ⟨g1, 0, none⟩)), pl 4 (.int .i64 i1)] a ∧ Sep w0 B w (blk g1 47 #[.int .i64 0, .int .i64 0, .int .i64 0, .int .i64 0] :: fs) ∧ ((gameroomref_AuctionOf_J4 calls1 i1)).bind φ1 = some r) ?_ ?_
        · rintro a w ⟨hF, hS, hm⟩
          unfold gameroomref_AuctionOf_J4 at hm
          refine seq_cut (fun a w => Fr 114 [pl 0 (.slice A1 calls1.length c1), pl 2 (.pointer (some ⟨g1, 0, none⟩)), pl 4 (.int .i64 i1)] a ∧ Sep w0 B w (blk g1 47 #[.int .i64 0, .int .i64 0, .int .i64 0, .int .i64 0] :: fs) ∧ ((gameroomref_AuctionOf_J5 calls1 i1)).bind φ1 = some r) ?_ ?_
          · rintro a w ⟨hF, hS, hm⟩
            unfold gameroomref_AuctionOf_J5 at hm
            obtain ⟨hp3, hm⟩ := asrt_b hm
            obtain ⟨hp4, hm⟩ := asrt_b hm
            obtain ⟨r3, hr3, hm⟩ := call_b hm
            refine reg [⟨true, [], vS (Instr.sliceAt 22 (.slice A1 calls1.length c1) none (some (.int .i64 i1)) none), .slice (cutAddr A1 c1 (0 : Int)) ((cut calls1 (0 : Int) i1).length) (c1 - Int.toNat (0 : Int))⟩, ⟨true, [], vS (Instr.indexAt 22 (.slice A1 calls1.length c1) (.int .i64 i1)), .pointer (some (sAddr A1 i1))⟩, ⟨false, [], vS (Instr.loadAt 3 (.pointer (some (sAddr A1 i1)))), .int .i64 (geti calls1 i1)⟩, ⟨false, [], callFunc 83 #[.slice (cutAddr A1 c1 (0 : Int)) ((cut calls1 (0 : Int) i1).length) (c1 - Int.toNat (0 : Int)), .int .i64 (geti calls1 i1)], .bool r3⟩] [none, none, some (.slice (cutAddr A1 c1 (0 : Int)) ((cut calls1 (0 : Int) i1).length) (c1 - Int.toNat (0 : Int))), none, none, some (.pointer (some (sAddr A1 i1))), some (.int .i64 (geti calls1 i1)), some (.bool r3), none] [0, 2, 4, 37] [pl 0 (.slice A1 calls1.length c1), pl 2 (.pointer (some ⟨g1, 0, none⟩)), pl 4 (.int .i64 i1), pl 37 (.bool (!r3))] hF hS Fol (by kernel_rfl) (by kernel_rfl) (by kernel_rfl) ?_ (fun a w hF hS => ?_)
            · exact obs_cons (ob_cutn (l := calls1) (k := .i64) (k' := .i64) Und22 hi3 hs3 rfl (.inr ⟨rfl, rfl⟩) (.inl rfl) (fun _ => hp3) _hc_calls1) <| obs_cons (ob_ix1 (f := (Value.int .i64)) (m := calls1) Und22 hi3 hs3 (hr_calls1 _ (hS.dropN 1)) rfl (fun _ => hp4)) <| obs_cons (ob_get1 (n := calls1.length) (m := calls1) (Value.int .i64) (0 : Int) Agg3 (fun _ hS => ⟨_, (hr_calls1 _ (hS.dropN 1))⟩) (fun _ hS => rfl) (fun _ => hp4)) <| obs_cons (ob_call Try.func83 (by kernel_rfl) rfl (fun _ _ hS => gameroomref_callMay_w hr3 hS (fun _ hS => (Rd.cutF (hr_calls1 _ (hS.dropN 1)) hp3 _hc_calls1)) (cap_cut hp3 _hc_calls1) rfl)) <| obs_nil
            refine cond_ev (t := 37) (b := !r3) hF (by kernel_rfl) (fun hb => ?_) (fun hb => ?_)
            · replace hm := if_t hm hb
              refine seqR ?_
              refine at_run 1 [] [] [2, 38] [pl 2 (.pointer (some ⟨g1, 0, none⟩)), pl 38 (.agg #[.int .i64 0, .int .i64 0, .int .i64 0, .int .i64 0])] hF hS (by kernel_rfl) (by kernel_rfl) ?_ (fun a w hF hS => ?_)
              · exact obs_nil
              obtain ⟨w, hrun, hS⟩ := run_putA (P := Try.prog) (t := 47) (us := #[.int .i64 0, .int .i64 0, .int .i64 0, .int .i64 0]) (o := 0) (hS.at_ 0 rfl) (by kernel_rfl) (all_one (by kernel_rfl)) (Nat.le_of_ble_eq_true (by kernel_rfl))
              refine at_skip hF (by kernel_rfl) hrun ?_
              have hS : Sep w0 B w (blk g1 47 #[.int .i64 0, .int .i64 0, .int .i64 0, .int .i64 0] :: fs) := hS
              refine at_run 1 [] [] [2, 3] [pl 2 (.pointer (some ⟨g1, 0, none⟩)), pl 3 (.int .i64 8)] hF hS (by kernel_rfl) (by kernel_rfl) ?_ (fun a w hF hS => ?_)
              · exact obs_nil
              refine at_end [2, 3] [pl 2 (.pointer (some ⟨g1, 0, none⟩)), pl 3 (.int .i64 8)] hF rfl (by kernel_rfl) (fun hF => ?_)
              refine then_n ?_
              refine wp_ret ?_
              refine block_r (then_r (then_r (block_r (then_r ?_))))
              rw [← hφ1] at hm
              have hld0 := run_loadVarA (P := Try.prog) (t := 47) (cs := #[.int .i64 0, .int .i64 0, .int .i64 0, .int .i64 0]) (by kernel_rfl) (by kernel_rfl) ((hS.at_ 0 rfl).cellsAt 0 (by rfl))
              have hS := hS.pickN 1 [] (by decide)
              have hm : some (0, 0, 0, 0, 8) = some r := hm
              obtain rfl := Option.some.inj hm
              exact retV (rs := [.cell 2 47, .tmp 3]) (vs := [.agg #[.int .i64 0, .int .i64 0, .int .i64 0, .int .i64 0], .int .i64 8]) hF rfl (rv_c (by kernel_rfl) hld0 <| rv_t (by kernel_rfl) <| rv_nil) rfl ⟨rfl, hS⟩
            · replace hm := if_f hm hb
              refine wp_skip ?_
              refine block_n ?_
              refine then_n ?_
              exact ⟨hF.weak [0, 2, 4] (by kernel_rfl), hS, hm⟩
          · obtain ⟨hp2, hm⟩ := asrt_b hm
            obtain ⟨r2, hr2, hm⟩ := call_b hm
            refine reg [⟨true, [], vS (Instr.sliceAt 22 (.slice A1 calls1.length c1) none (some (.int .i64 i1)) none), .slice (cutAddr A1 c1 (0 : Int)) ((cut calls1 (0 : Int) i1).length) (c1 - Int.toNat (0 : Int))⟩, ⟨false, [], callFunc 82 #[.slice (cutAddr A1 c1 (0 : Int)) ((cut calls1 (0 : Int) i1).length) (c1 - Int.toNat (0 : Int))], .bool r2⟩] [none, none, some (.slice (cutAddr A1 c1 (0 : Int)) ((cut calls1 (0 : Int) i1).length) (c1 - Int.toNat (0 : Int))), some (.bool r2)] [0, 2, 4, 27] [pl 0 (.slice A1 calls1.length c1), pl 2 (.pointer (some ⟨g1, 0, none⟩)), pl 4 (.int .i64 i1), pl 27 (.bool r2)] hF hS Fol (by kernel_rfl) (by kernel_rfl) (by kernel_rfl) ?_ (fun a w hF hS => ?_)
            · exact obs_cons (ob_cutn (l := calls1) (k := .i64) (k' := .i64) Und22 hi3 hs3 rfl (.inr ⟨rfl, rfl⟩) (.inl rfl) (fun _ => hp2) _hc_calls1) <| obs_cons (ob_call Try.func82 (by kernel_rfl) rfl (fun _ _ hS => gameroomref_auctionOver_w hr2 hS (fun _ hS => (Rd.cutF (hr_calls1 _ (hS.dropN 1)) hp2 _hc_calls1)) (cap_cut hp2 _hc_calls1) rfl)) <| obs_nil
            refine cond_ev (t := 27) (b := r2) hF (by kernel_rfl) (fun hb => ?_) (fun hb => ?_)
            · replace hm := if_t hm hb
              refine seqR ?_
              refine at_run 1 [] [] [2, 28] [pl 2 (.pointer (some ⟨g1, 0, none⟩)), pl 28 (.agg #[.int .i64 0, .int .i64 0, .int .i64 0, .int .i64 0])] hF hS (by kernel_rfl) (by kernel_rfl) ?_ (fun a w hF hS => ?_)
              · exact obs_nil
              obtain ⟨w, hrun, hS⟩ := run_putA (P := Try.prog) (t := 47) (us := #[.int .i64 0, .int .i64 0, .int .i64 0, .int .i64 0]) (o := 0) (hS.at_ 0 rfl) (by kernel_rfl) (all_one (by kernel_rfl)) (Nat.le_of_ble_eq_true (by kernel_rfl))
              refine at_skip hF (by kernel_rfl) hrun ?_
              have hS : Sep w0 B w (blk g1 47 #[.int .i64 0, .int .i64 0, .int .i64 0, .int .i64 0] :: fs) := hS
              refine at_run 1 [] [] [2, 3] [pl 2 (.pointer (some ⟨g1, 0, none⟩)), pl 3 (.int .i64 9)] hF hS (by kernel_rfl) (by kernel_rfl) ?_ (fun a w hF hS => ?_)
              · exact obs_nil
              refine at_end [2, 3] [pl 2 (.pointer (some ⟨g1, 0, none⟩)), pl 3 (.int .i64 9)] hF rfl (by kernel_rfl) (fun hF => ?_)
              refine then_n ?_
              refine wp_ret ?_
              refine then_r (block_r (then_r (then_r (block_r (then_r ?_)))))
              rw [← hφ1] at hm
              have hld0 := run_loadVarA (P := Try.prog) (t := 47) (cs := #[.int .i64 0, .int .i64 0, .int .i64 0, .int .i64 0]) (by kernel_rfl) (by kernel_rfl) ((hS.at_ 0 rfl).cellsAt 0 (by rfl))
              have hS := hS.pickN 1 [] (by decide)
              have hm : some (0, 0, 0, 0, 9) = some r := hm
              obtain rfl := Option.some.inj hm
              exact retV (rs := [.cell 2 47, .tmp 3]) (vs := [.agg #[.int .i64 0, .int .i64 0, .int .i64 0, .int .i64 0], .int .i64 9]) hF rfl (rv_c (by kernel_rfl) hld0 <| rv_t (by kernel_rfl) <| rv_nil) rfl ⟨rfl, hS⟩
            · replace hm := if_f hm hb
              refine wp_skip ?_
              refine then_n ?_
              exact ⟨hF.weak [0, 2, 4] (by kernel_rfl), hS, hm⟩
        · obtain ⟨hp1, hm⟩ := asrt_b hm
          obtain ⟨r1, hr1, hm⟩ := call_b hm
          refine reg [⟨true, [], vS (Instr.indexAt 22 (.slice A1 calls1.length c1) (.int .i64 i1)), .pointer (some (sAddr A1 i1))⟩, ⟨false, [], vS (Instr.loadAt 3 (.pointer (some (sAddr A1 i1)))), .int .i64 (geti calls1 i1)⟩, ⟨false, [], callFunc 60 #[.int .i64 (geti calls1 i1), .int .i64 0, .int .i64 37], .bool r1⟩] [none, none, some (.pointer (some (sAddr A1 i1))), some (.int .i64 (geti calls1 i1)), some (.bool r1), none] [0, 2, 4, 22] [pl 0 (.slice A1 calls1.length c1), pl 2 (.pointer (some ⟨g1, 0, none⟩)), pl 4 (.int .i64 i1), pl 22 (.bool (!r1))] hF hS Fol (by kernel_rfl) (by kernel_rfl) (by kernel_rfl) ?_ (fun a w hF hS => ?_)
          · exact obs_cons (ob_ix1 (f := (Value.int .i64)) (m := calls1) Und22 hi3 hs3 (hr_calls1 _ (hS.dropN 1)) rfl (fun _ => hp1)) <| obs_cons (ob_get1 (n := calls1.length) (m := calls1) (Value.int .i64) (0 : Int) Agg3 (fun _ hS => ⟨_, (hr_calls1 _ (hS.dropN 1))⟩) (fun _ hS => rfl) (fun _ => hp1)) <| obs_cons (ob_call Try.func60 (by kernel_rfl) rfl (fun _ _ hS => gameroomref_within_w hr1 hS )) <| obs_nil
          refine cond_ev (t := 22) (b := !r1) hF (by kernel_rfl) (fun hb => ?_) (fun hb => ?_)
          · replace hm := if_t hm hb
            refine seqR ?_
            refine at_run 1 [] [] [2, 23] [pl 2 (.pointer (some ⟨g1, 0, none⟩)), pl 23 (.agg #[.int .i64 0, .int .i64 0, .int .i64 0, .int .i64 0])] hF hS (by kernel_rfl) (by kernel_rfl) ?_ (fun a w hF hS => ?_)
            · exact obs_nil
            obtain ⟨w, hrun, hS⟩ := run_putA (P := Try.prog) (t := 47) (us := #[.int .i64 0, .int .i64 0, .int .i64 0, .int .i64 0]) (o := 0) (hS.at_ 0 rfl) (by kernel_rfl) (all_one (by kernel_rfl)) (Nat.le_of_ble_eq_true (by kernel_rfl))
            refine at_skip hF (by kernel_rfl) hrun ?_
            have hS : Sep w0 B w (blk g1 47 #[.int .i64 0, .int .i64 0, .int .i64 0, .int .i64 0] :: fs) := hS
            refine at_run 1 [] [] [2, 3] [pl 2 (.pointer (some ⟨g1, 0, none⟩)), pl 3 (.int .i64 3)] hF hS (by kernel_rfl) (by kernel_rfl) ?_ (fun a w hF hS => ?_)
            · exact obs_nil
            refine at_end [2, 3] [pl 2 (.pointer (some ⟨g1, 0, none⟩)), pl 3 (.int .i64 3)] hF rfl (by kernel_rfl) (fun hF => ?_)
            refine then_n ?_
            refine wp_ret ?_
            refine then_r (block_r (then_r (then_r (block_r (then_r ?_)))))
            rw [← hφ1] at hm
            have hld0 := run_loadVarA (P := Try.prog) (t := 47) (cs := #[.int .i64 0, .int .i64 0, .int .i64 0, .int .i64 0]) (by kernel_rfl) (by kernel_rfl) ((hS.at_ 0 rfl).cellsAt 0 (by rfl))
            have hS := hS.pickN 1 [] (by decide)
            have hm : some (0, 0, 0, 0, 3) = some r := hm
            obtain rfl := Option.some.inj hm
            exact retV (rs := [.cell 2 47, .tmp 3]) (vs := [.agg #[.int .i64 0, .int .i64 0, .int .i64 0, .int .i64 0], .int .i64 3]) hF rfl (rv_c (by kernel_rfl) hld0 <| rv_t (by kernel_rfl) <| rv_nil) rfl ⟨rfl, hS⟩
          · replace hm := if_f hm hb
            refine wp_skip ?_
            refine then_n ?_
            exact ⟨hF.weak [0, 2, 4] (by kernel_rfl), hS, hm⟩
    · refine reg [] [] [0, 2, 4, 14] [pl 0 (.slice A1 calls1.length c1), pl 2 (.pointer (some ⟨g1, 0, none⟩)), pl 4 (.int .i64 i1), pl 14 (.bool (decide (i1 < (calls1.length : Int))))] hF hS Fol (by kernel_rfl) (by kernel_rfl) (by kernel_rfl) ?_ (fun a w hF hS => ?_)
      · exact obs_nil
      refine cond_ev (t := 14) (b := decide (i1 < (calls1.length : Int))) hF (by kernel_rfl) (fun hb => ?_) (fun hb => ?_)
      · replace hm := if_t hm hb
        refine wp_skip ?_
        refine then_n ?_
        exact ⟨hF.weak [0, 2, 4] (by kernel_rfl), hS, hm⟩
      · replace hm := if_f hm hb
        refine wp_exit ?_
        refine then_e (then_e (block_e (then_n ?_)))
        rw [← hφ1] at hm
        have hm : ((gameroomref_AuctionOf_J1 calls1)).bind some = some r := hm
        exact ⟨hF.weak [0, 2] (by kernel_rfl), hS, hm⟩

noncomputable def gameroomlaw_BridgeAuctions_m (calls1 : List Int) : Option Bool :=
  (gameroomlaw_ints_m calls1).bind fun r1 => (bridge_Auction_m r1).bind fun r2 => (gameroomref_AuctionOf_m calls1).bind fun r3 => some ((r2.2.2.2.2 == r3.2.2.2.2) && ((r2.1 == r3.1) && ((r2.2.1 == r3.2.1) && ((r2.2.2.1 == r3.2.2.1) && (r2.2.2.2.1 == r3.2.2.2.1)))))

set_option maxRecDepth 100000 in
set_option maxHeartbeats 4000000 in
theorem gameroomlaw_BridgeAuctions_w {A1 : Option Addr} {c1 : Nat} {n1 : Nat} {calls1 : List Int} {r : Bool} {w0 w : World} {B : Nat} {fs : List HP} (hm : gameroomlaw_BridgeAuctions_m calls1 = some r) (hS : Sep w0 B w (fs)) (hr_calls1 : RdF w0 B fs A1 (vI calls1)) (_hc_calls1 : calls1.length ≤ c1) (_hn_calls1 : n1 = calls1.length) :
    Calls Try.prog 13 #[.slice A1 n1 c1] w fun e w' => e = .returned (.bool r) ∧ Sep w0 B w' (fs) := by
  obtain ⟨i3, hi3, hz3, hs3, hb3⟩ := info_parts Info3
  obtain rfl := _hn_calls1
  unfold gameroomlaw_BridgeAuctions_m at hm
  replace hm := start_b hm
  refine enter (l := [.slice A1 calls1.length c1]) (n := 26) Try.func13 rfl rfl (by simp) (fun a hF => ?_)
  refine reg [] [] [0] [pl 0 (.slice A1 calls1.length c1)] hF hS Fol (by kernel_rfl) (by kernel_rfl) (by kernel_rfl) ?_ (fun a w hF hS => ?_)
  · exact obs_nil
  refine seqR ?_
  obtain ⟨r1, hr1, hm⟩ := call_b hm
  obtain ⟨r2, hr2, hm⟩ := call_b hm
  refine at_run 1 [] [] [0, 8] [pl 0 (.slice A1 calls1.length c1), pl 8 (.slice A1 calls1.length c1)] hF hS (by kernel_rfl) (by kernel_rfl) ?_ (fun a w hF hS => ?_)
  · exact obs_nil
  refine at_call (f := 16) (args := #[.slice A1 calls1.length c1]) (d := 9) hF (by kernel_rfl) (by kernel_rfl) Try.func16 (by kernel_rfl) rfl (gameroomlaw_ints_w hr1 hS (fun _ hS => (hr_calls1 _ (hS.dropN 0))) _hc_calls1 rfl) (fun v a w hR hF => ?_)
  clear hS
  obtain ⟨A2, c2, rfl, hS⟩ := hR
  have hS : Sep w0 B w (own 3 (.slice A2 r1.length c2) (vI r1) :: fs) := hS
  refine at_run 4 [⟨false, [], callFunc 46 #[.slice A2 r1.length c2], .tuple #[.agg #[.int .i64 r2.1, .int .i64 r2.2.1, .int .i64 r2.2.2.1, .int .i64 r2.2.2.2.1], .int .i64 r2.2.2.2.2]⟩] [some (.tuple #[.agg #[.int .i64 r2.1, .int .i64 r2.2.1, .int .i64 r2.2.2.1, .int .i64 r2.2.2.2.1], .int .i64 r2.2.2.2.2]), none, none, none] [0, 11, 12] [pl 0 (.slice A1 calls1.length c1), pl 11 (.agg #[.int .i64 r2.1, .int .i64 r2.2.1, .int .i64 r2.2.2.1, .int .i64 r2.2.2.2.1]), pl 12 (.int .i64 r2.2.2.2.2)] hF hS (by kernel_rfl) (by kernel_rfl) ?_ (fun a w hF hS => ?_)
  · exact obs_cons (ob_call Try.func46 (by kernel_rfl) rfl (fun _ _ hS => bridge_Auction_w hr2 hS (fun _ hS => (hS.at_ 0 rfl).rd) (hS.at_ 0 rfl).cap1 rfl)) <| obs_nil
  refine at_do (d := 3) (s := vS (Instr.alloc 47 true (.tuple #[]))) (v := .pointer (some ⟨w.heap.size, 0, none⟩)) (w' := w.alloc (.cells #[.int .i64 0, .int .i64 0, .int .i64 0, .int .i64 0] 47)) hF (by kernel_rfl) (by kernel_rfl) (by kernel_rfl) (fun a hF => ?_)
  have hS : Sep w0 B (w.alloc (.cells #[.int .i64 0, .int .i64 0, .int .i64 0, .int .i64 0] 47)) (blk w.heap.size 47 #[.int .i64 0, .int .i64 0, .int .i64 0, .int .i64 0] :: (own 3 (.slice A2 r1.length c2) (vI r1) :: fs)) := hS.box 47 #[.int .i64 0, .int .i64 0, .int .i64 0, .int .i64 0]
  generalize w.heap.size = g1 at hF hS
  generalize w.alloc (.cells #[.int .i64 0, .int .i64 0, .int .i64 0, .int .i64 0] 47) = w at hS ⊢
  obtain ⟨w, hrun, hS⟩ := run_putA (P := Try.prog) (t := 47) (us := #[.int .i64 r2.1, .int .i64 r2.2.1, .int .i64 r2.2.2.1, .int .i64 r2.2.2.2.1]) (o := 0) (hS.at_ 0 rfl) (by kernel_rfl) (all_one (by kernel_rfl)) (Nat.le_of_ble_eq_true (by kernel_rfl))
  refine at_skip hF (by kernel_rfl) hrun ?_
  have hS : Sep w0 B w (blk g1 47 #[.int .i64 r2.1, .int .i64 r2.2.1, .int .i64 r2.2.2.1, .int .i64 r2.2.2.2.1] :: own 3 (.slice A2 r1.length c2) (vI r1) :: fs) := hS
  refine at_run 1 [] [] [0, 3, 4] [pl 0 (.slice A1 calls1.length c1), pl 3 (.pointer (some ⟨g1, 0, none⟩)), pl 4 (.int .i64 r2.2.2.2.2)] hF hS (by kernel_rfl) (by kernel_rfl) ?_ (fun a w hF hS => ?_)
  · exact obs_nil
  refine at_end [0, 3, 4] [pl 0 (.slice A1 calls1.length c1), pl 3 (.pointer (some ⟨g1, 0, none⟩)), pl 4 (.int .i64 r2.2.2.2.2)] hF rfl (by kernel_rfl) (fun hF => ?_)
  refine then_n ?_
  refine seqR ?_
  obtain ⟨r3, hr3, hm⟩ := call_b hm
  refine at_run 5 [⟨false, [], callFunc 47 #[.slice A1 calls1.length c1], .tuple #[.agg #[.int .i64 r3.1, .int .i64 r3.2.1, .int .i64 r3.2.2.1, .int .i64 r3.2.2.2.1], .int .i64 r3.2.2.2.2]⟩] [none, some (.tuple #[.agg #[.int .i64 r3.1, .int .i64 r3.2.1, .int .i64 r3.2.2.1, .int .i64 r3.2.2.2.1], .int .i64 r3.2.2.2.2]), none, none, none] [3, 4, 16, 17] [pl 3 (.pointer (some ⟨g1, 0, none⟩)), pl 4 (.int .i64 r2.2.2.2.2), pl 16 (.agg #[.int .i64 r3.1, .int .i64 r3.2.1, .int .i64 r3.2.2.1, .int .i64 r3.2.2.2.1]), pl 17 (.int .i64 r3.2.2.2.2)] hF hS (by kernel_rfl) (by kernel_rfl) ?_ (fun a w hF hS => ?_)
  · exact obs_cons (ob_call Try.func47 (by kernel_rfl) rfl (fun _ _ hS => gameroomref_AuctionOf_w hr3 hS (fun _ hS => (hr_calls1 _ (hS.dropN 2))) _hc_calls1 rfl)) <| obs_nil
  refine at_do (d := 5) (s := vS (Instr.alloc 47 true (.tuple #[]))) (v := .pointer (some ⟨w.heap.size, 0, none⟩)) (w' := w.alloc (.cells #[.int .i64 0, .int .i64 0, .int .i64 0, .int .i64 0] 47)) hF (by kernel_rfl) (by kernel_rfl) (by kernel_rfl) (fun a hF => ?_)
  have hS : Sep w0 B (w.alloc (.cells #[.int .i64 0, .int .i64 0, .int .i64 0, .int .i64 0] 47)) (blk w.heap.size 47 #[.int .i64 0, .int .i64 0, .int .i64 0, .int .i64 0] :: (blk g1 47 #[.int .i64 r2.1, .int .i64 r2.2.1, .int .i64 r2.2.2.1, .int .i64 r2.2.2.2.1] :: own 3 (.slice A2 r1.length c2) (vI r1) :: fs)) := hS.box 47 #[.int .i64 0, .int .i64 0, .int .i64 0, .int .i64 0]
  generalize w.heap.size = g2 at hF hS
  generalize w.alloc (.cells #[.int .i64 0, .int .i64 0, .int .i64 0, .int .i64 0] 47) = w at hS ⊢
  obtain ⟨w, hrun, hS⟩ := run_putA (P := Try.prog) (t := 47) (us := #[.int .i64 r3.1, .int .i64 r3.2.1, .int .i64 r3.2.2.1, .int .i64 r3.2.2.2.1]) (o := 0) (hS.at_ 0 rfl) (by kernel_rfl) (all_one (by kernel_rfl)) (Nat.le_of_ble_eq_true (by kernel_rfl))
  refine at_skip hF (by kernel_rfl) hrun ?_
  have hS : Sep w0 B w (blk g2 47 #[.int .i64 r3.1, .int .i64 r3.2.1, .int .i64 r3.2.2.1, .int .i64 r3.2.2.2.1] :: blk g1 47 #[.int .i64 r2.1, .int .i64 r2.2.1, .int .i64 r2.2.2.1, .int .i64 r2.2.2.2.1] :: own 3 (.slice A2 r1.length c2) (vI r1) :: fs) := hS
  refine at_run 1 [] [] [3, 4, 5, 6] [pl 3 (.pointer (some ⟨g1, 0, none⟩)), pl 4 (.int .i64 r2.2.2.2.2), pl 5 (.pointer (some ⟨g2, 0, none⟩)), pl 6 (.int .i64 r3.2.2.2.2)] hF hS (by kernel_rfl) (by kernel_rfl) ?_ (fun a w hF hS => ?_)
  · exact obs_nil
  refine at_end [3, 4, 5, 6] [pl 3 (.pointer (some ⟨g1, 0, none⟩)), pl 4 (.int .i64 r2.2.2.2.2), pl 5 (.pointer (some ⟨g2, 0, none⟩)), pl 6 (.int .i64 r3.2.2.2.2)] hF rfl (by kernel_rfl) (fun hF => ?_)
  refine then_n ?_
  refine reg [⟨false, [((r2.2.2.2.2 == r3.2.2.2.2), true)], vS (Instr.loadAt 47 (.pointer (some ⟨g1, 0, none⟩))), .agg #[.int .i64 r2.1, .int .i64 r2.2.1, .int .i64 r2.2.2.1, .int .i64 r2.2.2.2.1]⟩, ⟨false, [((r2.2.2.2.2 == r3.2.2.2.2), true)], vS (Instr.loadAt 47 (.pointer (some ⟨g2, 0, none⟩))), .agg #[.int .i64 r3.1, .int .i64 r3.2.1, .int .i64 r3.2.2.1, .int .i64 r3.2.2.2.1]⟩, ⟨true, [((r2.2.2.2.2 == r3.2.2.2.2), true)], vS (do eqGuard .eql 47 (.tmp 22) (.tmp 23) (.agg #[.int .i64 r2.1, .int .i64 r2.2.1, .int .i64 r2.2.2.1, .int .i64 r2.2.2.2.1]) (.agg #[.int .i64 r3.1, .int .i64 r3.2.1, .int .i64 r3.2.2.1, .int .i64 r3.2.2.2.1]); binOp .eql 47 (.agg #[.int .i64 r2.1, .int .i64 r2.2.1, .int .i64 r2.2.2.1, .int .i64 r2.2.2.2.1]) (.agg #[.int .i64 r3.1, .int .i64 r3.2.1, .int .i64 r3.2.2.1, .int .i64 r3.2.2.2.1])), .bool (((r2.1 == r3.1) && ((r2.2.1 == r3.2.1) && ((r2.2.2.1 == r3.2.2.1) && (r2.2.2.2.1 == r3.2.2.2.1)))))⟩] [none, none, none, none, some (.agg #[.int .i64 r2.1, .int .i64 r2.2.1, .int .i64 r2.2.2.1, .int .i64 r2.2.2.2.1]), some (.agg #[.int .i64 r3.1, .int .i64 r3.2.1, .int .i64 r3.2.2.1, .int .i64 r3.2.2.2.1]), some (.bool (((r2.1 == r3.1) && ((r2.2.1 == r3.2.1) && ((r2.2.2.1 == r3.2.2.1) && (r2.2.2.2.1 == r3.2.2.2.1)))))), none, none] [2] [pl 2 (.bool ((r2.2.2.2.2 == r3.2.2.2.2) && ((r2.1 == r3.1) && ((r2.2.1 == r3.2.1) && ((r2.2.2.1 == r3.2.2.1) && (r2.2.2.2.1 == r3.2.2.2.1))))))] hF hS Fol (by kernel_rfl) (by kernel_rfl) (by kernel_rfl) ?_ (fun a w hF hS => ?_)
  · exact obs_cons (ob_loadA (cs := #[.int .i64 r2.1, .int .i64 r2.2.1, .int .i64 r2.2.2.1, .int .i64 r2.2.2.2.1]) (by kernel_rfl) (by kernel_rfl) (fun _ _ hS => (hS.at_ 1 rfl).cellsAt 0 (by rfl))) <| obs_cons (ob_loadA (cs := #[.int .i64 r3.1, .int .i64 r3.2.1, .int .i64 r3.2.2.1, .int .i64 r3.2.2.2.1]) (by kernel_rfl) (by kernel_rfl) (fun _ _ hS => (hS.at_ 0 rfl).cellsAt 0 (by rfl))) <| obs_cons (ob_eql rfl (by kernel_rfl) (fun w => Eql47 w)) <| obs_nil
  refine wp_ret ?_
  have hS := hS.pickN 3 [] (by decide)
  have hm : some ((r2.2.2.2.2 == r3.2.2.2.2) && ((r2.1 == r3.1) && ((r2.2.1 == r3.2.1) && ((r2.2.2.1 == r3.2.2.1) && (r2.2.2.2.1 == r3.2.2.2.1))))) = some r := hm
  obtain rfl := Option.some.inj hm
  exact retV (rs := [.tmp 2]) (vs := [.bool ((r2.2.2.2.2 == r3.2.2.2.2) && ((r2.1 == r3.1) && ((r2.2.1 == r3.2.1) && ((r2.2.2.1 == r3.2.2.1) && (r2.2.2.2.1 == r3.2.2.2.1)))))]) hF rfl (rv_t (by kernel_rfl) <| rv_nil) rfl ⟨rfl, hS⟩

end Go.Proofs.Ytnplejebgbdfpaa
