/-
  Models and walks, printed by our own program (wip/gen).
-/
import Derived.Test.YtbmhcapeikebgaaFB
import Derived.Test.YtbmhcapeikebgaaLibJ
import Derived.Test.YtbmhcapeikebgaaLibD
namespace Go.Proofs.Ytbmhcapeikebgaa
open Go Go.GL Go.RowKit




noncomputable def gameroomref_Ints_m (l1 : List Int) : Option (List Int) :=
  asrt ((0 : Int) + (l1.length : Int) ≤ bigN) <| some ([] ++ l1)

set_option maxRecDepth 100000 in
set_option maxHeartbeats 4000000 in
theorem gameroomref_Ints_w {A1 : Option Addr} {c1 : Nat} {n1 : Nat} {l1 : List Int} {r : (List Int)} {w0 w : World} {B : Nat} {fs : List HP} (hm : gameroomref_Ints_m l1 = some r) (hS : Sep w0 B w (fs)) (hr_l1 : RdF w0 B fs A1 (vI l1)) (_hc_l1 : l1.length ≤ c1) (_hn_l1 : n1 = l1.length) :
    Calls Try.prog 93 #[.slice A1 n1 c1] w fun e w' => ∃ v, e = .returned v ∧ ∃ (A3 : Option Addr) (c3 : Nat), v = .slice A3 r.length c3 ∧ Sep w0 B w' (own 3 (.slice A3 r.length c3) (vI r) :: fs) := by
  obtain ⟨i3, hi3, hz3, hs3, hb3⟩ := info_parts Info3
  obtain rfl := _hn_l1
  unfold gameroomref_Ints_m at hm
  replace hm := start_b hm
  refine enter (l := [.slice A1 l1.length c1]) (n := 5) Try.func93 rfl rfl (by simp) (fun a hF => ?_)
  refine reg [] [] [0] [pl 0 (.slice A1 l1.length c1)] hF hS Fol (by kernel_rfl) (by kernel_rfl) (by kernel_rfl) ?_ (fun a w hF hS => ?_)
  · exact obs_nil
  refine seqR ?_
  obtain ⟨hp1, hm⟩ := asrt_b hm
  refine at_run 1 [] [] [3] [pl 3 (.slice A1 l1.length c1)] hF hS (by kernel_rfl) (by kernel_rfl) ?_ (fun a w hF hS => ?_)
  · exact obs_nil
  have hS : Sep w0 B w (own 3 (.slice none 0 0) (vI ([] : List Int)) :: fs) := hS.nil 3
  obtain ⟨A2, c2, w, hrun, hS⟩ := run_app1 (P := Try.prog) (t := 40) (m := ([] : List Int)) (ys := l1) (A2 := A1) (m2 := l1.length) (c2 := c1) (Value.int .i64) (0 : Int) (hS.at_ 0 rfl) (hr_l1 _ (hS.dropN 1)) rfl 40 Und40 hi3 hz3 hs3 (by omega) rfl (fun _ => rfl) hp1
  have hS : Sep w0 B w (own 3 (.slice A2 (([] ++ l1).length) c2) (vI ([] ++ l1)) :: fs) := hS
  refine at_do (d := 4) hF (by kernel_rfl) (by kernel_rfl) hrun (fun a hF => ?_)
  refine at_run 1 [] [] [2] [pl 2 (.slice A2 (([] ++ l1).length) c2)] hF hS (by kernel_rfl) (by kernel_rfl) ?_ (fun a w hF hS => ?_)
  · exact obs_nil
  refine at_end [2] [pl 2 (.slice A2 (([] ++ l1).length) c2)] hF rfl (by kernel_rfl) (fun hF => ?_)
  refine then_n ?_
  refine wp_ret ?_
  have hm : some ([] ++ l1) = some r := hm
  obtain rfl := Option.some.inj hm
  exact retV (rs := [.tmp 2]) (vs := [.slice A2 (([] ++ l1).length) c2]) hF rfl (rv_t (by kernel_rfl) <| rv_nil) rfl ⟨_, rfl, A2, c2, rfl, hS⟩

noncomputable def gameroomref_GammonOf_m (b1 : List Int) (b2 : Int) (b3 : Int) (b4 : Int) : Option (List Int × Int × Int × Int) :=
  (gameroomref_Ints_m b1).bind fun r1 => some (r1, b2, b3, b4)

set_option maxRecDepth 100000 in
set_option maxHeartbeats 4000000 in
theorem gameroomref_GammonOf_w {A1 : Option Addr} {c1 : Nat} {n1 : Nat} {b1 : List Int} {b2 : Int} {b3 : Int} {b4 : Int} {r : (List Int × Int × Int × Int)} {w0 w : World} {B : Nat} {fs : List HP} (hm : gameroomref_GammonOf_m b1 b2 b3 b4 = some r) (hS : Sep w0 B w (fs)) (hr_b1 : RdF w0 B fs A1 (vI b1)) (_hc_b1 : b1.length ≤ c1) (_hn_b1 : n1 = b1.length) :
    Calls Try.prog 41 #[.agg #[.slice A1 n1 c1, .int .i64 b2, .int .i64 b3, .int .i64 b4]] w fun e w' => ∃ v, e = .returned v ∧ ∃ (A3 : Option Addr) (c3 : Nat), v = .agg #[.slice A3 r.1.length c3, .int .i64 r.2.1, .int .i64 r.2.2.1, .int .i64 r.2.2.2] ∧ Sep w0 B w' (own 3 (.slice A3 r.1.length c3) (vI r.1) :: fs) := by
  obtain ⟨i3, hi3, hz3, hs3, hb3⟩ := info_parts Info3
  obtain ⟨i40, hi40, hz40, hs40, hb40⟩ := info_parts Info40
  obtain rfl := _hn_b1
  unfold gameroomref_GammonOf_m at hm
  replace hm := start_b hm
  refine enter (l := [.agg #[.slice A1 b1.length c1, .int .i64 b2, .int .i64 b3, .int .i64 b4]]) (n := 8) Try.func41 rfl rfl (by simp) (fun a hF => ?_)
  refine seqR ?_
  refine at_do (d := 1) (s := vS (Instr.box 61 (.agg #[.slice A1 b1.length c1, .int .i64 b2, .int .i64 b3, .int .i64 b4]))) (v := .pointer (some ⟨w.heap.size, 0, none⟩)) (w' := w.alloc (.cells #[.slice A1 b1.length c1, .int .i64 b2, .int .i64 b3, .int .i64 b4] 61)) hF (by kernel_rfl) (by kernel_rfl) (by kernel_rfl) (fun a hF => ?_)
  have hS : Sep w0 B (w.alloc (.cells #[.slice A1 b1.length c1, .int .i64 b2, .int .i64 b3, .int .i64 b4] 61)) (blk w.heap.size 61 #[.slice A1 b1.length c1, .int .i64 b2, .int .i64 b3, .int .i64 b4] :: (fs)) := hS.box 61 #[.slice A1 b1.length c1, .int .i64 b2, .int .i64 b3, .int .i64 b4]
  generalize w.heap.size = g1 at hF hS
  generalize w.alloc (.cells #[.slice A1 b1.length c1, .int .i64 b2, .int .i64 b3, .int .i64 b4] 61) = w at hS ⊢
  refine at_do (d := 2) (s := vS (Instr.alloc 61 true (.tuple #[]))) (v := .pointer (some ⟨w.heap.size, 0, none⟩)) (w' := w.alloc (.cells #[.slice none 0 0, .int .i64 0, .int .i64 0, .int .i64 0] 61)) hF (by kernel_rfl) (by kernel_rfl) (by kernel_rfl) (fun a hF => ?_)
  have hS : Sep w0 B (w.alloc (.cells #[.slice none 0 0, .int .i64 0, .int .i64 0, .int .i64 0] 61)) (blk w.heap.size 61 #[.slice none 0 0, .int .i64 0, .int .i64 0, .int .i64 0] :: (blk g1 61 #[.slice A1 b1.length c1, .int .i64 b2, .int .i64 b3, .int .i64 b4] :: fs)) := hS.box 61 #[.slice none 0 0, .int .i64 0, .int .i64 0, .int .i64 0]
  generalize w.heap.size = g2 at hF hS
  generalize w.alloc (.cells #[.slice none 0 0, .int .i64 0, .int .i64 0, .int .i64 0] 61) = w at hS ⊢
  refine at_end [1, 2] [pl 1 (.pointer (some ⟨g1, 0, none⟩)), pl 2 (.pointer (some ⟨g2, 0, none⟩))] hF rfl (by kernel_rfl) (fun hF => ?_)
  refine then_n ?_
  refine seqR ?_
  obtain ⟨r1, hr1, hm⟩ := call_b hm
  refine at_run 2 [⟨false, [], vS (Instr.loadAt 40 (.pointer (some ⟨g1, 0, none⟩))), .slice A1 b1.length c1⟩] [none, some (.slice A1 b1.length c1)] [1, 2, 4] [pl 1 (.pointer (some ⟨g1, 0, none⟩)), pl 2 (.pointer (some ⟨g2, 0, none⟩)), pl 4 (.slice A1 b1.length c1)] hF hS (by kernel_rfl) (by kernel_rfl) ?_ (fun a w hF hS => ?_)
  · exact obs_cons (ob_load Agg40 (fun _ _ hS => (hS.at_ 1 rfl).cell rfl)) <| obs_nil
  refine at_call (f := 93) (args := #[.slice A1 b1.length c1]) (d := 5) hF (by kernel_rfl) (by kernel_rfl) Try.func93 (by kernel_rfl) rfl (gameroomref_Ints_w hr1 hS (fun _ hS => (hr_b1 _ (hS.dropN 2))) _hc_b1 rfl) (fun v a w hR hF => ?_)
  clear hS
  obtain ⟨A2, c2, rfl, hS⟩ := hR
  have hS : Sep w0 B w (own 3 (.slice A2 r1.length c2) (vI r1) :: blk g2 61 #[.slice none 0 0, .int .i64 0, .int .i64 0, .int .i64 0] :: blk g1 61 #[.slice A1 b1.length c1, .int .i64 b2, .int .i64 b3, .int .i64 b4] :: fs) := hS
  refine at_run 1 [] [] [1, 2, 5, 6] [pl 1 (.pointer (some ⟨g1, 0, none⟩)), pl 2 (.pointer (some ⟨g2, 0, none⟩)), pl 5 (.slice A2 r1.length c2), pl 6 (.pointer (some ⟨g1, 0, none⟩))] hF hS (by kernel_rfl) (by kernel_rfl) ?_ (fun a w hF hS => ?_)
  · exact obs_nil
  obtain ⟨w, hrun, hS⟩ := run_put (P := Try.prog) (t := 40) (u := .slice A2 r1.length c2) (i := 0) (hS.at_ 2 rfl) hi40 hs40 rfl (Nat.lt_of_lt_of_eq (Nat.lt_of_succ_le (Nat.le_of_ble_eq_true (by kernel_rfl))) rfl)
  refine at_skip hF (by kernel_rfl) hrun ?_
  have hS : Sep w0 B w (own 3 (.slice A2 r1.length c2) (vI r1) :: blk g2 61 #[.slice none 0 0, .int .i64 0, .int .i64 0, .int .i64 0] :: blk g1 61 #[.slice A2 r1.length c2, .int .i64 b2, .int .i64 b3, .int .i64 b4] :: fs) := hS
  refine at_end [1, 2] [pl 1 (.pointer (some ⟨g1, 0, none⟩)), pl 2 (.pointer (some ⟨g2, 0, none⟩))] hF rfl (by kernel_rfl) (fun hF => ?_)
  refine then_n ?_
  refine seqR ?_
  refine at_run 1 [⟨false, [], vS (Instr.loadAt 61 (.pointer (some ⟨g1, 0, none⟩))), .agg #[.slice A2 r1.length c2, .int .i64 b2, .int .i64 b3, .int .i64 b4]⟩] [some (.agg #[.slice A2 r1.length c2, .int .i64 b2, .int .i64 b3, .int .i64 b4])] [2, 7] [pl 2 (.pointer (some ⟨g2, 0, none⟩)), pl 7 (.agg #[.slice A2 r1.length c2, .int .i64 b2, .int .i64 b3, .int .i64 b4])] hF hS (by kernel_rfl) (by kernel_rfl) ?_ (fun a w hF hS => ?_)
  · exact obs_cons (ob_loadA (cs := #[.slice A2 r1.length c2, .int .i64 b2, .int .i64 b3, .int .i64 b4]) (by kernel_rfl) (by kernel_rfl) (fun _ _ hS => (hS.at_ 2 rfl).cellsAt 0 (by rfl))) <| obs_nil
  obtain ⟨w, hrun, hS⟩ := run_putA (P := Try.prog) (t := 61) (us := #[.slice A2 r1.length c2, .int .i64 b2, .int .i64 b3, .int .i64 b4]) (o := 0) (hS.at_ 1 rfl) (by kernel_rfl) (all_one (by kernel_rfl)) (Nat.le_of_ble_eq_true (by kernel_rfl))
  refine at_skip hF (by kernel_rfl) hrun ?_
  have hS : Sep w0 B w (own 3 (.slice A2 r1.length c2) (vI r1) :: blk g2 61 #[.slice A2 r1.length c2, .int .i64 b2, .int .i64 b3, .int .i64 b4] :: blk g1 61 #[.slice A2 r1.length c2, .int .i64 b2, .int .i64 b3, .int .i64 b4] :: fs) := hS
  refine at_end [2] [pl 2 (.pointer (some ⟨g2, 0, none⟩))] hF rfl (by kernel_rfl) (fun hF => ?_)
  refine then_n ?_
  refine wp_ret ?_
  have hld0 := run_loadVarA (P := Try.prog) (t := 61) (cs := #[.slice A2 r1.length c2, .int .i64 b2, .int .i64 b3, .int .i64 b4]) (by kernel_rfl) (by kernel_rfl) ((hS.at_ 1 rfl).cellsAt 0 (by rfl))
  have hS := hS.pickN 3 [0] (by decide)
  have hm : some (r1, b2, b3, b4) = some r := hm
  obtain rfl := Option.some.inj hm
  exact retV (rs := [.cell 2 61]) (vs := [.agg #[.slice A2 r1.length c2, .int .i64 b2, .int .i64 b3, .int .i64 b4]]) hF rfl (rv_c (by kernel_rfl) hld0 <| rv_nil) rfl ⟨_, rfl, A2, c2, rfl, hS⟩

noncomputable def gammon_May_J5 (b1 : List Int) (white1 : Int) (black1 : Int) (z1 : Int) : Option (St (Int × Int × Int) (Fl (Int × Int) Bool)) :=
  some (.next ((w64 (white1 + (maxI (geti b1 z1) 0))), (w64 (black1 + (maxI (w64 (0 - (geti b1 z1))) 0))), (w64 (z1 + 1))))

noncomputable def gammon_May_J6 (b1 : List Int) (white1 : Int) (black1 : Int) (z1 : Int) : Option (St (Int × Int × Int) (Fl (Int × Int) Bool)) :=
  (gammon_May_J5 b1 white1 black1 z1)

noncomputable def gammon_May_J4 (b1 : List Int) (white1 : Int) (black1 : Int) (z1 : Int) : Option (St (Int × Int × Int) (Fl (Int × Int) Bool)) :=
  asrt (0 ≤ z1 ∧ z1 < (b1.length : Int)) <| if ((decide ((geti b1 z1) < (-15))) || (decide ((15 : Int) < (geti b1 z1)))) then (some (.done (.ret false))) else ((gammon_May_J6 b1 white1 black1 z1))

noncomputable def gammon_May_J3 (white2 : Int) (black2 : Int) : Option Bool :=
  some ((decide (white2 ≤ 15)) && (decide (black2 ≤ 15)))

noncomputable def gammon_May_K1 : (Fl (Int × Int) Bool) → Option Bool :=
  fun (x : (Fl (Int × Int) Bool)) => match x with | .go (white2, black2) => gammon_May_J3 white2 black2 | .ret x => some x

noncomputable def gammon_May_L1 (b1 : List Int) : (Int × Int × Int) → Option (St (Int × Int × Int) (Fl (Int × Int) Bool)) :=
  fun (x : (Int × Int × Int)) => match x with | (white1, black1, z1) => if (decide (z1 < (b1.length : Int))) then ((gammon_May_J4 b1 white1 black1 z1)) else (some (.done (.go (white1, black1))))

noncomputable def gammon_May_J2 (b1 : List Int) (b2 : Int) (b3 : Int) : Option Bool :=
  (loop (gammon_May_L1 b1) (b2, b3, 0)).bind gammon_May_K1

noncomputable def gammon_May_J1 (b1 : List Int) (b2 : Int) (b3 : Int) : Option Bool :=
  if ((decide ((15 : Int) < b2)) || (decide ((15 : Int) < b3))) then (some false) else ((gammon_May_J2 b1 b2 b3))

noncomputable def gammon_May_m (b1 : List Int) (b2 : Int) (b3 : Int) (b4 : Int) : Option Bool :=
  asrt (((b1.length : Int) != 26) = false → 0 ≤ (0 : Int) ∧ (0 : Int) < (b1.length : Int)) <| asrt ((((b1.length : Int) != 26) || ((geti b1 0) != 0)) = false → 0 ≤ (25 : Int) ∧ (25 : Int) < (b1.length : Int)) <| if ((((((((b1.length : Int) != 26) || ((geti b1 0) != 0)) || ((geti b1 25) != 0)) || (decide (b2 < 0))) || (decide (b3 < 0))) || (decide (b4 < 0))) || (decide ((1 : Int) < b4))) then (some false) else ((gammon_May_J1 b1 b2 b3))

set_option maxRecDepth 100000 in
set_option maxHeartbeats 4000000 in
theorem gammon_May_w {A1 : Option Addr} {c1 : Nat} {n1 : Nat} {b1 : List Int} {b2 : Int} {b3 : Int} {b4 : Int} {r : Bool} {w0 w : World} {B : Nat} {fs : List HP} (hm : gammon_May_m b1 b2 b3 b4 = some r) (hS : Sep w0 B w (fs)) (hr_b1 : RdF w0 B fs A1 (vI b1)) (_hc_b1 : b1.length ≤ c1) (_hn_b1 : n1 = b1.length) :
    Calls Try.prog 40 #[.agg #[.slice A1 n1 c1, .int .i64 b2, .int .i64 b3, .int .i64 b4]] w fun e w' => e = .returned (.bool r) ∧ Sep w0 B w' (fs) := by
  obtain ⟨i3, hi3, hz3, hs3, hb3⟩ := info_parts Info3
  obtain rfl := _hn_b1
  unfold gammon_May_m at hm
  replace hm := start_b hm
  refine enter (l := [.agg #[.slice A1 b1.length c1, .int .i64 b2, .int .i64 b3, .int .i64 b4]]) (n := 84) Try.func40 rfl rfl (by simp) (fun a hF => ?_)
  refine seqR ?_
  refine at_do (d := 1) (s := vS (Instr.box 61 (.agg #[.slice A1 b1.length c1, .int .i64 b2, .int .i64 b3, .int .i64 b4]))) (v := .pointer (some ⟨w.heap.size, 0, none⟩)) (w' := w.alloc (.cells #[.slice A1 b1.length c1, .int .i64 b2, .int .i64 b3, .int .i64 b4] 61)) hF (by kernel_rfl) (by kernel_rfl) (by kernel_rfl) (fun a hF => ?_)
  have hS : Sep w0 B (w.alloc (.cells #[.slice A1 b1.length c1, .int .i64 b2, .int .i64 b3, .int .i64 b4] 61)) (blk w.heap.size 61 #[.slice A1 b1.length c1, .int .i64 b2, .int .i64 b3, .int .i64 b4] :: (fs)) := hS.box 61 #[.slice A1 b1.length c1, .int .i64 b2, .int .i64 b3, .int .i64 b4]
  generalize w.heap.size = g1 at hF hS
  generalize w.alloc (.cells #[.slice A1 b1.length c1, .int .i64 b2, .int .i64 b3, .int .i64 b4] 61) = w at hS ⊢
  refine at_run 1 [] [] [1] [pl 1 (.pointer (some ⟨g1, 0, none⟩))] hF hS (by kernel_rfl) (by kernel_rfl) ?_ (fun a w hF hS => ?_)
  · exact obs_nil
  refine at_end [1] [pl 1 (.pointer (some ⟨g1, 0, none⟩))] hF rfl (by kernel_rfl) (fun hF => ?_)
  refine then_n ?_
  refine seq_cut (fun a w => Fr 84 [pl 1 (.pointer (some ⟨g1, 0, none⟩))] a ∧ Sep w0 B w (blk g1 61 #[.slice A1 b1.length c1, .int .i64 b2, .int .i64 b3, .int .i64 b4] :: fs) ∧ ((gammon_May_J1 b1 b2 b3)).bind some = some r) ?_ ?_
  · rintro a w ⟨hF, hS, hm⟩
    unfold gammon_May_J1 at hm
    refine reg [⟨false, [], vS (Instr.loadAt 3 (.pointer (some ⟨g1, 1, none⟩))), .int .i64 b2⟩, ⟨false, [], vS (Instr.loadAt 3 (.pointer (some ⟨g1, 2, none⟩))), .int .i64 b3⟩] [none, some (.int .i64 b2), none, some (.int .i64 b3), none, none] [1, 3, 4] [pl 1 (.pointer (some ⟨g1, 0, none⟩)), pl 3 (.int .i64 b2), pl 4 (.int .i64 b3)] hF hS Fol (by kernel_rfl) (by kernel_rfl) (by kernel_rfl) ?_ (fun a w hF hS => ?_)
    · exact obs_cons (ob_load Agg3 (fun _ _ hS => (hS.at_ 0 rfl).cell rfl)) <| obs_cons (ob_load Agg3 (fun _ _ hS => (hS.at_ 0 rfl).cell rfl)) <| obs_nil
    refine seq_cut (fun a w => Fr 84 [pl 1 (.pointer (some ⟨g1, 0, none⟩)), pl 3 (.int .i64 b2), pl 4 (.int .i64 b3)] a ∧ Sep w0 B w (blk g1 61 #[.slice A1 b1.length c1, .int .i64 b2, .int .i64 b3, .int .i64 b4] :: fs) ∧ ((gammon_May_J2 b1 b2 b3)).bind some = some r) ?_ ?_
    · rintro a w ⟨hF, hS, hm⟩
      unfold gammon_May_J2 at hm
      refine seq_cut (fun a w => ∃ (white2 : Int) (black2 : Int), Fr 84 [pl 3 (.int .i64 white2), pl 4 (.int .i64 black2)] a ∧ Sep w0 B w (fs) ∧ (gammon_May_J3 white2 black2).bind some = some r) ?_ ?_
      · rintro a w ⟨white2, black2, hF, hS, hm⟩
        unfold gammon_May_J3 at hm
        refine reg [] [] [2] [pl 2 (.bool ((decide (white2 ≤ 15)) && (decide (black2 ≤ 15))))] hF hS Fol (by kernel_rfl) (by kernel_rfl) (by kernel_rfl) ?_ (fun a w hF hS => ?_)
        · exact obs_nil
        refine wp_ret ?_
        have hm : some ((decide (white2 ≤ 15)) && (decide (black2 ≤ 15))) = some r := hm
        obtain rfl := Option.some.inj hm
        exact retV (rs := [.tmp 2]) (vs := [.bool ((decide (white2 ≤ 15)) && (decide (black2 ≤ 15)))]) hF rfl (rv_t (by kernel_rfl) <| rv_nil) rfl ⟨rfl, hS⟩
      · refine reg [⟨false, [], vS (Instr.loadAt 40 (.pointer (some ⟨g1, 0, none⟩))), .slice A1 b1.length c1⟩] [none, some (.slice A1 b1.length c1), none, none] [3, 4, 56, 57, 58] [pl 3 (.int .i64 b2), pl 4 (.int .i64 b3), pl 56 (.slice A1 b1.length c1), pl 57 (.int .i64 (b1.length : Int)), pl 58 (.int .i64 0)] hF hS Fol (by kernel_rfl) (by kernel_rfl) (by kernel_rfl) ?_ (fun a w hF hS => ?_)
        · exact obs_cons (ob_load Agg40 (fun _ _ hS => (hS.at_ 0 rfl).cell rfl)) <| obs_nil
        refine wp_block ?_
        have hS := hS.pickN 1 [] (by decide)
        refine wp_loop_model (S := (Int × Int × Int)) (R := (Fl (Int × Int) Bool)) (gammon_May_L1 b1) (fun x => (gammon_May_K1 x).bind some) r (fun (x : (Int × Int × Int)) a w => Fr 84 [pl 3 (.int .i64 x.1), pl 4 (.int .i64 x.2.1), pl 56 (.slice A1 b1.length c1), pl 57 (.int .i64 (b1.length : Int)), pl 58 (.int .i64 x.2.2)] a ∧ Sep w0 B w (fs)) (assoc_b hm) ⟨hF.weak [3, 4, 56, 57, 58] (by kernel_rfl), hS⟩ ?_
        clear hF hS hm
        rintro nn1 ⟨white1, black1, z1⟩ a w ⟨hF, hS⟩ hm
        generalize hφ1 : stK (gammon_May_L1 b1) nn1 (fun x => (gammon_May_K1 x).bind some) = φ1 at hm
        unfold gammon_May_L1 at hm
        dsimp only at hF hS hm
        refine reg [] [] [3, 4, 56, 57, 58, 59] [pl 3 (.int .i64 white1), pl 4 (.int .i64 black1), pl 56 (.slice A1 b1.length c1), pl 57 (.int .i64 (b1.length : Int)), pl 58 (.int .i64 z1), pl 59 (.bool (decide (z1 < (b1.length : Int))))] hF hS Fol (by kernel_rfl) (by kernel_rfl) (by kernel_rfl) ?_ (fun a w hF hS => ?_)
        · exact obs_nil
        refine seq_cut (fun a w => Fr 84 [pl 3 (.int .i64 white1), pl 4 (.int .i64 black1), pl 56 (.slice A1 b1.length c1), pl 57 (.int .i64 (b1.length : Int)), pl 58 (.int .i64 z1)] a ∧ Sep w0 B w (fs) ∧ ((gammon_May_J4 b1 white1 black1 z1)).bind φ1 = some r) ?_ ?_
        · rintro a w ⟨hF, hS, hm⟩
          unfold gammon_May_J4 at hm
          refine seq_cut (fun a w => Fr 84 [pl 3 (.int .i64 (w64 (white1 + (maxI (geti b1 z1) 0)))), pl 4 (.int .i64 (w64 (black1 + (maxI (w64 (0 - (geti b1 z1))) 0)))), pl 56 (.slice A1 b1.length c1), pl 57 (.int .i64 (b1.length : Int)), pl 58 (.int .i64 z1)] a ∧ Sep w0 B w (fs) ∧ ((gammon_May_J5 b1 white1 black1 z1)).bind φ1 = some r) ?_ ?_
          · rintro a w ⟨hF, hS, hm⟩
            unfold gammon_May_J5 at hm
            refine reg1 [] [] [3, 4, 56, 57, 58] [pl 3 (.int .i64 (w64 (white1 + (maxI (geti b1 z1) 0)))), pl 4 (.int .i64 (w64 (black1 + (maxI (w64 (0 - (geti b1 z1))) 0)))), pl 56 (.slice A1 b1.length c1), pl 57 (.int .i64 (b1.length : Int)), pl 58 (.int .i64 (w64 (z1 + 1)))] hF hS Fol (by kernel_rfl) (by kernel_rfl) (by kernel_rfl) ?_ (fun a w hF hS => ?_)
            · exact obs_nil
            refine then_n ?_
            rw [← hφ1] at hm
            exact ⟨((w64 (white1 + (maxI (geti b1 z1) 0))), (w64 (black1 + (maxI (w64 (0 - (geti b1 z1))) 0))), (w64 (z1 + 1))), ⟨hF.weak [3, 4, 56, 57, 58] (by kernel_rfl), hS⟩, hm⟩
          · refine wp_block ?_
            obtain ⟨hp3, hm⟩ := asrt_b hm
            refine reg [⟨true, [], vS (Instr.indexAt 40 (.slice A1 b1.length c1) (.int .i64 z1)), .pointer (some (sAddr A1 z1))⟩, ⟨false, [], vS (Instr.loadAt 3 (.pointer (some (sAddr A1 z1)))), .int .i64 (geti b1 z1)⟩] [some (.pointer (some (sAddr A1 z1))), some (.int .i64 (geti b1 z1)), none] [3, 4, 6, 56, 57, 58] [pl 3 (.int .i64 white1), pl 4 (.int .i64 black1), pl 6 (.int .i64 (geti b1 z1)), pl 56 (.slice A1 b1.length c1), pl 57 (.int .i64 (b1.length : Int)), pl 58 (.int .i64 z1)] hF hS Fol (by kernel_rfl) (by kernel_rfl) (by kernel_rfl) ?_ (fun a w hF hS => ?_)
            · exact obs_cons (ob_ix1 (f := (Value.int .i64)) (m := b1) Und40 hi3 hs3 (hr_b1 _ (hS.dropN 0)) rfl (fun _ => hp3)) <| obs_cons (ob_get1 (n := b1.length) (m := b1) (Value.int .i64) (0 : Int) Agg3 (fun _ hS => ⟨_, (hr_b1 _ (hS.dropN 0))⟩) (fun _ hS => rfl) (fun _ => hp3)) <| obs_nil
            refine seq_cut (fun a w => Fr 84 [pl 3 (.int .i64 white1), pl 4 (.int .i64 black1), pl 6 (.int .i64 (geti b1 z1)), pl 56 (.slice A1 b1.length c1), pl 57 (.int .i64 (b1.length : Int)), pl 58 (.int .i64 z1)] a ∧ Sep w0 B w (fs) ∧ ((gammon_May_J6 b1 white1 black1 z1)).bind φ1 = some r) ?_ ?_
            · rintro a w ⟨hF, hS, hm⟩
              unfold gammon_May_J6 at hm
              refine reg [⟨true, [], vS (Builtin.max_ #[3, 3] 3 #[.int .i64 (geti b1 z1), .int .i64 0]), .int .i64 (maxI (geti b1 z1) 0)⟩] [none, none, some (.int .i64 (maxI (geti b1 z1) 0)), none, none] [3, 4, 6, 56, 57, 58] [pl 3 (.int .i64 (w64 (white1 + (maxI (geti b1 z1) 0)))), pl 4 (.int .i64 black1), pl 6 (.int .i64 (geti b1 z1)), pl 56 (.slice A1 b1.length c1), pl 57 (.int .i64 (b1.length : Int)), pl 58 (.int .i64 z1)] hF hS Fol (by kernel_rfl) (by kernel_rfl) (by kernel_rfl) ?_ (fun a w hF hS => ?_)
              · exact obs_cons (ob_max rfl) <| obs_nil
              refine reg1 [⟨true, [], vS (Builtin.max_ #[3, 3] 3 #[.int .i64 (w64 (0 - (geti b1 z1))), .int .i64 0]), .int .i64 (maxI (w64 (0 - (geti b1 z1))) 0)⟩] [none, none, none, some (.int .i64 (maxI (w64 (0 - (geti b1 z1))) 0)), none, none] [3, 4, 56, 57, 58] [pl 3 (.int .i64 (w64 (white1 + (maxI (geti b1 z1) 0)))), pl 4 (.int .i64 (w64 (black1 + (maxI (w64 (0 - (geti b1 z1))) 0)))), pl 56 (.slice A1 b1.length c1), pl 57 (.int .i64 (b1.length : Int)), pl 58 (.int .i64 z1)] hF hS Fol (by kernel_rfl) (by kernel_rfl) (by kernel_rfl) ?_ (fun a w hF hS => ?_)
              · exact obs_cons (ob_max rfl) <| obs_nil
              refine block_n ?_
              refine then_n ?_
              exact ⟨hF.weak [3, 4, 56, 57, 58] (by kernel_rfl), hS, hm⟩
            · refine reg [] [] [3, 4, 6, 56, 57, 58, 67] [pl 3 (.int .i64 white1), pl 4 (.int .i64 black1), pl 6 (.int .i64 (geti b1 z1)), pl 56 (.slice A1 b1.length c1), pl 57 (.int .i64 (b1.length : Int)), pl 58 (.int .i64 z1), pl 67 (.bool ((decide ((geti b1 z1) < (-15))) || (decide ((15 : Int) < (geti b1 z1)))))] hF hS Fol (by kernel_rfl) (by kernel_rfl) (by kernel_rfl) ?_ (fun a w hF hS => ?_)
              · exact obs_nil
              refine cond_ev (t := 67) (b := (decide ((geti b1 z1) < (-15))) || (decide ((15 : Int) < (geti b1 z1)))) hF (by kernel_rfl) (fun hb => ?_) (fun hb => ?_)
              · replace hm := if_t hm hb
                refine reg [] [] [2] [pl 2 (.bool false)] hF hS Fol (by kernel_rfl) (by kernel_rfl) (by kernel_rfl) ?_ (fun a w hF hS => ?_)
                · exact obs_nil
                refine wp_ret ?_
                refine then_r (block_r (then_r (then_r (block_r (then_r ?_)))))
                rw [← hφ1] at hm
                replace hm := done_b hm
                unfold gammon_May_K1 at hm
                try dsimp only at hm
                have hm : some false = some r := hm
                obtain rfl := Option.some.inj hm
                exact retV (rs := [.tmp 2]) (vs := [.bool false]) hF rfl (rv_t (by kernel_rfl) <| rv_nil) rfl ⟨rfl, hS⟩
              · replace hm := if_f hm hb
                refine wp_skip ?_
                refine then_n ?_
                exact ⟨hF.weak [3, 4, 6, 56, 57, 58] (by kernel_rfl), hS, hm⟩
        · refine cond_ev (t := 59) (b := decide (z1 < (b1.length : Int))) hF (by kernel_rfl) (fun hb => ?_) (fun hb => ?_)
          · replace hm := if_t hm hb
            refine wp_skip ?_
            refine then_n ?_
            exact ⟨hF.weak [3, 4, 56, 57, 58] (by kernel_rfl), hS, hm⟩
          · replace hm := if_f hm hb
            refine wp_exit ?_
            refine then_e (then_e (block_e (then_n ?_)))
            rw [← hφ1] at hm
            replace hm := done_b hm
            unfold gammon_May_K1 at hm
            try dsimp only at hm
            have hm : (gammon_May_J3 white1 black1).bind some = some r := hm
            exact ⟨white1, black1, hF.weak [3, 4] (by kernel_rfl), hS, hm⟩
    · refine reg [] [] [1, 3, 4, 54] [pl 1 (.pointer (some ⟨g1, 0, none⟩)), pl 3 (.int .i64 b2), pl 4 (.int .i64 b3), pl 54 (.bool ((decide ((15 : Int) < b2)) || (decide ((15 : Int) < b3))))] hF hS Fol (by kernel_rfl) (by kernel_rfl) (by kernel_rfl) ?_ (fun a w hF hS => ?_)
      · exact obs_nil
      refine cond_ev (t := 54) (b := (decide ((15 : Int) < b2)) || (decide ((15 : Int) < b3))) hF (by kernel_rfl) (fun hb => ?_) (fun hb => ?_)
      · replace hm := if_t hm hb
        refine reg [] [] [2] [pl 2 (.bool false)] hF hS Fol (by kernel_rfl) (by kernel_rfl) (by kernel_rfl) ?_ (fun a w hF hS => ?_)
        · exact obs_nil
        refine wp_ret ?_
        refine then_r ?_
        have hS := hS.pickN 1 [] (by decide)
        have hm : some false = some r := hm
        obtain rfl := Option.some.inj hm
        exact retV (rs := [.tmp 2]) (vs := [.bool false]) hF rfl (rv_t (by kernel_rfl) <| rv_nil) rfl ⟨rfl, hS⟩
      · replace hm := if_f hm hb
        refine wp_skip ?_
        refine then_n ?_
        exact ⟨hF.weak [1, 3, 4] (by kernel_rfl), hS, hm⟩
  · obtain ⟨hp1, hm⟩ := asrt_b hm
    obtain ⟨hp2, hm⟩ := asrt_b hm
    refine reg [⟨false, [], vS (Instr.loadAt 40 (.pointer (some ⟨g1, 0, none⟩))), .slice A1 b1.length c1⟩, ⟨false, [(((b1.length : Int) != 26), false)], vS (Instr.loadAt 40 (.pointer (some ⟨g1, 0, none⟩))), .slice A1 b1.length c1⟩, ⟨true, [(((b1.length : Int) != 26), false)], vS (Instr.indexAt 40 (.slice A1 b1.length c1) (.int .i64 0)), .pointer (some (sAddr A1 0))⟩, ⟨false, [(((b1.length : Int) != 26), false)], vS (Instr.loadAt 3 (.pointer (some (sAddr A1 0)))), .int .i64 (geti b1 0)⟩, ⟨false, [(((b1.length : Int) != 26) || ((geti b1 0) != 0), false)], vS (Instr.loadAt 40 (.pointer (some ⟨g1, 0, none⟩))), .slice A1 b1.length c1⟩, ⟨true, [(((b1.length : Int) != 26) || ((geti b1 0) != 0), false)], vS (Instr.indexAt 40 (.slice A1 b1.length c1) (.int .i64 25)), .pointer (some (sAddr A1 25))⟩, ⟨false, [(((b1.length : Int) != 26) || ((geti b1 0) != 0), false)], vS (Instr.loadAt 3 (.pointer (some (sAddr A1 25)))), .int .i64 (geti b1 25)⟩, ⟨false, [((((b1.length : Int) != 26) || ((geti b1 0) != 0)) || ((geti b1 25) != 0), false)], vS (Instr.loadAt 3 (.pointer (some ⟨g1, 1, none⟩))), .int .i64 b2⟩, ⟨false, [(((((b1.length : Int) != 26) || ((geti b1 0) != 0)) || ((geti b1 25) != 0)) || (decide (b2 < 0)), false)], vS (Instr.loadAt 3 (.pointer (some ⟨g1, 2, none⟩))), .int .i64 b3⟩, ⟨false, [((((((b1.length : Int) != 26) || ((geti b1 0) != 0)) || ((geti b1 25) != 0)) || (decide (b2 < 0))) || (decide (b3 < 0)), false)], vS (Instr.loadAt 3 (.pointer (some ⟨g1, 3, none⟩))), .int .i64 b4⟩, ⟨false, [(((((((b1.length : Int) != 26) || ((geti b1 0) != 0)) || ((geti b1 25) != 0)) || (decide (b2 < 0))) || (decide (b3 < 0))) || (decide (b4 < 0)), false)], vS (Instr.loadAt 3 (.pointer (some ⟨g1, 3, none⟩))), .int .i64 b4⟩] [none, some (.slice A1 b1.length c1), none, none, none, none, some (.slice A1 b1.length c1), some (.pointer (some (sAddr A1 0))), some (.int .i64 (geti b1 0)), none, none, none, none, some (.slice A1 b1.length c1), some (.pointer (some (sAddr A1 25))), some (.int .i64 (geti b1 25)), none, none, none, none, some (.int .i64 b2), none, none, none, none, some (.int .i64 b3), none, none, none, none, some (.int .i64 b4), none, none, none, none, some (.int .i64 b4), none, none] [1, 44] [pl 1 (.pointer (some ⟨g1, 0, none⟩)), pl 44 (.bool ((((((((b1.length : Int) != 26) || ((geti b1 0) != 0)) || ((geti b1 25) != 0)) || (decide (b2 < 0))) || (decide (b3 < 0))) || (decide (b4 < 0))) || (decide ((1 : Int) < b4))))] hF hS Fol (by kernel_rfl) (by kernel_rfl) (by kernel_rfl) ?_ (fun a w hF hS => ?_)
    · exact obs_cons (ob_load Agg40 (fun _ _ hS => (hS.at_ 0 rfl).cell rfl)) <| obs_cons (ob_load Agg40 (fun _ _ hS => (hS.at_ 0 rfl).cell rfl)) <| obs_cons (ob_ix1 (f := (Value.int .i64)) (m := b1) Und40 hi3 hs3 (hr_b1 _ (hS.dropN 1)) rfl (fun hy => hp1 (hy (((b1.length : Int) != 26), false) (by simp)))) <| obs_cons (ob_get1 (n := b1.length) (m := b1) (Value.int .i64) (0 : Int) Agg3 (fun _ hS => ⟨_, (hr_b1 _ (hS.dropN 1))⟩) (fun _ hS => rfl) (fun hy => hp1 (hy (((b1.length : Int) != 26), false) (by simp)))) <| obs_cons (ob_load Agg40 (fun _ _ hS => (hS.at_ 0 rfl).cell rfl)) <| obs_cons (ob_ix1 (f := (Value.int .i64)) (m := b1) Und40 hi3 hs3 (hr_b1 _ (hS.dropN 1)) rfl (fun hy => hp2 (hy (((b1.length : Int) != 26) || ((geti b1 0) != 0), false) (by simp)))) <| obs_cons (ob_get1 (n := b1.length) (m := b1) (Value.int .i64) (0 : Int) Agg3 (fun _ hS => ⟨_, (hr_b1 _ (hS.dropN 1))⟩) (fun _ hS => rfl) (fun hy => hp2 (hy (((b1.length : Int) != 26) || ((geti b1 0) != 0), false) (by simp)))) <| obs_cons (ob_load Agg3 (fun _ _ hS => (hS.at_ 0 rfl).cell rfl)) <| obs_cons (ob_load Agg3 (fun _ _ hS => (hS.at_ 0 rfl).cell rfl)) <| obs_cons (ob_load Agg3 (fun _ _ hS => (hS.at_ 0 rfl).cell rfl)) <| obs_cons (ob_load Agg3 (fun _ _ hS => (hS.at_ 0 rfl).cell rfl)) <| obs_nil
    refine cond_ev (t := 44) (b := (((((((b1.length : Int) != 26) || ((geti b1 0) != 0)) || ((geti b1 25) != 0)) || (decide (b2 < 0))) || (decide (b3 < 0))) || (decide (b4 < 0))) || (decide ((1 : Int) < b4))) hF (by kernel_rfl) (fun hb => ?_) (fun hb => ?_)
    · replace hm := if_t hm hb
      refine reg [] [] [2] [pl 2 (.bool false)] hF hS Fol (by kernel_rfl) (by kernel_rfl) (by kernel_rfl) ?_ (fun a w hF hS => ?_)
      · exact obs_nil
      refine wp_ret ?_
      refine then_r ?_
      have hS := hS.pickN 1 [] (by decide)
      have hm : some false = some r := hm
      obtain rfl := Option.some.inj hm
      exact retV (rs := [.tmp 2]) (vs := [.bool false]) hF rfl (rv_t (by kernel_rfl) <| rv_nil) rfl ⟨rfl, hS⟩
    · replace hm := if_f hm hb
      refine wp_skip ?_
      refine then_n ?_
      exact ⟨hF.weak [1] (by kernel_rfl), hS, hm⟩

noncomputable def gammon_sideOf_J2 (b1 : List Int) (b2 : Int) (b3 : Int) : Option (List Int × Int) :=
  some (((putL (pad 26 (List.replicate 26 (0 : Int))) 0 (List.take 26 b1)).set (Int.toNat 25) b2), b3)

noncomputable def gammon_sideOf_J5 (b1 : List Int) (s1 : List Int) (z1 : Int) : Option (St (List Int × Int) (List Int)) :=
  some (.next ((s1.set (Int.toNat (w64 (25 - z1))) (w64 (0 - (geti b1 z1)))), (w64 (z1 + 1))))

noncomputable def gammon_sideOf_J4 (b1 : List Int) (s1 : List Int) (z1 : Int) : Option (St (List Int × Int) (List Int)) :=
  asrt (0 ≤ z1 ∧ z1 < (b1.length : Int)) <| asrt (0 ≤ (w64 (25 - z1)) ∧ (w64 (25 - z1)) < 26) <| asrt ((w64 (25 - z1)) < (s1.length : Int)) <| (gammon_sideOf_J5 b1 s1 z1)

noncomputable def gammon_sideOf_J6 (b2 : Int) (b3 : Int) (s2 : List Int) : Option (List Int × Int) :=
  some ((s2.set (Int.toNat 25) b3), b2)

noncomputable def gammon_sideOf_J3 (b2 : Int) (b3 : Int) (s2 : List Int) : Option (List Int × Int) :=
  asrt (0 ≤ (25 : Int) ∧ (25 : Int) < 26) <| asrt (25 < (s2.length : Int)) <| (gammon_sideOf_J6 b2 b3 s2)

noncomputable def gammon_sideOf_K1 (b2 : Int) (b3 : Int) : (List Int) → Option (List Int × Int) :=
  fun (x : (List Int)) => match x with | s2 => (gammon_sideOf_J3 b2 b3) s2

noncomputable def gammon_sideOf_L1 (b1 : List Int) : (List Int × Int) → Option (St (List Int × Int) (List Int)) :=
  fun (x : (List Int × Int)) => match x with | (s1, z1) => if (decide (z1 < (b1.length : Int))) then ((gammon_sideOf_J4 b1 s1 z1)) else (some (.done s1))

noncomputable def gammon_sideOf_J1 (b1 : List Int) (b2 : Int) (b3 : Int) : Option (List Int × Int) :=
  (loop (gammon_sideOf_L1 b1) ((List.replicate 26 (0 : Int)), 0)).bind (gammon_sideOf_K1 b2 b3)

noncomputable def gammon_sideOf_m (b1 : List Int) (b2 : Int) (b3 : Int) (b4 : Int) : Option (List Int × Int) :=
  if (b4 == 0) then (asrt (0 ≤ (25 : Int) ∧ (25 : Int) < 26) <| asrt (25 < ((putL (pad 26 (List.replicate 26 (0 : Int))) 0 (List.take 26 b1)).length : Int)) <| (gammon_sideOf_J2 b1 b2 b3)) else ((gammon_sideOf_J1 b1 b2 b3))

set_option maxRecDepth 100000 in
set_option maxHeartbeats 4000000 in
theorem gammon_sideOf_w {A1 : Option Addr} {c1 : Nat} {n1 : Nat} {b1 : List Int} {b2 : Int} {b3 : Int} {b4 : Int} {r : (List Int × Int)} {w0 w : World} {B : Nat} {fs : List HP} (hm : gammon_sideOf_m b1 b2 b3 b4 = some r) (hS : Sep w0 B w (fs)) (hr_b1 : RdF w0 B fs A1 (vI b1)) (_hc_b1 : b1.length ≤ c1) (_hn_b1 : n1 = b1.length) :
    Calls Try.prog 98 #[.agg #[.slice A1 n1 c1, .int .i64 b2, .int .i64 b3, .int .i64 b4]] w fun e w' => e = .returned (.agg (List.toArray (([] : List Value) ++ (arr1 (Value.int .i64) (0 : Int) 26 r.1 ++ ([.int .i64 r.2] : List Value))))) ∧ Sep w0 B w' (fs) := by
  obtain ⟨i3, hi3, hz3, hs3, hb3⟩ := info_parts Info3
  obtain rfl := _hn_b1
  unfold gammon_sideOf_m at hm
  replace hm := start_b hm
  refine enter (l := [.agg #[.slice A1 b1.length c1, .int .i64 b2, .int .i64 b3, .int .i64 b4]]) (n := 45) Try.func98 rfl rfl (by simp) (fun a hF => ?_)
  refine seqR ?_
  refine at_do (d := 1) (s := vS (Instr.box 61 (.agg #[.slice A1 b1.length c1, .int .i64 b2, .int .i64 b3, .int .i64 b4]))) (v := .pointer (some ⟨w.heap.size, 0, none⟩)) (w' := w.alloc (.cells #[.slice A1 b1.length c1, .int .i64 b2, .int .i64 b3, .int .i64 b4] 61)) hF (by kernel_rfl) (by kernel_rfl) (by kernel_rfl) (fun a hF => ?_)
  have hS : Sep w0 B (w.alloc (.cells #[.slice A1 b1.length c1, .int .i64 b2, .int .i64 b3, .int .i64 b4] 61)) (blk w.heap.size 61 #[.slice A1 b1.length c1, .int .i64 b2, .int .i64 b3, .int .i64 b4] :: (fs)) := hS.box 61 #[.slice A1 b1.length c1, .int .i64 b2, .int .i64 b3, .int .i64 b4]
  generalize w.heap.size = g1 at hF hS
  generalize w.alloc (.cells #[.slice A1 b1.length c1, .int .i64 b2, .int .i64 b3, .int .i64 b4] 61) = w at hS ⊢
  refine at_do (d := 2) (s := vS (Instr.alloc 143 true (.tuple #[]))) (v := .pointer (some ⟨w.heap.size, 0, none⟩)) (w' := w.alloc (.cells (List.toArray (([] : List Value) ++ (arr1 (Value.int .i64) (0 : Int) 26 (List.replicate 26 (0 : Int)) ++ ([.int .i64 0] : List Value)))) 143)) hF (by kernel_rfl) (by kernel_rfl) (by kernel_rfl) (fun a hF => ?_)
  have hS : Sep w0 B (w.alloc (.cells (List.toArray (([] : List Value) ++ (arr1 (Value.int .i64) (0 : Int) 26 (List.replicate 26 (0 : Int)) ++ ([.int .i64 0] : List Value)))) 143)) (blk w.heap.size 143 (List.toArray (([] : List Value) ++ (arr1 (Value.int .i64) (0 : Int) 26 (List.replicate 26 (0 : Int)) ++ ([.int .i64 0] : List Value)))) :: (blk g1 61 #[.slice A1 b1.length c1, .int .i64 b2, .int .i64 b3, .int .i64 b4] :: fs)) := hS.box 143 (List.toArray (([] : List Value) ++ (arr1 (Value.int .i64) (0 : Int) 26 (List.replicate 26 (0 : Int)) ++ ([.int .i64 0] : List Value))))
  generalize w.heap.size = g2 at hF hS
  generalize w.alloc (.cells (List.toArray (([] : List Value) ++ (arr1 (Value.int .i64) (0 : Int) 26 (List.replicate 26 (0 : Int)) ++ ([.int .i64 0] : List Value)))) 143) = w at hS ⊢
  refine at_end [1, 2] [pl 1 (.pointer (some ⟨g1, 0, none⟩)), pl 2 (.pointer (some ⟨g2, 0, none⟩))] hF rfl (by kernel_rfl) (fun hF => ?_)
  refine then_n ?_
  refine seqR ?_
  refine at_do (d := 3) (s := vS (Instr.alloc 143 true (.tuple #[]))) (v := .pointer (some ⟨w.heap.size, 0, none⟩)) (w' := w.alloc (.cells (List.toArray (([] : List Value) ++ (arr1 (Value.int .i64) (0 : Int) 26 (List.replicate 26 (0 : Int)) ++ ([.int .i64 0] : List Value)))) 143)) hF (by kernel_rfl) (by kernel_rfl) (by kernel_rfl) (fun a hF => ?_)
  have hS : Sep w0 B (w.alloc (.cells (List.toArray (([] : List Value) ++ (arr1 (Value.int .i64) (0 : Int) 26 (List.replicate 26 (0 : Int)) ++ ([.int .i64 0] : List Value)))) 143)) (blk w.heap.size 143 (List.toArray (([] : List Value) ++ (arr1 (Value.int .i64) (0 : Int) 26 (List.replicate 26 (0 : Int)) ++ ([.int .i64 0] : List Value)))) :: (blk g2 143 (List.toArray (([] : List Value) ++ (arr1 (Value.int .i64) (0 : Int) 26 (List.replicate 26 (0 : Int)) ++ ([.int .i64 0] : List Value)))) :: blk g1 61 #[.slice A1 b1.length c1, .int .i64 b2, .int .i64 b3, .int .i64 b4] :: fs)) := hS.box 143 (List.toArray (([] : List Value) ++ (arr1 (Value.int .i64) (0 : Int) 26 (List.replicate 26 (0 : Int)) ++ ([.int .i64 0] : List Value))))
  generalize w.heap.size = g3 at hF hS
  generalize w.alloc (.cells (List.toArray (([] : List Value) ++ (arr1 (Value.int .i64) (0 : Int) 26 (List.replicate 26 (0 : Int)) ++ ([.int .i64 0] : List Value)))) 143) = w at hS ⊢
  refine at_end [1, 2, 3] [pl 1 (.pointer (some ⟨g1, 0, none⟩)), pl 2 (.pointer (some ⟨g2, 0, none⟩)), pl 3 (.pointer (some ⟨g3, 0, none⟩))] hF rfl (by kernel_rfl) (fun hF => ?_)
  refine then_n ?_
  refine seq_cut (fun a w => Fr 45 [pl 1 (.pointer (some ⟨g1, 0, none⟩)), pl 2 (.pointer (some ⟨g2, 0, none⟩)), pl 3 (.pointer (some ⟨g3, 0, none⟩))] a ∧ Sep w0 B w (blk g1 61 #[.slice A1 b1.length c1, .int .i64 b2, .int .i64 b3, .int .i64 b4] :: blk g2 143 (List.toArray (([] : List Value) ++ (arr1 (Value.int .i64) (0 : Int) 26 (List.replicate 26 (0 : Int)) ++ ([.int .i64 0] : List Value)))) :: blk g3 143 (List.toArray (([] : List Value) ++ (arr1 (Value.int .i64) (0 : Int) 26 (List.replicate 26 (0 : Int)) ++ ([.int .i64 0] : List Value)))) :: fs) ∧ ((gammon_sideOf_J1 b1 b2 b3)).bind some = some r) ?_ ?_
  · rintro a w ⟨hF, hS, hm⟩
    unfold gammon_sideOf_J1 at hm
    refine seq_cut (fun a w => ∃ (s2 : List Int), Fr 45 [pl 1 (.pointer (some ⟨g1, 0, none⟩)), pl 2 (.pointer (some ⟨g2, 0, none⟩)), pl 3 (.pointer (some ⟨g3, 0, none⟩))] a ∧ Sep w0 B w (blk g1 61 #[.slice A1 b1.length c1, .int .i64 b2, .int .i64 b3, .int .i64 b4] :: blk g2 143 (List.toArray (([] : List Value) ++ (arr1 (Value.int .i64) (0 : Int) 26 (List.replicate 26 (0 : Int)) ++ ([.int .i64 0] : List Value)))) :: blk g3 143 (List.toArray (([] : List Value) ++ (arr1 (Value.int .i64) (0 : Int) 26 s2 ++ ([.int .i64 0] : List Value)))) :: fs) ∧ ((gammon_sideOf_J3 b2 b3) s2).bind some = some r) ?_ ?_
    · rintro a w ⟨s2, hF, hS, hm⟩
      unfold gammon_sideOf_J3 at hm
      refine seq_cut (fun a w => Fr 45 [pl 2 (.pointer (some ⟨g2, 0, none⟩)), pl 3 (.pointer (some ⟨g3, 0, none⟩))] a ∧ Sep w0 B w (blk g2 143 (List.toArray (([] : List Value) ++ (arr1 (Value.int .i64) (0 : Int) 26 (List.replicate 26 (0 : Int)) ++ ([.int .i64 0] : List Value)))) :: blk g3 143 (List.toArray (([] : List Value) ++ (arr1 (Value.int .i64) (0 : Int) 26 (s2.set (Int.toNat 25) b3) ++ ([.int .i64 b2] : List Value)))) :: fs) ∧ ((gammon_sideOf_J6 b2 b3 s2)).bind some = some r) ?_ ?_
      · rintro a w ⟨hF, hS, hm⟩
        unfold gammon_sideOf_J6 at hm
        refine seqR ?_
        refine at_run 1 [⟨false, [], vS (Instr.loadAt 143 (.pointer (some ⟨g3, 0, none⟩))), .agg (List.toArray (([] : List Value) ++ (arr1 (Value.int .i64) (0 : Int) 26 (s2.set (Int.toNat 25) b3) ++ ([.int .i64 b2] : List Value))))⟩] [some (.agg (List.toArray (([] : List Value) ++ (arr1 (Value.int .i64) (0 : Int) 26 (s2.set (Int.toNat 25) b3) ++ ([.int .i64 b2] : List Value)))))] [2, 44] [pl 2 (.pointer (some ⟨g2, 0, none⟩)), pl 44 (.agg (List.toArray (([] : List Value) ++ (arr1 (Value.int .i64) (0 : Int) 26 (s2.set (Int.toNat 25) b3) ++ ([.int .i64 b2] : List Value)))))] hF hS (by kernel_rfl) (by kernel_rfl) ?_ (fun a w hF hS => ?_)
        · exact obs_cons (ob_loadA (cs := (List.toArray (([] : List Value) ++ (arr1 (Value.int .i64) (0 : Int) 26 (s2.set (Int.toNat 25) b3) ++ ([.int .i64 b2] : List Value))))) (by kernel_rfl) (by kernel_rfl) (fun _ _ hS => (hS.at_ 1 rfl).cellsAt 0 (by rfl))) <| obs_nil
        obtain ⟨w, hrun, hS⟩ := run_putW (P := Try.prog) (t := 143) (us := (List.toArray (([] : List Value) ++ (arr1 (Value.int .i64) (0 : Int) 26 (s2.set (Int.toNat 25) b3) ++ ([.int .i64 b2] : List Value))))) (hS.at_ 0 rfl) (by kernel_rfl) (all_one (by kernel_rfl)) (by kernel_rfl)
        refine at_skip hF (by kernel_rfl) hrun ?_
        have hS : Sep w0 B w (blk g2 143 (List.toArray (([] : List Value) ++ (arr1 (Value.int .i64) (0 : Int) 26 (s2.set (Int.toNat 25) b3) ++ ([.int .i64 b2] : List Value)))) :: blk g3 143 (List.toArray (([] : List Value) ++ (arr1 (Value.int .i64) (0 : Int) 26 (s2.set (Int.toNat 25) b3) ++ ([.int .i64 b2] : List Value)))) :: fs) := hS
        refine at_end [2] [pl 2 (.pointer (some ⟨g2, 0, none⟩))] hF rfl (by kernel_rfl) (fun hF => ?_)
        refine then_n ?_
        refine wp_ret ?_
        have hld0 := run_loadVarA (P := Try.prog) (t := 143) (cs := (List.toArray (([] : List Value) ++ (arr1 (Value.int .i64) (0 : Int) 26 (s2.set (Int.toNat 25) b3) ++ ([.int .i64 b2] : List Value))))) (by kernel_rfl) (by kernel_rfl) ((hS.at_ 0 rfl).cellsAt 0 (by rfl))
        have hS := hS.pickN 2 [] (by decide)
        have hm : some ((s2.set (Int.toNat 25) b3), b2) = some r := hm
        obtain rfl := Option.some.inj hm
        exact retV (rs := [.cell 2 143]) (vs := [.agg (List.toArray (([] : List Value) ++ (arr1 (Value.int .i64) (0 : Int) 26 (s2.set (Int.toNat 25) b3) ++ ([.int .i64 b2] : List Value))))]) hF rfl (rv_c (by kernel_rfl) hld0 <| rv_nil) rfl ⟨rfl, hS⟩
      · obtain ⟨hp6, hm⟩ := asrt_b hm
        obtain ⟨hp7, hm⟩ := asrt_b hm
        refine regMix5 [0, 1, 2, 4, 5] [6, 8] 4 #[true, true, true, false, true, true, false, false, false] [⟨false, [], vS (Instr.loadAt 3 (.pointer (some ⟨g1, 2, none⟩))), .int .i64 b3⟩, ⟨true, [], vS (Instr.indexAt 141 (.pointer (some ⟨g3, 0, none⟩)) (.int .i64 25)), .pointer (some ((⟨g3, 0, none⟩ : Addr).add (Int.toNat 25 * 1)))⟩] [none, some (.int .i64 b3), none, none, some (.pointer (some ((⟨g3, 0, none⟩ : Addr).add (Int.toNat 25 * 1))))] [2, 3, 38, 39, 42] [pl 2 (.pointer (some ⟨g2, 0, none⟩)), pl 3 (.pointer (some ⟨g3, 0, none⟩)), pl 38 (.int .i64 b3), pl 39 (.pointer (some ⟨g1, 1, none⟩)), pl 42 (.pointer (some ((⟨g3, 0, none⟩ : Addr).add (Int.toNat 25 * 1))))] hF hS Fol (by kernel_rfl) (by kernel_rfl) (by kernel_rfl) (by kernel_rfl) ?_ (fun a w hF hS => ?_)
        · exact obs_cons (ob_load Agg3 (fun _ _ hS => (hS.at_ 0 rfl).cell rfl)) <| obs_cons (ob_ixA UndA141 hi3 hs3 (fun _ => hp6)) <| obs_nil
        refine any_step [3, 6] (by kernel_rfl) rfl ?_
        refine (all_cons ?_ (all_cons ?_ all_nil))
        · refine any_op (listed' := #[true, true, true, true, true, true, false, false, false]) (by kernel_rfl) (by kernel_rfl) ?_
          refine at_runW 1 [⟨false, [], vS (Instr.loadAt 3 (.pointer (some ⟨g1, 1, none⟩))), .int .i64 b2⟩] [some (.int .i64 b2)] [2, 3, 38, 40, 42] [pl 2 (.pointer (some ⟨g2, 0, none⟩)), pl 3 (.pointer (some ⟨g3, 0, none⟩)), pl 38 (.int .i64 b3), pl 40 (.int .i64 b2), pl 42 (.pointer (some ((⟨g3, 0, none⟩ : Addr).add (Int.toNat 25 * 1))))] hF hS (by kernel_rfl) (by kernel_rfl) ?_ (fun a hF => ?_)
          · exact obs_cons (ob_load Agg3 (fun _ _ hS => (hS.at_ 0 rfl).cell rfl)) <| obs_nil
          refine any_finI rfl (fun h => h) ?_
          refine any_step [6] (by kernel_rfl) rfl ?_
          refine (all_cons ?_ all_nil)
          · refine any_op (listed' := #[true, true, true, true, true, true, true, false, false]) (by kernel_rfl) (by kernel_rfl) ?_
            obtain ⟨w, hrun, hS⟩ := run_setA (P := Try.prog) (t := 3) (x := b3) (i := 25) (m := s2) (d := Int.toNat 25 * 1) (Value.int .i64) (0 : Int) 26 ([] : List Value) ([.int .i64 0] : List Value) (hS.at_ 2 rfl) rfl hi3 hs3 rfl (by have h0 := hp6; omega) (by have h0 := hp6; have h9 := hp7; omega)
            refine at_skip hF (by kernel_rfl) hrun ?_
            have hS : Sep w0 B w (blk g1 61 #[.slice A1 b1.length c1, .int .i64 b2, .int .i64 b3, .int .i64 b4] :: blk g2 143 (List.toArray (([] : List Value) ++ (arr1 (Value.int .i64) (0 : Int) 26 (List.replicate 26 (0 : Int)) ++ ([.int .i64 0] : List Value)))) :: blk g3 143 (List.toArray (([] : List Value) ++ (arr1 (Value.int .i64) (0 : Int) 26 (s2.set (Int.toNat 25) b3) ++ ([.int .i64 0] : List Value)))) :: fs) := hS
            refine any_finE rfl (by decide) ?_
            refine any_step [7] (by kernel_rfl) rfl ?_
            refine (all_cons ?_ all_nil)
            · refine any_op (listed' := #[true, true, true, true, true, true, true, true, false]) (by kernel_rfl) (by kernel_rfl) ?_
              refine at_runW 1 [] [] [2, 3, 40, 43] [pl 2 (.pointer (some ⟨g2, 0, none⟩)), pl 3 (.pointer (some ⟨g3, 0, none⟩)), pl 40 (.int .i64 b2), pl 43 (.pointer (some ⟨g3, 26, none⟩))] hF hS (by kernel_rfl) (by kernel_rfl) ?_ (fun a hF => ?_)
              · exact obs_nil
              refine any_finI rfl (fun h => h) ?_
              refine any_step [8] (by kernel_rfl) rfl ?_
              refine (all_cons ?_ all_nil)
              · refine any_op (listed' := #[true, true, true, true, true, true, true, true, true]) (by kernel_rfl) (by kernel_rfl) ?_
                obtain ⟨w, hrun, hS⟩ := run_put (P := Try.prog) (t := 3) (u := .int .i64 b2) (i := 26) (hS.at_ 2 rfl) hi3 hs3 rfl (Nat.lt_of_lt_of_eq (Nat.lt_of_succ_le (Nat.le_of_ble_eq_true (by kernel_rfl))) rfl)
                refine at_skip hF (by kernel_rfl) hrun ?_
                have hS : Sep w0 B w (blk g1 61 #[.slice A1 b1.length c1, .int .i64 b2, .int .i64 b3, .int .i64 b4] :: blk g2 143 (List.toArray (([] : List Value) ++ (arr1 (Value.int .i64) (0 : Int) 26 (List.replicate 26 (0 : Int)) ++ ([.int .i64 0] : List Value)))) :: blk g3 143 (List.toArray (([] : List Value) ++ (arr1 (Value.int .i64) (0 : Int) 26 (s2.set (Int.toNat 25) b3) ++ ([.int .i64 b2] : List Value)))) :: fs) := hS
                refine any_finE rfl (by decide) ?_
                refine any_end (by kernel_rfl) ?_
                refine np_n ?_
                refine then_n ?_
                have hS := hS.pickN 3 [1, 2] (by decide)
                exact ⟨hF.weak [2, 3] (by kernel_rfl), hS, hm⟩
        · refine any_op (listed' := #[true, true, true, false, true, true, true, false, false]) (by kernel_rfl) (by kernel_rfl) ?_
          obtain ⟨w, hrun, hS⟩ := run_setA (P := Try.prog) (t := 3) (x := b3) (i := 25) (m := s2) (d := Int.toNat 25 * 1) (Value.int .i64) (0 : Int) 26 ([] : List Value) ([.int .i64 0] : List Value) (hS.at_ 2 rfl) rfl hi3 hs3 rfl (by have h0 := hp6; omega) (by have h0 := hp6; have h9 := hp7; omega)
          refine at_skip hF (by kernel_rfl) hrun ?_
          have hS : Sep w0 B w (blk g1 61 #[.slice A1 b1.length c1, .int .i64 b2, .int .i64 b3, .int .i64 b4] :: blk g2 143 (List.toArray (([] : List Value) ++ (arr1 (Value.int .i64) (0 : Int) 26 (List.replicate 26 (0 : Int)) ++ ([.int .i64 0] : List Value)))) :: blk g3 143 (List.toArray (([] : List Value) ++ (arr1 (Value.int .i64) (0 : Int) 26 (s2.set (Int.toNat 25) b3) ++ ([.int .i64 0] : List Value)))) :: fs) := hS
          refine any_finE rfl (by decide) ?_
          refine any_step [3] (by kernel_rfl) rfl ?_
          refine (all_cons ?_ all_nil)
          · refine any_op (listed' := #[true, true, true, true, true, true, true, false, false]) (by kernel_rfl) (by kernel_rfl) ?_
            refine at_runW 1 [⟨false, [], vS (Instr.loadAt 3 (.pointer (some ⟨g1, 1, none⟩))), .int .i64 b2⟩] [some (.int .i64 b2)] [2, 3, 40] [pl 2 (.pointer (some ⟨g2, 0, none⟩)), pl 3 (.pointer (some ⟨g3, 0, none⟩)), pl 40 (.int .i64 b2)] hF hS (by kernel_rfl) (by kernel_rfl) ?_ (fun a hF => ?_)
            · exact obs_cons (ob_load Agg3 (fun _ _ hS => (hS.at_ 0 rfl).cell rfl)) <| obs_nil
            refine any_finI rfl (fun h => h) ?_
            refine any_step [7] (by kernel_rfl) rfl ?_
            refine (all_cons ?_ all_nil)
            · refine any_op (listed' := #[true, true, true, true, true, true, true, true, false]) (by kernel_rfl) (by kernel_rfl) ?_
              refine at_runW 1 [] [] [2, 3, 40, 43] [pl 2 (.pointer (some ⟨g2, 0, none⟩)), pl 3 (.pointer (some ⟨g3, 0, none⟩)), pl 40 (.int .i64 b2), pl 43 (.pointer (some ⟨g3, 26, none⟩))] hF hS (by kernel_rfl) (by kernel_rfl) ?_ (fun a hF => ?_)
              · exact obs_nil
              refine any_finI rfl (fun h => h) ?_
              refine any_step [8] (by kernel_rfl) rfl ?_
              refine (all_cons ?_ all_nil)
              · refine any_op (listed' := #[true, true, true, true, true, true, true, true, true]) (by kernel_rfl) (by kernel_rfl) ?_
                obtain ⟨w, hrun, hS⟩ := run_put (P := Try.prog) (t := 3) (u := .int .i64 b2) (i := 26) (hS.at_ 2 rfl) hi3 hs3 rfl (Nat.lt_of_lt_of_eq (Nat.lt_of_succ_le (Nat.le_of_ble_eq_true (by kernel_rfl))) rfl)
                refine at_skip hF (by kernel_rfl) hrun ?_
                have hS : Sep w0 B w (blk g1 61 #[.slice A1 b1.length c1, .int .i64 b2, .int .i64 b3, .int .i64 b4] :: blk g2 143 (List.toArray (([] : List Value) ++ (arr1 (Value.int .i64) (0 : Int) 26 (List.replicate 26 (0 : Int)) ++ ([.int .i64 0] : List Value)))) :: blk g3 143 (List.toArray (([] : List Value) ++ (arr1 (Value.int .i64) (0 : Int) 26 (s2.set (Int.toNat 25) b3) ++ ([.int .i64 b2] : List Value)))) :: fs) := hS
                refine any_finE rfl (by decide) ?_
                refine any_end (by kernel_rfl) ?_
                refine np_n ?_
                refine then_n ?_
                have hS := hS.pickN 3 [1, 2] (by decide)
                exact ⟨hF.weak [2, 3] (by kernel_rfl), hS, hm⟩
    · refine reg [⟨false, [], vS (Instr.loadAt 40 (.pointer (some ⟨g1, 0, none⟩))), .slice A1 b1.length c1⟩] [none, some (.slice A1 b1.length c1), none, none] [1, 2, 3, 23, 24, 25] [pl 1 (.pointer (some ⟨g1, 0, none⟩)), pl 2 (.pointer (some ⟨g2, 0, none⟩)), pl 3 (.pointer (some ⟨g3, 0, none⟩)), pl 23 (.slice A1 b1.length c1), pl 24 (.int .i64 (b1.length : Int)), pl 25 (.int .i64 0)] hF hS Fol (by kernel_rfl) (by kernel_rfl) (by kernel_rfl) ?_ (fun a w hF hS => ?_)
      · exact obs_cons (ob_load Agg40 (fun _ _ hS => (hS.at_ 0 rfl).cell rfl)) <| obs_nil
      refine wp_block ?_
      refine wp_loop_model (S := (List Int × Int)) (R := (List Int)) (gammon_sideOf_L1 b1) (fun x => ((gammon_sideOf_K1 b2 b3) x).bind some) r (fun (x : (List Int × Int)) a w => Fr 45 [pl 1 (.pointer (some ⟨g1, 0, none⟩)), pl 2 (.pointer (some ⟨g2, 0, none⟩)), pl 3 (.pointer (some ⟨g3, 0, none⟩)), pl 23 (.slice A1 b1.length c1), pl 24 (.int .i64 (b1.length : Int)), pl 25 (.int .i64 x.2)] a ∧ Sep w0 B w (blk g1 61 #[.slice A1 b1.length c1, .int .i64 b2, .int .i64 b3, .int .i64 b4] :: blk g2 143 (List.toArray (([] : List Value) ++ (arr1 (Value.int .i64) (0 : Int) 26 (List.replicate 26 (0 : Int)) ++ ([.int .i64 0] : List Value)))) :: blk g3 143 (List.toArray (([] : List Value) ++ (arr1 (Value.int .i64) (0 : Int) 26 x.1 ++ ([.int .i64 0] : List Value)))) :: fs)) (assoc_b hm) ⟨hF.weak [1, 2, 3, 23, 24, 25] (by kernel_rfl), hS⟩ ?_
      clear hF hS hm
      rintro nn1 ⟨s1, z1⟩ a w ⟨hF, hS⟩ hm
      generalize hφ1 : stK (gammon_sideOf_L1 b1) nn1 (fun x => ((gammon_sideOf_K1 b2 b3) x).bind some) = φ1 at hm
      unfold gammon_sideOf_L1 at hm
      dsimp only at hF hS hm
      refine reg [] [] [1, 2, 3, 23, 24, 25, 26] [pl 1 (.pointer (some ⟨g1, 0, none⟩)), pl 2 (.pointer (some ⟨g2, 0, none⟩)), pl 3 (.pointer (some ⟨g3, 0, none⟩)), pl 23 (.slice A1 b1.length c1), pl 24 (.int .i64 (b1.length : Int)), pl 25 (.int .i64 z1), pl 26 (.bool (decide (z1 < (b1.length : Int))))] hF hS Fol (by kernel_rfl) (by kernel_rfl) (by kernel_rfl) ?_ (fun a w hF hS => ?_)
      · exact obs_nil
      refine seq_cut (fun a w => Fr 45 [pl 1 (.pointer (some ⟨g1, 0, none⟩)), pl 2 (.pointer (some ⟨g2, 0, none⟩)), pl 3 (.pointer (some ⟨g3, 0, none⟩)), pl 23 (.slice A1 b1.length c1), pl 24 (.int .i64 (b1.length : Int)), pl 25 (.int .i64 z1)] a ∧ Sep w0 B w (blk g1 61 #[.slice A1 b1.length c1, .int .i64 b2, .int .i64 b3, .int .i64 b4] :: blk g2 143 (List.toArray (([] : List Value) ++ (arr1 (Value.int .i64) (0 : Int) 26 (List.replicate 26 (0 : Int)) ++ ([.int .i64 0] : List Value)))) :: blk g3 143 (List.toArray (([] : List Value) ++ (arr1 (Value.int .i64) (0 : Int) 26 s1 ++ ([.int .i64 0] : List Value)))) :: fs) ∧ ((gammon_sideOf_J4 b1 s1 z1)).bind φ1 = some r) ?_ ?_
      · rintro a w ⟨hF, hS, hm⟩
        unfold gammon_sideOf_J4 at hm
        refine seq_cut (fun a w => Fr 45 [pl 1 (.pointer (some ⟨g1, 0, none⟩)), pl 2 (.pointer (some ⟨g2, 0, none⟩)), pl 3 (.pointer (some ⟨g3, 0, none⟩)), pl 23 (.slice A1 b1.length c1), pl 24 (.int .i64 (b1.length : Int)), pl 25 (.int .i64 z1)] a ∧ Sep w0 B w (blk g1 61 #[.slice A1 b1.length c1, .int .i64 b2, .int .i64 b3, .int .i64 b4] :: blk g2 143 (List.toArray (([] : List Value) ++ (arr1 (Value.int .i64) (0 : Int) 26 (List.replicate 26 (0 : Int)) ++ ([.int .i64 0] : List Value)))) :: blk g3 143 (List.toArray (([] : List Value) ++ (arr1 (Value.int .i64) (0 : Int) 26 (s1.set (Int.toNat (w64 (25 - z1))) (w64 (0 - (geti b1 z1)))) ++ ([.int .i64 0] : List Value)))) :: fs) ∧ ((gammon_sideOf_J5 b1 s1 z1)).bind φ1 = some r) ?_ ?_
        · rintro a w ⟨hF, hS, hm⟩
          unfold gammon_sideOf_J5 at hm
          refine reg1 [] [] [1, 2, 3, 23, 24, 25] [pl 1 (.pointer (some ⟨g1, 0, none⟩)), pl 2 (.pointer (some ⟨g2, 0, none⟩)), pl 3 (.pointer (some ⟨g3, 0, none⟩)), pl 23 (.slice A1 b1.length c1), pl 24 (.int .i64 (b1.length : Int)), pl 25 (.int .i64 (w64 (z1 + 1)))] hF hS Fol (by kernel_rfl) (by kernel_rfl) (by kernel_rfl) ?_ (fun a w hF hS => ?_)
          · exact obs_nil
          refine then_n ?_
          rw [← hφ1] at hm
          exact ⟨((s1.set (Int.toNat (w64 (25 - z1))) (w64 (0 - (geti b1 z1)))), (w64 (z1 + 1))), ⟨hF.weak [1, 2, 3, 23, 24, 25] (by kernel_rfl), hS⟩, hm⟩
        · refine wp_block ?_
          obtain ⟨hp3, hm⟩ := asrt_b hm
          refine reg [⟨true, [], vS (Instr.indexAt 40 (.slice A1 b1.length c1) (.int .i64 z1)), .pointer (some (sAddr A1 z1))⟩, ⟨false, [], vS (Instr.loadAt 3 (.pointer (some (sAddr A1 z1)))), .int .i64 (geti b1 z1)⟩] [none, some (.pointer (some (sAddr A1 z1))), some (.int .i64 (geti b1 z1)), none, none] [1, 2, 3, 4, 5, 23, 24, 25] [pl 1 (.pointer (some ⟨g1, 0, none⟩)), pl 2 (.pointer (some ⟨g2, 0, none⟩)), pl 3 (.pointer (some ⟨g3, 0, none⟩)), pl 4 (.int .i64 z1), pl 5 (.int .i64 (geti b1 z1)), pl 23 (.slice A1 b1.length c1), pl 24 (.int .i64 (b1.length : Int)), pl 25 (.int .i64 z1)] hF hS Fol (by kernel_rfl) (by kernel_rfl) (by kernel_rfl) ?_ (fun a w hF hS => ?_)
          · exact obs_cons (ob_ix1 (f := (Value.int .i64)) (m := b1) Und40 hi3 hs3 (hr_b1 _ (hS.dropN 3)) rfl (fun _ => hp3)) <| obs_cons (ob_get1 (n := b1.length) (m := b1) (Value.int .i64) (0 : Int) Agg3 (fun _ hS => ⟨_, (hr_b1 _ (hS.dropN 3))⟩) (fun _ hS => rfl) (fun _ => hp3)) <| obs_nil
          refine oneR ?_
          obtain ⟨hp4, hm⟩ := asrt_b hm
          obtain ⟨hp5, hm⟩ := asrt_b hm
          refine at_run 6 [⟨true, [], vS (Instr.indexAt 141 (.pointer (some ⟨g3, 0, none⟩)) (.int .i64 (w64 (25 - z1)))), .pointer (some ((⟨g3, 0, none⟩ : Addr).add (Int.toNat (w64 (25 - z1)) * 1)))⟩] [none, none, none, none, none, some (.pointer (some ((⟨g3, 0, none⟩ : Addr).add (Int.toNat (w64 (25 - z1)) * 1))))] [1, 2, 3, 23, 24, 25, 33, 35] [pl 1 (.pointer (some ⟨g1, 0, none⟩)), pl 2 (.pointer (some ⟨g2, 0, none⟩)), pl 3 (.pointer (some ⟨g3, 0, none⟩)), pl 23 (.slice A1 b1.length c1), pl 24 (.int .i64 (b1.length : Int)), pl 25 (.int .i64 z1), pl 33 (.int .i64 (w64 (0 - (geti b1 z1)))), pl 35 (.pointer (some ((⟨g3, 0, none⟩ : Addr).add (Int.toNat (w64 (25 - z1)) * 1))))] hF hS (by kernel_rfl) (by kernel_rfl) ?_ (fun a w hF hS => ?_)
          · exact obs_cons (ob_ixA UndA141 hi3 hs3 (fun _ => hp4)) <| obs_nil
          obtain ⟨w, hrun, hS⟩ := run_setA (P := Try.prog) (t := 3) (x := (w64 (0 - (geti b1 z1)))) (i := (w64 (25 - z1))) (m := s1) (d := Int.toNat (w64 (25 - z1)) * 1) (Value.int .i64) (0 : Int) 26 ([] : List Value) ([.int .i64 0] : List Value) (hS.at_ 2 rfl) rfl hi3 hs3 rfl (by have h0 := hp4; omega) (by have h0 := hp4; have h9 := hp5; omega)
          refine at_skip hF (by kernel_rfl) hrun ?_
          have hS : Sep w0 B w (blk g1 61 #[.slice A1 b1.length c1, .int .i64 b2, .int .i64 b3, .int .i64 b4] :: blk g2 143 (List.toArray (([] : List Value) ++ (arr1 (Value.int .i64) (0 : Int) 26 (List.replicate 26 (0 : Int)) ++ ([.int .i64 0] : List Value)))) :: blk g3 143 (List.toArray (([] : List Value) ++ (arr1 (Value.int .i64) (0 : Int) 26 (s1.set (Int.toNat (w64 (25 - z1))) (w64 (0 - (geti b1 z1)))) ++ ([.int .i64 0] : List Value)))) :: fs) := hS
          refine at_end [1, 2, 3, 23, 24, 25] [pl 1 (.pointer (some ⟨g1, 0, none⟩)), pl 2 (.pointer (some ⟨g2, 0, none⟩)), pl 3 (.pointer (some ⟨g3, 0, none⟩)), pl 23 (.slice A1 b1.length c1), pl 24 (.int .i64 (b1.length : Int)), pl 25 (.int .i64 z1)] hF rfl (by kernel_rfl) (fun hF => ?_)
          refine block_n ?_
          refine then_n ?_
          exact ⟨hF.weak [1, 2, 3, 23, 24, 25] (by kernel_rfl), hS, hm⟩
      · refine cond_ev (t := 26) (b := decide (z1 < (b1.length : Int))) hF (by kernel_rfl) (fun hb => ?_) (fun hb => ?_)
        · replace hm := if_t hm hb
          refine wp_skip ?_
          refine then_n ?_
          exact ⟨hF.weak [1, 2, 3, 23, 24, 25] (by kernel_rfl), hS, hm⟩
        · replace hm := if_f hm hb
          refine wp_exit ?_
          refine then_e (then_e (block_e (then_n ?_)))
          rw [← hφ1] at hm
          replace hm := done_b hm
          unfold gammon_sideOf_K1 at hm
          try dsimp only at hm
          have hm : ((gammon_sideOf_J3 b2 b3) s1).bind some = some r := hm
          exact ⟨s1, hF.weak [1, 2, 3] (by kernel_rfl), hS, hm⟩
  · refine reg [⟨false, [], vS (Instr.loadAt 3 (.pointer (some ⟨g1, 3, none⟩))), .int .i64 b4⟩] [none, some (.int .i64 b4), none] [1, 2, 3, 8] [pl 1 (.pointer (some ⟨g1, 0, none⟩)), pl 2 (.pointer (some ⟨g2, 0, none⟩)), pl 3 (.pointer (some ⟨g3, 0, none⟩)), pl 8 (.bool (b4 == 0))] hF hS Fol (by kernel_rfl) (by kernel_rfl) (by kernel_rfl) ?_ (fun a w hF hS => ?_)
    · exact obs_cons (ob_load Agg3 (fun _ _ hS => (hS.at_ 2 rfl).cell rfl)) <| obs_nil
    refine cond_ev (t := 8) (b := (b4 == 0)) hF (by kernel_rfl) (fun hb => ?_) (fun hb => ?_)
    · replace hm := if_t hm hb
      refine wp_seq ?_
      refine regMix4 [0, 1, 2, 3] [4] [⟨true, [], vS (Instr.sliceAt 141 (.pointer (some ⟨g3, 0, none⟩)) none none none), .slice (some (⟨g3, 0, none⟩ : Addr)) 26 26⟩, ⟨false, [], vS (Instr.loadAt 40 (.pointer (some ⟨g1, 0, none⟩))), .slice A1 b1.length c1⟩] [none, some (.slice (some (⟨g3, 0, none⟩ : Addr)) 26 26), none, some (.slice A1 b1.length c1)] [1, 2, 3, 10, 12] [pl 1 (.pointer (some ⟨g1, 0, none⟩)), pl 2 (.pointer (some ⟨g2, 0, none⟩)), pl 3 (.pointer (some ⟨g3, 0, none⟩)), pl 10 (.slice (some (⟨g3, 0, none⟩ : Addr)) 26 26), pl 12 (.slice A1 b1.length c1)] hF hS Fol (by kernel_rfl) (by kernel_rfl) (by kernel_rfl) (by kernel_rfl) (by kernel_rfl) ?_ (fun a w hF hS => ?_)
      · exact obs_cons (ob_sliceB UndA141 hi3) <| obs_cons (ob_load Agg40 (fun _ _ hS => (hS.at_ 2 rfl).cell rfl)) <| obs_nil
      obtain ⟨w, hrun, hS⟩ := run_copyB (P := Try.prog) (t := 40) (t2 := 40) (ty := 3) (n := 26) (m := (List.replicate 26 (0 : Int))) (ys := b1) (A2 := A1) (n2 := b1.length) (c2 := c1) (dc := 26) ([] : List Value) ([.int .i64 0] : List Value) (hS.at_ 0 rfl) rfl (hr_b1 _ (hS.dropN 3)) rfl Und40 hi3 hs3
      refine at_do (d := 13) hF (by kernel_rfl) (by kernel_rfl) hrun (fun a hF => ?_)
      have hS : Sep w0 B w (blk g3 143 (List.toArray (([] : List Value) ++ (arr1 (Value.int .i64) (0 : Int) 26 (putL (pad 26 (List.replicate 26 (0 : Int))) 0 (List.take 26 b1)) ++ ([.int .i64 0] : List Value)))) :: blk g2 143 (List.toArray (([] : List Value) ++ (arr1 (Value.int .i64) (0 : Int) 26 (List.replicate 26 (0 : Int)) ++ ([.int .i64 0] : List Value)))) :: blk g1 61 #[.slice A1 b1.length c1, .int .i64 b2, .int .i64 b3, .int .i64 b4] :: fs) := hS
      refine at_end [1, 2, 3] [pl 1 (.pointer (some ⟨g1, 0, none⟩)), pl 2 (.pointer (some ⟨g2, 0, none⟩)), pl 3 (.pointer (some ⟨g3, 0, none⟩))] hF rfl (by kernel_rfl) (fun hF => ?_)
      refine np_n ?_
      refine then_n ?_
      refine seq_cut (fun a w => Fr 45 [pl 2 (.pointer (some ⟨g2, 0, none⟩)), pl 3 (.pointer (some ⟨g3, 0, none⟩))] a ∧ Sep w0 B w (blk g2 143 (List.toArray (([] : List Value) ++ (arr1 (Value.int .i64) (0 : Int) 26 (List.replicate 26 (0 : Int)) ++ ([.int .i64 0] : List Value)))) :: blk g3 143 (List.toArray (([] : List Value) ++ (arr1 (Value.int .i64) (0 : Int) 26 ((putL (pad 26 (List.replicate 26 (0 : Int))) 0 (List.take 26 b1)).set (Int.toNat 25) b2) ++ ([.int .i64 b3] : List Value)))) :: fs) ∧ ((gammon_sideOf_J2 b1 b2 b3)).bind some = some r) ?_ ?_
      · rintro a w ⟨hF, hS, hm⟩
        unfold gammon_sideOf_J2 at hm
        refine seqR ?_
        refine at_run 1 [⟨false, [], vS (Instr.loadAt 143 (.pointer (some ⟨g3, 0, none⟩))), .agg (List.toArray (([] : List Value) ++ (arr1 (Value.int .i64) (0 : Int) 26 ((putL (pad 26 (List.replicate 26 (0 : Int))) 0 (List.take 26 b1)).set (Int.toNat 25) b2) ++ ([.int .i64 b3] : List Value))))⟩] [some (.agg (List.toArray (([] : List Value) ++ (arr1 (Value.int .i64) (0 : Int) 26 ((putL (pad 26 (List.replicate 26 (0 : Int))) 0 (List.take 26 b1)).set (Int.toNat 25) b2) ++ ([.int .i64 b3] : List Value)))))] [2, 21] [pl 2 (.pointer (some ⟨g2, 0, none⟩)), pl 21 (.agg (List.toArray (([] : List Value) ++ (arr1 (Value.int .i64) (0 : Int) 26 ((putL (pad 26 (List.replicate 26 (0 : Int))) 0 (List.take 26 b1)).set (Int.toNat 25) b2) ++ ([.int .i64 b3] : List Value)))))] hF hS (by kernel_rfl) (by kernel_rfl) ?_ (fun a w hF hS => ?_)
        · exact obs_cons (ob_loadA (cs := (List.toArray (([] : List Value) ++ (arr1 (Value.int .i64) (0 : Int) 26 ((putL (pad 26 (List.replicate 26 (0 : Int))) 0 (List.take 26 b1)).set (Int.toNat 25) b2) ++ ([.int .i64 b3] : List Value))))) (by kernel_rfl) (by kernel_rfl) (fun _ _ hS => (hS.at_ 1 rfl).cellsAt 0 (by rfl))) <| obs_nil
        obtain ⟨w, hrun, hS⟩ := run_putW (P := Try.prog) (t := 143) (us := (List.toArray (([] : List Value) ++ (arr1 (Value.int .i64) (0 : Int) 26 ((putL (pad 26 (List.replicate 26 (0 : Int))) 0 (List.take 26 b1)).set (Int.toNat 25) b2) ++ ([.int .i64 b3] : List Value))))) (hS.at_ 0 rfl) (by kernel_rfl) (all_one (by kernel_rfl)) (by kernel_rfl)
        refine at_skip hF (by kernel_rfl) hrun ?_
        have hS : Sep w0 B w (blk g2 143 (List.toArray (([] : List Value) ++ (arr1 (Value.int .i64) (0 : Int) 26 ((putL (pad 26 (List.replicate 26 (0 : Int))) 0 (List.take 26 b1)).set (Int.toNat 25) b2) ++ ([.int .i64 b3] : List Value)))) :: blk g3 143 (List.toArray (([] : List Value) ++ (arr1 (Value.int .i64) (0 : Int) 26 ((putL (pad 26 (List.replicate 26 (0 : Int))) 0 (List.take 26 b1)).set (Int.toNat 25) b2) ++ ([.int .i64 b3] : List Value)))) :: fs) := hS
        refine at_end [2] [pl 2 (.pointer (some ⟨g2, 0, none⟩))] hF rfl (by kernel_rfl) (fun hF => ?_)
        refine then_n ?_
        refine wp_ret ?_
        refine then_r ?_
        have hld0 := run_loadVarA (P := Try.prog) (t := 143) (cs := (List.toArray (([] : List Value) ++ (arr1 (Value.int .i64) (0 : Int) 26 ((putL (pad 26 (List.replicate 26 (0 : Int))) 0 (List.take 26 b1)).set (Int.toNat 25) b2) ++ ([.int .i64 b3] : List Value))))) (by kernel_rfl) (by kernel_rfl) ((hS.at_ 0 rfl).cellsAt 0 (by rfl))
        have hS := hS.pickN 2 [] (by decide)
        have hm : some (((putL (pad 26 (List.replicate 26 (0 : Int))) 0 (List.take 26 b1)).set (Int.toNat 25) b2), b3) = some r := hm
        obtain rfl := Option.some.inj hm
        exact retV (rs := [.cell 2 143]) (vs := [.agg (List.toArray (([] : List Value) ++ (arr1 (Value.int .i64) (0 : Int) 26 ((putL (pad 26 (List.replicate 26 (0 : Int))) 0 (List.take 26 b1)).set (Int.toNat 25) b2) ++ ([.int .i64 b3] : List Value))))]) hF rfl (rv_c (by kernel_rfl) hld0 <| rv_nil) rfl ⟨rfl, hS⟩
      · obtain ⟨hp1, hm⟩ := asrt_b hm
        obtain ⟨hp2, hm⟩ := asrt_b hm
        refine regMix5 [0, 1, 2, 4, 5] [6, 8] 4 #[true, true, true, false, true, true, false, false, false] [⟨false, [], vS (Instr.loadAt 3 (.pointer (some ⟨g1, 1, none⟩))), .int .i64 b2⟩, ⟨true, [], vS (Instr.indexAt 141 (.pointer (some ⟨g3, 0, none⟩)) (.int .i64 25)), .pointer (some ((⟨g3, 0, none⟩ : Addr).add (Int.toNat 25 * 1)))⟩] [none, some (.int .i64 b2), none, none, some (.pointer (some ((⟨g3, 0, none⟩ : Addr).add (Int.toNat 25 * 1))))] [2, 3, 15, 16, 19] [pl 2 (.pointer (some ⟨g2, 0, none⟩)), pl 3 (.pointer (some ⟨g3, 0, none⟩)), pl 15 (.int .i64 b2), pl 16 (.pointer (some ⟨g1, 2, none⟩)), pl 19 (.pointer (some ((⟨g3, 0, none⟩ : Addr).add (Int.toNat 25 * 1))))] hF hS Fol (by kernel_rfl) (by kernel_rfl) (by kernel_rfl) (by kernel_rfl) ?_ (fun a w hF hS => ?_)
        · exact obs_cons (ob_load Agg3 (fun _ _ hS => (hS.at_ 2 rfl).cell rfl)) <| obs_cons (ob_ixA UndA141 hi3 hs3 (fun _ => hp1)) <| obs_nil
        refine any_step [3, 6] (by kernel_rfl) rfl ?_
        refine (all_cons ?_ (all_cons ?_ all_nil))
        · refine any_op (listed' := #[true, true, true, true, true, true, false, false, false]) (by kernel_rfl) (by kernel_rfl) ?_
          refine at_runW 1 [⟨false, [], vS (Instr.loadAt 3 (.pointer (some ⟨g1, 2, none⟩))), .int .i64 b3⟩] [some (.int .i64 b3)] [2, 3, 15, 17, 19] [pl 2 (.pointer (some ⟨g2, 0, none⟩)), pl 3 (.pointer (some ⟨g3, 0, none⟩)), pl 15 (.int .i64 b2), pl 17 (.int .i64 b3), pl 19 (.pointer (some ((⟨g3, 0, none⟩ : Addr).add (Int.toNat 25 * 1))))] hF hS (by kernel_rfl) (by kernel_rfl) ?_ (fun a hF => ?_)
          · exact obs_cons (ob_load Agg3 (fun _ _ hS => (hS.at_ 2 rfl).cell rfl)) <| obs_nil
          refine any_finI rfl (fun h => h) ?_
          refine any_step [6] (by kernel_rfl) rfl ?_
          refine (all_cons ?_ all_nil)
          · refine any_op (listed' := #[true, true, true, true, true, true, true, false, false]) (by kernel_rfl) (by kernel_rfl) ?_
            obtain ⟨w, hrun, hS⟩ := run_setA (P := Try.prog) (t := 3) (x := b2) (i := 25) (m := (putL (pad 26 (List.replicate 26 (0 : Int))) 0 (List.take 26 b1))) (d := Int.toNat 25 * 1) (Value.int .i64) (0 : Int) 26 ([] : List Value) ([.int .i64 0] : List Value) (hS.at_ 0 rfl) rfl hi3 hs3 rfl (by have h0 := hp1; omega) (by have h0 := hp1; have h9 := hp2; omega)
            refine at_skip hF (by kernel_rfl) hrun ?_
            have hS : Sep w0 B w (blk g3 143 (List.toArray (([] : List Value) ++ (arr1 (Value.int .i64) (0 : Int) 26 ((putL (pad 26 (List.replicate 26 (0 : Int))) 0 (List.take 26 b1)).set (Int.toNat 25) b2) ++ ([.int .i64 0] : List Value)))) :: blk g2 143 (List.toArray (([] : List Value) ++ (arr1 (Value.int .i64) (0 : Int) 26 (List.replicate 26 (0 : Int)) ++ ([.int .i64 0] : List Value)))) :: blk g1 61 #[.slice A1 b1.length c1, .int .i64 b2, .int .i64 b3, .int .i64 b4] :: fs) := hS
            refine any_finE rfl (by decide) ?_
            refine any_step [7] (by kernel_rfl) rfl ?_
            refine (all_cons ?_ all_nil)
            · refine any_op (listed' := #[true, true, true, true, true, true, true, true, false]) (by kernel_rfl) (by kernel_rfl) ?_
              refine at_runW 1 [] [] [2, 3, 17, 20] [pl 2 (.pointer (some ⟨g2, 0, none⟩)), pl 3 (.pointer (some ⟨g3, 0, none⟩)), pl 17 (.int .i64 b3), pl 20 (.pointer (some ⟨g3, 26, none⟩))] hF hS (by kernel_rfl) (by kernel_rfl) ?_ (fun a hF => ?_)
              · exact obs_nil
              refine any_finI rfl (fun h => h) ?_
              refine any_step [8] (by kernel_rfl) rfl ?_
              refine (all_cons ?_ all_nil)
              · refine any_op (listed' := #[true, true, true, true, true, true, true, true, true]) (by kernel_rfl) (by kernel_rfl) ?_
                obtain ⟨w, hrun, hS⟩ := run_put (P := Try.prog) (t := 3) (u := .int .i64 b3) (i := 26) (hS.at_ 0 rfl) hi3 hs3 rfl (Nat.lt_of_lt_of_eq (Nat.lt_of_succ_le (Nat.le_of_ble_eq_true (by kernel_rfl))) rfl)
                refine at_skip hF (by kernel_rfl) hrun ?_
                have hS : Sep w0 B w (blk g3 143 (List.toArray (([] : List Value) ++ (arr1 (Value.int .i64) (0 : Int) 26 ((putL (pad 26 (List.replicate 26 (0 : Int))) 0 (List.take 26 b1)).set (Int.toNat 25) b2) ++ ([.int .i64 b3] : List Value)))) :: blk g2 143 (List.toArray (([] : List Value) ++ (arr1 (Value.int .i64) (0 : Int) 26 (List.replicate 26 (0 : Int)) ++ ([.int .i64 0] : List Value)))) :: blk g1 61 #[.slice A1 b1.length c1, .int .i64 b2, .int .i64 b3, .int .i64 b4] :: fs) := hS
                refine any_finE rfl (by decide) ?_
                refine any_end (by kernel_rfl) ?_
                refine np_n ?_
                refine then_n ?_
                have hS := hS.pickN 3 [1, 0] (by decide)
                exact ⟨hF.weak [2, 3] (by kernel_rfl), hS, hm⟩
        · refine any_op (listed' := #[true, true, true, false, true, true, true, false, false]) (by kernel_rfl) (by kernel_rfl) ?_
          obtain ⟨w, hrun, hS⟩ := run_setA (P := Try.prog) (t := 3) (x := b2) (i := 25) (m := (putL (pad 26 (List.replicate 26 (0 : Int))) 0 (List.take 26 b1))) (d := Int.toNat 25 * 1) (Value.int .i64) (0 : Int) 26 ([] : List Value) ([.int .i64 0] : List Value) (hS.at_ 0 rfl) rfl hi3 hs3 rfl (by have h0 := hp1; omega) (by have h0 := hp1; have h9 := hp2; omega)
          refine at_skip hF (by kernel_rfl) hrun ?_
          have hS : Sep w0 B w (blk g3 143 (List.toArray (([] : List Value) ++ (arr1 (Value.int .i64) (0 : Int) 26 ((putL (pad 26 (List.replicate 26 (0 : Int))) 0 (List.take 26 b1)).set (Int.toNat 25) b2) ++ ([.int .i64 0] : List Value)))) :: blk g2 143 (List.toArray (([] : List Value) ++ (arr1 (Value.int .i64) (0 : Int) 26 (List.replicate 26 (0 : Int)) ++ ([.int .i64 0] : List Value)))) :: blk g1 61 #[.slice A1 b1.length c1, .int .i64 b2, .int .i64 b3, .int .i64 b4] :: fs) := hS
          refine any_finE rfl (by decide) ?_
          refine any_step [3] (by kernel_rfl) rfl ?_
          refine (all_cons ?_ all_nil)
          · refine any_op (listed' := #[true, true, true, true, true, true, true, false, false]) (by kernel_rfl) (by kernel_rfl) ?_
            refine at_runW 1 [⟨false, [], vS (Instr.loadAt 3 (.pointer (some ⟨g1, 2, none⟩))), .int .i64 b3⟩] [some (.int .i64 b3)] [2, 3, 17] [pl 2 (.pointer (some ⟨g2, 0, none⟩)), pl 3 (.pointer (some ⟨g3, 0, none⟩)), pl 17 (.int .i64 b3)] hF hS (by kernel_rfl) (by kernel_rfl) ?_ (fun a hF => ?_)
            · exact obs_cons (ob_load Agg3 (fun _ _ hS => (hS.at_ 2 rfl).cell rfl)) <| obs_nil
            refine any_finI rfl (fun h => h) ?_
            refine any_step [7] (by kernel_rfl) rfl ?_
            refine (all_cons ?_ all_nil)
            · refine any_op (listed' := #[true, true, true, true, true, true, true, true, false]) (by kernel_rfl) (by kernel_rfl) ?_
              refine at_runW 1 [] [] [2, 3, 17, 20] [pl 2 (.pointer (some ⟨g2, 0, none⟩)), pl 3 (.pointer (some ⟨g3, 0, none⟩)), pl 17 (.int .i64 b3), pl 20 (.pointer (some ⟨g3, 26, none⟩))] hF hS (by kernel_rfl) (by kernel_rfl) ?_ (fun a hF => ?_)
              · exact obs_nil
              refine any_finI rfl (fun h => h) ?_
              refine any_step [8] (by kernel_rfl) rfl ?_
              refine (all_cons ?_ all_nil)
              · refine any_op (listed' := #[true, true, true, true, true, true, true, true, true]) (by kernel_rfl) (by kernel_rfl) ?_
                obtain ⟨w, hrun, hS⟩ := run_put (P := Try.prog) (t := 3) (u := .int .i64 b3) (i := 26) (hS.at_ 0 rfl) hi3 hs3 rfl (Nat.lt_of_lt_of_eq (Nat.lt_of_succ_le (Nat.le_of_ble_eq_true (by kernel_rfl))) rfl)
                refine at_skip hF (by kernel_rfl) hrun ?_
                have hS : Sep w0 B w (blk g3 143 (List.toArray (([] : List Value) ++ (arr1 (Value.int .i64) (0 : Int) 26 ((putL (pad 26 (List.replicate 26 (0 : Int))) 0 (List.take 26 b1)).set (Int.toNat 25) b2) ++ ([.int .i64 b3] : List Value)))) :: blk g2 143 (List.toArray (([] : List Value) ++ (arr1 (Value.int .i64) (0 : Int) 26 (List.replicate 26 (0 : Int)) ++ ([.int .i64 0] : List Value)))) :: blk g1 61 #[.slice A1 b1.length c1, .int .i64 b2, .int .i64 b3, .int .i64 b4] :: fs) := hS
                refine any_finE rfl (by decide) ?_
                refine any_end (by kernel_rfl) ?_
                refine np_n ?_
                refine then_n ?_
                have hS := hS.pickN 3 [1, 0] (by decide)
                exact ⟨hF.weak [2, 3] (by kernel_rfl), hS, hm⟩
    · replace hm := if_f hm hb
      refine wp_skip ?_
      refine then_n ?_
      have hS := hS.pickN 3 [2, 1, 0] (by decide)
      exact ⟨hF.weak [1, 2, 3] (by kernel_rfl), hS, hm⟩

noncomputable def gammon_side_last_J3 (i1 : Int) : Option (St Int (Fl Unit Int)) :=
  some (.next (w64 (i1 - 1)))

noncomputable def gammon_side_last_J2 (s1 : List Int) (i1 : Int) : Option (St Int (Fl Unit Int)) :=
  asrt (0 ≤ i1 ∧ i1 < 26) <| if (decide ((0 : Int) < (geti s1 i1))) then (some (.done (.ret i1))) else ((gammon_side_last_J3 i1))

noncomputable def gammon_side_last_J1 : Option Int :=
  some 0

noncomputable def gammon_side_last_K1 : (Fl Unit Int) → Option Int :=
  fun (x : (Fl Unit Int)) => match x with | .go _ => gammon_side_last_J1 | .ret x => some x

noncomputable def gammon_side_last_L1 (s1 : List Int) : Int → Option (St Int (Fl Unit Int)) :=
  fun (x : Int) => match x with | i1 => if (decide ((0 : Int) < i1)) then ((gammon_side_last_J2 s1 i1)) else (some (.done (.go ())))

noncomputable def gammon_side_last_m (s1 : List Int) (s2 : Int) : Option Int :=
  (loop (gammon_side_last_L1 s1) 25).bind gammon_side_last_K1

set_option maxRecDepth 100000 in
set_option maxHeartbeats 4000000 in
theorem gammon_side_last_w {s1 : List Int} {s2 : Int} {r : Int} {w0 w : World} {B : Nat} {fs : List HP} (hm : gammon_side_last_m s1 s2 = some r) (hS : Sep w0 B w (fs)) :
    Calls Try.prog 139 #[.agg (List.toArray (([] : List Value) ++ (arr1 (Value.int .i64) (0 : Int) 26 s1 ++ ([.int .i64 s2] : List Value))))] w fun e w' => e = .returned (.int .i64 r) ∧ Sep w0 B w' (fs) := by
  obtain ⟨i3, hi3, hz3, hs3, hb3⟩ := info_parts Info3
  unfold gammon_side_last_m at hm
  replace hm := start_b hm
  refine enter (l := [.agg (List.toArray (([] : List Value) ++ (arr1 (Value.int .i64) (0 : Int) 26 s1 ++ ([.int .i64 s2] : List Value))))]) (n := 14) Try.func139 rfl rfl (by simp) (fun a hF => ?_)
  refine seqR ?_
  refine at_do (d := 1) (s := vS (Instr.box 143 (.agg (List.toArray (([] : List Value) ++ (arr1 (Value.int .i64) (0 : Int) 26 s1 ++ ([.int .i64 s2] : List Value))))))) (v := .pointer (some ⟨w.heap.size, 0, none⟩)) (w' := w.alloc (.cells (List.toArray (([] : List Value) ++ (arr1 (Value.int .i64) (0 : Int) 26 s1 ++ ([.int .i64 s2] : List Value)))) 143)) hF (by kernel_rfl) (by kernel_rfl) (by kernel_rfl) (fun a hF => ?_)
  have hS : Sep w0 B (w.alloc (.cells (List.toArray (([] : List Value) ++ (arr1 (Value.int .i64) (0 : Int) 26 s1 ++ ([.int .i64 s2] : List Value)))) 143)) (blk w.heap.size 143 (List.toArray (([] : List Value) ++ (arr1 (Value.int .i64) (0 : Int) 26 s1 ++ ([.int .i64 s2] : List Value)))) :: (fs)) := hS.box 143 (List.toArray (([] : List Value) ++ (arr1 (Value.int .i64) (0 : Int) 26 s1 ++ ([.int .i64 s2] : List Value))))
  generalize w.heap.size = g1 at hF hS
  generalize w.alloc (.cells (List.toArray (([] : List Value) ++ (arr1 (Value.int .i64) (0 : Int) 26 s1 ++ ([.int .i64 s2] : List Value)))) 143) = w at hS ⊢
  refine at_run 1 [] [] [1] [pl 1 (.pointer (some ⟨g1, 0, none⟩))] hF hS (by kernel_rfl) (by kernel_rfl) ?_ (fun a w hF hS => ?_)
  · exact obs_nil
  refine at_end [1] [pl 1 (.pointer (some ⟨g1, 0, none⟩))] hF rfl (by kernel_rfl) (fun hF => ?_)
  refine then_n ?_
  refine seq_cut (fun a w => Fr 14 [] a ∧ Sep w0 B w (fs) ∧ (gammon_side_last_J1).bind some = some r) ?_ ?_
  · rintro a w ⟨hF, hS, hm⟩
    unfold gammon_side_last_J1 at hm
    refine reg [] [] [2] [pl 2 (.int .i64 0)] hF hS Fol (by kernel_rfl) (by kernel_rfl) (by kernel_rfl) ?_ (fun a w hF hS => ?_)
    · exact obs_nil
    refine wp_ret ?_
    have hm : some 0 = some r := hm
    obtain rfl := Option.some.inj hm
    exact retV (rs := [.tmp 2]) (vs := [.int .i64 0]) hF rfl (rv_t (by kernel_rfl) <| rv_nil) rfl ⟨rfl, hS⟩
  · refine reg [] [] [1, 3] [pl 1 (.pointer (some ⟨g1, 0, none⟩)), pl 3 (.int .i64 25)] hF hS Fol (by kernel_rfl) (by kernel_rfl) (by kernel_rfl) ?_ (fun a w hF hS => ?_)
    · exact obs_nil
    refine wp_block ?_
    refine wp_loop_model (S := Int) (R := (Fl Unit Int)) (gammon_side_last_L1 s1) (fun x => (gammon_side_last_K1 x).bind some) r (fun (x : Int) a w => Fr 14 [pl 1 (.pointer (some ⟨g1, 0, none⟩)), pl 3 (.int .i64 x)] a ∧ Sep w0 B w (blk g1 143 (List.toArray (([] : List Value) ++ (arr1 (Value.int .i64) (0 : Int) 26 s1 ++ ([.int .i64 s2] : List Value)))) :: fs)) (assoc_b hm) ⟨hF.weak [1, 3] (by kernel_rfl), hS⟩ ?_
    clear hF hS hm
    rintro nn1 i1 a w ⟨hF, hS⟩ hm
    generalize hφ1 : stK (gammon_side_last_L1 s1) nn1 (fun x => (gammon_side_last_K1 x).bind some) = φ1 at hm
    unfold gammon_side_last_L1 at hm
    dsimp only at hm
    refine seq_cut (fun a w => Fr 14 [pl 1 (.pointer (some ⟨g1, 0, none⟩)), pl 3 (.int .i64 i1)] a ∧ Sep w0 B w (blk g1 143 (List.toArray (([] : List Value) ++ (arr1 (Value.int .i64) (0 : Int) 26 s1 ++ ([.int .i64 s2] : List Value)))) :: fs) ∧ ((gammon_side_last_J2 s1 i1)).bind φ1 = some r) ?_ ?_
    · rintro a w ⟨hF, hS, hm⟩
      unfold gammon_side_last_J2 at hm
      refine seq_cut (fun a w => Fr 14 [pl 1 (.pointer (some ⟨g1, 0, none⟩)), pl 3 (.int .i64 i1)] a ∧ Sep w0 B w (blk g1 143 (List.toArray (([] : List Value) ++ (arr1 (Value.int .i64) (0 : Int) 26 s1 ++ ([.int .i64 s2] : List Value)))) :: fs) ∧ ((gammon_side_last_J3 i1)).bind φ1 = some r) ?_ ?_
      · rintro a w ⟨hF, hS, hm⟩
        unfold gammon_side_last_J3 at hm
        refine reg1 [] [] [1, 3] [pl 1 (.pointer (some ⟨g1, 0, none⟩)), pl 3 (.int .i64 (w64 (i1 - 1)))] hF hS Fol (by kernel_rfl) (by kernel_rfl) (by kernel_rfl) ?_ (fun a w hF hS => ?_)
        · exact obs_nil
        refine then_n ?_
        rw [← hφ1] at hm
        exact ⟨(w64 (i1 - 1)), ⟨hF.weak [1, 3] (by kernel_rfl), hS⟩, hm⟩
      · refine wp_block ?_
        obtain ⟨hp1, hm⟩ := asrt_b hm
        refine reg [⟨true, [], vS (Instr.indexAt 141 (.pointer (some ⟨g1, 0, none⟩)) (.int .i64 i1)), .pointer (some ((⟨g1, 0, none⟩ : Addr).add (Int.toNat i1 * 1)))⟩, ⟨false, [], vS (Instr.loadAt 3 (.pointer (some ((⟨g1, 0, none⟩ : Addr).add (Int.toNat i1 * 1))))), .int .i64 (geti s1 i1)⟩] [none, none, some (.pointer (some ((⟨g1, 0, none⟩ : Addr).add (Int.toNat i1 * 1)))), some (.int .i64 (geti s1 i1)), none] [1, 3, 12] [pl 1 (.pointer (some ⟨g1, 0, none⟩)), pl 3 (.int .i64 i1), pl 12 (.bool (decide ((0 : Int) < (geti s1 i1))))] hF hS Fol (by kernel_rfl) (by kernel_rfl) (by kernel_rfl) ?_ (fun a w hF hS => ?_)
        · exact obs_cons (ob_ixA UndA141 hi3 hs3 (fun _ => hp1)) <| obs_cons (ob_getA (m := s1) (Value.int .i64) (0 : Int) 26 ([] : List Value) ([.int .i64 s2] : List Value) i1 Agg3 rfl (fun _ hS => ⟨_, _, _, _, _, hS.at_ 0 rfl⟩) (fun hy => by have h0 := hp1; omega)) <| obs_nil
        refine cond_ev (t := 12) (b := decide ((0 : Int) < (geti s1 i1))) hF (by kernel_rfl) (fun hb => ?_) (fun hb => ?_)
        · replace hm := if_t hm hb
          refine reg [] [] [2] [pl 2 (.int .i64 i1)] hF hS Fol (by kernel_rfl) (by kernel_rfl) (by kernel_rfl) ?_ (fun a w hF hS => ?_)
          · exact obs_nil
          refine wp_ret ?_
          refine block_r (then_r (then_r (block_r (then_r ?_))))
          rw [← hφ1] at hm
          replace hm := done_b hm
          unfold gammon_side_last_K1 at hm
          try dsimp only at hm
          have hS := hS.pickN 1 [] (by decide)
          have hm : some i1 = some r := hm
          obtain rfl := Option.some.inj hm
          exact retV (rs := [.tmp 2]) (vs := [.int .i64 i1]) hF rfl (rv_t (by kernel_rfl) <| rv_nil) rfl ⟨rfl, hS⟩
        · replace hm := if_f hm hb
          refine wp_skip ?_
          refine block_n ?_
          refine then_n ?_
          exact ⟨hF.weak [1, 3] (by kernel_rfl), hS, hm⟩
    · refine reg [] [] [1, 3, 5] [pl 1 (.pointer (some ⟨g1, 0, none⟩)), pl 3 (.int .i64 i1), pl 5 (.bool (decide ((0 : Int) < i1)))] hF hS Fol (by kernel_rfl) (by kernel_rfl) (by kernel_rfl) ?_ (fun a w hF hS => ?_)
      · exact obs_nil
      refine cond_ev (t := 5) (b := decide ((0 : Int) < i1)) hF (by kernel_rfl) (fun hb => ?_) (fun hb => ?_)
      · replace hm := if_t hm hb
        refine wp_skip ?_
        refine then_n ?_
        exact ⟨hF.weak [1, 3] (by kernel_rfl), hS, hm⟩
      · replace hm := if_f hm hb
        refine wp_exit ?_
        refine then_e (then_e (block_e (then_n ?_)))
        have hS := hS.pickN 1 [] (by decide)
        rw [← hφ1] at hm
        replace hm := done_b hm
        unfold gammon_side_last_K1 at hm
        try dsimp only at hm
        have hm : (gammon_side_last_J1).bind some = some r := hm
        exact ⟨hF.weak [] (by kernel_rfl), hS, hm⟩

noncomputable def gammon_side_step_J2 (from1 : Int) (s3 : List Int) (s4 : Int) : Option (List Int × Int × Bool) :=
  asrt (0 ≤ from1 ∧ from1 < 26) <| asrt (0 ≤ from1 ∧ from1 < 26) <| asrt (from1 < (s3.length : Int)) <| some ((s3.set (Int.toNat from1) (w64 ((geti s3 from1) - 1))), s4, true)

noncomputable def gammon_side_step_J1 (s1 : List Int) (s2 : Int) (from1 : Int) (pips1 : Int) : Option (List Int × Int × Bool) :=
  (gammon_side_last_m s1 s2).bind fun r1 => if (decide ((w64 (from1 - pips1)) ≤ 0)) then (if ((decide ((6 : Int) < r1)) || ((decide ((w64 (from1 - pips1)) < 0)) && (decide (from1 < r1)))) then (some (s1, s2, false)) else ((gammon_side_step_J2 from1) s1 s2)) else (asrt (0 ≤ (w64 (from1 - pips1)) ∧ (w64 (from1 - pips1)) < 26) <| if (decide ((geti s1 (w64 (from1 - pips1))) < (-1))) then (some (s1, s2, false)) else (asrt (0 ≤ (w64 (from1 - pips1)) ∧ (w64 (from1 - pips1)) < 26) <| if ((geti s1 (w64 (from1 - pips1))) == (-1)) then (asrt (0 ≤ (w64 (from1 - pips1)) ∧ (w64 (from1 - pips1)) < 26) <| asrt ((w64 (from1 - pips1)) < (s1.length : Int)) <| (gammon_side_step_J2 from1) (s1.set (Int.toNat (w64 (from1 - pips1))) 1) (w64 (s2 + 1))) else (asrt (0 ≤ (w64 (from1 - pips1)) ∧ (w64 (from1 - pips1)) < 26) <| asrt (0 ≤ (w64 (from1 - pips1)) ∧ (w64 (from1 - pips1)) < 26) <| asrt ((w64 (from1 - pips1)) < (s1.length : Int)) <| (gammon_side_step_J2 from1) (s1.set (Int.toNat (w64 (from1 - pips1))) (w64 ((geti s1 (w64 (from1 - pips1))) + 1))) s2)))

noncomputable def gammon_side_step_m (s1 : List Int) (s2 : Int) (from1 : Int) (pips1 : Int) : Option (List Int × Int × Bool) :=
  asrt (0 ≤ from1 ∧ from1 < 26) <| asrt ((decide ((geti s1 from1) < 1)) = false → 0 ≤ (25 : Int) ∧ (25 : Int) < 26) <| if ((decide ((geti s1 from1) < 1)) || ((decide ((0 : Int) < (geti s1 25))) && (from1 != 25))) then (some (s1, s2, false)) else ((gammon_side_step_J1 s1 s2 from1 pips1))

set_option maxRecDepth 100000 in
set_option maxHeartbeats 4000000 in
theorem gammon_side_step_w {s1 : List Int} {s2 : Int} {from1 : Int} {pips1 : Int} {r : (List Int × Int × Bool)} {w0 w : World} {B : Nat} {fs : List HP} (hm : gammon_side_step_m s1 s2 from1 pips1 = some r) (hS : Sep w0 B w (fs)) :
    Calls Try.prog 99 #[.agg (List.toArray (([] : List Value) ++ (arr1 (Value.int .i64) (0 : Int) 26 s1 ++ ([.int .i64 s2] : List Value)))), .int .i64 from1, .int .i64 pips1] w fun e w' => e = .returned (.tuple #[.agg (List.toArray (([] : List Value) ++ (arr1 (Value.int .i64) (0 : Int) 26 r.1 ++ ([.int .i64 r.2.1] : List Value)))), .bool r.2.2]) ∧ Sep w0 B w' (fs) := by
  obtain ⟨i3, hi3, hz3, hs3, hb3⟩ := info_parts Info3
  unfold gammon_side_step_m at hm
  replace hm := start_b hm
  refine enter (l := [.agg (List.toArray (([] : List Value) ++ (arr1 (Value.int .i64) (0 : Int) 26 s1 ++ ([.int .i64 s2] : List Value)))), .int .i64 from1, .int .i64 pips1]) (n := 81) Try.func99 rfl rfl (by simp) (fun a hF => ?_)
  refine seqR ?_
  refine at_do (d := 3) (s := vS (Instr.box 143 (.agg (List.toArray (([] : List Value) ++ (arr1 (Value.int .i64) (0 : Int) 26 s1 ++ ([.int .i64 s2] : List Value))))))) (v := .pointer (some ⟨w.heap.size, 0, none⟩)) (w' := w.alloc (.cells (List.toArray (([] : List Value) ++ (arr1 (Value.int .i64) (0 : Int) 26 s1 ++ ([.int .i64 s2] : List Value)))) 143)) hF (by kernel_rfl) (by kernel_rfl) (by kernel_rfl) (fun a hF => ?_)
  have hS : Sep w0 B (w.alloc (.cells (List.toArray (([] : List Value) ++ (arr1 (Value.int .i64) (0 : Int) 26 s1 ++ ([.int .i64 s2] : List Value)))) 143)) (blk w.heap.size 143 (List.toArray (([] : List Value) ++ (arr1 (Value.int .i64) (0 : Int) 26 s1 ++ ([.int .i64 s2] : List Value)))) :: (fs)) := hS.box 143 (List.toArray (([] : List Value) ++ (arr1 (Value.int .i64) (0 : Int) 26 s1 ++ ([.int .i64 s2] : List Value))))
  generalize w.heap.size = g1 at hF hS
  generalize w.alloc (.cells (List.toArray (([] : List Value) ++ (arr1 (Value.int .i64) (0 : Int) 26 s1 ++ ([.int .i64 s2] : List Value)))) 143) = w at hS ⊢
  refine at_do (d := 6) (s := vS (Instr.alloc 143 true (.tuple #[]))) (v := .pointer (some ⟨w.heap.size, 0, none⟩)) (w' := w.alloc (.cells (List.toArray (([] : List Value) ++ (arr1 (Value.int .i64) (0 : Int) 26 (List.replicate 26 (0 : Int)) ++ ([.int .i64 0] : List Value)))) 143)) hF (by kernel_rfl) (by kernel_rfl) (by kernel_rfl) (fun a hF => ?_)
  have hS : Sep w0 B (w.alloc (.cells (List.toArray (([] : List Value) ++ (arr1 (Value.int .i64) (0 : Int) 26 (List.replicate 26 (0 : Int)) ++ ([.int .i64 0] : List Value)))) 143)) (blk w.heap.size 143 (List.toArray (([] : List Value) ++ (arr1 (Value.int .i64) (0 : Int) 26 (List.replicate 26 (0 : Int)) ++ ([.int .i64 0] : List Value)))) :: (blk g1 143 (List.toArray (([] : List Value) ++ (arr1 (Value.int .i64) (0 : Int) 26 s1 ++ ([.int .i64 s2] : List Value)))) :: fs)) := hS.box 143 (List.toArray (([] : List Value) ++ (arr1 (Value.int .i64) (0 : Int) 26 (List.replicate 26 (0 : Int)) ++ ([.int .i64 0] : List Value))))
  generalize w.heap.size = g2 at hF hS
  generalize w.alloc (.cells (List.toArray (([] : List Value) ++ (arr1 (Value.int .i64) (0 : Int) 26 (List.replicate 26 (0 : Int)) ++ ([.int .i64 0] : List Value)))) 143) = w at hS ⊢
  refine at_run 1 [] [] [1, 2, 3, 6] [pl 1 (.int .i64 from1), pl 2 (.int .i64 pips1), pl 3 (.pointer (some ⟨g1, 0, none⟩)), pl 6 (.pointer (some ⟨g2, 0, none⟩))] hF hS (by kernel_rfl) (by kernel_rfl) ?_ (fun a w hF hS => ?_)
  · exact obs_nil
  refine at_end [1, 2, 3, 6] [pl 1 (.int .i64 from1), pl 2 (.int .i64 pips1), pl 3 (.pointer (some ⟨g1, 0, none⟩)), pl 6 (.pointer (some ⟨g2, 0, none⟩))] hF rfl (by kernel_rfl) (fun hF => ?_)
  refine then_n ?_
  refine seq_cut (fun a w => Fr 81 [pl 1 (.int .i64 from1), pl 2 (.int .i64 pips1), pl 3 (.pointer (some ⟨g1, 0, none⟩)), pl 6 (.pointer (some ⟨g2, 0, none⟩))] a ∧ Sep w0 B w (blk g1 143 (List.toArray (([] : List Value) ++ (arr1 (Value.int .i64) (0 : Int) 26 s1 ++ ([.int .i64 s2] : List Value)))) :: blk g2 143 (List.toArray (([] : List Value) ++ (arr1 (Value.int .i64) (0 : Int) 26 (List.replicate 26 (0 : Int)) ++ ([.int .i64 0] : List Value)))) :: fs) ∧ ((gammon_side_step_J1 s1 s2 from1 pips1)).bind some = some r) ?_ ?_
  · rintro a w ⟨hF, hS, hm⟩
    unfold gammon_side_step_J1 at hm
    refine reg [] [] [1, 3, 6, 8] [pl 1 (.int .i64 from1), pl 3 (.pointer (some ⟨g1, 0, none⟩)), pl 6 (.pointer (some ⟨g2, 0, none⟩)), pl 8 (.int .i64 (w64 (from1 - pips1)))] hF hS Fol (by kernel_rfl) (by kernel_rfl) (by kernel_rfl) ?_ (fun a w hF hS => ?_)
    · exact obs_nil
    obtain ⟨r1, hr1, hm⟩ := call_b hm
    refine reg [⟨false, [], vS (Instr.loadAt 143 (.pointer (some ⟨g1, 0, none⟩))), .agg (List.toArray (([] : List Value) ++ (arr1 (Value.int .i64) (0 : Int) 26 s1 ++ ([.int .i64 s2] : List Value))))⟩, ⟨false, [], callFunc 139 #[.agg (List.toArray (([] : List Value) ++ (arr1 (Value.int .i64) (0 : Int) 26 s1 ++ ([.int .i64 s2] : List Value))))], .int .i64 r1⟩] [some (.agg (List.toArray (([] : List Value) ++ (arr1 (Value.int .i64) (0 : Int) 26 s1 ++ ([.int .i64 s2] : List Value))))), some (.int .i64 r1), none] [1, 3, 6, 8, 9] [pl 1 (.int .i64 from1), pl 3 (.pointer (some ⟨g1, 0, none⟩)), pl 6 (.pointer (some ⟨g2, 0, none⟩)), pl 8 (.int .i64 (w64 (from1 - pips1))), pl 9 (.int .i64 r1)] hF hS Fol (by kernel_rfl) (by kernel_rfl) (by kernel_rfl) ?_ (fun a w hF hS => ?_)
    · exact obs_cons (ob_loadA (cs := (List.toArray (([] : List Value) ++ (arr1 (Value.int .i64) (0 : Int) 26 s1 ++ ([.int .i64 s2] : List Value))))) (by kernel_rfl) (by kernel_rfl) (fun _ _ hS => (hS.at_ 0 rfl).cellsAt 0 (by rfl))) <| obs_cons (ob_call Try.func139 (by kernel_rfl) rfl (fun _ _ hS => gammon_side_last_w hr1 hS )) <| obs_nil
    refine seq_cut (fun a w => ∃ (s3 : List Int) (s4 : Int), Fr 81 [pl 1 (.int .i64 from1), pl 3 (.pointer (some ⟨g1, 0, none⟩)), pl 6 (.pointer (some ⟨g2, 0, none⟩))] a ∧ Sep w0 B w (blk g1 143 (List.toArray (([] : List Value) ++ (arr1 (Value.int .i64) (0 : Int) 26 s3 ++ ([.int .i64 s4] : List Value)))) :: blk g2 143 (List.toArray (([] : List Value) ++ (arr1 (Value.int .i64) (0 : Int) 26 (List.replicate 26 (0 : Int)) ++ ([.int .i64 0] : List Value)))) :: fs) ∧ ((gammon_side_step_J2 from1) s3 s4).bind some = some r) ?_ ?_
    · rintro a w ⟨s3, s4, hF, hS, hm⟩
      unfold gammon_side_step_J2 at hm
      refine seqR ?_
      obtain ⟨hp10, hm⟩ := asrt_b hm
      obtain ⟨hp11, hm⟩ := asrt_b hm
      obtain ⟨hp12, hm⟩ := asrt_b hm
      refine at_run 7 [⟨true, [], vS (Instr.indexAt 141 (.pointer (some ⟨g1, 0, none⟩)) (.int .i64 from1)), .pointer (some ((⟨g1, 0, none⟩ : Addr).add (Int.toNat from1 * 1)))⟩, ⟨false, [], vS (Instr.loadAt 3 (.pointer (some ((⟨g1, 0, none⟩ : Addr).add (Int.toNat from1 * 1))))), .int .i64 (geti s3 from1)⟩, ⟨true, [], vS (Instr.indexAt 141 (.pointer (some ⟨g1, 0, none⟩)) (.int .i64 from1)), .pointer (some ((⟨g1, 0, none⟩ : Addr).add (Int.toNat from1 * 1)))⟩] [none, none, some (.pointer (some ((⟨g1, 0, none⟩ : Addr).add (Int.toNat from1 * 1)))), some (.int .i64 (geti s3 from1)), none, none, some (.pointer (some ((⟨g1, 0, none⟩ : Addr).add (Int.toNat from1 * 1))))] [3, 6, 77, 79] [pl 3 (.pointer (some ⟨g1, 0, none⟩)), pl 6 (.pointer (some ⟨g2, 0, none⟩)), pl 77 (.int .i64 (w64 ((geti s3 from1) - 1))), pl 79 (.pointer (some ((⟨g1, 0, none⟩ : Addr).add (Int.toNat from1 * 1))))] hF hS (by kernel_rfl) (by kernel_rfl) ?_ (fun a w hF hS => ?_)
      · exact obs_cons (ob_ixA UndA141 hi3 hs3 (fun _ => hp10)) <| obs_cons (ob_getA (m := s3) (Value.int .i64) (0 : Int) 26 ([] : List Value) ([.int .i64 s4] : List Value) from1 Agg3 rfl (fun _ hS => ⟨_, _, _, _, _, hS.at_ 0 rfl⟩) (fun hy => by have h0 := hp10; omega)) <| obs_cons (ob_ixA UndA141 hi3 hs3 (fun _ => hp11)) <| obs_nil
      obtain ⟨w, hrun, hS⟩ := run_setA (P := Try.prog) (t := 3) (x := (w64 ((geti s3 from1) - 1))) (i := from1) (m := s3) (d := Int.toNat from1 * 1) (Value.int .i64) (0 : Int) 26 ([] : List Value) ([.int .i64 s4] : List Value) (hS.at_ 0 rfl) rfl hi3 hs3 rfl (by have h0 := hp11; omega) (by have h0 := hp11; have h9 := hp12; omega)
      refine at_skip hF (by kernel_rfl) hrun ?_
      have hS : Sep w0 B w (blk g1 143 (List.toArray (([] : List Value) ++ (arr1 (Value.int .i64) (0 : Int) 26 (s3.set (Int.toNat from1) (w64 ((geti s3 from1) - 1))) ++ ([.int .i64 s4] : List Value)))) :: blk g2 143 (List.toArray (([] : List Value) ++ (arr1 (Value.int .i64) (0 : Int) 26 (List.replicate 26 (0 : Int)) ++ ([.int .i64 0] : List Value)))) :: fs) := hS
      refine at_end [3, 6] [pl 3 (.pointer (some ⟨g1, 0, none⟩)), pl 6 (.pointer (some ⟨g2, 0, none⟩))] hF rfl (by kernel_rfl) (fun hF => ?_)
      refine then_n ?_
      refine seqR ?_
      refine at_run 1 [⟨false, [], vS (Instr.loadAt 143 (.pointer (some ⟨g1, 0, none⟩))), .agg (List.toArray (([] : List Value) ++ (arr1 (Value.int .i64) (0 : Int) 26 (s3.set (Int.toNat from1) (w64 ((geti s3 from1) - 1))) ++ ([.int .i64 s4] : List Value))))⟩] [some (.agg (List.toArray (([] : List Value) ++ (arr1 (Value.int .i64) (0 : Int) 26 (s3.set (Int.toNat from1) (w64 ((geti s3 from1) - 1))) ++ ([.int .i64 s4] : List Value)))))] [6, 80] [pl 6 (.pointer (some ⟨g2, 0, none⟩)), pl 80 (.agg (List.toArray (([] : List Value) ++ (arr1 (Value.int .i64) (0 : Int) 26 (s3.set (Int.toNat from1) (w64 ((geti s3 from1) - 1))) ++ ([.int .i64 s4] : List Value)))))] hF hS (by kernel_rfl) (by kernel_rfl) ?_ (fun a w hF hS => ?_)
      · exact obs_cons (ob_loadA (cs := (List.toArray (([] : List Value) ++ (arr1 (Value.int .i64) (0 : Int) 26 (s3.set (Int.toNat from1) (w64 ((geti s3 from1) - 1))) ++ ([.int .i64 s4] : List Value))))) (by kernel_rfl) (by kernel_rfl) (fun _ _ hS => (hS.at_ 0 rfl).cellsAt 0 (by rfl))) <| obs_nil
      obtain ⟨w, hrun, hS⟩ := run_putW (P := Try.prog) (t := 143) (us := (List.toArray (([] : List Value) ++ (arr1 (Value.int .i64) (0 : Int) 26 (s3.set (Int.toNat from1) (w64 ((geti s3 from1) - 1))) ++ ([.int .i64 s4] : List Value))))) (hS.at_ 1 rfl) (by kernel_rfl) (all_one (by kernel_rfl)) (by kernel_rfl)
      refine at_skip hF (by kernel_rfl) hrun ?_
      have hS : Sep w0 B w (blk g1 143 (List.toArray (([] : List Value) ++ (arr1 (Value.int .i64) (0 : Int) 26 (s3.set (Int.toNat from1) (w64 ((geti s3 from1) - 1))) ++ ([.int .i64 s4] : List Value)))) :: blk g2 143 (List.toArray (([] : List Value) ++ (arr1 (Value.int .i64) (0 : Int) 26 (s3.set (Int.toNat from1) (w64 ((geti s3 from1) - 1))) ++ ([.int .i64 s4] : List Value)))) :: fs) := hS
      refine at_run 1 [] [] [6, 7] [pl 6 (.pointer (some ⟨g2, 0, none⟩)), pl 7 (.bool true)] hF hS (by kernel_rfl) (by kernel_rfl) ?_ (fun a w hF hS => ?_)
      · exact obs_nil
      refine at_end [6, 7] [pl 6 (.pointer (some ⟨g2, 0, none⟩)), pl 7 (.bool true)] hF rfl (by kernel_rfl) (fun hF => ?_)
      refine then_n ?_
      refine wp_ret ?_
      have hld0 := run_loadVarA (P := Try.prog) (t := 143) (cs := (List.toArray (([] : List Value) ++ (arr1 (Value.int .i64) (0 : Int) 26 (s3.set (Int.toNat from1) (w64 ((geti s3 from1) - 1))) ++ ([.int .i64 s4] : List Value))))) (by kernel_rfl) (by kernel_rfl) ((hS.at_ 1 rfl).cellsAt 0 (by rfl))
      have hS := hS.pickN 2 [] (by decide)
      have hm : some ((s3.set (Int.toNat from1) (w64 ((geti s3 from1) - 1))), s4, true) = some r := hm
      obtain rfl := Option.some.inj hm
      exact retV (rs := [.cell 6 143, .tmp 7]) (vs := [.agg (List.toArray (([] : List Value) ++ (arr1 (Value.int .i64) (0 : Int) 26 (s3.set (Int.toNat from1) (w64 ((geti s3 from1) - 1))) ++ ([.int .i64 s4] : List Value)))), .bool true]) hF rfl (rv_c (by kernel_rfl) hld0 <| rv_t (by kernel_rfl) <| rv_nil) rfl ⟨rfl, hS⟩
    · refine wp_block ?_
      refine reg [] [] [1, 3, 6, 8, 9, 38] [pl 1 (.int .i64 from1), pl 3 (.pointer (some ⟨g1, 0, none⟩)), pl 6 (.pointer (some ⟨g2, 0, none⟩)), pl 8 (.int .i64 (w64 (from1 - pips1))), pl 9 (.int .i64 r1), pl 38 (.bool (decide ((w64 (from1 - pips1)) ≤ 0)))] hF hS Fol (by kernel_rfl) (by kernel_rfl) (by kernel_rfl) ?_ (fun a w hF hS => ?_)
      · exact obs_nil
      refine cond_ev (t := 38) (b := decide ((w64 (from1 - pips1)) ≤ 0)) hF (by kernel_rfl) (fun hb => ?_) (fun hb => ?_)
      · replace hm := if_t hm hb
        refine reg [] [] [1, 3, 6, 51] [pl 1 (.int .i64 from1), pl 3 (.pointer (some ⟨g1, 0, none⟩)), pl 6 (.pointer (some ⟨g2, 0, none⟩)), pl 51 (.bool ((decide ((6 : Int) < r1)) || ((decide ((w64 (from1 - pips1)) < 0)) && (decide (from1 < r1)))))] hF hS Fol (by kernel_rfl) (by kernel_rfl) (by kernel_rfl) ?_ (fun a w hF hS => ?_)
        · exact obs_nil
        refine cond_ev (t := 51) (b := (decide ((6 : Int) < r1)) || ((decide ((w64 (from1 - pips1)) < 0)) && (decide (from1 < r1)))) hF (by kernel_rfl) (fun hb => ?_) (fun hb => ?_)
        · replace hm := if_t hm hb
          refine seqR ?_
          refine at_run 1 [⟨false, [], vS (Instr.loadAt 143 (.pointer (some ⟨g1, 0, none⟩))), .agg (List.toArray (([] : List Value) ++ (arr1 (Value.int .i64) (0 : Int) 26 s1 ++ ([.int .i64 s2] : List Value))))⟩] [some (.agg (List.toArray (([] : List Value) ++ (arr1 (Value.int .i64) (0 : Int) 26 s1 ++ ([.int .i64 s2] : List Value)))))] [6, 52] [pl 6 (.pointer (some ⟨g2, 0, none⟩)), pl 52 (.agg (List.toArray (([] : List Value) ++ (arr1 (Value.int .i64) (0 : Int) 26 s1 ++ ([.int .i64 s2] : List Value)))))] hF hS (by kernel_rfl) (by kernel_rfl) ?_ (fun a w hF hS => ?_)
          · exact obs_cons (ob_loadA (cs := (List.toArray (([] : List Value) ++ (arr1 (Value.int .i64) (0 : Int) 26 s1 ++ ([.int .i64 s2] : List Value))))) (by kernel_rfl) (by kernel_rfl) (fun _ _ hS => (hS.at_ 0 rfl).cellsAt 0 (by rfl))) <| obs_nil
          obtain ⟨w, hrun, hS⟩ := run_putW (P := Try.prog) (t := 143) (us := (List.toArray (([] : List Value) ++ (arr1 (Value.int .i64) (0 : Int) 26 s1 ++ ([.int .i64 s2] : List Value))))) (hS.at_ 1 rfl) (by kernel_rfl) (all_one (by kernel_rfl)) (by kernel_rfl)
          refine at_skip hF (by kernel_rfl) hrun ?_
          have hS : Sep w0 B w (blk g1 143 (List.toArray (([] : List Value) ++ (arr1 (Value.int .i64) (0 : Int) 26 s1 ++ ([.int .i64 s2] : List Value)))) :: blk g2 143 (List.toArray (([] : List Value) ++ (arr1 (Value.int .i64) (0 : Int) 26 s1 ++ ([.int .i64 s2] : List Value)))) :: fs) := hS
          refine at_run 1 [] [] [6, 7] [pl 6 (.pointer (some ⟨g2, 0, none⟩)), pl 7 (.bool false)] hF hS (by kernel_rfl) (by kernel_rfl) ?_ (fun a w hF hS => ?_)
          · exact obs_nil
          refine at_end [6, 7] [pl 6 (.pointer (some ⟨g2, 0, none⟩)), pl 7 (.bool false)] hF rfl (by kernel_rfl) (fun hF => ?_)
          refine then_n ?_
          refine wp_ret ?_
          refine block_r (then_r ?_)
          have hld0 := run_loadVarA (P := Try.prog) (t := 143) (cs := (List.toArray (([] : List Value) ++ (arr1 (Value.int .i64) (0 : Int) 26 s1 ++ ([.int .i64 s2] : List Value))))) (by kernel_rfl) (by kernel_rfl) ((hS.at_ 1 rfl).cellsAt 0 (by rfl))
          have hS := hS.pickN 2 [] (by decide)
          have hm : some (s1, s2, false) = some r := hm
          obtain rfl := Option.some.inj hm
          exact retV (rs := [.cell 6 143, .tmp 7]) (vs := [.agg (List.toArray (([] : List Value) ++ (arr1 (Value.int .i64) (0 : Int) 26 s1 ++ ([.int .i64 s2] : List Value)))), .bool false]) hF rfl (rv_c (by kernel_rfl) hld0 <| rv_t (by kernel_rfl) <| rv_nil) rfl ⟨rfl, hS⟩
        · replace hm := if_f hm hb
          refine wp_skip ?_
          refine block_n ?_
          refine then_n ?_
          exact ⟨s1, s2, hF.weak [1, 3, 6] (by kernel_rfl), hS, hm⟩
      · replace hm := if_f hm hb
        obtain ⟨hp3, hm⟩ := asrt_b hm
        refine reg [⟨true, [], vS (Instr.indexAt 141 (.pointer (some ⟨g1, 0, none⟩)) (.int .i64 (w64 (from1 - pips1)))), .pointer (some ((⟨g1, 0, none⟩ : Addr).add (Int.toNat (w64 (from1 - pips1)) * 1)))⟩, ⟨false, [], vS (Instr.loadAt 3 (.pointer (some ((⟨g1, 0, none⟩ : Addr).add (Int.toNat (w64 (from1 - pips1)) * 1))))), .int .i64 (geti s1 (w64 (from1 - pips1)))⟩] [none, none, some (.pointer (some ((⟨g1, 0, none⟩ : Addr).add (Int.toNat (w64 (from1 - pips1)) * 1)))), some (.int .i64 (geti s1 (w64 (from1 - pips1)))), none, none] [1, 3, 6, 8, 53] [pl 1 (.int .i64 from1), pl 3 (.pointer (some ⟨g1, 0, none⟩)), pl 6 (.pointer (some ⟨g2, 0, none⟩)), pl 8 (.int .i64 (w64 (from1 - pips1))), pl 53 (.bool (decide ((geti s1 (w64 (from1 - pips1))) < (-1))))] hF hS Fol (by kernel_rfl) (by kernel_rfl) (by kernel_rfl) ?_ (fun a w hF hS => ?_)
        · exact obs_cons (ob_ixA UndA141 hi3 hs3 (fun _ => hp3)) <| obs_cons (ob_getA (m := s1) (Value.int .i64) (0 : Int) 26 ([] : List Value) ([.int .i64 s2] : List Value) (w64 (from1 - pips1)) Agg3 rfl (fun _ hS => ⟨_, _, _, _, _, hS.at_ 0 rfl⟩) (fun hy => by have h0 := hp3; omega)) <| obs_nil
        refine cond_ev (t := 53) (b := decide ((geti s1 (w64 (from1 - pips1))) < (-1))) hF (by kernel_rfl) (fun hb => ?_) (fun hb => ?_)
        · replace hm := if_t hm hb
          refine seqR ?_
          refine at_run 1 [⟨false, [], vS (Instr.loadAt 143 (.pointer (some ⟨g1, 0, none⟩))), .agg (List.toArray (([] : List Value) ++ (arr1 (Value.int .i64) (0 : Int) 26 s1 ++ ([.int .i64 s2] : List Value))))⟩] [some (.agg (List.toArray (([] : List Value) ++ (arr1 (Value.int .i64) (0 : Int) 26 s1 ++ ([.int .i64 s2] : List Value)))))] [6, 59] [pl 6 (.pointer (some ⟨g2, 0, none⟩)), pl 59 (.agg (List.toArray (([] : List Value) ++ (arr1 (Value.int .i64) (0 : Int) 26 s1 ++ ([.int .i64 s2] : List Value)))))] hF hS (by kernel_rfl) (by kernel_rfl) ?_ (fun a w hF hS => ?_)
          · exact obs_cons (ob_loadA (cs := (List.toArray (([] : List Value) ++ (arr1 (Value.int .i64) (0 : Int) 26 s1 ++ ([.int .i64 s2] : List Value))))) (by kernel_rfl) (by kernel_rfl) (fun _ _ hS => (hS.at_ 0 rfl).cellsAt 0 (by rfl))) <| obs_nil
          obtain ⟨w, hrun, hS⟩ := run_putW (P := Try.prog) (t := 143) (us := (List.toArray (([] : List Value) ++ (arr1 (Value.int .i64) (0 : Int) 26 s1 ++ ([.int .i64 s2] : List Value))))) (hS.at_ 1 rfl) (by kernel_rfl) (all_one (by kernel_rfl)) (by kernel_rfl)
          refine at_skip hF (by kernel_rfl) hrun ?_
          have hS : Sep w0 B w (blk g1 143 (List.toArray (([] : List Value) ++ (arr1 (Value.int .i64) (0 : Int) 26 s1 ++ ([.int .i64 s2] : List Value)))) :: blk g2 143 (List.toArray (([] : List Value) ++ (arr1 (Value.int .i64) (0 : Int) 26 s1 ++ ([.int .i64 s2] : List Value)))) :: fs) := hS
          refine at_run 1 [] [] [6, 7] [pl 6 (.pointer (some ⟨g2, 0, none⟩)), pl 7 (.bool false)] hF hS (by kernel_rfl) (by kernel_rfl) ?_ (fun a w hF hS => ?_)
          · exact obs_nil
          refine at_end [6, 7] [pl 6 (.pointer (some ⟨g2, 0, none⟩)), pl 7 (.bool false)] hF rfl (by kernel_rfl) (fun hF => ?_)
          refine then_n ?_
          refine wp_ret ?_
          refine block_r (then_r ?_)
          have hld0 := run_loadVarA (P := Try.prog) (t := 143) (cs := (List.toArray (([] : List Value) ++ (arr1 (Value.int .i64) (0 : Int) 26 s1 ++ ([.int .i64 s2] : List Value))))) (by kernel_rfl) (by kernel_rfl) ((hS.at_ 1 rfl).cellsAt 0 (by rfl))
          have hS := hS.pickN 2 [] (by decide)
          have hm : some (s1, s2, false) = some r := hm
          obtain rfl := Option.some.inj hm
          exact retV (rs := [.cell 6 143, .tmp 7]) (vs := [.agg (List.toArray (([] : List Value) ++ (arr1 (Value.int .i64) (0 : Int) 26 s1 ++ ([.int .i64 s2] : List Value)))), .bool false]) hF rfl (rv_c (by kernel_rfl) hld0 <| rv_t (by kernel_rfl) <| rv_nil) rfl ⟨rfl, hS⟩
        · replace hm := if_f hm hb
          obtain ⟨hp4, hm⟩ := asrt_b hm
          refine reg [⟨true, [], vS (Instr.indexAt 141 (.pointer (some ⟨g1, 0, none⟩)) (.int .i64 (w64 (from1 - pips1)))), .pointer (some ((⟨g1, 0, none⟩ : Addr).add (Int.toNat (w64 (from1 - pips1)) * 1)))⟩, ⟨false, [], vS (Instr.loadAt 3 (.pointer (some ((⟨g1, 0, none⟩ : Addr).add (Int.toNat (w64 (from1 - pips1)) * 1))))), .int .i64 (geti s1 (w64 (from1 - pips1)))⟩] [none, none, some (.pointer (some ((⟨g1, 0, none⟩ : Addr).add (Int.toNat (w64 (from1 - pips1)) * 1)))), some (.int .i64 (geti s1 (w64 (from1 - pips1)))), none, none] [1, 3, 6, 8, 60] [pl 1 (.int .i64 from1), pl 3 (.pointer (some ⟨g1, 0, none⟩)), pl 6 (.pointer (some ⟨g2, 0, none⟩)), pl 8 (.int .i64 (w64 (from1 - pips1))), pl 60 (.bool ((geti s1 (w64 (from1 - pips1))) == (-1)))] hF hS Fol (by kernel_rfl) (by kernel_rfl) (by kernel_rfl) ?_ (fun a w hF hS => ?_)
          · exact obs_cons (ob_ixA UndA141 hi3 hs3 (fun _ => hp4)) <| obs_cons (ob_getA (m := s1) (Value.int .i64) (0 : Int) 26 ([] : List Value) ([.int .i64 s2] : List Value) (w64 (from1 - pips1)) Agg3 rfl (fun _ hS => ⟨_, _, _, _, _, hS.at_ 0 rfl⟩) (fun hy => by have h0 := hp4; omega)) <| obs_nil
          refine cond_ev (t := 60) (b := ((geti s1 (w64 (from1 - pips1))) == (-1))) hF (by kernel_rfl) (fun hb => ?_) (fun hb => ?_)
          · replace hm := if_t hm hb
            refine seqR ?_
            obtain ⟨hp5, hm⟩ := asrt_b hm
            obtain ⟨hp6, hm⟩ := asrt_b hm
            refine at_run 3 [⟨true, [], vS (Instr.indexAt 141 (.pointer (some ⟨g1, 0, none⟩)) (.int .i64 (w64 (from1 - pips1)))), .pointer (some ((⟨g1, 0, none⟩ : Addr).add (Int.toNat (w64 (from1 - pips1)) * 1)))⟩] [none, none, some (.pointer (some ((⟨g1, 0, none⟩ : Addr).add (Int.toNat (w64 (from1 - pips1)) * 1))))] [1, 3, 6, 68] [pl 1 (.int .i64 from1), pl 3 (.pointer (some ⟨g1, 0, none⟩)), pl 6 (.pointer (some ⟨g2, 0, none⟩)), pl 68 (.pointer (some ((⟨g1, 0, none⟩ : Addr).add (Int.toNat (w64 (from1 - pips1)) * 1))))] hF hS (by kernel_rfl) (by kernel_rfl) ?_ (fun a w hF hS => ?_)
            · exact obs_cons (ob_ixA UndA141 hi3 hs3 (fun _ => hp5)) <| obs_nil
            obtain ⟨w, hrun, hS⟩ := run_setA (P := Try.prog) (t := 3) (x := 1) (i := (w64 (from1 - pips1))) (m := s1) (d := Int.toNat (w64 (from1 - pips1)) * 1) (Value.int .i64) (0 : Int) 26 ([] : List Value) ([.int .i64 s2] : List Value) (hS.at_ 0 rfl) rfl hi3 hs3 rfl (by have h0 := hp5; omega) (by have h0 := hp5; have h9 := hp6; omega)
            refine at_skip hF (by kernel_rfl) hrun ?_
            have hS : Sep w0 B w (blk g1 143 (List.toArray (([] : List Value) ++ (arr1 (Value.int .i64) (0 : Int) 26 (s1.set (Int.toNat (w64 (from1 - pips1))) 1) ++ ([.int .i64 s2] : List Value)))) :: blk g2 143 (List.toArray (([] : List Value) ++ (arr1 (Value.int .i64) (0 : Int) 26 (List.replicate 26 (0 : Int)) ++ ([.int .i64 0] : List Value)))) :: fs) := hS
            refine at_end [1, 3, 6] [pl 1 (.int .i64 from1), pl 3 (.pointer (some ⟨g1, 0, none⟩)), pl 6 (.pointer (some ⟨g2, 0, none⟩))] hF rfl (by kernel_rfl) (fun hF => ?_)
            refine then_n ?_
            refine oneR ?_
            refine at_run 4 [⟨false, [], vS (Instr.loadAt 3 (.pointer (some ⟨g1, 26, none⟩))), .int .i64 s2⟩] [none, some (.int .i64 s2), none, none] [1, 3, 6, 71, 72] [pl 1 (.int .i64 from1), pl 3 (.pointer (some ⟨g1, 0, none⟩)), pl 6 (.pointer (some ⟨g2, 0, none⟩)), pl 71 (.int .i64 (w64 (s2 + 1))), pl 72 (.pointer (some ⟨g1, 26, none⟩))] hF hS (by kernel_rfl) (by kernel_rfl) ?_ (fun a w hF hS => ?_)
            · exact obs_cons (ob_load Agg3 (fun _ _ hS => (hS.at_ 0 rfl).cell rfl)) <| obs_nil
            obtain ⟨w, hrun, hS⟩ := run_put (P := Try.prog) (t := 3) (u := .int .i64 (w64 (s2 + 1))) (i := 26) (hS.at_ 0 rfl) hi3 hs3 rfl (Nat.lt_of_lt_of_eq (Nat.lt_of_succ_le (Nat.le_of_ble_eq_true (by kernel_rfl))) rfl)
            refine at_skip hF (by kernel_rfl) hrun ?_
            have hS : Sep w0 B w (blk g1 143 (List.toArray (([] : List Value) ++ (arr1 (Value.int .i64) (0 : Int) 26 (s1.set (Int.toNat (w64 (from1 - pips1))) 1) ++ ([.int .i64 (w64 (s2 + 1))] : List Value)))) :: blk g2 143 (List.toArray (([] : List Value) ++ (arr1 (Value.int .i64) (0 : Int) 26 (List.replicate 26 (0 : Int)) ++ ([.int .i64 0] : List Value)))) :: fs) := hS
            refine at_end [1, 3, 6] [pl 1 (.int .i64 from1), pl 3 (.pointer (some ⟨g1, 0, none⟩)), pl 6 (.pointer (some ⟨g2, 0, none⟩))] hF rfl (by kernel_rfl) (fun hF => ?_)
            refine block_n ?_
            refine then_n ?_
            exact ⟨(s1.set (Int.toNat (w64 (from1 - pips1))) 1), (w64 (s2 + 1)), hF.weak [1, 3, 6] (by kernel_rfl), hS, hm⟩
          · replace hm := if_f hm hb
            refine oneR ?_
            obtain ⟨hp7, hm⟩ := asrt_b hm
            obtain ⟨hp8, hm⟩ := asrt_b hm
            obtain ⟨hp9, hm⟩ := asrt_b hm
            refine at_run 7 [⟨true, [], vS (Instr.indexAt 141 (.pointer (some ⟨g1, 0, none⟩)) (.int .i64 (w64 (from1 - pips1)))), .pointer (some ((⟨g1, 0, none⟩ : Addr).add (Int.toNat (w64 (from1 - pips1)) * 1)))⟩, ⟨false, [], vS (Instr.loadAt 3 (.pointer (some ((⟨g1, 0, none⟩ : Addr).add (Int.toNat (w64 (from1 - pips1)) * 1))))), .int .i64 (geti s1 (w64 (from1 - pips1)))⟩, ⟨true, [], vS (Instr.indexAt 141 (.pointer (some ⟨g1, 0, none⟩)) (.int .i64 (w64 (from1 - pips1)))), .pointer (some ((⟨g1, 0, none⟩ : Addr).add (Int.toNat (w64 (from1 - pips1)) * 1)))⟩] [none, none, some (.pointer (some ((⟨g1, 0, none⟩ : Addr).add (Int.toNat (w64 (from1 - pips1)) * 1)))), some (.int .i64 (geti s1 (w64 (from1 - pips1)))), none, none, some (.pointer (some ((⟨g1, 0, none⟩ : Addr).add (Int.toNat (w64 (from1 - pips1)) * 1))))] [1, 3, 6, 35, 37] [pl 1 (.int .i64 from1), pl 3 (.pointer (some ⟨g1, 0, none⟩)), pl 6 (.pointer (some ⟨g2, 0, none⟩)), pl 35 (.int .i64 (w64 ((geti s1 (w64 (from1 - pips1))) + 1))), pl 37 (.pointer (some ((⟨g1, 0, none⟩ : Addr).add (Int.toNat (w64 (from1 - pips1)) * 1))))] hF hS (by kernel_rfl) (by kernel_rfl) ?_ (fun a w hF hS => ?_)
            · exact obs_cons (ob_ixA UndA141 hi3 hs3 (fun _ => hp7)) <| obs_cons (ob_getA (m := s1) (Value.int .i64) (0 : Int) 26 ([] : List Value) ([.int .i64 s2] : List Value) (w64 (from1 - pips1)) Agg3 rfl (fun _ hS => ⟨_, _, _, _, _, hS.at_ 0 rfl⟩) (fun hy => by have h0 := hp7; omega)) <| obs_cons (ob_ixA UndA141 hi3 hs3 (fun _ => hp8)) <| obs_nil
            obtain ⟨w, hrun, hS⟩ := run_setA (P := Try.prog) (t := 3) (x := (w64 ((geti s1 (w64 (from1 - pips1))) + 1))) (i := (w64 (from1 - pips1))) (m := s1) (d := Int.toNat (w64 (from1 - pips1)) * 1) (Value.int .i64) (0 : Int) 26 ([] : List Value) ([.int .i64 s2] : List Value) (hS.at_ 0 rfl) rfl hi3 hs3 rfl (by have h0 := hp8; omega) (by have h0 := hp8; have h9 := hp9; omega)
            refine at_skip hF (by kernel_rfl) hrun ?_
            have hS : Sep w0 B w (blk g1 143 (List.toArray (([] : List Value) ++ (arr1 (Value.int .i64) (0 : Int) 26 (s1.set (Int.toNat (w64 (from1 - pips1))) (w64 ((geti s1 (w64 (from1 - pips1))) + 1))) ++ ([.int .i64 s2] : List Value)))) :: blk g2 143 (List.toArray (([] : List Value) ++ (arr1 (Value.int .i64) (0 : Int) 26 (List.replicate 26 (0 : Int)) ++ ([.int .i64 0] : List Value)))) :: fs) := hS
            refine at_end [1, 3, 6] [pl 1 (.int .i64 from1), pl 3 (.pointer (some ⟨g1, 0, none⟩)), pl 6 (.pointer (some ⟨g2, 0, none⟩))] hF rfl (by kernel_rfl) (fun hF => ?_)
            refine block_n ?_
            refine then_n ?_
            exact ⟨(s1.set (Int.toNat (w64 (from1 - pips1))) (w64 ((geti s1 (w64 (from1 - pips1))) + 1))), s2, hF.weak [1, 3, 6] (by kernel_rfl), hS, hm⟩
  · obtain ⟨hp1, hm⟩ := asrt_b hm
    obtain ⟨hp2, hm⟩ := asrt_b hm
    refine reg [⟨true, [], vS (Instr.indexAt 141 (.pointer (some ⟨g1, 0, none⟩)) (.int .i64 from1)), .pointer (some ((⟨g1, 0, none⟩ : Addr).add (Int.toNat from1 * 1)))⟩, ⟨false, [], vS (Instr.loadAt 3 (.pointer (some ((⟨g1, 0, none⟩ : Addr).add (Int.toNat from1 * 1))))), .int .i64 (geti s1 from1)⟩, ⟨true, [(decide ((geti s1 from1) < 1), false)], vS (Instr.indexAt 141 (.pointer (some ⟨g1, 0, none⟩)) (.int .i64 25)), .pointer (some ((⟨g1, 0, none⟩ : Addr).add (Int.toNat 25 * 1)))⟩, ⟨false, [(decide ((geti s1 from1) < 1), false)], vS (Instr.loadAt 3 (.pointer (some ((⟨g1, 0, none⟩ : Addr).add (Int.toNat 25 * 1))))), .int .i64 (geti s1 25)⟩] [none, none, some (.pointer (some ((⟨g1, 0, none⟩ : Addr).add (Int.toNat from1 * 1)))), some (.int .i64 (geti s1 from1)), none, none, none, some (.pointer (some ((⟨g1, 0, none⟩ : Addr).add (Int.toNat 25 * 1)))), some (.int .i64 (geti s1 25)), none, none, none, none, none, none] [1, 2, 3, 6, 24] [pl 1 (.int .i64 from1), pl 2 (.int .i64 pips1), pl 3 (.pointer (some ⟨g1, 0, none⟩)), pl 6 (.pointer (some ⟨g2, 0, none⟩)), pl 24 (.bool ((decide ((geti s1 from1) < 1)) || ((decide ((0 : Int) < (geti s1 25))) && (from1 != 25))))] hF hS Fol (by kernel_rfl) (by kernel_rfl) (by kernel_rfl) ?_ (fun a w hF hS => ?_)
    · exact obs_cons (ob_ixA UndA141 hi3 hs3 (fun _ => hp1)) <| obs_cons (ob_getA (m := s1) (Value.int .i64) (0 : Int) 26 ([] : List Value) ([.int .i64 s2] : List Value) from1 Agg3 rfl (fun _ hS => ⟨_, _, _, _, _, hS.at_ 1 rfl⟩) (fun hy => by have h0 := hp1; omega)) <| obs_cons (ob_ixA UndA141 hi3 hs3 (fun hy => hp2 (hy (decide ((geti s1 from1) < 1), false) (by simp)))) <| obs_cons (ob_getA (m := s1) (Value.int .i64) (0 : Int) 26 ([] : List Value) ([.int .i64 s2] : List Value) 25 Agg3 rfl (fun _ hS => ⟨_, _, _, _, _, hS.at_ 1 rfl⟩) (fun hy => by have h0 := hp2 (hy (decide ((geti s1 from1) < 1), false) (by simp)); omega)) <| obs_nil
    refine cond_ev (t := 24) (b := (decide ((geti s1 from1) < 1)) || ((decide ((0 : Int) < (geti s1 25))) && (from1 != 25))) hF (by kernel_rfl) (fun hb => ?_) (fun hb => ?_)
    · replace hm := if_t hm hb
      refine seqR ?_
      refine at_run 1 [⟨false, [], vS (Instr.loadAt 143 (.pointer (some ⟨g1, 0, none⟩))), .agg (List.toArray (([] : List Value) ++ (arr1 (Value.int .i64) (0 : Int) 26 s1 ++ ([.int .i64 s2] : List Value))))⟩] [some (.agg (List.toArray (([] : List Value) ++ (arr1 (Value.int .i64) (0 : Int) 26 s1 ++ ([.int .i64 s2] : List Value)))))] [6, 25] [pl 6 (.pointer (some ⟨g2, 0, none⟩)), pl 25 (.agg (List.toArray (([] : List Value) ++ (arr1 (Value.int .i64) (0 : Int) 26 s1 ++ ([.int .i64 s2] : List Value)))))] hF hS (by kernel_rfl) (by kernel_rfl) ?_ (fun a w hF hS => ?_)
      · exact obs_cons (ob_loadA (cs := (List.toArray (([] : List Value) ++ (arr1 (Value.int .i64) (0 : Int) 26 s1 ++ ([.int .i64 s2] : List Value))))) (by kernel_rfl) (by kernel_rfl) (fun _ _ hS => (hS.at_ 1 rfl).cellsAt 0 (by rfl))) <| obs_nil
      obtain ⟨w, hrun, hS⟩ := run_putW (P := Try.prog) (t := 143) (us := (List.toArray (([] : List Value) ++ (arr1 (Value.int .i64) (0 : Int) 26 s1 ++ ([.int .i64 s2] : List Value))))) (hS.at_ 0 rfl) (by kernel_rfl) (all_one (by kernel_rfl)) (by kernel_rfl)
      refine at_skip hF (by kernel_rfl) hrun ?_
      have hS : Sep w0 B w (blk g2 143 (List.toArray (([] : List Value) ++ (arr1 (Value.int .i64) (0 : Int) 26 s1 ++ ([.int .i64 s2] : List Value)))) :: blk g1 143 (List.toArray (([] : List Value) ++ (arr1 (Value.int .i64) (0 : Int) 26 s1 ++ ([.int .i64 s2] : List Value)))) :: fs) := hS
      refine at_run 1 [] [] [6, 7] [pl 6 (.pointer (some ⟨g2, 0, none⟩)), pl 7 (.bool false)] hF hS (by kernel_rfl) (by kernel_rfl) ?_ (fun a w hF hS => ?_)
      · exact obs_nil
      refine at_end [6, 7] [pl 6 (.pointer (some ⟨g2, 0, none⟩)), pl 7 (.bool false)] hF rfl (by kernel_rfl) (fun hF => ?_)
      refine then_n ?_
      refine wp_ret ?_
      refine then_r ?_
      have hld0 := run_loadVarA (P := Try.prog) (t := 143) (cs := (List.toArray (([] : List Value) ++ (arr1 (Value.int .i64) (0 : Int) 26 s1 ++ ([.int .i64 s2] : List Value))))) (by kernel_rfl) (by kernel_rfl) ((hS.at_ 0 rfl).cellsAt 0 (by rfl))
      have hS := hS.pickN 2 [] (by decide)
      have hm : some (s1, s2, false) = some r := hm
      obtain rfl := Option.some.inj hm
      exact retV (rs := [.cell 6 143, .tmp 7]) (vs := [.agg (List.toArray (([] : List Value) ++ (arr1 (Value.int .i64) (0 : Int) 26 s1 ++ ([.int .i64 s2] : List Value)))), .bool false]) hF rfl (rv_c (by kernel_rfl) hld0 <| rv_t (by kernel_rfl) <| rv_nil) rfl ⟨rfl, hS⟩
    · replace hm := if_f hm hb
      refine wp_skip ?_
      refine then_n ?_
      have hS := hS.pickN 2 [1, 0] (by decide)
      exact ⟨hF.weak [1, 2, 3, 6] (by kernel_rfl), hS, hm⟩

noncomputable def gammon_side_board_J5 (i1 : Int) (b6 : List Int) : Option (St (List Int × Int) (List Int)) :=
  some (.next (b6, (w64 (i1 + 1))))

noncomputable def gammon_side_board_J4 (s1 : List Int) (turn1 : Int) (b1 : List Int) (b4 : List Int) (i1 : Int) : Option (St (List Int × Int) (List Int)) :=
  if (turn1 == 0) then (asrt (0 ≤ i1 ∧ i1 < 26) <| asrt (0 ≤ i1 ∧ i1 < (b1.length : Int)) <| (gammon_side_board_J5 i1) (b4.set (Int.toNat i1) (geti s1 i1))) else (asrt (0 ≤ i1 ∧ i1 < 26) <| asrt (0 ≤ (w64 (25 - i1)) ∧ (w64 (25 - i1)) < (b1.length : Int)) <| (gammon_side_board_J5 i1) (b4.set (Int.toNat (w64 (25 - i1))) (w64 (0 - (geti s1 i1)))))

noncomputable def gammon_side_board_J3 (turn1 : Int) (b2 : Int) (b3 : Int) (b5 : List Int) : Option (List Int × Int × Int × Int) :=
  some (b5, b2, b3, turn1)

noncomputable def gammon_side_board_K1 (turn1 : Int) (b2 : Int) (b3 : Int) : (List Int) → Option (List Int × Int × Int × Int) :=
  fun (x : (List Int)) => match x with | b5 => (gammon_side_board_J3 turn1 b2 b3) b5

noncomputable def gammon_side_board_L1 (s1 : List Int) (turn1 : Int) (b1 : List Int) : (List Int × Int) → Option (St (List Int × Int) (List Int)) :=
  fun (x : (List Int × Int)) => match x with | (b4, i1) => if (decide (i1 < 25)) then ((gammon_side_board_J4 s1 turn1 b1 b4 i1)) else (some (.done b4))

noncomputable def gammon_side_board_J2 (s1 : List Int) (turn1 : Int) (b1 : List Int) (b2 : Int) (b3 : Int) : Option (List Int × Int × Int × Int) :=
  (loop (gammon_side_board_L1 s1 turn1 b1) (b1, 1)).bind (gammon_side_board_K1 turn1 b2 b3)

noncomputable def gammon_side_board_J1 (s1 : List Int) (s2 : Int) (turn1 : Int) (b1 : List Int) : Option (List Int × Int × Int × Int) :=
  if (turn1 == 1) then ((gammon_side_board_J2 s1 turn1 b1) s2 (geti s1 25)) else ((gammon_side_board_J2 s1 turn1 b1) (geti s1 25) s2)

noncomputable def gammon_side_board_m (s1 : List Int) (s2 : Int) (turn1 : Int) : Option (List Int × Int × Int × Int) :=
  asrt (0 ≤ (25 : Int) ∧ (25 : Int) < 26) <| asrt ((0 : Int) ≤ 26 ∧ 26 ≤ bigN) <| (gammon_side_board_J1 s1 s2 turn1) (List.replicate (Int.toNat 26) (0 : Int))

set_option maxRecDepth 100000 in
set_option maxHeartbeats 4000000 in
theorem gammon_side_board_w {s1 : List Int} {s2 : Int} {turn1 : Int} {r : (List Int × Int × Int × Int)} {w0 w : World} {B : Nat} {fs : List HP} (hm : gammon_side_board_m s1 s2 turn1 = some r) (hS : Sep w0 B w (fs)) :
    Calls Try.prog 100 #[.agg (List.toArray (([] : List Value) ++ (arr1 (Value.int .i64) (0 : Int) 26 s1 ++ ([.int .i64 s2] : List Value)))), .int .i64 turn1] w fun e w' => ∃ v, e = .returned v ∧ ∃ (A3 : Option Addr) (c3 : Nat), v = .agg #[.slice A3 r.1.length c3, .int .i64 r.2.1, .int .i64 r.2.2.1, .int .i64 r.2.2.2] ∧ Sep w0 B w' (own 3 (.slice A3 r.1.length c3) (vI r.1) :: fs) := by
  obtain ⟨i3, hi3, hz3, hs3, hb3⟩ := info_parts Info3
  unfold gammon_side_board_m at hm
  replace hm := start_b hm
  refine enter (l := [.agg (List.toArray (([] : List Value) ++ (arr1 (Value.int .i64) (0 : Int) 26 s1 ++ ([.int .i64 s2] : List Value)))), .int .i64 turn1]) (n := 48) Try.func100 rfl rfl (by simp) (fun a hF => ?_)
  refine seqR ?_
  refine at_do (d := 2) (s := vS (Instr.box 143 (.agg (List.toArray (([] : List Value) ++ (arr1 (Value.int .i64) (0 : Int) 26 s1 ++ ([.int .i64 s2] : List Value))))))) (v := .pointer (some ⟨w.heap.size, 0, none⟩)) (w' := w.alloc (.cells (List.toArray (([] : List Value) ++ (arr1 (Value.int .i64) (0 : Int) 26 s1 ++ ([.int .i64 s2] : List Value)))) 143)) hF (by kernel_rfl) (by kernel_rfl) (by kernel_rfl) (fun a hF => ?_)
  have hS : Sep w0 B (w.alloc (.cells (List.toArray (([] : List Value) ++ (arr1 (Value.int .i64) (0 : Int) 26 s1 ++ ([.int .i64 s2] : List Value)))) 143)) (blk w.heap.size 143 (List.toArray (([] : List Value) ++ (arr1 (Value.int .i64) (0 : Int) 26 s1 ++ ([.int .i64 s2] : List Value)))) :: (fs)) := hS.box 143 (List.toArray (([] : List Value) ++ (arr1 (Value.int .i64) (0 : Int) 26 s1 ++ ([.int .i64 s2] : List Value))))
  generalize w.heap.size = g1 at hF hS
  generalize w.alloc (.cells (List.toArray (([] : List Value) ++ (arr1 (Value.int .i64) (0 : Int) 26 s1 ++ ([.int .i64 s2] : List Value)))) 143) = w at hS ⊢
  refine at_do (d := 4) (s := vS (Instr.alloc 61 true (.tuple #[]))) (v := .pointer (some ⟨w.heap.size, 0, none⟩)) (w' := w.alloc (.cells #[.slice none 0 0, .int .i64 0, .int .i64 0, .int .i64 0] 61)) hF (by kernel_rfl) (by kernel_rfl) (by kernel_rfl) (fun a hF => ?_)
  have hS : Sep w0 B (w.alloc (.cells #[.slice none 0 0, .int .i64 0, .int .i64 0, .int .i64 0] 61)) (blk w.heap.size 61 #[.slice none 0 0, .int .i64 0, .int .i64 0, .int .i64 0] :: (blk g1 143 (List.toArray (([] : List Value) ++ (arr1 (Value.int .i64) (0 : Int) 26 s1 ++ ([.int .i64 s2] : List Value)))) :: fs)) := hS.box 61 #[.slice none 0 0, .int .i64 0, .int .i64 0, .int .i64 0]
  generalize w.heap.size = g2 at hF hS
  generalize w.alloc (.cells #[.slice none 0 0, .int .i64 0, .int .i64 0, .int .i64 0] 61) = w at hS ⊢
  refine at_end [1, 2, 4] [pl 1 (.int .i64 turn1), pl 2 (.pointer (some ⟨g1, 0, none⟩)), pl 4 (.pointer (some ⟨g2, 0, none⟩))] hF rfl (by kernel_rfl) (fun hF => ?_)
  refine then_n ?_
  refine seq_cut (fun a w => ∃ (b1 : List Int) (g4 : Nat) (A2 : Option Addr) (c2 : Nat), Fr 48 [pl 1 (.int .i64 turn1), pl 2 (.pointer (some ⟨g1, 0, none⟩)), pl 4 (.pointer (some ⟨g2, 0, none⟩)), pl 5 (.pointer (some ⟨g4, 0, none⟩))] a ∧ Sep w0 B w (blk g1 143 (List.toArray (([] : List Value) ++ (arr1 (Value.int .i64) (0 : Int) 26 s1 ++ ([.int .i64 s2] : List Value)))) :: blk g2 61 #[.slice none 0 0, .int .i64 0, .int .i64 0, .int .i64 0] :: blk g4 61 #[.slice A2 b1.length c2, .int .i64 (geti s1 25), .int .i64 s2, .int .i64 turn1] :: own 3 (.slice A2 b1.length c2) (vI b1) :: fs) ∧ ((gammon_side_board_J1 s1 s2 turn1) b1).bind some = some r) ?_ ?_
  · rintro a w ⟨b1, g4, A2, c2, hF, hS, hm⟩
    unfold gammon_side_board_J1 at hm
    refine seq_cut (fun a w => ∃ (b2 : Int) (b3 : Int), Fr 48 [pl 1 (.int .i64 turn1), pl 2 (.pointer (some ⟨g1, 0, none⟩)), pl 4 (.pointer (some ⟨g2, 0, none⟩)), pl 5 (.pointer (some ⟨g4, 0, none⟩))] a ∧ Sep w0 B w (blk g1 143 (List.toArray (([] : List Value) ++ (arr1 (Value.int .i64) (0 : Int) 26 s1 ++ ([.int .i64 s2] : List Value)))) :: blk g2 61 #[.slice none 0 0, .int .i64 0, .int .i64 0, .int .i64 0] :: blk g4 61 #[.slice A2 b1.length c2, .int .i64 b2, .int .i64 b3, .int .i64 turn1] :: own 3 (.slice A2 b1.length c2) (vI b1) :: fs) ∧ ((gammon_side_board_J2 s1 turn1 b1) b2 b3).bind some = some r) ?_ ?_
    · rintro a w ⟨b2, b3, hF, hS, hm⟩
      unfold gammon_side_board_J2 at hm
      refine seq_cut (fun a w => ∃ (b5 : List Int), Fr 48 [pl 4 (.pointer (some ⟨g2, 0, none⟩)), pl 5 (.pointer (some ⟨g4, 0, none⟩))] a ∧ Sep w0 B w (blk g2 61 #[.slice none 0 0, .int .i64 0, .int .i64 0, .int .i64 0] :: blk g4 61 #[.slice A2 b1.length c2, .int .i64 b2, .int .i64 b3, .int .i64 turn1] :: own 3 (.slice A2 b1.length c2) (vI b5) :: fs) ∧ ((gammon_side_board_J3 turn1 b2 b3) b5).bind some = some r) ?_ ?_
      · rintro a w ⟨b5, hF, hS, hm⟩
        unfold gammon_side_board_J3 at hm
        refine seqR ?_
        refine at_run 1 [⟨false, [], vS (Instr.loadAt 61 (.pointer (some ⟨g4, 0, none⟩))), .agg #[.slice A2 b1.length c2, .int .i64 b2, .int .i64 b3, .int .i64 turn1]⟩] [some (.agg #[.slice A2 b1.length c2, .int .i64 b2, .int .i64 b3, .int .i64 turn1])] [4, 47] [pl 4 (.pointer (some ⟨g2, 0, none⟩)), pl 47 (.agg #[.slice A2 b1.length c2, .int .i64 b2, .int .i64 b3, .int .i64 turn1])] hF hS (by kernel_rfl) (by kernel_rfl) ?_ (fun a w hF hS => ?_)
        · exact obs_cons (ob_loadA (cs := #[.slice A2 b1.length c2, .int .i64 b2, .int .i64 b3, .int .i64 turn1]) (by kernel_rfl) (by kernel_rfl) (fun _ _ hS => (hS.at_ 1 rfl).cellsAt 0 (by rfl))) <| obs_nil
        obtain ⟨w, hrun, hS⟩ := run_putA (P := Try.prog) (t := 61) (us := #[.slice A2 b1.length c2, .int .i64 b2, .int .i64 b3, .int .i64 turn1]) (o := 0) (hS.at_ 0 rfl) (by kernel_rfl) (all_one (by kernel_rfl)) (Nat.le_of_ble_eq_true (by kernel_rfl))
        refine at_skip hF (by kernel_rfl) hrun ?_
        have hS : Sep w0 B w (blk g2 61 #[.slice A2 b1.length c2, .int .i64 b2, .int .i64 b3, .int .i64 turn1] :: blk g4 61 #[.slice A2 b1.length c2, .int .i64 b2, .int .i64 b3, .int .i64 turn1] :: own 3 (.slice A2 b1.length c2) (vI b5) :: fs) := hS
        refine at_end [4] [pl 4 (.pointer (some ⟨g2, 0, none⟩))] hF rfl (by kernel_rfl) (fun hF => ?_)
        refine then_n ?_
        refine wp_ret ?_
        have hl4 := (hS.at_ 2 rfl).len1
        have hS := (hS.at_ 2 rfl).reN hl4
        have hS := (hS.at_ 0 rfl).reBlk (congrArg (fun k9 => (#[.slice A2 k9 c2, .int .i64 b2, .int .i64 b3, .int .i64 turn1] : Array Value)) hl4)
        have hS := (hS.at_ 1 rfl).reBlk (congrArg (fun k9 => (#[.slice A2 k9 c2, .int .i64 b2, .int .i64 b3, .int .i64 turn1] : Array Value)) hl4)
        have hS : Sep w0 B w (blk g2 61 #[.slice A2 b5.length c2, .int .i64 b2, .int .i64 b3, .int .i64 turn1] :: blk g4 61 #[.slice A2 b5.length c2, .int .i64 b2, .int .i64 b3, .int .i64 turn1] :: own 3 (.slice A2 b5.length c2) (vI b5) :: fs) := hS
        have hld0 := run_loadVarA (P := Try.prog) (t := 61) (cs := #[.slice A2 b5.length c2, .int .i64 b2, .int .i64 b3, .int .i64 turn1]) (by kernel_rfl) (by kernel_rfl) ((hS.at_ 0 rfl).cellsAt 0 (by rfl))
        have hS := hS.pickN 3 [2] (by decide)
        have hm : some (b5, b2, b3, turn1) = some r := hm
        obtain rfl := Option.some.inj hm
        exact retV (rs := [.cell 4 61]) (vs := [.agg #[.slice A2 b5.length c2, .int .i64 b2, .int .i64 b3, .int .i64 turn1]]) hF rfl (rv_c (by kernel_rfl) hld0 <| rv_nil) rfl ⟨_, rfl, A2, c2, rfl, hS⟩
      · refine reg [] [] [1, 2, 4, 5, 6] [pl 1 (.int .i64 turn1), pl 2 (.pointer (some ⟨g1, 0, none⟩)), pl 4 (.pointer (some ⟨g2, 0, none⟩)), pl 5 (.pointer (some ⟨g4, 0, none⟩)), pl 6 (.int .i64 1)] hF hS Fol (by kernel_rfl) (by kernel_rfl) (by kernel_rfl) ?_ (fun a w hF hS => ?_)
        · exact obs_nil
        refine wp_block ?_
        refine wp_loop_model (S := (List Int × Int)) (R := (List Int)) (gammon_side_board_L1 s1 turn1 b1) (fun x => ((gammon_side_board_K1 turn1 b2 b3) x).bind some) r (fun (x : (List Int × Int)) a w => Fr 48 [pl 1 (.int .i64 turn1), pl 2 (.pointer (some ⟨g1, 0, none⟩)), pl 4 (.pointer (some ⟨g2, 0, none⟩)), pl 5 (.pointer (some ⟨g4, 0, none⟩)), pl 6 (.int .i64 x.2)] a ∧ Sep w0 B w (blk g1 143 (List.toArray (([] : List Value) ++ (arr1 (Value.int .i64) (0 : Int) 26 s1 ++ ([.int .i64 s2] : List Value)))) :: blk g2 61 #[.slice none 0 0, .int .i64 0, .int .i64 0, .int .i64 0] :: blk g4 61 #[.slice A2 b1.length c2, .int .i64 b2, .int .i64 b3, .int .i64 turn1] :: own 3 (.slice A2 b1.length c2) (vI x.1) :: fs)) (assoc_b hm) ⟨hF.weak [1, 2, 4, 5, 6] (by kernel_rfl), hS⟩ ?_
        clear hF hS hm
        rintro nn1 ⟨b4, i1⟩ a w ⟨hF, hS⟩ hm
        generalize hφ1 : stK (gammon_side_board_L1 s1 turn1 b1) nn1 (fun x => ((gammon_side_board_K1 turn1 b2 b3) x).bind some) = φ1 at hm
        unfold gammon_side_board_L1 at hm
        dsimp only at hF hS hm
        refine seq_cut (fun a w => Fr 48 [pl 1 (.int .i64 turn1), pl 2 (.pointer (some ⟨g1, 0, none⟩)), pl 4 (.pointer (some ⟨g2, 0, none⟩)), pl 5 (.pointer (some ⟨g4, 0, none⟩)), pl 6 (.int .i64 i1)] a ∧ Sep w0 B w (blk g1 143 (List.toArray (([] : List Value) ++ (arr1 (Value.int .i64) (0 : Int) 26 s1 ++ ([.int .i64 s2] : List Value)))) :: blk g2 61 #[.slice none 0 0, .int .i64 0, .int .i64 0, .int .i64 0] :: blk g4 61 #[.slice A2 b1.length c2, .int .i64 b2, .int .i64 b3, .int .i64 turn1] :: own 3 (.slice A2 b1.length c2) (vI b4) :: fs) ∧ ((gammon_side_board_J4 s1 turn1 b1 b4 i1)).bind φ1 = some r) ?_ ?_
        · rintro a w ⟨hF, hS, hm⟩
          unfold gammon_side_board_J4 at hm
          refine seq_cut (fun a w => ∃ (b6 : List Int), Fr 48 [pl 1 (.int .i64 turn1), pl 2 (.pointer (some ⟨g1, 0, none⟩)), pl 4 (.pointer (some ⟨g2, 0, none⟩)), pl 5 (.pointer (some ⟨g4, 0, none⟩)), pl 6 (.int .i64 i1)] a ∧ Sep w0 B w (blk g1 143 (List.toArray (([] : List Value) ++ (arr1 (Value.int .i64) (0 : Int) 26 s1 ++ ([.int .i64 s2] : List Value)))) :: blk g2 61 #[.slice none 0 0, .int .i64 0, .int .i64 0, .int .i64 0] :: blk g4 61 #[.slice A2 b1.length c2, .int .i64 b2, .int .i64 b3, .int .i64 turn1] :: own 3 (.slice A2 b1.length c2) (vI b6) :: fs) ∧ ((gammon_side_board_J5 i1) b6).bind φ1 = some r) ?_ ?_
          · rintro a w ⟨b6, hF, hS, hm⟩
            unfold gammon_side_board_J5 at hm
            refine reg1 [] [] [1, 2, 4, 5, 6] [pl 1 (.int .i64 turn1), pl 2 (.pointer (some ⟨g1, 0, none⟩)), pl 4 (.pointer (some ⟨g2, 0, none⟩)), pl 5 (.pointer (some ⟨g4, 0, none⟩)), pl 6 (.int .i64 (w64 (i1 + 1)))] hF hS Fol (by kernel_rfl) (by kernel_rfl) (by kernel_rfl) ?_ (fun a w hF hS => ?_)
            · exact obs_nil
            refine then_n ?_
            rw [← hφ1] at hm
            exact ⟨(b6, (w64 (i1 + 1))), ⟨hF.weak [1, 2, 4, 5, 6] (by kernel_rfl), hS⟩, hm⟩
          · refine wp_block ?_
            refine reg [] [] [1, 2, 4, 5, 6, 28] [pl 1 (.int .i64 turn1), pl 2 (.pointer (some ⟨g1, 0, none⟩)), pl 4 (.pointer (some ⟨g2, 0, none⟩)), pl 5 (.pointer (some ⟨g4, 0, none⟩)), pl 6 (.int .i64 i1), pl 28 (.bool (turn1 == 0))] hF hS Fol (by kernel_rfl) (by kernel_rfl) (by kernel_rfl) ?_ (fun a w hF hS => ?_)
            · exact obs_nil
            refine cond_ev (t := 28) (b := (turn1 == 0)) hF (by kernel_rfl) (fun hb => ?_) (fun hb => ?_)
            · replace hm := if_t hm hb
              obtain ⟨hp3, hm⟩ := asrt_b hm
              obtain ⟨hp4, hm⟩ := asrt_b hm
              refine regMix4 [0, 1, 2, 3, 4, 5, 6, 7] [8] [⟨false, [], vS (Instr.loadAt 40 (.pointer (some ⟨g4, 0, none⟩))), .slice A2 b1.length c2⟩, ⟨true, [], vS (Instr.indexAt 141 (.pointer (some ⟨g1, 0, none⟩)) (.int .i64 i1)), .pointer (some ((⟨g1, 0, none⟩ : Addr).add (Int.toNat i1 * 1)))⟩, ⟨false, [], vS (Instr.loadAt 3 (.pointer (some ((⟨g1, 0, none⟩ : Addr).add (Int.toNat i1 * 1))))), .int .i64 (geti s1 i1)⟩, ⟨true, [], vS (Instr.indexAt 40 (.slice A2 b1.length c2) (.int .i64 i1)), .pointer (some (sAddr A2 i1))⟩] [none, some (.slice A2 b1.length c2), none, none, none, some (.pointer (some ((⟨g1, 0, none⟩ : Addr).add (Int.toNat i1 * 1)))), some (.int .i64 (geti s1 i1)), some (.pointer (some (sAddr A2 i1)))] [1, 2, 4, 5, 6, 35, 36] [pl 1 (.int .i64 turn1), pl 2 (.pointer (some ⟨g1, 0, none⟩)), pl 4 (.pointer (some ⟨g2, 0, none⟩)), pl 5 (.pointer (some ⟨g4, 0, none⟩)), pl 6 (.int .i64 i1), pl 35 (.int .i64 (geti s1 i1)), pl 36 (.pointer (some (sAddr A2 i1)))] hF hS Fol (by kernel_rfl) (by kernel_rfl) (by kernel_rfl) (by kernel_rfl) (by kernel_rfl) ?_ (fun a w hF hS => ?_)
              · exact obs_cons (ob_load Agg40 (fun _ _ hS => (hS.at_ 2 rfl).cell rfl)) <| obs_cons (ob_ixA UndA141 hi3 hs3 (fun _ => hp3)) <| obs_cons (ob_getA (m := s1) (Value.int .i64) (0 : Int) 26 ([] : List Value) ([.int .i64 s2] : List Value) i1 Agg3 rfl (fun _ hS => ⟨_, _, _, _, _, hS.at_ 0 rfl⟩) (fun hy => by have h0 := hp3; omega)) <| obs_cons (ob_ix1 (f := (Value.int .i64)) (m := b4) Und40 hi3 hs3 (hS.at_ 3 rfl).rd ((hS.at_ 3 rfl).len1) (fun _ => hp4)) <| obs_nil
              obtain ⟨w, hrun, hS⟩ := run_set1 (P := Try.prog) (t := 3) (x := (geti s1 i1)) (Value.int .i64) (hS.at_ 3 rfl) hi3 hs3 rfl rfl hp4
              refine at_skip hF (by kernel_rfl) hrun ?_
              have hS : Sep w0 B w (blk g1 143 (List.toArray (([] : List Value) ++ (arr1 (Value.int .i64) (0 : Int) 26 s1 ++ ([.int .i64 s2] : List Value)))) :: blk g2 61 #[.slice none 0 0, .int .i64 0, .int .i64 0, .int .i64 0] :: blk g4 61 #[.slice A2 b1.length c2, .int .i64 b2, .int .i64 b3, .int .i64 turn1] :: own 3 (.slice A2 b1.length c2) (vI (b4.set (Int.toNat i1) (geti s1 i1))) :: fs) := hS
              refine at_end [1, 2, 4, 5, 6] [pl 1 (.int .i64 turn1), pl 2 (.pointer (some ⟨g1, 0, none⟩)), pl 4 (.pointer (some ⟨g2, 0, none⟩)), pl 5 (.pointer (some ⟨g4, 0, none⟩)), pl 6 (.int .i64 i1)] hF rfl (by kernel_rfl) (fun hF => ?_)
              refine np_n ?_
              refine block_n ?_
              refine then_n ?_
              exact ⟨(b4.set (Int.toNat i1) (geti s1 i1)), hF.weak [1, 2, 4, 5, 6] (by kernel_rfl), hS, hm⟩
            · replace hm := if_f hm hb
              obtain ⟨hp5, hm⟩ := asrt_b hm
              obtain ⟨hp6, hm⟩ := asrt_b hm
              refine regMix4 [0, 1, 2, 3, 4, 5, 6, 7, 8, 9] [10] [⟨false, [], vS (Instr.loadAt 40 (.pointer (some ⟨g4, 0, none⟩))), .slice A2 b1.length c2⟩, ⟨true, [], vS (Instr.indexAt 141 (.pointer (some ⟨g1, 0, none⟩)) (.int .i64 i1)), .pointer (some ((⟨g1, 0, none⟩ : Addr).add (Int.toNat i1 * 1)))⟩, ⟨false, [], vS (Instr.loadAt 3 (.pointer (some ((⟨g1, 0, none⟩ : Addr).add (Int.toNat i1 * 1))))), .int .i64 (geti s1 i1)⟩, ⟨true, [], vS (Instr.indexAt 40 (.slice A2 b1.length c2) (.int .i64 (w64 (25 - i1)))), .pointer (some (sAddr A2 (w64 (25 - i1))))⟩] [none, some (.slice A2 b1.length c2), none, none, none, none, some (.pointer (some ((⟨g1, 0, none⟩ : Addr).add (Int.toNat i1 * 1)))), some (.int .i64 (geti s1 i1)), none, some (.pointer (some (sAddr A2 (w64 (25 - i1)))))] [1, 2, 4, 5, 6, 45, 46] [pl 1 (.int .i64 turn1), pl 2 (.pointer (some ⟨g1, 0, none⟩)), pl 4 (.pointer (some ⟨g2, 0, none⟩)), pl 5 (.pointer (some ⟨g4, 0, none⟩)), pl 6 (.int .i64 i1), pl 45 (.int .i64 (w64 (0 - (geti s1 i1)))), pl 46 (.pointer (some (sAddr A2 (w64 (25 - i1)))))] hF hS Fol (by kernel_rfl) (by kernel_rfl) (by kernel_rfl) (by kernel_rfl) (by kernel_rfl) ?_ (fun a w hF hS => ?_)
              · exact obs_cons (ob_load Agg40 (fun _ _ hS => (hS.at_ 2 rfl).cell rfl)) <| obs_cons (ob_ixA UndA141 hi3 hs3 (fun _ => hp5)) <| obs_cons (ob_getA (m := s1) (Value.int .i64) (0 : Int) 26 ([] : List Value) ([.int .i64 s2] : List Value) i1 Agg3 rfl (fun _ hS => ⟨_, _, _, _, _, hS.at_ 0 rfl⟩) (fun hy => by have h0 := hp5; omega)) <| obs_cons (ob_ix1 (f := (Value.int .i64)) (m := b4) Und40 hi3 hs3 (hS.at_ 3 rfl).rd ((hS.at_ 3 rfl).len1) (fun _ => hp6)) <| obs_nil
              obtain ⟨w, hrun, hS⟩ := run_set1 (P := Try.prog) (t := 3) (x := (w64 (0 - (geti s1 i1)))) (Value.int .i64) (hS.at_ 3 rfl) hi3 hs3 rfl rfl hp6
              refine at_skip hF (by kernel_rfl) hrun ?_
              have hS : Sep w0 B w (blk g1 143 (List.toArray (([] : List Value) ++ (arr1 (Value.int .i64) (0 : Int) 26 s1 ++ ([.int .i64 s2] : List Value)))) :: blk g2 61 #[.slice none 0 0, .int .i64 0, .int .i64 0, .int .i64 0] :: blk g4 61 #[.slice A2 b1.length c2, .int .i64 b2, .int .i64 b3, .int .i64 turn1] :: own 3 (.slice A2 b1.length c2) (vI (b4.set (Int.toNat (w64 (25 - i1))) (w64 (0 - (geti s1 i1))))) :: fs) := hS
              refine at_end [1, 2, 4, 5, 6] [pl 1 (.int .i64 turn1), pl 2 (.pointer (some ⟨g1, 0, none⟩)), pl 4 (.pointer (some ⟨g2, 0, none⟩)), pl 5 (.pointer (some ⟨g4, 0, none⟩)), pl 6 (.int .i64 i1)] hF rfl (by kernel_rfl) (fun hF => ?_)
              refine np_n ?_
              refine block_n ?_
              refine then_n ?_
              exact ⟨(b4.set (Int.toNat (w64 (25 - i1))) (w64 (0 - (geti s1 i1)))), hF.weak [1, 2, 4, 5, 6] (by kernel_rfl), hS, hm⟩
        · refine reg [] [] [1, 2, 4, 5, 6, 24] [pl 1 (.int .i64 turn1), pl 2 (.pointer (some ⟨g1, 0, none⟩)), pl 4 (.pointer (some ⟨g2, 0, none⟩)), pl 5 (.pointer (some ⟨g4, 0, none⟩)), pl 6 (.int .i64 i1), pl 24 (.bool (decide (i1 < 25)))] hF hS Fol (by kernel_rfl) (by kernel_rfl) (by kernel_rfl) ?_ (fun a w hF hS => ?_)
          · exact obs_nil
          refine cond_ev (t := 24) (b := decide (i1 < 25)) hF (by kernel_rfl) (fun hb => ?_) (fun hb => ?_)
          · replace hm := if_t hm hb
            refine wp_skip ?_
            refine then_n ?_
            exact ⟨hF.weak [1, 2, 4, 5, 6] (by kernel_rfl), hS, hm⟩
          · replace hm := if_f hm hb
            refine wp_exit ?_
            refine then_e (then_e (block_e (then_n ?_)))
            have hS := hS.pickN 4 [1, 2, 3] (by decide)
            rw [← hφ1] at hm
            replace hm := done_b hm
            unfold gammon_side_board_K1 at hm
            try dsimp only at hm
            have hm : ((gammon_side_board_J3 turn1 b2 b3) b4).bind some = some r := hm
            exact ⟨b4, hF.weak [4, 5] (by kernel_rfl), hS, hm⟩
    · refine reg [] [] [1, 2, 4, 5, 16] [pl 1 (.int .i64 turn1), pl 2 (.pointer (some ⟨g1, 0, none⟩)), pl 4 (.pointer (some ⟨g2, 0, none⟩)), pl 5 (.pointer (some ⟨g4, 0, none⟩)), pl 16 (.bool (turn1 == 1))] hF hS Fol (by kernel_rfl) (by kernel_rfl) (by kernel_rfl) ?_ (fun a w hF hS => ?_)
      · exact obs_nil
      refine cond_ev (t := 16) (b := (turn1 == 1)) hF (by kernel_rfl) (fun hb => ?_) (fun hb => ?_)
      · replace hm := if_t hm hb
        refine oneR ?_
        refine at_run 5 [⟨false, [], vS (Instr.loadAt 3 (.pointer (some ⟨g4, 2, none⟩))), .int .i64 s2⟩, ⟨false, [], vS (Instr.loadAt 3 (.pointer (some ⟨g4, 1, none⟩))), .int .i64 (geti s1 25)⟩] [none, some (.int .i64 s2), none, some (.int .i64 (geti s1 25)), none] [1, 2, 4, 5, 18, 20, 21] [pl 1 (.int .i64 turn1), pl 2 (.pointer (some ⟨g1, 0, none⟩)), pl 4 (.pointer (some ⟨g2, 0, none⟩)), pl 5 (.pointer (some ⟨g4, 0, none⟩)), pl 18 (.int .i64 s2), pl 20 (.int .i64 (geti s1 25)), pl 21 (.pointer (some ⟨g4, 1, none⟩))] hF hS (by kernel_rfl) (by kernel_rfl) ?_ (fun a w hF hS => ?_)
        · exact obs_cons (ob_load Agg3 (fun _ _ hS => (hS.at_ 2 rfl).cell rfl)) <| obs_cons (ob_load Agg3 (fun _ _ hS => (hS.at_ 2 rfl).cell rfl)) <| obs_nil
        obtain ⟨w, hrun, hS⟩ := run_put (P := Try.prog) (t := 3) (u := .int .i64 s2) (i := 1) (hS.at_ 2 rfl) hi3 hs3 rfl (Nat.lt_of_lt_of_eq (Nat.lt_of_succ_le (Nat.le_of_ble_eq_true (by kernel_rfl))) rfl)
        refine at_skip hF (by kernel_rfl) hrun ?_
        have hS : Sep w0 B w (blk g1 143 (List.toArray (([] : List Value) ++ (arr1 (Value.int .i64) (0 : Int) 26 s1 ++ ([.int .i64 s2] : List Value)))) :: blk g2 61 #[.slice none 0 0, .int .i64 0, .int .i64 0, .int .i64 0] :: blk g4 61 #[.slice A2 b1.length c2, .int .i64 s2, .int .i64 s2, .int .i64 turn1] :: own 3 (.slice A2 b1.length c2) (vI b1) :: fs) := hS
        refine at_run 1 [] [] [1, 2, 4, 5, 20, 22] [pl 1 (.int .i64 turn1), pl 2 (.pointer (some ⟨g1, 0, none⟩)), pl 4 (.pointer (some ⟨g2, 0, none⟩)), pl 5 (.pointer (some ⟨g4, 0, none⟩)), pl 20 (.int .i64 (geti s1 25)), pl 22 (.pointer (some ⟨g4, 2, none⟩))] hF hS (by kernel_rfl) (by kernel_rfl) ?_ (fun a w hF hS => ?_)
        · exact obs_nil
        obtain ⟨w, hrun, hS⟩ := run_put (P := Try.prog) (t := 3) (u := .int .i64 (geti s1 25)) (i := 2) (hS.at_ 2 rfl) hi3 hs3 rfl (Nat.lt_of_lt_of_eq (Nat.lt_of_succ_le (Nat.le_of_ble_eq_true (by kernel_rfl))) rfl)
        refine at_skip hF (by kernel_rfl) hrun ?_
        have hS : Sep w0 B w (blk g1 143 (List.toArray (([] : List Value) ++ (arr1 (Value.int .i64) (0 : Int) 26 s1 ++ ([.int .i64 s2] : List Value)))) :: blk g2 61 #[.slice none 0 0, .int .i64 0, .int .i64 0, .int .i64 0] :: blk g4 61 #[.slice A2 b1.length c2, .int .i64 s2, .int .i64 (geti s1 25), .int .i64 turn1] :: own 3 (.slice A2 b1.length c2) (vI b1) :: fs) := hS
        refine at_end [1, 2, 4, 5] [pl 1 (.int .i64 turn1), pl 2 (.pointer (some ⟨g1, 0, none⟩)), pl 4 (.pointer (some ⟨g2, 0, none⟩)), pl 5 (.pointer (some ⟨g4, 0, none⟩))] hF rfl (by kernel_rfl) (fun hF => ?_)
        refine then_n ?_
        exact ⟨s2, (geti s1 25), hF.weak [1, 2, 4, 5] (by kernel_rfl), hS, hm⟩
      · replace hm := if_f hm hb
        refine wp_skip ?_
        refine then_n ?_
        exact ⟨(geti s1 25), s2, hF.weak [1, 2, 4, 5] (by kernel_rfl), hS, hm⟩
  · obtain ⟨hp1, hm⟩ := asrt_b hm
    obtain ⟨hp2, hm⟩ := asrt_b hm
    refine regMix5 [1, 2, 3, 4, 5, 6] [] 4 #[false, true, true, true, true, true, true, false, false, false] [⟨true, [], vS (Instr.indexAt 141 (.pointer (some ⟨g1, 0, none⟩)) (.int .i64 25)), .pointer (some ((⟨g1, 0, none⟩ : Addr).add (Int.toNat 25 * 1)))⟩, ⟨false, [], vS (Instr.loadAt 3 (.pointer (some ((⟨g1, 0, none⟩ : Addr).add (Int.toNat 25 * 1))))), .int .i64 (geti s1 25)⟩, ⟨false, [], vS (Instr.loadAt 3 (.pointer (some ⟨g1, 26, none⟩))), .int .i64 s2⟩] [none, some (.pointer (some ((⟨g1, 0, none⟩ : Addr).add (Int.toNat 25 * 1)))), some (.int .i64 (geti s1 25)), none, some (.int .i64 s2), none] [1, 2, 4, 10, 12, 13] [pl 1 (.int .i64 turn1), pl 2 (.pointer (some ⟨g1, 0, none⟩)), pl 4 (.pointer (some ⟨g2, 0, none⟩)), pl 10 (.int .i64 (geti s1 25)), pl 12 (.int .i64 s2), pl 13 (.int .i64 turn1)] hF hS Fol (by kernel_rfl) (by kernel_rfl) (by kernel_rfl) (by kernel_rfl) ?_ (fun a w hF hS => ?_)
    · exact obs_cons (ob_ixA UndA141 hi3 hs3 (fun _ => hp1)) <| obs_cons (ob_getA (m := s1) (Value.int .i64) (0 : Int) 26 ([] : List Value) ([.int .i64 s2] : List Value) 25 Agg3 rfl (fun _ hS => ⟨_, _, _, _, _, hS.at_ 1 rfl⟩) (fun hy => by have h0 := hp1; omega)) <| obs_cons (ob_load Agg3 (fun _ _ hS => (hS.at_ 1 rfl).cell rfl)) <| obs_nil
    refine any_step [0, 8] (by kernel_rfl) rfl ?_
    refine (all_cons ?_ (all_cons ?_ all_nil))
    · refine any_op (listed' := #[true, true, true, true, true, true, true, false, false, false]) (by kernel_rfl) (by kernel_rfl) ?_
      obtain ⟨A1, c1, w, hrun, hS⟩ := run_mk1 (P := Try.prog) (t := 40) (Value.int .i64) (0 : Int) hS .i64 .i64 Und40 hi3 hz3 hs3 (by omega) rfl hp2
      have hS : Sep w0 B w (own 3 (.slice A1 (Int.toNat 26) c1) (vI (List.replicate (Int.toNat 26) (0 : Int))) :: blk g2 61 #[.slice none 0 0, .int .i64 0, .int .i64 0, .int .i64 0] :: blk g1 143 (List.toArray (([] : List Value) ++ (arr1 (Value.int .i64) (0 : Int) 26 s1 ++ ([.int .i64 s2] : List Value)))) :: fs) := hS
      refine at_do (d := 7) hF (by kernel_rfl) (by kernel_rfl) hrun (fun a hF => ?_)
      refine any_fin rfl (hS.pickN 3 [1, 2] (by decide)) ?_
      refine any_step [7, 8] (by kernel_rfl) rfl ?_
      refine (all_cons ?_ (all_cons ?_ all_nil))
      · refine any_op (listed' := #[true, true, true, true, true, true, true, true, false, false]) (by kernel_rfl) (by kernel_rfl) ?_
        refine at_runW 1 [] [] [1, 2, 4, 14] [pl 1 (.int .i64 turn1), pl 2 (.pointer (some ⟨g1, 0, none⟩)), pl 4 (.pointer (some ⟨g2, 0, none⟩)), pl 14 (.agg #[.slice A1 (Int.toNat 26) c1, .int .i64 (geti s1 25), .int .i64 s2, .int .i64 turn1])] hF hS (by kernel_rfl) (by kernel_rfl) ?_ (fun a hF => ?_)
        · exact obs_nil
        refine any_finI rfl (fun h => h) ?_
        refine any_step [8] (by kernel_rfl) rfl ?_
        refine (all_cons ?_ all_nil)
        · refine any_op (listed' := #[true, true, true, true, true, true, true, true, true, false]) (by kernel_rfl) (by kernel_rfl) ?_
          refine at_do (d := 5) (s := vS (Instr.alloc 61 true (.tuple #[]))) (v := .pointer (some ⟨w.heap.size, 0, none⟩)) (w' := w.alloc (.cells #[.slice none 0 0, .int .i64 0, .int .i64 0, .int .i64 0] 61)) hF (by kernel_rfl) (by kernel_rfl) (by kernel_rfl) (fun a hF => ?_)
          have hS : Sep w0 B (w.alloc (.cells #[.slice none 0 0, .int .i64 0, .int .i64 0, .int .i64 0] 61)) (blk w.heap.size 61 #[.slice none 0 0, .int .i64 0, .int .i64 0, .int .i64 0] :: (own 3 (.slice A1 (Int.toNat 26) c1) (vI (List.replicate (Int.toNat 26) (0 : Int))) :: blk g2 61 #[.slice none 0 0, .int .i64 0, .int .i64 0, .int .i64 0] :: blk g1 143 (List.toArray (([] : List Value) ++ (arr1 (Value.int .i64) (0 : Int) 26 s1 ++ ([.int .i64 s2] : List Value)))) :: fs)) := hS.box 61 #[.slice none 0 0, .int .i64 0, .int .i64 0, .int .i64 0]
          generalize w.heap.size = g3 at hF hS
          generalize w.alloc (.cells #[.slice none 0 0, .int .i64 0, .int .i64 0, .int .i64 0] 61) = w at hS ⊢
          refine any_fin rfl (hS.pickN 4 [2, 3] (by decide)) ?_
          refine any_step [9] (by kernel_rfl) rfl ?_
          refine (all_cons ?_ all_nil)
          · refine any_op (listed' := #[true, true, true, true, true, true, true, true, true, true]) (by kernel_rfl) (by kernel_rfl) ?_
            obtain ⟨w, hrun, hS⟩ := run_putA (P := Try.prog) (t := 61) (us := #[.slice A1 (Int.toNat 26) c1, .int .i64 (geti s1 25), .int .i64 s2, .int .i64 turn1]) (o := 0) (hS.at_ 0 rfl) (by kernel_rfl) (all_one (by kernel_rfl)) (Nat.le_of_ble_eq_true (by kernel_rfl))
            refine at_skip hF (by kernel_rfl) hrun ?_
            have hS : Sep w0 B w (blk g3 61 #[.slice A1 (Int.toNat 26) c1, .int .i64 (geti s1 25), .int .i64 s2, .int .i64 turn1] :: own 3 (.slice A1 (Int.toNat 26) c1) (vI (List.replicate (Int.toNat 26) (0 : Int))) :: blk g2 61 #[.slice none 0 0, .int .i64 0, .int .i64 0, .int .i64 0] :: blk g1 143 (List.toArray (([] : List Value) ++ (arr1 (Value.int .i64) (0 : Int) 26 s1 ++ ([.int .i64 s2] : List Value)))) :: fs) := hS
            refine any_fin rfl (hS.pickN 4 [2, 3] (by decide)) ?_
            refine any_end (by kernel_rfl) ?_
            refine np_n ?_
            refine then_n ?_
            have hl1 := (hS.at_ 1 rfl).len1
            have hS := (hS.at_ 1 rfl).reN hl1
            have hS := (hS.at_ 0 rfl).reBlk (congrArg (fun k9 => (#[.slice A1 k9 c1, .int .i64 (geti s1 25), .int .i64 s2, .int .i64 turn1] : Array Value)) hl1)
            have hS : Sep w0 B w (blk g3 61 #[.slice A1 ((List.replicate (Int.toNat 26) (0 : Int)).length) c1, .int .i64 (geti s1 25), .int .i64 s2, .int .i64 turn1] :: own 3 (.slice A1 ((List.replicate (Int.toNat 26) (0 : Int)).length) c1) (vI (List.replicate (Int.toNat 26) (0 : Int))) :: blk g2 61 #[.slice none 0 0, .int .i64 0, .int .i64 0, .int .i64 0] :: blk g1 143 (List.toArray (([] : List Value) ++ (arr1 (Value.int .i64) (0 : Int) 26 s1 ++ ([.int .i64 s2] : List Value)))) :: fs) := hS
            have hS := hS.pickN 4 [3, 2, 0, 1] (by decide)
            exact ⟨(List.replicate (Int.toNat 26) (0 : Int)), g3, A1, c1, hF.weak [1, 2, 4, 5] (by kernel_rfl), hS, hm⟩
      · refine any_op (listed' := #[true, true, true, true, true, true, true, false, true, false]) (by kernel_rfl) (by kernel_rfl) ?_
        refine at_do (d := 5) (s := vS (Instr.alloc 61 true (.tuple #[]))) (v := .pointer (some ⟨w.heap.size, 0, none⟩)) (w' := w.alloc (.cells #[.slice none 0 0, .int .i64 0, .int .i64 0, .int .i64 0] 61)) hF (by kernel_rfl) (by kernel_rfl) (by kernel_rfl) (fun a hF => ?_)
        have hS : Sep w0 B (w.alloc (.cells #[.slice none 0 0, .int .i64 0, .int .i64 0, .int .i64 0] 61)) (blk w.heap.size 61 #[.slice none 0 0, .int .i64 0, .int .i64 0, .int .i64 0] :: (own 3 (.slice A1 (Int.toNat 26) c1) (vI (List.replicate (Int.toNat 26) (0 : Int))) :: blk g2 61 #[.slice none 0 0, .int .i64 0, .int .i64 0, .int .i64 0] :: blk g1 143 (List.toArray (([] : List Value) ++ (arr1 (Value.int .i64) (0 : Int) 26 s1 ++ ([.int .i64 s2] : List Value)))) :: fs)) := hS.box 61 #[.slice none 0 0, .int .i64 0, .int .i64 0, .int .i64 0]
        generalize w.heap.size = g3 at hF hS
        generalize w.alloc (.cells #[.slice none 0 0, .int .i64 0, .int .i64 0, .int .i64 0] 61) = w at hS ⊢
        refine any_fin rfl (hS.pickN 4 [2, 3] (by decide)) ?_
        refine any_step [7] (by kernel_rfl) rfl ?_
        refine (all_cons ?_ all_nil)
        · refine any_op (listed' := #[true, true, true, true, true, true, true, true, true, false]) (by kernel_rfl) (by kernel_rfl) ?_
          refine at_runW 1 [] [] [1, 2, 4, 5, 14] [pl 1 (.int .i64 turn1), pl 2 (.pointer (some ⟨g1, 0, none⟩)), pl 4 (.pointer (some ⟨g2, 0, none⟩)), pl 5 (.pointer (some ⟨g3, 0, none⟩)), pl 14 (.agg #[.slice A1 (Int.toNat 26) c1, .int .i64 (geti s1 25), .int .i64 s2, .int .i64 turn1])] hF hS (by kernel_rfl) (by kernel_rfl) ?_ (fun a hF => ?_)
          · exact obs_nil
          refine any_finI rfl (fun h => h) ?_
          refine any_step [9] (by kernel_rfl) rfl ?_
          refine (all_cons ?_ all_nil)
          · refine any_op (listed' := #[true, true, true, true, true, true, true, true, true, true]) (by kernel_rfl) (by kernel_rfl) ?_
            obtain ⟨w, hrun, hS⟩ := run_putA (P := Try.prog) (t := 61) (us := #[.slice A1 (Int.toNat 26) c1, .int .i64 (geti s1 25), .int .i64 s2, .int .i64 turn1]) (o := 0) (hS.at_ 0 rfl) (by kernel_rfl) (all_one (by kernel_rfl)) (Nat.le_of_ble_eq_true (by kernel_rfl))
            refine at_skip hF (by kernel_rfl) hrun ?_
            have hS : Sep w0 B w (blk g3 61 #[.slice A1 (Int.toNat 26) c1, .int .i64 (geti s1 25), .int .i64 s2, .int .i64 turn1] :: own 3 (.slice A1 (Int.toNat 26) c1) (vI (List.replicate (Int.toNat 26) (0 : Int))) :: blk g2 61 #[.slice none 0 0, .int .i64 0, .int .i64 0, .int .i64 0] :: blk g1 143 (List.toArray (([] : List Value) ++ (arr1 (Value.int .i64) (0 : Int) 26 s1 ++ ([.int .i64 s2] : List Value)))) :: fs) := hS
            refine any_fin rfl (hS.pickN 4 [2, 3] (by decide)) ?_
            refine any_end (by kernel_rfl) ?_
            refine np_n ?_
            refine then_n ?_
            have hl2 := (hS.at_ 1 rfl).len1
            have hS := (hS.at_ 1 rfl).reN hl2
            have hS := (hS.at_ 0 rfl).reBlk (congrArg (fun k9 => (#[.slice A1 k9 c1, .int .i64 (geti s1 25), .int .i64 s2, .int .i64 turn1] : Array Value)) hl2)
            have hS : Sep w0 B w (blk g3 61 #[.slice A1 ((List.replicate (Int.toNat 26) (0 : Int)).length) c1, .int .i64 (geti s1 25), .int .i64 s2, .int .i64 turn1] :: own 3 (.slice A1 ((List.replicate (Int.toNat 26) (0 : Int)).length) c1) (vI (List.replicate (Int.toNat 26) (0 : Int))) :: blk g2 61 #[.slice none 0 0, .int .i64 0, .int .i64 0, .int .i64 0] :: blk g1 143 (List.toArray (([] : List Value) ++ (arr1 (Value.int .i64) (0 : Int) 26 s1 ++ ([.int .i64 s2] : List Value)))) :: fs) := hS
            have hS := hS.pickN 4 [3, 2, 0, 1] (by decide)
            exact ⟨(List.replicate (Int.toNat 26) (0 : Int)), g3, A1, c1, hF.weak [1, 2, 4, 5] (by kernel_rfl), hS, hm⟩
    · refine any_op (listed' := #[false, true, true, true, true, true, true, false, true, false]) (by kernel_rfl) (by kernel_rfl) ?_
      refine at_do (d := 5) (s := vS (Instr.alloc 61 true (.tuple #[]))) (v := .pointer (some ⟨w.heap.size, 0, none⟩)) (w' := w.alloc (.cells #[.slice none 0 0, .int .i64 0, .int .i64 0, .int .i64 0] 61)) hF (by kernel_rfl) (by kernel_rfl) (by kernel_rfl) (fun a hF => ?_)
      have hS : Sep w0 B (w.alloc (.cells #[.slice none 0 0, .int .i64 0, .int .i64 0, .int .i64 0] 61)) (blk w.heap.size 61 #[.slice none 0 0, .int .i64 0, .int .i64 0, .int .i64 0] :: (blk g2 61 #[.slice none 0 0, .int .i64 0, .int .i64 0, .int .i64 0] :: blk g1 143 (List.toArray (([] : List Value) ++ (arr1 (Value.int .i64) (0 : Int) 26 s1 ++ ([.int .i64 s2] : List Value)))) :: fs)) := hS.box 61 #[.slice none 0 0, .int .i64 0, .int .i64 0, .int .i64 0]
      generalize w.heap.size = g3 at hF hS
      generalize w.alloc (.cells #[.slice none 0 0, .int .i64 0, .int .i64 0, .int .i64 0] 61) = w at hS ⊢
      refine any_fin rfl (hS.pickN 3 [1, 2] (by decide)) ?_
      refine any_step [0] (by kernel_rfl) rfl ?_
      refine (all_cons ?_ all_nil)
      · refine any_op (listed' := #[true, true, true, true, true, true, true, false, true, false]) (by kernel_rfl) (by kernel_rfl) ?_
        obtain ⟨A1, c1, w, hrun, hS⟩ := run_mk1 (P := Try.prog) (t := 40) (Value.int .i64) (0 : Int) hS .i64 .i64 Und40 hi3 hz3 hs3 (by omega) rfl hp2
        have hS : Sep w0 B w (own 3 (.slice A1 (Int.toNat 26) c1) (vI (List.replicate (Int.toNat 26) (0 : Int))) :: blk g3 61 #[.slice none 0 0, .int .i64 0, .int .i64 0, .int .i64 0] :: blk g2 61 #[.slice none 0 0, .int .i64 0, .int .i64 0, .int .i64 0] :: blk g1 143 (List.toArray (([] : List Value) ++ (arr1 (Value.int .i64) (0 : Int) 26 s1 ++ ([.int .i64 s2] : List Value)))) :: fs) := hS
        refine at_do (d := 7) hF (by kernel_rfl) (by kernel_rfl) hrun (fun a hF => ?_)
        refine any_fin rfl (hS.pickN 4 [2, 3] (by decide)) ?_
        refine any_step [7] (by kernel_rfl) rfl ?_
        refine (all_cons ?_ all_nil)
        · refine any_op (listed' := #[true, true, true, true, true, true, true, true, true, false]) (by kernel_rfl) (by kernel_rfl) ?_
          refine at_runW 1 [] [] [1, 2, 4, 5, 14] [pl 1 (.int .i64 turn1), pl 2 (.pointer (some ⟨g1, 0, none⟩)), pl 4 (.pointer (some ⟨g2, 0, none⟩)), pl 5 (.pointer (some ⟨g3, 0, none⟩)), pl 14 (.agg #[.slice A1 (Int.toNat 26) c1, .int .i64 (geti s1 25), .int .i64 s2, .int .i64 turn1])] hF hS (by kernel_rfl) (by kernel_rfl) ?_ (fun a hF => ?_)
          · exact obs_nil
          refine any_finI rfl (fun h => h) ?_
          refine any_step [9] (by kernel_rfl) rfl ?_
          refine (all_cons ?_ all_nil)
          · refine any_op (listed' := #[true, true, true, true, true, true, true, true, true, true]) (by kernel_rfl) (by kernel_rfl) ?_
            obtain ⟨w, hrun, hS⟩ := run_putA (P := Try.prog) (t := 61) (us := #[.slice A1 (Int.toNat 26) c1, .int .i64 (geti s1 25), .int .i64 s2, .int .i64 turn1]) (o := 0) (hS.at_ 1 rfl) (by kernel_rfl) (all_one (by kernel_rfl)) (Nat.le_of_ble_eq_true (by kernel_rfl))
            refine at_skip hF (by kernel_rfl) hrun ?_
            have hS : Sep w0 B w (own 3 (.slice A1 (Int.toNat 26) c1) (vI (List.replicate (Int.toNat 26) (0 : Int))) :: blk g3 61 #[.slice A1 (Int.toNat 26) c1, .int .i64 (geti s1 25), .int .i64 s2, .int .i64 turn1] :: blk g2 61 #[.slice none 0 0, .int .i64 0, .int .i64 0, .int .i64 0] :: blk g1 143 (List.toArray (([] : List Value) ++ (arr1 (Value.int .i64) (0 : Int) 26 s1 ++ ([.int .i64 s2] : List Value)))) :: fs) := hS
            refine any_fin rfl (hS.pickN 4 [2, 3] (by decide)) ?_
            refine any_end (by kernel_rfl) ?_
            refine np_n ?_
            refine then_n ?_
            have hl3 := (hS.at_ 0 rfl).len1
            have hS := (hS.at_ 0 rfl).reN hl3
            have hS := (hS.at_ 1 rfl).reBlk (congrArg (fun k9 => (#[.slice A1 k9 c1, .int .i64 (geti s1 25), .int .i64 s2, .int .i64 turn1] : Array Value)) hl3)
            have hS : Sep w0 B w (own 3 (.slice A1 ((List.replicate (Int.toNat 26) (0 : Int)).length) c1) (vI (List.replicate (Int.toNat 26) (0 : Int))) :: blk g3 61 #[.slice A1 ((List.replicate (Int.toNat 26) (0 : Int)).length) c1, .int .i64 (geti s1 25), .int .i64 s2, .int .i64 turn1] :: blk g2 61 #[.slice none 0 0, .int .i64 0, .int .i64 0, .int .i64 0] :: blk g1 143 (List.toArray (([] : List Value) ++ (arr1 (Value.int .i64) (0 : Int) 26 s1 ++ ([.int .i64 s2] : List Value)))) :: fs) := hS
            have hS := hS.pickN 4 [3, 2, 1, 0] (by decide)
            exact ⟨(List.replicate (Int.toNat 26) (0 : Int)), g3, A1, c1, hF.weak [1, 2, 4, 5] (by kernel_rfl), hS, hm⟩

noncomputable def gammon_Step_J3 (b4 : Int) (r3 : (List Int × Int × Bool)) : Option (List Int × Int × Int × Int × Int) :=
  (gammon_side_board_m r3.1 r3.2.1 b4).bind fun r4 => some (r4.1, r4.2.1, r4.2.2.1, r4.2.2.2, 0)

noncomputable def gammon_Step_J2 (b1 : List Int) (b2 : Int) (b3 : Int) (b4 : Int) (pips1 : Int) (at1 : Int) : Option (List Int × Int × Int × Int × Int) :=
  (gammon_sideOf_m b1 b2 b3 b4).bind fun r2 => (gammon_side_step_m r2.1 r2.2 at1 pips1).bind fun r3 => if (!r3.2.2) then (some (([] : List Int), 0, 0, 0, 8)) else ((gammon_Step_J3 b4 r3))

noncomputable def gammon_Step_J1 (b1 : List Int) (b2 : Int) (b3 : Int) (b4 : Int) (from1 : Int) (pips1 : Int) : Option (List Int × Int × Int × Int × Int) :=
  if (from1 == 0) then ((gammon_Step_J2 b1 b2 b3 b4 pips1) 25) else (if (b4 == 1) then ((gammon_Step_J2 b1 b2 b3 b4 pips1) (w64 (25 - from1))) else ((gammon_Step_J2 b1 b2 b3 b4 pips1) from1))

noncomputable def gammon_Step_m (b1 : List Int) (b2 : Int) (b3 : Int) (b4 : Int) (from1 : Int) (pips1 : Int) : Option (List Int × Int × Int × Int × Int) :=
  (gammon_May_m b1 b2 b3 b4).bind fun r1 => if (!r1) then (some (([] : List Int), 0, 0, 0, 12)) else (if ((((decide (from1 < 0)) || (decide ((24 : Int) < from1))) || (decide (pips1 < 1))) || (decide ((6 : Int) < pips1))) then (some (([] : List Int), 0, 0, 0, 3)) else ((gammon_Step_J1 b1 b2 b3 b4 from1 pips1)))

set_option maxRecDepth 100000 in
set_option maxHeartbeats 4000000 in
theorem gammon_Step_w {A1 : Option Addr} {c1 : Nat} {n1 : Nat} {b1 : List Int} {b2 : Int} {b3 : Int} {b4 : Int} {from1 : Int} {pips1 : Int} {r : (List Int × Int × Int × Int × Int)} {w0 w : World} {B : Nat} {fs : List HP} (hm : gammon_Step_m b1 b2 b3 b4 from1 pips1 = some r) (hS : Sep w0 B w (fs)) (hr_b1 : RdF w0 B fs A1 (vI b1)) (_hc_b1 : b1.length ≤ c1) (_hn_b1 : n1 = b1.length) :
    Calls Try.prog 42 #[.agg #[.slice A1 n1 c1, .int .i64 b2, .int .i64 b3, .int .i64 b4], .int .i64 from1, .int .i64 pips1] w fun e w' => ∃ v, e = .returned v ∧ ∃ (A3 : Option Addr) (c3 : Nat), v = .tuple #[.agg #[.slice A3 r.1.length c3, .int .i64 r.2.1, .int .i64 r.2.2.1, .int .i64 r.2.2.2.1], .int .i64 r.2.2.2.2] ∧ Sep w0 B w' (own 3 (.slice A3 r.1.length c3) (vI r.1) :: fs) := by
  obtain ⟨i3, hi3, hz3, hs3, hb3⟩ := info_parts Info3
  obtain rfl := _hn_b1
  unfold gammon_Step_m at hm
  replace hm := start_b hm
  refine enter (l := [.agg #[.slice A1 b1.length c1, .int .i64 b2, .int .i64 b3, .int .i64 b4], .int .i64 from1, .int .i64 pips1]) (n := 55) Try.func42 rfl rfl (by simp) (fun a hF => ?_)
  refine seqR ?_
  refine at_do (d := 3) (s := vS (Instr.box 61 (.agg #[.slice A1 b1.length c1, .int .i64 b2, .int .i64 b3, .int .i64 b4]))) (v := .pointer (some ⟨w.heap.size, 0, none⟩)) (w' := w.alloc (.cells #[.slice A1 b1.length c1, .int .i64 b2, .int .i64 b3, .int .i64 b4] 61)) hF (by kernel_rfl) (by kernel_rfl) (by kernel_rfl) (fun a hF => ?_)
  have hS : Sep w0 B (w.alloc (.cells #[.slice A1 b1.length c1, .int .i64 b2, .int .i64 b3, .int .i64 b4] 61)) (blk w.heap.size 61 #[.slice A1 b1.length c1, .int .i64 b2, .int .i64 b3, .int .i64 b4] :: (fs)) := hS.box 61 #[.slice A1 b1.length c1, .int .i64 b2, .int .i64 b3, .int .i64 b4]
  generalize w.heap.size = g1 at hF hS
  generalize w.alloc (.cells #[.slice A1 b1.length c1, .int .i64 b2, .int .i64 b3, .int .i64 b4] 61) = w at hS ⊢
  refine at_do (d := 6) (s := vS (Instr.alloc 61 true (.tuple #[]))) (v := .pointer (some ⟨w.heap.size, 0, none⟩)) (w' := w.alloc (.cells #[.slice none 0 0, .int .i64 0, .int .i64 0, .int .i64 0] 61)) hF (by kernel_rfl) (by kernel_rfl) (by kernel_rfl) (fun a hF => ?_)
  have hS : Sep w0 B (w.alloc (.cells #[.slice none 0 0, .int .i64 0, .int .i64 0, .int .i64 0] 61)) (blk w.heap.size 61 #[.slice none 0 0, .int .i64 0, .int .i64 0, .int .i64 0] :: (blk g1 61 #[.slice A1 b1.length c1, .int .i64 b2, .int .i64 b3, .int .i64 b4] :: fs)) := hS.box 61 #[.slice none 0 0, .int .i64 0, .int .i64 0, .int .i64 0]
  generalize w.heap.size = g2 at hF hS
  generalize w.alloc (.cells #[.slice none 0 0, .int .i64 0, .int .i64 0, .int .i64 0] 61) = w at hS ⊢
  refine at_run 1 [] [] [1, 2, 3, 6] [pl 1 (.int .i64 from1), pl 2 (.int .i64 pips1), pl 3 (.pointer (some ⟨g1, 0, none⟩)), pl 6 (.pointer (some ⟨g2, 0, none⟩))] hF hS (by kernel_rfl) (by kernel_rfl) ?_ (fun a w hF hS => ?_)
  · exact obs_nil
  refine at_end [1, 2, 3, 6] [pl 1 (.int .i64 from1), pl 2 (.int .i64 pips1), pl 3 (.pointer (some ⟨g1, 0, none⟩)), pl 6 (.pointer (some ⟨g2, 0, none⟩))] hF rfl (by kernel_rfl) (fun hF => ?_)
  refine then_n ?_
  refine seq_cut (fun a w => Fr 55 [pl 1 (.int .i64 from1), pl 2 (.int .i64 pips1), pl 3 (.pointer (some ⟨g1, 0, none⟩)), pl 6 (.pointer (some ⟨g2, 0, none⟩))] a ∧ Sep w0 B w (blk g1 61 #[.slice A1 b1.length c1, .int .i64 b2, .int .i64 b3, .int .i64 b4] :: blk g2 61 #[.slice none 0 0, .int .i64 0, .int .i64 0, .int .i64 0] :: fs) ∧ ((gammon_Step_J1 b1 b2 b3 b4 from1 pips1)).bind some = some r) ?_ ?_
  · rintro a w ⟨hF, hS, hm⟩
    unfold gammon_Step_J1 at hm
    refine reg [] [] [1, 2, 3, 6, 8] [pl 1 (.int .i64 from1), pl 2 (.int .i64 pips1), pl 3 (.pointer (some ⟨g1, 0, none⟩)), pl 6 (.pointer (some ⟨g2, 0, none⟩)), pl 8 (.int .i64 from1)] hF hS Fol (by kernel_rfl) (by kernel_rfl) (by kernel_rfl) ?_ (fun a w hF hS => ?_)
    · exact obs_nil
    refine seq_cut (fun a w => ∃ (at1 : Int), Fr 55 [pl 2 (.int .i64 pips1), pl 3 (.pointer (some ⟨g1, 0, none⟩)), pl 6 (.pointer (some ⟨g2, 0, none⟩)), pl 8 (.int .i64 at1)] a ∧ Sep w0 B w (blk g1 61 #[.slice A1 b1.length c1, .int .i64 b2, .int .i64 b3, .int .i64 b4] :: blk g2 61 #[.slice none 0 0, .int .i64 0, .int .i64 0, .int .i64 0] :: fs) ∧ ((gammon_Step_J2 b1 b2 b3 b4 pips1) at1).bind some = some r) ?_ ?_
    · rintro a w ⟨at1, hF, hS, hm⟩
      unfold gammon_Step_J2 at hm
      refine seqR ?_
      obtain ⟨r2, hr2, hm⟩ := call_b hm
      obtain ⟨r3, hr3, hm⟩ := call_b hm
      refine at_run 8 [⟨false, [], vS (Instr.loadAt 61 (.pointer (some ⟨g1, 0, none⟩))), .agg #[.slice A1 b1.length c1, .int .i64 b2, .int .i64 b3, .int .i64 b4]⟩, ⟨false, [], callFunc 98 #[.agg #[.slice A1 b1.length c1, .int .i64 b2, .int .i64 b3, .int .i64 b4]], .agg (List.toArray (([] : List Value) ++ (arr1 (Value.int .i64) (0 : Int) 26 r2.1 ++ ([.int .i64 r2.2] : List Value))))⟩, ⟨false, [], callFunc 99 #[.agg (List.toArray (([] : List Value) ++ (arr1 (Value.int .i64) (0 : Int) 26 r2.1 ++ ([.int .i64 r2.2] : List Value)))), .int .i64 at1, .int .i64 pips1], .tuple #[.agg (List.toArray (([] : List Value) ++ (arr1 (Value.int .i64) (0 : Int) 26 r3.1 ++ ([.int .i64 r3.2.1] : List Value)))), .bool r3.2.2]⟩] [some (.agg #[.slice A1 b1.length c1, .int .i64 b2, .int .i64 b3, .int .i64 b4]), some (.agg (List.toArray (([] : List Value) ++ (arr1 (Value.int .i64) (0 : Int) 26 r2.1 ++ ([.int .i64 r2.2] : List Value))))), none, none, some (.tuple #[.agg (List.toArray (([] : List Value) ++ (arr1 (Value.int .i64) (0 : Int) 26 r3.1 ++ ([.int .i64 r3.2.1] : List Value)))), .bool r3.2.2]), none, none, none] [3, 6, 46, 47] [pl 3 (.pointer (some ⟨g1, 0, none⟩)), pl 6 (.pointer (some ⟨g2, 0, none⟩)), pl 46 (.agg (List.toArray (([] : List Value) ++ (arr1 (Value.int .i64) (0 : Int) 26 r3.1 ++ ([.int .i64 r3.2.1] : List Value))))), pl 47 (.bool r3.2.2)] hF hS (by kernel_rfl) (by kernel_rfl) ?_ (fun a w hF hS => ?_)
      · exact obs_cons (ob_loadA (cs := #[.slice A1 b1.length c1, .int .i64 b2, .int .i64 b3, .int .i64 b4]) (by kernel_rfl) (by kernel_rfl) (fun _ _ hS => (hS.at_ 0 rfl).cellsAt 0 (by rfl))) <| obs_cons (ob_call Try.func98 (by kernel_rfl) rfl (fun _ _ hS => gammon_sideOf_w hr2 hS (fun _ hS => (hr_b1 _ (hS.dropN 2))) _hc_b1 rfl)) <| obs_cons (ob_call Try.func99 (by kernel_rfl) rfl (fun _ _ hS => gammon_side_step_w hr3 hS )) <| obs_nil
      refine at_do (d := 9) (s := vS (Instr.alloc 143 true (.tuple #[]))) (v := .pointer (some ⟨w.heap.size, 0, none⟩)) (w' := w.alloc (.cells (List.toArray (([] : List Value) ++ (arr1 (Value.int .i64) (0 : Int) 26 (List.replicate 26 (0 : Int)) ++ ([.int .i64 0] : List Value)))) 143)) hF (by kernel_rfl) (by kernel_rfl) (by kernel_rfl) (fun a hF => ?_)
      have hS : Sep w0 B (w.alloc (.cells (List.toArray (([] : List Value) ++ (arr1 (Value.int .i64) (0 : Int) 26 (List.replicate 26 (0 : Int)) ++ ([.int .i64 0] : List Value)))) 143)) (blk w.heap.size 143 (List.toArray (([] : List Value) ++ (arr1 (Value.int .i64) (0 : Int) 26 (List.replicate 26 (0 : Int)) ++ ([.int .i64 0] : List Value)))) :: (blk g1 61 #[.slice A1 b1.length c1, .int .i64 b2, .int .i64 b3, .int .i64 b4] :: blk g2 61 #[.slice none 0 0, .int .i64 0, .int .i64 0, .int .i64 0] :: fs)) := hS.box 143 (List.toArray (([] : List Value) ++ (arr1 (Value.int .i64) (0 : Int) 26 (List.replicate 26 (0 : Int)) ++ ([.int .i64 0] : List Value))))
      generalize w.heap.size = g3 at hF hS
      generalize w.alloc (.cells (List.toArray (([] : List Value) ++ (arr1 (Value.int .i64) (0 : Int) 26 (List.replicate 26 (0 : Int)) ++ ([.int .i64 0] : List Value)))) 143) = w at hS ⊢
      obtain ⟨w, hrun, hS⟩ := run_putW (P := Try.prog) (t := 143) (us := (List.toArray (([] : List Value) ++ (arr1 (Value.int .i64) (0 : Int) 26 r3.1 ++ ([.int .i64 r3.2.1] : List Value))))) (hS.at_ 0 rfl) (by kernel_rfl) (all_one (by kernel_rfl)) (by kernel_rfl)
      refine at_skip hF (by kernel_rfl) hrun ?_
      have hS : Sep w0 B w (blk g3 143 (List.toArray (([] : List Value) ++ (arr1 (Value.int .i64) (0 : Int) 26 r3.1 ++ ([.int .i64 r3.2.1] : List Value)))) :: blk g1 61 #[.slice A1 b1.length c1, .int .i64 b2, .int .i64 b3, .int .i64 b4] :: blk g2 61 #[.slice none 0 0, .int .i64 0, .int .i64 0, .int .i64 0] :: fs) := hS
      refine at_run 1 [] [] [3, 6, 9, 10] [pl 3 (.pointer (some ⟨g1, 0, none⟩)), pl 6 (.pointer (some ⟨g2, 0, none⟩)), pl 9 (.pointer (some ⟨g3, 0, none⟩)), pl 10 (.bool r3.2.2)] hF hS (by kernel_rfl) (by kernel_rfl) ?_ (fun a w hF hS => ?_)
      · exact obs_nil
      refine at_end [3, 6, 9, 10] [pl 3 (.pointer (some ⟨g1, 0, none⟩)), pl 6 (.pointer (some ⟨g2, 0, none⟩)), pl 9 (.pointer (some ⟨g3, 0, none⟩)), pl 10 (.bool r3.2.2)] hF rfl (by kernel_rfl) (fun hF => ?_)
      refine then_n ?_
      refine seq_cut (fun a w => Fr 55 [pl 3 (.pointer (some ⟨g1, 0, none⟩)), pl 6 (.pointer (some ⟨g2, 0, none⟩)), pl 9 (.pointer (some ⟨g3, 0, none⟩))] a ∧ Sep w0 B w (blk g1 61 #[.slice A1 b1.length c1, .int .i64 b2, .int .i64 b3, .int .i64 b4] :: blk g2 61 #[.slice none 0 0, .int .i64 0, .int .i64 0, .int .i64 0] :: blk g3 143 (List.toArray (([] : List Value) ++ (arr1 (Value.int .i64) (0 : Int) 26 r3.1 ++ ([.int .i64 r3.2.1] : List Value)))) :: fs) ∧ ((gammon_Step_J3 b4 r3)).bind some = some r) ?_ ?_
      · rintro a w ⟨hF, hS, hm⟩
        unfold gammon_Step_J3 at hm
        refine seqR ?_
        obtain ⟨r4, hr4, hm⟩ := call_b hm
        refine at_run 3 [⟨false, [], vS (Instr.loadAt 143 (.pointer (some ⟨g3, 0, none⟩))), .agg (List.toArray (([] : List Value) ++ (arr1 (Value.int .i64) (0 : Int) 26 r3.1 ++ ([.int .i64 r3.2.1] : List Value))))⟩, ⟨false, [], vS (Instr.loadAt 3 (.pointer (some ⟨g1, 3, none⟩))), .int .i64 b4⟩] [some (.agg (List.toArray (([] : List Value) ++ (arr1 (Value.int .i64) (0 : Int) 26 r3.1 ++ ([.int .i64 r3.2.1] : List Value))))), none, some (.int .i64 b4)] [6, 51, 53] [pl 6 (.pointer (some ⟨g2, 0, none⟩)), pl 51 (.agg (List.toArray (([] : List Value) ++ (arr1 (Value.int .i64) (0 : Int) 26 r3.1 ++ ([.int .i64 r3.2.1] : List Value))))), pl 53 (.int .i64 b4)] hF hS (by kernel_rfl) (by kernel_rfl) ?_ (fun a w hF hS => ?_)
        · exact obs_cons (ob_loadA (cs := (List.toArray (([] : List Value) ++ (arr1 (Value.int .i64) (0 : Int) 26 r3.1 ++ ([.int .i64 r3.2.1] : List Value))))) (by kernel_rfl) (by kernel_rfl) (fun _ _ hS => (hS.at_ 2 rfl).cellsAt 0 (by rfl))) <| obs_cons (ob_load Agg3 (fun _ _ hS => (hS.at_ 0 rfl).cell rfl)) <| obs_nil
        refine at_call (f := 100) (args := #[.agg (List.toArray (([] : List Value) ++ (arr1 (Value.int .i64) (0 : Int) 26 r3.1 ++ ([.int .i64 r3.2.1] : List Value)))), .int .i64 b4]) (d := 54) hF (by kernel_rfl) (by kernel_rfl) Try.func100 (by kernel_rfl) rfl (gammon_side_board_w hr4 hS ) (fun v a w hR hF => ?_)
        clear hS
        obtain ⟨A2, c2, rfl, hS⟩ := hR
        have hS : Sep w0 B w (own 3 (.slice A2 r4.1.length c2) (vI r4.1) :: blk g1 61 #[.slice A1 b1.length c1, .int .i64 b2, .int .i64 b3, .int .i64 b4] :: blk g2 61 #[.slice none 0 0, .int .i64 0, .int .i64 0, .int .i64 0] :: blk g3 143 (List.toArray (([] : List Value) ++ (arr1 (Value.int .i64) (0 : Int) 26 r3.1 ++ ([.int .i64 r3.2.1] : List Value)))) :: fs) := hS
        obtain ⟨w, hrun, hS⟩ := run_putA (P := Try.prog) (t := 61) (us := #[.slice A2 r4.1.length c2, .int .i64 r4.2.1, .int .i64 r4.2.2.1, .int .i64 r4.2.2.2]) (o := 0) (hS.at_ 2 rfl) (by kernel_rfl) (all_one (by kernel_rfl)) (Nat.le_of_ble_eq_true (by kernel_rfl))
        refine at_skip hF (by kernel_rfl) hrun ?_
        have hS : Sep w0 B w (own 3 (.slice A2 r4.1.length c2) (vI r4.1) :: blk g1 61 #[.slice A1 b1.length c1, .int .i64 b2, .int .i64 b3, .int .i64 b4] :: blk g2 61 #[.slice A2 r4.1.length c2, .int .i64 r4.2.1, .int .i64 r4.2.2.1, .int .i64 r4.2.2.2] :: blk g3 143 (List.toArray (([] : List Value) ++ (arr1 (Value.int .i64) (0 : Int) 26 r3.1 ++ ([.int .i64 r3.2.1] : List Value)))) :: fs) := hS
        refine at_run 1 [] [] [6, 7] [pl 6 (.pointer (some ⟨g2, 0, none⟩)), pl 7 (.int .i64 0)] hF hS (by kernel_rfl) (by kernel_rfl) ?_ (fun a w hF hS => ?_)
        · exact obs_nil
        refine at_end [6, 7] [pl 6 (.pointer (some ⟨g2, 0, none⟩)), pl 7 (.int .i64 0)] hF rfl (by kernel_rfl) (fun hF => ?_)
        refine then_n ?_
        refine wp_ret ?_
        have hld0 := run_loadVarA (P := Try.prog) (t := 61) (cs := #[.slice A2 r4.1.length c2, .int .i64 r4.2.1, .int .i64 r4.2.2.1, .int .i64 r4.2.2.2]) (by kernel_rfl) (by kernel_rfl) ((hS.at_ 2 rfl).cellsAt 0 (by rfl))
        have hS := hS.pickN 4 [0] (by decide)
        have hm : some (r4.1, r4.2.1, r4.2.2.1, r4.2.2.2, 0) = some r := hm
        obtain rfl := Option.some.inj hm
        exact retV (rs := [.cell 6 61, .tmp 7]) (vs := [.agg #[.slice A2 r4.1.length c2, .int .i64 r4.2.1, .int .i64 r4.2.2.1, .int .i64 r4.2.2.2], .int .i64 0]) hF rfl (rv_c (by kernel_rfl) hld0 <| rv_t (by kernel_rfl) <| rv_nil) rfl ⟨_, rfl, A2, c2, rfl, hS⟩
      · refine reg [] [] [3, 6, 9, 49] [pl 3 (.pointer (some ⟨g1, 0, none⟩)), pl 6 (.pointer (some ⟨g2, 0, none⟩)), pl 9 (.pointer (some ⟨g3, 0, none⟩)), pl 49 (.bool (!r3.2.2))] hF hS Fol (by kernel_rfl) (by kernel_rfl) (by kernel_rfl) ?_ (fun a w hF hS => ?_)
        · exact obs_nil
        refine cond_ev (t := 49) (b := !r3.2.2) hF (by kernel_rfl) (fun hb => ?_) (fun hb => ?_)
        · replace hm := if_t hm hb
          refine seqR ?_
          refine at_run 1 [] [] [6, 50] [pl 6 (.pointer (some ⟨g2, 0, none⟩)), pl 50 (.agg #[.slice none 0 0, .int .i64 0, .int .i64 0, .int .i64 0])] hF hS (by kernel_rfl) (by kernel_rfl) ?_ (fun a w hF hS => ?_)
          · exact obs_nil
          obtain ⟨w, hrun, hS⟩ := run_putA (P := Try.prog) (t := 61) (us := #[.slice none 0 0, .int .i64 0, .int .i64 0, .int .i64 0]) (o := 0) (hS.at_ 2 rfl) (by kernel_rfl) (all_one (by kernel_rfl)) (Nat.le_of_ble_eq_true (by kernel_rfl))
          refine at_skip hF (by kernel_rfl) hrun ?_
          have hS : Sep w0 B w (blk g3 143 (List.toArray (([] : List Value) ++ (arr1 (Value.int .i64) (0 : Int) 26 r3.1 ++ ([.int .i64 r3.2.1] : List Value)))) :: blk g1 61 #[.slice A1 b1.length c1, .int .i64 b2, .int .i64 b3, .int .i64 b4] :: blk g2 61 #[.slice none 0 0, .int .i64 0, .int .i64 0, .int .i64 0] :: fs) := hS
          refine at_run 1 [] [] [6, 7] [pl 6 (.pointer (some ⟨g2, 0, none⟩)), pl 7 (.int .i64 8)] hF hS (by kernel_rfl) (by kernel_rfl) ?_ (fun a w hF hS => ?_)
          · exact obs_nil
          refine at_end [6, 7] [pl 6 (.pointer (some ⟨g2, 0, none⟩)), pl 7 (.int .i64 8)] hF rfl (by kernel_rfl) (fun hF => ?_)
          refine then_n ?_
          refine wp_ret ?_
          refine then_r ?_
          have hS : Sep w0 B w (own 3 (.slice none 0 0) (vI ([] : List Int)) :: blk g3 143 (List.toArray (([] : List Value) ++ (arr1 (Value.int .i64) (0 : Int) 26 r3.1 ++ ([.int .i64 r3.2.1] : List Value)))) :: blk g1 61 #[.slice A1 b1.length c1, .int .i64 b2, .int .i64 b3, .int .i64 b4] :: blk g2 61 #[.slice none 0 0, .int .i64 0, .int .i64 0, .int .i64 0] :: fs) := hS.nil 3
          have hl3 := (hS.at_ 0 rfl).len1
          have hS := (hS.at_ 0 rfl).reN hl3
          have hS : Sep w0 B w (own 3 (.slice none (([] : List Int).length) 0) (vI ([] : List Int)) :: blk g3 143 (List.toArray (([] : List Value) ++ (arr1 (Value.int .i64) (0 : Int) 26 r3.1 ++ ([.int .i64 r3.2.1] : List Value)))) :: blk g1 61 #[.slice A1 b1.length c1, .int .i64 b2, .int .i64 b3, .int .i64 b4] :: blk g2 61 #[.slice none 0 0, .int .i64 0, .int .i64 0, .int .i64 0] :: fs) := hS
          have hld0 := run_loadVarA (P := Try.prog) (t := 61) (cs := #[.slice none (([] : List Int).length) 0, .int .i64 0, .int .i64 0, .int .i64 0]) (by kernel_rfl) (by kernel_rfl) ((hS.at_ 3 rfl).cellsAt 0 (by rfl))
          have hS := hS.pickN 4 [0] (by decide)
          have hm : some (([] : List Int), 0, 0, 0, 8) = some r := hm
          obtain rfl := Option.some.inj hm
          exact retV (rs := [.cell 6 61, .tmp 7]) (vs := [.agg #[.slice none (([] : List Int).length) 0, .int .i64 0, .int .i64 0, .int .i64 0], .int .i64 8]) hF rfl (rv_c (by kernel_rfl) hld0 <| rv_t (by kernel_rfl) <| rv_nil) rfl ⟨_, rfl, none, 0, rfl, hS⟩
        · replace hm := if_f hm hb
          refine wp_skip ?_
          refine then_n ?_
          have hS := hS.pickN 3 [1, 2, 0] (by decide)
          exact ⟨hF.weak [3, 6, 9] (by kernel_rfl), hS, hm⟩
    · refine reg [] [] [1, 2, 3, 6, 8, 34] [pl 1 (.int .i64 from1), pl 2 (.int .i64 pips1), pl 3 (.pointer (some ⟨g1, 0, none⟩)), pl 6 (.pointer (some ⟨g2, 0, none⟩)), pl 8 (.int .i64 from1), pl 34 (.bool (from1 == 0))] hF hS Fol (by kernel_rfl) (by kernel_rfl) (by kernel_rfl) ?_ (fun a w hF hS => ?_)
      · exact obs_nil
      refine cond_ev (t := 34) (b := (from1 == 0)) hF (by kernel_rfl) (fun hb => ?_) (fun hb => ?_)
      · replace hm := if_t hm hb
        refine reg1 [] [] [2, 3, 6, 8] [pl 2 (.int .i64 pips1), pl 3 (.pointer (some ⟨g1, 0, none⟩)), pl 6 (.pointer (some ⟨g2, 0, none⟩)), pl 8 (.int .i64 25)] hF hS Fol (by kernel_rfl) (by kernel_rfl) (by kernel_rfl) ?_ (fun a w hF hS => ?_)
        · exact obs_nil
        refine then_n ?_
        exact ⟨25, hF.weak [2, 3, 6, 8] (by kernel_rfl), hS, hm⟩
      · replace hm := if_f hm hb
        refine reg [⟨false, [], vS (Instr.loadAt 3 (.pointer (some ⟨g1, 3, none⟩))), .int .i64 b4⟩] [none, some (.int .i64 b4), none] [1, 2, 3, 6, 8, 37] [pl 1 (.int .i64 from1), pl 2 (.int .i64 pips1), pl 3 (.pointer (some ⟨g1, 0, none⟩)), pl 6 (.pointer (some ⟨g2, 0, none⟩)), pl 8 (.int .i64 from1), pl 37 (.bool (b4 == 1))] hF hS Fol (by kernel_rfl) (by kernel_rfl) (by kernel_rfl) ?_ (fun a w hF hS => ?_)
        · exact obs_cons (ob_load Agg3 (fun _ _ hS => (hS.at_ 0 rfl).cell rfl)) <| obs_nil
        refine cond_ev (t := 37) (b := (b4 == 1)) hF (by kernel_rfl) (fun hb => ?_) (fun hb => ?_)
        · replace hm := if_t hm hb
          refine reg1 [] [] [2, 3, 6, 8] [pl 2 (.int .i64 pips1), pl 3 (.pointer (some ⟨g1, 0, none⟩)), pl 6 (.pointer (some ⟨g2, 0, none⟩)), pl 8 (.int .i64 (w64 (25 - from1)))] hF hS Fol (by kernel_rfl) (by kernel_rfl) (by kernel_rfl) ?_ (fun a w hF hS => ?_)
          · exact obs_nil
          refine then_n ?_
          exact ⟨(w64 (25 - from1)), hF.weak [2, 3, 6, 8] (by kernel_rfl), hS, hm⟩
        · replace hm := if_f hm hb
          refine wp_skip ?_
          refine then_n ?_
          exact ⟨from1, hF.weak [2, 3, 6, 8] (by kernel_rfl), hS, hm⟩
  · refine wp_block ?_
    obtain ⟨r1, hr1, hm⟩ := call_b hm
    refine reg [⟨false, [], vS (Instr.loadAt 61 (.pointer (some ⟨g1, 0, none⟩))), .agg #[.slice A1 b1.length c1, .int .i64 b2, .int .i64 b3, .int .i64 b4]⟩, ⟨false, [], callFunc 40 #[.agg #[.slice A1 b1.length c1, .int .i64 b2, .int .i64 b3, .int .i64 b4]], .bool r1⟩] [some (.agg #[.slice A1 b1.length c1, .int .i64 b2, .int .i64 b3, .int .i64 b4]), some (.bool r1), none, none] [1, 2, 3, 6, 11] [pl 1 (.int .i64 from1), pl 2 (.int .i64 pips1), pl 3 (.pointer (some ⟨g1, 0, none⟩)), pl 6 (.pointer (some ⟨g2, 0, none⟩)), pl 11 (.bool (!r1))] hF hS Fol (by kernel_rfl) (by kernel_rfl) (by kernel_rfl) ?_ (fun a w hF hS => ?_)
    · exact obs_cons (ob_loadA (cs := #[.slice A1 b1.length c1, .int .i64 b2, .int .i64 b3, .int .i64 b4]) (by kernel_rfl) (by kernel_rfl) (fun _ _ hS => (hS.at_ 1 rfl).cellsAt 0 (by rfl))) <| obs_cons (ob_call Try.func40 (by kernel_rfl) rfl (fun _ _ hS => gammon_May_w hr1 hS (fun _ hS => (hr_b1 _ (hS.dropN 2))) _hc_b1 rfl)) <| obs_nil
    refine cond_ev (t := 11) (b := !r1) hF (by kernel_rfl) (fun hb => ?_) (fun hb => ?_)
    · replace hm := if_t hm hb
      refine seqR ?_
      refine at_run 1 [] [] [6, 15] [pl 6 (.pointer (some ⟨g2, 0, none⟩)), pl 15 (.agg #[.slice none 0 0, .int .i64 0, .int .i64 0, .int .i64 0])] hF hS (by kernel_rfl) (by kernel_rfl) ?_ (fun a w hF hS => ?_)
      · exact obs_nil
      obtain ⟨w, hrun, hS⟩ := run_putA (P := Try.prog) (t := 61) (us := #[.slice none 0 0, .int .i64 0, .int .i64 0, .int .i64 0]) (o := 0) (hS.at_ 0 rfl) (by kernel_rfl) (all_one (by kernel_rfl)) (Nat.le_of_ble_eq_true (by kernel_rfl))
      refine at_skip hF (by kernel_rfl) hrun ?_
      have hS : Sep w0 B w (blk g2 61 #[.slice none 0 0, .int .i64 0, .int .i64 0, .int .i64 0] :: blk g1 61 #[.slice A1 b1.length c1, .int .i64 b2, .int .i64 b3, .int .i64 b4] :: fs) := hS
      refine at_run 1 [] [] [6, 7] [pl 6 (.pointer (some ⟨g2, 0, none⟩)), pl 7 (.int .i64 12)] hF hS (by kernel_rfl) (by kernel_rfl) ?_ (fun a w hF hS => ?_)
      · exact obs_nil
      refine at_end [6, 7] [pl 6 (.pointer (some ⟨g2, 0, none⟩)), pl 7 (.int .i64 12)] hF rfl (by kernel_rfl) (fun hF => ?_)
      refine then_n ?_
      refine wp_ret ?_
      refine block_r (then_r ?_)
      have hS : Sep w0 B w (own 3 (.slice none 0 0) (vI ([] : List Int)) :: blk g2 61 #[.slice none 0 0, .int .i64 0, .int .i64 0, .int .i64 0] :: blk g1 61 #[.slice A1 b1.length c1, .int .i64 b2, .int .i64 b3, .int .i64 b4] :: fs) := hS.nil 3
      have hl1 := (hS.at_ 0 rfl).len1
      have hS := (hS.at_ 0 rfl).reN hl1
      have hS : Sep w0 B w (own 3 (.slice none (([] : List Int).length) 0) (vI ([] : List Int)) :: blk g2 61 #[.slice none 0 0, .int .i64 0, .int .i64 0, .int .i64 0] :: blk g1 61 #[.slice A1 b1.length c1, .int .i64 b2, .int .i64 b3, .int .i64 b4] :: fs) := hS
      have hld0 := run_loadVarA (P := Try.prog) (t := 61) (cs := #[.slice none (([] : List Int).length) 0, .int .i64 0, .int .i64 0, .int .i64 0]) (by kernel_rfl) (by kernel_rfl) ((hS.at_ 1 rfl).cellsAt 0 (by rfl))
      have hS := hS.pickN 3 [0] (by decide)
      have hm : some (([] : List Int), 0, 0, 0, 12) = some r := hm
      obtain rfl := Option.some.inj hm
      exact retV (rs := [.cell 6 61, .tmp 7]) (vs := [.agg #[.slice none (([] : List Int).length) 0, .int .i64 0, .int .i64 0, .int .i64 0], .int .i64 12]) hF rfl (rv_c (by kernel_rfl) hld0 <| rv_t (by kernel_rfl) <| rv_nil) rfl ⟨_, rfl, none, 0, rfl, hS⟩
    · replace hm := if_f hm hb
      refine reg [] [] [1, 2, 3, 6, 16] [pl 1 (.int .i64 from1), pl 2 (.int .i64 pips1), pl 3 (.pointer (some ⟨g1, 0, none⟩)), pl 6 (.pointer (some ⟨g2, 0, none⟩)), pl 16 (.bool ((((decide (from1 < 0)) || (decide ((24 : Int) < from1))) || (decide (pips1 < 1))) || (decide ((6 : Int) < pips1))))] hF hS Fol (by kernel_rfl) (by kernel_rfl) (by kernel_rfl) ?_ (fun a w hF hS => ?_)
      · exact obs_nil
      refine cond_ev (t := 16) (b := (((decide (from1 < 0)) || (decide ((24 : Int) < from1))) || (decide (pips1 < 1))) || (decide ((6 : Int) < pips1))) hF (by kernel_rfl) (fun hb => ?_) (fun hb => ?_)
      · replace hm := if_t hm hb
        refine seqR ?_
        refine at_run 1 [] [] [6, 31] [pl 6 (.pointer (some ⟨g2, 0, none⟩)), pl 31 (.agg #[.slice none 0 0, .int .i64 0, .int .i64 0, .int .i64 0])] hF hS (by kernel_rfl) (by kernel_rfl) ?_ (fun a w hF hS => ?_)
        · exact obs_nil
        obtain ⟨w, hrun, hS⟩ := run_putA (P := Try.prog) (t := 61) (us := #[.slice none 0 0, .int .i64 0, .int .i64 0, .int .i64 0]) (o := 0) (hS.at_ 0 rfl) (by kernel_rfl) (all_one (by kernel_rfl)) (Nat.le_of_ble_eq_true (by kernel_rfl))
        refine at_skip hF (by kernel_rfl) hrun ?_
        have hS : Sep w0 B w (blk g2 61 #[.slice none 0 0, .int .i64 0, .int .i64 0, .int .i64 0] :: blk g1 61 #[.slice A1 b1.length c1, .int .i64 b2, .int .i64 b3, .int .i64 b4] :: fs) := hS
        refine at_run 1 [] [] [6, 7] [pl 6 (.pointer (some ⟨g2, 0, none⟩)), pl 7 (.int .i64 3)] hF hS (by kernel_rfl) (by kernel_rfl) ?_ (fun a w hF hS => ?_)
        · exact obs_nil
        refine at_end [6, 7] [pl 6 (.pointer (some ⟨g2, 0, none⟩)), pl 7 (.int .i64 3)] hF rfl (by kernel_rfl) (fun hF => ?_)
        refine then_n ?_
        refine wp_ret ?_
        refine block_r (then_r ?_)
        have hS : Sep w0 B w (own 3 (.slice none 0 0) (vI ([] : List Int)) :: blk g2 61 #[.slice none 0 0, .int .i64 0, .int .i64 0, .int .i64 0] :: blk g1 61 #[.slice A1 b1.length c1, .int .i64 b2, .int .i64 b3, .int .i64 b4] :: fs) := hS.nil 3
        have hl2 := (hS.at_ 0 rfl).len1
        have hS := (hS.at_ 0 rfl).reN hl2
        have hS : Sep w0 B w (own 3 (.slice none (([] : List Int).length) 0) (vI ([] : List Int)) :: blk g2 61 #[.slice none 0 0, .int .i64 0, .int .i64 0, .int .i64 0] :: blk g1 61 #[.slice A1 b1.length c1, .int .i64 b2, .int .i64 b3, .int .i64 b4] :: fs) := hS
        have hld0 := run_loadVarA (P := Try.prog) (t := 61) (cs := #[.slice none (([] : List Int).length) 0, .int .i64 0, .int .i64 0, .int .i64 0]) (by kernel_rfl) (by kernel_rfl) ((hS.at_ 1 rfl).cellsAt 0 (by rfl))
        have hS := hS.pickN 3 [0] (by decide)
        have hm : some (([] : List Int), 0, 0, 0, 3) = some r := hm
        obtain rfl := Option.some.inj hm
        exact retV (rs := [.cell 6 61, .tmp 7]) (vs := [.agg #[.slice none (([] : List Int).length) 0, .int .i64 0, .int .i64 0, .int .i64 0], .int .i64 3]) hF rfl (rv_c (by kernel_rfl) hld0 <| rv_t (by kernel_rfl) <| rv_nil) rfl ⟨_, rfl, none, 0, rfl, hS⟩
      · replace hm := if_f hm hb
        refine wp_skip ?_
        refine block_n ?_
        refine then_n ?_
        have hS := hS.pickN 2 [1, 0] (by decide)
        exact ⟨hF.weak [1, 2, 3, 6] (by kernel_rfl), hS, hm⟩

noncomputable def gameroomref_within_m (n1 : Int) (low1 : Int) (high1 : Int) : Option Bool :=
  some ((decide (low1 ≤ n1)) && (decide (n1 ≤ high1)))

set_option maxRecDepth 100000 in
set_option maxHeartbeats 4000000 in
theorem gameroomref_within_w {n1 : Int} {low1 : Int} {high1 : Int} {r : Bool} {w0 w : World} {B : Nat} {fs : List HP} (hm : gameroomref_within_m n1 low1 high1 = some r) (hS : Sep w0 B w (fs)) :
    Calls Try.prog 90 #[.int .i64 n1, .int .i64 low1, .int .i64 high1] w fun e w' => e = .returned (.bool r) ∧ Sep w0 B w' (fs) := by
  unfold gameroomref_within_m at hm
  replace hm := start_b hm
  refine enter (l := [.int .i64 n1, .int .i64 low1, .int .i64 high1]) (n := 15) Try.func90 rfl rfl (by simp) (fun a hF => ?_)
  refine reg [] [] [0, 1, 2] [pl 0 (.int .i64 n1), pl 1 (.int .i64 low1), pl 2 (.int .i64 high1)] hF hS Fol (by kernel_rfl) (by kernel_rfl) (by kernel_rfl) ?_ (fun a w hF hS => ?_)
  · exact obs_nil
  refine reg [] [] [6] [pl 6 (.bool ((decide (low1 ≤ n1)) && (decide (n1 ≤ high1))))] hF hS Fol (by kernel_rfl) (by kernel_rfl) (by kernel_rfl) ?_ (fun a w hF hS => ?_)
  · exact obs_nil
  refine wp_ret ?_
  have hm : some ((decide (low1 ≤ n1)) && (decide (n1 ≤ high1))) = some r := hm
  obtain rfl := Option.some.inj hm
  exact retV (rs := [.tmp 6]) (vs := [.bool ((decide (low1 ≤ n1)) && (decide (n1 ≤ high1)))]) hF rfl (rv_t (by kernel_rfl) <| rv_nil) rfl ⟨rfl, hS⟩

noncomputable def gameroomref_GammonMay_J4 (i1 : Int) (white3 : Int) (black3 : Int) : Option (St (Int × Int × Int) (Fl (Int × Int) Bool)) :=
  some (.next (white3, black3, (w64 (i1 + 1))))

noncomputable def gameroomref_GammonMay_J5 (b1 : List Int) (white1 : Int) (black1 : Int) (i1 : Int) : Option (St (Int × Int × Int) (Fl (Int × Int) Bool)) :=
  if (decide ((0 : Int) < (geti b1 i1))) then ((gameroomref_GammonMay_J4 i1) (w64 (white1 + (geti b1 i1))) black1) else ((gameroomref_GammonMay_J4 i1) white1 (w64 (black1 - (geti b1 i1))))

noncomputable def gameroomref_GammonMay_J3 (b1 : List Int) (white1 : Int) (black1 : Int) (i1 : Int) : Option (St (Int × Int × Int) (Fl (Int × Int) Bool)) :=
  asrt (0 ≤ i1 ∧ i1 < (b1.length : Int)) <| (gameroomref_within_m (geti b1 i1) (-15) 15).bind fun r4 => if (!r4) then (some (.done (.ret false))) else ((gameroomref_GammonMay_J5 b1 white1 black1 i1))

noncomputable def gameroomref_GammonMay_J2 (white2 : Int) (black2 : Int) : Option Bool :=
  some ((decide (white2 ≤ 15)) && (decide (black2 ≤ 15)))

noncomputable def gameroomref_GammonMay_K1 : (Fl (Int × Int) Bool) → Option Bool :=
  fun (x : (Fl (Int × Int) Bool)) => match x with | .go (white2, black2) => gameroomref_GammonMay_J2 white2 black2 | .ret x => some x

noncomputable def gameroomref_GammonMay_L1 (b1 : List Int) : (Int × Int × Int) → Option (St (Int × Int × Int) (Fl (Int × Int) Bool)) :=
  fun (x : (Int × Int × Int)) => match x with | (white1, black1, i1) => if (decide (i1 < 25)) then ((gameroomref_GammonMay_J3 b1 white1 black1 i1)) else (some (.done (.go (white1, black1))))

noncomputable def gameroomref_GammonMay_J1 (b1 : List Int) (b2 : Int) (b3 : Int) : Option Bool :=
  (loop (gameroomref_GammonMay_L1 b1) (b2, b3, 1)).bind gameroomref_GammonMay_K1

noncomputable def gameroomref_GammonMay_m (b1 : List Int) (b2 : Int) (b3 : Int) (b4 : Int) : Option Bool :=
  asrt (((b1.length : Int) != 26) = false → 0 ≤ (0 : Int) ∧ (0 : Int) < (b1.length : Int)) <| asrt ((((b1.length : Int) != 26) || ((geti b1 0) != 0)) = false → 0 ≤ (25 : Int) ∧ (25 : Int) < (b1.length : Int)) <| ((if (!((((b1.length : Int) != 26) || ((geti b1 0) != 0)) || ((geti b1 25) != 0))) then gameroomref_within_m b2 0 15 else some false)).bind fun r1 => ((if (!(((((b1.length : Int) != 26) || ((geti b1 0) != 0)) || ((geti b1 25) != 0)) || (!r1))) then gameroomref_within_m b3 0 15 else some false)).bind fun r2 => ((if (!((((((b1.length : Int) != 26) || ((geti b1 0) != 0)) || ((geti b1 25) != 0)) || (!r1)) || (!r2))) then gameroomref_within_m b4 0 1 else some false)).bind fun r3 => if (((((((b1.length : Int) != 26) || ((geti b1 0) != 0)) || ((geti b1 25) != 0)) || (!r1)) || (!r2)) || (!r3)) then (some false) else ((gameroomref_GammonMay_J1 b1 b2 b3))

set_option maxRecDepth 100000 in
set_option maxHeartbeats 4000000 in
theorem gameroomref_GammonMay_w {A1 : Option Addr} {c1 : Nat} {n1 : Nat} {b1 : List Int} {b2 : Int} {b3 : Int} {b4 : Int} {r : Bool} {w0 w : World} {B : Nat} {fs : List HP} (hm : gameroomref_GammonMay_m b1 b2 b3 b4 = some r) (hS : Sep w0 B w (fs)) (hr_b1 : RdF w0 B fs A1 (vI b1)) (_hc_b1 : b1.length ≤ c1) (_hn_b1 : n1 = b1.length) :
    Calls Try.prog 43 #[.agg #[.slice A1 n1 c1, .int .i64 b2, .int .i64 b3, .int .i64 b4]] w fun e w' => e = .returned (.bool r) ∧ Sep w0 B w' (fs) := by
  obtain ⟨i3, hi3, hz3, hs3, hb3⟩ := info_parts Info3
  obtain rfl := _hn_b1
  unfold gameroomref_GammonMay_m at hm
  replace hm := start_b hm
  refine enter (l := [.agg #[.slice A1 b1.length c1, .int .i64 b2, .int .i64 b3, .int .i64 b4]]) (n := 73) Try.func43 rfl rfl (by simp) (fun a hF => ?_)
  refine seqR ?_
  refine at_do (d := 1) (s := vS (Instr.box 61 (.agg #[.slice A1 b1.length c1, .int .i64 b2, .int .i64 b3, .int .i64 b4]))) (v := .pointer (some ⟨w.heap.size, 0, none⟩)) (w' := w.alloc (.cells #[.slice A1 b1.length c1, .int .i64 b2, .int .i64 b3, .int .i64 b4] 61)) hF (by kernel_rfl) (by kernel_rfl) (by kernel_rfl) (fun a hF => ?_)
  have hS : Sep w0 B (w.alloc (.cells #[.slice A1 b1.length c1, .int .i64 b2, .int .i64 b3, .int .i64 b4] 61)) (blk w.heap.size 61 #[.slice A1 b1.length c1, .int .i64 b2, .int .i64 b3, .int .i64 b4] :: (fs)) := hS.box 61 #[.slice A1 b1.length c1, .int .i64 b2, .int .i64 b3, .int .i64 b4]
  generalize w.heap.size = g1 at hF hS
  generalize w.alloc (.cells #[.slice A1 b1.length c1, .int .i64 b2, .int .i64 b3, .int .i64 b4] 61) = w at hS ⊢
  refine at_run 1 [] [] [1] [pl 1 (.pointer (some ⟨g1, 0, none⟩))] hF hS (by kernel_rfl) (by kernel_rfl) ?_ (fun a w hF hS => ?_)
  · exact obs_nil
  refine at_end [1] [pl 1 (.pointer (some ⟨g1, 0, none⟩))] hF rfl (by kernel_rfl) (fun hF => ?_)
  refine then_n ?_
  refine seq_cut (fun a w => Fr 73 [pl 1 (.pointer (some ⟨g1, 0, none⟩))] a ∧ Sep w0 B w (blk g1 61 #[.slice A1 b1.length c1, .int .i64 b2, .int .i64 b3, .int .i64 b4] :: fs) ∧ ((gameroomref_GammonMay_J1 b1 b2 b3)).bind some = some r) ?_ ?_
  · rintro a w ⟨hF, hS, hm⟩
    unfold gameroomref_GammonMay_J1 at hm
    refine reg [⟨false, [], vS (Instr.loadAt 3 (.pointer (some ⟨g1, 1, none⟩))), .int .i64 b2⟩, ⟨false, [], vS (Instr.loadAt 3 (.pointer (some ⟨g1, 2, none⟩))), .int .i64 b3⟩] [none, some (.int .i64 b2), none, some (.int .i64 b3), none, none] [1, 3, 4] [pl 1 (.pointer (some ⟨g1, 0, none⟩)), pl 3 (.int .i64 b2), pl 4 (.int .i64 b3)] hF hS Fol (by kernel_rfl) (by kernel_rfl) (by kernel_rfl) ?_ (fun a w hF hS => ?_)
    · exact obs_cons (ob_load Agg3 (fun _ _ hS => (hS.at_ 0 rfl).cell rfl)) <| obs_cons (ob_load Agg3 (fun _ _ hS => (hS.at_ 0 rfl).cell rfl)) <| obs_nil
    refine seq_cut (fun a w => ∃ (white2 : Int) (black2 : Int), Fr 73 [pl 3 (.int .i64 white2), pl 4 (.int .i64 black2)] a ∧ Sep w0 B w (fs) ∧ (gameroomref_GammonMay_J2 white2 black2).bind some = some r) ?_ ?_
    · rintro a w ⟨white2, black2, hF, hS, hm⟩
      unfold gameroomref_GammonMay_J2 at hm
      refine reg [] [] [2] [pl 2 (.bool ((decide (white2 ≤ 15)) && (decide (black2 ≤ 15))))] hF hS Fol (by kernel_rfl) (by kernel_rfl) (by kernel_rfl) ?_ (fun a w hF hS => ?_)
      · exact obs_nil
      refine wp_ret ?_
      have hm : some ((decide (white2 ≤ 15)) && (decide (black2 ≤ 15))) = some r := hm
      obtain rfl := Option.some.inj hm
      exact retV (rs := [.tmp 2]) (vs := [.bool ((decide (white2 ≤ 15)) && (decide (black2 ≤ 15)))]) hF rfl (rv_t (by kernel_rfl) <| rv_nil) rfl ⟨rfl, hS⟩
    · refine reg [] [] [1, 3, 4, 5] [pl 1 (.pointer (some ⟨g1, 0, none⟩)), pl 3 (.int .i64 b2), pl 4 (.int .i64 b3), pl 5 (.int .i64 1)] hF hS Fol (by kernel_rfl) (by kernel_rfl) (by kernel_rfl) ?_ (fun a w hF hS => ?_)
      · exact obs_nil
      refine wp_block ?_
      refine wp_loop_model (S := (Int × Int × Int)) (R := (Fl (Int × Int) Bool)) (gameroomref_GammonMay_L1 b1) (fun x => (gameroomref_GammonMay_K1 x).bind some) r (fun (x : (Int × Int × Int)) a w => Fr 73 [pl 1 (.pointer (some ⟨g1, 0, none⟩)), pl 3 (.int .i64 x.1), pl 4 (.int .i64 x.2.1), pl 5 (.int .i64 x.2.2)] a ∧ Sep w0 B w (blk g1 61 #[.slice A1 b1.length c1, .int .i64 b2, .int .i64 b3, .int .i64 b4] :: fs)) (assoc_b hm) ⟨hF.weak [1, 3, 4, 5] (by kernel_rfl), hS⟩ ?_
      clear hF hS hm
      rintro nn1 ⟨white1, black1, i1⟩ a w ⟨hF, hS⟩ hm
      generalize hφ1 : stK (gameroomref_GammonMay_L1 b1) nn1 (fun x => (gameroomref_GammonMay_K1 x).bind some) = φ1 at hm
      unfold gameroomref_GammonMay_L1 at hm
      dsimp only at hF hS hm
      refine seq_cut (fun a w => Fr 73 [pl 1 (.pointer (some ⟨g1, 0, none⟩)), pl 3 (.int .i64 white1), pl 4 (.int .i64 black1), pl 5 (.int .i64 i1)] a ∧ Sep w0 B w (blk g1 61 #[.slice A1 b1.length c1, .int .i64 b2, .int .i64 b3, .int .i64 b4] :: fs) ∧ ((gameroomref_GammonMay_J3 b1 white1 black1 i1)).bind φ1 = some r) ?_ ?_
      · rintro a w ⟨hF, hS, hm⟩
        unfold gameroomref_GammonMay_J3 at hm
        refine seq_cut (fun a w => ∃ (white3 : Int) (black3 : Int), Fr 73 [pl 1 (.pointer (some ⟨g1, 0, none⟩)), pl 3 (.int .i64 white3), pl 4 (.int .i64 black3), pl 5 (.int .i64 i1)] a ∧ Sep w0 B w (blk g1 61 #[.slice A1 b1.length c1, .int .i64 b2, .int .i64 b3, .int .i64 b4] :: fs) ∧ ((gameroomref_GammonMay_J4 i1) white3 black3).bind φ1 = some r) ?_ ?_
        · rintro a w ⟨white3, black3, hF, hS, hm⟩
          unfold gameroomref_GammonMay_J4 at hm
          refine reg1 [] [] [1, 3, 4, 5] [pl 1 (.pointer (some ⟨g1, 0, none⟩)), pl 3 (.int .i64 white3), pl 4 (.int .i64 black3), pl 5 (.int .i64 (w64 (i1 + 1)))] hF hS Fol (by kernel_rfl) (by kernel_rfl) (by kernel_rfl) ?_ (fun a w hF hS => ?_)
          · exact obs_nil
          refine then_n ?_
          rw [← hφ1] at hm
          exact ⟨(white3, black3, (w64 (i1 + 1))), ⟨hF.weak [1, 3, 4, 5] (by kernel_rfl), hS⟩, hm⟩
        · refine wp_block ?_
          obtain ⟨hp3, hm⟩ := asrt_b hm
          refine reg [⟨false, [], vS (Instr.loadAt 40 (.pointer (some ⟨g1, 0, none⟩))), .slice A1 b1.length c1⟩, ⟨true, [], vS (Instr.indexAt 40 (.slice A1 b1.length c1) (.int .i64 i1)), .pointer (some (sAddr A1 i1))⟩, ⟨false, [], vS (Instr.loadAt 3 (.pointer (some (sAddr A1 i1)))), .int .i64 (geti b1 i1)⟩] [none, some (.slice A1 b1.length c1), none, some (.pointer (some (sAddr A1 i1))), some (.int .i64 (geti b1 i1)), none] [1, 3, 4, 5, 6] [pl 1 (.pointer (some ⟨g1, 0, none⟩)), pl 3 (.int .i64 white1), pl 4 (.int .i64 black1), pl 5 (.int .i64 i1), pl 6 (.int .i64 (geti b1 i1))] hF hS Fol (by kernel_rfl) (by kernel_rfl) (by kernel_rfl) ?_ (fun a w hF hS => ?_)
          · exact obs_cons (ob_load Agg40 (fun _ _ hS => (hS.at_ 0 rfl).cell rfl)) <| obs_cons (ob_ix1 (f := (Value.int .i64)) (m := b1) Und40 hi3 hs3 (hr_b1 _ (hS.dropN 1)) rfl (fun _ => hp3)) <| obs_cons (ob_get1 (n := b1.length) (m := b1) (Value.int .i64) (0 : Int) Agg3 (fun _ hS => ⟨_, (hr_b1 _ (hS.dropN 1))⟩) (fun _ hS => rfl) (fun _ => hp3)) <| obs_nil
          refine seq_cut (fun a w => Fr 73 [pl 1 (.pointer (some ⟨g1, 0, none⟩)), pl 3 (.int .i64 white1), pl 4 (.int .i64 black1), pl 5 (.int .i64 i1), pl 6 (.int .i64 (geti b1 i1))] a ∧ Sep w0 B w (blk g1 61 #[.slice A1 b1.length c1, .int .i64 b2, .int .i64 b3, .int .i64 b4] :: fs) ∧ ((gameroomref_GammonMay_J5 b1 white1 black1 i1)).bind φ1 = some r) ?_ ?_
          · rintro a w ⟨hF, hS, hm⟩
            unfold gameroomref_GammonMay_J5 at hm
            refine reg [] [] [1, 3, 4, 5, 6, 60] [pl 1 (.pointer (some ⟨g1, 0, none⟩)), pl 3 (.int .i64 white1), pl 4 (.int .i64 black1), pl 5 (.int .i64 i1), pl 6 (.int .i64 (geti b1 i1)), pl 60 (.bool (decide ((0 : Int) < (geti b1 i1))))] hF hS Fol (by kernel_rfl) (by kernel_rfl) (by kernel_rfl) ?_ (fun a w hF hS => ?_)
            · exact obs_nil
            refine cond_ev (t := 60) (b := decide ((0 : Int) < (geti b1 i1))) hF (by kernel_rfl) (fun hb => ?_) (fun hb => ?_)
            · replace hm := if_t hm hb
              refine reg1 [] [] [1, 3, 4, 5] [pl 1 (.pointer (some ⟨g1, 0, none⟩)), pl 3 (.int .i64 (w64 (white1 + (geti b1 i1)))), pl 4 (.int .i64 black1), pl 5 (.int .i64 i1)] hF hS Fol (by kernel_rfl) (by kernel_rfl) (by kernel_rfl) ?_ (fun a w hF hS => ?_)
              · exact obs_nil
              refine block_n ?_
              refine then_n ?_
              exact ⟨(w64 (white1 + (geti b1 i1))), black1, hF.weak [1, 3, 4, 5] (by kernel_rfl), hS, hm⟩
            · replace hm := if_f hm hb
              refine reg1 [] [] [1, 3, 4, 5] [pl 1 (.pointer (some ⟨g1, 0, none⟩)), pl 3 (.int .i64 white1), pl 4 (.int .i64 (w64 (black1 - (geti b1 i1)))), pl 5 (.int .i64 i1)] hF hS Fol (by kernel_rfl) (by kernel_rfl) (by kernel_rfl) ?_ (fun a w hF hS => ?_)
              · exact obs_nil
              refine block_n ?_
              refine then_n ?_
              exact ⟨white1, (w64 (black1 - (geti b1 i1))), hF.weak [1, 3, 4, 5] (by kernel_rfl), hS, hm⟩
          · obtain ⟨r4, hr4, hm⟩ := call_b hm
            refine reg [⟨false, [], callFunc 90 #[.int .i64 (geti b1 i1), .int .i64 (-15), .int .i64 15], .bool r4⟩] [none, some (.bool r4), none] [1, 3, 4, 5, 6, 58] [pl 1 (.pointer (some ⟨g1, 0, none⟩)), pl 3 (.int .i64 white1), pl 4 (.int .i64 black1), pl 5 (.int .i64 i1), pl 6 (.int .i64 (geti b1 i1)), pl 58 (.bool (!r4))] hF hS Fol (by kernel_rfl) (by kernel_rfl) (by kernel_rfl) ?_ (fun a w hF hS => ?_)
            · exact obs_cons (ob_call Try.func90 (by kernel_rfl) rfl (fun _ _ hS => gameroomref_within_w hr4 hS )) <| obs_nil
            refine cond_ev (t := 58) (b := !r4) hF (by kernel_rfl) (fun hb => ?_) (fun hb => ?_)
            · replace hm := if_t hm hb
              refine reg [] [] [2] [pl 2 (.bool false)] hF hS Fol (by kernel_rfl) (by kernel_rfl) (by kernel_rfl) ?_ (fun a w hF hS => ?_)
              · exact obs_nil
              refine wp_ret ?_
              refine then_r (block_r (then_r (then_r (block_r (then_r ?_)))))
              rw [← hφ1] at hm
              replace hm := done_b hm
              unfold gameroomref_GammonMay_K1 at hm
              try dsimp only at hm
              have hS := hS.pickN 1 [] (by decide)
              have hm : some false = some r := hm
              obtain rfl := Option.some.inj hm
              exact retV (rs := [.tmp 2]) (vs := [.bool false]) hF rfl (rv_t (by kernel_rfl) <| rv_nil) rfl ⟨rfl, hS⟩
            · replace hm := if_f hm hb
              refine wp_skip ?_
              refine then_n ?_
              exact ⟨hF.weak [1, 3, 4, 5, 6] (by kernel_rfl), hS, hm⟩
      · refine reg [] [] [1, 3, 4, 5, 48] [pl 1 (.pointer (some ⟨g1, 0, none⟩)), pl 3 (.int .i64 white1), pl 4 (.int .i64 black1), pl 5 (.int .i64 i1), pl 48 (.bool (decide (i1 < 25)))] hF hS Fol (by kernel_rfl) (by kernel_rfl) (by kernel_rfl) ?_ (fun a w hF hS => ?_)
        · exact obs_nil
        refine cond_ev (t := 48) (b := decide (i1 < 25)) hF (by kernel_rfl) (fun hb => ?_) (fun hb => ?_)
        · replace hm := if_t hm hb
          refine wp_skip ?_
          refine then_n ?_
          exact ⟨hF.weak [1, 3, 4, 5] (by kernel_rfl), hS, hm⟩
        · replace hm := if_f hm hb
          refine wp_exit ?_
          refine then_e (then_e (block_e (then_n ?_)))
          have hS := hS.pickN 1 [] (by decide)
          rw [← hφ1] at hm
          replace hm := done_b hm
          unfold gameroomref_GammonMay_K1 at hm
          try dsimp only at hm
          have hm : (gameroomref_GammonMay_J2 white1 black1).bind some = some r := hm
          exact ⟨white1, black1, hF.weak [3, 4] (by kernel_rfl), hS, hm⟩
  · obtain ⟨hp1, hm⟩ := asrt_b hm
    obtain ⟨hp2, hm⟩ := asrt_b hm
    obtain ⟨r1, hr1, hm⟩ := call_b hm
    obtain ⟨r2, hr2, hm⟩ := call_b hm
    obtain ⟨r3, hr3, hm⟩ := call_b hm
    refine reg [⟨false, [], vS (Instr.loadAt 40 (.pointer (some ⟨g1, 0, none⟩))), .slice A1 b1.length c1⟩, ⟨false, [(((b1.length : Int) != 26), false)], vS (Instr.loadAt 40 (.pointer (some ⟨g1, 0, none⟩))), .slice A1 b1.length c1⟩, ⟨true, [(((b1.length : Int) != 26), false)], vS (Instr.indexAt 40 (.slice A1 b1.length c1) (.int .i64 0)), .pointer (some (sAddr A1 0))⟩, ⟨false, [(((b1.length : Int) != 26), false)], vS (Instr.loadAt 3 (.pointer (some (sAddr A1 0)))), .int .i64 (geti b1 0)⟩, ⟨false, [(((b1.length : Int) != 26) || ((geti b1 0) != 0), false)], vS (Instr.loadAt 40 (.pointer (some ⟨g1, 0, none⟩))), .slice A1 b1.length c1⟩, ⟨true, [(((b1.length : Int) != 26) || ((geti b1 0) != 0), false)], vS (Instr.indexAt 40 (.slice A1 b1.length c1) (.int .i64 25)), .pointer (some (sAddr A1 25))⟩, ⟨false, [(((b1.length : Int) != 26) || ((geti b1 0) != 0), false)], vS (Instr.loadAt 3 (.pointer (some (sAddr A1 25)))), .int .i64 (geti b1 25)⟩, ⟨false, [((((b1.length : Int) != 26) || ((geti b1 0) != 0)) || ((geti b1 25) != 0), false)], vS (Instr.loadAt 3 (.pointer (some ⟨g1, 1, none⟩))), .int .i64 b2⟩, ⟨false, [((((b1.length : Int) != 26) || ((geti b1 0) != 0)) || ((geti b1 25) != 0), false)], callFunc 90 #[.int .i64 b2, .int .i64 0, .int .i64 15], .bool r1⟩, ⟨false, [(((((b1.length : Int) != 26) || ((geti b1 0) != 0)) || ((geti b1 25) != 0)) || (!r1), false)], vS (Instr.loadAt 3 (.pointer (some ⟨g1, 2, none⟩))), .int .i64 b3⟩, ⟨false, [(((((b1.length : Int) != 26) || ((geti b1 0) != 0)) || ((geti b1 25) != 0)) || (!r1), false)], callFunc 90 #[.int .i64 b3, .int .i64 0, .int .i64 15], .bool r2⟩, ⟨false, [((((((b1.length : Int) != 26) || ((geti b1 0) != 0)) || ((geti b1 25) != 0)) || (!r1)) || (!r2), false)], vS (Instr.loadAt 3 (.pointer (some ⟨g1, 3, none⟩))), .int .i64 b4⟩, ⟨false, [((((((b1.length : Int) != 26) || ((geti b1 0) != 0)) || ((geti b1 25) != 0)) || (!r1)) || (!r2), false)], callFunc 90 #[.int .i64 b4, .int .i64 0, .int .i64 1], .bool r3⟩] [none, some (.slice A1 b1.length c1), none, none, none, none, some (.slice A1 b1.length c1), some (.pointer (some (sAddr A1 0))), some (.int .i64 (geti b1 0)), none, none, none, none, some (.slice A1 b1.length c1), some (.pointer (some (sAddr A1 25))), some (.int .i64 (geti b1 25)), none, none, none, none, some (.int .i64 b2), some (.bool r1), none, none, none, none, some (.int .i64 b3), some (.bool r2), none, none, none, none, some (.int .i64 b4), some (.bool r3), none, none] [1, 42] [pl 1 (.pointer (some ⟨g1, 0, none⟩)), pl 42 (.bool (((((((b1.length : Int) != 26) || ((geti b1 0) != 0)) || ((geti b1 25) != 0)) || (!r1)) || (!r2)) || (!r3)))] hF hS Fol (by kernel_rfl) (by kernel_rfl) (by kernel_rfl) ?_ (fun a w hF hS => ?_)
    · exact obs_cons (ob_load Agg40 (fun _ _ hS => (hS.at_ 0 rfl).cell rfl)) <| obs_cons (ob_load Agg40 (fun _ _ hS => (hS.at_ 0 rfl).cell rfl)) <| obs_cons (ob_ix1 (f := (Value.int .i64)) (m := b1) Und40 hi3 hs3 (hr_b1 _ (hS.dropN 1)) rfl (fun hy => hp1 (hy (((b1.length : Int) != 26), false) (by simp)))) <| obs_cons (ob_get1 (n := b1.length) (m := b1) (Value.int .i64) (0 : Int) Agg3 (fun _ hS => ⟨_, (hr_b1 _ (hS.dropN 1))⟩) (fun _ hS => rfl) (fun hy => hp1 (hy (((b1.length : Int) != 26), false) (by simp)))) <| obs_cons (ob_load Agg40 (fun _ _ hS => (hS.at_ 0 rfl).cell rfl)) <| obs_cons (ob_ix1 (f := (Value.int .i64)) (m := b1) Und40 hi3 hs3 (hr_b1 _ (hS.dropN 1)) rfl (fun hy => hp2 (hy (((b1.length : Int) != 26) || ((geti b1 0) != 0), false) (by simp)))) <| obs_cons (ob_get1 (n := b1.length) (m := b1) (Value.int .i64) (0 : Int) Agg3 (fun _ hS => ⟨_, (hr_b1 _ (hS.dropN 1))⟩) (fun _ hS => rfl) (fun hy => hp2 (hy (((b1.length : Int) != 26) || ((geti b1 0) != 0), false) (by simp)))) <| obs_cons (ob_load Agg3 (fun _ _ hS => (hS.at_ 0 rfl).cell rfl)) <| obs_cons (ob_call Try.func90 (by kernel_rfl) rfl (fun hy _ hS => gameroomref_within_w (ite_some hr1 (by rw [show ((((b1.length : Int) != 26) || ((geti b1 0) != 0)) || ((geti b1 25) != 0)) = false from hy ((((b1.length : Int) != 26) || ((geti b1 0) != 0)) || ((geti b1 25) != 0), false) (by simp)]; try rfl)) hS )) <| obs_cons (ob_load Agg3 (fun _ _ hS => (hS.at_ 0 rfl).cell rfl)) <| obs_cons (ob_call Try.func90 (by kernel_rfl) rfl (fun hy _ hS => gameroomref_within_w (ite_some hr2 (by rw [show (((((b1.length : Int) != 26) || ((geti b1 0) != 0)) || ((geti b1 25) != 0)) || (!r1)) = false from hy (((((b1.length : Int) != 26) || ((geti b1 0) != 0)) || ((geti b1 25) != 0)) || (!r1), false) (by simp)]; try rfl)) hS )) <| obs_cons (ob_load Agg3 (fun _ _ hS => (hS.at_ 0 rfl).cell rfl)) <| obs_cons (ob_call Try.func90 (by kernel_rfl) rfl (fun hy _ hS => gameroomref_within_w (ite_some hr3 (by rw [show ((((((b1.length : Int) != 26) || ((geti b1 0) != 0)) || ((geti b1 25) != 0)) || (!r1)) || (!r2)) = false from hy ((((((b1.length : Int) != 26) || ((geti b1 0) != 0)) || ((geti b1 25) != 0)) || (!r1)) || (!r2), false) (by simp)]; try rfl)) hS )) <| obs_nil
    refine cond_ev (t := 42) (b := ((((((b1.length : Int) != 26) || ((geti b1 0) != 0)) || ((geti b1 25) != 0)) || (!r1)) || (!r2)) || (!r3)) hF (by kernel_rfl) (fun hb => ?_) (fun hb => ?_)
    · replace hm := if_t hm hb
      refine reg [] [] [2] [pl 2 (.bool false)] hF hS Fol (by kernel_rfl) (by kernel_rfl) (by kernel_rfl) ?_ (fun a w hF hS => ?_)
      · exact obs_nil
      refine wp_ret ?_
      refine then_r ?_
      have hS := hS.pickN 1 [] (by decide)
      have hm : some false = some r := hm
      obtain rfl := Option.some.inj hm
      exact retV (rs := [.tmp 2]) (vs := [.bool false]) hF rfl (rv_t (by kernel_rfl) <| rv_nil) rfl ⟨rfl, hS⟩
    · replace hm := if_f hm hb
      refine wp_skip ?_
      refine then_n ?_
      exact ⟨hF.weak [1] (by kernel_rfl), hS, hm⟩

noncomputable def gameroomlaw_noGammon_m (b1 : List Int) (b2 : Int) (b3 : Int) (b4 : Int) : Option Bool :=
  some (((((b1.length : Int) == 0) && (b2 == 0)) && (b3 == 0)) && (b4 == 0))

set_option maxRecDepth 100000 in
set_option maxHeartbeats 4000000 in
theorem gameroomlaw_noGammon_w {A1 : Option Addr} {c1 : Nat} {n1 : Nat} {b1 : List Int} {b2 : Int} {b3 : Int} {b4 : Int} {r : Bool} {w0 w : World} {B : Nat} {fs : List HP} (hm : gameroomlaw_noGammon_m b1 b2 b3 b4 = some r) (hS : Sep w0 B w (fs)) (hr_b1 : RdF w0 B fs A1 (vI b1)) (_hc_b1 : b1.length ≤ c1) (_hn_b1 : n1 = b1.length) :
    Calls Try.prog 44 #[.agg #[.slice A1 n1 c1, .int .i64 b2, .int .i64 b3, .int .i64 b4]] w fun e w' => e = .returned (.bool r) ∧ Sep w0 B w' (fs) := by
  obtain ⟨i3, hi3, hz3, hs3, hb3⟩ := info_parts Info3
  obtain rfl := _hn_b1
  unfold gameroomlaw_noGammon_m at hm
  replace hm := start_b hm
  refine enter (l := [.agg #[.slice A1 b1.length c1, .int .i64 b2, .int .i64 b3, .int .i64 b4]]) (n := 22) Try.func44 rfl rfl (by simp) (fun a hF => ?_)
  refine seqR ?_
  refine at_do (d := 1) (s := vS (Instr.box 61 (.agg #[.slice A1 b1.length c1, .int .i64 b2, .int .i64 b3, .int .i64 b4]))) (v := .pointer (some ⟨w.heap.size, 0, none⟩)) (w' := w.alloc (.cells #[.slice A1 b1.length c1, .int .i64 b2, .int .i64 b3, .int .i64 b4] 61)) hF (by kernel_rfl) (by kernel_rfl) (by kernel_rfl) (fun a hF => ?_)
  have hS : Sep w0 B (w.alloc (.cells #[.slice A1 b1.length c1, .int .i64 b2, .int .i64 b3, .int .i64 b4] 61)) (blk w.heap.size 61 #[.slice A1 b1.length c1, .int .i64 b2, .int .i64 b3, .int .i64 b4] :: (fs)) := hS.box 61 #[.slice A1 b1.length c1, .int .i64 b2, .int .i64 b3, .int .i64 b4]
  generalize w.heap.size = g1 at hF hS
  generalize w.alloc (.cells #[.slice A1 b1.length c1, .int .i64 b2, .int .i64 b3, .int .i64 b4] 61) = w at hS ⊢
  refine at_run 1 [] [] [1] [pl 1 (.pointer (some ⟨g1, 0, none⟩))] hF hS (by kernel_rfl) (by kernel_rfl) ?_ (fun a w hF hS => ?_)
  · exact obs_nil
  refine at_end [1] [pl 1 (.pointer (some ⟨g1, 0, none⟩))] hF rfl (by kernel_rfl) (fun hF => ?_)
  refine then_n ?_
  refine reg [⟨false, [], vS (Instr.loadAt 40 (.pointer (some ⟨g1, 0, none⟩))), .slice A1 b1.length c1⟩, ⟨false, [(((b1.length : Int) == 0), true)], vS (Instr.loadAt 3 (.pointer (some ⟨g1, 1, none⟩))), .int .i64 b2⟩, ⟨false, [(((b1.length : Int) == 0) && (b2 == 0), true)], vS (Instr.loadAt 3 (.pointer (some ⟨g1, 2, none⟩))), .int .i64 b3⟩, ⟨false, [((((b1.length : Int) == 0) && (b2 == 0)) && (b3 == 0), true)], vS (Instr.loadAt 3 (.pointer (some ⟨g1, 3, none⟩))), .int .i64 b4⟩] [none, some (.slice A1 b1.length c1), none, none, none, none, some (.int .i64 b2), none, none, none, none, some (.int .i64 b3), none, none, none, none, some (.int .i64 b4), none, none, none] [2] [pl 2 (.bool (((((b1.length : Int) == 0) && (b2 == 0)) && (b3 == 0)) && (b4 == 0)))] hF hS Fol (by kernel_rfl) (by kernel_rfl) (by kernel_rfl) ?_ (fun a w hF hS => ?_)
  · exact obs_cons (ob_load Agg40 (fun _ _ hS => (hS.at_ 0 rfl).cell rfl)) <| obs_cons (ob_load Agg3 (fun _ _ hS => (hS.at_ 0 rfl).cell rfl)) <| obs_cons (ob_load Agg3 (fun _ _ hS => (hS.at_ 0 rfl).cell rfl)) <| obs_cons (ob_load Agg3 (fun _ _ hS => (hS.at_ 0 rfl).cell rfl)) <| obs_nil
  refine wp_ret ?_
  have hS := hS.pickN 1 [] (by decide)
  have hm : some (((((b1.length : Int) == 0) && (b2 == 0)) && (b3 == 0)) && (b4 == 0)) = some r := hm
  obtain rfl := Option.some.inj hm
  exact retV (rs := [.tmp 2]) (vs := [.bool (((((b1.length : Int) == 0) && (b2 == 0)) && (b3 == 0)) && (b4 == 0))]) hF rfl (rv_t (by kernel_rfl) <| rv_nil) rfl ⟨rfl, hS⟩

noncomputable def gameroomref_menAt_J1 (b1 : List Int) (p1 : Int) : Option Int :=
  asrt (0 ≤ p1 ∧ p1 < (b1.length : Int)) <| some (w64 (0 - (geti b1 p1)))

noncomputable def gameroomref_menAt_m (b1 : List Int) (b2 : Int) (b3 : Int) (b4 : Int) (p1 : Int) : Option Int :=
  if (b4 == 0) then (asrt (0 ≤ p1 ∧ p1 < (b1.length : Int)) <| some (geti b1 p1)) else ((gameroomref_menAt_J1 b1 p1))

set_option maxRecDepth 100000 in
set_option maxHeartbeats 4000000 in
theorem gameroomref_menAt_w {A1 : Option Addr} {c1 : Nat} {n1 : Nat} {b1 : List Int} {b2 : Int} {b3 : Int} {b4 : Int} {p1 : Int} {r : Int} {w0 w : World} {B : Nat} {fs : List HP} (hm : gameroomref_menAt_m b1 b2 b3 b4 p1 = some r) (hS : Sep w0 B w (fs)) (hr_b1 : RdF w0 B fs A1 (vI b1)) (_hc_b1 : b1.length ≤ c1) (_hn_b1 : n1 = b1.length) :
    Calls Try.prog 101 #[.agg #[.slice A1 n1 c1, .int .i64 b2, .int .i64 b3, .int .i64 b4], .int .i64 p1] w fun e w' => e = .returned (.int .i64 r) ∧ Sep w0 B w' (fs) := by
  obtain ⟨i3, hi3, hz3, hs3, hb3⟩ := info_parts Info3
  obtain rfl := _hn_b1
  unfold gameroomref_menAt_m at hm
  replace hm := start_b hm
  refine enter (l := [.agg #[.slice A1 b1.length c1, .int .i64 b2, .int .i64 b3, .int .i64 b4], .int .i64 p1]) (n := 19) Try.func101 rfl rfl (by simp) (fun a hF => ?_)
  refine seqR ?_
  refine at_do (d := 2) (s := vS (Instr.box 61 (.agg #[.slice A1 b1.length c1, .int .i64 b2, .int .i64 b3, .int .i64 b4]))) (v := .pointer (some ⟨w.heap.size, 0, none⟩)) (w' := w.alloc (.cells #[.slice A1 b1.length c1, .int .i64 b2, .int .i64 b3, .int .i64 b4] 61)) hF (by kernel_rfl) (by kernel_rfl) (by kernel_rfl) (fun a hF => ?_)
  have hS : Sep w0 B (w.alloc (.cells #[.slice A1 b1.length c1, .int .i64 b2, .int .i64 b3, .int .i64 b4] 61)) (blk w.heap.size 61 #[.slice A1 b1.length c1, .int .i64 b2, .int .i64 b3, .int .i64 b4] :: (fs)) := hS.box 61 #[.slice A1 b1.length c1, .int .i64 b2, .int .i64 b3, .int .i64 b4]
  generalize w.heap.size = g1 at hF hS
  generalize w.alloc (.cells #[.slice A1 b1.length c1, .int .i64 b2, .int .i64 b3, .int .i64 b4] 61) = w at hS ⊢
  refine at_run 1 [] [] [1, 2] [pl 1 (.int .i64 p1), pl 2 (.pointer (some ⟨g1, 0, none⟩))] hF hS (by kernel_rfl) (by kernel_rfl) ?_ (fun a w hF hS => ?_)
  · exact obs_nil
  refine at_end [1, 2] [pl 1 (.int .i64 p1), pl 2 (.pointer (some ⟨g1, 0, none⟩))] hF rfl (by kernel_rfl) (fun hF => ?_)
  refine then_n ?_
  refine seq_cut (fun a w => Fr 19 [pl 1 (.int .i64 p1), pl 2 (.pointer (some ⟨g1, 0, none⟩))] a ∧ Sep w0 B w (blk g1 61 #[.slice A1 b1.length c1, .int .i64 b2, .int .i64 b3, .int .i64 b4] :: fs) ∧ ((gameroomref_menAt_J1 b1 p1)).bind some = some r) ?_ ?_
  · rintro a w ⟨hF, hS, hm⟩
    unfold gameroomref_menAt_J1 at hm
    obtain ⟨hp2, hm⟩ := asrt_b hm
    refine reg [⟨false, [], vS (Instr.loadAt 40 (.pointer (some ⟨g1, 0, none⟩))), .slice A1 b1.length c1⟩, ⟨true, [], vS (Instr.indexAt 40 (.slice A1 b1.length c1) (.int .i64 p1)), .pointer (some (sAddr A1 p1))⟩, ⟨false, [], vS (Instr.loadAt 3 (.pointer (some (sAddr A1 p1)))), .int .i64 (geti b1 p1)⟩] [none, some (.slice A1 b1.length c1), none, some (.pointer (some (sAddr A1 p1))), some (.int .i64 (geti b1 p1)), none, none] [4] [pl 4 (.int .i64 (w64 (0 - (geti b1 p1))))] hF hS Fol (by kernel_rfl) (by kernel_rfl) (by kernel_rfl) ?_ (fun a w hF hS => ?_)
    · exact obs_cons (ob_load Agg40 (fun _ _ hS => (hS.at_ 0 rfl).cell rfl)) <| obs_cons (ob_ix1 (f := (Value.int .i64)) (m := b1) Und40 hi3 hs3 (hr_b1 _ (hS.dropN 1)) rfl (fun _ => hp2)) <| obs_cons (ob_get1 (n := b1.length) (m := b1) (Value.int .i64) (0 : Int) Agg3 (fun _ hS => ⟨_, (hr_b1 _ (hS.dropN 1))⟩) (fun _ hS => rfl) (fun _ => hp2)) <| obs_nil
    refine wp_ret ?_
    have hS := hS.pickN 1 [] (by decide)
    have hm : some (w64 (0 - (geti b1 p1))) = some r := hm
    obtain rfl := Option.some.inj hm
    exact retV (rs := [.tmp 4]) (vs := [.int .i64 (w64 (0 - (geti b1 p1)))]) hF rfl (rv_t (by kernel_rfl) <| rv_nil) rfl ⟨rfl, hS⟩
  · refine reg [⟨false, [], vS (Instr.loadAt 3 (.pointer (some ⟨g1, 3, none⟩))), .int .i64 b4⟩] [none, some (.int .i64 b4), none] [1, 2, 7] [pl 1 (.int .i64 p1), pl 2 (.pointer (some ⟨g1, 0, none⟩)), pl 7 (.bool (b4 == 0))] hF hS Fol (by kernel_rfl) (by kernel_rfl) (by kernel_rfl) ?_ (fun a w hF hS => ?_)
    · exact obs_cons (ob_load Agg3 (fun _ _ hS => (hS.at_ 0 rfl).cell rfl)) <| obs_nil
    refine cond_ev (t := 7) (b := (b4 == 0)) hF (by kernel_rfl) (fun hb => ?_) (fun hb => ?_)
    · replace hm := if_t hm hb
      obtain ⟨hp1, hm⟩ := asrt_b hm
      refine reg [⟨false, [], vS (Instr.loadAt 40 (.pointer (some ⟨g1, 0, none⟩))), .slice A1 b1.length c1⟩, ⟨true, [], vS (Instr.indexAt 40 (.slice A1 b1.length c1) (.int .i64 p1)), .pointer (some (sAddr A1 p1))⟩, ⟨false, [], vS (Instr.loadAt 3 (.pointer (some (sAddr A1 p1)))), .int .i64 (geti b1 p1)⟩] [none, some (.slice A1 b1.length c1), none, some (.pointer (some (sAddr A1 p1))), some (.int .i64 (geti b1 p1)), none] [4] [pl 4 (.int .i64 (geti b1 p1))] hF hS Fol (by kernel_rfl) (by kernel_rfl) (by kernel_rfl) ?_ (fun a w hF hS => ?_)
      · exact obs_cons (ob_load Agg40 (fun _ _ hS => (hS.at_ 0 rfl).cell rfl)) <| obs_cons (ob_ix1 (f := (Value.int .i64)) (m := b1) Und40 hi3 hs3 (hr_b1 _ (hS.dropN 1)) rfl (fun _ => hp1)) <| obs_cons (ob_get1 (n := b1.length) (m := b1) (Value.int .i64) (0 : Int) Agg3 (fun _ hS => ⟨_, (hr_b1 _ (hS.dropN 1))⟩) (fun _ hS => rfl) (fun _ => hp1)) <| obs_nil
      refine wp_ret ?_
      refine then_r ?_
      have hS := hS.pickN 1 [] (by decide)
      have hm : some (geti b1 p1) = some r := hm
      obtain rfl := Option.some.inj hm
      exact retV (rs := [.tmp 4]) (vs := [.int .i64 (geti b1 p1)]) hF rfl (rv_t (by kernel_rfl) <| rv_nil) rfl ⟨rfl, hS⟩
    · replace hm := if_f hm hb
      refine wp_skip ?_
      refine then_n ?_
      exact ⟨hF.weak [1, 2] (by kernel_rfl), hS, hm⟩

noncomputable def gameroomref_homeward_J1 (p1 : Int) : Option Int :=
  some (w64 (25 - p1))

noncomputable def gameroomref_homeward_m (turn1 : Int) (p1 : Int) : Option Int :=
  if (turn1 == 0) then (some p1) else ((gameroomref_homeward_J1 p1))

set_option maxRecDepth 100000 in
set_option maxHeartbeats 4000000 in
theorem gameroomref_homeward_w {turn1 : Int} {p1 : Int} {r : Int} {w0 w : World} {B : Nat} {fs : List HP} (hm : gameroomref_homeward_m turn1 p1 = some r) (hS : Sep w0 B w (fs)) :
    Calls Try.prog 102 #[.int .i64 turn1, .int .i64 p1] w fun e w' => e = .returned (.int .i64 r) ∧ Sep w0 B w' (fs) := by
  unfold gameroomref_homeward_m at hm
  replace hm := start_b hm
  refine enter (l := [.int .i64 turn1, .int .i64 p1]) (n := 10) Try.func102 rfl rfl (by simp) (fun a hF => ?_)
  refine reg [] [] [0, 1] [pl 0 (.int .i64 turn1), pl 1 (.int .i64 p1)] hF hS Fol (by kernel_rfl) (by kernel_rfl) (by kernel_rfl) ?_ (fun a w hF hS => ?_)
  · exact obs_nil
  refine seq_cut (fun a w => Fr 10 [pl 1 (.int .i64 p1)] a ∧ Sep w0 B w (fs) ∧ ((gameroomref_homeward_J1 p1)).bind some = some r) ?_ ?_
  · rintro a w ⟨hF, hS, hm⟩
    unfold gameroomref_homeward_J1 at hm
    refine reg [] [] [4] [pl 4 (.int .i64 (w64 (25 - p1)))] hF hS Fol (by kernel_rfl) (by kernel_rfl) (by kernel_rfl) ?_ (fun a w hF hS => ?_)
    · exact obs_nil
    refine wp_ret ?_
    have hm : some (w64 (25 - p1)) = some r := hm
    obtain rfl := Option.some.inj hm
    exact retV (rs := [.tmp 4]) (vs := [.int .i64 (w64 (25 - p1))]) hF rfl (rv_t (by kernel_rfl) <| rv_nil) rfl ⟨rfl, hS⟩
  · refine reg [] [] [1, 6] [pl 1 (.int .i64 p1), pl 6 (.bool (turn1 == 0))] hF hS Fol (by kernel_rfl) (by kernel_rfl) (by kernel_rfl) ?_ (fun a w hF hS => ?_)
    · exact obs_nil
    refine cond_ev (t := 6) (b := (turn1 == 0)) hF (by kernel_rfl) (fun hb => ?_) (fun hb => ?_)
    · replace hm := if_t hm hb
      refine reg [] [] [4] [pl 4 (.int .i64 p1)] hF hS Fol (by kernel_rfl) (by kernel_rfl) (by kernel_rfl) ?_ (fun a w hF hS => ?_)
      · exact obs_nil
      refine wp_ret ?_
      refine then_r ?_
      have hm : some p1 = some r := hm
      obtain rfl := Option.some.inj hm
      exact retV (rs := [.tmp 4]) (vs := [.int .i64 p1]) hF rfl (rv_t (by kernel_rfl) <| rv_nil) rfl ⟨rfl, hS⟩
    · replace hm := if_f hm hb
      refine wp_skip ?_
      refine then_n ?_
      exact ⟨hF.weak [1] (by kernel_rfl), hS, hm⟩

noncomputable def gameroomref_StepOf_J7 (p1 : Int) : Option (St Int (Fl Unit (List Int × Int × Int × Int × Bool))) :=
  some (.next (w64 (p1 + 1)))

noncomputable def gameroomref_StepOf_J6 (b1 : List Int) (b2 : Int) (b3 : Int) (b4 : Int) (pips1 : Int) (r1 : (List Int × Int × Int × Int)) (far1 : Int) (p1 : Int) : Option (St Int (Fl Unit (List Int × Int × Int × Int × Bool))) :=
  (gameroomref_menAt_m b1 b2 b3 b4 p1).bind fun r4 => ((if (decide ((0 : Int) < r4)) then gameroomref_homeward_m b4 p1 else some 0)).bind fun r5 => ((if (decide (far1 < pips1)) && (!(decide ((6 : Int) < r5))) && (decide ((0 : Int) < r4)) then gameroomref_homeward_m b4 p1 else some 0)).bind fun r6 => if ((decide ((0 : Int) < r4)) && ((decide ((6 : Int) < r5)) || ((decide (far1 < pips1)) && (decide (far1 < r6))))) then (some (.done (.ret (r1.1, r1.2.1, r1.2.2.1, r1.2.2.2, false)))) else ((gameroomref_StepOf_J7 p1))

noncomputable def gameroomref_StepOf_J8 (from1 : Int) (r1 : (List Int × Int × Int × Int)) (one1 : Int) : Option (List Int × Int × Int × Int × Bool) :=
  asrt (0 ≤ from1 ∧ from1 < (r1.1.length : Int)) <| asrt (0 ≤ from1 ∧ from1 < (r1.1.length : Int)) <| some ((r1.1.set (Int.toNat from1) (w64 ((geti r1.1 from1) - one1))), r1.2.1, r1.2.2.1, r1.2.2.2, true)

noncomputable def gameroomref_StepOf_J5 (from1 : Int) (r1 : (List Int × Int × Int × Int)) (bar1 : Int) (one1 : Int) : Option (List Int × Int × Int × Int × Bool) :=
  if (decide ((0 : Int) < bar1)) then (some (r1.1, r1.2.1, r1.2.2.1, r1.2.2.2, false)) else ((gameroomref_StepOf_J8 from1 r1 one1))

noncomputable def gameroomref_StepOf_K1 (from1 : Int) (r1 : (List Int × Int × Int × Int)) (bar1 : Int) (one1 : Int) : (Fl Unit (List Int × Int × Int × Int × Bool)) → Option (List Int × Int × Int × Int × Bool) :=
  fun (x : (Fl Unit (List Int × Int × Int × Int × Bool))) => match x with | .go _ => (gameroomref_StepOf_J5 from1 r1 bar1 one1) | .ret x => some x

noncomputable def gameroomref_StepOf_L1 (b1 : List Int) (b2 : Int) (b3 : Int) (b4 : Int) (pips1 : Int) (r1 : (List Int × Int × Int × Int)) (far1 : Int) : Int → Option (St Int (Fl Unit (List Int × Int × Int × Int × Bool))) :=
  fun (x : Int) => match x with | p1 => if (decide (p1 < 25)) then ((gameroomref_StepOf_J6 b1 b2 b3 b4 pips1 r1 far1 p1)) else (some (.done (.go ())))

noncomputable def gameroomref_StepOf_J12 (r1 : (List Int × Int × Int × Int)) (out4 : List Int) (out5 : Int) (out6 : Int) : Option (List Int × Int × Int × Int × Bool) :=
  some (out4, out5, out6, r1.2.2.2, true)

noncomputable def gameroomref_StepOf_J11 (b4 : Int) (from1 : Int) (r1 : (List Int × Int × Int × Int)) (one1 : Int) (to1 : Int) (out1 : List Int) (out2 : Int) (out3 : Int) : Option (List Int × Int × Int × Int × Bool) :=
  asrt (0 ≤ to1 ∧ to1 < (r1.1.length : Int)) <| asrt (0 ≤ to1 ∧ to1 < (r1.1.length : Int)) <| if (decide ((0 : Int) < from1)) then (asrt (0 ≤ from1 ∧ from1 < (r1.1.length : Int)) <| asrt (0 ≤ from1 ∧ from1 < (r1.1.length : Int)) <| (gameroomref_StepOf_J12 r1) ((out1.set (Int.toNat to1) (w64 ((geti out1 to1) + one1))).set (Int.toNat from1) (w64 ((geti (out1.set (Int.toNat to1) (w64 ((geti out1 to1) + one1))) from1) - one1))) out2 out3) else (if (b4 == 0) then ((gameroomref_StepOf_J12 r1) (out1.set (Int.toNat to1) (w64 ((geti out1 to1) + one1))) (w64 (out2 - 1)) out3) else ((gameroomref_StepOf_J12 r1) (out1.set (Int.toNat to1) (w64 ((geti out1 to1) + one1))) out2 (w64 (out3 - 1))))

noncomputable def gameroomref_StepOf_J10 (b1 : List Int) (b2 : Int) (b3 : Int) (b4 : Int) (from1 : Int) (r1 : (List Int × Int × Int × Int)) (one1 : Int) (to1 : Int) : Option (List Int × Int × Int × Int × Bool) :=
  (gameroomref_menAt_m b1 b2 b3 b4 to1).bind fun r8 => if (r8 == (-1)) then (asrt (0 ≤ to1 ∧ to1 < (r1.1.length : Int)) <| if (b4 == 0) then ((gameroomref_StepOf_J11 b4 from1 r1 one1 to1) (r1.1.set (Int.toNat to1) 0) r1.2.1 (w64 (r1.2.2.1 + 1))) else ((gameroomref_StepOf_J11 b4 from1 r1 one1 to1) (r1.1.set (Int.toNat to1) 0) (w64 (r1.2.1 + 1)) r1.2.2.1)) else ((gameroomref_StepOf_J11 b4 from1 r1 one1 to1) r1.1 r1.2.1 r1.2.2.1)

noncomputable def gameroomref_StepOf_J9 (b1 : List Int) (b2 : Int) (b3 : Int) (b4 : Int) (from1 : Int) (r1 : (List Int × Int × Int × Int)) (one1 : Int) (to1 : Int) : Option (List Int × Int × Int × Int × Bool) :=
  (gameroomref_menAt_m b1 b2 b3 b4 to1).bind fun r7 => if (decide (r7 < (-1))) then (some (r1.1, r1.2.1, r1.2.2.1, r1.2.2.2, false)) else ((gameroomref_StepOf_J10 b1 b2 b3 b4 from1 r1 one1 to1))

noncomputable def gameroomref_StepOf_J4 (b1 : List Int) (b2 : Int) (b3 : Int) (b4 : Int) (from1 : Int) (pips1 : Int) (r1 : (List Int × Int × Int × Int)) (one1 : Int) (far1 : Int) : Option (List Int × Int × Int × Int × Bool) :=
  if (b4 == 1) then ((gameroomref_StepOf_J9 b1 b2 b3 b4 from1 r1 one1) (w64 (25 - (w64 (far1 - pips1))))) else ((gameroomref_StepOf_J9 b1 b2 b3 b4 from1 r1 one1) (w64 (far1 - pips1)))

noncomputable def gameroomref_StepOf_J3 (b1 : List Int) (b2 : Int) (b3 : Int) (b4 : Int) (from1 : Int) (pips1 : Int) (r1 : (List Int × Int × Int × Int)) (bar1 : Int) (one1 : Int) (far1 : Int) : Option (List Int × Int × Int × Int × Bool) :=
  if (decide (far1 ≤ pips1)) then ((loop (gameroomref_StepOf_L1 b1 b2 b3 b4 pips1 r1 far1) 1).bind (gameroomref_StepOf_K1 from1 r1 bar1 one1)) else ((gameroomref_StepOf_J4 b1 b2 b3 b4 from1 pips1 r1 one1 far1))

noncomputable def gameroomref_StepOf_J2 (b1 : List Int) (b2 : Int) (b3 : Int) (b4 : Int) (from1 : Int) (pips1 : Int) (r1 : (List Int × Int × Int × Int)) (bar1 : Int) (one1 : Int) : Option (List Int × Int × Int × Int × Bool) :=
  if (decide ((0 : Int) < from1)) then ((gameroomref_homeward_m b4 from1).bind fun r3 => (gameroomref_StepOf_J3 b1 b2 b3 b4 from1 pips1 r1 bar1 one1) r3) else ((gameroomref_StepOf_J3 b1 b2 b3 b4 from1 pips1 r1 bar1 one1) 25)

noncomputable def gameroomref_StepOf_J1 (b1 : List Int) (b2 : Int) (b3 : Int) (b4 : Int) (from1 : Int) (pips1 : Int) (r1 : (List Int × Int × Int × Int)) (bar1 : Int) (one1 : Int) : Option (List Int × Int × Int × Int × Bool) :=
  ((if (decide ((0 : Int) < from1)) && (!(((decide ((0 : Int) < bar1)) && (from1 != 0)) || ((bar1 == 0) && (from1 == 0)))) then gameroomref_menAt_m b1 b2 b3 b4 from1 else some 0)).bind fun r2 => if ((((decide ((0 : Int) < bar1)) && (from1 != 0)) || ((bar1 == 0) && (from1 == 0))) || ((decide ((0 : Int) < from1)) && (decide (r2 < 1)))) then (some (r1.1, r1.2.1, r1.2.2.1, r1.2.2.2, false)) else ((gameroomref_StepOf_J2 b1 b2 b3 b4 from1 pips1 r1 bar1 one1))
end Go.Proofs.Ytbmhcapeikebgaa
