/-
  Models and walks, printed by our own program (wip/gen).
-/
import Derived.Test.YtoickcchcjehdaaFB
import Derived.Test.YtoickcchcjehdaaLibPl
import Derived.Test.YtoickcchcjehdaaLibG
import Derived.Test.YtoickcchcjehdaaNDW
namespace Go.Proofs.Ytoickcchcjehdaa
open Go Go.GL Go.RowKit


noncomputable def gameroomlaw_ints_m  (l1 : List Int) : Option (List Int) :=
  asrt ((0 : Int) + (l1.length : Int) ≤ bigN) <| some ([] ++ l1)

set_option maxRecDepth 100000 in
set_option maxHeartbeats 4000000 in
theorem gameroomlaw_ints_w  {A1 : Option Addr} {c1 : Nat} {n1 : Nat} {l1 : List Int} {r : (List Int)} {w0 w : World} {B : Nat} {fs : List HP} (hm : gameroomlaw_ints_m l1 = some r) (hS : Sep w0 B w (fs)) (hr_l1 : RdF w0 B fs A1 (vI l1)) (_hc_l1 : l1.length ≤ c1) (_hn_l1 : n1 = l1.length) :
    Calls Try.prog 17 #[.slice A1 n1 c1] w fun e w' => ∃ v, e = .returned v ∧ ∃ (A3 : Option Addr) (c3 : Nat), v = .slice A3 r.length c3 ∧ Sep w0 B w' (own 3 (.slice A3 r.length c3) (vI r) :: fs) := by
  obtain ⟨i3, hi3, hz3, hs3, hb3⟩ := info_parts Info3
  obtain rfl := _hn_l1
  unfold gameroomlaw_ints_m at hm
  replace hm := start_b hm
  refine enter (l := [.slice A1 l1.length c1]) (n := 5) Try.func17 rfl rfl (by simp) (fun a hF => ?_)
  refine reg [] [] [0] [pl 0 (.slice A1 l1.length c1)] hF hS Fol (by kernel_rfl) (by kernel_rfl) (by kernel_rfl) ?_ (fun a w hF hS => ?_)
  · exact obs_nil
  refine seqR ?_
  obtain ⟨hp1, hm⟩ := asrt_b hm
  refine at_run 1 [] [] [3] [pl 3 (.slice A1 l1.length c1)] hF hS (by kernel_rfl) (by kernel_rfl) ?_ (fun a w hF hS => ?_)
  · exact obs_nil
  have hS : Sep w0 B w (own 3 (.slice none 0 0) (vI ([] : List Int)) :: fs) := hS.nil 3
  obtain ⟨A2, c2, w, hrun, hS⟩ := run_app1 (P := Try.prog) (t := 22) (m := ([] : List Int)) (ys := l1) (A2 := A1) (m2 := l1.length) (c2 := c1) (Value.int .i64) (0 : Int) (hS.at_ 0 rfl) (hr_l1 _ (hS.dropN 1)) rfl 22 Und22 hi3 hz3 hs3 (by omega) rfl (fun _ => rfl) hp1
  have hS : Sep w0 B w (own 3 (.slice A2 (([] ++ l1).length) c2) (vI ([] ++ l1)) :: fs) := hS
  refine at_do (d := 4) hF (by kernel_rfl) (by kernel_rfl) hrun (fun a hF => ?_)
  refine at_run 1 [] [] [2] [pl 2 (.slice A2 (([] ++ l1).length) c2)] hF hS (by kernel_rfl) (by kernel_rfl) ?_ (fun a w hF hS => ?_)
  · exact obs_nil
  refine at_end [2] [pl 2 (.slice A2 (([] ++ l1).length) c2)] hF rfl (by kernel_rfl) (fun hF => ?_)
  refine then_n ?_
  refine wpIn_ret ?_
  have hm : some ([] ++ l1) = some r := hm
  obtain rfl := Option.some.inj hm
  exact retV (rs := [.tmp 2]) (vs := [.slice A2 (([] ++ l1).length) c2]) hF rfl (rv_t (by kernel_rfl) <| rv_nil) rfl ⟨_, rfl, A2, c2, rfl, hS⟩

noncomputable def slices_Equal_J4  (z1 : Int) : Option (St Int (Fl Unit Bool)) :=
  some (.next (w64 (z1 + 1)))

noncomputable def slices_Equal_J3  (s11 : List Int) (s21 : List Int) (z1 : Int) : Option (St Int (Fl Unit Bool)) :=
  asrt (0 ≤ z1 ∧ z1 < (s11.length : Int)) <| asrt (0 ≤ z1 ∧ z1 < (s21.length : Int)) <| if ((geti s11 z1) != (geti s21 z1)) then (some (.done (.ret false))) else ((slices_Equal_J4 z1))

noncomputable def slices_Equal_J2  : Option Bool :=
  some true

noncomputable def slices_Equal_K1  : (Fl Unit Bool) → Option Bool :=
  fun (x : (Fl Unit Bool)) => match x with | .go _ => slices_Equal_J2 | .ret x => some x

noncomputable def slices_Equal_L1  (s11 : List Int) (s21 : List Int) : Int → Option (St Int (Fl Unit Bool)) :=
  fun (x : Int) => match x with | z1 => if (decide (z1 < (s11.length : Int))) then ((slices_Equal_J3 s11 s21 z1)) else (some (.done (.go ())))

noncomputable def slices_Equal_J1  (s11 : List Int) (s21 : List Int) : Option Bool :=
  (loop (slices_Equal_L1 s11 s21) 0).bind slices_Equal_K1

noncomputable def slices_Equal_m  (s11 : List Int) (s21 : List Int) : Option Bool :=
  if ((s11.length : Int) != (s21.length : Int)) then (some false) else ((slices_Equal_J1 s11 s21))

set_option maxRecDepth 100000 in
set_option maxHeartbeats 4000000 in
theorem slices_Equal_w  {A1 : Option Addr} {c1 : Nat} {n1 : Nat} {s11 : List Int} {A2 : Option Addr} {c2 : Nat} {n2 : Nat} {s21 : List Int} {r : Bool} {w0 w : World} {B : Nat} {fs : List HP} (hm : slices_Equal_m s11 s21 = some r) (hS : Sep w0 B w (fs)) (hr_s11 : RdF w0 B fs A1 (vI s11)) (_hc_s11 : s11.length ≤ c1) (_hn_s11 : n1 = s11.length) (hr_s21 : RdF w0 B fs A2 (vI s21)) (_hc_s21 : s21.length ≤ c2) (_hn_s21 : n2 = s21.length) :
    Calls Try.prog 126 #[.slice A1 n1 c1, .slice A2 n2 c2] w fun e w' => e = .returned (.bool r) ∧ Sep w0 B w' (fs) := by
  obtain ⟨i3, hi3, hz3, hs3, hb3⟩ := info_parts Info3
  obtain rfl := _hn_s11
  obtain rfl := _hn_s21
  unfold slices_Equal_m at hm
  replace hm := start_b hm
  refine enter (l := [.slice A1 s11.length c1, .slice A2 s21.length c2]) (n := 26) Try.func126 rfl rfl (by simp) (fun a hF => ?_)
  refine reg [] [] [0, 1] [pl 0 (.slice A1 s11.length c1), pl 1 (.slice A2 s21.length c2)] hF hS Fol (by kernel_rfl) (by kernel_rfl) (by kernel_rfl) ?_ (fun a w hF hS => ?_)
  · exact obs_nil
  refine seq_cut (fun a w => Fr 26 [pl 0 (.slice A1 s11.length c1), pl 1 (.slice A2 s21.length c2)] a ∧ Sep w0 B w (fs) ∧ ((slices_Equal_J1 s11 s21)).bind some = some r) ?_ ?_
  · rintro a w ⟨hF, hS, hm⟩
    unfold slices_Equal_J1 at hm
    refine seq_cut (fun a w => Fr 26 [] a ∧ Sep w0 B w (fs) ∧ (slices_Equal_J2).bind some = some r) ?_ ?_
    · rintro a w ⟨hF, hS, hm⟩
      unfold slices_Equal_J2 at hm
      refine reg [] [] [4] [pl 4 (.bool true)] hF hS Fol (by kernel_rfl) (by kernel_rfl) (by kernel_rfl) ?_ (fun a w hF hS => ?_)
      · exact obs_nil
      refine wpIn_ret ?_
      have hm : some true = some r := hm
      obtain rfl := Option.some.inj hm
      exact retV (rs := [.tmp 4]) (vs := [.bool true]) hF rfl (rv_t (by kernel_rfl) <| rv_nil) rfl ⟨rfl, hS⟩
    · refine reg [] [] [0, 1, 12, 13] [pl 0 (.slice A1 s11.length c1), pl 1 (.slice A2 s21.length c2), pl 12 (.int .i64 (s11.length : Int)), pl 13 (.int .i64 0)] hF hS Fol (by kernel_rfl) (by kernel_rfl) (by kernel_rfl) ?_ (fun a w hF hS => ?_)
      · exact obs_nil
      refine wpIn_block ?_
      refine wp_loop_model (S := Int) (R := (Fl Unit Bool)) (slices_Equal_L1 s11 s21) (fun x => (slices_Equal_K1 x).bind some) r (fun (x : Int) a w => Fr 26 [pl 0 (.slice A1 s11.length c1), pl 1 (.slice A2 s21.length c2), pl 12 (.int .i64 (s11.length : Int)), pl 13 (.int .i64 x)] a ∧ Sep w0 B w (fs)) (assoc_b hm) ⟨hF.weak [0, 1, 12, 13] (by kernel_rfl), hS⟩ ?_
      clear hF hS hm
      rintro nn1 z1 a w ⟨hF, hS⟩ hm
      generalize hφ1 : stK (slices_Equal_L1 s11 s21) nn1 (fun x => (slices_Equal_K1 x).bind some) = φ1 at hm
      unfold slices_Equal_L1 at hm
      dsimp only at hm
      refine reg [] [] [0, 1, 12, 13, 14] [pl 0 (.slice A1 s11.length c1), pl 1 (.slice A2 s21.length c2), pl 12 (.int .i64 (s11.length : Int)), pl 13 (.int .i64 z1), pl 14 (.bool (decide (z1 < (s11.length : Int))))] hF hS Fol (by kernel_rfl) (by kernel_rfl) (by kernel_rfl) ?_ (fun a w hF hS => ?_)
      · exact obs_nil
      refine seq_cut (fun a w => Fr 26 [pl 0 (.slice A1 s11.length c1), pl 1 (.slice A2 s21.length c2), pl 12 (.int .i64 (s11.length : Int)), pl 13 (.int .i64 z1)] a ∧ Sep w0 B w (fs) ∧ ((slices_Equal_J3 s11 s21 z1)).bind φ1 = some r) ?_ ?_
      · rintro a w ⟨hF, hS, hm⟩
        unfold slices_Equal_J3 at hm
        refine seq_cut (fun a w => Fr 26 [pl 0 (.slice A1 s11.length c1), pl 1 (.slice A2 s21.length c2), pl 12 (.int .i64 (s11.length : Int)), pl 13 (.int .i64 z1)] a ∧ Sep w0 B w (fs) ∧ ((slices_Equal_J4 z1)).bind φ1 = some r) ?_ ?_
        · rintro a w ⟨hF, hS, hm⟩
          unfold slices_Equal_J4 at hm
          refine reg1 [] [] [0, 1, 12, 13] [pl 0 (.slice A1 s11.length c1), pl 1 (.slice A2 s21.length c2), pl 12 (.int .i64 (s11.length : Int)), pl 13 (.int .i64 (w64 (z1 + 1)))] hF hS Fol (by kernel_rfl) (by kernel_rfl) (by kernel_rfl) ?_ (fun a w hF hS => ?_)
          · exact obs_nil
          refine then_n ?_
          rw [← hφ1] at hm
          exact ⟨(w64 (z1 + 1)), ⟨hF.weak [0, 1, 12, 13] (by kernel_rfl), hS⟩, hm⟩
        · refine wpIn_block ?_
          refine reg [] [] [0, 1, 5, 12, 13] [pl 0 (.slice A1 s11.length c1), pl 1 (.slice A2 s21.length c2), pl 5 (.int .i64 z1), pl 12 (.int .i64 (s11.length : Int)), pl 13 (.int .i64 z1)] hF hS Fol (by kernel_rfl) (by kernel_rfl) (by kernel_rfl) ?_ (fun a w hF hS => ?_)
          · exact obs_nil
          obtain ⟨hp1, hm⟩ := asrt_b hm
          obtain ⟨hp2, hm⟩ := asrt_b hm
          refine reg [⟨true, [], vS (Instr.indexAt 22 (.slice A1 s11.length c1) (.int .i64 z1)), .pointer (some (sAddr A1 z1))⟩, ⟨false, [], vS (Instr.loadAt 3 (.pointer (some (sAddr A1 z1)))), .int .i64 (geti s11 z1)⟩, ⟨true, [], vS (Instr.indexAt 22 (.slice A2 s21.length c2) (.int .i64 z1)), .pointer (some (sAddr A2 z1))⟩, ⟨false, [], vS (Instr.loadAt 3 (.pointer (some (sAddr A2 z1)))), .int .i64 (geti s21 z1)⟩] [none, none, some (.pointer (some (sAddr A1 z1))), some (.int .i64 (geti s11 z1)), none, none, some (.pointer (some (sAddr A2 z1))), some (.int .i64 (geti s21 z1)), none] [0, 1, 12, 13, 24] [pl 0 (.slice A1 s11.length c1), pl 1 (.slice A2 s21.length c2), pl 12 (.int .i64 (s11.length : Int)), pl 13 (.int .i64 z1), pl 24 (.bool ((geti s11 z1) != (geti s21 z1)))] hF hS Fol (by kernel_rfl) (by kernel_rfl) (by kernel_rfl) ?_ (fun a w hF hS => ?_)
          · exact obs_cons (ob_ix1 (f := (Value.int .i64)) (m := s11) Und22 hi3 hs3 (hr_s11 _ (hS.dropN 0)) rfl (fun _ => hp1)) <| obs_cons (ob_get1 (n := s11.length) (m := s11) (Value.int .i64) (0 : Int) Agg3 (fun _ hS => ⟨_, (hr_s11 _ (hS.dropN 0))⟩) (fun _ hS => rfl) (fun _ => hp1)) <| obs_cons (ob_ix1 (f := (Value.int .i64)) (m := s21) Und22 hi3 hs3 (hr_s21 _ (hS.dropN 0)) rfl (fun _ => hp2)) <| obs_cons (ob_get1 (n := s21.length) (m := s21) (Value.int .i64) (0 : Int) Agg3 (fun _ hS => ⟨_, (hr_s21 _ (hS.dropN 0))⟩) (fun _ hS => rfl) (fun _ => hp2)) <| obs_nil
          refine cond_ev (t := 24) (b := ((geti s11 z1) != (geti s21 z1))) hF (by kernel_rfl) (fun hb => ?_) (fun hb => ?_)
          · replace hm := if_t hm hb
            refine reg [] [] [4] [pl 4 (.bool false)] hF hS Fol (by kernel_rfl) (by kernel_rfl) (by kernel_rfl) ?_ (fun a w hF hS => ?_)
            · exact obs_nil
            refine wpIn_ret ?_
            refine block_r (then_r (then_r (block_r (then_r ?_))))
            rw [← hφ1] at hm
            replace hm := done_b hm
            unfold slices_Equal_K1 at hm
            try dsimp only at hm
            have hm : some false = some r := hm
            obtain rfl := Option.some.inj hm
            exact retV (rs := [.tmp 4]) (vs := [.bool false]) hF rfl (rv_t (by kernel_rfl) <| rv_nil) rfl ⟨rfl, hS⟩
          · replace hm := if_f hm hb
            refine wpIn_skip ?_
            refine block_n ?_
            refine then_n ?_
            exact ⟨hF.weak [0, 1, 12, 13] (by kernel_rfl), hS, hm⟩
      · refine cond_ev (t := 14) (b := decide (z1 < (s11.length : Int))) hF (by kernel_rfl) (fun hb => ?_) (fun hb => ?_)
        · replace hm := if_t hm hb
          refine wpIn_skip ?_
          refine then_n ?_
          exact ⟨hF.weak [0, 1, 12, 13] (by kernel_rfl), hS, hm⟩
        · replace hm := if_f hm hb
          refine wpIn_exit ?_
          refine then_e (then_e (block_e (then_n ?_)))
          rw [← hφ1] at hm
          replace hm := done_b hm
          unfold slices_Equal_K1 at hm
          try dsimp only at hm
          have hm : (slices_Equal_J2).bind some = some r := hm
          exact ⟨hF.weak [] (by kernel_rfl), hS, hm⟩
  · refine reg [] [] [0, 1, 10] [pl 0 (.slice A1 s11.length c1), pl 1 (.slice A2 s21.length c2), pl 10 (.bool ((s11.length : Int) != (s21.length : Int)))] hF hS Fol (by kernel_rfl) (by kernel_rfl) (by kernel_rfl) ?_ (fun a w hF hS => ?_)
    · exact obs_nil
    refine cond_ev (t := 10) (b := ((s11.length : Int) != (s21.length : Int))) hF (by kernel_rfl) (fun hb => ?_) (fun hb => ?_)
    · replace hm := if_t hm hb
      refine reg [] [] [4] [pl 4 (.bool false)] hF hS Fol (by kernel_rfl) (by kernel_rfl) (by kernel_rfl) ?_ (fun a w hF hS => ?_)
      · exact obs_nil
      refine wpIn_ret ?_
      refine then_r ?_
      have hm : some false = some r := hm
      obtain rfl := Option.some.inj hm
      exact retV (rs := [.tmp 4]) (vs := [.bool false]) hF rfl (rv_t (by kernel_rfl) <| rv_nil) rfl ⟨rfl, hS⟩
    · replace hm := if_f hm hb
      refine wpIn_skip ?_
      refine then_n ?_
      exact ⟨hF.weak [0, 1] (by kernel_rfl), hS, hm⟩

noncomputable def draughts_Do_1_m  (w1 : List Int) (p11 : List Int) : Option Bool :=
  (slices_Equal_m w1 p11).bind fun r1 => some r1

set_option maxRecDepth 100000 in
set_option maxHeartbeats 4000000 in
theorem draughts_Do_1_w  {A1 : Option Addr} {c1 : Nat} {n1 : Nat} {w1 : List Int} {g1 : Nat} {A2 : Option Addr} {c2 : Nat} {n2 : Nat} {p11 : List Int} {r : Bool} {w0 w : World} {B : Nat} {fs : List HP} (hm : draughts_Do_1_m w1 p11 = some r) (hS : Sep w0 B w (blk g1 22 #[.slice A2 n2 c2] :: fs)) (hr_w1 : RdF w0 B fs A1 (vI w1)) (_hc_w1 : w1.length ≤ c1) (_hn_w1 : n1 = w1.length) (hr_p11 : RdF w0 B fs A2 (vI p11)) (_hc_p11 : p11.length ≤ c2) (_hn_p11 : n2 = p11.length) :
    Calls Try.prog 125 #[.slice A1 n1 c1, .pointer (some ⟨g1, 0, none⟩)] w fun e w' => e = .returned (.bool r) ∧ Sep w0 B w' (blk g1 22 #[.slice A2 n2 c2] :: fs) := by
  obtain ⟨i3, hi3, hz3, hs3, hb3⟩ := info_parts Info3
  obtain rfl := _hn_w1
  obtain rfl := _hn_p11
  unfold draughts_Do_1_m at hm
  replace hm := start_b hm
  refine enter (l := [.slice A1 w1.length c1, .pointer (some ⟨g1, 0, none⟩)]) (n := 7) Try.func125 rfl rfl (by simp) (fun a hF => ?_)
  refine reg [] [] [0, 1] [pl 0 (.slice A1 w1.length c1), pl 1 (.pointer (some ⟨g1, 0, none⟩))] hF hS Fol (by kernel_rfl) (by kernel_rfl) (by kernel_rfl) ?_ (fun a w hF hS => ?_)
  · exact obs_nil
  obtain ⟨r1, hr1, hm⟩ := call_b hm
  refine reg [⟨false, [], vS (Instr.loadAt 22 (.pointer (some ⟨g1, 0, none⟩))), .slice A2 p11.length c2⟩, ⟨false, [], callFunc 126 #[.slice A1 w1.length c1, .slice A2 p11.length c2], .bool r1⟩] [none, some (.slice A2 p11.length c2), some (.bool r1), none] [3] [pl 3 (.bool r1)] hF hS Fol (by kernel_rfl) (by kernel_rfl) (by kernel_rfl) ?_ (fun a w hF hS => ?_)
  · exact obs_cons (ob_load Agg22 (fun _ _ hS => (hS.at_ 0 rfl).cell rfl)) <| obs_cons (ob_call Try.func126 (by kernel_rfl) rfl (fun _ _ hS => slices_Equal_w hr1 hS (fun _ hS => (hr_w1 _ (hS.dropN 1))) _hc_w1 rfl (fun _ hS => (hr_p11 _ (hS.dropN 1))) _hc_p11 rfl)) <| obs_nil
  refine wpIn_ret ?_
  have hm : some r1 = some r := hm
  obtain rfl := Option.some.inj hm
  exact retV (rs := [.tmp 3]) (vs := [.bool r1]) hF rfl (rv_t (by kernel_rfl) <| rv_nil) rfl ⟨rfl, hS⟩

noncomputable def slices_IndexFunc_J3  (z1 : Int) : Option (St Int (Fl Unit Int)) :=
  some (.next (w64 (z1 + 1)))

noncomputable def slices_IndexFunc_J2  (s1 : List (List Int)) (v1 : List Int) (z1 : Int) : Option (St Int (Fl Unit Int)) :=
  asrt (0 ≤ z1 ∧ z1 < (s1.length : Int)) <| (draughts_Do_1_m (geti2 s1 z1) v1).bind fun r1 => if r1 then (some (.done (.ret z1))) else ((slices_IndexFunc_J3 z1))

noncomputable def slices_IndexFunc_J1  : Option Int :=
  some (-1)

noncomputable def slices_IndexFunc_K1  : (Fl Unit Int) → Option Int :=
  fun (x : (Fl Unit Int)) => match x with | .go _ => slices_IndexFunc_J1 | .ret x => some x

noncomputable def slices_IndexFunc_L1  (s1 : List (List Int)) (v1 : List Int) : Int → Option (St Int (Fl Unit Int)) :=
  fun (x : Int) => match x with | z1 => if (decide (z1 < (s1.length : Int))) then ((slices_IndexFunc_J2 s1 v1 z1)) else (some (.done (.go ())))

noncomputable def slices_IndexFunc_m  (s1 : List (List Int)) (v1 : List Int) : Option Int :=
  (loop (slices_IndexFunc_L1 s1 v1) 0).bind slices_IndexFunc_K1

set_option maxRecDepth 100000 in
set_option maxHeartbeats 4000000 in
theorem slices_IndexFunc_w  {A1 : Option Addr} {c1 : Nat} {n1 : Nat} {hd1 : List Hd} {s1 : List (List Int)} {g1 : Nat} {A2 : Option Addr} {c2 : Nat} {n2 : Nat} {v1 : List Int} {r : Int} {w0 w : World} {B : Nat} {fs : List HP} (hm : slices_IndexFunc_m s1 v1 = some r) (hS : Sep w0 B w (blk g1 22 #[.slice A2 n2 c2] :: fs)) (hr_s1 : RdRowsF w0 B fs A1 hd1 s1) (_hc_s1 : s1.length ≤ c1) (_hn_s1 : n1 = s1.length) (hr_v1 : RdF w0 B fs A2 (vI v1)) (_hc_v1 : v1.length ≤ c2) (_hn_v1 : n2 = v1.length) :
    Calls Try.prog 201 #[.slice A1 n1 c1, .func (.func 125) #[] #[.pointer (some ⟨g1, 0, none⟩)]] w fun e w' => e = .returned (.int .i64 r) ∧ Sep w0 B w' (blk g1 22 #[.slice A2 n2 c2] :: fs) := by
  obtain ⟨i3, hi3, hz3, hs3, hb3⟩ := info_parts Info3
  obtain ⟨i22, hi22, hz22, hs22, hb22⟩ := info_parts Info22
  obtain rfl := _hn_s1
  obtain rfl := _hn_v1
  unfold slices_IndexFunc_m at hm
  replace hm := start_b hm
  refine enter (l := [.slice A1 s1.length c1, .func (.func 125) #[] #[.pointer (some ⟨g1, 0, none⟩)]]) (n := 19) Try.func201 rfl rfl (by simp) (fun a hF => ?_)
  refine reg [] [] [0, 1] [pl 0 (.slice A1 s1.length c1), pl 1 (.func (.func 125) #[] #[.pointer (some ⟨g1, 0, none⟩)])] hF hS Fol (by kernel_rfl) (by kernel_rfl) (by kernel_rfl) ?_ (fun a w hF hS => ?_)
  · exact obs_nil
  refine seq_cut (fun a w => Fr 19 [] a ∧ Sep w0 B w (blk g1 22 #[.slice A2 v1.length c2] :: fs) ∧ (slices_IndexFunc_J1).bind some = some r) ?_ ?_
  · rintro a w ⟨hF, hS, hm⟩
    unfold slices_IndexFunc_J1 at hm
    refine reg [] [] [4] [pl 4 (.int .i64 (-1))] hF hS Fol (by kernel_rfl) (by kernel_rfl) (by kernel_rfl) ?_ (fun a w hF hS => ?_)
    · exact obs_nil
    refine wpIn_ret ?_
    have hm : some (-1) = some r := hm
    obtain rfl := Option.some.inj hm
    exact retV (rs := [.tmp 4]) (vs := [.int .i64 (-1)]) hF rfl (rv_t (by kernel_rfl) <| rv_nil) rfl ⟨rfl, hS⟩
  · refine reg [] [] [0, 1, 7, 8] [pl 0 (.slice A1 s1.length c1), pl 1 (.func (.func 125) #[] #[.pointer (some ⟨g1, 0, none⟩)]), pl 7 (.int .i64 (s1.length : Int)), pl 8 (.int .i64 0)] hF hS Fol (by kernel_rfl) (by kernel_rfl) (by kernel_rfl) ?_ (fun a w hF hS => ?_)
    · exact obs_nil
    refine wpIn_block ?_
    refine wp_loop_model (S := Int) (R := (Fl Unit Int)) (slices_IndexFunc_L1 s1 v1) (fun x => (slices_IndexFunc_K1 x).bind some) r (fun (x : Int) a w => Fr 19 [pl 0 (.slice A1 s1.length c1), pl 1 (.func (.func 125) #[] #[.pointer (some ⟨g1, 0, none⟩)]), pl 7 (.int .i64 (s1.length : Int)), pl 8 (.int .i64 x)] a ∧ Sep w0 B w (blk g1 22 #[.slice A2 v1.length c2] :: fs)) (assoc_b hm) ⟨hF.weak [0, 1, 7, 8] (by kernel_rfl), hS⟩ ?_
    clear hF hS hm
    rintro nn1 z1 a w ⟨hF, hS⟩ hm
    generalize hφ1 : stK (slices_IndexFunc_L1 s1 v1) nn1 (fun x => (slices_IndexFunc_K1 x).bind some) = φ1 at hm
    unfold slices_IndexFunc_L1 at hm
    dsimp only at hm
    refine reg [] [] [0, 1, 7, 8, 9] [pl 0 (.slice A1 s1.length c1), pl 1 (.func (.func 125) #[] #[.pointer (some ⟨g1, 0, none⟩)]), pl 7 (.int .i64 (s1.length : Int)), pl 8 (.int .i64 z1), pl 9 (.bool (decide (z1 < (s1.length : Int))))] hF hS Fol (by kernel_rfl) (by kernel_rfl) (by kernel_rfl) ?_ (fun a w hF hS => ?_)
    · exact obs_nil
    refine seq_cut (fun a w => Fr 19 [pl 0 (.slice A1 s1.length c1), pl 1 (.func (.func 125) #[] #[.pointer (some ⟨g1, 0, none⟩)]), pl 7 (.int .i64 (s1.length : Int)), pl 8 (.int .i64 z1)] a ∧ Sep w0 B w (blk g1 22 #[.slice A2 v1.length c2] :: fs) ∧ ((slices_IndexFunc_J2 s1 v1 z1)).bind φ1 = some r) ?_ ?_
    · rintro a w ⟨hF, hS, hm⟩
      unfold slices_IndexFunc_J2 at hm
      refine seq_cut (fun a w => Fr 19 [pl 0 (.slice A1 s1.length c1), pl 1 (.func (.func 125) #[] #[.pointer (some ⟨g1, 0, none⟩)]), pl 7 (.int .i64 (s1.length : Int)), pl 8 (.int .i64 z1)] a ∧ Sep w0 B w (blk g1 22 #[.slice A2 v1.length c2] :: fs) ∧ ((slices_IndexFunc_J3 z1)).bind φ1 = some r) ?_ ?_
      · rintro a w ⟨hF, hS, hm⟩
        unfold slices_IndexFunc_J3 at hm
        refine reg1 [] [] [0, 1, 7, 8] [pl 0 (.slice A1 s1.length c1), pl 1 (.func (.func 125) #[] #[.pointer (some ⟨g1, 0, none⟩)]), pl 7 (.int .i64 (s1.length : Int)), pl 8 (.int .i64 (w64 (z1 + 1)))] hF hS Fol (by kernel_rfl) (by kernel_rfl) (by kernel_rfl) ?_ (fun a w hF hS => ?_)
        · exact obs_nil
        refine then_n ?_
        rw [← hφ1] at hm
        exact ⟨(w64 (z1 + 1)), ⟨hF.weak [0, 1, 7, 8] (by kernel_rfl), hS⟩, hm⟩
      · refine wpIn_block ?_
        refine reg [] [] [0, 1, 5, 7, 8] [pl 0 (.slice A1 s1.length c1), pl 1 (.func (.func 125) #[] #[.pointer (some ⟨g1, 0, none⟩)]), pl 5 (.int .i64 z1), pl 7 (.int .i64 (s1.length : Int)), pl 8 (.int .i64 z1)] hF hS Fol (by kernel_rfl) (by kernel_rfl) (by kernel_rfl) ?_ (fun a w hF hS => ?_)
        · exact obs_nil
        obtain ⟨hp1, hm⟩ := asrt_b hm
        obtain ⟨r1, hr1, hm⟩ := call_b hm
        refine reg [⟨true, [], vS (Instr.indexAt 42 (.slice A1 s1.length c1) (.int .i64 z1)), .pointer (some (sAddr A1 z1))⟩, ⟨false, [], vS (Instr.loadAt 22 (.pointer (some (sAddr A1 z1)))), .slice (hdA hd1 z1) ((geti2 s1 z1).length) (hdC hd1 z1)⟩, ⟨false, [], callFunc 125 #[.slice (hdA hd1 z1) ((geti2 s1 z1).length) (hdC hd1 z1), .pointer (some ⟨g1, 0, none⟩)], .bool r1⟩] [none, none, none, some (.pointer (some (sAddr A1 z1))), some (.slice (hdA hd1 z1) ((geti2 s1 z1).length) (hdC hd1 z1)), some (.bool r1)] [0, 1, 5, 7, 8, 16] [pl 0 (.slice A1 s1.length c1), pl 1 (.func (.func 125) #[] #[.pointer (some ⟨g1, 0, none⟩)]), pl 5 (.int .i64 z1), pl 7 (.int .i64 (s1.length : Int)), pl 8 (.int .i64 z1), pl 16 (.bool r1)] hF hS Fol (by kernel_rfl) (by kernel_rfl) (by kernel_rfl) ?_ (fun a w hF hS => ?_)
        · exact obs_cons (ob_ixRn Und42 hi22 hs22 (hr_s1 _ (hS.dropN 1)) rfl (fun _ => hp1)) <| obs_cons (ob_getR Agg22 (fun _ hS => ⟨_, (hr_s1 _ (hS.dropN 1))⟩) (fun _ => hp1)) <| obs_cons (ob_call Try.func125 (by kernel_rfl) rfl (fun _ _ hS => draughts_Do_1_w hr1 hS (fun _ hS => ((hr_s1 _ (hS.dropN 0)).row _ hp1).1) ((hr_s1 _ ((hS.dropN 1).dropN 0)).row _ hp1).2 rfl (fun _ hS => (hr_v1 _ (hS.dropN 0))) _hc_v1 rfl)) <| obs_nil
        refine cond_ev (t := 16) (b := r1) hF (by kernel_rfl) (fun hb => ?_) (fun hb => ?_)
        · replace hm := if_t hm hb
          refine reg [] [] [4] [pl 4 (.int .i64 z1)] hF hS Fol (by kernel_rfl) (by kernel_rfl) (by kernel_rfl) ?_ (fun a w hF hS => ?_)
          · exact obs_nil
          refine wpIn_ret ?_
          refine block_r (then_r (then_r (block_r (then_r ?_))))
          rw [← hφ1] at hm
          replace hm := done_b hm
          unfold slices_IndexFunc_K1 at hm
          try dsimp only at hm
          have hm : some z1 = some r := hm
          obtain rfl := Option.some.inj hm
          exact retV (rs := [.tmp 4]) (vs := [.int .i64 z1]) hF rfl (rv_t (by kernel_rfl) <| rv_nil) rfl ⟨rfl, hS⟩
        · replace hm := if_f hm hb
          refine wpIn_skip ?_
          refine block_n ?_
          refine then_n ?_
          exact ⟨hF.weak [0, 1, 7, 8] (by kernel_rfl), hS, hm⟩
    · refine cond_ev (t := 9) (b := decide (z1 < (s1.length : Int))) hF (by kernel_rfl) (fun hb => ?_) (fun hb => ?_)
      · replace hm := if_t hm hb
        refine wpIn_skip ?_
        refine then_n ?_
        exact ⟨hF.weak [0, 1, 7, 8] (by kernel_rfl), hS, hm⟩
      · replace hm := if_f hm hb
        refine wpIn_exit ?_
        refine then_e (then_e (block_e (then_n ?_)))
        rw [← hφ1] at hm
        replace hm := done_b hm
        unfold slices_IndexFunc_K1 at hm
        try dsimp only at hm
        have hm : (slices_IndexFunc_J1).bind some = some r := hm
        exact ⟨hF.weak [] (by kernel_rfl), hS, hm⟩

noncomputable def slices_ContainsFunc_m  (s1 : List (List Int)) (v1 : List Int) : Option Bool :=
  (slices_IndexFunc_m s1 v1).bind fun r1 => some (decide ((0 : Int) ≤ r1))

set_option maxRecDepth 100000 in
set_option maxHeartbeats 4000000 in
theorem slices_ContainsFunc_w  {A1 : Option Addr} {c1 : Nat} {n1 : Nat} {hd1 : List Hd} {s1 : List (List Int)} {g1 : Nat} {A2 : Option Addr} {c2 : Nat} {n2 : Nat} {v1 : List Int} {r : Bool} {w0 w : World} {B : Nat} {fs : List HP} (hm : slices_ContainsFunc_m s1 v1 = some r) (hS : Sep w0 B w (blk g1 22 #[.slice A2 n2 c2] :: fs)) (hr_s1 : RdRowsF w0 B fs A1 hd1 s1) (_hc_s1 : s1.length ≤ c1) (_hn_s1 : n1 = s1.length) (hr_v1 : RdF w0 B fs A2 (vI v1)) (_hc_v1 : v1.length ≤ c2) (_hn_v1 : n2 = v1.length) :
    Calls Try.prog 124 #[.slice A1 n1 c1, .func (.func 125) #[] #[.pointer (some ⟨g1, 0, none⟩)]] w fun e w' => e = .returned (.bool r) ∧ Sep w0 B w' (blk g1 22 #[.slice A2 n2 c2] :: fs) := by
  obtain ⟨i3, hi3, hz3, hs3, hb3⟩ := info_parts Info3
  obtain rfl := _hn_s1
  obtain rfl := _hn_v1
  unfold slices_ContainsFunc_m at hm
  replace hm := start_b hm
  refine enter (l := [.slice A1 s1.length c1, .func (.func 125) #[] #[.pointer (some ⟨g1, 0, none⟩)]]) (n := 9) Try.func124 rfl rfl (by simp) (fun a hF => ?_)
  refine reg [] [] [0, 1] [pl 0 (.slice A1 s1.length c1), pl 1 (.func (.func 125) #[] #[.pointer (some ⟨g1, 0, none⟩)])] hF hS Fol (by kernel_rfl) (by kernel_rfl) (by kernel_rfl) ?_ (fun a w hF hS => ?_)
  · exact obs_nil
  obtain ⟨r1, hr1, hm⟩ := call_b hm
  refine reg [⟨false, [], callFunc 201 #[.slice A1 s1.length c1, .func (.func 125) #[] #[.pointer (some ⟨g1, 0, none⟩)]], .int .i64 r1⟩] [none, none, some (.int .i64 r1), none, none] [4] [pl 4 (.bool (decide ((0 : Int) ≤ r1)))] hF hS Fol (by kernel_rfl) (by kernel_rfl) (by kernel_rfl) ?_ (fun a w hF hS => ?_)
  · exact obs_cons (ob_call Try.func201 (by kernel_rfl) rfl (fun _ _ hS => slices_IndexFunc_w hr1 hS (fun _ hS => (hr_s1 _ (hS.dropN 0))) _hc_s1 rfl (fun _ hS => (hr_v1 _ (hS.dropN 0))) _hc_v1 rfl)) <| obs_nil
  refine wpIn_ret ?_
  have hm : some (decide ((0 : Int) ≤ r1)) = some r := hm
  obtain rfl := Option.some.inj hm
  exact retV (rs := [.tmp 4]) (vs := [.bool (decide ((0 : Int) ≤ r1))]) hF rfl (rv_t (by kernel_rfl) <| rv_nil) rfl ⟨rfl, hS⟩

noncomputable def draughts_middle_J3  (z1 : Int) : Option (St Int (Fl Unit Int)) :=
  some (.next (w64 (z1 + 1)))

noncomputable def draughts_middle_J2  (from1 : Int) (to1 : Int) (z1 : Int) : Option (St Int (Fl Unit Int)) :=
  (draughts_next_m from1 z1).bind fun r1 => ((if (decide ((0 : Int) < r1)) then draughts_next_m r1 z1 else some 0)).bind fun r2 => if ((decide ((0 : Int) < r1)) && (r2 == to1)) then (some (.done (.ret r1))) else ((draughts_middle_J3 z1))

noncomputable def draughts_middle_J1  : Option Int :=
  some 0

noncomputable def draughts_middle_K1  : (Fl Unit Int) → Option Int :=
  fun (x : (Fl Unit Int)) => match x with | .go _ => draughts_middle_J1 | .ret x => some x

noncomputable def draughts_middle_L1  (from1 : Int) (to1 : Int) : Int → Option (St Int (Fl Unit Int)) :=
  fun (x : Int) => match x with | z1 => if (decide (z1 < 4)) then ((draughts_middle_J2 from1 to1 z1)) else (some (.done (.go ())))

noncomputable def draughts_middle_m  (from1 : Int) (to1 : Int) : Option Int :=
  (loop (draughts_middle_L1 from1 to1) 0).bind draughts_middle_K1

set_option maxRecDepth 100000 in
set_option maxHeartbeats 4000000 in
theorem draughts_middle_w  {from1 : Int} {to1 : Int} {r : Int} {w0 w : World} {B : Nat} {fs : List HP} (hm : draughts_middle_m from1 to1 = some r) (hS : Sep w0 B w (fs)) :
    Calls Try.prog 202 #[.int .i64 from1, .int .i64 to1] w fun e w' => e = .returned (.int .i64 r) ∧ Sep w0 B w' (fs) := by
  unfold draughts_middle_m at hm
  replace hm := start_b hm
  refine enter (l := [.int .i64 from1, .int .i64 to1]) (n := 24) Try.func202 rfl rfl (by simp) (fun a hF => ?_)
  refine reg [] [] [0, 1] [pl 0 (.int .i64 from1), pl 1 (.int .i64 to1)] hF hS Fol (by kernel_rfl) (by kernel_rfl) (by kernel_rfl) ?_ (fun a w hF hS => ?_)
  · exact obs_nil
  refine seq_cut (fun a w => Fr 24 [] a ∧ Sep w0 B w (fs) ∧ (draughts_middle_J1).bind some = some r) ?_ ?_
  · rintro a w ⟨hF, hS, hm⟩
    unfold draughts_middle_J1 at hm
    refine reg [] [] [4] [pl 4 (.int .i64 0)] hF hS Fol (by kernel_rfl) (by kernel_rfl) (by kernel_rfl) ?_ (fun a w hF hS => ?_)
    · exact obs_nil
    refine wpIn_ret ?_
    have hm : some 0 = some r := hm
    obtain rfl := Option.some.inj hm
    exact retV (rs := [.tmp 4]) (vs := [.int .i64 0]) hF rfl (rv_t (by kernel_rfl) <| rv_nil) rfl ⟨rfl, hS⟩
  · refine reg [] [] [0, 1, 7] [pl 0 (.int .i64 from1), pl 1 (.int .i64 to1), pl 7 (.int .i64 0)] hF hS Fol (by kernel_rfl) (by kernel_rfl) (by kernel_rfl) ?_ (fun a w hF hS => ?_)
    · exact obs_nil
    refine wpIn_block ?_
    refine wp_loop_model (S := Int) (R := (Fl Unit Int)) (draughts_middle_L1 from1 to1) (fun x => (draughts_middle_K1 x).bind some) r (fun (x : Int) a w => Fr 24 [pl 0 (.int .i64 from1), pl 1 (.int .i64 to1), pl 7 (.int .i64 x)] a ∧ Sep w0 B w (fs)) (assoc_b hm) ⟨hF.weak [0, 1, 7] (by kernel_rfl), hS⟩ ?_
    clear hF hS hm
    rintro nn1 z1 a w ⟨hF, hS⟩ hm
    generalize hφ1 : stK (draughts_middle_L1 from1 to1) nn1 (fun x => (draughts_middle_K1 x).bind some) = φ1 at hm
    unfold draughts_middle_L1 at hm
    dsimp only at hm
    refine reg [] [] [0, 1, 7, 8] [pl 0 (.int .i64 from1), pl 1 (.int .i64 to1), pl 7 (.int .i64 z1), pl 8 (.bool (decide (z1 < 4)))] hF hS Fol (by kernel_rfl) (by kernel_rfl) (by kernel_rfl) ?_ (fun a w hF hS => ?_)
    · exact obs_nil
    refine seq_cut (fun a w => Fr 24 [pl 0 (.int .i64 from1), pl 1 (.int .i64 to1), pl 7 (.int .i64 z1)] a ∧ Sep w0 B w (fs) ∧ ((draughts_middle_J2 from1 to1 z1)).bind φ1 = some r) ?_ ?_
    · rintro a w ⟨hF, hS, hm⟩
      unfold draughts_middle_J2 at hm
      refine seq_cut (fun a w => Fr 24 [pl 0 (.int .i64 from1), pl 1 (.int .i64 to1), pl 7 (.int .i64 z1)] a ∧ Sep w0 B w (fs) ∧ ((draughts_middle_J3 z1)).bind φ1 = some r) ?_ ?_
      · rintro a w ⟨hF, hS, hm⟩
        unfold draughts_middle_J3 at hm
        refine reg1 [] [] [0, 1, 7] [pl 0 (.int .i64 from1), pl 1 (.int .i64 to1), pl 7 (.int .i64 (w64 (z1 + 1)))] hF hS Fol (by kernel_rfl) (by kernel_rfl) (by kernel_rfl) ?_ (fun a w hF hS => ?_)
        · exact obs_nil
        refine then_n ?_
        rw [← hφ1] at hm
        exact ⟨(w64 (z1 + 1)), ⟨hF.weak [0, 1, 7] (by kernel_rfl), hS⟩, hm⟩
      · refine wpIn_block ?_
        refine reg [] [] [0, 1, 5, 7] [pl 0 (.int .i64 from1), pl 1 (.int .i64 to1), pl 5 (.int .i64 z1), pl 7 (.int .i64 z1)] hF hS Fol (by kernel_rfl) (by kernel_rfl) (by kernel_rfl) ?_ (fun a w hF hS => ?_)
        · exact obs_nil
        obtain ⟨r1, hr1, hm⟩ := call_b hm
        refine reg [⟨false, [], callFunc 199 #[.int .i64 from1, .int .i64 z1], .int .i64 r1⟩] [none, none, some (.int .i64 r1), none] [0, 1, 5, 6, 7] [pl 0 (.int .i64 from1), pl 1 (.int .i64 to1), pl 5 (.int .i64 z1), pl 6 (.int .i64 r1), pl 7 (.int .i64 z1)] hF hS Fol (by kernel_rfl) (by kernel_rfl) (by kernel_rfl) ?_ (fun a w hF hS => ?_)
        · exact obs_cons (ob_call Try.func199 (by kernel_rfl) rfl (fun _ _ hS => draughts_next_w hr1 hS )) <| obs_nil
        obtain ⟨r2, hr2, hm⟩ := call_b hm
        refine reg [⟨false, [(decide ((0 : Int) < r1), true)], callFunc 199 #[.int .i64 r1, .int .i64 z1], .int .i64 r2⟩] [none, none, none, none, none, some (.int .i64 r2), none, none, none] [0, 1, 6, 7, 21] [pl 0 (.int .i64 from1), pl 1 (.int .i64 to1), pl 6 (.int .i64 r1), pl 7 (.int .i64 z1), pl 21 (.bool ((decide ((0 : Int) < r1)) && (r2 == to1)))] hF hS Fol (by kernel_rfl) (by kernel_rfl) (by kernel_rfl) ?_ (fun a w hF hS => ?_)
        · exact obs_cons (ob_call Try.func199 (by kernel_rfl) rfl (fun hy _ hS => draughts_next_w (ite_some hr2 (by rw [show (decide ((0 : Int) < r1)) = true from hy (decide ((0 : Int) < r1), true) (by simp)]; try rfl)) hS )) <| obs_nil
        refine cond_ev (t := 21) (b := (decide ((0 : Int) < r1)) && (r2 == to1)) hF (by kernel_rfl) (fun hb => ?_) (fun hb => ?_)
        · replace hm := if_t hm hb
          refine reg [] [] [4] [pl 4 (.int .i64 r1)] hF hS Fol (by kernel_rfl) (by kernel_rfl) (by kernel_rfl) ?_ (fun a w hF hS => ?_)
          · exact obs_nil
          refine wpIn_ret ?_
          refine block_r (then_r (then_r (block_r (then_r ?_))))
          rw [← hφ1] at hm
          replace hm := done_b hm
          unfold draughts_middle_K1 at hm
          try dsimp only at hm
          have hm : some r1 = some r := hm
          obtain rfl := Option.some.inj hm
          exact retV (rs := [.tmp 4]) (vs := [.int .i64 r1]) hF rfl (rv_t (by kernel_rfl) <| rv_nil) rfl ⟨rfl, hS⟩
        · replace hm := if_f hm hb
          refine wpIn_skip ?_
          refine block_n ?_
          refine then_n ?_
          exact ⟨hF.weak [0, 1, 7] (by kernel_rfl), hS, hm⟩
    · refine cond_ev (t := 8) (b := decide (z1 < 4)) hF (by kernel_rfl) (fun hb => ?_) (fun hb => ?_)
      · replace hm := if_t hm hb
        refine wpIn_skip ?_
        refine then_n ?_
        exact ⟨hF.weak [0, 1, 7] (by kernel_rfl), hS, hm⟩
      · replace hm := if_f hm hb
        refine wpIn_exit ?_
        refine then_e (then_e (block_e (then_n ?_)))
        rw [← hφ1] at hm
        replace hm := done_b hm
        unfold draughts_middle_K1 at hm
        try dsimp only at hm
        have hm : (draughts_middle_J1).bind some = some r := hm
        exact ⟨hF.weak [] (by kernel_rfl), hS, hm⟩

noncomputable def draughts_play_last_2_J1  (place1 : Int) : Option Bool :=
  some (decide ((29 : Int) ≤ place1))

noncomputable def draughts_play_last_2_m  (p_b1 : List Int) (p_sign1 : Int) (place1 : Int) : Option Bool :=
  if (decide ((0 : Int) < p_sign1)) then (some (decide (place1 ≤ 4))) else ((draughts_play_last_2_J1 place1))

set_option maxRecDepth 100000 in
set_option maxHeartbeats 4000000 in
theorem draughts_play_last_2_w  {g1 : Nat} {A1 : Option Addr} {c1 : Nat} {n1 : Nat} {p_b1 : List Int} {p_sign1 : Int} {j1 : Value} {place1 : Int} {r : Bool} {w0 w : World} {B : Nat} {fs : List HP} (hm : draughts_play_last_2_m p_b1 p_sign1 place1 = some r) (hS : Sep w0 B w (blk g1 169 #[.slice A1 n1 c1, .int .i64 p_sign1, j1] :: own 3 (.slice A1 n1 c1) (vI p_b1) :: fs)) :
    Calls Try.prog 203 #[.pointer (some ⟨g1, 0, none⟩), .int .i64 place1] w fun e w' => e = .returned (.bool r) ∧ Sep w0 B w' (blk g1 169 #[.slice A1 n1 c1, .int .i64 p_sign1, j1] :: own 3 (.slice A1 n1 c1) (vI p_b1) :: fs) := by
  obtain ⟨i3, hi3, hz3, hs3, hb3⟩ := info_parts Info3
  obtain rfl := (hS.at_ 1 rfl).len1
  unfold draughts_play_last_2_m at hm
  replace hm := start_b hm
  refine enter (l := [.pointer (some ⟨g1, 0, none⟩), .int .i64 place1]) (n := 14) Try.func203 rfl rfl (by simp) (fun a hF => ?_)
  refine reg [] [] [0, 1] [pl 0 (.pointer (some ⟨g1, 0, none⟩)), pl 1 (.int .i64 place1)] hF hS Fol (by kernel_rfl) (by kernel_rfl) (by kernel_rfl) ?_ (fun a w hF hS => ?_)
  · exact obs_nil
  refine seq_cut (fun a w => Fr 14 [pl 1 (.int .i64 place1)] a ∧ Sep w0 B w (blk g1 169 #[.slice A1 p_b1.length c1, .int .i64 p_sign1, j1] :: own 3 (.slice A1 p_b1.length c1) (vI p_b1) :: fs) ∧ ((draughts_play_last_2_J1 place1)).bind some = some r) ?_ ?_
  · rintro a w ⟨hF, hS, hm⟩
    unfold draughts_play_last_2_J1 at hm
    refine reg [] [] [4] [pl 4 (.bool (decide ((29 : Int) ≤ place1)))] hF hS Fol (by kernel_rfl) (by kernel_rfl) (by kernel_rfl) ?_ (fun a w hF hS => ?_)
    · exact obs_nil
    refine wpIn_ret ?_
    have hm : some (decide ((29 : Int) ≤ place1)) = some r := hm
    obtain rfl := Option.some.inj hm
    exact retV (rs := [.tmp 4]) (vs := [.bool (decide ((29 : Int) ≤ place1))]) hF rfl (rv_t (by kernel_rfl) <| rv_nil) rfl ⟨rfl, hS⟩
  · refine reg [⟨false, [], vS (Instr.loadAt 3 (.pointer (some ⟨g1, 1, none⟩))), .int .i64 p_sign1⟩] [none, none, none, some (.int .i64 p_sign1), none] [1, 9] [pl 1 (.int .i64 place1), pl 9 (.bool (decide ((0 : Int) < p_sign1)))] hF hS Fol (by kernel_rfl) (by kernel_rfl) (by kernel_rfl) ?_ (fun a w hF hS => ?_)
    · exact obs_cons (ob_load Agg3 (fun _ _ hS => (hS.at_ 0 rfl).cell rfl)) <| obs_nil
    refine cond_ev (t := 9) (b := decide ((0 : Int) < p_sign1)) hF (by kernel_rfl) (fun hb => ?_) (fun hb => ?_)
    · replace hm := if_t hm hb
      refine reg [] [] [4] [pl 4 (.bool (decide (place1 ≤ 4)))] hF hS Fol (by kernel_rfl) (by kernel_rfl) (by kernel_rfl) ?_ (fun a w hF hS => ?_)
      · exact obs_nil
      refine wpIn_ret ?_
      refine then_r ?_
      have hm : some (decide (place1 ≤ 4)) = some r := hm
      obtain rfl := Option.some.inj hm
      exact retV (rs := [.tmp 4]) (vs := [.bool (decide (place1 ≤ 4))]) hF rfl (rv_t (by kernel_rfl) <| rv_nil) rfl ⟨rfl, hS⟩
    · replace hm := if_f hm hb
      refine wpIn_skip ?_
      refine then_n ?_
      exact ⟨hF.weak [1] (by kernel_rfl), hS, hm⟩

noncomputable def draughts_play_do_J4  (i1 : Int) (p4 : List Int) : Option (St (List Int × Int) (List Int)) :=
  some (.next (p4, (w64 (i1 + 1))))

noncomputable def draughts_play_do_J3  (p_b1 : List Int) (way1 : List Int) (p2 : List Int) (i1 : Int) : Option (St (List Int × Int) (List Int)) :=
  asrt (0 ≤ (w64 (i1 - 1)) ∧ (w64 (i1 - 1)) < (way1.length : Int)) <| asrt (0 ≤ i1 ∧ i1 < (way1.length : Int)) <| (draughts_middle_m (geti way1 (w64 (i1 - 1))) (geti way1 i1)).bind fun r1 => if (decide ((0 : Int) < r1)) then (asrt (0 ≤ r1 ∧ r1 < (p_b1.length : Int)) <| (draughts_play_do_J4 i1) (p2.set (Int.toNat r1) 0)) else ((draughts_play_do_J4 i1) p2)

noncomputable def draughts_play_do_J1  (p5 : List Int) : Option (List Int) :=
  some p5

noncomputable def draughts_play_do_J5  (p_b1 : List Int) (way1 : List Int) (p3 : List Int) (piece1 : Int) : Option (List Int) :=
  asrt (0 ≤ (geti way1 (w64 ((way1.length : Int) - 1))) ∧ (geti way1 (w64 ((way1.length : Int) - 1))) < (p_b1.length : Int)) <| draughts_play_do_J1 (p3.set (Int.toNat (geti way1 (w64 ((way1.length : Int) - 1)))) piece1)

noncomputable def draughts_play_do_J2  (p_b1 : List Int) (p_sign1 : Int) (way1 : List Int) (p3 : List Int) : Option (List Int) :=
  (draughts_play_last_2_m p3 p_sign1 (geti way1 (w64 ((way1.length : Int) - 1)))).bind fun r2 => if r2 then ((draughts_play_do_J5 p_b1 way1 p3) (w64 (2 * p_sign1))) else ((draughts_play_do_J5 p_b1 way1 p3) (geti p_b1 (geti way1 0)))

noncomputable def draughts_play_do_K1  (p_b1 : List Int) (p_sign1 : Int) (way1 : List Int) : (List Int) → Option (List Int) :=
  fun (x : (List Int)) => match x with | p3 => (draughts_play_do_J2 p_b1 p_sign1 way1) p3

noncomputable def draughts_play_do_L1  (p_b1 : List Int) (way1 : List Int) : (List Int × Int) → Option (St (List Int × Int) (List Int)) :=
  fun (x : (List Int × Int)) => match x with | (p2, i1) => if (decide (i1 < (way1.length : Int))) then ((draughts_play_do_J3 p_b1 way1 p2 i1)) else (some (.done p2))

noncomputable def draughts_play_do_m  (p_b1 : List Int) (p_sign1 : Int) (way1 : List Int) : Option (List Int) :=
  asrt (0 ≤ (w64 ((way1.length : Int) - 1)) ∧ (w64 ((way1.length : Int) - 1)) < (way1.length : Int)) <| asrt (0 ≤ (0 : Int) ∧ (0 : Int) < (way1.length : Int)) <| asrt (0 ≤ (geti way1 0) ∧ (geti way1 0) < (p_b1.length : Int)) <| asrt (0 ≤ (0 : Int) ∧ (0 : Int) < (way1.length : Int)) <| asrt (0 ≤ (geti way1 0) ∧ (geti way1 0) < (p_b1.length : Int)) <| (loop (draughts_play_do_L1 p_b1 way1) ((p_b1.set (Int.toNat (geti way1 0)) 0), 1)).bind (draughts_play_do_K1 p_b1 p_sign1 way1)

set_option maxRecDepth 100000 in
set_option maxHeartbeats 4000000 in
theorem draughts_play_do_w  {g1 : Nat} {A1 : Option Addr} {c1 : Nat} {n1 : Nat} {p_b1 : List Int} {p_sign1 : Int} {j1 : Value} {A2 : Option Addr} {c2 : Nat} {n2 : Nat} {way1 : List Int} {r : (List Int)} {w0 w : World} {B : Nat} {fs : List HP} (hm : draughts_play_do_m p_b1 p_sign1 way1 = some r) (hS : Sep w0 B w (blk g1 169 #[.slice A1 n1 c1, .int .i64 p_sign1, j1] :: own 3 (.slice A1 n1 c1) (vI p_b1) :: fs)) (hr_way1 : RdF w0 B fs A2 (vI way1)) (_hc_way1 : way1.length ≤ c2) (_hn_way1 : n2 = way1.length) :
    Calls Try.prog 127 #[.pointer (some ⟨g1, 0, none⟩), .slice A2 n2 c2] w fun e w' => ∃ v, e = .returned v ∧ v = .tuple #[] ∧ Sep w0 B w' (blk g1 169 #[.slice A1 n1 c1, .int .i64 p_sign1, j1] :: own 3 (.slice A1 n1 c1) (vI r) :: fs) := by
  obtain ⟨i3, hi3, hz3, hs3, hb3⟩ := info_parts Info3
  obtain rfl := (hS.at_ 1 rfl).len1
  obtain rfl := _hn_way1
  unfold draughts_play_do_m at hm
  replace hm := start_b hm
  refine enter (l := [.pointer (some ⟨g1, 0, none⟩), .slice A2 way1.length c2]) (n := 70) Try.func127 rfl rfl (by simp) (fun a hF => ?_)
  refine end_cut (fun a w => ∃ (p5 : List Int), Fr 70 [] a ∧ Sep w0 B w (blk g1 169 #[.slice A1 p_b1.length c1, .int .i64 p_sign1, j1] :: own 3 (.slice A1 p_b1.length c1) (vI p5) :: fs) ∧ (draughts_play_do_J1 p5).bind some = some r) ?_ ?_
  · rintro a w ⟨p5, hF, hS, hm⟩
    unfold draughts_play_do_J1 at hm
    have hm : some p5 = some r := hm
    obtain rfl := Option.some.inj hm
    exact endV (rs := []) (vs := []) hF rfl (rv_nil) rfl ⟨_, rfl, rfl, hS⟩ rfl
  · obtain ⟨hp1, hm⟩ := asrt_b hm
    refine reg [⟨true, [], vS (Instr.indexAt 22 (.slice A2 way1.length c2) (.int .i64 (w64 ((way1.length : Int) - 1)))), .pointer (some (sAddr A2 (w64 ((way1.length : Int) - 1))))⟩, ⟨false, [], vS (Instr.loadAt 3 (.pointer (some (sAddr A2 (w64 ((way1.length : Int) - 1)))))), .int .i64 (geti way1 (w64 ((way1.length : Int) - 1)))⟩] [none, none, none, none, some (.pointer (some (sAddr A2 (w64 ((way1.length : Int) - 1))))), some (.int .i64 (geti way1 (w64 ((way1.length : Int) - 1)))), none] [0, 1, 4] [pl 0 (.pointer (some ⟨g1, 0, none⟩)), pl 1 (.slice A2 way1.length c2), pl 4 (.int .i64 (geti way1 (w64 ((way1.length : Int) - 1))))] hF hS Fol (by kernel_rfl) (by kernel_rfl) (by kernel_rfl) ?_ (fun a w hF hS => ?_)
    · exact obs_cons (ob_ix1 (f := (Value.int .i64)) (m := way1) Und22 hi3 hs3 (hr_way1 _ (hS.dropN 2)) rfl (fun _ => hp1)) <| obs_cons (ob_get1 (n := way1.length) (m := way1) (Value.int .i64) (0 : Int) Agg3 (fun _ hS => ⟨_, (hr_way1 _ (hS.dropN 2))⟩) (fun _ hS => rfl) (fun _ => hp1)) <| obs_nil
    obtain ⟨hp2, hm⟩ := asrt_b hm
    obtain ⟨hp3, hm⟩ := asrt_b hm
    refine reg [⟨false, [], vS (Instr.loadAt 22 (.pointer (some ⟨g1, 0, none⟩))), .slice A1 p_b1.length c1⟩, ⟨true, [], vS (Instr.indexAt 22 (.slice A2 way1.length c2) (.int .i64 0)), .pointer (some (sAddr A2 0))⟩, ⟨false, [], vS (Instr.loadAt 3 (.pointer (some (sAddr A2 0)))), .int .i64 (geti way1 0)⟩, ⟨true, [], vS (Instr.indexAt 22 (.slice A1 p_b1.length c1) (.int .i64 (geti way1 0))), .pointer (some (sAddr A1 (geti way1 0)))⟩, ⟨false, [], vS (Instr.loadAt 3 (.pointer (some (sAddr A1 (geti way1 0))))), .int .i64 (geti p_b1 (geti way1 0))⟩] [none, none, none, some (.slice A1 p_b1.length c1), none, some (.pointer (some (sAddr A2 0))), some (.int .i64 (geti way1 0)), some (.pointer (some (sAddr A1 (geti way1 0)))), some (.int .i64 (geti p_b1 (geti way1 0))), none] [0, 1, 4, 5] [pl 0 (.pointer (some ⟨g1, 0, none⟩)), pl 1 (.slice A2 way1.length c2), pl 4 (.int .i64 (geti way1 (w64 ((way1.length : Int) - 1)))), pl 5 (.int .i64 (geti p_b1 (geti way1 0)))] hF hS Fol (by kernel_rfl) (by kernel_rfl) (by kernel_rfl) ?_ (fun a w hF hS => ?_)
    · exact obs_cons (ob_load Agg22 (fun _ _ hS => (hS.at_ 0 rfl).cell rfl)) <| obs_cons (ob_ix1 (f := (Value.int .i64)) (m := way1) Und22 hi3 hs3 (hr_way1 _ (hS.dropN 2)) rfl (fun _ => hp2)) <| obs_cons (ob_get1 (n := way1.length) (m := way1) (Value.int .i64) (0 : Int) Agg3 (fun _ hS => ⟨_, (hr_way1 _ (hS.dropN 2))⟩) (fun _ hS => rfl) (fun _ => hp2)) <| obs_cons (ob_ix1 (f := (Value.int .i64)) (m := p_b1) Und22 hi3 hs3 (hS.at_ 1 rfl).rd rfl (fun _ => hp3)) <| obs_cons (ob_get1 (n := p_b1.length) (m := p_b1) (Value.int .i64) (0 : Int) Agg3 (fun _ hS => ⟨_, (hS.at_ 1 rfl).rd⟩) (fun _ hS => rfl) (fun _ => hp3)) <| obs_nil
    refine wpIn_seq ?_
    obtain ⟨hp4, hm⟩ := asrt_b hm
    obtain ⟨hp5, hm⟩ := asrt_b hm
    refine regMix4 [0, 1, 2, 3, 4, 5, 6, 7] [8] [⟨false, [], vS (Instr.loadAt 22 (.pointer (some ⟨g1, 0, none⟩))), .slice A1 p_b1.length c1⟩, ⟨true, [], vS (Instr.indexAt 22 (.slice A2 way1.length c2) (.int .i64 0)), .pointer (some (sAddr A2 0))⟩, ⟨false, [], vS (Instr.loadAt 3 (.pointer (some (sAddr A2 0)))), .int .i64 (geti way1 0)⟩, ⟨true, [], vS (Instr.indexAt 22 (.slice A1 p_b1.length c1) (.int .i64 (geti way1 0))), .pointer (some (sAddr A1 (geti way1 0)))⟩] [none, none, none, some (.slice A1 p_b1.length c1), none, some (.pointer (some (sAddr A2 0))), some (.int .i64 (geti way1 0)), some (.pointer (some (sAddr A1 (geti way1 0))))] [0, 1, 4, 5, 30] [pl 0 (.pointer (some ⟨g1, 0, none⟩)), pl 1 (.slice A2 way1.length c2), pl 4 (.int .i64 (geti way1 (w64 ((way1.length : Int) - 1)))), pl 5 (.int .i64 (geti p_b1 (geti way1 0))), pl 30 (.pointer (some (sAddr A1 (geti way1 0))))] hF hS Fol (by kernel_rfl) (by kernel_rfl) (by kernel_rfl) (by kernel_rfl) (by kernel_rfl) ?_ (fun a w hF hS => ?_)
    · exact obs_cons (ob_load Agg22 (fun _ _ hS => (hS.at_ 0 rfl).cell rfl)) <| obs_cons (ob_ix1 (f := (Value.int .i64)) (m := way1) Und22 hi3 hs3 (hr_way1 _ (hS.dropN 2)) rfl (fun _ => hp4)) <| obs_cons (ob_get1 (n := way1.length) (m := way1) (Value.int .i64) (0 : Int) Agg3 (fun _ hS => ⟨_, (hr_way1 _ (hS.dropN 2))⟩) (fun _ hS => rfl) (fun _ => hp4)) <| obs_cons (ob_ix1 (f := (Value.int .i64)) (m := p_b1) Und22 hi3 hs3 (hS.at_ 1 rfl).rd rfl (fun _ => hp5)) <| obs_nil
    obtain ⟨w, hrun, hS⟩ := run_set1 (P := Try.prog) (t := 3) (x := 0) (Value.int .i64) (hS.at_ 1 rfl) hi3 hs3 rfl rfl hp5
    refine at_skip hF (by kernel_rfl) hrun ?_
    have hS : Sep w0 B w (blk g1 169 #[.slice A1 p_b1.length c1, .int .i64 p_sign1, j1] :: own 3 (.slice A1 p_b1.length c1) (vI (p_b1.set (Int.toNat (geti way1 0)) 0)) :: fs) := hS
    refine at_end [0, 1, 4, 5] [pl 0 (.pointer (some ⟨g1, 0, none⟩)), pl 1 (.slice A2 way1.length c2), pl 4 (.int .i64 (geti way1 (w64 ((way1.length : Int) - 1)))), pl 5 (.int .i64 (geti p_b1 (geti way1 0)))] hF rfl (by kernel_rfl) (fun hF => ?_)
    refine np_n ?_
    refine then_n ?_
    refine seq_cut (fun a w => ∃ (p3 : List Int), Fr 70 [pl 0 (.pointer (some ⟨g1, 0, none⟩)), pl 4 (.int .i64 (geti way1 (w64 ((way1.length : Int) - 1)))), pl 5 (.int .i64 (geti p_b1 (geti way1 0)))] a ∧ Sep w0 B w (blk g1 169 #[.slice A1 p_b1.length c1, .int .i64 p_sign1, j1] :: own 3 (.slice A1 p_b1.length c1) (vI p3) :: fs) ∧ ((draughts_play_do_J2 p_b1 p_sign1 way1) p3).bind some = some r) ?_ ?_
    · rintro a w ⟨p3, hF, hS, hm⟩
      unfold draughts_play_do_J2 at hm
      refine seq_cut (fun a w => ∃ (piece1 : Int), Fr 70 [pl 0 (.pointer (some ⟨g1, 0, none⟩)), pl 4 (.int .i64 (geti way1 (w64 ((way1.length : Int) - 1)))), pl 5 (.int .i64 piece1)] a ∧ Sep w0 B w (blk g1 169 #[.slice A1 p_b1.length c1, .int .i64 p_sign1, j1] :: own 3 (.slice A1 p_b1.length c1) (vI p3) :: fs) ∧ ((draughts_play_do_J5 p_b1 way1 p3) piece1).bind some = some r) ?_ ?_
      · rintro a w ⟨piece1, hF, hS, hm⟩
        unfold draughts_play_do_J5 at hm
        refine oneR ?_
        obtain ⟨hp9, hm⟩ := asrt_b hm
        refine at_run 7 [⟨false, [], vS (Instr.loadAt 22 (.pointer (some ⟨g1, 0, none⟩))), .slice A1 p_b1.length c1⟩, ⟨true, [], vS (Instr.indexAt 22 (.slice A1 p_b1.length c1) (.int .i64 (geti way1 (w64 ((way1.length : Int) - 1))))), .pointer (some (sAddr A1 (geti way1 (w64 ((way1.length : Int) - 1)))))⟩] [none, none, none, some (.slice A1 p_b1.length c1), none, none, some (.pointer (some (sAddr A1 (geti way1 (w64 ((way1.length : Int) - 1))))))] [68, 69] [pl 68 (.int .i64 piece1), pl 69 (.pointer (some (sAddr A1 (geti way1 (w64 ((way1.length : Int) - 1))))))] hF hS (by kernel_rfl) (by kernel_rfl) ?_ (fun a w hF hS => ?_)
        · exact obs_cons (ob_load Agg22 (fun _ _ hS => (hS.at_ 0 rfl).cell rfl)) <| obs_cons (ob_ix1 (f := (Value.int .i64)) (m := p3) Und22 hi3 hs3 (hS.at_ 1 rfl).rd ((hS.at_ 1 rfl).len1) (fun _ => hp9)) <| obs_nil
        obtain ⟨w, hrun, hS⟩ := run_set1 (P := Try.prog) (t := 3) (x := piece1) (Value.int .i64) (hS.at_ 1 rfl) hi3 hs3 rfl rfl hp9
        refine at_skip hF (by kernel_rfl) hrun ?_
        have hS : Sep w0 B w (blk g1 169 #[.slice A1 p_b1.length c1, .int .i64 p_sign1, j1] :: own 3 (.slice A1 p_b1.length c1) (vI (p3.set (Int.toNat (geti way1 (w64 ((way1.length : Int) - 1)))) piece1)) :: fs) := hS
        refine at_end [] [] hF rfl (by kernel_rfl) (fun hF => ?_)
        refine then_n ?_
        exact ⟨(p3.set (Int.toNat (geti way1 (w64 ((way1.length : Int) - 1)))) piece1), hF.weak [] (by kernel_rfl), hS, hm⟩
      · obtain ⟨r2, hr2, hm⟩ := call_b hm
        refine reg [⟨false, [], callFunc 203 #[.pointer (some ⟨g1, 0, none⟩), .int .i64 (geti way1 (w64 ((way1.length : Int) - 1)))], .bool r2⟩] [none, none, some (.bool r2)] [0, 4, 5, 57] [pl 0 (.pointer (some ⟨g1, 0, none⟩)), pl 4 (.int .i64 (geti way1 (w64 ((way1.length : Int) - 1)))), pl 5 (.int .i64 (geti p_b1 (geti way1 0))), pl 57 (.bool r2)] hF hS Fol (by kernel_rfl) (by kernel_rfl) (by kernel_rfl) ?_ (fun a w hF hS => ?_)
        · exact obs_cons (ob_call Try.func203 (by kernel_rfl) rfl (fun _ _ hS => draughts_play_last_2_w hr2 hS )) <| obs_nil
        refine cond_ev (t := 57) (b := r2) hF (by kernel_rfl) (fun hb => ?_) (fun hb => ?_)
        · replace hm := if_t hm hb
          refine reg1 [⟨false, [], vS (Instr.loadAt 3 (.pointer (some ⟨g1, 1, none⟩))), .int .i64 p_sign1⟩] [none, none, none, some (.int .i64 p_sign1), none, none] [0, 4, 5] [pl 0 (.pointer (some ⟨g1, 0, none⟩)), pl 4 (.int .i64 (geti way1 (w64 ((way1.length : Int) - 1)))), pl 5 (.int .i64 (w64 (2 * p_sign1)))] hF hS Fol (by kernel_rfl) (by kernel_rfl) (by kernel_rfl) ?_ (fun a w hF hS => ?_)
          · exact obs_cons (ob_load Agg3 (fun _ _ hS => (hS.at_ 0 rfl).cell rfl)) <| obs_nil
          refine then_n ?_
          exact ⟨(w64 (2 * p_sign1)), hF.weak [0, 4, 5] (by kernel_rfl), hS, hm⟩
        · replace hm := if_f hm hb
          refine wpIn_skip ?_
          refine then_n ?_
          exact ⟨(geti p_b1 (geti way1 0)), hF.weak [0, 4, 5] (by kernel_rfl), hS, hm⟩
    · refine reg [] [] [0, 1, 4, 5, 6] [pl 0 (.pointer (some ⟨g1, 0, none⟩)), pl 1 (.slice A2 way1.length c2), pl 4 (.int .i64 (geti way1 (w64 ((way1.length : Int) - 1)))), pl 5 (.int .i64 (geti p_b1 (geti way1 0))), pl 6 (.int .i64 1)] hF hS Fol (by kernel_rfl) (by kernel_rfl) (by kernel_rfl) ?_ (fun a w hF hS => ?_)
      · exact obs_nil
      refine wpIn_block ?_
      refine wp_loop_model (S := (List Int × Int)) (R := (List Int)) (draughts_play_do_L1 p_b1 way1) (fun x => ((draughts_play_do_K1 p_b1 p_sign1 way1) x).bind some) r (fun (x : (List Int × Int)) a w => Fr 70 [pl 0 (.pointer (some ⟨g1, 0, none⟩)), pl 1 (.slice A2 way1.length c2), pl 4 (.int .i64 (geti way1 (w64 ((way1.length : Int) - 1)))), pl 5 (.int .i64 (geti p_b1 (geti way1 0))), pl 6 (.int .i64 x.2)] a ∧ Sep w0 B w (blk g1 169 #[.slice A1 p_b1.length c1, .int .i64 p_sign1, j1] :: own 3 (.slice A1 p_b1.length c1) (vI x.1) :: fs)) (assoc_b hm) ⟨hF.weak [0, 1, 4, 5, 6] (by kernel_rfl), hS⟩ ?_
      clear hF hS hm
      rintro nn1 ⟨p2, i1⟩ a w ⟨hF, hS⟩ hm
      generalize hφ1 : stK (draughts_play_do_L1 p_b1 way1) nn1 (fun x => ((draughts_play_do_K1 p_b1 p_sign1 way1) x).bind some) = φ1 at hm
      unfold draughts_play_do_L1 at hm
      dsimp only at hF hS hm
      refine seq_cut (fun a w => Fr 70 [pl 0 (.pointer (some ⟨g1, 0, none⟩)), pl 1 (.slice A2 way1.length c2), pl 4 (.int .i64 (geti way1 (w64 ((way1.length : Int) - 1)))), pl 5 (.int .i64 (geti p_b1 (geti way1 0))), pl 6 (.int .i64 i1)] a ∧ Sep w0 B w (blk g1 169 #[.slice A1 p_b1.length c1, .int .i64 p_sign1, j1] :: own 3 (.slice A1 p_b1.length c1) (vI p2) :: fs) ∧ ((draughts_play_do_J3 p_b1 way1 p2 i1)).bind φ1 = some r) ?_ ?_
      · rintro a w ⟨hF, hS, hm⟩
        unfold draughts_play_do_J3 at hm
        refine seq_cut (fun a w => ∃ (p4 : List Int), Fr 70 [pl 0 (.pointer (some ⟨g1, 0, none⟩)), pl 1 (.slice A2 way1.length c2), pl 4 (.int .i64 (geti way1 (w64 ((way1.length : Int) - 1)))), pl 5 (.int .i64 (geti p_b1 (geti way1 0))), pl 6 (.int .i64 i1)] a ∧ Sep w0 B w (blk g1 169 #[.slice A1 p_b1.length c1, .int .i64 p_sign1, j1] :: own 3 (.slice A1 p_b1.length c1) (vI p4) :: fs) ∧ ((draughts_play_do_J4 i1) p4).bind φ1 = some r) ?_ ?_
        · rintro a w ⟨p4, hF, hS, hm⟩
          unfold draughts_play_do_J4 at hm
          refine reg1 [] [] [0, 1, 4, 5, 6] [pl 0 (.pointer (some ⟨g1, 0, none⟩)), pl 1 (.slice A2 way1.length c2), pl 4 (.int .i64 (geti way1 (w64 ((way1.length : Int) - 1)))), pl 5 (.int .i64 (geti p_b1 (geti way1 0))), pl 6 (.int .i64 (w64 (i1 + 1)))] hF hS Fol (by kernel_rfl) (by kernel_rfl) (by kernel_rfl) ?_ (fun a w hF hS => ?_)
          · exact obs_nil
          refine then_n ?_
          rw [← hφ1] at hm
          exact ⟨(p4, (w64 (i1 + 1))), ⟨hF.weak [0, 1, 4, 5, 6] (by kernel_rfl), hS⟩, hm⟩
        · refine wpIn_block ?_
          obtain ⟨hp6, hm⟩ := asrt_b hm
          obtain ⟨hp7, hm⟩ := asrt_b hm
          obtain ⟨r1, hr1, hm⟩ := call_b hm
          refine reg [⟨true, [], vS (Instr.indexAt 22 (.slice A2 way1.length c2) (.int .i64 (w64 (i1 - 1)))), .pointer (some (sAddr A2 (w64 (i1 - 1))))⟩, ⟨false, [], vS (Instr.loadAt 3 (.pointer (some (sAddr A2 (w64 (i1 - 1)))))), .int .i64 (geti way1 (w64 (i1 - 1)))⟩, ⟨true, [], vS (Instr.indexAt 22 (.slice A2 way1.length c2) (.int .i64 i1)), .pointer (some (sAddr A2 i1))⟩, ⟨false, [], vS (Instr.loadAt 3 (.pointer (some (sAddr A2 i1)))), .int .i64 (geti way1 i1)⟩, ⟨false, [], callFunc 202 #[.int .i64 (geti way1 (w64 (i1 - 1))), .int .i64 (geti way1 i1)], .int .i64 r1⟩] [none, none, none, some (.pointer (some (sAddr A2 (w64 (i1 - 1))))), some (.int .i64 (geti way1 (w64 (i1 - 1)))), none, none, some (.pointer (some (sAddr A2 i1))), some (.int .i64 (geti way1 i1)), some (.int .i64 r1), none] [0, 1, 4, 5, 6, 7] [pl 0 (.pointer (some ⟨g1, 0, none⟩)), pl 1 (.slice A2 way1.length c2), pl 4 (.int .i64 (geti way1 (w64 ((way1.length : Int) - 1)))), pl 5 (.int .i64 (geti p_b1 (geti way1 0))), pl 6 (.int .i64 i1), pl 7 (.int .i64 r1)] hF hS Fol (by kernel_rfl) (by kernel_rfl) (by kernel_rfl) ?_ (fun a w hF hS => ?_)
          · exact obs_cons (ob_ix1 (f := (Value.int .i64)) (m := way1) Und22 hi3 hs3 (hr_way1 _ (hS.dropN 2)) rfl (fun _ => hp6)) <| obs_cons (ob_get1 (n := way1.length) (m := way1) (Value.int .i64) (0 : Int) Agg3 (fun _ hS => ⟨_, (hr_way1 _ (hS.dropN 2))⟩) (fun _ hS => rfl) (fun _ => hp6)) <| obs_cons (ob_ix1 (f := (Value.int .i64)) (m := way1) Und22 hi3 hs3 (hr_way1 _ (hS.dropN 2)) rfl (fun _ => hp7)) <| obs_cons (ob_get1 (n := way1.length) (m := way1) (Value.int .i64) (0 : Int) Agg3 (fun _ hS => ⟨_, (hr_way1 _ (hS.dropN 2))⟩) (fun _ hS => rfl) (fun _ => hp7)) <| obs_cons (ob_call Try.func202 (by kernel_rfl) rfl (fun _ _ hS => draughts_middle_w hr1 hS )) <| obs_nil
          refine reg [] [] [0, 1, 4, 5, 6, 7, 48] [pl 0 (.pointer (some ⟨g1, 0, none⟩)), pl 1 (.slice A2 way1.length c2), pl 4 (.int .i64 (geti way1 (w64 ((way1.length : Int) - 1)))), pl 5 (.int .i64 (geti p_b1 (geti way1 0))), pl 6 (.int .i64 i1), pl 7 (.int .i64 r1), pl 48 (.bool (decide ((0 : Int) < r1)))] hF hS Fol (by kernel_rfl) (by kernel_rfl) (by kernel_rfl) ?_ (fun a w hF hS => ?_)
          · exact obs_nil
          refine cond_ev (t := 48) (b := decide ((0 : Int) < r1)) hF (by kernel_rfl) (fun hb => ?_) (fun hb => ?_)
          · replace hm := if_t hm hb
            refine oneR ?_
            obtain ⟨hp8, hm⟩ := asrt_b hm
            refine at_run 6 [⟨false, [], vS (Instr.loadAt 22 (.pointer (some ⟨g1, 0, none⟩))), .slice A1 p_b1.length c1⟩, ⟨true, [], vS (Instr.indexAt 22 (.slice A1 p_b1.length c1) (.int .i64 r1)), .pointer (some (sAddr A1 r1))⟩] [none, none, none, some (.slice A1 p_b1.length c1), none, some (.pointer (some (sAddr A1 r1)))] [0, 1, 4, 5, 6, 54] [pl 0 (.pointer (some ⟨g1, 0, none⟩)), pl 1 (.slice A2 way1.length c2), pl 4 (.int .i64 (geti way1 (w64 ((way1.length : Int) - 1)))), pl 5 (.int .i64 (geti p_b1 (geti way1 0))), pl 6 (.int .i64 i1), pl 54 (.pointer (some (sAddr A1 r1)))] hF hS (by kernel_rfl) (by kernel_rfl) ?_ (fun a w hF hS => ?_)
            · exact obs_cons (ob_load Agg22 (fun _ _ hS => (hS.at_ 0 rfl).cell rfl)) <| obs_cons (ob_ix1 (f := (Value.int .i64)) (m := p2) Und22 hi3 hs3 (hS.at_ 1 rfl).rd ((hS.at_ 1 rfl).len1) (fun _ => hp8)) <| obs_nil
            obtain ⟨w, hrun, hS⟩ := run_set1 (P := Try.prog) (t := 3) (x := 0) (Value.int .i64) (hS.at_ 1 rfl) hi3 hs3 rfl rfl hp8
            refine at_skip hF (by kernel_rfl) hrun ?_
            have hS : Sep w0 B w (blk g1 169 #[.slice A1 p_b1.length c1, .int .i64 p_sign1, j1] :: own 3 (.slice A1 p_b1.length c1) (vI (p2.set (Int.toNat r1) 0)) :: fs) := hS
            refine at_end [0, 1, 4, 5, 6] [pl 0 (.pointer (some ⟨g1, 0, none⟩)), pl 1 (.slice A2 way1.length c2), pl 4 (.int .i64 (geti way1 (w64 ((way1.length : Int) - 1)))), pl 5 (.int .i64 (geti p_b1 (geti way1 0))), pl 6 (.int .i64 i1)] hF rfl (by kernel_rfl) (fun hF => ?_)
            refine block_n ?_
            refine then_n ?_
            exact ⟨(p2.set (Int.toNat r1) 0), hF.weak [0, 1, 4, 5, 6] (by kernel_rfl), hS, hm⟩
          · replace hm := if_f hm hb
            refine wpIn_skip ?_
            refine block_n ?_
            refine then_n ?_
            exact ⟨p2, hF.weak [0, 1, 4, 5, 6] (by kernel_rfl), hS, hm⟩
      · refine reg [] [] [0, 1, 4, 5, 6, 34] [pl 0 (.pointer (some ⟨g1, 0, none⟩)), pl 1 (.slice A2 way1.length c2), pl 4 (.int .i64 (geti way1 (w64 ((way1.length : Int) - 1)))), pl 5 (.int .i64 (geti p_b1 (geti way1 0))), pl 6 (.int .i64 i1), pl 34 (.bool (decide (i1 < (way1.length : Int))))] hF hS Fol (by kernel_rfl) (by kernel_rfl) (by kernel_rfl) ?_ (fun a w hF hS => ?_)
        · exact obs_nil
        refine cond_ev (t := 34) (b := decide (i1 < (way1.length : Int))) hF (by kernel_rfl) (fun hb => ?_) (fun hb => ?_)
        · replace hm := if_t hm hb
          refine wpIn_skip ?_
          refine then_n ?_
          exact ⟨hF.weak [0, 1, 4, 5, 6] (by kernel_rfl), hS, hm⟩
        · replace hm := if_f hm hb
          refine wpIn_exit ?_
          refine then_e (then_e (block_e (then_n ?_)))
          rw [← hφ1] at hm
          replace hm := done_b hm
          unfold draughts_play_do_K1 at hm
          try dsimp only at hm
          have hm : ((draughts_play_do_J2 p_b1 p_sign1 way1) p2).bind some = some r := hm
          exact ⟨p2, hF.weak [0, 4, 5] (by kernel_rfl), hS, hm⟩

noncomputable def draughts_Do_J2  (b2 : Int) (way1 : List Int) (r2 : (List Int × Int × List (List Int))) : Option (List Int × Int × Int) :=
  (draughts_play_do_m r2.1 r2.2.1 way1).bind fun r5 => some (r5, (w64 (3 - b2)), 0)

noncomputable def draughts_Do_J1  (b1 : List Int) (b2 : Int) (way1 : List Int) : Option (List Int × Int × Int) :=
  (draughts_newPlay_m b1 b2).bind fun r2 => (draughts_play_moves_m r2.1 r2.2.1 r2.2.2).bind fun r3 => (slices_ContainsFunc_m r3 way1).bind fun r4 => if (!r4) then (some (([] : List Int), 0, 8)) else ((draughts_Do_J2 b2 way1 r2))

noncomputable def draughts_Do_m  (b1 : List Int) (b2 : Int) (way1 : List Int) : Option (List Int × Int × Int) :=
  (draughts_May_m b1 b2).bind fun r1 => if (!r1) then (some (([] : List Int), 0, 12)) else ((draughts_Do_J1 b1 b2 way1))

set_option maxRecDepth 100000 in
set_option maxHeartbeats 4000000 in
theorem draughts_Do_w  {A1 : Option Addr} {c1 : Nat} {n1 : Nat} {b1 : List Int} {b2 : Int} {A2 : Option Addr} {c2 : Nat} {n2 : Nat} {way1 : List Int} {r : (List Int × Int × Int)} {w0 w : World} {B : Nat} {fs : List HP} (hm : draughts_Do_m b1 b2 way1 = some r) (hS : Sep w0 B w (fs)) (hr_b1 : RdF w0 B fs A1 (vI b1)) (_hc_b1 : b1.length ≤ c1) (_hn_b1 : n1 = b1.length) (hr_way1 : RdF w0 B fs A2 (vI way1)) (_hc_way1 : way1.length ≤ c2) (_hn_way1 : n2 = way1.length) :
    Calls Try.prog 49 #[.agg #[.slice A1 n1 c1, .int .i64 b2], .slice A2 n2 c2] w fun e w' => ∃ v, e = .returned v ∧ ∃ (A6 : Option Addr) (c6 : Nat), v = .tuple #[.agg #[.slice A6 r.1.length c6, .int .i64 r.2.1], .int .i64 r.2.2] ∧ Sep w0 B w' (own 3 (.slice A6 r.1.length c6) (vI r.1) :: fs) := by
  obtain ⟨i3, hi3, hz3, hs3, hb3⟩ := info_parts Info3
  obtain rfl := _hn_b1
  obtain rfl := _hn_way1
  unfold draughts_Do_m at hm
  replace hm := start_b hm
  refine enter (l := [.agg #[.slice A1 b1.length c1, .int .i64 b2], .slice A2 way1.length c2]) (n := 30) Try.func49 rfl rfl (by simp) (fun a hF => ?_)
  refine seqR ?_
  refine at_do (d := 2) (s := vS (Instr.box 66 (.agg #[.slice A1 b1.length c1, .int .i64 b2]))) (v := .pointer (some ⟨w.heap.size, 0, none⟩)) (w' := w.alloc (.cells #[.slice A1 b1.length c1, .int .i64 b2] 66)) hF (by kernel_rfl) (by kernel_rfl) (by kernel_rfl) (fun a hF => ?_)
  have hS : Sep w0 B (w.alloc (.cells #[.slice A1 b1.length c1, .int .i64 b2] 66)) (blk w.heap.size 66 #[.slice A1 b1.length c1, .int .i64 b2] :: (fs)) := hS.box 66 #[.slice A1 b1.length c1, .int .i64 b2]
  generalize w.heap.size = g1 at hF hS
  generalize w.alloc (.cells #[.slice A1 b1.length c1, .int .i64 b2] 66) = w at hS ⊢
  refine at_do (d := 3) (s := vS (Instr.box 22 (.slice A2 way1.length c2))) (v := .pointer (some ⟨w.heap.size, 0, none⟩)) (w' := w.alloc (.cells #[.slice A2 way1.length c2] 22)) hF (by kernel_rfl) (by kernel_rfl) (by kernel_rfl) (fun a hF => ?_)
  have hS : Sep w0 B (w.alloc (.cells #[.slice A2 way1.length c2] 22)) (blk w.heap.size 22 #[.slice A2 way1.length c2] :: (blk g1 66 #[.slice A1 b1.length c1, .int .i64 b2] :: fs)) := hS.box 22 #[.slice A2 way1.length c2]
  generalize w.heap.size = g2 at hF hS
  generalize w.alloc (.cells #[.slice A2 way1.length c2] 22) = w at hS ⊢
  refine at_do (d := 4) (s := vS (Instr.alloc 66 true (.tuple #[]))) (v := .pointer (some ⟨w.heap.size, 0, none⟩)) (w' := w.alloc (.cells #[.slice none 0 0, .int .i64 0] 66)) hF (by kernel_rfl) (by kernel_rfl) (by kernel_rfl) (fun a hF => ?_)
  have hS : Sep w0 B (w.alloc (.cells #[.slice none 0 0, .int .i64 0] 66)) (blk w.heap.size 66 #[.slice none 0 0, .int .i64 0] :: (blk g2 22 #[.slice A2 way1.length c2] :: blk g1 66 #[.slice A1 b1.length c1, .int .i64 b2] :: fs)) := hS.box 66 #[.slice none 0 0, .int .i64 0]
  generalize w.heap.size = g3 at hF hS
  generalize w.alloc (.cells #[.slice none 0 0, .int .i64 0] 66) = w at hS ⊢
  refine at_run 1 [] [] [2, 3, 4] [pl 2 (.pointer (some ⟨g1, 0, none⟩)), pl 3 (.pointer (some ⟨g2, 0, none⟩)), pl 4 (.pointer (some ⟨g3, 0, none⟩))] hF hS (by kernel_rfl) (by kernel_rfl) ?_ (fun a w hF hS => ?_)
  · exact obs_nil
  refine at_end [2, 3, 4] [pl 2 (.pointer (some ⟨g1, 0, none⟩)), pl 3 (.pointer (some ⟨g2, 0, none⟩)), pl 4 (.pointer (some ⟨g3, 0, none⟩))] hF rfl (by kernel_rfl) (fun hF => ?_)
  refine then_n ?_
  refine seq_cut (fun a w => Fr 30 [pl 2 (.pointer (some ⟨g1, 0, none⟩)), pl 3 (.pointer (some ⟨g2, 0, none⟩)), pl 4 (.pointer (some ⟨g3, 0, none⟩))] a ∧ Sep w0 B w (blk g1 66 #[.slice A1 b1.length c1, .int .i64 b2] :: blk g2 22 #[.slice A2 way1.length c2] :: blk g3 66 #[.slice none 0 0, .int .i64 0] :: fs) ∧ ((draughts_Do_J1 b1 b2 way1)).bind some = some r) ?_ ?_
  · rintro a w ⟨hF, hS, hm⟩
    unfold draughts_Do_J1 at hm
    refine seqR ?_
    obtain ⟨r2, hr2, hm⟩ := call_b hm
    refine at_run 1 [⟨false, [], vS (Instr.loadAt 66 (.pointer (some ⟨g1, 0, none⟩))), .agg #[.slice A1 b1.length c1, .int .i64 b2]⟩] [some (.agg #[.slice A1 b1.length c1, .int .i64 b2])] [2, 3, 4, 11] [pl 2 (.pointer (some ⟨g1, 0, none⟩)), pl 3 (.pointer (some ⟨g2, 0, none⟩)), pl 4 (.pointer (some ⟨g3, 0, none⟩)), pl 11 (.agg #[.slice A1 b1.length c1, .int .i64 b2])] hF hS (by kernel_rfl) (by kernel_rfl) ?_ (fun a w hF hS => ?_)
    · exact obs_cons (ob_loadA (cs := #[.slice A1 b1.length c1, .int .i64 b2]) (by kernel_rfl) (by kernel_rfl) (fun _ _ hS => (hS.at_ 0 rfl).cellsAt 0 (by rfl))) <| obs_nil
    refine at_call (f := 115) (args := #[.agg #[.slice A1 b1.length c1, .int .i64 b2]]) (d := 12) hF (by kernel_rfl) (by kernel_rfl) Try.func115 (by kernel_rfl) rfl (draughts_newPlay_w hr2 hS (fun _ hS => (hr_b1 _ (hS.dropN 3))) _hc_b1 rfl) (fun v a w hR hF => ?_)
    clear hS
    obtain ⟨g4, A3, c3, A4, c4, hd1, rfl, hS⟩ := hR
    have hS : Sep w0 B w (blk g4 169 #[.slice A3 r2.1.length c3, .int .i64 r2.2.1, .slice A4 r2.2.2.length c4] :: own 3 (.slice A3 r2.1.length c3) (vI r2.1) :: rows 22 3 (.slice A4 r2.2.2.length c4) hd1 r2.2.2 :: blk g1 66 #[.slice A1 b1.length c1, .int .i64 b2] :: blk g2 22 #[.slice A2 way1.length c2] :: blk g3 66 #[.slice none 0 0, .int .i64 0] :: fs) := hS
    refine at_run 1 [] [] [2, 3, 4, 6] [pl 2 (.pointer (some ⟨g1, 0, none⟩)), pl 3 (.pointer (some ⟨g2, 0, none⟩)), pl 4 (.pointer (some ⟨g3, 0, none⟩)), pl 6 (.pointer (some ⟨g4, 0, none⟩))] hF hS (by kernel_rfl) (by kernel_rfl) ?_ (fun a w hF hS => ?_)
    · exact obs_nil
    refine at_end [2, 3, 4, 6] [pl 2 (.pointer (some ⟨g1, 0, none⟩)), pl 3 (.pointer (some ⟨g2, 0, none⟩)), pl 4 (.pointer (some ⟨g3, 0, none⟩)), pl 6 (.pointer (some ⟨g4, 0, none⟩))] hF rfl (by kernel_rfl) (fun hF => ?_)
    refine then_n ?_
    refine seq_cut (fun a w => ∃ (j2 : Value), Fr 30 [pl 2 (.pointer (some ⟨g1, 0, none⟩)), pl 3 (.pointer (some ⟨g2, 0, none⟩)), pl 4 (.pointer (some ⟨g3, 0, none⟩)), pl 6 (.pointer (some ⟨g4, 0, none⟩))] a ∧ Sep w0 B w (blk g1 66 #[.slice A1 b1.length c1, .int .i64 b2] :: blk g2 22 #[.slice A2 way1.length c2] :: blk g3 66 #[.slice none 0 0, .int .i64 0] :: blk g4 169 #[.slice A3 r2.1.length c3, .int .i64 r2.2.1, j2] :: own 3 (.slice A3 r2.1.length c3) (vI r2.1) :: fs) ∧ ((draughts_Do_J2 b2 way1 r2)).bind some = some r) ?_ ?_
    · rintro a w ⟨j2, hF, hS, hm⟩
      unfold draughts_Do_J2 at hm
      refine seqR ?_
      obtain ⟨r5, hr5, hm⟩ := call_b hm
      refine at_run 2 [⟨false, [], vS (Instr.loadAt 22 (.pointer (some ⟨g2, 0, none⟩))), .slice A2 way1.length c2⟩] [none, some (.slice A2 way1.length c2)] [2, 4, 6, 19, 20] [pl 2 (.pointer (some ⟨g1, 0, none⟩)), pl 4 (.pointer (some ⟨g3, 0, none⟩)), pl 6 (.pointer (some ⟨g4, 0, none⟩)), pl 19 (.pointer (some ⟨g4, 0, none⟩)), pl 20 (.slice A2 way1.length c2)] hF hS (by kernel_rfl) (by kernel_rfl) ?_ (fun a w hF hS => ?_)
      · exact obs_cons (ob_load Agg22 (fun _ _ hS => (hS.at_ 1 rfl).cell rfl)) <| obs_nil
      have hS : Sep w0 B w (blk g4 169 #[.slice A3 r2.1.length c3, .int .i64 r2.2.1, j2] :: own 3 (.slice A3 r2.1.length c3) (vI r2.1) :: blk g1 66 #[.slice A1 b1.length c1, .int .i64 b2] :: blk g2 22 #[.slice A2 way1.length c2] :: blk g3 66 #[.slice none 0 0, .int .i64 0] :: fs) := hS.pickN 5 [3, 4, 0, 1, 2] (by decide)
      refine at_call (f := 127) (args := #[.pointer (some ⟨g4, 0, none⟩), .slice A2 way1.length c2]) (d := 21) hF (by kernel_rfl) (by kernel_rfl) Try.func127 (by kernel_rfl) rfl (draughts_play_do_w hr5 hS (fun _ hS => (hr_way1 _ (hS.dropN 3))) _hc_way1 rfl) (fun v a w hR hF => ?_)
      clear hS
      obtain ⟨rfl, hS⟩ := hR
      have hS : Sep w0 B w (blk g4 169 #[.slice A3 r2.1.length c3, .int .i64 r2.2.1, j2] :: own 3 (.slice A3 r2.1.length c3) (vI r5) :: blk g1 66 #[.slice A1 b1.length c1, .int .i64 b2] :: blk g2 22 #[.slice A2 way1.length c2] :: blk g3 66 #[.slice none 0 0, .int .i64 0] :: fs) := hS
      refine at_end [2, 4, 6] [pl 2 (.pointer (some ⟨g1, 0, none⟩)), pl 4 (.pointer (some ⟨g3, 0, none⟩)), pl 6 (.pointer (some ⟨g4, 0, none⟩))] hF rfl (by kernel_rfl) (fun hF => ?_)
      refine then_n ?_
      refine wpIn_seq ?_
      refine regMix4 [0, 1, 2, 3, 4, 5, 6, 7] [8, 9] [⟨false, [], vS (Instr.loadAt 22 (.pointer (some ⟨g4, 0, none⟩))), .slice A3 r2.1.length c3⟩, ⟨false, [], vS (Instr.loadAt 3 (.pointer (some ⟨g1, 1, none⟩))), .int .i64 b2⟩] [none, none, none, some (.slice A3 r2.1.length c3), none, some (.int .i64 b2), none, none] [4, 29] [pl 4 (.pointer (some ⟨g3, 0, none⟩)), pl 29 (.agg #[.slice A3 r2.1.length c3, .int .i64 (w64 (3 - b2))])] hF hS Fol (by kernel_rfl) (by kernel_rfl) (by kernel_rfl) (by kernel_rfl) (by kernel_rfl) ?_ (fun a w hF hS => ?_)
      · exact obs_cons (ob_load Agg22 (fun _ _ hS => (hS.at_ 0 rfl).cell rfl)) <| obs_cons (ob_load Agg3 (fun _ _ hS => (hS.at_ 2 rfl).cell rfl)) <| obs_nil
      obtain ⟨w, hrun, hS⟩ := run_putA (P := Try.prog) (t := 66) (us := #[.slice A3 r2.1.length c3, .int .i64 (w64 (3 - b2))]) (o := 0) (hS.at_ 4 rfl) (by kernel_rfl) (all_one (by kernel_rfl)) (Nat.le_of_ble_eq_true (by kernel_rfl))
      refine at_skip hF (by kernel_rfl) hrun ?_
      have hS : Sep w0 B w (blk g4 169 #[.slice A3 r2.1.length c3, .int .i64 r2.2.1, j2] :: own 3 (.slice A3 r2.1.length c3) (vI r5) :: blk g1 66 #[.slice A1 b1.length c1, .int .i64 b2] :: blk g2 22 #[.slice A2 way1.length c2] :: blk g3 66 #[.slice A3 r2.1.length c3, .int .i64 (w64 (3 - b2))] :: fs) := hS
      refine at_run 1 [] [] [4, 5] [pl 4 (.pointer (some ⟨g3, 0, none⟩)), pl 5 (.int .i64 0)] hF hS (by kernel_rfl) (by kernel_rfl) ?_ (fun a w hF hS => ?_)
      · exact obs_nil
      refine at_end [4, 5] [pl 4 (.pointer (some ⟨g3, 0, none⟩)), pl 5 (.int .i64 0)] hF rfl (by kernel_rfl) (fun hF => ?_)
      refine np_n ?_
      refine then_n ?_
      refine wpIn_ret ?_
      have hl3 := (hS.at_ 1 rfl).len1
      have hS := (hS.at_ 1 rfl).reN hl3
      have hS := (hS.at_ 0 rfl).reBlk (congrArg (fun k9 => (#[.slice A3 k9 c3, .int .i64 r2.2.1, j2] : Array Value)) hl3)
      have hS := (hS.at_ 4 rfl).reBlk (congrArg (fun k9 => (#[.slice A3 k9 c3, .int .i64 (w64 (3 - b2))] : Array Value)) hl3)
      have hS : Sep w0 B w (blk g4 169 #[.slice A3 r5.length c3, .int .i64 r2.2.1, j2] :: own 3 (.slice A3 r5.length c3) (vI r5) :: blk g1 66 #[.slice A1 b1.length c1, .int .i64 b2] :: blk g2 22 #[.slice A2 way1.length c2] :: blk g3 66 #[.slice A3 r5.length c3, .int .i64 (w64 (3 - b2))] :: fs) := hS
      have hld0 := run_loadVarA (P := Try.prog) (t := 66) (cs := #[.slice A3 r5.length c3, .int .i64 (w64 (3 - b2))]) (by kernel_rfl) (by kernel_rfl) ((hS.at_ 4 rfl).cellsAt 0 (by rfl))
      have hS := hS.pickN 5 [1] (by decide)
      have hm : some (r5, (w64 (3 - b2)), 0) = some r := hm
      obtain rfl := Option.some.inj hm
      exact retV (rs := [.cell 4 66, .tmp 5]) (vs := [.agg #[.slice A3 r5.length c3, .int .i64 (w64 (3 - b2))], .int .i64 0]) hF rfl (rv_c (by kernel_rfl) hld0 <| rv_t (by kernel_rfl) <| rv_nil) rfl ⟨_, rfl, A3, c3, rfl, hS⟩
    · refine seqR ?_
      obtain ⟨r3, hr3, hm⟩ := call_b hm
      obtain ⟨r4, hr4, hm⟩ := call_b hm
      refine at_run 1 [] [] [2, 3, 4, 6, 13] [pl 2 (.pointer (some ⟨g1, 0, none⟩)), pl 3 (.pointer (some ⟨g2, 0, none⟩)), pl 4 (.pointer (some ⟨g3, 0, none⟩)), pl 6 (.pointer (some ⟨g4, 0, none⟩)), pl 13 (.pointer (some ⟨g4, 0, none⟩))] hF hS (by kernel_rfl) (by kernel_rfl) ?_ (fun a w hF hS => ?_)
      · exact obs_nil
      refine at_call (f := 116) (args := #[.pointer (some ⟨g4, 0, none⟩)]) (d := 14) hF (by kernel_rfl) (by kernel_rfl) Try.func116 (by kernel_rfl) rfl (draughts_play_moves_w hr3 hS ) (fun v a w hR hF => ?_)
      clear hS
      obtain ⟨j1, A5, c5, hd2, rfl, hS⟩ := hR
      have hS : Sep w0 B w (blk g4 169 #[.slice A3 r2.1.length c3, .int .i64 r2.2.1, j1] :: own 3 (.slice A3 r2.1.length c3) (vI r2.1) :: rows 22 3 (.slice A5 r3.length c5) hd2 r3 :: blk g1 66 #[.slice A1 b1.length c1, .int .i64 b2] :: blk g2 22 #[.slice A2 way1.length c2] :: blk g3 66 #[.slice none 0 0, .int .i64 0] :: fs) := hS
      refine at_run 3 [⟨false, [], callFunc 124 #[.slice A5 r3.length c5, .func (.func 125) #[] #[.pointer (some ⟨g2, 0, none⟩)]], .bool r4⟩] [none, some (.bool r4), none] [2, 3, 4, 6, 17] [pl 2 (.pointer (some ⟨g1, 0, none⟩)), pl 3 (.pointer (some ⟨g2, 0, none⟩)), pl 4 (.pointer (some ⟨g3, 0, none⟩)), pl 6 (.pointer (some ⟨g4, 0, none⟩)), pl 17 (.bool (!r4))] hF hS (by kernel_rfl) (by kernel_rfl) ?_ (fun a w hF hS => ?_)
      · exact obs_cons (ob_call Try.func124 (by kernel_rfl) rfl (fun _ _ hS => quiet_pick hS 6 [4, 0, 1, 2, 3, 5] (by decide) [1, 2, 3, 4, 0, 5] (by decide) (qs := (blk g2 22 #[.slice A2 way1.length c2] :: blk g4 169 #[.slice A3 r2.1.length c3, .int .i64 r2.2.1, j1] :: own 3 (.slice A3 r2.1.length c3) (vI r2.1) :: rows 22 3 (.slice A5 r3.length c5) hd2 r3 :: blk g1 66 #[.slice A1 b1.length c1, .int .i64 b2] :: blk g3 66 #[.slice none 0 0, .int .i64 0] :: fs)) rfl (fun hS => slices_ContainsFunc_w hr4 hS (fun _ hS => (hS.at_ 2 rfl).rdRows) ((hS.dropN 1).at_ 2 rfl).rowsLen.2 ((hS.dropN 1).at_ 2 rfl).lenR (fun _ hS => (hr_way1 _ (hS.dropN 5))) _hc_way1 rfl) 6 rfl)) <| obs_nil
      refine at_end [2, 3, 4, 6, 17] [pl 2 (.pointer (some ⟨g1, 0, none⟩)), pl 3 (.pointer (some ⟨g2, 0, none⟩)), pl 4 (.pointer (some ⟨g3, 0, none⟩)), pl 6 (.pointer (some ⟨g4, 0, none⟩)), pl 17 (.bool (!r4))] hF rfl (by kernel_rfl) (fun hF => ?_)
      refine then_n ?_
      refine cond_ev (t := 17) (b := !r4) hF (by kernel_rfl) (fun hb => ?_) (fun hb => ?_)
      · replace hm := if_t hm hb
        refine seqR ?_
        refine at_run 1 [] [] [4, 18] [pl 4 (.pointer (some ⟨g3, 0, none⟩)), pl 18 (.agg #[.slice none 0 0, .int .i64 0])] hF hS (by kernel_rfl) (by kernel_rfl) ?_ (fun a w hF hS => ?_)
        · exact obs_nil
        obtain ⟨w, hrun, hS⟩ := run_putA (P := Try.prog) (t := 66) (us := #[.slice none 0 0, .int .i64 0]) (o := 0) (hS.at_ 5 rfl) (by kernel_rfl) (all_one (by kernel_rfl)) (Nat.le_of_ble_eq_true (by kernel_rfl))
        refine at_skip hF (by kernel_rfl) hrun ?_
        have hS : Sep w0 B w (blk g4 169 #[.slice A3 r2.1.length c3, .int .i64 r2.2.1, j1] :: own 3 (.slice A3 r2.1.length c3) (vI r2.1) :: rows 22 3 (.slice A5 r3.length c5) hd2 r3 :: blk g1 66 #[.slice A1 b1.length c1, .int .i64 b2] :: blk g2 22 #[.slice A2 way1.length c2] :: blk g3 66 #[.slice none 0 0, .int .i64 0] :: fs) := hS
        refine at_run 1 [] [] [4, 5] [pl 4 (.pointer (some ⟨g3, 0, none⟩)), pl 5 (.int .i64 8)] hF hS (by kernel_rfl) (by kernel_rfl) ?_ (fun a w hF hS => ?_)
        · exact obs_nil
        refine at_end [4, 5] [pl 4 (.pointer (some ⟨g3, 0, none⟩)), pl 5 (.int .i64 8)] hF rfl (by kernel_rfl) (fun hF => ?_)
        refine then_n ?_
        refine wpIn_ret ?_
        refine then_r ?_
        have hS : Sep w0 B w (own 3 (.slice none 0 0) (vI ([] : List Int)) :: blk g4 169 #[.slice A3 r2.1.length c3, .int .i64 r2.2.1, j1] :: own 3 (.slice A3 r2.1.length c3) (vI r2.1) :: rows 22 3 (.slice A5 r3.length c5) hd2 r3 :: blk g1 66 #[.slice A1 b1.length c1, .int .i64 b2] :: blk g2 22 #[.slice A2 way1.length c2] :: blk g3 66 #[.slice none 0 0, .int .i64 0] :: fs) := hS.nil 3
        have hl2 := (hS.at_ 0 rfl).len1
        have hS := (hS.at_ 0 rfl).reN hl2
        have hS : Sep w0 B w (own 3 (.slice none (([] : List Int).length) 0) (vI ([] : List Int)) :: blk g4 169 #[.slice A3 r2.1.length c3, .int .i64 r2.2.1, j1] :: own 3 (.slice A3 r2.1.length c3) (vI r2.1) :: rows 22 3 (.slice A5 r3.length c5) hd2 r3 :: blk g1 66 #[.slice A1 b1.length c1, .int .i64 b2] :: blk g2 22 #[.slice A2 way1.length c2] :: blk g3 66 #[.slice none 0 0, .int .i64 0] :: fs) := hS
        have hld0 := run_loadVarA (P := Try.prog) (t := 66) (cs := #[.slice none (([] : List Int).length) 0, .int .i64 0]) (by kernel_rfl) (by kernel_rfl) ((hS.at_ 6 rfl).cellsAt 0 (by rfl))
        have hS := hS.pickN 7 [0] (by decide)
        have hm : some (([] : List Int), 0, 8) = some r := hm
        obtain rfl := Option.some.inj hm
        exact retV (rs := [.cell 4 66, .tmp 5]) (vs := [.agg #[.slice none (([] : List Int).length) 0, .int .i64 0], .int .i64 8]) hF rfl (rv_c (by kernel_rfl) hld0 <| rv_t (by kernel_rfl) <| rv_nil) rfl ⟨_, rfl, none, 0, rfl, hS⟩
      · replace hm := if_f hm hb
        refine wpIn_skip ?_
        refine then_n ?_
        have hS := hS.pickN 6 [3, 4, 5, 0, 1] (by decide)
        exact ⟨j1, hF.weak [2, 3, 4, 6] (by kernel_rfl), hS, hm⟩
  · obtain ⟨r1, hr1, hm⟩ := call_b hm
    refine reg [⟨false, [], vS (Instr.loadAt 66 (.pointer (some ⟨g1, 0, none⟩))), .agg #[.slice A1 b1.length c1, .int .i64 b2]⟩, ⟨false, [], callFunc 40 #[.agg #[.slice A1 b1.length c1, .int .i64 b2]], .bool r1⟩] [some (.agg #[.slice A1 b1.length c1, .int .i64 b2]), some (.bool r1), none] [2, 3, 4, 9] [pl 2 (.pointer (some ⟨g1, 0, none⟩)), pl 3 (.pointer (some ⟨g2, 0, none⟩)), pl 4 (.pointer (some ⟨g3, 0, none⟩)), pl 9 (.bool (!r1))] hF hS Fol (by kernel_rfl) (by kernel_rfl) (by kernel_rfl) ?_ (fun a w hF hS => ?_)
    · exact obs_cons (ob_loadA (cs := #[.slice A1 b1.length c1, .int .i64 b2]) (by kernel_rfl) (by kernel_rfl) (fun _ _ hS => (hS.at_ 2 rfl).cellsAt 0 (by rfl))) <| obs_cons (ob_call Try.func40 (by kernel_rfl) rfl (fun _ _ hS => draughts_May_w hr1 hS (fun _ hS => (hr_b1 _ (hS.dropN 3))) _hc_b1 rfl)) <| obs_nil
    refine cond_ev (t := 9) (b := !r1) hF (by kernel_rfl) (fun hb => ?_) (fun hb => ?_)
    · replace hm := if_t hm hb
      refine seqR ?_
      refine at_run 1 [] [] [4, 10] [pl 4 (.pointer (some ⟨g3, 0, none⟩)), pl 10 (.agg #[.slice none 0 0, .int .i64 0])] hF hS (by kernel_rfl) (by kernel_rfl) ?_ (fun a w hF hS => ?_)
      · exact obs_nil
      obtain ⟨w, hrun, hS⟩ := run_putA (P := Try.prog) (t := 66) (us := #[.slice none 0 0, .int .i64 0]) (o := 0) (hS.at_ 0 rfl) (by kernel_rfl) (all_one (by kernel_rfl)) (Nat.le_of_ble_eq_true (by kernel_rfl))
      refine at_skip hF (by kernel_rfl) hrun ?_
      have hS : Sep w0 B w (blk g3 66 #[.slice none 0 0, .int .i64 0] :: blk g2 22 #[.slice A2 way1.length c2] :: blk g1 66 #[.slice A1 b1.length c1, .int .i64 b2] :: fs) := hS
      refine at_run 1 [] [] [4, 5] [pl 4 (.pointer (some ⟨g3, 0, none⟩)), pl 5 (.int .i64 12)] hF hS (by kernel_rfl) (by kernel_rfl) ?_ (fun a w hF hS => ?_)
      · exact obs_nil
      refine at_end [4, 5] [pl 4 (.pointer (some ⟨g3, 0, none⟩)), pl 5 (.int .i64 12)] hF rfl (by kernel_rfl) (fun hF => ?_)
      refine then_n ?_
      refine wpIn_ret ?_
      refine then_r ?_
      have hS : Sep w0 B w (own 3 (.slice none 0 0) (vI ([] : List Int)) :: blk g3 66 #[.slice none 0 0, .int .i64 0] :: blk g2 22 #[.slice A2 way1.length c2] :: blk g1 66 #[.slice A1 b1.length c1, .int .i64 b2] :: fs) := hS.nil 3
      have hl1 := (hS.at_ 0 rfl).len1
      have hS := (hS.at_ 0 rfl).reN hl1
      have hS : Sep w0 B w (own 3 (.slice none (([] : List Int).length) 0) (vI ([] : List Int)) :: blk g3 66 #[.slice none 0 0, .int .i64 0] :: blk g2 22 #[.slice A2 way1.length c2] :: blk g1 66 #[.slice A1 b1.length c1, .int .i64 b2] :: fs) := hS
      have hld0 := run_loadVarA (P := Try.prog) (t := 66) (cs := #[.slice none (([] : List Int).length) 0, .int .i64 0]) (by kernel_rfl) (by kernel_rfl) ((hS.at_ 1 rfl).cellsAt 0 (by rfl))
      have hS := hS.pickN 4 [0] (by decide)
      have hm : some (([] : List Int), 0, 12) = some r := hm
      obtain rfl := Option.some.inj hm
      exact retV (rs := [.cell 4 66, .tmp 5]) (vs := [.agg #[.slice none (([] : List Int).length) 0, .int .i64 0], .int .i64 12]) hF rfl (rv_c (by kernel_rfl) hld0 <| rv_t (by kernel_rfl) <| rv_nil) rfl ⟨_, rfl, none, 0, rfl, hS⟩
    · replace hm := if_f hm hb
      refine wpIn_skip ?_
      refine then_n ?_
      have hS := hS.pickN 3 [2, 1, 0] (by decide)
      exact ⟨hF.weak [2, 3, 4] (by kernel_rfl), hS, hm⟩

noncomputable def draughts_play_do_2_J4  (i1 : Int) (p4 : List Int) : Option (St (List Int × Int) (List Int)) :=
  some (.next (p4, (w64 (i1 + 1))))

noncomputable def draughts_play_do_2_J3  (p_b1 : List Int) (way1 : List Int) (p2 : List Int) (i1 : Int) : Option (St (List Int × Int) (List Int)) :=
  asrt (0 ≤ (w64 (i1 - 1)) ∧ (w64 (i1 - 1)) < (way1.length : Int)) <| asrt (0 ≤ i1 ∧ i1 < (way1.length : Int)) <| (draughts_middle_m (geti way1 (w64 (i1 - 1))) (geti way1 i1)).bind fun r1 => if (decide ((0 : Int) < r1)) then (asrt (0 ≤ r1 ∧ r1 < (p_b1.length : Int)) <| (draughts_play_do_2_J4 i1) (p2.set (Int.toNat r1) 0)) else ((draughts_play_do_2_J4 i1) p2)

noncomputable def draughts_play_do_2_J1  (p5 : List Int) : Option (List Int) :=
  some p5

noncomputable def draughts_play_do_2_J5  (p_b1 : List Int) (way1 : List Int) (p3 : List Int) (piece1 : Int) : Option (List Int) :=
  asrt (0 ≤ (geti way1 (w64 ((way1.length : Int) - 1))) ∧ (geti way1 (w64 ((way1.length : Int) - 1))) < (p_b1.length : Int)) <| draughts_play_do_2_J1 (p3.set (Int.toNat (geti way1 (w64 ((way1.length : Int) - 1)))) piece1)

noncomputable def draughts_play_do_2_J2  (p_b1 : List Int) (p_sign1 : Int) (p_out1 : List (List Int)) (way1 : List Int) (p3 : List Int) : Option (List Int) :=
  (draughts_play_last_m p3 p_sign1 p_out1 (geti way1 (w64 ((way1.length : Int) - 1)))).bind fun r2 => if r2 then ((draughts_play_do_2_J5 p_b1 way1 p3) (w64 (2 * p_sign1))) else ((draughts_play_do_2_J5 p_b1 way1 p3) (geti p_b1 (geti way1 0)))

noncomputable def draughts_play_do_2_K1  (p_b1 : List Int) (p_sign1 : Int) (p_out1 : List (List Int)) (way1 : List Int) : (List Int) → Option (List Int) :=
  fun (x : (List Int)) => match x with | p3 => (draughts_play_do_2_J2 p_b1 p_sign1 p_out1 way1) p3

noncomputable def draughts_play_do_2_L1  (p_b1 : List Int) (way1 : List Int) : (List Int × Int) → Option (St (List Int × Int) (List Int)) :=
  fun (x : (List Int × Int)) => match x with | (p2, i1) => if (decide (i1 < (way1.length : Int))) then ((draughts_play_do_2_J3 p_b1 way1 p2 i1)) else (some (.done p2))

noncomputable def draughts_play_do_2_m  (p_b1 : List Int) (p_sign1 : Int) (p_out1 : List (List Int)) (way1 : List Int) : Option (List Int) :=
  asrt (0 ≤ (w64 ((way1.length : Int) - 1)) ∧ (w64 ((way1.length : Int) - 1)) < (way1.length : Int)) <| asrt (0 ≤ (0 : Int) ∧ (0 : Int) < (way1.length : Int)) <| asrt (0 ≤ (geti way1 0) ∧ (geti way1 0) < (p_b1.length : Int)) <| asrt (0 ≤ (0 : Int) ∧ (0 : Int) < (way1.length : Int)) <| asrt (0 ≤ (geti way1 0) ∧ (geti way1 0) < (p_b1.length : Int)) <| (loop (draughts_play_do_2_L1 p_b1 way1) ((p_b1.set (Int.toNat (geti way1 0)) 0), 1)).bind (draughts_play_do_2_K1 p_b1 p_sign1 p_out1 way1)

set_option maxRecDepth 100000 in
set_option maxHeartbeats 4000000 in
theorem draughts_play_do_2_w  {g1 : Nat} {A1 : Option Addr} {c1 : Nat} {n1 : Nat} {p_b1 : List Int} {p_sign1 : Int} {A2 : Option Addr} {c2 : Nat} {n2 : Nat} {hd1 : List Hd} {p_out1 : List (List Int)} {A3 : Option Addr} {c3 : Nat} {n3 : Nat} {way1 : List Int} {r : (List Int)} {w0 w : World} {B : Nat} {fs : List HP} (hm : draughts_play_do_2_m p_b1 p_sign1 p_out1 way1 = some r) (hS : Sep w0 B w (blk g1 169 #[.slice A1 n1 c1, .int .i64 p_sign1, .slice A2 n2 c2] :: own 3 (.slice A1 n1 c1) (vI p_b1) :: rows 22 3 (.slice A2 n2 c2) hd1 p_out1 :: fs)) (hr_way1 : RdF w0 B fs A3 (vI way1)) (_hc_way1 : way1.length ≤ c3) (_hn_way1 : n3 = way1.length) :
    Calls Try.prog 127 #[.pointer (some ⟨g1, 0, none⟩), .slice A3 n3 c3] w fun e w' => ∃ v, e = .returned v ∧ v = .tuple #[] ∧ Sep w0 B w' (blk g1 169 #[.slice A1 n1 c1, .int .i64 p_sign1, .slice A2 n2 c2] :: own 3 (.slice A1 n1 c1) (vI r) :: rows 22 3 (.slice A2 n2 c2) hd1 p_out1 :: fs) := by
  obtain ⟨i3, hi3, hz3, hs3, hb3⟩ := info_parts Info3
  obtain rfl := (hS.at_ 1 rfl).len1
  obtain rfl := (hS.at_ 2 rfl).lenR
  obtain rfl := _hn_way1
  unfold draughts_play_do_2_m at hm
  replace hm := start_b hm
  refine enter (l := [.pointer (some ⟨g1, 0, none⟩), .slice A3 way1.length c3]) (n := 70) Try.func127 rfl rfl (by simp) (fun a hF => ?_)
  refine end_cut (fun a w => ∃ (p5 : List Int), Fr 70 [] a ∧ Sep w0 B w (blk g1 169 #[.slice A1 p_b1.length c1, .int .i64 p_sign1, .slice A2 p_out1.length c2] :: own 3 (.slice A1 p_b1.length c1) (vI p5) :: rows 22 3 (.slice A2 p_out1.length c2) hd1 p_out1 :: fs) ∧ (draughts_play_do_2_J1 p5).bind some = some r) ?_ ?_
  · rintro a w ⟨p5, hF, hS, hm⟩
    unfold draughts_play_do_2_J1 at hm
    have hm : some p5 = some r := hm
    obtain rfl := Option.some.inj hm
    exact endV (rs := []) (vs := []) hF rfl (rv_nil) rfl ⟨_, rfl, rfl, hS⟩ rfl
  · obtain ⟨hp1, hm⟩ := asrt_b hm
    refine reg [⟨true, [], vS (Instr.indexAt 22 (.slice A3 way1.length c3) (.int .i64 (w64 ((way1.length : Int) - 1)))), .pointer (some (sAddr A3 (w64 ((way1.length : Int) - 1))))⟩, ⟨false, [], vS (Instr.loadAt 3 (.pointer (some (sAddr A3 (w64 ((way1.length : Int) - 1)))))), .int .i64 (geti way1 (w64 ((way1.length : Int) - 1)))⟩] [none, none, none, none, some (.pointer (some (sAddr A3 (w64 ((way1.length : Int) - 1))))), some (.int .i64 (geti way1 (w64 ((way1.length : Int) - 1)))), none] [0, 1, 4] [pl 0 (.pointer (some ⟨g1, 0, none⟩)), pl 1 (.slice A3 way1.length c3), pl 4 (.int .i64 (geti way1 (w64 ((way1.length : Int) - 1))))] hF hS Fol (by kernel_rfl) (by kernel_rfl) (by kernel_rfl) ?_ (fun a w hF hS => ?_)
    · exact obs_cons (ob_ix1 (f := (Value.int .i64)) (m := way1) Und22 hi3 hs3 (hr_way1 _ (hS.dropN 3)) rfl (fun _ => hp1)) <| obs_cons (ob_get1 (n := way1.length) (m := way1) (Value.int .i64) (0 : Int) Agg3 (fun _ hS => ⟨_, (hr_way1 _ (hS.dropN 3))⟩) (fun _ hS => rfl) (fun _ => hp1)) <| obs_nil
    obtain ⟨hp2, hm⟩ := asrt_b hm
    obtain ⟨hp3, hm⟩ := asrt_b hm
    refine reg [⟨false, [], vS (Instr.loadAt 22 (.pointer (some ⟨g1, 0, none⟩))), .slice A1 p_b1.length c1⟩, ⟨true, [], vS (Instr.indexAt 22 (.slice A3 way1.length c3) (.int .i64 0)), .pointer (some (sAddr A3 0))⟩, ⟨false, [], vS (Instr.loadAt 3 (.pointer (some (sAddr A3 0)))), .int .i64 (geti way1 0)⟩, ⟨true, [], vS (Instr.indexAt 22 (.slice A1 p_b1.length c1) (.int .i64 (geti way1 0))), .pointer (some (sAddr A1 (geti way1 0)))⟩, ⟨false, [], vS (Instr.loadAt 3 (.pointer (some (sAddr A1 (geti way1 0))))), .int .i64 (geti p_b1 (geti way1 0))⟩] [none, none, none, some (.slice A1 p_b1.length c1), none, some (.pointer (some (sAddr A3 0))), some (.int .i64 (geti way1 0)), some (.pointer (some (sAddr A1 (geti way1 0)))), some (.int .i64 (geti p_b1 (geti way1 0))), none] [0, 1, 4, 5] [pl 0 (.pointer (some ⟨g1, 0, none⟩)), pl 1 (.slice A3 way1.length c3), pl 4 (.int .i64 (geti way1 (w64 ((way1.length : Int) - 1)))), pl 5 (.int .i64 (geti p_b1 (geti way1 0)))] hF hS Fol (by kernel_rfl) (by kernel_rfl) (by kernel_rfl) ?_ (fun a w hF hS => ?_)
    · exact obs_cons (ob_load Agg22 (fun _ _ hS => (hS.at_ 0 rfl).cell rfl)) <| obs_cons (ob_ix1 (f := (Value.int .i64)) (m := way1) Und22 hi3 hs3 (hr_way1 _ (hS.dropN 3)) rfl (fun _ => hp2)) <| obs_cons (ob_get1 (n := way1.length) (m := way1) (Value.int .i64) (0 : Int) Agg3 (fun _ hS => ⟨_, (hr_way1 _ (hS.dropN 3))⟩) (fun _ hS => rfl) (fun _ => hp2)) <| obs_cons (ob_ix1 (f := (Value.int .i64)) (m := p_b1) Und22 hi3 hs3 (hS.at_ 1 rfl).rd rfl (fun _ => hp3)) <| obs_cons (ob_get1 (n := p_b1.length) (m := p_b1) (Value.int .i64) (0 : Int) Agg3 (fun _ hS => ⟨_, (hS.at_ 1 rfl).rd⟩) (fun _ hS => rfl) (fun _ => hp3)) <| obs_nil
    refine wpIn_seq ?_
    obtain ⟨hp4, hm⟩ := asrt_b hm
    obtain ⟨hp5, hm⟩ := asrt_b hm
    refine regMix4 [0, 1, 2, 3, 4, 5, 6, 7] [8] [⟨false, [], vS (Instr.loadAt 22 (.pointer (some ⟨g1, 0, none⟩))), .slice A1 p_b1.length c1⟩, ⟨true, [], vS (Instr.indexAt 22 (.slice A3 way1.length c3) (.int .i64 0)), .pointer (some (sAddr A3 0))⟩, ⟨false, [], vS (Instr.loadAt 3 (.pointer (some (sAddr A3 0)))), .int .i64 (geti way1 0)⟩, ⟨true, [], vS (Instr.indexAt 22 (.slice A1 p_b1.length c1) (.int .i64 (geti way1 0))), .pointer (some (sAddr A1 (geti way1 0)))⟩] [none, none, none, some (.slice A1 p_b1.length c1), none, some (.pointer (some (sAddr A3 0))), some (.int .i64 (geti way1 0)), some (.pointer (some (sAddr A1 (geti way1 0))))] [0, 1, 4, 5, 30] [pl 0 (.pointer (some ⟨g1, 0, none⟩)), pl 1 (.slice A3 way1.length c3), pl 4 (.int .i64 (geti way1 (w64 ((way1.length : Int) - 1)))), pl 5 (.int .i64 (geti p_b1 (geti way1 0))), pl 30 (.pointer (some (sAddr A1 (geti way1 0))))] hF hS Fol (by kernel_rfl) (by kernel_rfl) (by kernel_rfl) (by kernel_rfl) (by kernel_rfl) ?_ (fun a w hF hS => ?_)
    · exact obs_cons (ob_load Agg22 (fun _ _ hS => (hS.at_ 0 rfl).cell rfl)) <| obs_cons (ob_ix1 (f := (Value.int .i64)) (m := way1) Und22 hi3 hs3 (hr_way1 _ (hS.dropN 3)) rfl (fun _ => hp4)) <| obs_cons (ob_get1 (n := way1.length) (m := way1) (Value.int .i64) (0 : Int) Agg3 (fun _ hS => ⟨_, (hr_way1 _ (hS.dropN 3))⟩) (fun _ hS => rfl) (fun _ => hp4)) <| obs_cons (ob_ix1 (f := (Value.int .i64)) (m := p_b1) Und22 hi3 hs3 (hS.at_ 1 rfl).rd rfl (fun _ => hp5)) <| obs_nil
    obtain ⟨w, hrun, hS⟩ := run_set1 (P := Try.prog) (t := 3) (x := 0) (Value.int .i64) (hS.at_ 1 rfl) hi3 hs3 rfl rfl hp5
    refine at_skip hF (by kernel_rfl) hrun ?_
    have hS : Sep w0 B w (blk g1 169 #[.slice A1 p_b1.length c1, .int .i64 p_sign1, .slice A2 p_out1.length c2] :: own 3 (.slice A1 p_b1.length c1) (vI (p_b1.set (Int.toNat (geti way1 0)) 0)) :: rows 22 3 (.slice A2 p_out1.length c2) hd1 p_out1 :: fs) := hS
    refine at_end [0, 1, 4, 5] [pl 0 (.pointer (some ⟨g1, 0, none⟩)), pl 1 (.slice A3 way1.length c3), pl 4 (.int .i64 (geti way1 (w64 ((way1.length : Int) - 1)))), pl 5 (.int .i64 (geti p_b1 (geti way1 0)))] hF rfl (by kernel_rfl) (fun hF => ?_)
    refine np_n ?_
    refine then_n ?_
    refine seq_cut (fun a w => ∃ (p3 : List Int), Fr 70 [pl 0 (.pointer (some ⟨g1, 0, none⟩)), pl 4 (.int .i64 (geti way1 (w64 ((way1.length : Int) - 1)))), pl 5 (.int .i64 (geti p_b1 (geti way1 0)))] a ∧ Sep w0 B w (blk g1 169 #[.slice A1 p_b1.length c1, .int .i64 p_sign1, .slice A2 p_out1.length c2] :: own 3 (.slice A1 p_b1.length c1) (vI p3) :: rows 22 3 (.slice A2 p_out1.length c2) hd1 p_out1 :: fs) ∧ ((draughts_play_do_2_J2 p_b1 p_sign1 p_out1 way1) p3).bind some = some r) ?_ ?_
    · rintro a w ⟨p3, hF, hS, hm⟩
      unfold draughts_play_do_2_J2 at hm
      refine seq_cut (fun a w => ∃ (piece1 : Int), Fr 70 [pl 0 (.pointer (some ⟨g1, 0, none⟩)), pl 4 (.int .i64 (geti way1 (w64 ((way1.length : Int) - 1)))), pl 5 (.int .i64 piece1)] a ∧ Sep w0 B w (blk g1 169 #[.slice A1 p_b1.length c1, .int .i64 p_sign1, .slice A2 p_out1.length c2] :: own 3 (.slice A1 p_b1.length c1) (vI p3) :: rows 22 3 (.slice A2 p_out1.length c2) hd1 p_out1 :: fs) ∧ ((draughts_play_do_2_J5 p_b1 way1 p3) piece1).bind some = some r) ?_ ?_
      · rintro a w ⟨piece1, hF, hS, hm⟩
        unfold draughts_play_do_2_J5 at hm
        refine oneR ?_
        obtain ⟨hp9, hm⟩ := asrt_b hm
        refine at_run 7 [⟨false, [], vS (Instr.loadAt 22 (.pointer (some ⟨g1, 0, none⟩))), .slice A1 p_b1.length c1⟩, ⟨true, [], vS (Instr.indexAt 22 (.slice A1 p_b1.length c1) (.int .i64 (geti way1 (w64 ((way1.length : Int) - 1))))), .pointer (some (sAddr A1 (geti way1 (w64 ((way1.length : Int) - 1)))))⟩] [none, none, none, some (.slice A1 p_b1.length c1), none, none, some (.pointer (some (sAddr A1 (geti way1 (w64 ((way1.length : Int) - 1))))))] [68, 69] [pl 68 (.int .i64 piece1), pl 69 (.pointer (some (sAddr A1 (geti way1 (w64 ((way1.length : Int) - 1))))))] hF hS (by kernel_rfl) (by kernel_rfl) ?_ (fun a w hF hS => ?_)
        · exact obs_cons (ob_load Agg22 (fun _ _ hS => (hS.at_ 0 rfl).cell rfl)) <| obs_cons (ob_ix1 (f := (Value.int .i64)) (m := p3) Und22 hi3 hs3 (hS.at_ 1 rfl).rd ((hS.at_ 1 rfl).len1) (fun _ => hp9)) <| obs_nil
        obtain ⟨w, hrun, hS⟩ := run_set1 (P := Try.prog) (t := 3) (x := piece1) (Value.int .i64) (hS.at_ 1 rfl) hi3 hs3 rfl rfl hp9
        refine at_skip hF (by kernel_rfl) hrun ?_
        have hS : Sep w0 B w (blk g1 169 #[.slice A1 p_b1.length c1, .int .i64 p_sign1, .slice A2 p_out1.length c2] :: own 3 (.slice A1 p_b1.length c1) (vI (p3.set (Int.toNat (geti way1 (w64 ((way1.length : Int) - 1)))) piece1)) :: rows 22 3 (.slice A2 p_out1.length c2) hd1 p_out1 :: fs) := hS
        refine at_end [] [] hF rfl (by kernel_rfl) (fun hF => ?_)
        refine then_n ?_
        exact ⟨(p3.set (Int.toNat (geti way1 (w64 ((way1.length : Int) - 1)))) piece1), hF.weak [] (by kernel_rfl), hS, hm⟩
      · obtain ⟨r2, hr2, hm⟩ := call_b hm
        refine reg [⟨false, [], callFunc 203 #[.pointer (some ⟨g1, 0, none⟩), .int .i64 (geti way1 (w64 ((way1.length : Int) - 1)))], .bool r2⟩] [none, none, some (.bool r2)] [0, 4, 5, 57] [pl 0 (.pointer (some ⟨g1, 0, none⟩)), pl 4 (.int .i64 (geti way1 (w64 ((way1.length : Int) - 1)))), pl 5 (.int .i64 (geti p_b1 (geti way1 0))), pl 57 (.bool r2)] hF hS Fol (by kernel_rfl) (by kernel_rfl) (by kernel_rfl) ?_ (fun a w hF hS => ?_)
        · exact obs_cons (ob_call Try.func203 (by kernel_rfl) rfl (fun _ _ hS => draughts_play_last_w hr2 hS )) <| obs_nil
        refine cond_ev (t := 57) (b := r2) hF (by kernel_rfl) (fun hb => ?_) (fun hb => ?_)
        · replace hm := if_t hm hb
          refine reg1 [⟨false, [], vS (Instr.loadAt 3 (.pointer (some ⟨g1, 1, none⟩))), .int .i64 p_sign1⟩] [none, none, none, some (.int .i64 p_sign1), none, none] [0, 4, 5] [pl 0 (.pointer (some ⟨g1, 0, none⟩)), pl 4 (.int .i64 (geti way1 (w64 ((way1.length : Int) - 1)))), pl 5 (.int .i64 (w64 (2 * p_sign1)))] hF hS Fol (by kernel_rfl) (by kernel_rfl) (by kernel_rfl) ?_ (fun a w hF hS => ?_)
          · exact obs_cons (ob_load Agg3 (fun _ _ hS => (hS.at_ 0 rfl).cell rfl)) <| obs_nil
          refine then_n ?_
          exact ⟨(w64 (2 * p_sign1)), hF.weak [0, 4, 5] (by kernel_rfl), hS, hm⟩
        · replace hm := if_f hm hb
          refine wpIn_skip ?_
          refine then_n ?_
          exact ⟨(geti p_b1 (geti way1 0)), hF.weak [0, 4, 5] (by kernel_rfl), hS, hm⟩
    · refine reg [] [] [0, 1, 4, 5, 6] [pl 0 (.pointer (some ⟨g1, 0, none⟩)), pl 1 (.slice A3 way1.length c3), pl 4 (.int .i64 (geti way1 (w64 ((way1.length : Int) - 1)))), pl 5 (.int .i64 (geti p_b1 (geti way1 0))), pl 6 (.int .i64 1)] hF hS Fol (by kernel_rfl) (by kernel_rfl) (by kernel_rfl) ?_ (fun a w hF hS => ?_)
      · exact obs_nil
      refine wpIn_block ?_
      refine wp_loop_model (S := (List Int × Int)) (R := (List Int)) (draughts_play_do_2_L1 p_b1 way1) (fun x => ((draughts_play_do_2_K1 p_b1 p_sign1 p_out1 way1) x).bind some) r (fun (x : (List Int × Int)) a w => Fr 70 [pl 0 (.pointer (some ⟨g1, 0, none⟩)), pl 1 (.slice A3 way1.length c3), pl 4 (.int .i64 (geti way1 (w64 ((way1.length : Int) - 1)))), pl 5 (.int .i64 (geti p_b1 (geti way1 0))), pl 6 (.int .i64 x.2)] a ∧ Sep w0 B w (blk g1 169 #[.slice A1 p_b1.length c1, .int .i64 p_sign1, .slice A2 p_out1.length c2] :: own 3 (.slice A1 p_b1.length c1) (vI x.1) :: rows 22 3 (.slice A2 p_out1.length c2) hd1 p_out1 :: fs)) (assoc_b hm) ⟨hF.weak [0, 1, 4, 5, 6] (by kernel_rfl), hS⟩ ?_
      clear hF hS hm
      rintro nn1 ⟨p2, i1⟩ a w ⟨hF, hS⟩ hm
      generalize hφ1 : stK (draughts_play_do_2_L1 p_b1 way1) nn1 (fun x => ((draughts_play_do_2_K1 p_b1 p_sign1 p_out1 way1) x).bind some) = φ1 at hm
      unfold draughts_play_do_2_L1 at hm
      dsimp only at hF hS hm
      refine seq_cut (fun a w => Fr 70 [pl 0 (.pointer (some ⟨g1, 0, none⟩)), pl 1 (.slice A3 way1.length c3), pl 4 (.int .i64 (geti way1 (w64 ((way1.length : Int) - 1)))), pl 5 (.int .i64 (geti p_b1 (geti way1 0))), pl 6 (.int .i64 i1)] a ∧ Sep w0 B w (blk g1 169 #[.slice A1 p_b1.length c1, .int .i64 p_sign1, .slice A2 p_out1.length c2] :: own 3 (.slice A1 p_b1.length c1) (vI p2) :: rows 22 3 (.slice A2 p_out1.length c2) hd1 p_out1 :: fs) ∧ ((draughts_play_do_2_J3 p_b1 way1 p2 i1)).bind φ1 = some r) ?_ ?_
      · rintro a w ⟨hF, hS, hm⟩
        unfold draughts_play_do_2_J3 at hm
        refine seq_cut (fun a w => ∃ (p4 : List Int), Fr 70 [pl 0 (.pointer (some ⟨g1, 0, none⟩)), pl 1 (.slice A3 way1.length c3), pl 4 (.int .i64 (geti way1 (w64 ((way1.length : Int) - 1)))), pl 5 (.int .i64 (geti p_b1 (geti way1 0))), pl 6 (.int .i64 i1)] a ∧ Sep w0 B w (blk g1 169 #[.slice A1 p_b1.length c1, .int .i64 p_sign1, .slice A2 p_out1.length c2] :: own 3 (.slice A1 p_b1.length c1) (vI p4) :: rows 22 3 (.slice A2 p_out1.length c2) hd1 p_out1 :: fs) ∧ ((draughts_play_do_2_J4 i1) p4).bind φ1 = some r) ?_ ?_
        · rintro a w ⟨p4, hF, hS, hm⟩
          unfold draughts_play_do_2_J4 at hm
          refine reg1 [] [] [0, 1, 4, 5, 6] [pl 0 (.pointer (some ⟨g1, 0, none⟩)), pl 1 (.slice A3 way1.length c3), pl 4 (.int .i64 (geti way1 (w64 ((way1.length : Int) - 1)))), pl 5 (.int .i64 (geti p_b1 (geti way1 0))), pl 6 (.int .i64 (w64 (i1 + 1)))] hF hS Fol (by kernel_rfl) (by kernel_rfl) (by kernel_rfl) ?_ (fun a w hF hS => ?_)
          · exact obs_nil
          refine then_n ?_
          rw [← hφ1] at hm
          exact ⟨(p4, (w64 (i1 + 1))), ⟨hF.weak [0, 1, 4, 5, 6] (by kernel_rfl), hS⟩, hm⟩
        · refine wpIn_block ?_
          obtain ⟨hp6, hm⟩ := asrt_b hm
          obtain ⟨hp7, hm⟩ := asrt_b hm
          obtain ⟨r1, hr1, hm⟩ := call_b hm
          refine reg [⟨true, [], vS (Instr.indexAt 22 (.slice A3 way1.length c3) (.int .i64 (w64 (i1 - 1)))), .pointer (some (sAddr A3 (w64 (i1 - 1))))⟩, ⟨false, [], vS (Instr.loadAt 3 (.pointer (some (sAddr A3 (w64 (i1 - 1)))))), .int .i64 (geti way1 (w64 (i1 - 1)))⟩, ⟨true, [], vS (Instr.indexAt 22 (.slice A3 way1.length c3) (.int .i64 i1)), .pointer (some (sAddr A3 i1))⟩, ⟨false, [], vS (Instr.loadAt 3 (.pointer (some (sAddr A3 i1)))), .int .i64 (geti way1 i1)⟩, ⟨false, [], callFunc 202 #[.int .i64 (geti way1 (w64 (i1 - 1))), .int .i64 (geti way1 i1)], .int .i64 r1⟩] [none, none, none, some (.pointer (some (sAddr A3 (w64 (i1 - 1))))), some (.int .i64 (geti way1 (w64 (i1 - 1)))), none, none, some (.pointer (some (sAddr A3 i1))), some (.int .i64 (geti way1 i1)), some (.int .i64 r1), none] [0, 1, 4, 5, 6, 7] [pl 0 (.pointer (some ⟨g1, 0, none⟩)), pl 1 (.slice A3 way1.length c3), pl 4 (.int .i64 (geti way1 (w64 ((way1.length : Int) - 1)))), pl 5 (.int .i64 (geti p_b1 (geti way1 0))), pl 6 (.int .i64 i1), pl 7 (.int .i64 r1)] hF hS Fol (by kernel_rfl) (by kernel_rfl) (by kernel_rfl) ?_ (fun a w hF hS => ?_)
          · exact obs_cons (ob_ix1 (f := (Value.int .i64)) (m := way1) Und22 hi3 hs3 (hr_way1 _ (hS.dropN 3)) rfl (fun _ => hp6)) <| obs_cons (ob_get1 (n := way1.length) (m := way1) (Value.int .i64) (0 : Int) Agg3 (fun _ hS => ⟨_, (hr_way1 _ (hS.dropN 3))⟩) (fun _ hS => rfl) (fun _ => hp6)) <| obs_cons (ob_ix1 (f := (Value.int .i64)) (m := way1) Und22 hi3 hs3 (hr_way1 _ (hS.dropN 3)) rfl (fun _ => hp7)) <| obs_cons (ob_get1 (n := way1.length) (m := way1) (Value.int .i64) (0 : Int) Agg3 (fun _ hS => ⟨_, (hr_way1 _ (hS.dropN 3))⟩) (fun _ hS => rfl) (fun _ => hp7)) <| obs_cons (ob_call Try.func202 (by kernel_rfl) rfl (fun _ _ hS => draughts_middle_w hr1 hS )) <| obs_nil
          refine reg [] [] [0, 1, 4, 5, 6, 7, 48] [pl 0 (.pointer (some ⟨g1, 0, none⟩)), pl 1 (.slice A3 way1.length c3), pl 4 (.int .i64 (geti way1 (w64 ((way1.length : Int) - 1)))), pl 5 (.int .i64 (geti p_b1 (geti way1 0))), pl 6 (.int .i64 i1), pl 7 (.int .i64 r1), pl 48 (.bool (decide ((0 : Int) < r1)))] hF hS Fol (by kernel_rfl) (by kernel_rfl) (by kernel_rfl) ?_ (fun a w hF hS => ?_)
          · exact obs_nil
          refine cond_ev (t := 48) (b := decide ((0 : Int) < r1)) hF (by kernel_rfl) (fun hb => ?_) (fun hb => ?_)
          · replace hm := if_t hm hb
            refine oneR ?_
            obtain ⟨hp8, hm⟩ := asrt_b hm
            refine at_run 6 [⟨false, [], vS (Instr.loadAt 22 (.pointer (some ⟨g1, 0, none⟩))), .slice A1 p_b1.length c1⟩, ⟨true, [], vS (Instr.indexAt 22 (.slice A1 p_b1.length c1) (.int .i64 r1)), .pointer (some (sAddr A1 r1))⟩] [none, none, none, some (.slice A1 p_b1.length c1), none, some (.pointer (some (sAddr A1 r1)))] [0, 1, 4, 5, 6, 54] [pl 0 (.pointer (some ⟨g1, 0, none⟩)), pl 1 (.slice A3 way1.length c3), pl 4 (.int .i64 (geti way1 (w64 ((way1.length : Int) - 1)))), pl 5 (.int .i64 (geti p_b1 (geti way1 0))), pl 6 (.int .i64 i1), pl 54 (.pointer (some (sAddr A1 r1)))] hF hS (by kernel_rfl) (by kernel_rfl) ?_ (fun a w hF hS => ?_)
            · exact obs_cons (ob_load Agg22 (fun _ _ hS => (hS.at_ 0 rfl).cell rfl)) <| obs_cons (ob_ix1 (f := (Value.int .i64)) (m := p2) Und22 hi3 hs3 (hS.at_ 1 rfl).rd ((hS.at_ 1 rfl).len1) (fun _ => hp8)) <| obs_nil
            obtain ⟨w, hrun, hS⟩ := run_set1 (P := Try.prog) (t := 3) (x := 0) (Value.int .i64) (hS.at_ 1 rfl) hi3 hs3 rfl rfl hp8
            refine at_skip hF (by kernel_rfl) hrun ?_
            have hS : Sep w0 B w (blk g1 169 #[.slice A1 p_b1.length c1, .int .i64 p_sign1, .slice A2 p_out1.length c2] :: own 3 (.slice A1 p_b1.length c1) (vI (p2.set (Int.toNat r1) 0)) :: rows 22 3 (.slice A2 p_out1.length c2) hd1 p_out1 :: fs) := hS
            refine at_end [0, 1, 4, 5, 6] [pl 0 (.pointer (some ⟨g1, 0, none⟩)), pl 1 (.slice A3 way1.length c3), pl 4 (.int .i64 (geti way1 (w64 ((way1.length : Int) - 1)))), pl 5 (.int .i64 (geti p_b1 (geti way1 0))), pl 6 (.int .i64 i1)] hF rfl (by kernel_rfl) (fun hF => ?_)
            refine block_n ?_
            refine then_n ?_
            exact ⟨(p2.set (Int.toNat r1) 0), hF.weak [0, 1, 4, 5, 6] (by kernel_rfl), hS, hm⟩
          · replace hm := if_f hm hb
            refine wpIn_skip ?_
            refine block_n ?_
            refine then_n ?_
            exact ⟨p2, hF.weak [0, 1, 4, 5, 6] (by kernel_rfl), hS, hm⟩
      · refine reg [] [] [0, 1, 4, 5, 6, 34] [pl 0 (.pointer (some ⟨g1, 0, none⟩)), pl 1 (.slice A3 way1.length c3), pl 4 (.int .i64 (geti way1 (w64 ((way1.length : Int) - 1)))), pl 5 (.int .i64 (geti p_b1 (geti way1 0))), pl 6 (.int .i64 i1), pl 34 (.bool (decide (i1 < (way1.length : Int))))] hF hS Fol (by kernel_rfl) (by kernel_rfl) (by kernel_rfl) ?_ (fun a w hF hS => ?_)
        · exact obs_nil
        refine cond_ev (t := 34) (b := decide (i1 < (way1.length : Int))) hF (by kernel_rfl) (fun hb => ?_) (fun hb => ?_)
        · replace hm := if_t hm hb
          refine wpIn_skip ?_
          refine then_n ?_
          exact ⟨hF.weak [0, 1, 4, 5, 6] (by kernel_rfl), hS, hm⟩
        · replace hm := if_f hm hb
          refine wpIn_exit ?_
          refine then_e (then_e (block_e (then_n ?_)))
          rw [← hφ1] at hm
          replace hm := done_b hm
          unfold draughts_play_do_2_K1 at hm
          try dsimp only at hm
          have hm : ((draughts_play_do_2_J2 p_b1 p_sign1 p_out1 way1) p2).bind some = some r := hm
          exact ⟨p2, hF.weak [0, 4, 5] (by kernel_rfl), hS, hm⟩

noncomputable def draughts_count_J4  (z1 : Int) (n4 : Int) : Option (St (Int × Int) Int) :=
  some (.next (n4, (w64 (z1 + 1))))

noncomputable def draughts_count_J3  (rec_draughts_count : List Int → Int → Int → Option Int) (b1 : List Int) (b2 : Int) (plies1 : Int) (r2 : (List (List Int))) (n2 : Int) (z1 : Int) : Option (St (Int × Int) Int) :=
  asrt (0 ≤ z1 ∧ z1 < (r2.length : Int)) <| (draughts_newPlay_m b1 b2).bind fun r3 => (draughts_play_do_2_m r3.1 r3.2.1 r3.2.2 (geti2 r2 z1)).bind fun r4 => (rec_draughts_count r4 (w64 (3 - b2)) (w64 (plies1 - 1))).bind fun r5 => (draughts_count_J4 z1) (w64 (n2 + r5))

noncomputable def draughts_count_J2  (n3 : Int) : Option Int :=
  some n3

noncomputable def draughts_count_K1  : Int → Option Int :=
  fun (x : Int) => match x with | n3 => draughts_count_J2 n3

noncomputable def draughts_count_L1  (rec_draughts_count : List Int → Int → Int → Option Int) (b1 : List Int) (b2 : Int) (plies1 : Int) (r2 : (List (List Int))) : (Int × Int) → Option (St (Int × Int) Int) :=
  fun (x : (Int × Int)) => match x with | (n2, z1) => if (decide (z1 < (r2.length : Int))) then ((draughts_count_J3 rec_draughts_count b1 b2 plies1 r2 n2 z1)) else (some (.done n2))

noncomputable def draughts_count_J1  (rec_draughts_count : List Int → Int → Int → Option Int) (b1 : List Int) (b2 : Int) (plies1 : Int) : Option Int :=
  (draughts_newPlay_m b1 b2).bind fun r1 => (draughts_play_moves_m r1.1 r1.2.1 r1.2.2).bind fun r2 => (loop (draughts_count_L1 rec_draughts_count b1 b2 plies1 r2) (0, 0)).bind draughts_count_K1

noncomputable def draughts_count_B  (rec_draughts_count : List Int → Int → Int → Option Int) (b1 : List Int) (b2 : Int) (plies1 : Int) : Option Int :=
  if (plies1 == 0) then (some 1) else ((draughts_count_J1 rec_draughts_count b1 b2 plies1))

noncomputable def draughts_count_mF  : Nat → List Int → Int → Int → Option Int
  | 0 => fun _ _ _ => none
  | n + 1 => fun b1 b2 plies1 => draughts_count_B (draughts_count_mF n) b1 b2 plies1

noncomputable def draughts_count_m  (b1 : List Int) (b2 : Int) (plies1 : Int) : Option Int :=
  recM fun n => draughts_count_mF n b1 b2 plies1

set_option maxRecDepth 100000 in
set_option maxHeartbeats 4000000 in
theorem draughts_count_wB  {rec_draughts_count : List Int → Int → Int → Option Int} (ih_draughts_count : ∀ {A1 : Option Addr} {c1 : Nat} {n1 : Nat} {b1 : List Int} {b2 : Int} {plies1 : Int} {r : Int} {w0 w : World} {B : Nat} {fs : List HP} (_ : rec_draughts_count b1 b2 plies1 = some r) (_ : Sep w0 B w (fs)) (_hr_b1 : RdF w0 B fs A1 (vI b1)) (_hc_b1 : b1.length ≤ c1) (_hn_b1 : n1 = b1.length), Calls Try.prog 128 #[.agg #[.slice A1 n1 c1, .int .i64 b2], .int .i64 plies1] w fun e w' => e = .returned (.int .i64 r) ∧ Sep w0 B w' (fs)) {A1 : Option Addr} {c1 : Nat} {n1 : Nat} {b1 : List Int} {b2 : Int} {plies1 : Int} {r : Int} {w0 w : World} {B : Nat} {fs : List HP} (hm : draughts_count_B rec_draughts_count b1 b2 plies1 = some r) (hS : Sep w0 B w (fs)) (hr_b1 : RdF w0 B fs A1 (vI b1)) (_hc_b1 : b1.length ≤ c1) (_hn_b1 : n1 = b1.length) :
    Calls Try.prog 128 #[.agg #[.slice A1 n1 c1, .int .i64 b2], .int .i64 plies1] w fun e w' => e = .returned (.int .i64 r) ∧ Sep w0 B w' (fs) := by
  obtain ⟨i3, hi3, hz3, hs3, hb3⟩ := info_parts Info3
  obtain ⟨i22, hi22, hz22, hs22, hb22⟩ := info_parts Info22
  obtain rfl := _hn_b1
  unfold draughts_count_B at hm
  replace hm := start_b hm
  refine enter (l := [.agg #[.slice A1 b1.length c1, .int .i64 b2], .int .i64 plies1]) (n := 39) Try.func128 rfl rfl (by simp) (fun a hF => ?_)
  refine seqR ?_
  refine at_do (d := 2) (s := vS (Instr.box 66 (.agg #[.slice A1 b1.length c1, .int .i64 b2]))) (v := .pointer (some ⟨w.heap.size, 0, none⟩)) (w' := w.alloc (.cells #[.slice A1 b1.length c1, .int .i64 b2] 66)) hF (by kernel_rfl) (by kernel_rfl) (by kernel_rfl) (fun a hF => ?_)
  have hS : Sep w0 B (w.alloc (.cells #[.slice A1 b1.length c1, .int .i64 b2] 66)) (blk w.heap.size 66 #[.slice A1 b1.length c1, .int .i64 b2] :: (fs)) := hS.box 66 #[.slice A1 b1.length c1, .int .i64 b2]
  generalize w.heap.size = g1 at hF hS
  generalize w.alloc (.cells #[.slice A1 b1.length c1, .int .i64 b2] 66) = w at hS ⊢
  refine at_run 1 [] [] [1, 2] [pl 1 (.int .i64 plies1), pl 2 (.pointer (some ⟨g1, 0, none⟩))] hF hS (by kernel_rfl) (by kernel_rfl) ?_ (fun a w hF hS => ?_)
  · exact obs_nil
  refine at_end [1, 2] [pl 1 (.int .i64 plies1), pl 2 (.pointer (some ⟨g1, 0, none⟩))] hF rfl (by kernel_rfl) (fun hF => ?_)
  refine then_n ?_
  refine seq_cut (fun a w => Fr 39 [pl 1 (.int .i64 plies1), pl 2 (.pointer (some ⟨g1, 0, none⟩))] a ∧ Sep w0 B w (blk g1 66 #[.slice A1 b1.length c1, .int .i64 b2] :: fs) ∧ ((draughts_count_J1 rec_draughts_count b1 b2 plies1)).bind some = some r) ?_ ?_
  · rintro a w ⟨hF, hS, hm⟩
    unfold draughts_count_J1 at hm
    refine reg [] [] [1, 2, 5] [pl 1 (.int .i64 plies1), pl 2 (.pointer (some ⟨g1, 0, none⟩)), pl 5 (.int .i64 0)] hF hS Fol (by kernel_rfl) (by kernel_rfl) (by kernel_rfl) ?_ (fun a w hF hS => ?_)
    · exact obs_nil
    refine seq_cut (fun a w => ∃ (n3 : Int), Fr 39 [pl 5 (.int .i64 n3)] a ∧ Sep w0 B w (fs) ∧ (draughts_count_J2 n3).bind some = some r) ?_ ?_
    · rintro a w ⟨n3, hF, hS, hm⟩
      unfold draughts_count_J2 at hm
      refine reg [] [] [4] [pl 4 (.int .i64 n3)] hF hS Fol (by kernel_rfl) (by kernel_rfl) (by kernel_rfl) ?_ (fun a w hF hS => ?_)
      · exact obs_nil
      refine wpIn_ret ?_
      have hm : some n3 = some r := hm
      obtain rfl := Option.some.inj hm
      exact retV (rs := [.tmp 4]) (vs := [.int .i64 n3]) hF rfl (rv_t (by kernel_rfl) <| rv_nil) rfl ⟨rfl, hS⟩
    · refine seqR ?_
      obtain ⟨r1, hr1, hm⟩ := call_b hm
      obtain ⟨r2, hr2, hm⟩ := call_b hm
      refine at_run 1 [⟨false, [], vS (Instr.loadAt 66 (.pointer (some ⟨g1, 0, none⟩))), .agg #[.slice A1 b1.length c1, .int .i64 b2]⟩] [some (.agg #[.slice A1 b1.length c1, .int .i64 b2])] [1, 2, 5, 11] [pl 1 (.int .i64 plies1), pl 2 (.pointer (some ⟨g1, 0, none⟩)), pl 5 (.int .i64 0), pl 11 (.agg #[.slice A1 b1.length c1, .int .i64 b2])] hF hS (by kernel_rfl) (by kernel_rfl) ?_ (fun a w hF hS => ?_)
      · exact obs_cons (ob_loadA (cs := #[.slice A1 b1.length c1, .int .i64 b2]) (by kernel_rfl) (by kernel_rfl) (fun _ _ hS => (hS.at_ 0 rfl).cellsAt 0 (by rfl))) <| obs_nil
      refine at_call (f := 115) (args := #[.agg #[.slice A1 b1.length c1, .int .i64 b2]]) (d := 12) hF (by kernel_rfl) (by kernel_rfl) Try.func115 (by kernel_rfl) rfl (draughts_newPlay_w hr1 hS (fun _ hS => (hr_b1 _ (hS.dropN 1))) _hc_b1 rfl) (fun v a w hR hF => ?_)
      clear hS
      obtain ⟨g2, A2, c2, A3, c3, hd1, rfl, hS⟩ := hR
      have hS : Sep w0 B w (blk g2 169 #[.slice A2 r1.1.length c2, .int .i64 r1.2.1, .slice A3 r1.2.2.length c3] :: own 3 (.slice A2 r1.1.length c2) (vI r1.1) :: rows 22 3 (.slice A3 r1.2.2.length c3) hd1 r1.2.2 :: blk g1 66 #[.slice A1 b1.length c1, .int .i64 b2] :: fs) := hS
      refine at_call (f := 116) (args := #[.pointer (some ⟨g2, 0, none⟩)]) (d := 13) hF (by kernel_rfl) (by kernel_rfl) Try.func116 (by kernel_rfl) rfl (draughts_play_moves_w hr2 hS ) (fun v a w hR hF => ?_)
      clear hS
      obtain ⟨j1, A4, c4, hd2, rfl, hS⟩ := hR
      have hS : Sep w0 B w (blk g2 169 #[.slice A2 r1.1.length c2, .int .i64 r1.2.1, j1] :: own 3 (.slice A2 r1.1.length c2) (vI r1.1) :: rows 22 3 (.slice A4 r2.length c4) hd2 r2 :: blk g1 66 #[.slice A1 b1.length c1, .int .i64 b2] :: fs) := hS
      refine at_run 2 [] [] [1, 2, 5, 13, 14, 15] [pl 1 (.int .i64 plies1), pl 2 (.pointer (some ⟨g1, 0, none⟩)), pl 5 (.int .i64 0), pl 13 (.slice A4 r2.length c4), pl 14 (.int .i64 (r2.length : Int)), pl 15 (.int .i64 0)] hF hS (by kernel_rfl) (by kernel_rfl) ?_ (fun a w hF hS => ?_)
      · exact obs_nil
      refine at_end [1, 2, 5, 13, 14, 15] [pl 1 (.int .i64 plies1), pl 2 (.pointer (some ⟨g1, 0, none⟩)), pl 5 (.int .i64 0), pl 13 (.slice A4 r2.length c4), pl 14 (.int .i64 (r2.length : Int)), pl 15 (.int .i64 0)] hF rfl (by kernel_rfl) (fun hF => ?_)
      refine then_n ?_
      refine wpIn_block ?_
      have hS := hS.pickN 4 [3, 2] (by decide)
      refine wp_loop_model (S := (Int × Int)) (R := Int) (draughts_count_L1 rec_draughts_count b1 b2 plies1 r2) (fun x => (draughts_count_K1 x).bind some) r (fun (x : (Int × Int)) a w => Fr 39 [pl 1 (.int .i64 plies1), pl 2 (.pointer (some ⟨g1, 0, none⟩)), pl 5 (.int .i64 x.1), pl 13 (.slice A4 r2.length c4), pl 14 (.int .i64 (r2.length : Int)), pl 15 (.int .i64 x.2)] a ∧ Sep w0 B w (blk g1 66 #[.slice A1 b1.length c1, .int .i64 b2] :: rows 22 3 (.slice A4 r2.length c4) hd2 r2 :: fs)) (assoc_b hm) ⟨hF.weak [1, 2, 5, 13, 14, 15] (by kernel_rfl), hS⟩ ?_
      clear hF hS hm
      rintro nn1 ⟨n2, z1⟩ a w ⟨hF, hS⟩ hm
      generalize hφ1 : stK (draughts_count_L1 rec_draughts_count b1 b2 plies1 r2) nn1 (fun x => (draughts_count_K1 x).bind some) = φ1 at hm
      unfold draughts_count_L1 at hm
      dsimp only at hF hS hm
      refine reg [] [] [1, 2, 5, 13, 14, 15, 16] [pl 1 (.int .i64 plies1), pl 2 (.pointer (some ⟨g1, 0, none⟩)), pl 5 (.int .i64 n2), pl 13 (.slice A4 r2.length c4), pl 14 (.int .i64 (r2.length : Int)), pl 15 (.int .i64 z1), pl 16 (.bool (decide (z1 < (r2.length : Int))))] hF hS Fol (by kernel_rfl) (by kernel_rfl) (by kernel_rfl) ?_ (fun a w hF hS => ?_)
      · exact obs_nil
      refine seq_cut (fun a w => Fr 39 [pl 1 (.int .i64 plies1), pl 2 (.pointer (some ⟨g1, 0, none⟩)), pl 5 (.int .i64 n2), pl 13 (.slice A4 r2.length c4), pl 14 (.int .i64 (r2.length : Int)), pl 15 (.int .i64 z1)] a ∧ Sep w0 B w (blk g1 66 #[.slice A1 b1.length c1, .int .i64 b2] :: rows 22 3 (.slice A4 r2.length c4) hd2 r2 :: fs) ∧ ((draughts_count_J3 rec_draughts_count b1 b2 plies1 r2 n2 z1)).bind φ1 = some r) ?_ ?_
      · rintro a w ⟨hF, hS, hm⟩
        unfold draughts_count_J3 at hm
        refine seq_cut (fun a w => ∃ (n4 : Int), Fr 39 [pl 1 (.int .i64 plies1), pl 2 (.pointer (some ⟨g1, 0, none⟩)), pl 5 (.int .i64 n4), pl 13 (.slice A4 r2.length c4), pl 14 (.int .i64 (r2.length : Int)), pl 15 (.int .i64 z1)] a ∧ Sep w0 B w (blk g1 66 #[.slice A1 b1.length c1, .int .i64 b2] :: rows 22 3 (.slice A4 r2.length c4) hd2 r2 :: fs) ∧ ((draughts_count_J4 z1) n4).bind φ1 = some r) ?_ ?_
        · rintro a w ⟨n4, hF, hS, hm⟩
          unfold draughts_count_J4 at hm
          refine reg1 [] [] [1, 2, 5, 13, 14, 15] [pl 1 (.int .i64 plies1), pl 2 (.pointer (some ⟨g1, 0, none⟩)), pl 5 (.int .i64 n4), pl 13 (.slice A4 r2.length c4), pl 14 (.int .i64 (r2.length : Int)), pl 15 (.int .i64 (w64 (z1 + 1)))] hF hS Fol (by kernel_rfl) (by kernel_rfl) (by kernel_rfl) ?_ (fun a w hF hS => ?_)
          · exact obs_nil
          refine then_n ?_
          rw [← hφ1] at hm
          exact ⟨(n4, (w64 (z1 + 1))), ⟨hF.weak [1, 2, 5, 13, 14, 15] (by kernel_rfl), hS⟩, hm⟩
        · refine wpIn_block ?_
          obtain ⟨hp1, hm⟩ := asrt_b hm
          have hb1 := rowb (n := r2.length) (hS.at_ 1 rfl).lenR hp1
          refine reg [⟨true, [], vS (Instr.indexAt 42 (.slice A4 r2.length c4) (.int .i64 z1)), .pointer (some (sAddr A4 z1))⟩, ⟨false, [], vS (Instr.loadAt 22 (.pointer (some (sAddr A4 z1)))), .slice (hdA hd2 z1) ((geti2 r2 z1).length) (hdC hd2 z1)⟩] [some (.pointer (some (sAddr A4 z1))), some (.slice (hdA hd2 z1) ((geti2 r2 z1).length) (hdC hd2 z1)), none] [1, 2, 5, 7, 13, 14, 15] [pl 1 (.int .i64 plies1), pl 2 (.pointer (some ⟨g1, 0, none⟩)), pl 5 (.int .i64 n2), pl 7 (.slice (hdA hd2 z1) ((geti2 r2 z1).length) (hdC hd2 z1)), pl 13 (.slice A4 r2.length c4), pl 14 (.int .i64 (r2.length : Int)), pl 15 (.int .i64 z1)] hF hS Fol (by kernel_rfl) (by kernel_rfl) (by kernel_rfl) ?_ (fun a w hF hS => ?_)
          · exact obs_cons (ob_ixRn Und42 hi22 hs22 (hS.at_ 1 rfl).rdRows (hS.at_ 1 rfl).lenR (fun _ => hp1)) <| obs_cons (ob_getR Agg22 (fun _ hS => ⟨_, (hS.at_ 1 rfl).rdRows⟩) (fun _ => hb1)) <| obs_nil
          refine seqR ?_
          obtain ⟨r3, hr3, hm⟩ := call_b hm
          refine at_run 1 [⟨false, [], vS (Instr.loadAt 66 (.pointer (some ⟨g1, 0, none⟩))), .agg #[.slice A1 b1.length c1, .int .i64 b2]⟩] [some (.agg #[.slice A1 b1.length c1, .int .i64 b2])] [1, 2, 5, 7, 13, 14, 15, 19] [pl 1 (.int .i64 plies1), pl 2 (.pointer (some ⟨g1, 0, none⟩)), pl 5 (.int .i64 n2), pl 7 (.slice (hdA hd2 z1) ((geti2 r2 z1).length) (hdC hd2 z1)), pl 13 (.slice A4 r2.length c4), pl 14 (.int .i64 (r2.length : Int)), pl 15 (.int .i64 z1), pl 19 (.agg #[.slice A1 b1.length c1, .int .i64 b2])] hF hS (by kernel_rfl) (by kernel_rfl) ?_ (fun a w hF hS => ?_)
          · exact obs_cons (ob_loadA (cs := #[.slice A1 b1.length c1, .int .i64 b2]) (by kernel_rfl) (by kernel_rfl) (fun _ _ hS => (hS.at_ 0 rfl).cellsAt 0 (by rfl))) <| obs_nil
          refine at_call (f := 115) (args := #[.agg #[.slice A1 b1.length c1, .int .i64 b2]]) (d := 20) hF (by kernel_rfl) (by kernel_rfl) Try.func115 (by kernel_rfl) rfl (draughts_newPlay_w hr3 hS (fun _ hS => (hr_b1 _ (hS.dropN 2))) _hc_b1 rfl) (fun v a w hR hF => ?_)
          clear hS
          obtain ⟨g3, A5, c5, A6, c6, hd3, rfl, hS⟩ := hR
          have hS : Sep w0 B w (blk g3 169 #[.slice A5 r3.1.length c5, .int .i64 r3.2.1, .slice A6 r3.2.2.length c6] :: own 3 (.slice A5 r3.1.length c5) (vI r3.1) :: rows 22 3 (.slice A6 r3.2.2.length c6) hd3 r3.2.2 :: blk g1 66 #[.slice A1 b1.length c1, .int .i64 b2] :: rows 22 3 (.slice A4 r2.length c4) hd2 r2 :: fs) := hS
          refine at_run 1 [] [] [1, 2, 5, 7, 8, 13, 14, 15] [pl 1 (.int .i64 plies1), pl 2 (.pointer (some ⟨g1, 0, none⟩)), pl 5 (.int .i64 n2), pl 7 (.slice (hdA hd2 z1) ((geti2 r2 z1).length) (hdC hd2 z1)), pl 8 (.pointer (some ⟨g3, 0, none⟩)), pl 13 (.slice A4 r2.length c4), pl 14 (.int .i64 (r2.length : Int)), pl 15 (.int .i64 z1)] hF hS (by kernel_rfl) (by kernel_rfl) ?_ (fun a w hF hS => ?_)
          · exact obs_nil
          refine at_end [1, 2, 5, 7, 8, 13, 14, 15] [pl 1 (.int .i64 plies1), pl 2 (.pointer (some ⟨g1, 0, none⟩)), pl 5 (.int .i64 n2), pl 7 (.slice (hdA hd2 z1) ((geti2 r2 z1).length) (hdC hd2 z1)), pl 8 (.pointer (some ⟨g3, 0, none⟩)), pl 13 (.slice A4 r2.length c4), pl 14 (.int .i64 (r2.length : Int)), pl 15 (.int .i64 z1)] hF rfl (by kernel_rfl) (fun hF => ?_)
          refine then_n ?_
          refine seqR ?_
          obtain ⟨r4, hr4, hm⟩ := call_b hm
          refine at_run 2 [] [] [1, 2, 5, 8, 13, 14, 15, 21, 22] [pl 1 (.int .i64 plies1), pl 2 (.pointer (some ⟨g1, 0, none⟩)), pl 5 (.int .i64 n2), pl 8 (.pointer (some ⟨g3, 0, none⟩)), pl 13 (.slice A4 r2.length c4), pl 14 (.int .i64 (r2.length : Int)), pl 15 (.int .i64 z1), pl 21 (.pointer (some ⟨g3, 0, none⟩)), pl 22 (.slice (hdA hd2 z1) ((geti2 r2 z1).length) (hdC hd2 z1))] hF hS (by kernel_rfl) (by kernel_rfl) ?_ (fun a w hF hS => ?_)
          · exact obs_nil
          refine at_call (f := 127) (args := #[.pointer (some ⟨g3, 0, none⟩), .slice (hdA hd2 z1) ((geti2 r2 z1).length) (hdC hd2 z1)]) (d := 23) hF (by kernel_rfl) (by kernel_rfl) Try.func127 (by kernel_rfl) rfl (draughts_play_do_2_w hr4 hS (fun _ hS => ((hS.at_ 1 rfl).rdRows.row _ hb1).1) (((hS.dropN 3).at_ 1 rfl).rdRows.row _ hb1).2 rfl) (fun v a w hR hF => ?_)
          clear hS
          obtain ⟨rfl, hS⟩ := hR
          have hS : Sep w0 B w (blk g3 169 #[.slice A5 r3.1.length c5, .int .i64 r3.2.1, .slice A6 r3.2.2.length c6] :: own 3 (.slice A5 r3.1.length c5) (vI r4) :: rows 22 3 (.slice A6 r3.2.2.length c6) hd3 r3.2.2 :: blk g1 66 #[.slice A1 b1.length c1, .int .i64 b2] :: rows 22 3 (.slice A4 r2.length c4) hd2 r2 :: fs) := hS
          refine at_end [1, 2, 5, 8, 13, 14, 15] [pl 1 (.int .i64 plies1), pl 2 (.pointer (some ⟨g1, 0, none⟩)), pl 5 (.int .i64 n2), pl 8 (.pointer (some ⟨g3, 0, none⟩)), pl 13 (.slice A4 r2.length c4), pl 14 (.int .i64 (r2.length : Int)), pl 15 (.int .i64 z1)] hF rfl (by kernel_rfl) (fun hF => ?_)
          refine then_n ?_
          obtain ⟨r5, hr5, hm⟩ := call_b hm
          refine reg1 [⟨false, [], vS (Instr.loadAt 22 (.pointer (some ⟨g3, 0, none⟩))), .slice A5 r3.1.length c5⟩, ⟨false, [], vS (Instr.loadAt 3 (.pointer (some ⟨g1, 1, none⟩))), .int .i64 b2⟩, ⟨false, [], callFunc 128 #[.agg #[.slice A5 r3.1.length c5, .int .i64 (w64 (3 - b2))], .int .i64 (w64 (plies1 - 1))], .int .i64 r5⟩] [none, none, none, none, some (.slice A5 r3.1.length c5), none, some (.int .i64 b2), none, none, none, none, some (.int .i64 r5), none, none] [1, 2, 5, 13, 14, 15] [pl 1 (.int .i64 plies1), pl 2 (.pointer (some ⟨g1, 0, none⟩)), pl 5 (.int .i64 (w64 (n2 + r5))), pl 13 (.slice A4 r2.length c4), pl 14 (.int .i64 (r2.length : Int)), pl 15 (.int .i64 z1)] hF hS Fol (by kernel_rfl) (by kernel_rfl) (by kernel_rfl) ?_ (fun a w hF hS => ?_)
          · exact obs_cons (ob_load Agg22 (fun _ _ hS => (hS.at_ 0 rfl).cell rfl)) <| obs_cons (ob_load Agg3 (fun _ _ hS => (hS.at_ 3 rfl).cell rfl)) <| obs_cons (ob_call Try.func128 (by kernel_rfl) rfl (fun _ _ hS => ih_draughts_count hr5 hS (fun _ hS => (hS.at_ 1 rfl).rd) ((hS.at_ 1 rfl).cap1) ((hS.at_ 1 rfl).len1))) <| obs_nil
          refine block_n ?_
          refine then_n ?_
          have hS := hS.pickN 5 [3, 4] (by decide)
          exact ⟨(w64 (n2 + r5)), hF.weak [1, 2, 5, 13, 14, 15] (by kernel_rfl), hS, hm⟩
      · refine cond_ev (t := 16) (b := decide (z1 < (r2.length : Int))) hF (by kernel_rfl) (fun hb => ?_) (fun hb => ?_)
        · replace hm := if_t hm hb
          refine wpIn_skip ?_
          refine then_n ?_
          exact ⟨hF.weak [1, 2, 5, 13, 14, 15] (by kernel_rfl), hS, hm⟩
        · replace hm := if_f hm hb
          refine wpIn_exit ?_
          refine then_e (then_e (block_e (then_n ?_)))
          have hS := hS.pickN 2 [] (by decide)
          rw [← hφ1] at hm
          replace hm := done_b hm
          unfold draughts_count_K1 at hm
          try dsimp only at hm
          have hm : (draughts_count_J2 n2).bind some = some r := hm
          exact ⟨n2, hF.weak [5] (by kernel_rfl), hS, hm⟩
  · refine reg [] [] [1, 2, 10] [pl 1 (.int .i64 plies1), pl 2 (.pointer (some ⟨g1, 0, none⟩)), pl 10 (.bool (plies1 == 0))] hF hS Fol (by kernel_rfl) (by kernel_rfl) (by kernel_rfl) ?_ (fun a w hF hS => ?_)
    · exact obs_nil
    refine cond_ev (t := 10) (b := (plies1 == 0)) hF (by kernel_rfl) (fun hb => ?_) (fun hb => ?_)
    · replace hm := if_t hm hb
      refine reg [] [] [4] [pl 4 (.int .i64 1)] hF hS Fol (by kernel_rfl) (by kernel_rfl) (by kernel_rfl) ?_ (fun a w hF hS => ?_)
      · exact obs_nil
      refine wpIn_ret ?_
      refine then_r ?_
      have hS := hS.pickN 1 [] (by decide)
      have hm : some 1 = some r := hm
      obtain rfl := Option.some.inj hm
      exact retV (rs := [.tmp 4]) (vs := [.int .i64 1]) hF rfl (rv_t (by kernel_rfl) <| rv_nil) rfl ⟨rfl, hS⟩
    · replace hm := if_f hm hb
      refine wpIn_skip ?_
      refine then_n ?_
      exact ⟨hF.weak [1, 2] (by kernel_rfl), hS, hm⟩

theorem draughts_count_w  {A1 : Option Addr} {c1 : Nat} {n1 : Nat} {b1 : List Int} {b2 : Int} {plies1 : Int} {r : Int} {w0 w : World} {B : Nat} {fs : List HP} (hm : draughts_count_m b1 b2 plies1 = some r) (hS : Sep w0 B w (fs)) (hr_b1 : RdF w0 B fs A1 (vI b1)) (_hc_b1 : b1.length ≤ c1) (_hn_b1 : n1 = b1.length) :
    Calls Try.prog 128 #[.agg #[.slice A1 n1 c1, .int .i64 b2], .int .i64 plies1] w fun e w' => e = .returned (.int .i64 r) ∧ Sep w0 B w' (fs) := by
  have key : ∀ (n : Nat) {A1 : Option Addr} {c1 : Nat} {n1 : Nat} {b1 : List Int} {b2 : Int} {plies1 : Int} {r : Int} {w0 w : World} {B : Nat} {fs : List HP} (_ : draughts_count_mF n b1 b2 plies1 = some r) (_ : Sep w0 B w (fs)) (hr_b1 : RdF w0 B fs A1 (vI b1)) (_hc_b1 : b1.length ≤ c1) (_hn_b1 : n1 = b1.length), Calls Try.prog 128 #[.agg #[.slice A1 n1 c1, .int .i64 b2], .int .i64 plies1] w fun e w' => e = .returned (.int .i64 r) ∧ Sep w0 B w' (fs) := by
    intro n
    induction n with
    | zero => intros; rename_i hm0 _ _ _ _; cases hm0
    | succ n ih => intros; rename_i hm0 hS0 h0 h1 h2; exact draughts_count_wB (rec_draughts_count := draughts_count_mF n) (fun hm hS h0 h1 h2 => ih hm hS h0 h1 h2) hm0 hS0 h0 h1 h2
  obtain ⟨n, hn⟩ := recM_some hm
  exact key n hn hS hr_b1 _hc_b1 _hn_b1

set_option maxRecDepth 100000 in
theorem draughts_count_J3_le_draughts_count {rec_draughts_count1 rec_draughts_count2 : List Int → Int → Int → Option Int} (h_rec_draughts_count : ∀ a0 a1 a2, Le (rec_draughts_count1 a0 a1 a2) (rec_draughts_count2 a0 a1 a2)) (b1 : List Int) (b2 : Int) (plies1 : Int) (r2 : (List (List Int))) (n2 : Int) (z1 : Int) : Le (draughts_count_J3 rec_draughts_count1 b1 b2 plies1 r2 n2 z1) (draughts_count_J3 rec_draughts_count2 b1 b2 plies1 r2 n2 z1) := by
  unfold draughts_count_J3
  repeat' (first | with_reducible exact Le.refl _ | with_reducible exact h_rec_draughts_count _ _ _ | with_reducible refine Le.asrt ?_ | with_reducible refine Le.ite ?_ ?_ | refine Le.bind ?_ (fun _ => ?_) | refine Le.loop2 (fun _ => ?_) | refine Le.elim2 (fun _ => ?_) (fun _ => ?_))

set_option maxRecDepth 100000 in
theorem draughts_count_L1_le_draughts_count {rec_draughts_count1 rec_draughts_count2 : List Int → Int → Int → Option Int} (h_rec_draughts_count : ∀ a0 a1 a2, Le (rec_draughts_count1 a0 a1 a2) (rec_draughts_count2 a0 a1 a2)) (b1 : List Int) (b2 : Int) (plies1 : Int) (r2 : (List (List Int))) (x : (Int × Int)) : Le (draughts_count_L1 rec_draughts_count1 b1 b2 plies1 r2 x) (draughts_count_L1 rec_draughts_count2 b1 b2 plies1 r2 x) := by
  rcases x with ⟨n2, z1⟩
  all_goals
    unfold draughts_count_L1
    try dsimp only
    repeat' (first | with_reducible exact Le.refl _ | with_reducible exact h_rec_draughts_count _ _ _ | with_reducible exact draughts_count_J3_le_draughts_count h_rec_draughts_count _ _ _ _ _ _ | with_reducible refine Le.asrt ?_ | with_reducible refine Le.ite ?_ ?_ | refine Le.bind ?_ (fun _ => ?_) | refine Le.loop2 (fun _ => ?_) | refine Le.elim2 (fun _ => ?_) (fun _ => ?_))

set_option maxRecDepth 100000 in
theorem draughts_count_J1_le_draughts_count {rec_draughts_count1 rec_draughts_count2 : List Int → Int → Int → Option Int} (h_rec_draughts_count : ∀ a0 a1 a2, Le (rec_draughts_count1 a0 a1 a2) (rec_draughts_count2 a0 a1 a2)) (b1 : List Int) (b2 : Int) (plies1 : Int) : Le (draughts_count_J1 rec_draughts_count1 b1 b2 plies1) (draughts_count_J1 rec_draughts_count2 b1 b2 plies1) := by
  unfold draughts_count_J1
  repeat' (first | with_reducible exact Le.refl _ | with_reducible exact h_rec_draughts_count _ _ _ | with_reducible exact draughts_count_L1_le_draughts_count h_rec_draughts_count _ _ _ _ _ | with_reducible refine Le.asrt ?_ | with_reducible refine Le.ite ?_ ?_ | refine Le.bind ?_ (fun _ => ?_) | refine Le.loop2 (fun _ => ?_) | refine Le.elim2 (fun _ => ?_) (fun _ => ?_))

set_option maxRecDepth 100000 in
theorem draughts_count_B_le {rec_draughts_count1 rec_draughts_count2 : List Int → Int → Int → Option Int} (h_rec_draughts_count : ∀ a0 a1 a2, Le (rec_draughts_count1 a0 a1 a2) (rec_draughts_count2 a0 a1 a2)) (b1 : List Int) (b2 : Int) (plies1 : Int) : Le (draughts_count_B rec_draughts_count1 b1 b2 plies1) (draughts_count_B rec_draughts_count2 b1 b2 plies1) := by
  unfold draughts_count_B
  repeat' (first | with_reducible exact Le.refl _ | with_reducible exact h_rec_draughts_count _ _ _ | with_reducible exact draughts_count_J1_le_draughts_count h_rec_draughts_count _ _ _ | with_reducible refine Le.asrt ?_ | with_reducible refine Le.ite ?_ ?_ | refine Le.bind ?_ (fun _ => ?_) | refine Le.loop2 (fun _ => ?_) | refine Le.elim2 (fun _ => ?_) (fun _ => ?_))

set_option maxRecDepth 100000 in
theorem draughts_count_mF_le : ∀ (n : Nat) (b1 : List Int) (b2 : Int) (plies1 : Int), Le (draughts_count_mF n b1 b2 plies1) (draughts_count_mF (n + 1) b1 b2 plies1)
  | 0, _, _, _ => fun _ h => by cases h
  | n + 1, _, _, _ => draughts_count_B_le (fun a0 a1 a2 => draughts_count_mF_le n a0 a1 a2) _ _ _

set_option maxRecDepth 100000 in
theorem draughts_count_m_of (N : Nat) (b1 : List Int) (b2 : Int) (plies1 : Int) {r : Int} (h : draughts_count_mF N b1 b2 plies1 = some r) : draughts_count_m b1 b2 plies1 = some r :=
  recM_mono (fun n => draughts_count_mF_le n _ _ _) h

noncomputable def draughts_Count_J1  (b1 : List Int) (b2 : Int) (plies1 : Int) : Option (Int × Int) :=
  (draughts_count_m b1 b2 plies1).bind fun r2 => some (r2, 0)

noncomputable def draughts_Count_m  (b1 : List Int) (b2 : Int) (plies1 : Int) : Option (Int × Int) :=
  (draughts_May_m b1 b2).bind fun r1 => if (!r1) then (some (0, 12)) else (if ((decide (plies1 < 0)) || (decide ((6 : Int) < plies1))) then (some (0, 3)) else ((draughts_Count_J1 b1 b2 plies1)))

set_option maxRecDepth 100000 in
set_option maxHeartbeats 4000000 in
theorem draughts_Count_w  {A1 : Option Addr} {c1 : Nat} {n1 : Nat} {b1 : List Int} {b2 : Int} {plies1 : Int} {r : (Int × Int)} {w0 w : World} {B : Nat} {fs : List HP} (hm : draughts_Count_m b1 b2 plies1 = some r) (hS : Sep w0 B w (fs)) (hr_b1 : RdF w0 B fs A1 (vI b1)) (_hc_b1 : b1.length ≤ c1) (_hn_b1 : n1 = b1.length) :
    Calls Try.prog 50 #[.agg #[.slice A1 n1 c1, .int .i64 b2], .int .i64 plies1] w fun e w' => e = .returned (.tuple #[.int .i64 r.1, .int .i64 r.2]) ∧ Sep w0 B w' (fs) := by
  obtain ⟨i3, hi3, hz3, hs3, hb3⟩ := info_parts Info3
  obtain rfl := _hn_b1
  unfold draughts_Count_m at hm
  replace hm := start_b hm
  refine enter (l := [.agg #[.slice A1 b1.length c1, .int .i64 b2], .int .i64 plies1]) (n := 20) Try.func50 rfl rfl (by simp) (fun a hF => ?_)
  refine seqR ?_
  refine at_do (d := 2) (s := vS (Instr.box 66 (.agg #[.slice A1 b1.length c1, .int .i64 b2]))) (v := .pointer (some ⟨w.heap.size, 0, none⟩)) (w' := w.alloc (.cells #[.slice A1 b1.length c1, .int .i64 b2] 66)) hF (by kernel_rfl) (by kernel_rfl) (by kernel_rfl) (fun a hF => ?_)
  have hS : Sep w0 B (w.alloc (.cells #[.slice A1 b1.length c1, .int .i64 b2] 66)) (blk w.heap.size 66 #[.slice A1 b1.length c1, .int .i64 b2] :: (fs)) := hS.box 66 #[.slice A1 b1.length c1, .int .i64 b2]
  generalize w.heap.size = g1 at hF hS
  generalize w.alloc (.cells #[.slice A1 b1.length c1, .int .i64 b2] 66) = w at hS ⊢
  refine at_run 2 [] [] [1, 2] [pl 1 (.int .i64 plies1), pl 2 (.pointer (some ⟨g1, 0, none⟩))] hF hS (by kernel_rfl) (by kernel_rfl) ?_ (fun a w hF hS => ?_)
  · exact obs_nil
  refine at_end [1, 2] [pl 1 (.int .i64 plies1), pl 2 (.pointer (some ⟨g1, 0, none⟩))] hF rfl (by kernel_rfl) (fun hF => ?_)
  refine then_n ?_
  refine seq_cut (fun a w => Fr 20 [pl 1 (.int .i64 plies1), pl 2 (.pointer (some ⟨g1, 0, none⟩))] a ∧ Sep w0 B w (blk g1 66 #[.slice A1 b1.length c1, .int .i64 b2] :: fs) ∧ ((draughts_Count_J1 b1 b2 plies1)).bind some = some r) ?_ ?_
  · rintro a w ⟨hF, hS, hm⟩
    unfold draughts_Count_J1 at hm
    obtain ⟨r2, hr2, hm⟩ := call_b hm
    refine reg [⟨false, [], vS (Instr.loadAt 66 (.pointer (some ⟨g1, 0, none⟩))), .agg #[.slice A1 b1.length c1, .int .i64 b2]⟩, ⟨false, [], callFunc 128 #[.agg #[.slice A1 b1.length c1, .int .i64 b2], .int .i64 plies1], .int .i64 r2⟩] [some (.agg #[.slice A1 b1.length c1, .int .i64 b2]), none, some (.int .i64 r2), none, none] [4, 5] [pl 4 (.int .i64 r2), pl 5 (.int .i64 0)] hF hS Fol (by kernel_rfl) (by kernel_rfl) (by kernel_rfl) ?_ (fun a w hF hS => ?_)
    · exact obs_cons (ob_loadA (cs := #[.slice A1 b1.length c1, .int .i64 b2]) (by kernel_rfl) (by kernel_rfl) (fun _ _ hS => (hS.at_ 0 rfl).cellsAt 0 (by rfl))) <| obs_cons (ob_call Try.func128 (by kernel_rfl) rfl (fun _ _ hS => draughts_count_w hr2 hS (fun _ hS => (hr_b1 _ (hS.dropN 1))) _hc_b1 rfl)) <| obs_nil
    refine wpIn_ret ?_
    have hS := hS.pickN 1 [] (by decide)
    have hm : some (r2, 0) = some r := hm
    obtain rfl := Option.some.inj hm
    exact retV (rs := [.tmp 4, .tmp 5]) (vs := [.int .i64 r2, .int .i64 0]) hF rfl (rv_t (by kernel_rfl) <| rv_t (by kernel_rfl) <| rv_nil) rfl ⟨rfl, hS⟩
  · refine wpIn_block ?_
    obtain ⟨r1, hr1, hm⟩ := call_b hm
    refine reg [⟨false, [], vS (Instr.loadAt 66 (.pointer (some ⟨g1, 0, none⟩))), .agg #[.slice A1 b1.length c1, .int .i64 b2]⟩, ⟨false, [], callFunc 40 #[.agg #[.slice A1 b1.length c1, .int .i64 b2]], .bool r1⟩] [some (.agg #[.slice A1 b1.length c1, .int .i64 b2]), some (.bool r1), none, none] [1, 2, 6] [pl 1 (.int .i64 plies1), pl 2 (.pointer (some ⟨g1, 0, none⟩)), pl 6 (.bool (!r1))] hF hS Fol (by kernel_rfl) (by kernel_rfl) (by kernel_rfl) ?_ (fun a w hF hS => ?_)
    · exact obs_cons (ob_loadA (cs := #[.slice A1 b1.length c1, .int .i64 b2]) (by kernel_rfl) (by kernel_rfl) (fun _ _ hS => (hS.at_ 0 rfl).cellsAt 0 (by rfl))) <| obs_cons (ob_call Try.func40 (by kernel_rfl) rfl (fun _ _ hS => draughts_May_w hr1 hS (fun _ hS => (hr_b1 _ (hS.dropN 1))) _hc_b1 rfl)) <| obs_nil
    refine cond_ev (t := 6) (b := !r1) hF (by kernel_rfl) (fun hb => ?_) (fun hb => ?_)
    · replace hm := if_t hm hb
      refine reg [] [] [4, 5] [pl 4 (.int .i64 0), pl 5 (.int .i64 12)] hF hS Fol (by kernel_rfl) (by kernel_rfl) (by kernel_rfl) ?_ (fun a w hF hS => ?_)
      · exact obs_nil
      refine wpIn_ret ?_
      refine block_r (then_r ?_)
      have hS := hS.pickN 1 [] (by decide)
      have hm : some (0, 12) = some r := hm
      obtain rfl := Option.some.inj hm
      exact retV (rs := [.tmp 4, .tmp 5]) (vs := [.int .i64 0, .int .i64 12]) hF rfl (rv_t (by kernel_rfl) <| rv_t (by kernel_rfl) <| rv_nil) rfl ⟨rfl, hS⟩
    · replace hm := if_f hm hb
      refine reg [] [] [1, 2, 10] [pl 1 (.int .i64 plies1), pl 2 (.pointer (some ⟨g1, 0, none⟩)), pl 10 (.bool ((decide (plies1 < 0)) || (decide ((6 : Int) < plies1))))] hF hS Fol (by kernel_rfl) (by kernel_rfl) (by kernel_rfl) ?_ (fun a w hF hS => ?_)
      · exact obs_nil
      refine cond_ev (t := 10) (b := (decide (plies1 < 0)) || (decide ((6 : Int) < plies1))) hF (by kernel_rfl) (fun hb => ?_) (fun hb => ?_)
      · replace hm := if_t hm hb
        refine reg [] [] [4, 5] [pl 4 (.int .i64 0), pl 5 (.int .i64 3)] hF hS Fol (by kernel_rfl) (by kernel_rfl) (by kernel_rfl) ?_ (fun a w hF hS => ?_)
        · exact obs_nil
        refine wpIn_ret ?_
        refine block_r (then_r ?_)
        have hS := hS.pickN 1 [] (by decide)
        have hm : some (0, 3) = some r := hm
        obtain rfl := Option.some.inj hm
        exact retV (rs := [.tmp 4, .tmp 5]) (vs := [.int .i64 0, .int .i64 3]) hF rfl (rv_t (by kernel_rfl) <| rv_t (by kernel_rfl) <| rv_nil) rfl ⟨rfl, hS⟩
      · replace hm := if_f hm hb
        refine wpIn_skip ?_
        refine block_n ?_
        refine then_n ?_
        exact ⟨hF.weak [1, 2] (by kernel_rfl), hS, hm⟩

noncomputable def gameroomref_DraughtsDo_J3  (i1 : Int) (out3 : List Int) : Option (St (List Int × Int) (List Int)) :=
  some (.next (out3, (w64 (i1 + 1))))

noncomputable def gameroomref_DraughtsDo_J2  (way1 : List Int) (r1 : (List Int × Int)) (out1 : List Int) (i1 : Int) : Option (St (List Int × Int) (List Int)) :=
  asrt (0 ≤ (w64 (i1 - 1)) ∧ (w64 (i1 - 1)) < (way1.length : Int)) <| (gameroomref_darkX_m (geti way1 (w64 (i1 - 1)))).bind fun r2 => asrt (0 ≤ i1 ∧ i1 < (way1.length : Int)) <| (gameroomref_darkX_m (geti way1 i1)).bind fun r3 => asrt (0 ≤ (w64 (i1 - 1)) ∧ (w64 (i1 - 1)) < (way1.length : Int)) <| (gameroomref_darkY_m (geti way1 (w64 (i1 - 1)))).bind fun r4 => asrt (0 ≤ i1 ∧ i1 < (way1.length : Int)) <| (gameroomref_darkY_m (geti way1 i1)).bind fun r5 => if (((Int.tmod (w64 (r2 + r3)) 2) == 0) && ((Int.tmod (w64 (r4 + r5)) 2) == 0)) then ((gameroomref_darkAt_m (w64 (Int.tdiv (w64 (r2 + r3)) 2)) (w64 (Int.tdiv (w64 (r4 + r5)) 2))).bind fun r6 => asrt (0 ≤ r6 ∧ r6 < (r1.1.length : Int)) <| (gameroomref_DraughtsDo_J3 i1) (out1.set (Int.toNat r6) 0)) else ((gameroomref_DraughtsDo_J3 i1) out1)

noncomputable def gameroomref_DraughtsDo_J5  (b2 : Int) (way1 : List Int) (r1 : (List Int × Int)) (out2 : List Int) (piece2 : Int) : Option (List Int × Int) :=
  asrt (0 ≤ (geti way1 (w64 ((way1.length : Int) - 1))) ∧ (geti way1 (w64 ((way1.length : Int) - 1))) < (r1.1.length : Int)) <| some ((out2.set (Int.toNat (geti way1 (w64 ((way1.length : Int) - 1)))) piece2), (w64 (3 - b2)))

noncomputable def gameroomref_DraughtsDo_J4  (b2 : Int) (way1 : List Int) (r1 : (List Int × Int)) (out2 : List Int) (piece1 : Int) : Option (List Int × Int) :=
  if ((piece1 == (-1)) && (decide ((29 : Int) ≤ (geti way1 (w64 ((way1.length : Int) - 1)))))) then ((gameroomref_DraughtsDo_J5 b2 way1 r1 out2) (-2)) else ((gameroomref_DraughtsDo_J5 b2 way1 r1 out2) piece1)

noncomputable def gameroomref_DraughtsDo_J1  (b1 : List Int) (b2 : Int) (way1 : List Int) (r1 : (List Int × Int)) (out2 : List Int) : Option (List Int × Int) :=
  asrt (0 ≤ (w64 ((way1.length : Int) - 1)) ∧ (w64 ((way1.length : Int) - 1)) < (way1.length : Int)) <| if (((geti b1 (geti way1 0)) == 1) && (decide ((geti way1 (w64 ((way1.length : Int) - 1))) ≤ 4))) then ((gameroomref_DraughtsDo_J4 b2 way1 r1 out2) 2) else ((gameroomref_DraughtsDo_J4 b2 way1 r1 out2) (geti b1 (geti way1 0)))

noncomputable def gameroomref_DraughtsDo_K1  (b1 : List Int) (b2 : Int) (way1 : List Int) (r1 : (List Int × Int)) : (List Int) → Option (List Int × Int) :=
  fun (x : (List Int)) => match x with | out2 => (gameroomref_DraughtsDo_J1 b1 b2 way1 r1) out2

noncomputable def gameroomref_DraughtsDo_L1  (way1 : List Int) (r1 : (List Int × Int)) : (List Int × Int) → Option (St (List Int × Int) (List Int)) :=
  fun (x : (List Int × Int)) => match x with | (out1, i1) => if (decide (i1 < (way1.length : Int))) then ((gameroomref_DraughtsDo_J2 way1 r1 out1 i1)) else (some (.done out1))

noncomputable def gameroomref_DraughtsDo_m  (b1 : List Int) (b2 : Int) (way1 : List Int) : Option (List Int × Int) :=
  (gameroomref_DraughtsOf_m b1 b2).bind fun r1 => asrt (0 ≤ (0 : Int) ∧ (0 : Int) < (way1.length : Int)) <| asrt (0 ≤ (geti way1 0) ∧ (geti way1 0) < (b1.length : Int)) <| asrt (0 ≤ (0 : Int) ∧ (0 : Int) < (way1.length : Int)) <| asrt (0 ≤ (geti way1 0) ∧ (geti way1 0) < (r1.1.length : Int)) <| (loop (gameroomref_DraughtsDo_L1 way1 r1) ((r1.1.set (Int.toNat (geti way1 0)) 0), 1)).bind (gameroomref_DraughtsDo_K1 b1 b2 way1 r1)

set_option maxRecDepth 100000 in
set_option maxHeartbeats 4000000 in
theorem gameroomref_DraughtsDo_w  {A1 : Option Addr} {c1 : Nat} {n1 : Nat} {b1 : List Int} {b2 : Int} {A2 : Option Addr} {c2 : Nat} {n2 : Nat} {way1 : List Int} {r : (List Int × Int)} {w0 w : World} {B : Nat} {fs : List HP} (hm : gameroomref_DraughtsDo_m b1 b2 way1 = some r) (hS : Sep w0 B w (fs)) (hr_b1 : RdF w0 B fs A1 (vI b1)) (_hc_b1 : b1.length ≤ c1) (_hn_b1 : n1 = b1.length) (hr_way1 : RdF w0 B fs A2 (vI way1)) (_hc_way1 : way1.length ≤ c2) (_hn_way1 : n2 = way1.length) :
    Calls Try.prog 52 #[.agg #[.slice A1 n1 c1, .int .i64 b2], .slice A2 n2 c2] w fun e w' => ∃ v, e = .returned v ∧ ∃ (A4 : Option Addr) (c4 : Nat), v = .agg #[.slice A4 r.1.length c4, .int .i64 r.2] ∧ Sep w0 B w' (own 3 (.slice A4 r.1.length c4) (vI r.1) :: fs) := by
  obtain ⟨i3, hi3, hz3, hs3, hb3⟩ := info_parts Info3
  obtain rfl := _hn_b1
  obtain rfl := _hn_way1
  unfold gameroomref_DraughtsDo_m at hm
  replace hm := start_b hm
  refine enter (l := [.agg #[.slice A1 b1.length c1, .int .i64 b2], .slice A2 way1.length c2]) (n := 100) Try.func52 rfl rfl (by simp) (fun a hF => ?_)
  refine seqR ?_
  refine at_do (d := 2) (s := vS (Instr.box 66 (.agg #[.slice A1 b1.length c1, .int .i64 b2]))) (v := .pointer (some ⟨w.heap.size, 0, none⟩)) (w' := w.alloc (.cells #[.slice A1 b1.length c1, .int .i64 b2] 66)) hF (by kernel_rfl) (by kernel_rfl) (by kernel_rfl) (fun a hF => ?_)
  have hS : Sep w0 B (w.alloc (.cells #[.slice A1 b1.length c1, .int .i64 b2] 66)) (blk w.heap.size 66 #[.slice A1 b1.length c1, .int .i64 b2] :: (fs)) := hS.box 66 #[.slice A1 b1.length c1, .int .i64 b2]
  generalize w.heap.size = g1 at hF hS
  generalize w.alloc (.cells #[.slice A1 b1.length c1, .int .i64 b2] 66) = w at hS ⊢
  refine at_do (d := 4) (s := vS (Instr.alloc 66 true (.tuple #[]))) (v := .pointer (some ⟨w.heap.size, 0, none⟩)) (w' := w.alloc (.cells #[.slice none 0 0, .int .i64 0] 66)) hF (by kernel_rfl) (by kernel_rfl) (by kernel_rfl) (fun a hF => ?_)
  have hS : Sep w0 B (w.alloc (.cells #[.slice none 0 0, .int .i64 0] 66)) (blk w.heap.size 66 #[.slice none 0 0, .int .i64 0] :: (blk g1 66 #[.slice A1 b1.length c1, .int .i64 b2] :: fs)) := hS.box 66 #[.slice none 0 0, .int .i64 0]
  generalize w.heap.size = g2 at hF hS
  generalize w.alloc (.cells #[.slice none 0 0, .int .i64 0] 66) = w at hS ⊢
  refine at_end [1, 2, 4] [pl 1 (.slice A2 way1.length c2), pl 2 (.pointer (some ⟨g1, 0, none⟩)), pl 4 (.pointer (some ⟨g2, 0, none⟩))] hF rfl (by kernel_rfl) (fun hF => ?_)
  refine then_n ?_
  refine seqR ?_
  obtain ⟨r1, hr1, hm⟩ := call_b hm
  refine at_run 1 [⟨false, [], vS (Instr.loadAt 66 (.pointer (some ⟨g1, 0, none⟩))), .agg #[.slice A1 b1.length c1, .int .i64 b2]⟩] [some (.agg #[.slice A1 b1.length c1, .int .i64 b2])] [1, 2, 4, 11] [pl 1 (.slice A2 way1.length c2), pl 2 (.pointer (some ⟨g1, 0, none⟩)), pl 4 (.pointer (some ⟨g2, 0, none⟩)), pl 11 (.agg #[.slice A1 b1.length c1, .int .i64 b2])] hF hS (by kernel_rfl) (by kernel_rfl) ?_ (fun a w hF hS => ?_)
  · exact obs_cons (ob_loadA (cs := #[.slice A1 b1.length c1, .int .i64 b2]) (by kernel_rfl) (by kernel_rfl) (fun _ _ hS => (hS.at_ 1 rfl).cellsAt 0 (by rfl))) <| obs_nil
  refine at_call (f := 41) (args := #[.agg #[.slice A1 b1.length c1, .int .i64 b2]]) (d := 12) hF (by kernel_rfl) (by kernel_rfl) Try.func41 (by kernel_rfl) rfl (gameroomref_DraughtsOf_w hr1 hS (fun _ hS => (hr_b1 _ (hS.dropN 2))) _hc_b1 rfl) (fun v a w hR hF => ?_)
  clear hS
  obtain ⟨A3, c3, rfl, hS⟩ := hR
  have hS : Sep w0 B w (own 3 (.slice A3 r1.1.length c3) (vI r1.1) :: blk g2 66 #[.slice none 0 0, .int .i64 0] :: blk g1 66 #[.slice A1 b1.length c1, .int .i64 b2] :: fs) := hS
  refine at_do (d := 5) (s := vS (Instr.alloc 66 true (.tuple #[]))) (v := .pointer (some ⟨w.heap.size, 0, none⟩)) (w' := w.alloc (.cells #[.slice none 0 0, .int .i64 0] 66)) hF (by kernel_rfl) (by kernel_rfl) (by kernel_rfl) (fun a hF => ?_)
  have hS : Sep w0 B (w.alloc (.cells #[.slice none 0 0, .int .i64 0] 66)) (blk w.heap.size 66 #[.slice none 0 0, .int .i64 0] :: (own 3 (.slice A3 r1.1.length c3) (vI r1.1) :: blk g2 66 #[.slice none 0 0, .int .i64 0] :: blk g1 66 #[.slice A1 b1.length c1, .int .i64 b2] :: fs)) := hS.box 66 #[.slice none 0 0, .int .i64 0]
  generalize w.heap.size = g3 at hF hS
  generalize w.alloc (.cells #[.slice none 0 0, .int .i64 0] 66) = w at hS ⊢
  obtain ⟨w, hrun, hS⟩ := run_putA (P := Try.prog) (t := 66) (us := #[.slice A3 r1.1.length c3, .int .i64 r1.2]) (o := 0) (hS.at_ 0 rfl) (by kernel_rfl) (all_one (by kernel_rfl)) (Nat.le_of_ble_eq_true (by kernel_rfl))
  refine at_skip hF (by kernel_rfl) hrun ?_
  have hS : Sep w0 B w (blk g3 66 #[.slice A3 r1.1.length c3, .int .i64 r1.2] :: own 3 (.slice A3 r1.1.length c3) (vI r1.1) :: blk g2 66 #[.slice none 0 0, .int .i64 0] :: blk g1 66 #[.slice A1 b1.length c1, .int .i64 b2] :: fs) := hS
  refine at_end [1, 2, 4, 5] [pl 1 (.slice A2 way1.length c2), pl 2 (.pointer (some ⟨g1, 0, none⟩)), pl 4 (.pointer (some ⟨g2, 0, none⟩)), pl 5 (.pointer (some ⟨g3, 0, none⟩))] hF rfl (by kernel_rfl) (fun hF => ?_)
  refine then_n ?_
  obtain ⟨hp1, hm⟩ := asrt_b hm
  obtain ⟨hp2, hm⟩ := asrt_b hm
  refine reg [⟨false, [], vS (Instr.loadAt 22 (.pointer (some ⟨g1, 0, none⟩))), .slice A1 b1.length c1⟩, ⟨true, [], vS (Instr.indexAt 22 (.slice A2 way1.length c2) (.int .i64 0)), .pointer (some (sAddr A2 0))⟩, ⟨false, [], vS (Instr.loadAt 3 (.pointer (some (sAddr A2 0)))), .int .i64 (geti way1 0)⟩, ⟨true, [], vS (Instr.indexAt 22 (.slice A1 b1.length c1) (.int .i64 (geti way1 0))), .pointer (some (sAddr A1 (geti way1 0)))⟩, ⟨false, [], vS (Instr.loadAt 3 (.pointer (some (sAddr A1 (geti way1 0))))), .int .i64 (geti b1 (geti way1 0))⟩] [none, some (.slice A1 b1.length c1), none, some (.pointer (some (sAddr A2 0))), some (.int .i64 (geti way1 0)), some (.pointer (some (sAddr A1 (geti way1 0)))), some (.int .i64 (geti b1 (geti way1 0))), none] [1, 2, 4, 5, 6] [pl 1 (.slice A2 way1.length c2), pl 2 (.pointer (some ⟨g1, 0, none⟩)), pl 4 (.pointer (some ⟨g2, 0, none⟩)), pl 5 (.pointer (some ⟨g3, 0, none⟩)), pl 6 (.int .i64 (geti b1 (geti way1 0)))] hF hS Fol (by kernel_rfl) (by kernel_rfl) (by kernel_rfl) ?_ (fun a w hF hS => ?_)
  · exact obs_cons (ob_load Agg22 (fun _ _ hS => (hS.at_ 3 rfl).cell rfl)) <| obs_cons (ob_ix1 (f := (Value.int .i64)) (m := way1) Und22 hi3 hs3 (hr_way1 _ (hS.dropN 4)) rfl (fun _ => hp1)) <| obs_cons (ob_get1 (n := way1.length) (m := way1) (Value.int .i64) (0 : Int) Agg3 (fun _ hS => ⟨_, (hr_way1 _ (hS.dropN 4))⟩) (fun _ hS => rfl) (fun _ => hp1)) <| obs_cons (ob_ix1 (f := (Value.int .i64)) (m := b1) Und22 hi3 hs3 (hr_b1 _ (hS.dropN 4)) rfl (fun _ => hp2)) <| obs_cons (ob_get1 (n := b1.length) (m := b1) (Value.int .i64) (0 : Int) Agg3 (fun _ hS => ⟨_, (hr_b1 _ (hS.dropN 4))⟩) (fun _ hS => rfl) (fun _ => hp2)) <| obs_nil
  refine wpIn_seq ?_
  obtain ⟨hp3, hm⟩ := asrt_b hm
  obtain ⟨hp4, hm⟩ := asrt_b hm
  refine regMix4 [0, 1, 2, 3, 4, 5] [6] [⟨false, [], vS (Instr.loadAt 22 (.pointer (some ⟨g3, 0, none⟩))), .slice A3 r1.1.length c3⟩, ⟨true, [], vS (Instr.indexAt 22 (.slice A2 way1.length c2) (.int .i64 0)), .pointer (some (sAddr A2 0))⟩, ⟨false, [], vS (Instr.loadAt 3 (.pointer (some (sAddr A2 0)))), .int .i64 (geti way1 0)⟩, ⟨true, [], vS (Instr.indexAt 22 (.slice A3 r1.1.length c3) (.int .i64 (geti way1 0))), .pointer (some (sAddr A3 (geti way1 0)))⟩] [none, some (.slice A3 r1.1.length c3), none, some (.pointer (some (sAddr A2 0))), some (.int .i64 (geti way1 0)), some (.pointer (some (sAddr A3 (geti way1 0))))] [1, 2, 4, 5, 6, 25] [pl 1 (.slice A2 way1.length c2), pl 2 (.pointer (some ⟨g1, 0, none⟩)), pl 4 (.pointer (some ⟨g2, 0, none⟩)), pl 5 (.pointer (some ⟨g3, 0, none⟩)), pl 6 (.int .i64 (geti b1 (geti way1 0))), pl 25 (.pointer (some (sAddr A3 (geti way1 0))))] hF hS Fol (by kernel_rfl) (by kernel_rfl) (by kernel_rfl) (by kernel_rfl) (by kernel_rfl) ?_ (fun a w hF hS => ?_)
  · exact obs_cons (ob_load Agg22 (fun _ _ hS => (hS.at_ 0 rfl).cell rfl)) <| obs_cons (ob_ix1 (f := (Value.int .i64)) (m := way1) Und22 hi3 hs3 (hr_way1 _ (hS.dropN 4)) rfl (fun _ => hp3)) <| obs_cons (ob_get1 (n := way1.length) (m := way1) (Value.int .i64) (0 : Int) Agg3 (fun _ hS => ⟨_, (hr_way1 _ (hS.dropN 4))⟩) (fun _ hS => rfl) (fun _ => hp3)) <| obs_cons (ob_ix1 (f := (Value.int .i64)) (m := r1.1) Und22 hi3 hs3 (hS.at_ 1 rfl).rd rfl (fun _ => hp4)) <| obs_nil
  obtain ⟨w, hrun, hS⟩ := run_set1 (P := Try.prog) (t := 3) (x := 0) (Value.int .i64) (hS.at_ 1 rfl) hi3 hs3 rfl rfl hp4
  refine at_skip hF (by kernel_rfl) hrun ?_
  have hS : Sep w0 B w (blk g3 66 #[.slice A3 r1.1.length c3, .int .i64 r1.2] :: own 3 (.slice A3 r1.1.length c3) (vI (r1.1.set (Int.toNat (geti way1 0)) 0)) :: blk g2 66 #[.slice none 0 0, .int .i64 0] :: blk g1 66 #[.slice A1 b1.length c1, .int .i64 b2] :: fs) := hS
  refine at_end [1, 2, 4, 5, 6] [pl 1 (.slice A2 way1.length c2), pl 2 (.pointer (some ⟨g1, 0, none⟩)), pl 4 (.pointer (some ⟨g2, 0, none⟩)), pl 5 (.pointer (some ⟨g3, 0, none⟩)), pl 6 (.int .i64 (geti b1 (geti way1 0)))] hF rfl (by kernel_rfl) (fun hF => ?_)
  refine np_n ?_
  refine then_n ?_
  refine seq_cut (fun a w => ∃ (out2 : List Int), Fr 100 [pl 1 (.slice A2 way1.length c2), pl 2 (.pointer (some ⟨g1, 0, none⟩)), pl 4 (.pointer (some ⟨g2, 0, none⟩)), pl 5 (.pointer (some ⟨g3, 0, none⟩)), pl 6 (.int .i64 (geti b1 (geti way1 0)))] a ∧ Sep w0 B w (blk g1 66 #[.slice A1 b1.length c1, .int .i64 b2] :: blk g2 66 #[.slice none 0 0, .int .i64 0] :: blk g3 66 #[.slice A3 r1.1.length c3, .int .i64 r1.2] :: own 3 (.slice A3 r1.1.length c3) (vI out2) :: fs) ∧ ((gameroomref_DraughtsDo_J1 b1 b2 way1 r1) out2).bind some = some r) ?_ ?_
  · rintro a w ⟨out2, hF, hS, hm⟩
    unfold gameroomref_DraughtsDo_J1 at hm
    obtain ⟨hp10, hm⟩ := asrt_b hm
    refine reg [⟨true, [], vS (Instr.indexAt 22 (.slice A2 way1.length c2) (.int .i64 (w64 ((way1.length : Int) - 1)))), .pointer (some (sAddr A2 (w64 ((way1.length : Int) - 1))))⟩, ⟨false, [], vS (Instr.loadAt 3 (.pointer (some (sAddr A2 (w64 ((way1.length : Int) - 1)))))), .int .i64 (geti way1 (w64 ((way1.length : Int) - 1)))⟩] [none, none, none, none, some (.pointer (some (sAddr A2 (w64 ((way1.length : Int) - 1))))), some (.int .i64 (geti way1 (w64 ((way1.length : Int) - 1)))), none] [2, 4, 5, 6, 10] [pl 2 (.pointer (some ⟨g1, 0, none⟩)), pl 4 (.pointer (some ⟨g2, 0, none⟩)), pl 5 (.pointer (some ⟨g3, 0, none⟩)), pl 6 (.int .i64 (geti b1 (geti way1 0))), pl 10 (.int .i64 (geti way1 (w64 ((way1.length : Int) - 1))))] hF hS Fol (by kernel_rfl) (by kernel_rfl) (by kernel_rfl) ?_ (fun a w hF hS => ?_)
    · exact obs_cons (ob_ix1 (f := (Value.int .i64)) (m := way1) Und22 hi3 hs3 (hr_way1 _ (hS.dropN 4)) rfl (fun _ => hp10)) <| obs_cons (ob_get1 (n := way1.length) (m := way1) (Value.int .i64) (0 : Int) Agg3 (fun _ hS => ⟨_, (hr_way1 _ (hS.dropN 4))⟩) (fun _ hS => rfl) (fun _ => hp10)) <| obs_nil
    refine seq_cut (fun a w => ∃ (piece1 : Int), Fr 100 [pl 2 (.pointer (some ⟨g1, 0, none⟩)), pl 4 (.pointer (some ⟨g2, 0, none⟩)), pl 5 (.pointer (some ⟨g3, 0, none⟩)), pl 6 (.int .i64 piece1), pl 10 (.int .i64 (geti way1 (w64 ((way1.length : Int) - 1))))] a ∧ Sep w0 B w (blk g1 66 #[.slice A1 b1.length c1, .int .i64 b2] :: blk g2 66 #[.slice none 0 0, .int .i64 0] :: blk g3 66 #[.slice A3 r1.1.length c3, .int .i64 r1.2] :: own 3 (.slice A3 r1.1.length c3) (vI out2) :: fs) ∧ ((gameroomref_DraughtsDo_J4 b2 way1 r1 out2) piece1).bind some = some r) ?_ ?_
    · rintro a w ⟨piece1, hF, hS, hm⟩
      unfold gameroomref_DraughtsDo_J4 at hm
      refine seq_cut (fun a w => ∃ (piece2 : Int), Fr 100 [pl 2 (.pointer (some ⟨g1, 0, none⟩)), pl 4 (.pointer (some ⟨g2, 0, none⟩)), pl 5 (.pointer (some ⟨g3, 0, none⟩)), pl 6 (.int .i64 piece2), pl 10 (.int .i64 (geti way1 (w64 ((way1.length : Int) - 1))))] a ∧ Sep w0 B w (blk g1 66 #[.slice A1 b1.length c1, .int .i64 b2] :: blk g2 66 #[.slice none 0 0, .int .i64 0] :: blk g3 66 #[.slice A3 r1.1.length c3, .int .i64 r1.2] :: own 3 (.slice A3 r1.1.length c3) (vI out2) :: fs) ∧ ((gameroomref_DraughtsDo_J5 b2 way1 r1 out2) piece2).bind some = some r) ?_ ?_
      · rintro a w ⟨piece2, hF, hS, hm⟩
        unfold gameroomref_DraughtsDo_J5 at hm
        refine seqR ?_
        obtain ⟨hp11, hm⟩ := asrt_b hm
        refine at_run 5 [⟨false, [], vS (Instr.loadAt 22 (.pointer (some ⟨g3, 0, none⟩))), .slice A3 r1.1.length c3⟩, ⟨true, [], vS (Instr.indexAt 22 (.slice A3 r1.1.length c3) (.int .i64 (geti way1 (w64 ((way1.length : Int) - 1))))), .pointer (some (sAddr A3 (geti way1 (w64 ((way1.length : Int) - 1)))))⟩] [none, some (.slice A3 r1.1.length c3), none, none, some (.pointer (some (sAddr A3 (geti way1 (w64 ((way1.length : Int) - 1))))))] [2, 4, 5, 93, 94] [pl 2 (.pointer (some ⟨g1, 0, none⟩)), pl 4 (.pointer (some ⟨g2, 0, none⟩)), pl 5 (.pointer (some ⟨g3, 0, none⟩)), pl 93 (.int .i64 piece2), pl 94 (.pointer (some (sAddr A3 (geti way1 (w64 ((way1.length : Int) - 1))))))] hF hS (by kernel_rfl) (by kernel_rfl) ?_ (fun a w hF hS => ?_)
        · exact obs_cons (ob_load Agg22 (fun _ _ hS => (hS.at_ 2 rfl).cell rfl)) <| obs_cons (ob_ix1 (f := (Value.int .i64)) (m := out2) Und22 hi3 hs3 (hS.at_ 3 rfl).rd ((hS.at_ 3 rfl).len1) (fun _ => hp11)) <| obs_nil
        obtain ⟨w, hrun, hS⟩ := run_set1 (P := Try.prog) (t := 3) (x := piece2) (Value.int .i64) (hS.at_ 3 rfl) hi3 hs3 rfl rfl hp11
        refine at_skip hF (by kernel_rfl) hrun ?_
        have hS : Sep w0 B w (blk g1 66 #[.slice A1 b1.length c1, .int .i64 b2] :: blk g2 66 #[.slice none 0 0, .int .i64 0] :: blk g3 66 #[.slice A3 r1.1.length c3, .int .i64 r1.2] :: own 3 (.slice A3 r1.1.length c3) (vI (out2.set (Int.toNat (geti way1 (w64 ((way1.length : Int) - 1)))) piece2)) :: fs) := hS
        refine at_end [2, 4, 5] [pl 2 (.pointer (some ⟨g1, 0, none⟩)), pl 4 (.pointer (some ⟨g2, 0, none⟩)), pl 5 (.pointer (some ⟨g3, 0, none⟩))] hF rfl (by kernel_rfl) (fun hF => ?_)
        refine then_n ?_
        refine seqR ?_
        refine at_run 4 [⟨false, [], vS (Instr.loadAt 3 (.pointer (some ⟨g1, 1, none⟩))), .int .i64 b2⟩] [none, some (.int .i64 b2), none, none] [4, 5, 97, 98] [pl 4 (.pointer (some ⟨g2, 0, none⟩)), pl 5 (.pointer (some ⟨g3, 0, none⟩)), pl 97 (.int .i64 (w64 (3 - b2))), pl 98 (.pointer (some ⟨g3, 1, none⟩))] hF hS (by kernel_rfl) (by kernel_rfl) ?_ (fun a w hF hS => ?_)
        · exact obs_cons (ob_load Agg3 (fun _ _ hS => (hS.at_ 0 rfl).cell rfl)) <| obs_nil
        obtain ⟨w, hrun, hS⟩ := run_put (P := Try.prog) (t := 3) (u := .int .i64 (w64 (3 - b2))) (i := 1) (hS.at_ 2 rfl) hi3 hs3 rfl (Nat.lt_of_lt_of_eq (Nat.lt_of_succ_le (Nat.le_of_ble_eq_true (by kernel_rfl))) rfl)
        refine at_skip hF (by kernel_rfl) hrun ?_
        have hS : Sep w0 B w (blk g1 66 #[.slice A1 b1.length c1, .int .i64 b2] :: blk g2 66 #[.slice none 0 0, .int .i64 0] :: blk g3 66 #[.slice A3 r1.1.length c3, .int .i64 (w64 (3 - b2))] :: own 3 (.slice A3 r1.1.length c3) (vI (out2.set (Int.toNat (geti way1 (w64 ((way1.length : Int) - 1)))) piece2)) :: fs) := hS
        refine at_end [4, 5] [pl 4 (.pointer (some ⟨g2, 0, none⟩)), pl 5 (.pointer (some ⟨g3, 0, none⟩))] hF rfl (by kernel_rfl) (fun hF => ?_)
        refine then_n ?_
        refine seqR ?_
        refine at_run 1 [⟨false, [], vS (Instr.loadAt 66 (.pointer (some ⟨g3, 0, none⟩))), .agg #[.slice A3 r1.1.length c3, .int .i64 (w64 (3 - b2))]⟩] [some (.agg #[.slice A3 r1.1.length c3, .int .i64 (w64 (3 - b2))])] [4, 99] [pl 4 (.pointer (some ⟨g2, 0, none⟩)), pl 99 (.agg #[.slice A3 r1.1.length c3, .int .i64 (w64 (3 - b2))])] hF hS (by kernel_rfl) (by kernel_rfl) ?_ (fun a w hF hS => ?_)
        · exact obs_cons (ob_loadA (cs := #[.slice A3 r1.1.length c3, .int .i64 (w64 (3 - b2))]) (by kernel_rfl) (by kernel_rfl) (fun _ _ hS => (hS.at_ 2 rfl).cellsAt 0 (by rfl))) <| obs_nil
        obtain ⟨w, hrun, hS⟩ := run_putA (P := Try.prog) (t := 66) (us := #[.slice A3 r1.1.length c3, .int .i64 (w64 (3 - b2))]) (o := 0) (hS.at_ 1 rfl) (by kernel_rfl) (all_one (by kernel_rfl)) (Nat.le_of_ble_eq_true (by kernel_rfl))
        refine at_skip hF (by kernel_rfl) hrun ?_
        have hS : Sep w0 B w (blk g1 66 #[.slice A1 b1.length c1, .int .i64 b2] :: blk g2 66 #[.slice A3 r1.1.length c3, .int .i64 (w64 (3 - b2))] :: blk g3 66 #[.slice A3 r1.1.length c3, .int .i64 (w64 (3 - b2))] :: own 3 (.slice A3 r1.1.length c3) (vI (out2.set (Int.toNat (geti way1 (w64 ((way1.length : Int) - 1)))) piece2)) :: fs) := hS
        refine at_end [4] [pl 4 (.pointer (some ⟨g2, 0, none⟩))] hF rfl (by kernel_rfl) (fun hF => ?_)
        refine then_n ?_
        refine wpIn_ret ?_
        have hl1 := (hS.at_ 3 rfl).len1
        have hS := (hS.at_ 3 rfl).reN hl1
        have hS := (hS.at_ 1 rfl).reBlk (congrArg (fun k9 => (#[.slice A3 k9 c3, .int .i64 (w64 (3 - b2))] : Array Value)) hl1)
        have hS := (hS.at_ 2 rfl).reBlk (congrArg (fun k9 => (#[.slice A3 k9 c3, .int .i64 (w64 (3 - b2))] : Array Value)) hl1)
        have hS : Sep w0 B w (blk g1 66 #[.slice A1 b1.length c1, .int .i64 b2] :: blk g2 66 #[.slice A3 ((out2.set (Int.toNat (geti way1 (w64 ((way1.length : Int) - 1)))) piece2).length) c3, .int .i64 (w64 (3 - b2))] :: blk g3 66 #[.slice A3 ((out2.set (Int.toNat (geti way1 (w64 ((way1.length : Int) - 1)))) piece2).length) c3, .int .i64 (w64 (3 - b2))] :: own 3 (.slice A3 ((out2.set (Int.toNat (geti way1 (w64 ((way1.length : Int) - 1)))) piece2).length) c3) (vI (out2.set (Int.toNat (geti way1 (w64 ((way1.length : Int) - 1)))) piece2)) :: fs) := hS
        have hld0 := run_loadVarA (P := Try.prog) (t := 66) (cs := #[.slice A3 ((out2.set (Int.toNat (geti way1 (w64 ((way1.length : Int) - 1)))) piece2).length) c3, .int .i64 (w64 (3 - b2))]) (by kernel_rfl) (by kernel_rfl) ((hS.at_ 1 rfl).cellsAt 0 (by rfl))
        have hS := hS.pickN 4 [3] (by decide)
        have hm : some ((out2.set (Int.toNat (geti way1 (w64 ((way1.length : Int) - 1)))) piece2), (w64 (3 - b2))) = some r := hm
        obtain rfl := Option.some.inj hm
        exact retV (rs := [.cell 4 66]) (vs := [.agg #[.slice A3 ((out2.set (Int.toNat (geti way1 (w64 ((way1.length : Int) - 1)))) piece2).length) c3, .int .i64 (w64 (3 - b2))]]) hF rfl (rv_c (by kernel_rfl) hld0 <| rv_nil) rfl ⟨_, rfl, A3, c3, rfl, hS⟩
      · refine reg [] [] [2, 4, 5, 6, 10, 89] [pl 2 (.pointer (some ⟨g1, 0, none⟩)), pl 4 (.pointer (some ⟨g2, 0, none⟩)), pl 5 (.pointer (some ⟨g3, 0, none⟩)), pl 6 (.int .i64 piece1), pl 10 (.int .i64 (geti way1 (w64 ((way1.length : Int) - 1)))), pl 89 (.bool ((piece1 == (-1)) && (decide ((29 : Int) ≤ (geti way1 (w64 ((way1.length : Int) - 1)))))))] hF hS Fol (by kernel_rfl) (by kernel_rfl) (by kernel_rfl) ?_ (fun a w hF hS => ?_)
        · exact obs_nil
        refine cond_ev (t := 89) (b := (piece1 == (-1)) && (decide ((29 : Int) ≤ (geti way1 (w64 ((way1.length : Int) - 1)))))) hF (by kernel_rfl) (fun hb => ?_) (fun hb => ?_)
        · replace hm := if_t hm hb
          refine reg1 [] [] [2, 4, 5, 6, 10] [pl 2 (.pointer (some ⟨g1, 0, none⟩)), pl 4 (.pointer (some ⟨g2, 0, none⟩)), pl 5 (.pointer (some ⟨g3, 0, none⟩)), pl 6 (.int .i64 (-2)), pl 10 (.int .i64 (geti way1 (w64 ((way1.length : Int) - 1))))] hF hS Fol (by kernel_rfl) (by kernel_rfl) (by kernel_rfl) ?_ (fun a w hF hS => ?_)
          · exact obs_nil
          refine then_n ?_
          exact ⟨(-2), hF.weak [2, 4, 5, 6, 10] (by kernel_rfl), hS, hm⟩
        · replace hm := if_f hm hb
          refine wpIn_skip ?_
          refine then_n ?_
          exact ⟨piece1, hF.weak [2, 4, 5, 6, 10] (by kernel_rfl), hS, hm⟩
    · refine reg [] [] [2, 4, 5, 6, 10, 83] [pl 2 (.pointer (some ⟨g1, 0, none⟩)), pl 4 (.pointer (some ⟨g2, 0, none⟩)), pl 5 (.pointer (some ⟨g3, 0, none⟩)), pl 6 (.int .i64 (geti b1 (geti way1 0))), pl 10 (.int .i64 (geti way1 (w64 ((way1.length : Int) - 1)))), pl 83 (.bool (((geti b1 (geti way1 0)) == 1) && (decide ((geti way1 (w64 ((way1.length : Int) - 1))) ≤ 4))))] hF hS Fol (by kernel_rfl) (by kernel_rfl) (by kernel_rfl) ?_ (fun a w hF hS => ?_)
      · exact obs_nil
      refine cond_ev (t := 83) (b := ((geti b1 (geti way1 0)) == 1) && (decide ((geti way1 (w64 ((way1.length : Int) - 1))) ≤ 4))) hF (by kernel_rfl) (fun hb => ?_) (fun hb => ?_)
      · replace hm := if_t hm hb
        refine reg1 [] [] [2, 4, 5, 6, 10] [pl 2 (.pointer (some ⟨g1, 0, none⟩)), pl 4 (.pointer (some ⟨g2, 0, none⟩)), pl 5 (.pointer (some ⟨g3, 0, none⟩)), pl 6 (.int .i64 2), pl 10 (.int .i64 (geti way1 (w64 ((way1.length : Int) - 1))))] hF hS Fol (by kernel_rfl) (by kernel_rfl) (by kernel_rfl) ?_ (fun a w hF hS => ?_)
        · exact obs_nil
        refine then_n ?_
        exact ⟨2, hF.weak [2, 4, 5, 6, 10] (by kernel_rfl), hS, hm⟩
      · replace hm := if_f hm hb
        refine wpIn_skip ?_
        refine then_n ?_
        exact ⟨(geti b1 (geti way1 0)), hF.weak [2, 4, 5, 6, 10] (by kernel_rfl), hS, hm⟩
  · refine reg [] [] [1, 2, 4, 5, 6, 7] [pl 1 (.slice A2 way1.length c2), pl 2 (.pointer (some ⟨g1, 0, none⟩)), pl 4 (.pointer (some ⟨g2, 0, none⟩)), pl 5 (.pointer (some ⟨g3, 0, none⟩)), pl 6 (.int .i64 (geti b1 (geti way1 0))), pl 7 (.int .i64 1)] hF hS Fol (by kernel_rfl) (by kernel_rfl) (by kernel_rfl) ?_ (fun a w hF hS => ?_)
    · exact obs_nil
    refine wpIn_block ?_
    have hS := hS.pickN 4 [3, 2, 0, 1] (by decide)
    refine wp_loop_model (S := (List Int × Int)) (R := (List Int)) (gameroomref_DraughtsDo_L1 way1 r1) (fun x => ((gameroomref_DraughtsDo_K1 b1 b2 way1 r1) x).bind some) r (fun (x : (List Int × Int)) a w => Fr 100 [pl 1 (.slice A2 way1.length c2), pl 2 (.pointer (some ⟨g1, 0, none⟩)), pl 4 (.pointer (some ⟨g2, 0, none⟩)), pl 5 (.pointer (some ⟨g3, 0, none⟩)), pl 6 (.int .i64 (geti b1 (geti way1 0))), pl 7 (.int .i64 x.2)] a ∧ Sep w0 B w (blk g1 66 #[.slice A1 b1.length c1, .int .i64 b2] :: blk g2 66 #[.slice none 0 0, .int .i64 0] :: blk g3 66 #[.slice A3 r1.1.length c3, .int .i64 r1.2] :: own 3 (.slice A3 r1.1.length c3) (vI x.1) :: fs)) (assoc_b hm) ⟨hF.weak [1, 2, 4, 5, 6, 7] (by kernel_rfl), hS⟩ ?_
    clear hF hS hm
    rintro nn1 ⟨out1, i1⟩ a w ⟨hF, hS⟩ hm
    generalize hφ1 : stK (gameroomref_DraughtsDo_L1 way1 r1) nn1 (fun x => ((gameroomref_DraughtsDo_K1 b1 b2 way1 r1) x).bind some) = φ1 at hm
    unfold gameroomref_DraughtsDo_L1 at hm
    dsimp only at hF hS hm
    refine seq_cut (fun a w => Fr 100 [pl 1 (.slice A2 way1.length c2), pl 2 (.pointer (some ⟨g1, 0, none⟩)), pl 4 (.pointer (some ⟨g2, 0, none⟩)), pl 5 (.pointer (some ⟨g3, 0, none⟩)), pl 6 (.int .i64 (geti b1 (geti way1 0))), pl 7 (.int .i64 i1)] a ∧ Sep w0 B w (blk g1 66 #[.slice A1 b1.length c1, .int .i64 b2] :: blk g2 66 #[.slice none 0 0, .int .i64 0] :: blk g3 66 #[.slice A3 r1.1.length c3, .int .i64 r1.2] :: own 3 (.slice A3 r1.1.length c3) (vI out1) :: fs) ∧ ((gameroomref_DraughtsDo_J2 way1 r1 out1 i1)).bind φ1 = some r) ?_ ?_
    · rintro a w ⟨hF, hS, hm⟩
      unfold gameroomref_DraughtsDo_J2 at hm
      refine seq_cut (fun a w => ∃ (out3 : List Int), Fr 100 [pl 1 (.slice A2 way1.length c2), pl 2 (.pointer (some ⟨g1, 0, none⟩)), pl 4 (.pointer (some ⟨g2, 0, none⟩)), pl 5 (.pointer (some ⟨g3, 0, none⟩)), pl 6 (.int .i64 (geti b1 (geti way1 0))), pl 7 (.int .i64 i1)] a ∧ Sep w0 B w (blk g1 66 #[.slice A1 b1.length c1, .int .i64 b2] :: blk g2 66 #[.slice none 0 0, .int .i64 0] :: blk g3 66 #[.slice A3 r1.1.length c3, .int .i64 r1.2] :: own 3 (.slice A3 r1.1.length c3) (vI out3) :: fs) ∧ ((gameroomref_DraughtsDo_J3 i1) out3).bind φ1 = some r) ?_ ?_
      · rintro a w ⟨out3, hF, hS, hm⟩
        unfold gameroomref_DraughtsDo_J3 at hm
        refine reg1 [] [] [1, 2, 4, 5, 6, 7] [pl 1 (.slice A2 way1.length c2), pl 2 (.pointer (some ⟨g1, 0, none⟩)), pl 4 (.pointer (some ⟨g2, 0, none⟩)), pl 5 (.pointer (some ⟨g3, 0, none⟩)), pl 6 (.int .i64 (geti b1 (geti way1 0))), pl 7 (.int .i64 (w64 (i1 + 1)))] hF hS Fol (by kernel_rfl) (by kernel_rfl) (by kernel_rfl) ?_ (fun a w hF hS => ?_)
        · exact obs_nil
        refine then_n ?_
        rw [← hφ1] at hm
        exact ⟨(out3, (w64 (i1 + 1))), ⟨hF.weak [1, 2, 4, 5, 6, 7] (by kernel_rfl), hS⟩, hm⟩
      · refine wpIn_block ?_
        obtain ⟨hp5, hm⟩ := asrt_b hm
        obtain ⟨r2, hr2, hm⟩ := call_b hm
        obtain ⟨hp6, hm⟩ := asrt_b hm
        obtain ⟨r3, hr3, hm⟩ := call_b hm
        obtain ⟨hp7, hm⟩ := asrt_b hm
        obtain ⟨r4, hr4, hm⟩ := call_b hm
        obtain ⟨hp8, hm⟩ := asrt_b hm
        obtain ⟨r5, hr5, hm⟩ := call_b hm
        refine reg [⟨true, [], vS (Instr.indexAt 22 (.slice A2 way1.length c2) (.int .i64 (w64 (i1 - 1)))), .pointer (some (sAddr A2 (w64 (i1 - 1))))⟩, ⟨false, [], vS (Instr.loadAt 3 (.pointer (some (sAddr A2 (w64 (i1 - 1)))))), .int .i64 (geti way1 (w64 (i1 - 1)))⟩, ⟨false, [], callFunc 121 #[.int .i64 (geti way1 (w64 (i1 - 1)))], .int .i64 r2⟩, ⟨true, [], vS (Instr.indexAt 22 (.slice A2 way1.length c2) (.int .i64 i1)), .pointer (some (sAddr A2 i1))⟩, ⟨false, [], vS (Instr.loadAt 3 (.pointer (some (sAddr A2 i1)))), .int .i64 (geti way1 i1)⟩, ⟨false, [], callFunc 121 #[.int .i64 (geti way1 i1)], .int .i64 r3⟩, ⟨true, [], vS (Instr.indexAt 22 (.slice A2 way1.length c2) (.int .i64 (w64 (i1 - 1)))), .pointer (some (sAddr A2 (w64 (i1 - 1))))⟩, ⟨false, [], vS (Instr.loadAt 3 (.pointer (some (sAddr A2 (w64 (i1 - 1)))))), .int .i64 (geti way1 (w64 (i1 - 1)))⟩, ⟨false, [], callFunc 122 #[.int .i64 (geti way1 (w64 (i1 - 1)))], .int .i64 r4⟩, ⟨true, [], vS (Instr.indexAt 22 (.slice A2 way1.length c2) (.int .i64 i1)), .pointer (some (sAddr A2 i1))⟩, ⟨false, [], vS (Instr.loadAt 3 (.pointer (some (sAddr A2 i1)))), .int .i64 (geti way1 i1)⟩, ⟨false, [], callFunc 122 #[.int .i64 (geti way1 i1)], .int .i64 r5⟩] [none, none, none, some (.pointer (some (sAddr A2 (w64 (i1 - 1))))), some (.int .i64 (geti way1 (w64 (i1 - 1)))), some (.int .i64 r2), none, none, some (.pointer (some (sAddr A2 i1))), some (.int .i64 (geti way1 i1)), some (.int .i64 r3), none, none, none, none, some (.pointer (some (sAddr A2 (w64 (i1 - 1))))), some (.int .i64 (geti way1 (w64 (i1 - 1)))), some (.int .i64 r4), none, none, some (.pointer (some (sAddr A2 i1))), some (.int .i64 (geti way1 i1)), some (.int .i64 r5), none, none, none] [1, 2, 4, 5, 6, 7, 8, 9] [pl 1 (.slice A2 way1.length c2), pl 2 (.pointer (some ⟨g1, 0, none⟩)), pl 4 (.pointer (some ⟨g2, 0, none⟩)), pl 5 (.pointer (some ⟨g3, 0, none⟩)), pl 6 (.int .i64 (geti b1 (geti way1 0))), pl 7 (.int .i64 i1), pl 8 (.int .i64 (w64 (r2 + r3))), pl 9 (.int .i64 (w64 (r4 + r5)))] hF hS Fol (by kernel_rfl) (by kernel_rfl) (by kernel_rfl) ?_ (fun a w hF hS => ?_)
        · exact obs_cons (ob_ix1 (f := (Value.int .i64)) (m := way1) Und22 hi3 hs3 (hr_way1 _ (hS.dropN 4)) rfl (fun _ => hp5)) <| obs_cons (ob_get1 (n := way1.length) (m := way1) (Value.int .i64) (0 : Int) Agg3 (fun _ hS => ⟨_, (hr_way1 _ (hS.dropN 4))⟩) (fun _ hS => rfl) (fun _ => hp5)) <| obs_cons (ob_call Try.func121 (by kernel_rfl) rfl (fun _ _ hS => gameroomref_darkX_w hr2 hS )) <| obs_cons (ob_ix1 (f := (Value.int .i64)) (m := way1) Und22 hi3 hs3 (hr_way1 _ (hS.dropN 4)) rfl (fun _ => hp6)) <| obs_cons (ob_get1 (n := way1.length) (m := way1) (Value.int .i64) (0 : Int) Agg3 (fun _ hS => ⟨_, (hr_way1 _ (hS.dropN 4))⟩) (fun _ hS => rfl) (fun _ => hp6)) <| obs_cons (ob_call Try.func121 (by kernel_rfl) rfl (fun _ _ hS => gameroomref_darkX_w hr3 hS )) <| obs_cons (ob_ix1 (f := (Value.int .i64)) (m := way1) Und22 hi3 hs3 (hr_way1 _ (hS.dropN 4)) rfl (fun _ => hp7)) <| obs_cons (ob_get1 (n := way1.length) (m := way1) (Value.int .i64) (0 : Int) Agg3 (fun _ hS => ⟨_, (hr_way1 _ (hS.dropN 4))⟩) (fun _ hS => rfl) (fun _ => hp7)) <| obs_cons (ob_call Try.func122 (by kernel_rfl) rfl (fun _ _ hS => gameroomref_darkY_w hr4 hS )) <| obs_cons (ob_ix1 (f := (Value.int .i64)) (m := way1) Und22 hi3 hs3 (hr_way1 _ (hS.dropN 4)) rfl (fun _ => hp8)) <| obs_cons (ob_get1 (n := way1.length) (m := way1) (Value.int .i64) (0 : Int) Agg3 (fun _ hS => ⟨_, (hr_way1 _ (hS.dropN 4))⟩) (fun _ hS => rfl) (fun _ => hp8)) <| obs_cons (ob_call Try.func122 (by kernel_rfl) rfl (fun _ _ hS => gameroomref_darkY_w hr5 hS )) <| obs_nil
        refine reg [] [] [1, 2, 4, 5, 6, 7, 8, 9, 63] [pl 1 (.slice A2 way1.length c2), pl 2 (.pointer (some ⟨g1, 0, none⟩)), pl 4 (.pointer (some ⟨g2, 0, none⟩)), pl 5 (.pointer (some ⟨g3, 0, none⟩)), pl 6 (.int .i64 (geti b1 (geti way1 0))), pl 7 (.int .i64 i1), pl 8 (.int .i64 (w64 (r2 + r3))), pl 9 (.int .i64 (w64 (r4 + r5))), pl 63 (.bool (((Int.tmod (w64 (r2 + r3)) 2) == 0) && ((Int.tmod (w64 (r4 + r5)) 2) == 0)))] hF hS Fol (by kernel_rfl) (by kernel_rfl) (by kernel_rfl) ?_ (fun a w hF hS => ?_)
        · exact obs_nil
        refine cond_ev (t := 63) (b := ((Int.tmod (w64 (r2 + r3)) 2) == 0) && ((Int.tmod (w64 (r4 + r5)) 2) == 0)) hF (by kernel_rfl) (fun hb => ?_) (fun hb => ?_)
        · replace hm := if_t hm hb
          obtain ⟨r6, hr6, hm⟩ := call_b hm
          obtain ⟨hp9, hm⟩ := asrt_b hm
          refine regMix5 [0, 1, 2, 3, 4, 5] [8] 3 #[true, true, true, true, true, true, false, false, false] [⟨false, [], vS (Instr.loadAt 22 (.pointer (some ⟨g3, 0, none⟩))), .slice A3 r1.1.length c3⟩] [none, some (.slice A3 r1.1.length c3), none, none, none, none] [1, 2, 4, 5, 6, 7, 65, 67, 69] [pl 1 (.slice A2 way1.length c2), pl 2 (.pointer (some ⟨g1, 0, none⟩)), pl 4 (.pointer (some ⟨g2, 0, none⟩)), pl 5 (.pointer (some ⟨g3, 0, none⟩)), pl 6 (.int .i64 (geti b1 (geti way1 0))), pl 7 (.int .i64 i1), pl 65 (.slice A3 r1.1.length c3), pl 67 (.int .i64 (w64 (Int.tdiv (w64 (r2 + r3)) 2))), pl 69 (.int .i64 (w64 (Int.tdiv (w64 (r4 + r5)) 2)))] hF hS Fol (by kernel_rfl) (by kernel_rfl) (by kernel_rfl) (by kernel_rfl) ?_ (fun a w hF hS => ?_)
          · exact obs_cons (ob_load Agg22 (fun _ _ hS => (hS.at_ 2 rfl).cell rfl)) <| obs_nil
          refine any_step [6] (by kernel_rfl) rfl ?_
          refine (all_cons ?_ all_nil)
          · refine any_op (listed' := #[true, true, true, true, true, true, true, false, false]) (by kernel_rfl) (by kernel_rfl) ?_
            refine at_run 1 [⟨false, [], callFunc 120 #[.int .i64 (w64 (Int.tdiv (w64 (r2 + r3)) 2)), .int .i64 (w64 (Int.tdiv (w64 (r4 + r5)) 2))], .int .i64 r6⟩] [some (.int .i64 r6)] [1, 2, 4, 5, 6, 7, 65, 70] [pl 1 (.slice A2 way1.length c2), pl 2 (.pointer (some ⟨g1, 0, none⟩)), pl 4 (.pointer (some ⟨g2, 0, none⟩)), pl 5 (.pointer (some ⟨g3, 0, none⟩)), pl 6 (.int .i64 (geti b1 (geti way1 0))), pl 7 (.int .i64 i1), pl 65 (.slice A3 r1.1.length c3), pl 70 (.int .i64 r6)] hF hS (by kernel_rfl) (by kernel_rfl) ?_ (fun a w hF hS => ?_)
            · exact obs_cons (ob_call Try.func120 (by kernel_rfl) rfl (fun _ _ hS => gameroomref_darkAt_w hr6 hS )) <| obs_nil
            refine any_fin rfl hS ?_
            refine any_step [7] (by kernel_rfl) rfl ?_
            refine (all_cons ?_ all_nil)
            · refine any_op (listed' := #[true, true, true, true, true, true, true, true, false]) (by kernel_rfl) (by kernel_rfl) ?_
              refine at_runW 1 [⟨true, [], vS (Instr.indexAt 22 (.slice A3 r1.1.length c3) (.int .i64 r6)), .pointer (some (sAddr A3 r6))⟩] [some (.pointer (some (sAddr A3 r6)))] [1, 2, 4, 5, 6, 7, 71] [pl 1 (.slice A2 way1.length c2), pl 2 (.pointer (some ⟨g1, 0, none⟩)), pl 4 (.pointer (some ⟨g2, 0, none⟩)), pl 5 (.pointer (some ⟨g3, 0, none⟩)), pl 6 (.int .i64 (geti b1 (geti way1 0))), pl 7 (.int .i64 i1), pl 71 (.pointer (some (sAddr A3 r6)))] hF hS (by kernel_rfl) (by kernel_rfl) ?_ (fun a hF => ?_)
              · exact obs_cons (ob_ix1 (f := (Value.int .i64)) (m := out1) Und22 hi3 hs3 (hS.at_ 3 rfl).rd ((hS.at_ 3 rfl).len1) (fun _ => hp9)) <| obs_nil
              refine any_finI rfl (fun h => h) ?_
              refine any_step [8] (by kernel_rfl) rfl ?_
              refine (all_cons ?_ all_nil)
              · refine any_op (listed' := #[true, true, true, true, true, true, true, true, true]) (by kernel_rfl) (by kernel_rfl) ?_
                obtain ⟨w, hrun, hS⟩ := run_set1 (P := Try.prog) (t := 3) (x := 0) (Value.int .i64) (hS.at_ 3 rfl) hi3 hs3 rfl rfl hp9
                refine at_skip hF (by kernel_rfl) hrun ?_
                have hS : Sep w0 B w (blk g1 66 #[.slice A1 b1.length c1, .int .i64 b2] :: blk g2 66 #[.slice none 0 0, .int .i64 0] :: blk g3 66 #[.slice A3 r1.1.length c3, .int .i64 r1.2] :: own 3 (.slice A3 r1.1.length c3) (vI (out1.set (Int.toNat r6) 0)) :: fs) := hS
                refine any_finE rfl (by decide) ?_
                refine any_end (by kernel_rfl) ?_
                refine np_n ?_
                refine block_n ?_
                refine then_n ?_
                exact ⟨(out1.set (Int.toNat r6) 0), hF.weak [1, 2, 4, 5, 6, 7] (by kernel_rfl), hS, hm⟩
        · replace hm := if_f hm hb
          refine wpIn_skip ?_
          refine block_n ?_
          refine then_n ?_
          exact ⟨out1, hF.weak [1, 2, 4, 5, 6, 7] (by kernel_rfl), hS, hm⟩
    · refine reg [] [] [1, 2, 4, 5, 6, 7, 29] [pl 1 (.slice A2 way1.length c2), pl 2 (.pointer (some ⟨g1, 0, none⟩)), pl 4 (.pointer (some ⟨g2, 0, none⟩)), pl 5 (.pointer (some ⟨g3, 0, none⟩)), pl 6 (.int .i64 (geti b1 (geti way1 0))), pl 7 (.int .i64 i1), pl 29 (.bool (decide (i1 < (way1.length : Int))))] hF hS Fol (by kernel_rfl) (by kernel_rfl) (by kernel_rfl) ?_ (fun a w hF hS => ?_)
      · exact obs_nil
      refine cond_ev (t := 29) (b := decide (i1 < (way1.length : Int))) hF (by kernel_rfl) (fun hb => ?_) (fun hb => ?_)
      · replace hm := if_t hm hb
        refine wpIn_skip ?_
        refine then_n ?_
        exact ⟨hF.weak [1, 2, 4, 5, 6, 7] (by kernel_rfl), hS, hm⟩
      · replace hm := if_f hm hb
        refine wpIn_exit ?_
        refine then_e (then_e (block_e (then_n ?_)))
        rw [← hφ1] at hm
        replace hm := done_b hm
        unfold gameroomref_DraughtsDo_K1 at hm
        try dsimp only at hm
        have hm : ((gameroomref_DraughtsDo_J1 b1 b2 way1 r1) out1).bind some = some r := hm
        exact ⟨out1, hF.weak [1, 2, 4, 5, 6] (by kernel_rfl), hS, hm⟩

noncomputable def gameroomref_DraughtsCount_J4  (i1 : Int) (n4 : Int) : Option (St (Int × Int) Int) :=
  some (.next (n4, (w64 (i1 + 1))))

noncomputable def gameroomref_DraughtsCount_J3  (rec_gameroomref_DraughtsCount : List Int → Int → Int → Option Int) (b1 : List Int) (b2 : Int) (plies1 : Int) (r1 : (List (List Int))) (n2 : Int) (i1 : Int) : Option (St (Int × Int) Int) :=
  asrt (0 ≤ i1 ∧ i1 < (r1.length : Int)) <| (gameroomref_DraughtsDo_m b1 b2 (geti2 r1 i1)).bind fun r2 => (rec_gameroomref_DraughtsCount r2.1 r2.2 (w64 (plies1 - 1))).bind fun r3 => (gameroomref_DraughtsCount_J4 i1) (w64 (n2 + r3))

noncomputable def gameroomref_DraughtsCount_J2  (n3 : Int) : Option Int :=
  some n3

noncomputable def gameroomref_DraughtsCount_K1  : Int → Option Int :=
  fun (x : Int) => match x with | n3 => gameroomref_DraughtsCount_J2 n3

noncomputable def gameroomref_DraughtsCount_L1  (rec_gameroomref_DraughtsCount : List Int → Int → Int → Option Int) (b1 : List Int) (b2 : Int) (plies1 : Int) (r1 : (List (List Int))) : (Int × Int) → Option (St (Int × Int) Int) :=
  fun (x : (Int × Int)) => match x with | (n2, i1) => if (decide (i1 < (r1.length : Int))) then ((gameroomref_DraughtsCount_J3 rec_gameroomref_DraughtsCount b1 b2 plies1 r1 n2 i1)) else (some (.done n2))

noncomputable def gameroomref_DraughtsCount_J1  (rec_gameroomref_DraughtsCount : List Int → Int → Int → Option Int) (b1 : List Int) (b2 : Int) (plies1 : Int) : Option Int :=
  (gameroomref_DraughtsMoves_m b1 b2).bind fun r1 => (loop (gameroomref_DraughtsCount_L1 rec_gameroomref_DraughtsCount b1 b2 plies1 r1) (0, 0)).bind gameroomref_DraughtsCount_K1

noncomputable def gameroomref_DraughtsCount_B  (rec_gameroomref_DraughtsCount : List Int → Int → Int → Option Int) (b1 : List Int) (b2 : Int) (plies1 : Int) : Option Int :=
  if (plies1 == 0) then (some 1) else ((gameroomref_DraughtsCount_J1 rec_gameroomref_DraughtsCount b1 b2 plies1))

noncomputable def gameroomref_DraughtsCount_mF  : Nat → List Int → Int → Int → Option Int
  | 0 => fun _ _ _ => none
  | n + 1 => fun b1 b2 plies1 => gameroomref_DraughtsCount_B (gameroomref_DraughtsCount_mF n) b1 b2 plies1

noncomputable def gameroomref_DraughtsCount_m  (b1 : List Int) (b2 : Int) (plies1 : Int) : Option Int :=
  recM fun n => gameroomref_DraughtsCount_mF n b1 b2 plies1

set_option maxRecDepth 100000 in
set_option maxHeartbeats 4000000 in
theorem gameroomref_DraughtsCount_wB  {rec_gameroomref_DraughtsCount : List Int → Int → Int → Option Int} (ih_gameroomref_DraughtsCount : ∀ {A1 : Option Addr} {c1 : Nat} {n1 : Nat} {b1 : List Int} {b2 : Int} {plies1 : Int} {r : Int} {w0 w : World} {B : Nat} {fs : List HP} (_ : rec_gameroomref_DraughtsCount b1 b2 plies1 = some r) (_ : Sep w0 B w (fs)) (_hr_b1 : RdF w0 B fs A1 (vI b1)) (_hc_b1 : b1.length ≤ c1) (_hn_b1 : n1 = b1.length), Calls Try.prog 51 #[.agg #[.slice A1 n1 c1, .int .i64 b2], .int .i64 plies1] w fun e w' => e = .returned (.int .i64 r) ∧ Sep w0 B w' (fs)) {A1 : Option Addr} {c1 : Nat} {n1 : Nat} {b1 : List Int} {b2 : Int} {plies1 : Int} {r : Int} {w0 w : World} {B : Nat} {fs : List HP} (hm : gameroomref_DraughtsCount_B rec_gameroomref_DraughtsCount b1 b2 plies1 = some r) (hS : Sep w0 B w (fs)) (hr_b1 : RdF w0 B fs A1 (vI b1)) (_hc_b1 : b1.length ≤ c1) (_hn_b1 : n1 = b1.length) :
    Calls Try.prog 51 #[.agg #[.slice A1 n1 c1, .int .i64 b2], .int .i64 plies1] w fun e w' => e = .returned (.int .i64 r) ∧ Sep w0 B w' (fs) := by
  obtain ⟨i3, hi3, hz3, hs3, hb3⟩ := info_parts Info3
  obtain ⟨i22, hi22, hz22, hs22, hb22⟩ := info_parts Info22
  obtain rfl := _hn_b1
  unfold gameroomref_DraughtsCount_B at hm
  replace hm := start_b hm
  refine enter (l := [.agg #[.slice A1 b1.length c1, .int .i64 b2], .int .i64 plies1]) (n := 30) Try.func51 rfl rfl (by simp) (fun a hF => ?_)
  refine seqR ?_
  refine at_do (d := 2) (s := vS (Instr.box 66 (.agg #[.slice A1 b1.length c1, .int .i64 b2]))) (v := .pointer (some ⟨w.heap.size, 0, none⟩)) (w' := w.alloc (.cells #[.slice A1 b1.length c1, .int .i64 b2] 66)) hF (by kernel_rfl) (by kernel_rfl) (by kernel_rfl) (fun a hF => ?_)
  have hS : Sep w0 B (w.alloc (.cells #[.slice A1 b1.length c1, .int .i64 b2] 66)) (blk w.heap.size 66 #[.slice A1 b1.length c1, .int .i64 b2] :: (fs)) := hS.box 66 #[.slice A1 b1.length c1, .int .i64 b2]
  generalize w.heap.size = g1 at hF hS
  generalize w.alloc (.cells #[.slice A1 b1.length c1, .int .i64 b2] 66) = w at hS ⊢
  refine at_run 1 [] [] [1, 2] [pl 1 (.int .i64 plies1), pl 2 (.pointer (some ⟨g1, 0, none⟩))] hF hS (by kernel_rfl) (by kernel_rfl) ?_ (fun a w hF hS => ?_)
  · exact obs_nil
  refine at_end [1, 2] [pl 1 (.int .i64 plies1), pl 2 (.pointer (some ⟨g1, 0, none⟩))] hF rfl (by kernel_rfl) (fun hF => ?_)
  refine then_n ?_
  refine seq_cut (fun a w => Fr 30 [pl 1 (.int .i64 plies1), pl 2 (.pointer (some ⟨g1, 0, none⟩))] a ∧ Sep w0 B w (blk g1 66 #[.slice A1 b1.length c1, .int .i64 b2] :: fs) ∧ ((gameroomref_DraughtsCount_J1 rec_gameroomref_DraughtsCount b1 b2 plies1)).bind some = some r) ?_ ?_
  · rintro a w ⟨hF, hS, hm⟩
    unfold gameroomref_DraughtsCount_J1 at hm
    refine seqR ?_
    obtain ⟨r1, hr1, hm⟩ := call_b hm
    refine at_run 1 [⟨false, [], vS (Instr.loadAt 66 (.pointer (some ⟨g1, 0, none⟩))), .agg #[.slice A1 b1.length c1, .int .i64 b2]⟩] [some (.agg #[.slice A1 b1.length c1, .int .i64 b2])] [1, 2, 10] [pl 1 (.int .i64 plies1), pl 2 (.pointer (some ⟨g1, 0, none⟩)), pl 10 (.agg #[.slice A1 b1.length c1, .int .i64 b2])] hF hS (by kernel_rfl) (by kernel_rfl) ?_ (fun a w hF hS => ?_)
    · exact obs_cons (ob_loadA (cs := #[.slice A1 b1.length c1, .int .i64 b2]) (by kernel_rfl) (by kernel_rfl) (fun _ _ hS => (hS.at_ 0 rfl).cellsAt 0 (by rfl))) <| obs_nil
    refine at_call (f := 48) (args := #[.agg #[.slice A1 b1.length c1, .int .i64 b2]]) (d := 11) hF (by kernel_rfl) (by kernel_rfl) Try.func48 (by kernel_rfl) rfl (gameroomref_DraughtsMoves_w hr1 hS (fun _ hS => (hr_b1 _ (hS.dropN 1))) _hc_b1 rfl) (fun v a w hR hF => ?_)
    clear hS
    obtain ⟨pg1, A2, c2, hd1, rfl, hp1, hc1, hS⟩ := hR
    have hS : Sep w0 B w (pg1 :: blk g1 66 #[.slice A1 b1.length c1, .int .i64 b2] :: fs) := hS
    refine at_run 1 [] [] [1, 2, 5] [pl 1 (.int .i64 plies1), pl 2 (.pointer (some ⟨g1, 0, none⟩)), pl 5 (.slice A2 r1.length c2)] hF hS (by kernel_rfl) (by kernel_rfl) ?_ (fun a w hF hS => ?_)
    · exact obs_nil
    refine at_end [1, 2, 5] [pl 1 (.int .i64 plies1), pl 2 (.pointer (some ⟨g1, 0, none⟩)), pl 5 (.slice A2 r1.length c2)] hF rfl (by kernel_rfl) (fun hF => ?_)
    refine then_n ?_
    refine reg [] [] [1, 2, 5, 6] [pl 1 (.int .i64 plies1), pl 2 (.pointer (some ⟨g1, 0, none⟩)), pl 5 (.slice A2 r1.length c2), pl 6 (.int .i64 0)] hF hS Fol (by kernel_rfl) (by kernel_rfl) (by kernel_rfl) ?_ (fun a w hF hS => ?_)
    · exact obs_nil
    refine seq_cut (fun a w => ∃ (n3 : Int), Fr 30 [pl 6 (.int .i64 n3)] a ∧ Sep w0 B w (fs) ∧ (gameroomref_DraughtsCount_J2 n3).bind some = some r) ?_ ?_
    · rintro a w ⟨n3, hF, hS, hm⟩
      unfold gameroomref_DraughtsCount_J2 at hm
      refine reg [] [] [4] [pl 4 (.int .i64 n3)] hF hS Fol (by kernel_rfl) (by kernel_rfl) (by kernel_rfl) ?_ (fun a w hF hS => ?_)
      · exact obs_nil
      refine wpIn_ret ?_
      have hm : some n3 = some r := hm
      obtain rfl := Option.some.inj hm
      exact retV (rs := [.tmp 4]) (vs := [.int .i64 n3]) hF rfl (rv_t (by kernel_rfl) <| rv_nil) rfl ⟨rfl, hS⟩
    · refine reg [] [] [1, 2, 5, 6, 7] [pl 1 (.int .i64 plies1), pl 2 (.pointer (some ⟨g1, 0, none⟩)), pl 5 (.slice A2 r1.length c2), pl 6 (.int .i64 0), pl 7 (.int .i64 0)] hF hS Fol (by kernel_rfl) (by kernel_rfl) (by kernel_rfl) ?_ (fun a w hF hS => ?_)
      · exact obs_nil
      refine wpIn_block ?_
      have hS := hS.pickN 2 [1, 0] (by decide)
      refine wp_loop_model (S := (Int × Int)) (R := Int) (gameroomref_DraughtsCount_L1 rec_gameroomref_DraughtsCount b1 b2 plies1 r1) (fun x => (gameroomref_DraughtsCount_K1 x).bind some) r (fun (x : (Int × Int)) a w => Fr 30 [pl 1 (.int .i64 plies1), pl 2 (.pointer (some ⟨g1, 0, none⟩)), pl 5 (.slice A2 r1.length c2), pl 6 (.int .i64 x.1), pl 7 (.int .i64 x.2)] a ∧ Sep w0 B w (blk g1 66 #[.slice A1 b1.length c1, .int .i64 b2] :: pg1 :: fs)) (assoc_b hm) ⟨hF.weak [1, 2, 5, 6, 7] (by kernel_rfl), hS⟩ ?_
      clear hF hS hm
      rintro nn1 ⟨n2, i1⟩ a w ⟨hF, hS⟩ hm
      generalize hφ1 : stK (gameroomref_DraughtsCount_L1 rec_gameroomref_DraughtsCount b1 b2 plies1 r1) nn1 (fun x => (gameroomref_DraughtsCount_K1 x).bind some) = φ1 at hm
      unfold gameroomref_DraughtsCount_L1 at hm
      dsimp only at hF hS hm
      refine seq_cut (fun a w => Fr 30 [pl 1 (.int .i64 plies1), pl 2 (.pointer (some ⟨g1, 0, none⟩)), pl 5 (.slice A2 r1.length c2), pl 6 (.int .i64 n2), pl 7 (.int .i64 i1)] a ∧ Sep w0 B w (blk g1 66 #[.slice A1 b1.length c1, .int .i64 b2] :: pg1 :: fs) ∧ ((gameroomref_DraughtsCount_J3 rec_gameroomref_DraughtsCount b1 b2 plies1 r1 n2 i1)).bind φ1 = some r) ?_ ?_
      · rintro a w ⟨hF, hS, hm⟩
        unfold gameroomref_DraughtsCount_J3 at hm
        refine seq_cut (fun a w => ∃ (n4 : Int), Fr 30 [pl 1 (.int .i64 plies1), pl 2 (.pointer (some ⟨g1, 0, none⟩)), pl 5 (.slice A2 r1.length c2), pl 6 (.int .i64 n4), pl 7 (.int .i64 i1)] a ∧ Sep w0 B w (blk g1 66 #[.slice A1 b1.length c1, .int .i64 b2] :: pg1 :: fs) ∧ ((gameroomref_DraughtsCount_J4 i1) n4).bind φ1 = some r) ?_ ?_
        · rintro a w ⟨n4, hF, hS, hm⟩
          unfold gameroomref_DraughtsCount_J4 at hm
          refine reg1 [] [] [1, 2, 5, 6, 7] [pl 1 (.int .i64 plies1), pl 2 (.pointer (some ⟨g1, 0, none⟩)), pl 5 (.slice A2 r1.length c2), pl 6 (.int .i64 n4), pl 7 (.int .i64 (w64 (i1 + 1)))] hF hS Fol (by kernel_rfl) (by kernel_rfl) (by kernel_rfl) ?_ (fun a w hF hS => ?_)
          · exact obs_nil
          refine then_n ?_
          rw [← hφ1] at hm
          exact ⟨(n4, (w64 (i1 + 1))), ⟨hF.weak [1, 2, 5, 6, 7] (by kernel_rfl), hS⟩, hm⟩
        · refine wpIn_block ?_
          obtain ⟨hp2, hm⟩ := asrt_b hm
          obtain ⟨r2, hr2, hm⟩ := call_b hm
          obtain ⟨r3, hr3, hm⟩ := call_b hm
          refine regMix4 [0, 1, 2, 3, 4, 5, 7, 8] [6, 9, 10, 11] [⟨false, [], vS (Instr.loadAt 66 (.pointer (some ⟨g1, 0, none⟩))), .agg #[.slice A1 b1.length c1, .int .i64 b2]⟩, ⟨true, [], vS (Instr.indexAt 42 (.slice A2 r1.length c2) (.int .i64 i1)), .pointer (some (sAddr A2 i1))⟩, ⟨false, [], vS (Instr.loadAt 22 (.pointer (some (sAddr A2 i1)))), .slice (hdA hd1 i1) ((geti2 r1 i1).length) (hdC hd1 i1)⟩] [none, some (.agg #[.slice A1 b1.length c1, .int .i64 b2]), none, none, some (.pointer (some (sAddr A2 i1))), some (.slice (hdA hd1 i1) ((geti2 r1 i1).length) (hdC hd1 i1)), none, none] [1, 2, 5, 7, 18, 19, 23, 26] [pl 1 (.int .i64 plies1), pl 2 (.pointer (some ⟨g1, 0, none⟩)), pl 5 (.slice A2 r1.length c2), pl 7 (.int .i64 i1), pl 18 (.int .i64 n2), pl 19 (.agg #[.slice A1 b1.length c1, .int .i64 b2]), pl 23 (.slice (hdA hd1 i1) ((geti2 r1 i1).length) (hdC hd1 i1)), pl 26 (.int .i64 (w64 (plies1 - 1)))] hF hS Fol (by kernel_rfl) (by kernel_rfl) (by kernel_rfl) (by kernel_rfl) (by kernel_rfl) ?_ (fun a w hF hS => ?_)
          · exact obs_cons (ob_loadA (cs := #[.slice A1 b1.length c1, .int .i64 b2]) (by kernel_rfl) (by kernel_rfl) (fun _ _ hS => (hS.at_ 0 rfl).cellsAt 0 (by rfl))) <| obs_cons (ob_ixRn Und42 hi22 hs22 (hp1.at_ hS 1 rfl) rfl (fun _ => hp2)) <| obs_cons (ob_getR Agg22 (fun _ hS => ⟨_, (hp1.at_ hS 1 rfl)⟩) (fun _ => hp2)) <| obs_nil
          refine at_call (f := 52) (args := #[.agg #[.slice A1 b1.length c1, .int .i64 b2], .slice (hdA hd1 i1) ((geti2 r1 i1).length) (hdC hd1 i1)]) (d := 24) hF (by kernel_rfl) (by kernel_rfl) Try.func52 (by kernel_rfl) rfl (gameroomref_DraughtsDo_w hr2 hS (fun _ hS => (hr_b1 _ (hS.dropN 2))) _hc_b1 rfl (fun _ hS => ((hp1.at_ hS 1 rfl).row _ hp2).1) ((hp1.at_ hS 1 rfl).row _ hp2).2 rfl) (fun v a w hR hF => ?_)
          clear hS
          obtain ⟨A3, c3, rfl, hS⟩ := hR
          have hS : Sep w0 B w (own 3 (.slice A3 r2.1.length c3) (vI r2.1) :: blk g1 66 #[.slice A1 b1.length c1, .int .i64 b2] :: pg1 :: fs) := hS
          refine at_run 3 [⟨false, [], callFunc 51 #[.agg #[.slice A3 r2.1.length c3, .int .i64 r2.2], .int .i64 (w64 (plies1 - 1))], .int .i64 r3⟩] [some (.int .i64 r3), none, none] [1, 2, 5, 6, 7] [pl 1 (.int .i64 plies1), pl 2 (.pointer (some ⟨g1, 0, none⟩)), pl 5 (.slice A2 r1.length c2), pl 6 (.int .i64 (w64 (n2 + r3))), pl 7 (.int .i64 i1)] hF hS (by kernel_rfl) (by kernel_rfl) ?_ (fun a w hF hS => ?_)
          · exact obs_cons (ob_call Try.func51 (by kernel_rfl) rfl (fun _ _ hS => ih_gameroomref_DraughtsCount hr3 hS (fun _ hS => (hS.at_ 0 rfl).rd) ((hS.at_ 0 rfl).cap1) rfl)) <| obs_nil
          refine at_end [1, 2, 5, 6, 7] [pl 1 (.int .i64 plies1), pl 2 (.pointer (some ⟨g1, 0, none⟩)), pl 5 (.slice A2 r1.length c2), pl 6 (.int .i64 (w64 (n2 + r3))), pl 7 (.int .i64 i1)] hF rfl (by kernel_rfl) (fun hF => ?_)
          refine np_n ?_
          refine block_n ?_
          refine then_n ?_
          have hS := hS.pickN 3 [1, 2] (by decide)
          exact ⟨(w64 (n2 + r3)), hF.weak [1, 2, 5, 6, 7] (by kernel_rfl), hS, hm⟩
      · refine reg [] [] [1, 2, 5, 6, 7, 15] [pl 1 (.int .i64 plies1), pl 2 (.pointer (some ⟨g1, 0, none⟩)), pl 5 (.slice A2 r1.length c2), pl 6 (.int .i64 n2), pl 7 (.int .i64 i1), pl 15 (.bool (decide (i1 < (r1.length : Int))))] hF hS Fol (by kernel_rfl) (by kernel_rfl) (by kernel_rfl) ?_ (fun a w hF hS => ?_)
        · exact obs_nil
        refine cond_ev (t := 15) (b := decide (i1 < (r1.length : Int))) hF (by kernel_rfl) (fun hb => ?_) (fun hb => ?_)
        · replace hm := if_t hm hb
          refine wpIn_skip ?_
          refine then_n ?_
          exact ⟨hF.weak [1, 2, 5, 6, 7] (by kernel_rfl), hS, hm⟩
        · replace hm := if_f hm hb
          refine wpIn_exit ?_
          refine then_e (then_e (block_e (then_n ?_)))
          have hS := hS.pickN 2 [] (by decide)
          rw [← hφ1] at hm
          replace hm := done_b hm
          unfold gameroomref_DraughtsCount_K1 at hm
          try dsimp only at hm
          have hm : (gameroomref_DraughtsCount_J2 n2).bind some = some r := hm
          exact ⟨n2, hF.weak [6] (by kernel_rfl), hS, hm⟩
  · refine reg [] [] [1, 2, 9] [pl 1 (.int .i64 plies1), pl 2 (.pointer (some ⟨g1, 0, none⟩)), pl 9 (.bool (plies1 == 0))] hF hS Fol (by kernel_rfl) (by kernel_rfl) (by kernel_rfl) ?_ (fun a w hF hS => ?_)
    · exact obs_nil
    refine cond_ev (t := 9) (b := (plies1 == 0)) hF (by kernel_rfl) (fun hb => ?_) (fun hb => ?_)
    · replace hm := if_t hm hb
      refine reg [] [] [4] [pl 4 (.int .i64 1)] hF hS Fol (by kernel_rfl) (by kernel_rfl) (by kernel_rfl) ?_ (fun a w hF hS => ?_)
      · exact obs_nil
      refine wpIn_ret ?_
      refine then_r ?_
      have hS := hS.pickN 1 [] (by decide)
      have hm : some 1 = some r := hm
      obtain rfl := Option.some.inj hm
      exact retV (rs := [.tmp 4]) (vs := [.int .i64 1]) hF rfl (rv_t (by kernel_rfl) <| rv_nil) rfl ⟨rfl, hS⟩
    · replace hm := if_f hm hb
      refine wpIn_skip ?_
      refine then_n ?_
      exact ⟨hF.weak [1, 2] (by kernel_rfl), hS, hm⟩

theorem gameroomref_DraughtsCount_w  {A1 : Option Addr} {c1 : Nat} {n1 : Nat} {b1 : List Int} {b2 : Int} {plies1 : Int} {r : Int} {w0 w : World} {B : Nat} {fs : List HP} (hm : gameroomref_DraughtsCount_m b1 b2 plies1 = some r) (hS : Sep w0 B w (fs)) (hr_b1 : RdF w0 B fs A1 (vI b1)) (_hc_b1 : b1.length ≤ c1) (_hn_b1 : n1 = b1.length) :
    Calls Try.prog 51 #[.agg #[.slice A1 n1 c1, .int .i64 b2], .int .i64 plies1] w fun e w' => e = .returned (.int .i64 r) ∧ Sep w0 B w' (fs) := by
  have key : ∀ (n : Nat) {A1 : Option Addr} {c1 : Nat} {n1 : Nat} {b1 : List Int} {b2 : Int} {plies1 : Int} {r : Int} {w0 w : World} {B : Nat} {fs : List HP} (_ : gameroomref_DraughtsCount_mF n b1 b2 plies1 = some r) (_ : Sep w0 B w (fs)) (hr_b1 : RdF w0 B fs A1 (vI b1)) (_hc_b1 : b1.length ≤ c1) (_hn_b1 : n1 = b1.length), Calls Try.prog 51 #[.agg #[.slice A1 n1 c1, .int .i64 b2], .int .i64 plies1] w fun e w' => e = .returned (.int .i64 r) ∧ Sep w0 B w' (fs) := by
    intro n
    induction n with
    | zero => intros; rename_i hm0 _ _ _ _; cases hm0
    | succ n ih => intros; rename_i hm0 hS0 h0 h1 h2; exact gameroomref_DraughtsCount_wB (rec_gameroomref_DraughtsCount := gameroomref_DraughtsCount_mF n) (fun hm hS h0 h1 h2 => ih hm hS h0 h1 h2) hm0 hS0 h0 h1 h2
  obtain ⟨n, hn⟩ := recM_some hm
  exact key n hn hS hr_b1 _hc_b1 _hn_b1

set_option maxRecDepth 100000 in
theorem gameroomref_DraughtsCount_J3_le_gameroomref_DraughtsCount {rec_gameroomref_DraughtsCount1 rec_gameroomref_DraughtsCount2 : List Int → Int → Int → Option Int} (h_rec_gameroomref_DraughtsCount : ∀ a0 a1 a2, Le (rec_gameroomref_DraughtsCount1 a0 a1 a2) (rec_gameroomref_DraughtsCount2 a0 a1 a2)) (b1 : List Int) (b2 : Int) (plies1 : Int) (r1 : (List (List Int))) (n2 : Int) (i1 : Int) : Le (gameroomref_DraughtsCount_J3 rec_gameroomref_DraughtsCount1 b1 b2 plies1 r1 n2 i1) (gameroomref_DraughtsCount_J3 rec_gameroomref_DraughtsCount2 b1 b2 plies1 r1 n2 i1) := by
  unfold gameroomref_DraughtsCount_J3
  repeat' (first | with_reducible exact Le.refl _ | with_reducible exact h_rec_gameroomref_DraughtsCount _ _ _ | with_reducible refine Le.asrt ?_ | with_reducible refine Le.ite ?_ ?_ | refine Le.bind ?_ (fun _ => ?_) | refine Le.loop2 (fun _ => ?_) | refine Le.elim2 (fun _ => ?_) (fun _ => ?_))

set_option maxRecDepth 100000 in
theorem gameroomref_DraughtsCount_L1_le_gameroomref_DraughtsCount {rec_gameroomref_DraughtsCount1 rec_gameroomref_DraughtsCount2 : List Int → Int → Int → Option Int} (h_rec_gameroomref_DraughtsCount : ∀ a0 a1 a2, Le (rec_gameroomref_DraughtsCount1 a0 a1 a2) (rec_gameroomref_DraughtsCount2 a0 a1 a2)) (b1 : List Int) (b2 : Int) (plies1 : Int) (r1 : (List (List Int))) (x : (Int × Int)) : Le (gameroomref_DraughtsCount_L1 rec_gameroomref_DraughtsCount1 b1 b2 plies1 r1 x) (gameroomref_DraughtsCount_L1 rec_gameroomref_DraughtsCount2 b1 b2 plies1 r1 x) := by
  rcases x with ⟨n2, i1⟩
  all_goals
    unfold gameroomref_DraughtsCount_L1
    try dsimp only
    repeat' (first | with_reducible exact Le.refl _ | with_reducible exact h_rec_gameroomref_DraughtsCount _ _ _ | with_reducible exact gameroomref_DraughtsCount_J3_le_gameroomref_DraughtsCount h_rec_gameroomref_DraughtsCount _ _ _ _ _ _ | with_reducible refine Le.asrt ?_ | with_reducible refine Le.ite ?_ ?_ | refine Le.bind ?_ (fun _ => ?_) | refine Le.loop2 (fun _ => ?_) | refine Le.elim2 (fun _ => ?_) (fun _ => ?_))

set_option maxRecDepth 100000 in
theorem gameroomref_DraughtsCount_J1_le_gameroomref_DraughtsCount {rec_gameroomref_DraughtsCount1 rec_gameroomref_DraughtsCount2 : List Int → Int → Int → Option Int} (h_rec_gameroomref_DraughtsCount : ∀ a0 a1 a2, Le (rec_gameroomref_DraughtsCount1 a0 a1 a2) (rec_gameroomref_DraughtsCount2 a0 a1 a2)) (b1 : List Int) (b2 : Int) (plies1 : Int) : Le (gameroomref_DraughtsCount_J1 rec_gameroomref_DraughtsCount1 b1 b2 plies1) (gameroomref_DraughtsCount_J1 rec_gameroomref_DraughtsCount2 b1 b2 plies1) := by
  unfold gameroomref_DraughtsCount_J1
  repeat' (first | with_reducible exact Le.refl _ | with_reducible exact h_rec_gameroomref_DraughtsCount _ _ _ | with_reducible exact gameroomref_DraughtsCount_L1_le_gameroomref_DraughtsCount h_rec_gameroomref_DraughtsCount _ _ _ _ _ | with_reducible refine Le.asrt ?_ | with_reducible refine Le.ite ?_ ?_ | refine Le.bind ?_ (fun _ => ?_) | refine Le.loop2 (fun _ => ?_) | refine Le.elim2 (fun _ => ?_) (fun _ => ?_))

set_option maxRecDepth 100000 in
theorem gameroomref_DraughtsCount_B_le {rec_gameroomref_DraughtsCount1 rec_gameroomref_DraughtsCount2 : List Int → Int → Int → Option Int} (h_rec_gameroomref_DraughtsCount : ∀ a0 a1 a2, Le (rec_gameroomref_DraughtsCount1 a0 a1 a2) (rec_gameroomref_DraughtsCount2 a0 a1 a2)) (b1 : List Int) (b2 : Int) (plies1 : Int) : Le (gameroomref_DraughtsCount_B rec_gameroomref_DraughtsCount1 b1 b2 plies1) (gameroomref_DraughtsCount_B rec_gameroomref_DraughtsCount2 b1 b2 plies1) := by
  unfold gameroomref_DraughtsCount_B
  repeat' (first | with_reducible exact Le.refl _ | with_reducible exact h_rec_gameroomref_DraughtsCount _ _ _ | with_reducible exact gameroomref_DraughtsCount_J1_le_gameroomref_DraughtsCount h_rec_gameroomref_DraughtsCount _ _ _ | with_reducible refine Le.asrt ?_ | with_reducible refine Le.ite ?_ ?_ | refine Le.bind ?_ (fun _ => ?_) | refine Le.loop2 (fun _ => ?_) | refine Le.elim2 (fun _ => ?_) (fun _ => ?_))

set_option maxRecDepth 100000 in
theorem gameroomref_DraughtsCount_mF_le : ∀ (n : Nat) (b1 : List Int) (b2 : Int) (plies1 : Int), Le (gameroomref_DraughtsCount_mF n b1 b2 plies1) (gameroomref_DraughtsCount_mF (n + 1) b1 b2 plies1)
  | 0, _, _, _ => fun _ h => by cases h
  | n + 1, _, _, _ => gameroomref_DraughtsCount_B_le (fun a0 a1 a2 => gameroomref_DraughtsCount_mF_le n a0 a1 a2) _ _ _

set_option maxRecDepth 100000 in
theorem gameroomref_DraughtsCount_m_of (N : Nat) (b1 : List Int) (b2 : Int) (plies1 : Int) {r : Int} (h : gameroomref_DraughtsCount_mF N b1 b2 plies1 = some r) : gameroomref_DraughtsCount_m b1 b2 plies1 = some r :=
  recM_mono (fun n => gameroomref_DraughtsCount_mF_le n _ _ _) h

noncomputable def gameroomlaw_DraughtsDoes_J6  (z1 : Bool) : Option (St Int (Fl Unit Bool)) :=
  some (.done (.ret z1))

noncomputable def gameroomlaw_DraughtsDoes_J5  (i1 : Int) : Option (St Int (Fl Unit Bool)) :=
  some (.next (w64 (i1 + 1)))

noncomputable def gameroomlaw_DraughtsDoes_J4  (b1 : List Int) (b2 : Int) (way1 : List Int) (r3 : (List Int × Int × Int)) (r8 : (List (List Int))) (i1 : Int) : Option (St Int (Fl Unit Bool)) :=
  asrt (0 ≤ i1 ∧ i1 < (r8.length : Int)) <| (gameroomlaw_sameInts_m (geti2 r8 i1) way1).bind fun r9 => if r9 then (if (r3.2.2 == 0) then ((gameroomref_DraughtsDo_m b1 b2 way1).bind fun r10 => ((if (r3.2.2 == 0) then gameroomref_SameDraughts_m r3.1 r3.2.1 r10.1 r10.2 else some false)).bind fun r11 => gameroomlaw_DraughtsDoes_J6 ((r3.2.2 == 0) && r11)) else (gameroomlaw_DraughtsDoes_J6 ((r3.2.2 == 0) && false))) else ((gameroomlaw_DraughtsDoes_J5 i1))

noncomputable def gameroomlaw_DraughtsDoes_J3  (r3 : (List Int × Int × Int)) : Option Bool :=
  some (((r3.2.2 == 8) && ((r3.1.length : Int) == 0)) && (r3.2.1 == 0))

noncomputable def gameroomlaw_DraughtsDoes_K1  (r3 : (List Int × Int × Int)) : (Fl Unit Bool) → Option Bool :=
  fun (x : (Fl Unit Bool)) => match x with | .go _ => (gameroomlaw_DraughtsDoes_J3 r3) | .ret x => some x

noncomputable def gameroomlaw_DraughtsDoes_L1  (b1 : List Int) (b2 : Int) (way1 : List Int) (r3 : (List Int × Int × Int)) (r8 : (List (List Int))) : Int → Option (St Int (Fl Unit Bool)) :=
  fun (x : Int) => match x with | i1 => if (decide (i1 < (r8.length : Int))) then ((gameroomlaw_DraughtsDoes_J4 b1 b2 way1 r3 r8 i1)) else (some (.done (.go ())))

noncomputable def gameroomlaw_DraughtsDoes_J2  (b1 : List Int) (b2 : Int) (way1 : List Int) (r3 : (List Int × Int × Int)) : Option Bool :=
  (gameroomref_DraughtsMoves_m b1 b2).bind fun r8 => (loop (gameroomlaw_DraughtsDoes_L1 b1 b2 way1 r3 r8) 0).bind (gameroomlaw_DraughtsDoes_K1 r3)

noncomputable def gameroomlaw_DraughtsDoes_J1  (b1 : List Int) (b2 : Int) (way1 : List Int) (plies1 : Int) (r3 : (List Int × Int × Int)) (r5 : (Int × Int)) : Option Bool :=
  if ((decide (plies1 < 0)) || (decide ((6 : Int) < plies1))) then (if ((r5.2 != 3) || (r5.1 != 0)) then (some false) else ((gameroomlaw_DraughtsDoes_J2 b1 b2 way1 r3))) else (((if (!(r5.2 != 0)) then gameroomref_DraughtsCount_m b1 b2 plies1 else some 0)).bind fun r7 => if ((r5.2 != 0) || (r5.1 != r7)) then (some false) else ((gameroomlaw_DraughtsDoes_J2 b1 b2 way1 r3)))

noncomputable def gameroomlaw_DraughtsDoes_m  (b1 : List Int) (b2 : Int) (way1 : List Int) (plies1 : Int) : Option Bool :=
  (gameroomref_DraughtsOf_m b1 b2).bind fun r1 => (gameroomlaw_ints_m way1).bind fun r2 => (draughts_Do_m r1.1 r1.2 r2).bind fun r3 => (gameroomref_DraughtsOf_m b1 b2).bind fun r4 => (draughts_Count_m r4.1 r4.2 plies1).bind fun r5 => (gameroomref_DraughtsMay_m b1 b2).bind fun r6 => if (!r6) then (some (((((r3.2.2 == 12) && (r5.2 == 12)) && (r5.1 == 0)) && ((r3.1.length : Int) == 0)) && (r3.2.1 == 0))) else ((gameroomlaw_DraughtsDoes_J1 b1 b2 way1 plies1 r3 r5))

set_option maxRecDepth 100000 in
set_option maxHeartbeats 4000000 in
theorem gameroomlaw_DraughtsDoes_w  {A1 : Option Addr} {c1 : Nat} {n1 : Nat} {b1 : List Int} {b2 : Int} {A2 : Option Addr} {c2 : Nat} {n2 : Nat} {way1 : List Int} {plies1 : Int} {r : Bool} {w0 w : World} {B : Nat} {fs : List HP} (hm : gameroomlaw_DraughtsDoes_m b1 b2 way1 plies1 = some r) (hS : Sep w0 B w (fs)) (hr_b1 : RdF w0 B fs A1 (vI b1)) (_hc_b1 : b1.length ≤ c1) (_hn_b1 : n1 = b1.length) (hr_way1 : RdF w0 B fs A2 (vI way1)) (_hc_way1 : way1.length ≤ c2) (_hn_way1 : n2 = way1.length) :
    Calls Try.prog 9 #[.agg #[.slice A1 n1 c1, .int .i64 b2], .slice A2 n2 c2, .int .i64 plies1] w fun e w' => e = .returned (.bool r) ∧ Sep w0 B w' (fs) := by
  obtain ⟨i3, hi3, hz3, hs3, hb3⟩ := info_parts Info3
  obtain ⟨i22, hi22, hz22, hs22, hb22⟩ := info_parts Info22
  obtain rfl := _hn_b1
  obtain rfl := _hn_way1
  unfold gameroomlaw_DraughtsDoes_m at hm
  replace hm := start_b hm
  refine enter (l := [.agg #[.slice A1 b1.length c1, .int .i64 b2], .slice A2 way1.length c2, .int .i64 plies1]) (n := 109) Try.func9 rfl rfl (by simp) (fun a hF => ?_)
  refine seqR ?_
  refine at_do (d := 3) (s := vS (Instr.box 66 (.agg #[.slice A1 b1.length c1, .int .i64 b2]))) (v := .pointer (some ⟨w.heap.size, 0, none⟩)) (w' := w.alloc (.cells #[.slice A1 b1.length c1, .int .i64 b2] 66)) hF (by kernel_rfl) (by kernel_rfl) (by kernel_rfl) (fun a hF => ?_)
  have hS : Sep w0 B (w.alloc (.cells #[.slice A1 b1.length c1, .int .i64 b2] 66)) (blk w.heap.size 66 #[.slice A1 b1.length c1, .int .i64 b2] :: (fs)) := hS.box 66 #[.slice A1 b1.length c1, .int .i64 b2]
  generalize w.heap.size = g1 at hF hS
  generalize w.alloc (.cells #[.slice A1 b1.length c1, .int .i64 b2] 66) = w at hS ⊢
  refine at_run 1 [] [] [1, 2, 3] [pl 1 (.slice A2 way1.length c2), pl 2 (.int .i64 plies1), pl 3 (.pointer (some ⟨g1, 0, none⟩))] hF hS (by kernel_rfl) (by kernel_rfl) ?_ (fun a w hF hS => ?_)
  · exact obs_nil
  refine at_end [1, 2, 3] [pl 1 (.slice A2 way1.length c2), pl 2 (.int .i64 plies1), pl 3 (.pointer (some ⟨g1, 0, none⟩))] hF rfl (by kernel_rfl) (fun hF => ?_)
  refine then_n ?_
  refine seqR ?_
  obtain ⟨r1, hr1, hm⟩ := call_b hm
  obtain ⟨r2, hr2, hm⟩ := call_b hm
  obtain ⟨r3, hr3, hm⟩ := call_b hm
  refine at_run 1 [⟨false, [], vS (Instr.loadAt 66 (.pointer (some ⟨g1, 0, none⟩))), .agg #[.slice A1 b1.length c1, .int .i64 b2]⟩] [some (.agg #[.slice A1 b1.length c1, .int .i64 b2])] [1, 2, 3, 14] [pl 1 (.slice A2 way1.length c2), pl 2 (.int .i64 plies1), pl 3 (.pointer (some ⟨g1, 0, none⟩)), pl 14 (.agg #[.slice A1 b1.length c1, .int .i64 b2])] hF hS (by kernel_rfl) (by kernel_rfl) ?_ (fun a w hF hS => ?_)
  · exact obs_cons (ob_loadA (cs := #[.slice A1 b1.length c1, .int .i64 b2]) (by kernel_rfl) (by kernel_rfl) (fun _ _ hS => (hS.at_ 0 rfl).cellsAt 0 (by rfl))) <| obs_nil
  refine at_call (f := 41) (args := #[.agg #[.slice A1 b1.length c1, .int .i64 b2]]) (d := 15) hF (by kernel_rfl) (by kernel_rfl) Try.func41 (by kernel_rfl) rfl (gameroomref_DraughtsOf_w hr1 hS (fun _ hS => (hr_b1 _ (hS.dropN 1))) _hc_b1 rfl) (fun v a w hR hF => ?_)
  clear hS
  obtain ⟨A3, c3, rfl, hS⟩ := hR
  have hS : Sep w0 B w (own 3 (.slice A3 r1.1.length c3) (vI r1.1) :: blk g1 66 #[.slice A1 b1.length c1, .int .i64 b2] :: fs) := hS
  refine at_run 1 [] [] [1, 2, 3, 15, 16] [pl 1 (.slice A2 way1.length c2), pl 2 (.int .i64 plies1), pl 3 (.pointer (some ⟨g1, 0, none⟩)), pl 15 (.agg #[.slice A3 r1.1.length c3, .int .i64 r1.2]), pl 16 (.slice A2 way1.length c2)] hF hS (by kernel_rfl) (by kernel_rfl) ?_ (fun a w hF hS => ?_)
  · exact obs_nil
  refine at_call (f := 17) (args := #[.slice A2 way1.length c2]) (d := 17) hF (by kernel_rfl) (by kernel_rfl) Try.func17 (by kernel_rfl) rfl (gameroomlaw_ints_w hr2 hS (fun _ hS => (hr_way1 _ (hS.dropN 2))) _hc_way1 rfl) (fun v a w hR hF => ?_)
  clear hS
  obtain ⟨A4, c4, rfl, hS⟩ := hR
  have hS : Sep w0 B w (own 3 (.slice A4 r2.length c4) (vI r2) :: own 3 (.slice A3 r1.1.length c3) (vI r1.1) :: blk g1 66 #[.slice A1 b1.length c1, .int .i64 b2] :: fs) := hS
  refine at_call (f := 49) (args := #[.agg #[.slice A3 r1.1.length c3, .int .i64 r1.2], .slice A4 r2.length c4]) (d := 18) hF (by kernel_rfl) (by kernel_rfl) Try.func49 (by kernel_rfl) rfl (draughts_Do_w hr3 hS (fun _ hS => (hS.at_ 1 rfl).rd) ((hS.at_ 1 rfl).cap1) rfl (fun _ hS => (hS.at_ 0 rfl).rd) ((hS.at_ 0 rfl).cap1) rfl) (fun v a w hR hF => ?_)
  clear hS
  obtain ⟨A5, c5, rfl, hS⟩ := hR
  have hS : Sep w0 B w (own 3 (.slice A5 r3.1.length c5) (vI r3.1) :: own 3 (.slice A4 r2.length c4) (vI r2) :: own 3 (.slice A3 r1.1.length c3) (vI r1.1) :: blk g1 66 #[.slice A1 b1.length c1, .int .i64 b2] :: fs) := hS
  refine at_run 3 [] [] [1, 2, 3, 19, 20] [pl 1 (.slice A2 way1.length c2), pl 2 (.int .i64 plies1), pl 3 (.pointer (some ⟨g1, 0, none⟩)), pl 19 (.agg #[.slice A5 r3.1.length c5, .int .i64 r3.2.1]), pl 20 (.int .i64 r3.2.2)] hF hS (by kernel_rfl) (by kernel_rfl) ?_ (fun a w hF hS => ?_)
  · exact obs_nil
  refine at_do (d := 7) (s := vS (Instr.alloc 66 true (.tuple #[]))) (v := .pointer (some ⟨w.heap.size, 0, none⟩)) (w' := w.alloc (.cells #[.slice none 0 0, .int .i64 0] 66)) hF (by kernel_rfl) (by kernel_rfl) (by kernel_rfl) (fun a hF => ?_)
  have hS : Sep w0 B (w.alloc (.cells #[.slice none 0 0, .int .i64 0] 66)) (blk w.heap.size 66 #[.slice none 0 0, .int .i64 0] :: (own 3 (.slice A5 r3.1.length c5) (vI r3.1) :: own 3 (.slice A4 r2.length c4) (vI r2) :: own 3 (.slice A3 r1.1.length c3) (vI r1.1) :: blk g1 66 #[.slice A1 b1.length c1, .int .i64 b2] :: fs)) := hS.box 66 #[.slice none 0 0, .int .i64 0]
  generalize w.heap.size = g2 at hF hS
  generalize w.alloc (.cells #[.slice none 0 0, .int .i64 0] 66) = w at hS ⊢
  obtain ⟨w, hrun, hS⟩ := run_putA (P := Try.prog) (t := 66) (us := #[.slice A5 r3.1.length c5, .int .i64 r3.2.1]) (o := 0) (hS.at_ 0 rfl) (by kernel_rfl) (all_one (by kernel_rfl)) (Nat.le_of_ble_eq_true (by kernel_rfl))
  refine at_skip hF (by kernel_rfl) hrun ?_
  have hS : Sep w0 B w (blk g2 66 #[.slice A5 r3.1.length c5, .int .i64 r3.2.1] :: own 3 (.slice A5 r3.1.length c5) (vI r3.1) :: own 3 (.slice A4 r2.length c4) (vI r2) :: own 3 (.slice A3 r1.1.length c3) (vI r1.1) :: blk g1 66 #[.slice A1 b1.length c1, .int .i64 b2] :: fs) := hS
  refine at_run 1 [] [] [1, 2, 3, 7, 8] [pl 1 (.slice A2 way1.length c2), pl 2 (.int .i64 plies1), pl 3 (.pointer (some ⟨g1, 0, none⟩)), pl 7 (.pointer (some ⟨g2, 0, none⟩)), pl 8 (.int .i64 r3.2.2)] hF hS (by kernel_rfl) (by kernel_rfl) ?_ (fun a w hF hS => ?_)
  · exact obs_nil
  refine at_end [1, 2, 3, 7, 8] [pl 1 (.slice A2 way1.length c2), pl 2 (.int .i64 plies1), pl 3 (.pointer (some ⟨g1, 0, none⟩)), pl 7 (.pointer (some ⟨g2, 0, none⟩)), pl 8 (.int .i64 r3.2.2)] hF rfl (by kernel_rfl) (fun hF => ?_)
  refine then_n ?_
  refine seqR ?_
  obtain ⟨r4, hr4, hm⟩ := call_b hm
  obtain ⟨r5, hr5, hm⟩ := call_b hm
  refine at_run 1 [⟨false, [], vS (Instr.loadAt 66 (.pointer (some ⟨g1, 0, none⟩))), .agg #[.slice A1 b1.length c1, .int .i64 b2]⟩] [some (.agg #[.slice A1 b1.length c1, .int .i64 b2])] [1, 2, 3, 7, 8, 22] [pl 1 (.slice A2 way1.length c2), pl 2 (.int .i64 plies1), pl 3 (.pointer (some ⟨g1, 0, none⟩)), pl 7 (.pointer (some ⟨g2, 0, none⟩)), pl 8 (.int .i64 r3.2.2), pl 22 (.agg #[.slice A1 b1.length c1, .int .i64 b2])] hF hS (by kernel_rfl) (by kernel_rfl) ?_ (fun a w hF hS => ?_)
  · exact obs_cons (ob_loadA (cs := #[.slice A1 b1.length c1, .int .i64 b2]) (by kernel_rfl) (by kernel_rfl) (fun _ _ hS => (hS.at_ 4 rfl).cellsAt 0 (by rfl))) <| obs_nil
  refine at_call (f := 41) (args := #[.agg #[.slice A1 b1.length c1, .int .i64 b2]]) (d := 23) hF (by kernel_rfl) (by kernel_rfl) Try.func41 (by kernel_rfl) rfl (gameroomref_DraughtsOf_w hr4 hS (fun _ hS => (hr_b1 _ (hS.dropN 5))) _hc_b1 rfl) (fun v a w hR hF => ?_)
  clear hS
  obtain ⟨A6, c6, rfl, hS⟩ := hR
  have hS : Sep w0 B w (own 3 (.slice A6 r4.1.length c6) (vI r4.1) :: blk g2 66 #[.slice A5 r3.1.length c5, .int .i64 r3.2.1] :: own 3 (.slice A5 r3.1.length c5) (vI r3.1) :: own 3 (.slice A4 r2.length c4) (vI r2) :: own 3 (.slice A3 r1.1.length c3) (vI r1.1) :: blk g1 66 #[.slice A1 b1.length c1, .int .i64 b2] :: fs) := hS
  refine at_run 7 [⟨false, [], callFunc 50 #[.agg #[.slice A6 r4.1.length c6, .int .i64 r4.2], .int .i64 plies1], .tuple #[.int .i64 r5.1, .int .i64 r5.2]⟩] [none, some (.tuple #[.int .i64 r5.1, .int .i64 r5.2]), none, none, none, none, none] [1, 2, 3, 7, 8, 9, 10] [pl 1 (.slice A2 way1.length c2), pl 2 (.int .i64 plies1), pl 3 (.pointer (some ⟨g1, 0, none⟩)), pl 7 (.pointer (some ⟨g2, 0, none⟩)), pl 8 (.int .i64 r3.2.2), pl 9 (.int .i64 r5.1), pl 10 (.int .i64 r5.2)] hF hS (by kernel_rfl) (by kernel_rfl) ?_ (fun a w hF hS => ?_)
  · exact obs_cons (ob_call Try.func50 (by kernel_rfl) rfl (fun _ _ hS => draughts_Count_w hr5 hS (fun _ hS => (hS.at_ 0 rfl).rd) ((hS.at_ 0 rfl).cap1) rfl)) <| obs_nil
  refine at_end [1, 2, 3, 7, 8, 9, 10] [pl 1 (.slice A2 way1.length c2), pl 2 (.int .i64 plies1), pl 3 (.pointer (some ⟨g1, 0, none⟩)), pl 7 (.pointer (some ⟨g2, 0, none⟩)), pl 8 (.int .i64 r3.2.2), pl 9 (.int .i64 r5.1), pl 10 (.int .i64 r5.2)] hF rfl (by kernel_rfl) (fun hF => ?_)
  refine then_n ?_
  refine seq_cut (fun a w => Fr 109 [pl 1 (.slice A2 way1.length c2), pl 2 (.int .i64 plies1), pl 3 (.pointer (some ⟨g1, 0, none⟩)), pl 7 (.pointer (some ⟨g2, 0, none⟩)), pl 8 (.int .i64 r3.2.2), pl 9 (.int .i64 r5.1), pl 10 (.int .i64 r5.2)] a ∧ Sep w0 B w (blk g1 66 #[.slice A1 b1.length c1, .int .i64 b2] :: blk g2 66 #[.slice A5 r3.1.length c5, .int .i64 r3.2.1] :: own 3 (.slice A5 r3.1.length c5) (vI r3.1) :: fs) ∧ ((gameroomlaw_DraughtsDoes_J1 b1 b2 way1 plies1 r3 r5)).bind some = some r) ?_ ?_
  · rintro a w ⟨hF, hS, hm⟩
    unfold gameroomlaw_DraughtsDoes_J1 at hm
    refine seq_cut (fun a w => Fr 109 [pl 1 (.slice A2 way1.length c2), pl 3 (.pointer (some ⟨g1, 0, none⟩)), pl 7 (.pointer (some ⟨g2, 0, none⟩)), pl 8 (.int .i64 r3.2.2)] a ∧ Sep w0 B w (blk g1 66 #[.slice A1 b1.length c1, .int .i64 b2] :: blk g2 66 #[.slice A5 r3.1.length c5, .int .i64 r3.2.1] :: own 3 (.slice A5 r3.1.length c5) (vI r3.1) :: fs) ∧ ((gameroomlaw_DraughtsDoes_J2 b1 b2 way1 r3)).bind some = some r) ?_ ?_
    · rintro a w ⟨hF, hS, hm⟩
      unfold gameroomlaw_DraughtsDoes_J2 at hm
      refine seqR ?_
      obtain ⟨r8, hr8, hm⟩ := call_b hm
      refine at_run 1 [⟨false, [], vS (Instr.loadAt 66 (.pointer (some ⟨g1, 0, none⟩))), .agg #[.slice A1 b1.length c1, .int .i64 b2]⟩] [some (.agg #[.slice A1 b1.length c1, .int .i64 b2])] [1, 3, 7, 8, 73] [pl 1 (.slice A2 way1.length c2), pl 3 (.pointer (some ⟨g1, 0, none⟩)), pl 7 (.pointer (some ⟨g2, 0, none⟩)), pl 8 (.int .i64 r3.2.2), pl 73 (.agg #[.slice A1 b1.length c1, .int .i64 b2])] hF hS (by kernel_rfl) (by kernel_rfl) ?_ (fun a w hF hS => ?_)
      · exact obs_cons (ob_loadA (cs := #[.slice A1 b1.length c1, .int .i64 b2]) (by kernel_rfl) (by kernel_rfl) (fun _ _ hS => (hS.at_ 0 rfl).cellsAt 0 (by rfl))) <| obs_nil
      refine at_call (f := 48) (args := #[.agg #[.slice A1 b1.length c1, .int .i64 b2]]) (d := 74) hF (by kernel_rfl) (by kernel_rfl) Try.func48 (by kernel_rfl) rfl (gameroomref_DraughtsMoves_w hr8 hS (fun _ hS => (hr_b1 _ (hS.dropN 3))) _hc_b1 rfl) (fun v a w hR hF => ?_)
      clear hS
      obtain ⟨pg1, A7, c7, hd1, rfl, hp1, hc1, hS⟩ := hR
      have hS : Sep w0 B w (pg1 :: blk g1 66 #[.slice A1 b1.length c1, .int .i64 b2] :: blk g2 66 #[.slice A5 r3.1.length c5, .int .i64 r3.2.1] :: own 3 (.slice A5 r3.1.length c5) (vI r3.1) :: fs) := hS
      refine at_run 1 [] [] [1, 3, 7, 8, 11] [pl 1 (.slice A2 way1.length c2), pl 3 (.pointer (some ⟨g1, 0, none⟩)), pl 7 (.pointer (some ⟨g2, 0, none⟩)), pl 8 (.int .i64 r3.2.2), pl 11 (.slice A7 r8.length c7)] hF hS (by kernel_rfl) (by kernel_rfl) ?_ (fun a w hF hS => ?_)
      · exact obs_nil
      refine at_end [1, 3, 7, 8, 11] [pl 1 (.slice A2 way1.length c2), pl 3 (.pointer (some ⟨g1, 0, none⟩)), pl 7 (.pointer (some ⟨g2, 0, none⟩)), pl 8 (.int .i64 r3.2.2), pl 11 (.slice A7 r8.length c7)] hF rfl (by kernel_rfl) (fun hF => ?_)
      refine then_n ?_
      refine seq_cut (fun a w => Fr 109 [pl 7 (.pointer (some ⟨g2, 0, none⟩)), pl 8 (.int .i64 r3.2.2)] a ∧ Sep w0 B w (blk g2 66 #[.slice A5 r3.1.length c5, .int .i64 r3.2.1] :: own 3 (.slice A5 r3.1.length c5) (vI r3.1) :: fs) ∧ ((gameroomlaw_DraughtsDoes_J3 r3)).bind some = some r) ?_ ?_
      · rintro a w ⟨hF, hS, hm⟩
        unfold gameroomlaw_DraughtsDoes_J3 at hm
        refine reg [⟨false, [((r3.2.2 == 8), true)], vS (Instr.loadAt 22 (.pointer (some ⟨g2, 0, none⟩))), .slice A5 r3.1.length c5⟩, ⟨false, [((r3.2.2 == 8) && ((r3.1.length : Int) == 0), true)], vS (Instr.loadAt 3 (.pointer (some ⟨g2, 1, none⟩))), .int .i64 r3.2.1⟩] [none, none, none, none, some (.slice A5 r3.1.length c5), none, none, none, none, none, some (.int .i64 r3.2.1), none, none, none] [6] [pl 6 (.bool (((r3.2.2 == 8) && ((r3.1.length : Int) == 0)) && (r3.2.1 == 0)))] hF hS Fol (by kernel_rfl) (by kernel_rfl) (by kernel_rfl) ?_ (fun a w hF hS => ?_)
        · exact obs_cons (ob_load Agg22 (fun _ _ hS => (hS.at_ 0 rfl).cell rfl)) <| obs_cons (ob_load Agg3 (fun _ _ hS => (hS.at_ 0 rfl).cell rfl)) <| obs_nil
        refine wpIn_ret ?_
        have hS := hS.pickN 2 [] (by decide)
        have hm : some (((r3.2.2 == 8) && ((r3.1.length : Int) == 0)) && (r3.2.1 == 0)) = some r := hm
        obtain rfl := Option.some.inj hm
        exact retV (rs := [.tmp 6]) (vs := [.bool (((r3.2.2 == 8) && ((r3.1.length : Int) == 0)) && (r3.2.1 == 0))]) hF rfl (rv_t (by kernel_rfl) <| rv_nil) rfl ⟨rfl, hS⟩
      · refine reg [] [] [1, 3, 7, 8, 11, 12] [pl 1 (.slice A2 way1.length c2), pl 3 (.pointer (some ⟨g1, 0, none⟩)), pl 7 (.pointer (some ⟨g2, 0, none⟩)), pl 8 (.int .i64 r3.2.2), pl 11 (.slice A7 r8.length c7), pl 12 (.int .i64 0)] hF hS Fol (by kernel_rfl) (by kernel_rfl) (by kernel_rfl) ?_ (fun a w hF hS => ?_)
        · exact obs_nil
        refine wpIn_block ?_
        have hS := hS.pickN 4 [1, 2, 3, 0] (by decide)
        refine wp_loop_model (S := Int) (R := (Fl Unit Bool)) (gameroomlaw_DraughtsDoes_L1 b1 b2 way1 r3 r8) (fun x => ((gameroomlaw_DraughtsDoes_K1 r3) x).bind some) r (fun (x : Int) a w => Fr 109 [pl 1 (.slice A2 way1.length c2), pl 3 (.pointer (some ⟨g1, 0, none⟩)), pl 7 (.pointer (some ⟨g2, 0, none⟩)), pl 8 (.int .i64 r3.2.2), pl 11 (.slice A7 r8.length c7), pl 12 (.int .i64 x)] a ∧ Sep w0 B w (blk g1 66 #[.slice A1 b1.length c1, .int .i64 b2] :: blk g2 66 #[.slice A5 r3.1.length c5, .int .i64 r3.2.1] :: own 3 (.slice A5 r3.1.length c5) (vI r3.1) :: pg1 :: fs)) (assoc_b hm) ⟨hF.weak [1, 3, 7, 8, 11, 12] (by kernel_rfl), hS⟩ ?_
        clear hF hS hm
        rintro nn1 i1 a w ⟨hF, hS⟩ hm
        generalize hφ1 : stK (gameroomlaw_DraughtsDoes_L1 b1 b2 way1 r3 r8) nn1 (fun x => ((gameroomlaw_DraughtsDoes_K1 r3) x).bind some) = φ1 at hm
        unfold gameroomlaw_DraughtsDoes_L1 at hm
        dsimp only at hm
        refine seq_cut (fun a w => Fr 109 [pl 1 (.slice A2 way1.length c2), pl 3 (.pointer (some ⟨g1, 0, none⟩)), pl 7 (.pointer (some ⟨g2, 0, none⟩)), pl 8 (.int .i64 r3.2.2), pl 11 (.slice A7 r8.length c7), pl 12 (.int .i64 i1)] a ∧ Sep w0 B w (blk g1 66 #[.slice A1 b1.length c1, .int .i64 b2] :: blk g2 66 #[.slice A5 r3.1.length c5, .int .i64 r3.2.1] :: own 3 (.slice A5 r3.1.length c5) (vI r3.1) :: pg1 :: fs) ∧ ((gameroomlaw_DraughtsDoes_J4 b1 b2 way1 r3 r8 i1)).bind φ1 = some r) ?_ ?_
        · rintro a w ⟨hF, hS, hm⟩
          unfold gameroomlaw_DraughtsDoes_J4 at hm
          refine seq_cut (fun a w => Fr 109 [pl 1 (.slice A2 way1.length c2), pl 3 (.pointer (some ⟨g1, 0, none⟩)), pl 7 (.pointer (some ⟨g2, 0, none⟩)), pl 8 (.int .i64 r3.2.2), pl 11 (.slice A7 r8.length c7), pl 12 (.int .i64 i1)] a ∧ Sep w0 B w (blk g1 66 #[.slice A1 b1.length c1, .int .i64 b2] :: blk g2 66 #[.slice A5 r3.1.length c5, .int .i64 r3.2.1] :: own 3 (.slice A5 r3.1.length c5) (vI r3.1) :: pg1 :: fs) ∧ ((gameroomlaw_DraughtsDoes_J5 i1)).bind φ1 = some r) ?_ ?_
          · rintro a w ⟨hF, hS, hm⟩
            unfold gameroomlaw_DraughtsDoes_J5 at hm
            refine reg1 [] [] [1, 3, 7, 8, 11, 12] [pl 1 (.slice A2 way1.length c2), pl 3 (.pointer (some ⟨g1, 0, none⟩)), pl 7 (.pointer (some ⟨g2, 0, none⟩)), pl 8 (.int .i64 r3.2.2), pl 11 (.slice A7 r8.length c7), pl 12 (.int .i64 (w64 (i1 + 1)))] hF hS Fol (by kernel_rfl) (by kernel_rfl) (by kernel_rfl) ?_ (fun a w hF hS => ?_)
            · exact obs_nil
            refine then_n ?_
            rw [← hφ1] at hm
            exact ⟨(w64 (i1 + 1)), ⟨hF.weak [1, 3, 7, 8, 11, 12] (by kernel_rfl), hS⟩, hm⟩
          · refine wpIn_block ?_
            obtain ⟨hp2, hm⟩ := asrt_b hm
            obtain ⟨r9, hr9, hm⟩ := call_b hm
            refine reg [⟨true, [], vS (Instr.indexAt 42 (.slice A7 r8.length c7) (.int .i64 i1)), .pointer (some (sAddr A7 i1))⟩, ⟨false, [], vS (Instr.loadAt 22 (.pointer (some (sAddr A7 i1)))), .slice (hdA hd1 i1) ((geti2 r8 i1).length) (hdC hd1 i1)⟩, ⟨false, [], callFunc 25 #[.slice (hdA hd1 i1) ((geti2 r8 i1).length) (hdC hd1 i1), .slice A2 way1.length c2], .bool r9⟩] [none, none, some (.pointer (some (sAddr A7 i1))), some (.slice (hdA hd1 i1) ((geti2 r8 i1).length) (hdC hd1 i1)), none, some (.bool r9)] [1, 3, 7, 8, 11, 12, 86] [pl 1 (.slice A2 way1.length c2), pl 3 (.pointer (some ⟨g1, 0, none⟩)), pl 7 (.pointer (some ⟨g2, 0, none⟩)), pl 8 (.int .i64 r3.2.2), pl 11 (.slice A7 r8.length c7), pl 12 (.int .i64 i1), pl 86 (.bool r9)] hF hS Fol (by kernel_rfl) (by kernel_rfl) (by kernel_rfl) ?_ (fun a w hF hS => ?_)
            · exact obs_cons (ob_ixRn Und42 hi22 hs22 (hp1.at_ hS 3 rfl) rfl (fun _ => hp2)) <| obs_cons (ob_getR Agg22 (fun _ hS => ⟨_, (hp1.at_ hS 3 rfl)⟩) (fun _ => hp2)) <| obs_cons (ob_call Try.func25 (by kernel_rfl) rfl (fun _ _ hS => gameroomlaw_sameInts_w hr9 hS (fun _ hS => ((hp1.at_ hS 3 rfl).row _ hp2).1) ((hp1.at_ hS 3 rfl).row _ hp2).2 rfl (fun _ hS => (hr_way1 _ (hS.dropN 4))) _hc_way1 rfl)) <| obs_nil
            refine cond_ev (t := 86) (b := r9) hF (by kernel_rfl) (fun hb => ?_) (fun hb => ?_)
            · replace hm := if_t hm hb
              refine seq_cut (fun a w => ∃ (z1 : Bool), Fr 109 [pl 6 (.bool z1)] a ∧ Sep w0 B w (fs) ∧ (gameroomlaw_DraughtsDoes_J6 z1).bind φ1 = some r) ?_ ?_
              · rintro a w ⟨z1, hF, hS, hm⟩
                unfold gameroomlaw_DraughtsDoes_J6 at hm
                refine wpIn_ret ?_
                refine block_r (then_r (then_r (block_r (then_r ?_))))
                rw [← hφ1] at hm
                replace hm := done_b hm
                unfold gameroomlaw_DraughtsDoes_K1 at hm
                try dsimp only at hm
                have hm : some z1 = some r := hm
                obtain rfl := Option.some.inj hm
                exact retV (rs := [.tmp 6]) (vs := [.bool z1]) hF rfl (rv_t (by kernel_rfl) <| rv_nil) rfl ⟨rfl, hS⟩
              · refine regMix5 [0, 1, 2, 3, 4, 5] [] 4 #[true, true, true, true, true, true, false, false, false, false] [⟨false, [((r3.2.2 == 0), true)], vS (Instr.loadAt 66 (.pointer (some ⟨g2, 0, none⟩))), .agg #[.slice A5 r3.1.length c5, .int .i64 r3.2.1]⟩, ⟨false, [((r3.2.2 == 0), true)], vS (Instr.loadAt 66 (.pointer (some ⟨g1, 0, none⟩))), .agg #[.slice A1 b1.length c1, .int .i64 b2]⟩] [none, none, none, some (.agg #[.slice A5 r3.1.length c5, .int .i64 r3.2.1]), some (.agg #[.slice A1 b1.length c1, .int .i64 b2]), none] [89, 90, 91, 92] [pl 89 (.bool (r3.2.2 == 0)), ⟨90, [(89, true)], .agg #[.slice A5 r3.1.length c5, .int .i64 r3.2.1]⟩, ⟨91, [(89, true)], .agg #[.slice A1 b1.length c1, .int .i64 b2]⟩, ⟨92, [(89, true)], .slice A2 way1.length c2⟩] hF hS Fol (by kernel_rfl) (by kernel_rfl) (by kernel_rfl) (by kernel_rfl) ?_ (fun a w hF hS => ?_)
                · exact obs_cons (ob_loadA (cs := #[.slice A5 r3.1.length c5, .int .i64 r3.2.1]) (by kernel_rfl) (by kernel_rfl) (fun _ _ hS => (hS.at_ 1 rfl).cellsAt 0 (by rfl))) <| obs_cons (ob_loadA (cs := #[.slice A1 b1.length c1, .int .i64 b2]) (by kernel_rfl) (by kernel_rfl) (fun _ _ hS => (hS.at_ 0 rfl).cellsAt 0 (by rfl))) <| obs_nil
                rcases Bool.eq_false_or_eq_true (r3.2.2 == 0) with hg1 | hg1
                · replace hm := if_t hm hg1
                  obtain ⟨r10, hr10, hm⟩ := call_b hm
                  obtain ⟨r11, hr11, hm⟩ := call_b hm
                  refine any_step [6] (by kernel_rfl) rfl ?_
                  refine (all_cons ?_ all_nil)
                  · refine any_op (listed' := #[true, true, true, true, true, true, true, false, false, false]) (by kernel_rfl) (by kernel_rfl) ?_
                    refine at_gcall (hs := [((r3.2.2 == 0), true)]) (fun y hy => by simp only [List.mem_cons, List.not_mem_nil, or_false] at hy; subst hy; first | exact hg1) (f := 52) (args := #[.agg #[.slice A1 b1.length c1, .int .i64 b2], .slice A2 way1.length c2]) (d := 93) hF (by kernel_rfl) (by kernel_rfl) Try.func52 (by kernel_rfl) rfl (gameroomref_DraughtsDo_w hr10 hS (fun _ hS => (hr_b1 _ (hS.dropN 4))) _hc_b1 rfl (fun _ hS => (hr_way1 _ (hS.dropN 4))) _hc_way1 rfl) (fun v a w hR hF => ?_)
                    clear hS
                    obtain ⟨A9, c9, rfl, hS⟩ := hR
                    have hS : Sep w0 B w (own 3 (.slice A9 r10.1.length c9) (vI r10.1) :: blk g1 66 #[.slice A1 b1.length c1, .int .i64 b2] :: blk g2 66 #[.slice A5 r3.1.length c5, .int .i64 r3.2.1] :: own 3 (.slice A5 r3.1.length c5) (vI r3.1) :: pg1 :: fs) := hS
                    refine any_fin rfl (hS.pickN 5 [1, 2, 3, 4] (by decide)) ?_
                    refine any_step [7] (by kernel_rfl) rfl ?_
                    refine (all_cons ?_ all_nil)
                    · refine any_op (listed' := #[true, true, true, true, true, true, true, true, false, false]) (by kernel_rfl) (by kernel_rfl) ?_
                      refine at_run 1 [⟨false, [((r3.2.2 == 0), true)], callFunc 43 #[.agg #[.slice A5 r3.1.length c5, .int .i64 r3.2.1], .agg #[.slice A9 r10.1.length c9, .int .i64 r10.2]], .bool r11⟩] [some (.bool r11)] [89, 94] [pl 89 (.bool (r3.2.2 == 0)), ⟨94, [(89, true)], .bool r11⟩] hF hS (by kernel_rfl) (by kernel_rfl) ?_ (fun a w hF hS => ?_)
                      · exact obs_cons (ob_call Try.func43 (by kernel_rfl) rfl (fun hy _ hS => gameroomref_SameDraughts_w (ite_some hr11 (by rw [show (r3.2.2 == 0) = true from hy ((r3.2.2 == 0), true) (by simp)]; try rfl)) hS (fun _ hS => (hS.at_ 3 rfl).rd) ((hS.at_ 3 rfl).cap1) rfl (fun _ hS => (hS.at_ 0 rfl).rd) ((hS.at_ 0 rfl).cap1) rfl)) <| obs_nil
                      refine any_fin rfl (hS.pickN 5 [1, 2, 3, 4] (by decide)) ?_
                      refine any_step [8] (by kernel_rfl) rfl ?_
                      refine (all_cons ?_ all_nil)
                      · refine any_op (listed' := #[true, true, true, true, true, true, true, true, true, false]) (by kernel_rfl) (by kernel_rfl) ?_
                        refine at_runW 1 [] [] [95] [pl 95 (.bool ((r3.2.2 == 0) && r11))] hF hS (by kernel_rfl) (by kernel_rfl) ?_ (fun a hF => ?_)
                        · exact obs_nil
                        refine any_finI rfl (fun h => h) ?_
                        refine any_step [9] (by kernel_rfl) rfl ?_
                        refine (all_cons ?_ all_nil)
                        · refine any_op (listed' := #[true, true, true, true, true, true, true, true, true, true]) (by kernel_rfl) (by kernel_rfl) ?_
                          refine at_runW 1 [] [] [6] [pl 6 (.bool ((r3.2.2 == 0) && r11))] hF hS (by kernel_rfl) (by kernel_rfl) ?_ (fun a hF => ?_)
                          · exact obs_nil
                          refine any_finI rfl (fun h => h) ?_
                          refine any_end (by kernel_rfl) ?_
                          refine np_n ?_
                          refine then_n ?_
                          have hS := hS.pickN 5 [] (by decide)
                          exact ⟨((r3.2.2 == 0) && r11), hF.weak [6] (by kernel_rfl), hS, hm⟩
                · replace hm := if_f hm hg1
                  refine any_rest [6, 7, 8, 9] [⟨false, [((r3.2.2 == 0), true)], callFunc 52 #[.agg #[.slice A1 b1.length c1, .int .i64 b2], .slice A2 way1.length c2], .agg #[.slice none 0 0, .int .i64 0]⟩, ⟨false, [((r3.2.2 == 0), true)], callFunc 43 #[.agg #[.slice A5 r3.1.length c5, .int .i64 r3.2.1], .agg #[.slice none 0 0, .int .i64 0]], .bool false⟩] [some (.agg #[.slice none 0 0, .int .i64 0]), some (.bool false), none, none] [6] [pl 6 (.bool ((r3.2.2 == 0) && false))] hF hS (by kernel_rfl) (by kernel_rfl) (by kernel_rfl) (by kernel_rfl) ?_ (fun a hF => ?_)
                  · exact obs_cons (Ob.vac (fun h => absurd (h ((r3.2.2 == 0), true) (by simp)) (by simp [hg1]))) <| obs_cons (Ob.vac (fun h => absurd (h ((r3.2.2 == 0), true) (by simp)) (by simp [hg1]))) <| obs_nil
                  refine np_n ?_
                  refine then_n ?_
                  have hS := hS.pickN 4 [] (by decide)
                  exact ⟨((r3.2.2 == 0) && false), hF.weak [6] (by kernel_rfl), hS, hm⟩
            · replace hm := if_f hm hb
              refine wpIn_skip ?_
              refine block_n ?_
              refine then_n ?_
              exact ⟨hF.weak [1, 3, 7, 8, 11, 12] (by kernel_rfl), hS, hm⟩
        · refine reg [] [] [1, 3, 7, 8, 11, 12, 78] [pl 1 (.slice A2 way1.length c2), pl 3 (.pointer (some ⟨g1, 0, none⟩)), pl 7 (.pointer (some ⟨g2, 0, none⟩)), pl 8 (.int .i64 r3.2.2), pl 11 (.slice A7 r8.length c7), pl 12 (.int .i64 i1), pl 78 (.bool (decide (i1 < (r8.length : Int))))] hF hS Fol (by kernel_rfl) (by kernel_rfl) (by kernel_rfl) ?_ (fun a w hF hS => ?_)
          · exact obs_nil
          refine cond_ev (t := 78) (b := decide (i1 < (r8.length : Int))) hF (by kernel_rfl) (fun hb => ?_) (fun hb => ?_)
          · replace hm := if_t hm hb
            refine wpIn_skip ?_
            refine then_n ?_
            exact ⟨hF.weak [1, 3, 7, 8, 11, 12] (by kernel_rfl), hS, hm⟩
          · replace hm := if_f hm hb
            refine wpIn_exit ?_
            refine then_e (then_e (block_e (then_n ?_)))
            have hS := hS.pickN 4 [1, 2] (by decide)
            rw [← hφ1] at hm
            replace hm := done_b hm
            unfold gameroomlaw_DraughtsDoes_K1 at hm
            try dsimp only at hm
            have hm : ((gameroomlaw_DraughtsDoes_J3 r3)).bind some = some r := hm
            exact ⟨hF.weak [7, 8] (by kernel_rfl), hS, hm⟩
    · refine reg [] [] [1, 2, 3, 7, 8, 9, 10, 57] [pl 1 (.slice A2 way1.length c2), pl 2 (.int .i64 plies1), pl 3 (.pointer (some ⟨g1, 0, none⟩)), pl 7 (.pointer (some ⟨g2, 0, none⟩)), pl 8 (.int .i64 r3.2.2), pl 9 (.int .i64 r5.1), pl 10 (.int .i64 r5.2), pl 57 (.bool ((decide (plies1 < 0)) || (decide ((6 : Int) < plies1))))] hF hS Fol (by kernel_rfl) (by kernel_rfl) (by kernel_rfl) ?_ (fun a w hF hS => ?_)
      · exact obs_nil
      refine cond_ev (t := 57) (b := (decide (plies1 < 0)) || (decide ((6 : Int) < plies1))) hF (by kernel_rfl) (fun hb => ?_) (fun hb => ?_)
      · replace hm := if_t hm hb
        refine reg [] [] [1, 3, 7, 8, 63] [pl 1 (.slice A2 way1.length c2), pl 3 (.pointer (some ⟨g1, 0, none⟩)), pl 7 (.pointer (some ⟨g2, 0, none⟩)), pl 8 (.int .i64 r3.2.2), pl 63 (.bool ((r5.2 != 3) || (r5.1 != 0)))] hF hS Fol (by kernel_rfl) (by kernel_rfl) (by kernel_rfl) ?_ (fun a w hF hS => ?_)
        · exact obs_nil
        refine cond_ev (t := 63) (b := (r5.2 != 3) || (r5.1 != 0)) hF (by kernel_rfl) (fun hb => ?_) (fun hb => ?_)
        · replace hm := if_t hm hb
          refine reg [] [] [6] [pl 6 (.bool false)] hF hS Fol (by kernel_rfl) (by kernel_rfl) (by kernel_rfl) ?_ (fun a w hF hS => ?_)
          · exact obs_nil
          refine wpIn_ret ?_
          refine then_r ?_
          have hS := hS.pickN 3 [] (by decide)
          have hm : some false = some r := hm
          obtain rfl := Option.some.inj hm
          exact retV (rs := [.tmp 6]) (vs := [.bool false]) hF rfl (rv_t (by kernel_rfl) <| rv_nil) rfl ⟨rfl, hS⟩
        · replace hm := if_f hm hb
          refine wpIn_skip ?_
          refine then_n ?_
          exact ⟨hF.weak [1, 3, 7, 8] (by kernel_rfl), hS, hm⟩
      · replace hm := if_f hm hb
        obtain ⟨r7, hr7, hm⟩ := call_b hm
        refine reg [⟨false, [((r5.2 != 0), false)], vS (Instr.loadAt 66 (.pointer (some ⟨g1, 0, none⟩))), .agg #[.slice A1 b1.length c1, .int .i64 b2]⟩, ⟨false, [((r5.2 != 0), false)], callFunc 51 #[.agg #[.slice A1 b1.length c1, .int .i64 b2], .int .i64 plies1], .int .i64 r7⟩] [none, none, none, none, some (.agg #[.slice A1 b1.length c1, .int .i64 b2]), none, some (.int .i64 r7), none, none] [1, 3, 7, 8, 72] [pl 1 (.slice A2 way1.length c2), pl 3 (.pointer (some ⟨g1, 0, none⟩)), pl 7 (.pointer (some ⟨g2, 0, none⟩)), pl 8 (.int .i64 r3.2.2), pl 72 (.bool ((r5.2 != 0) || (r5.1 != r7)))] hF hS Fol (by kernel_rfl) (by kernel_rfl) (by kernel_rfl) ?_ (fun a w hF hS => ?_)
        · exact obs_cons (ob_loadA (cs := #[.slice A1 b1.length c1, .int .i64 b2]) (by kernel_rfl) (by kernel_rfl) (fun _ _ hS => (hS.at_ 0 rfl).cellsAt 0 (by rfl))) <| obs_cons (ob_call Try.func51 (by kernel_rfl) rfl (fun hy _ hS => gameroomref_DraughtsCount_w (ite_some hr7 (by rw [show (r5.2 != 0) = false from hy ((r5.2 != 0), false) (by simp)]; try rfl)) hS (fun _ hS => (hr_b1 _ (hS.dropN 3))) _hc_b1 rfl)) <| obs_nil
        refine cond_ev (t := 72) (b := (r5.2 != 0) || (r5.1 != r7)) hF (by kernel_rfl) (fun hb => ?_) (fun hb => ?_)
        · replace hm := if_t hm hb
          refine reg [] [] [6] [pl 6 (.bool false)] hF hS Fol (by kernel_rfl) (by kernel_rfl) (by kernel_rfl) ?_ (fun a w hF hS => ?_)
          · exact obs_nil
          refine wpIn_ret ?_
          refine then_r ?_
          have hS := hS.pickN 3 [] (by decide)
          have hm : some false = some r := hm
          obtain rfl := Option.some.inj hm
          exact retV (rs := [.tmp 6]) (vs := [.bool false]) hF rfl (rv_t (by kernel_rfl) <| rv_nil) rfl ⟨rfl, hS⟩
        · replace hm := if_f hm hb
          refine wpIn_skip ?_
          refine then_n ?_
          exact ⟨hF.weak [1, 3, 7, 8] (by kernel_rfl), hS, hm⟩
  · obtain ⟨r6, hr6, hm⟩ := call_b hm
    refine reg [⟨false, [], vS (Instr.loadAt 66 (.pointer (some ⟨g1, 0, none⟩))), .agg #[.slice A1 b1.length c1, .int .i64 b2]⟩, ⟨false, [], callFunc 46 #[.agg #[.slice A1 b1.length c1, .int .i64 b2]], .bool r6⟩] [some (.agg #[.slice A1 b1.length c1, .int .i64 b2]), some (.bool r6), none] [1, 2, 3, 7, 8, 9, 10, 30] [pl 1 (.slice A2 way1.length c2), pl 2 (.int .i64 plies1), pl 3 (.pointer (some ⟨g1, 0, none⟩)), pl 7 (.pointer (some ⟨g2, 0, none⟩)), pl 8 (.int .i64 r3.2.2), pl 9 (.int .i64 r5.1), pl 10 (.int .i64 r5.2), pl 30 (.bool (!r6))] hF hS Fol (by kernel_rfl) (by kernel_rfl) (by kernel_rfl) ?_ (fun a w hF hS => ?_)
    · exact obs_cons (ob_loadA (cs := #[.slice A1 b1.length c1, .int .i64 b2]) (by kernel_rfl) (by kernel_rfl) (fun _ _ hS => (hS.at_ 5 rfl).cellsAt 0 (by rfl))) <| obs_cons (ob_call Try.func46 (by kernel_rfl) rfl (fun _ _ hS => gameroomref_DraughtsMay_w hr6 hS (fun _ hS => (hr_b1 _ (hS.dropN 6))) _hc_b1 rfl)) <| obs_nil
    refine cond_ev (t := 30) (b := !r6) hF (by kernel_rfl) (fun hb => ?_) (fun hb => ?_)
    · replace hm := if_t hm hb
      refine reg [⟨false, [(((r3.2.2 == 12) && (r5.2 == 12)) && (r5.1 == 0), true)], vS (Instr.loadAt 22 (.pointer (some ⟨g2, 0, none⟩))), .slice A5 r3.1.length c5⟩, ⟨false, [((((r3.2.2 == 12) && (r5.2 == 12)) && (r5.1 == 0)) && ((r3.1.length : Int) == 0), true)], vS (Instr.loadAt 3 (.pointer (some ⟨g2, 1, none⟩))), .int .i64 r3.2.1⟩] [none, none, none, none, none, none, none, none, none, none, none, none, some (.slice A5 r3.1.length c5), none, none, none, none, none, some (.int .i64 r3.2.1), none, none, none] [6] [pl 6 (.bool (((((r3.2.2 == 12) && (r5.2 == 12)) && (r5.1 == 0)) && ((r3.1.length : Int) == 0)) && (r3.2.1 == 0)))] hF hS Fol (by kernel_rfl) (by kernel_rfl) (by kernel_rfl) ?_ (fun a w hF hS => ?_)
      · exact obs_cons (ob_load Agg22 (fun _ _ hS => (hS.at_ 1 rfl).cell rfl)) <| obs_cons (ob_load Agg3 (fun _ _ hS => (hS.at_ 1 rfl).cell rfl)) <| obs_nil
      refine wpIn_ret ?_
      refine then_r ?_
      have hS := hS.pickN 6 [] (by decide)
      have hm : some (((((r3.2.2 == 12) && (r5.2 == 12)) && (r5.1 == 0)) && ((r3.1.length : Int) == 0)) && (r3.2.1 == 0)) = some r := hm
      obtain rfl := Option.some.inj hm
      exact retV (rs := [.tmp 6]) (vs := [.bool (((((r3.2.2 == 12) && (r5.2 == 12)) && (r5.1 == 0)) && ((r3.1.length : Int) == 0)) && (r3.2.1 == 0))]) hF rfl (rv_t (by kernel_rfl) <| rv_nil) rfl ⟨rfl, hS⟩
    · replace hm := if_f hm hb
      refine wpIn_skip ?_
      refine then_n ?_
      have hS := hS.pickN 6 [5, 1, 2] (by decide)
      exact ⟨hF.weak [1, 2, 3, 7, 8, 9, 10] (by kernel_rfl), hS, hm⟩

end Go.Proofs.Ytoickcchcjehdaa
