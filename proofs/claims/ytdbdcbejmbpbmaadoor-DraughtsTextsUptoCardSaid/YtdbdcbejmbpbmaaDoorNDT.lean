/-
  Models and walks, printed by our own program (wip/gen).
-/
import Derived.Test.YtdbdcbejmbpbmaaDoorFB
import Derived.Test.YtdbdcbejmbpbmaaDoorLibIt
import Derived.Test.YtdbdcbejmbpbmaaDoorSX
import Derived.Test.YtdbdcbejmbpbmaaDoorLibTr
import Derived.Test.YtdbdcbejmbpbmaaDoorSX
import Derived.Test.YtdbdcbejmbpbmaaDoorLibRp
import Derived.Test.YtdbdcbejmbpbmaaDoorLibJo
import Derived.Test.YtdbdcbejmbpbmaaDoorSY
import Derived.Test.YtdbdcbejmbpbmaaDoorLibSu
import Derived.Test.YtdbdcbejmbpbmaaDoorLibRF
import Derived.Test.YtdbdcbejmbpbmaaDoorLibSt
namespace Go.Proofs.YtdbdcbejmbpbmaaDoor
open Go Go.GL Go.RowKit


noncomputable def gameroomlaw_ints_m  (l1 : List Int) : Option (List Int) :=
  asrt ((0 : Int) + (l1.length : Int) ≤ bigN) <| some ([] ++ l1)

set_option maxRecDepth 100000 in
set_option maxHeartbeats 4000000 in
theorem gameroomlaw_ints_w  {A1 : Option Addr} {c1 : Nat} {n1 : Nat} {l1 : List Int} {r : (List Int)} {w0 w : World} {B : Nat} {fs : List HP} (hm : gameroomlaw_ints_m l1 = some r) (hS : Sep w0 B w (fs)) (hr_l1 : RdF w0 B fs A1 (vI l1)) (_hc_l1 : l1.length ≤ c1) (_hn_l1 : n1 = l1.length) :
    Calls Tryd.prog 11 #[.slice A1 n1 c1] w fun e w' => ∃ v, e = .returned v ∧ ∃ (A3 : Option Addr) (c3 : Nat), v = .slice A3 r.length c3 ∧ Sep w0 B w' (own 3 (.slice A3 r.length c3) (vI r) :: fs) := by
  obtain ⟨i3, hi3, hz3, hs3, hb3⟩ := info_parts Info3
  obtain rfl := _hn_l1
  unfold gameroomlaw_ints_m at hm
  replace hm := start_b hm
  refine enter (l := [.slice A1 l1.length c1]) (n := 5) Tryd.func11 rfl rfl (by simp) (fun a hF => ?_)
  refine reg [] [] [0] [pl 0 (.slice A1 l1.length c1)] hF hS Fol (by kernel_rfl) (by kernel_rfl) (by kernel_rfl) ?_ (fun a w hF hS => ?_)
  · exact obs_nil
  refine seqR ?_
  obtain ⟨hp1, hm⟩ := asrt_b hm
  refine at_run 1 [] [] [3] [pl 3 (.slice A1 l1.length c1)] hF hS (by kernel_rfl) (by kernel_rfl) ?_ (fun a w hF hS => ?_)
  · exact obs_nil
  have hS : Sep w0 B w (own 3 (.slice none 0 0) (vI ([] : List Int)) :: fs) := hS.nil 3
  obtain ⟨A2, c2, w, hrun, hS⟩ := run_app1 (P := Tryd.prog) (t := 22) (m := ([] : List Int)) (ys := l1) (A2 := A1) (m2 := l1.length) (c2 := c1) (Value.int .i64) (0 : Int) (hS.at_ 0 rfl) (hr_l1 _ (hS.dropN 1)) rfl 22 Und22 hi3 hz3 hs3 (by omega) rfl (fun _ => rfl) hp1
  have hS : Sep w0 B w (own 3 (.slice A2 (([] ++ l1).length) c2) (vI ([] ++ l1)) :: fs) := hS
  refine at_do (d := 4) hF (by kernel_rfl) (by kernel_rfl) hrun (fun a hF => ?_)
  refine at_run 1 [] [] [2] [pl 2 (.slice A2 (([] ++ l1).length) c2)] hF hS (by kernel_rfl) (by kernel_rfl) ?_ (fun a w hF hS => ?_)
  · exact obs_nil
  refine at_end [2] [pl 2 (.slice A2 (([] ++ l1).length) c2)] hF rfl (by kernel_rfl) (fun hF => ?_)
  refine then_n ?_
  refine wpIn_ret ?_
  have hm : some ([] ++ l1) = some r := hm
  obtain rfl := Option.some.inj hm
  exact retV (rs := [.tmp 2]) (vs := [.slice A2 (([] ++ l1).length) c2]) hF rfl (rv_t (by kernel_rfl) <| rv_nil) rfl ⟨_, rfl, A2, c2, rfl, hS⟩

noncomputable def draughts_strange_m  (p1 : Int) : Option Bool :=
  some ((decide (p1 < 1)) || (decide ((32 : Int) < p1)))

set_option maxRecDepth 100000 in
set_option maxHeartbeats 4000000 in
theorem draughts_strange_w  {p1 : Int} {r : Bool} {w0 w : World} {B : Nat} {fs : List HP} (hm : draughts_strange_m p1 = some r) (hS : Sep w0 B w (fs)) :
    Calls Tryd.prog 97 #[.int .i64 p1] w fun e w' => e = .returned (.bool r) ∧ Sep w0 B w' (fs) := by
  unfold draughts_strange_m at hm
  replace hm := start_b hm
  refine enter (l := [.int .i64 p1]) (n := 9) Tryd.func97 rfl rfl (by simp) (fun a hF => ?_)
  refine reg [] [] [0] [pl 0 (.int .i64 p1)] hF hS Fol (by kernel_rfl) (by kernel_rfl) (by kernel_rfl) ?_ (fun a w hF hS => ?_)
  · exact obs_nil
  refine reg [] [] [2] [pl 2 (.bool ((decide (p1 < 1)) || (decide ((32 : Int) < p1))))] hF hS Fol (by kernel_rfl) (by kernel_rfl) (by kernel_rfl) ?_ (fun a w hF hS => ?_)
  · exact obs_nil
  refine wpIn_ret ?_
  have hm : some ((decide (p1 < 1)) || (decide ((32 : Int) < p1))) = some r := hm
  obtain rfl := Option.some.inj hm
  exact retV (rs := [.tmp 2]) (vs := [.bool ((decide (p1 < 1)) || (decide ((32 : Int) < p1)))]) hF rfl (rv_t (by kernel_rfl) <| rv_nil) rfl ⟨rfl, hS⟩

noncomputable def slices_IndexFunc_J3  (z1 : Int) : Option (St Int (Fl Unit Int)) :=
  some (.next (w64 (z1 + 1)))

noncomputable def slices_IndexFunc_J2  (s1 : List Int) (z1 : Int) : Option (St Int (Fl Unit Int)) :=
  asrt (0 ≤ z1 ∧ z1 < (s1.length : Int)) <| (draughts_strange_m (geti s1 z1)).bind fun r1 => if r1 then (some (.done (.ret z1))) else ((slices_IndexFunc_J3 z1))

noncomputable def slices_IndexFunc_J1  : Option Int :=
  some (-1)

noncomputable def slices_IndexFunc_K1  : (Fl Unit Int) → Option Int :=
  fun (x : (Fl Unit Int)) => match x with | .go _ => slices_IndexFunc_J1 | .ret x => some x

noncomputable def slices_IndexFunc_L1  (s1 : List Int) : Int → Option (St Int (Fl Unit Int)) :=
  fun (x : Int) => match x with | z1 => if (decide (z1 < (s1.length : Int))) then ((slices_IndexFunc_J2 s1 z1)) else (some (.done (.go ())))

noncomputable def slices_IndexFunc_m  (s1 : List Int) : Option Int :=
  (loop (slices_IndexFunc_L1 s1) 0).bind slices_IndexFunc_K1

set_option maxRecDepth 100000 in
set_option maxHeartbeats 4000000 in
theorem slices_IndexFunc_w  {A1 : Option Addr} {c1 : Nat} {n1 : Nat} {s1 : List Int} {r : Int} {w0 w : World} {B : Nat} {fs : List HP} (hm : slices_IndexFunc_m s1 = some r) (hS : Sep w0 B w (fs)) (hr_s1 : RdF w0 B fs A1 (vI s1)) (_hc_s1 : s1.length ≤ c1) (_hn_s1 : n1 = s1.length) :
    Calls Tryd.prog 122 #[.slice A1 n1 c1, .func (.func 97) #[] #[]] w fun e w' => e = .returned (.int .i64 r) ∧ Sep w0 B w' (fs) := by
  obtain ⟨i3, hi3, hz3, hs3, hb3⟩ := info_parts Info3
  obtain rfl := _hn_s1
  unfold slices_IndexFunc_m at hm
  replace hm := start_b hm
  refine enter (l := [.slice A1 s1.length c1, .func (.func 97) #[] #[]]) (n := 19) Tryd.func122 rfl rfl (by simp) (fun a hF => ?_)
  refine reg [] [] [0, 1] [pl 0 (.slice A1 s1.length c1), pl 1 (.func (.func 97) #[] #[])] hF hS Fol (by kernel_rfl) (by kernel_rfl) (by kernel_rfl) ?_ (fun a w hF hS => ?_)
  · exact obs_nil
  refine seq_cut (fun a w => Fr 19 [] a ∧ Sep w0 B w (fs) ∧ (slices_IndexFunc_J1).bind some = some r) ?_ ?_
  · rintro a w ⟨hF, hS, hm⟩
    unfold slices_IndexFunc_J1 at hm
    refine reg [] [] [4] [pl 4 (.int .i64 (-1))] hF hS Fol (by kernel_rfl) (by kernel_rfl) (by kernel_rfl) ?_ (fun a w hF hS => ?_)
    · exact obs_nil
    refine wpIn_ret ?_
    have hm : some (-1) = some r := hm
    obtain rfl := Option.some.inj hm
    exact retV (rs := [.tmp 4]) (vs := [.int .i64 (-1)]) hF rfl (rv_t (by kernel_rfl) <| rv_nil) rfl ⟨rfl, hS⟩
  · refine reg [] [] [0, 1, 7, 8] [pl 0 (.slice A1 s1.length c1), pl 1 (.func (.func 97) #[] #[]), pl 7 (.int .i64 (s1.length : Int)), pl 8 (.int .i64 0)] hF hS Fol (by kernel_rfl) (by kernel_rfl) (by kernel_rfl) ?_ (fun a w hF hS => ?_)
    · exact obs_nil
    refine wpIn_block ?_
    refine wp_loop_model (S := Int) (R := (Fl Unit Int)) (slices_IndexFunc_L1 s1) (fun x => (slices_IndexFunc_K1 x).bind some) r (fun (x : Int) a w => Fr 19 [pl 0 (.slice A1 s1.length c1), pl 1 (.func (.func 97) #[] #[]), pl 7 (.int .i64 (s1.length : Int)), pl 8 (.int .i64 x)] a ∧ Sep w0 B w (fs)) (assoc_b hm) ⟨hF.weak [0, 1, 7, 8] (by kernel_rfl), hS⟩ ?_
    clear hF hS hm
    rintro nn1 z1 a w ⟨hF, hS⟩ hm
    generalize hφ1 : stK (slices_IndexFunc_L1 s1) nn1 (fun x => (slices_IndexFunc_K1 x).bind some) = φ1 at hm
    unfold slices_IndexFunc_L1 at hm
    dsimp only at hm
    refine reg [] [] [0, 1, 7, 8, 9] [pl 0 (.slice A1 s1.length c1), pl 1 (.func (.func 97) #[] #[]), pl 7 (.int .i64 (s1.length : Int)), pl 8 (.int .i64 z1), pl 9 (.bool (decide (z1 < (s1.length : Int))))] hF hS Fol (by kernel_rfl) (by kernel_rfl) (by kernel_rfl) ?_ (fun a w hF hS => ?_)
    · exact obs_nil
    refine seq_cut (fun a w => Fr 19 [pl 0 (.slice A1 s1.length c1), pl 1 (.func (.func 97) #[] #[]), pl 7 (.int .i64 (s1.length : Int)), pl 8 (.int .i64 z1)] a ∧ Sep w0 B w (fs) ∧ ((slices_IndexFunc_J2 s1 z1)).bind φ1 = some r) ?_ ?_
    · rintro a w ⟨hF, hS, hm⟩
      unfold slices_IndexFunc_J2 at hm
      refine seq_cut (fun a w => Fr 19 [pl 0 (.slice A1 s1.length c1), pl 1 (.func (.func 97) #[] #[]), pl 7 (.int .i64 (s1.length : Int)), pl 8 (.int .i64 z1)] a ∧ Sep w0 B w (fs) ∧ ((slices_IndexFunc_J3 z1)).bind φ1 = some r) ?_ ?_
      · rintro a w ⟨hF, hS, hm⟩
        unfold slices_IndexFunc_J3 at hm
        refine reg1 [] [] [0, 1, 7, 8] [pl 0 (.slice A1 s1.length c1), pl 1 (.func (.func 97) #[] #[]), pl 7 (.int .i64 (s1.length : Int)), pl 8 (.int .i64 (w64 (z1 + 1)))] hF hS Fol (by kernel_rfl) (by kernel_rfl) (by kernel_rfl) ?_ (fun a w hF hS => ?_)
        · exact obs_nil
        refine then_n ?_
        rw [← hφ1] at hm
        exact ⟨(w64 (z1 + 1)), ⟨hF.weak [0, 1, 7, 8] (by kernel_rfl), hS⟩, hm⟩
      · refine wpIn_block ?_
        refine reg [] [] [0, 1, 5, 7, 8] [pl 0 (.slice A1 s1.length c1), pl 1 (.func (.func 97) #[] #[]), pl 5 (.int .i64 z1), pl 7 (.int .i64 (s1.length : Int)), pl 8 (.int .i64 z1)] hF hS Fol (by kernel_rfl) (by kernel_rfl) (by kernel_rfl) ?_ (fun a w hF hS => ?_)
        · exact obs_nil
        obtain ⟨hp1, hm⟩ := asrt_b hm
        obtain ⟨r1, hr1, hm⟩ := call_b hm
        refine reg [⟨true, [], vS (Instr.indexAt 22 (.slice A1 s1.length c1) (.int .i64 z1)), .pointer (some (sAddr A1 z1))⟩, ⟨false, [], vS (Instr.loadAt 3 (.pointer (some (sAddr A1 z1)))), .int .i64 (geti s1 z1)⟩, ⟨false, [], callFunc 97 #[.int .i64 (geti s1 z1)], .bool r1⟩] [none, none, none, some (.pointer (some (sAddr A1 z1))), some (.int .i64 (geti s1 z1)), some (.bool r1)] [0, 1, 5, 7, 8, 16] [pl 0 (.slice A1 s1.length c1), pl 1 (.func (.func 97) #[] #[]), pl 5 (.int .i64 z1), pl 7 (.int .i64 (s1.length : Int)), pl 8 (.int .i64 z1), pl 16 (.bool r1)] hF hS Fol (by kernel_rfl) (by kernel_rfl) (by kernel_rfl) ?_ (fun a w hF hS => ?_)
        · exact obs_cons (ob_ix1 (f := (Value.int .i64)) (m := s1) Und22 hi3 hs3 (hr_s1 _ (hS.dropN 0)) rfl (fun _ => hp1)) <| obs_cons (ob_get1 (n := s1.length) (m := s1) (Value.int .i64) (0 : Int) Agg3 (fun _ hS => ⟨_, (hr_s1 _ (hS.dropN 0))⟩) (fun _ hS => rfl) (fun _ => hp1)) <| obs_cons (ob_call Tryd.func97 (by kernel_rfl) rfl (fun _ _ hS => draughts_strange_w hr1 hS )) <| obs_nil
        refine cond_ev (t := 16) (b := r1) hF (by kernel_rfl) (fun hb => ?_) (fun hb => ?_)
        · replace hm := if_t hm hb
          refine reg [] [] [4] [pl 4 (.int .i64 z1)] hF hS Fol (by kernel_rfl) (by kernel_rfl) (by kernel_rfl) ?_ (fun a w hF hS => ?_)
          · exact obs_nil
          refine wpIn_ret ?_
          refine block_r (then_r (then_r (block_r (then_r ?_))))
          rw [← hφ1] at hm
          replace hm := done_b hm
          unfold slices_IndexFunc_K1 at hm
          try dsimp only at hm
          have hm : some z1 = some r := hm
          obtain rfl := Option.some.inj hm
          exact retV (rs := [.tmp 4]) (vs := [.int .i64 z1]) hF rfl (rv_t (by kernel_rfl) <| rv_nil) rfl ⟨rfl, hS⟩
        · replace hm := if_f hm hb
          refine wpIn_skip ?_
          refine block_n ?_
          refine then_n ?_
          exact ⟨hF.weak [0, 1, 7, 8] (by kernel_rfl), hS, hm⟩
    · refine cond_ev (t := 9) (b := decide (z1 < (s1.length : Int))) hF (by kernel_rfl) (fun hb => ?_) (fun hb => ?_)
      · replace hm := if_t hm hb
        refine wpIn_skip ?_
        refine then_n ?_
        exact ⟨hF.weak [0, 1, 7, 8] (by kernel_rfl), hS, hm⟩
      · replace hm := if_f hm hb
        refine wpIn_exit ?_
        refine then_e (then_e (block_e (then_n ?_)))
        rw [← hφ1] at hm
        replace hm := done_b hm
        unfold slices_IndexFunc_K1 at hm
        try dsimp only at hm
        have hm : (slices_IndexFunc_J1).bind some = some r := hm
        exact ⟨hF.weak [] (by kernel_rfl), hS, hm⟩

noncomputable def slices_ContainsFunc_m  (s1 : List Int) : Option Bool :=
  (slices_IndexFunc_m s1).bind fun r1 => some (decide ((0 : Int) ≤ r1))

set_option maxRecDepth 100000 in
set_option maxHeartbeats 4000000 in
theorem slices_ContainsFunc_w  {A1 : Option Addr} {c1 : Nat} {n1 : Nat} {s1 : List Int} {r : Bool} {w0 w : World} {B : Nat} {fs : List HP} (hm : slices_ContainsFunc_m s1 = some r) (hS : Sep w0 B w (fs)) (hr_s1 : RdF w0 B fs A1 (vI s1)) (_hc_s1 : s1.length ≤ c1) (_hn_s1 : n1 = s1.length) :
    Calls Tryd.prog 78 #[.slice A1 n1 c1, .func (.func 97) #[] #[]] w fun e w' => e = .returned (.bool r) ∧ Sep w0 B w' (fs) := by
  obtain ⟨i3, hi3, hz3, hs3, hb3⟩ := info_parts Info3
  obtain rfl := _hn_s1
  unfold slices_ContainsFunc_m at hm
  replace hm := start_b hm
  refine enter (l := [.slice A1 s1.length c1, .func (.func 97) #[] #[]]) (n := 9) Tryd.func78 rfl rfl (by simp) (fun a hF => ?_)
  refine reg [] [] [0, 1] [pl 0 (.slice A1 s1.length c1), pl 1 (.func (.func 97) #[] #[])] hF hS Fol (by kernel_rfl) (by kernel_rfl) (by kernel_rfl) ?_ (fun a w hF hS => ?_)
  · exact obs_nil
  obtain ⟨r1, hr1, hm⟩ := call_b hm
  refine reg [⟨false, [], callFunc 122 #[.slice A1 s1.length c1, .func (.func 97) #[] #[]], .int .i64 r1⟩] [none, none, some (.int .i64 r1), none, none] [4] [pl 4 (.bool (decide ((0 : Int) ≤ r1)))] hF hS Fol (by kernel_rfl) (by kernel_rfl) (by kernel_rfl) ?_ (fun a w hF hS => ?_)
  · exact obs_cons (ob_call Tryd.func122 (by kernel_rfl) rfl (fun _ _ hS => slices_IndexFunc_w hr1 hS (fun _ hS => (hr_s1 _ (hS.dropN 0))) _hc_s1 rfl)) <| obs_nil
  refine wpIn_ret ?_
  have hm : some (decide ((0 : Int) ≤ r1)) = some r := hm
  obtain rfl := Option.some.inj hm
  exact retV (rs := [.tmp 4]) (vs := [.bool (decide ((0 : Int) ≤ r1))]) hF rfl (rv_t (by kernel_rfl) <| rv_nil) rfl ⟨rfl, hS⟩

noncomputable def strconv_Itoa_m (i1 : Int) : Option (List UInt8) :=
  asrt (-9223372036854775808 ≤ i1 ∧ i1 ≤ 9223372036854775807) <| some (itoaL i1)

theorem strconv_Itoa_w {i1 : Int} {r : (List UInt8)} {w0 w : World} {B : Nat} {fs : List HP} [PowG Tryd.prog w0 B] (hm : strconv_Itoa_m i1 = some r) (hS : Sep w0 B w (fs)) :
    Calls Tryd.prog 55 #[.int .i64 i1] w fun e w' => e = .returned (strV r) ∧ Sep w0 B w' (fs) := by
  unfold strconv_Itoa_m at hm
  obtain ⟨hb, hm⟩ := asrt_b (start_b hm)
  obtain rfl := Option.some.inj hm
  exact itoa_own ItoaL hS hb

noncomputable def strings_Join_m (elems1 : List (List UInt8)) (sep1 : List UInt8) : Option (List UInt8) :=
  asrt ((elems1.length : Int) ≤ 4194304 ∧ ((joinM elems1 sep1).length : Int) ≤ 4194304) <| some (joinM elems1 sep1)

theorem strings_Join_w {A1 : Option Addr} {c1 : Nat} {n1 : Nat} {elems1 : List (List UInt8)} {sep1 : List UInt8} {r : (List UInt8)} {w0 w : World} {B : Nat} {fs : List HP} (hm : strings_Join_m elems1 sep1 = some r) (hS : Sep w0 B w (fs)) (hr_elems1 : RdF w0 B fs A1 ((List.map strV elems1))) (_hc_elems1 : elems1.length ≤ c1) (_hn_elems1 : n1 = elems1.length) :
    Calls Tryd.prog 98 #[.slice A1 n1 c1, strV sep1] w fun e w' => e = .returned (strV r) ∧ Sep w0 B w' (fs) := by
  unfold strings_Join_m at hm
  obtain ⟨hb, hm⟩ := asrt_b (start_b hm)
  obtain rfl := Option.some.inj hm
  exact join_own JoinL JoinX hS hr_elems1 _hc_elems1 _hn_elems1 hb

noncomputable def draughts_Text_J4  (z1 : Int) (l3 : List (List UInt8)) : Option (St (List (List UInt8) × Int) (List (List UInt8))) :=
  some (.next (l3, (w64 (z1 + 1))))

noncomputable def draughts_Text_J3  (way1 : List Int) (l1 : List (List UInt8)) (z1 : Int) : Option (St (List (List UInt8) × Int) (List (List UInt8))) :=
  asrt (0 ≤ z1 ∧ z1 < (way1.length : Int)) <| (strconv_Itoa_m (geti way1 z1)).bind fun r2 => asrt ((l1.length : Int) + 1 ≤ bigP) <| (draughts_Text_J4 z1) (l1 ++ ([r2] : List (List UInt8)))

noncomputable def draughts_Text_J5  (l2 : List (List UInt8)) : Option (List UInt8 × Int) :=
  (strings_Join_m l2 ([45] : List UInt8)).bind fun r4 => some (r4, 0)

noncomputable def draughts_Text_J2  (jump1 : Bool) (l2 : List (List UInt8)) : Option (List UInt8 × Int) :=
  if jump1 then ((strings_Join_m l2 ([120] : List UInt8)).bind fun r3 => some (r3, 0)) else ((draughts_Text_J5 l2))

noncomputable def draughts_Text_K1  (jump1 : Bool) : (List (List UInt8)) → Option (List UInt8 × Int) :=
  fun (x : (List (List UInt8))) => match x with | l2 => (draughts_Text_J2 jump1) l2

noncomputable def draughts_Text_L1  (way1 : List Int) : (List (List UInt8) × Int) → Option (St (List (List UInt8) × Int) (List (List UInt8))) :=
  fun (x : (List (List UInt8) × Int)) => match x with | (l1, z1) => if (decide (z1 < (way1.length : Int))) then ((draughts_Text_J3 way1 l1 z1)) else (some (.done l1))

noncomputable def draughts_Text_J1  (way1 : List Int) (jump1 : Bool) : Option (List UInt8 × Int) :=
  (loop (draughts_Text_L1 way1) (([] : List (List UInt8)), 0)).bind (draughts_Text_K1 jump1)

noncomputable def draughts_Text_m  (way1 : List Int) (jump1 : Bool) : Option (List UInt8 × Int) :=
  if (decide ((way1.length : Int) < 2)) then (some (([] : List UInt8), 1)) else ((slices_ContainsFunc_m way1).bind fun r1 => if r1 then (some (([] : List UInt8), 3)) else ((draughts_Text_J1 way1 jump1)))

set_option maxRecDepth 100000 in
set_option maxHeartbeats 4000000 in
theorem draughts_Text_w  {A1 : Option Addr} {c1 : Nat} {n1 : Nat} {way1 : List Int} {jump1 : Bool} {r : (List UInt8 × Int)} {w0 w : World} {B : Nat} {fs : List HP} [PowG Tryd.prog w0 B] (hm : draughts_Text_m way1 jump1 = some r) (hS : Sep w0 B w (fs)) (hr_way1 : RdF w0 B fs A1 (vI way1)) (_hc_way1 : way1.length ≤ c1) (_hn_way1 : n1 = way1.length) :
    Calls Tryd.prog 45 #[.slice A1 n1 c1, .bool jump1] w fun e w' => e = .returned (.tuple #[strV r.1, .int .i64 r.2]) ∧ Sep w0 B w' (fs) := by
  obtain ⟨i3, hi3, hz3, hs3, hb3⟩ := info_parts Info3
  obtain ⟨i9, hi9, hz9, hs9, hb9⟩ := info_parts Info9
  obtain rfl := _hn_way1
  unfold draughts_Text_m at hm
  replace hm := start_b hm
  refine enter (l := [.slice A1 way1.length c1, .bool jump1]) (n := 33) Tryd.func45 rfl rfl (by simp) (fun a hF => ?_)
  refine reg [] [] [0, 1] [pl 0 (.slice A1 way1.length c1), pl 1 (.bool jump1)] hF hS Fol (by kernel_rfl) (by kernel_rfl) (by kernel_rfl) ?_ (fun a w hF hS => ?_)
  · exact obs_nil
  refine seq_cut (fun a w => Fr 33 [pl 0 (.slice A1 way1.length c1), pl 1 (.bool jump1)] a ∧ Sep w0 B w (fs) ∧ ((draughts_Text_J1 way1 jump1)).bind some = some r) ?_ ?_
  · rintro a w ⟨hF, hS, hm⟩
    unfold draughts_Text_J1 at hm
    refine reg [] [] [0, 1, 6] [pl 0 (.slice A1 way1.length c1), pl 1 (.bool jump1), pl 6 (.slice none 0 0)] hF hS Fol (by kernel_rfl) (by kernel_rfl) (by kernel_rfl) ?_ (fun a w hF hS => ?_)
    · exact obs_nil
    refine seq_cut (fun a w => ∃ (l2 : List (List UInt8)) (A3 : Option Addr) (c3 : Nat), Fr 33 [pl 1 (.bool jump1), pl 6 (.slice A3 l2.length c3)] a ∧ Sep w0 B w (own 9 (.slice A3 l2.length c3) ((List.map strV l2)) :: fs) ∧ ((draughts_Text_J2 jump1) l2).bind some = some r) ?_ ?_
    · rintro a w ⟨l2, A3, c3, hF, hS, hm⟩
      unfold draughts_Text_J2 at hm
      refine seq_cut (fun a w => Fr 33 [pl 6 (.slice A3 l2.length c3)] a ∧ Sep w0 B w (own 9 (.slice A3 l2.length c3) ((List.map strV l2)) :: fs) ∧ ((draughts_Text_J5 l2)).bind some = some r) ?_ ?_
      · rintro a w ⟨hF, hS, hm⟩
        unfold draughts_Text_J5 at hm
        obtain ⟨r4, hr4, hm⟩ := call_b hm
        refine reg [⟨false, [], callFunc 98 #[.slice A3 l2.length c3, strV ([45] : List UInt8)], strV r4⟩] [none, some (strV r4), none, none] [4, 5] [pl 4 (strV r4), pl 5 (.int .i64 0)] hF hS Fol (by kernel_rfl) (by kernel_rfl) (by kernel_rfl) ?_ (fun a w hF hS => ?_)
        · exact obs_cons (ob_call Tryd.func98 (by kernel_rfl) rfl (fun _ _ hS => strings_Join_w hr4 hS (fun _ hS => (hS.at_ 0 rfl).rd) ((hS.at_ 0 rfl).cap1) rfl)) <| obs_nil
        refine wpIn_ret ?_
        have hS := hS.pickN 1 [] (by decide)
        have hm : some (r4, 0) = some r := hm
        obtain rfl := Option.some.inj hm
        exact retV (rs := [.tmp 4, .tmp 5]) (vs := [strV r4, .int .i64 0]) hF rfl (rv_t (by kernel_rfl) <| rv_t (by kernel_rfl) <| rv_nil) rfl ⟨rfl, hS⟩
      · refine reg [] [] [6, 28] [pl 6 (.slice A3 l2.length c3), pl 28 (.bool jump1)] hF hS Fol (by kernel_rfl) (by kernel_rfl) (by kernel_rfl) ?_ (fun a w hF hS => ?_)
        · exact obs_nil
        refine cond_ev (t := 28) (b := jump1) hF (by kernel_rfl) (fun hb => ?_) (fun hb => ?_)
        · replace hm := if_t hm hb
          obtain ⟨r3, hr3, hm⟩ := call_b hm
          refine reg [⟨false, [], callFunc 98 #[.slice A3 l2.length c3, strV ([120] : List UInt8)], strV r3⟩] [none, some (strV r3), none, none] [4, 5] [pl 4 (strV r3), pl 5 (.int .i64 0)] hF hS Fol (by kernel_rfl) (by kernel_rfl) (by kernel_rfl) ?_ (fun a w hF hS => ?_)
          · exact obs_cons (ob_call Tryd.func98 (by kernel_rfl) rfl (fun _ _ hS => strings_Join_w hr3 hS (fun _ hS => (hS.at_ 0 rfl).rd) ((hS.at_ 0 rfl).cap1) rfl)) <| obs_nil
          refine wpIn_ret ?_
          refine then_r ?_
          have hS := hS.pickN 1 [] (by decide)
          have hm : some (r3, 0) = some r := hm
          obtain rfl := Option.some.inj hm
          exact retV (rs := [.tmp 4, .tmp 5]) (vs := [strV r3, .int .i64 0]) hF rfl (rv_t (by kernel_rfl) <| rv_t (by kernel_rfl) <| rv_nil) rfl ⟨rfl, hS⟩
        · replace hm := if_f hm hb
          refine wpIn_skip ?_
          refine then_n ?_
          exact ⟨hF.weak [6] (by kernel_rfl), hS, hm⟩
    · refine reg [] [] [1, 6, 16, 17, 18] [pl 1 (.bool jump1), pl 6 (.slice none 0 0), pl 16 (.slice A1 way1.length c1), pl 17 (.int .i64 (way1.length : Int)), pl 18 (.int .i64 0)] hF hS Fol (by kernel_rfl) (by kernel_rfl) (by kernel_rfl) ?_ (fun a w hF hS => ?_)
      · exact obs_nil
      refine wpIn_block ?_
      have hS : Sep w0 B w (own 9 (.slice none 0 0) ((List.map strV ([] : List (List UInt8)))) :: fs) := hS.nil 9
      have hl1 := (hS.at_ 0 rfl).len1
      have hS := (hS.at_ 0 rfl).reN hl1
      have hS : Sep w0 B w (own 9 (.slice none (([] : List (List UInt8)).length) 0) ((List.map strV ([] : List (List UInt8)))) :: fs) := hS
      have hF := hF.cast (t := 6) (v := .slice none 0 0) (v' := .slice none (([] : List (List UInt8)).length) 0) rfl rfl (congrArg (fun k => Value.slice none k 0) hl1)
      refine wp_loop_model (S := (List (List UInt8) × Int)) (R := (List (List UInt8))) (draughts_Text_L1 way1) (fun x => ((draughts_Text_K1 jump1) x).bind some) r (fun (x : (List (List UInt8) × Int)) a w => ∃ (A2 : Option Addr) (c2 : Nat), Fr 33 [pl 1 (.bool jump1), pl 6 (.slice A2 x.1.length c2), pl 16 (.slice A1 way1.length c1), pl 17 (.int .i64 (way1.length : Int)), pl 18 (.int .i64 x.2)] a ∧ Sep w0 B w (own 9 (.slice A2 x.1.length c2) ((List.map strV x.1)) :: fs)) (assoc_b hm) ⟨none, 0, hF.weak [1, 6, 16, 17, 18] (by kernel_rfl), hS⟩ ?_
      clear hF hS hm
      rintro nn1 ⟨l1, z1⟩ a w ⟨A2, c2, hF, hS⟩ hm
      generalize hφ1 : stK (draughts_Text_L1 way1) nn1 (fun x => ((draughts_Text_K1 jump1) x).bind some) = φ1 at hm
      unfold draughts_Text_L1 at hm
      dsimp only at hF hS hm
      refine reg [] [] [1, 6, 16, 17, 18, 19] [pl 1 (.bool jump1), pl 6 (.slice A2 l1.length c2), pl 16 (.slice A1 way1.length c1), pl 17 (.int .i64 (way1.length : Int)), pl 18 (.int .i64 z1), pl 19 (.bool (decide (z1 < (way1.length : Int))))] hF hS Fol (by kernel_rfl) (by kernel_rfl) (by kernel_rfl) ?_ (fun a w hF hS => ?_)
      · exact obs_nil
      refine seq_cut (fun a w => Fr 33 [pl 1 (.bool jump1), pl 6 (.slice A2 l1.length c2), pl 16 (.slice A1 way1.length c1), pl 17 (.int .i64 (way1.length : Int)), pl 18 (.int .i64 z1)] a ∧ Sep w0 B w (own 9 (.slice A2 l1.length c2) ((List.map strV l1)) :: fs) ∧ ((draughts_Text_J3 way1 l1 z1)).bind φ1 = some r) ?_ ?_
      · rintro a w ⟨hF, hS, hm⟩
        unfold draughts_Text_J3 at hm
        refine seq_cut (fun a w => ∃ (l3 : List (List UInt8)) (A5 : Option Addr) (c5 : Nat), Fr 33 [pl 1 (.bool jump1), pl 6 (.slice A5 l3.length c5), pl 16 (.slice A1 way1.length c1), pl 17 (.int .i64 (way1.length : Int)), pl 18 (.int .i64 z1)] a ∧ Sep w0 B w (own 9 (.slice A5 l3.length c5) ((List.map strV l3)) :: fs) ∧ ((draughts_Text_J4 z1) l3).bind φ1 = some r) ?_ ?_
        · rintro a w ⟨l3, A5, c5, hF, hS, hm⟩
          unfold draughts_Text_J4 at hm
          refine reg1 [] [] [1, 6, 16, 17, 18] [pl 1 (.bool jump1), pl 6 (.slice A5 l3.length c5), pl 16 (.slice A1 way1.length c1), pl 17 (.int .i64 (way1.length : Int)), pl 18 (.int .i64 (w64 (z1 + 1)))] hF hS Fol (by kernel_rfl) (by kernel_rfl) (by kernel_rfl) ?_ (fun a w hF hS => ?_)
          · exact obs_nil
          refine then_n ?_
          rw [← hφ1] at hm
          exact ⟨(l3, (w64 (z1 + 1))), ⟨A5, c5, hF.weak [1, 6, 16, 17, 18] (by kernel_rfl), hS⟩, hm⟩
        · refine wpIn_block ?_
          obtain ⟨hp1, hm⟩ := asrt_b hm
          refine reg [⟨true, [], vS (Instr.indexAt 22 (.slice A1 way1.length c1) (.int .i64 z1)), .pointer (some (sAddr A1 z1))⟩, ⟨false, [], vS (Instr.loadAt 3 (.pointer (some (sAddr A1 z1)))), .int .i64 (geti way1 z1)⟩] [some (.pointer (some (sAddr A1 z1))), some (.int .i64 (geti way1 z1)), none] [1, 6, 8, 16, 17, 18] [pl 1 (.bool jump1), pl 6 (.slice A2 l1.length c2), pl 8 (.int .i64 (geti way1 z1)), pl 16 (.slice A1 way1.length c1), pl 17 (.int .i64 (way1.length : Int)), pl 18 (.int .i64 z1)] hF hS Fol (by kernel_rfl) (by kernel_rfl) (by kernel_rfl) ?_ (fun a w hF hS => ?_)
          · exact obs_cons (ob_ix1 (f := (Value.int .i64)) (m := way1) Und22 hi3 hs3 (hr_way1 _ (hS.dropN 1)) rfl (fun _ => hp1)) <| obs_cons (ob_get1 (n := way1.length) (m := way1) (Value.int .i64) (0 : Int) Agg3 (fun _ hS => ⟨_, (hr_way1 _ (hS.dropN 1))⟩) (fun _ hS => rfl) (fun _ => hp1)) <| obs_nil
          refine oneR ?_
          obtain ⟨r2, hr2, hm⟩ := call_b hm
          obtain ⟨hp2, hm⟩ := asrt_b hm
          refine at_run 3 [⟨false, [], callFunc 55 #[.int .i64 (geti way1 z1)], strV r2⟩] [none, none, some (strV r2)] [1, 16, 17, 18, 22, 24] [pl 1 (.bool jump1), pl 16 (.slice A1 way1.length c1), pl 17 (.int .i64 (way1.length : Int)), pl 18 (.int .i64 z1), pl 22 (.slice A2 l1.length c2), pl 24 (strV r2)] hF hS (by kernel_rfl) (by kernel_rfl) ?_ (fun a w hF hS => ?_)
          · exact obs_cons (ob_call Tryd.func55 (by kernel_rfl) rfl (fun _ _ hS => strconv_Itoa_w hr2 hS )) <| obs_nil
          refine at_do (d := 25) (s := vS (Instr.buildSlice 40 1 #[(0, strV r2)])) (v := .slice (some ⟨w.heap.size, 0, none⟩) 1 1) (w' := w.alloc (.cells #[strV r2] 9)) hF (by kernel_rfl) (by kernel_rfl) (by kernel_rfl) (fun a hF => ?_)
          have hS : Sep w0 B (w.alloc (.cells #[strV r2] 9)) (own 9 (.slice (some (⟨w.heap.size, 0, none⟩ : Addr)) 1 1) ((List.map strV ([r2] : List (List UInt8)))) :: (own 9 (.slice A2 l1.length c2) ((List.map strV l1)) :: fs)) := hS.lit 9 #[strV r2] 1 rfl (by omega)
          generalize (some (⟨w.heap.size, 0, none⟩ : Addr)) = g1 at hF hS
          generalize w.alloc (.cells #[strV r2] 9) = w at hS ⊢
          obtain ⟨A4, c4, w, hrun, hS⟩ := run_appG (P := Tryd.prog) (t := 40) (m := l1) (ys := ([r2] : List (List UInt8))) (A2 := g1) (m2 := 1) (c2 := 1) strV ([] : List UInt8) 8796093022208 (hS.at_ 1 rfl) (hS.at_ 0 rfl).rd ((hS.at_ 0 rfl).len1) 40 Und40 hi9 hz9 hs9 (by rw [hb9]; decide) (by decide) rfl (fun _ => rfl) hp2
          have hS : Sep w0 B w (own 9 (.slice g1 1 1) ((List.map strV ([r2] : List (List UInt8)))) :: own 9 (.slice A4 ((l1 ++ ([r2] : List (List UInt8))).length) c4) ((List.map strV (l1 ++ ([r2] : List (List UInt8))))) :: fs) := hS
          refine at_do (d := 26) hF (by kernel_rfl) (by kernel_rfl) hrun (fun a hF => ?_)
          refine at_run 1 [] [] [1, 6, 16, 17, 18] [pl 1 (.bool jump1), pl 6 (.slice A4 ((l1 ++ ([r2] : List (List UInt8))).length) c4), pl 16 (.slice A1 way1.length c1), pl 17 (.int .i64 (way1.length : Int)), pl 18 (.int .i64 z1)] hF hS (by kernel_rfl) (by kernel_rfl) ?_ (fun a w hF hS => ?_)
          · exact obs_nil
          refine at_end [1, 6, 16, 17, 18] [pl 1 (.bool jump1), pl 6 (.slice A4 ((l1 ++ ([r2] : List (List UInt8))).length) c4), pl 16 (.slice A1 way1.length c1), pl 17 (.int .i64 (way1.length : Int)), pl 18 (.int .i64 z1)] hF rfl (by kernel_rfl) (fun hF => ?_)
          refine block_n ?_
          refine then_n ?_
          have hS := hS.pickN 2 [1] (by decide)
          exact ⟨(l1 ++ ([r2] : List (List UInt8))), A4, c4, hF.weak [1, 6, 16, 17, 18] (by kernel_rfl), hS, hm⟩
      · refine cond_ev (t := 19) (b := decide (z1 < (way1.length : Int))) hF (by kernel_rfl) (fun hb => ?_) (fun hb => ?_)
        · replace hm := if_t hm hb
          refine wpIn_skip ?_
          refine then_n ?_
          exact ⟨hF.weak [1, 6, 16, 17, 18] (by kernel_rfl), hS, hm⟩
        · replace hm := if_f hm hb
          refine wpIn_exit ?_
          refine then_e (then_e (block_e (then_n ?_)))
          rw [← hφ1] at hm
          replace hm := done_b hm
          unfold draughts_Text_K1 at hm
          try dsimp only at hm
          have hm : ((draughts_Text_J2 jump1) l1).bind some = some r := hm
          exact ⟨l1, A2, c2, hF.weak [1, 6] (by kernel_rfl), hS, hm⟩
  · refine wpIn_block ?_
    refine reg [] [] [0, 1, 9] [pl 0 (.slice A1 way1.length c1), pl 1 (.bool jump1), pl 9 (.bool (decide ((way1.length : Int) < 2)))] hF hS Fol (by kernel_rfl) (by kernel_rfl) (by kernel_rfl) ?_ (fun a w hF hS => ?_)
    · exact obs_nil
    refine cond_ev (t := 9) (b := decide ((way1.length : Int) < 2)) hF (by kernel_rfl) (fun hb => ?_) (fun hb => ?_)
    · replace hm := if_t hm hb
      refine reg [] [] [4, 5] [pl 4 (strV ([] : List UInt8)), pl 5 (.int .i64 1)] hF hS Fol (by kernel_rfl) (by kernel_rfl) (by kernel_rfl) ?_ (fun a w hF hS => ?_)
      · exact obs_nil
      refine wpIn_ret ?_
      refine block_r (then_r ?_)
      have hm : some (([] : List UInt8), 1) = some r := hm
      obtain rfl := Option.some.inj hm
      exact retV (rs := [.tmp 4, .tmp 5]) (vs := [strV ([] : List UInt8), .int .i64 1]) hF rfl (rv_t (by kernel_rfl) <| rv_t (by kernel_rfl) <| rv_nil) rfl ⟨rfl, hS⟩
    · replace hm := if_f hm hb
      obtain ⟨r1, hr1, hm⟩ := call_b hm
      refine reg [⟨false, [], callFunc 78 #[.slice A1 way1.length c1, .func (.func 97) #[] #[]], .bool r1⟩] [none, some (.bool r1), none] [0, 1, 13] [pl 0 (.slice A1 way1.length c1), pl 1 (.bool jump1), pl 13 (.bool r1)] hF hS Fol (by kernel_rfl) (by kernel_rfl) (by kernel_rfl) ?_ (fun a w hF hS => ?_)
      · exact obs_cons (ob_call Tryd.func78 (by kernel_rfl) rfl (fun _ _ hS => slices_ContainsFunc_w hr1 hS (fun _ hS => (hr_way1 _ (hS.dropN 0))) _hc_way1 rfl)) <| obs_nil
      refine cond_ev (t := 13) (b := r1) hF (by kernel_rfl) (fun hb => ?_) (fun hb => ?_)
      · replace hm := if_t hm hb
        refine reg [] [] [4, 5] [pl 4 (strV ([] : List UInt8)), pl 5 (.int .i64 3)] hF hS Fol (by kernel_rfl) (by kernel_rfl) (by kernel_rfl) ?_ (fun a w hF hS => ?_)
        · exact obs_nil
        refine wpIn_ret ?_
        refine block_r (then_r ?_)
        have hm : some (([] : List UInt8), 3) = some r := hm
        obtain rfl := Option.some.inj hm
        exact retV (rs := [.tmp 4, .tmp 5]) (vs := [strV ([] : List UInt8), .int .i64 3]) hF rfl (rv_t (by kernel_rfl) <| rv_t (by kernel_rfl) <| rv_nil) rfl ⟨rfl, hS⟩
      · replace hm := if_f hm hb
        refine wpIn_skip ?_
        refine block_n ?_
        refine then_n ?_
        exact ⟨hF.weak [0, 1] (by kernel_rfl), hS, hm⟩

noncomputable def strings_Contains_m (s1 : List UInt8) (substr1 : List UInt8) : Option Bool :=
  asrt ((s1.length : Int) ≤ 4194304) <| some (containsM s1 substr1)

theorem strings_Contains_w {s1 : List UInt8} {substr1 : List UInt8} {r : Bool} {w0 w : World} {B : Nat} {fs : List HP} [IntG 4 w0 B] (hm : strings_Contains_m s1 substr1 = some r) (hS : Sep w0 B w (fs)) :
    Calls Tryd.prog 99 #[strV s1, strV substr1] w fun e w' => e = .returned (.bool r) ∧ Sep w0 B w' (fs) := by
  unfold strings_Contains_m at hm
  obtain ⟨hb, hm⟩ := asrt_b (start_b hm)
  obtain rfl := Option.some.inj hm
  exact contains_own (g1 := 4) ContainsL rfl hS hb

noncomputable def strings_splitSeq_m  (s1 : List UInt8) (sep1 : List UInt8) (sepSave1 : Int) : Option (List UInt8 × List UInt8 × Int) :=
  some (sep1, s1, sepSave1)

set_option maxRecDepth 100000 in
set_option maxHeartbeats 4000000 in
theorem strings_splitSeq_w  {s1 : List UInt8} {sep1 : List UInt8} {sepSave1 : Int} {r : (List UInt8 × List UInt8 × Int)} {w0 w : World} {B : Nat} {fs : List HP} (hm : strings_splitSeq_m s1 sep1 sepSave1 = some r) (hS : Sep w0 B w (fs)) :
    Calls Tryd.prog 125 #[strV s1, strV sep1, .int .i64 sepSave1] w fun e w' => ∃ v, e = .returned v ∧ ∃ (g4 : Nat) (g5 : Nat) (g6 : Nat), v = .func (.func 152) #[] #[.pointer (some ⟨g4, 0, none⟩), .pointer (some ⟨g5, 0, none⟩), .pointer (some ⟨g6, 0, none⟩)] ∧ Sep w0 B w' (blk g4 9 #[strV r.1] :: blk g5 9 #[strV r.2.1] :: blk g6 3 #[.int .i64 r.2.2] :: fs) := by
  unfold strings_splitSeq_m at hm
  replace hm := start_b hm
  refine enter (l := [strV s1, strV sep1, .int .i64 sepSave1]) (n := 8) Tryd.func125 rfl rfl (by simp) (fun a hF => ?_)
  refine seqR ?_
  refine at_do (d := 3) (s := vS (Instr.box 9 (strV s1))) (v := .pointer (some ⟨w.heap.size, 0, none⟩)) (w' := w.alloc (.cells #[strV s1] 9)) hF (by kernel_rfl) (by kernel_rfl) (by kernel_rfl) (fun a hF => ?_)
  have hS : Sep w0 B (w.alloc (.cells #[strV s1] 9)) (blk w.heap.size 9 #[strV s1] :: (fs)) := hS.box 9 #[strV s1]
  generalize w.heap.size = g1 at hF hS
  generalize w.alloc (.cells #[strV s1] 9) = w at hS ⊢
  refine at_do (d := 4) (s := vS (Instr.box 9 (strV sep1))) (v := .pointer (some ⟨w.heap.size, 0, none⟩)) (w' := w.alloc (.cells #[strV sep1] 9)) hF (by kernel_rfl) (by kernel_rfl) (by kernel_rfl) (fun a hF => ?_)
  have hS : Sep w0 B (w.alloc (.cells #[strV sep1] 9)) (blk w.heap.size 9 #[strV sep1] :: (blk g1 9 #[strV s1] :: fs)) := hS.box 9 #[strV sep1]
  generalize w.heap.size = g2 at hF hS
  generalize w.alloc (.cells #[strV sep1] 9) = w at hS ⊢
  refine at_do (d := 5) (s := vS (Instr.box 3 (.int .i64 sepSave1))) (v := .pointer (some ⟨w.heap.size, 0, none⟩)) (w' := w.alloc (.cells #[.int .i64 sepSave1] 3)) hF (by kernel_rfl) (by kernel_rfl) (by kernel_rfl) (fun a hF => ?_)
  have hS : Sep w0 B (w.alloc (.cells #[.int .i64 sepSave1] 3)) (blk w.heap.size 3 #[.int .i64 sepSave1] :: (blk g2 9 #[strV sep1] :: blk g1 9 #[strV s1] :: fs)) := hS.box 3 #[.int .i64 sepSave1]
  generalize w.heap.size = g3 at hF hS
  generalize w.alloc (.cells #[.int .i64 sepSave1] 3) = w at hS ⊢
  refine at_run 1 [] [] [3, 4, 5] [pl 3 (.pointer (some ⟨g1, 0, none⟩)), pl 4 (.pointer (some ⟨g2, 0, none⟩)), pl 5 (.pointer (some ⟨g3, 0, none⟩))] hF hS (by kernel_rfl) (by kernel_rfl) ?_ (fun a w hF hS => ?_)
  · exact obs_nil
  refine at_end [3, 4, 5] [pl 3 (.pointer (some ⟨g1, 0, none⟩)), pl 4 (.pointer (some ⟨g2, 0, none⟩)), pl 5 (.pointer (some ⟨g3, 0, none⟩))] hF rfl (by kernel_rfl) (fun hF => ?_)
  refine then_n ?_
  refine reg [] [] [6] [pl 6 (.func (.func 152) #[] #[.pointer (some ⟨g2, 0, none⟩), .pointer (some ⟨g1, 0, none⟩), .pointer (some ⟨g3, 0, none⟩)])] hF hS Fol (by kernel_rfl) (by kernel_rfl) (by kernel_rfl) ?_ (fun a w hF hS => ?_)
  · exact obs_nil
  refine wpIn_ret ?_
  have hS := hS.pickN 3 [1, 2, 0] (by decide)
  have hm : some (sep1, s1, sepSave1) = some r := hm
  obtain rfl := Option.some.inj hm
  exact retV (rs := [.tmp 6]) (vs := [.func (.func 152) #[] #[.pointer (some ⟨g2, 0, none⟩), .pointer (some ⟨g1, 0, none⟩), .pointer (some ⟨g3, 0, none⟩)]]) hF rfl (rv_t (by kernel_rfl) <| rv_nil) rfl ⟨_, rfl, g2, g1, g3, rfl, hS⟩

noncomputable def strings_SplitSeq_m  (s1 : List UInt8) (sep1 : List UInt8) : Option (List UInt8 × List UInt8 × Int) :=
  (strings_splitSeq_m s1 sep1 0).bind fun r1 => some (r1.1, r1.2.1, r1.2.2)

set_option maxRecDepth 100000 in
set_option maxHeartbeats 4000000 in
theorem strings_SplitSeq_w  {s1 : List UInt8} {sep1 : List UInt8} {r : (List UInt8 × List UInt8 × Int)} {w0 w : World} {B : Nat} {fs : List HP} (hm : strings_SplitSeq_m s1 sep1 = some r) (hS : Sep w0 B w (fs)) :
    Calls Tryd.prog 84 #[strV s1, strV sep1] w fun e w' => ∃ v, e = .returned v ∧ ∃ (g4 : Nat) (g5 : Nat) (g6 : Nat), v = .func (.func 152) #[] #[.pointer (some ⟨g4, 0, none⟩), .pointer (some ⟨g5, 0, none⟩), .pointer (some ⟨g6, 0, none⟩)] ∧ Sep w0 B w' (blk g4 9 #[strV r.1] :: blk g5 9 #[strV r.2.1] :: blk g6 3 #[.int .i64 r.2.2] :: fs) := by
  unfold strings_SplitSeq_m at hm
  replace hm := start_b hm
  refine enter (l := [strV s1, strV sep1]) (n := 8) Tryd.func84 rfl rfl (by simp) (fun a hF => ?_)
  refine reg [] [] [0, 1] [pl 0 (strV s1), pl 1 (strV sep1)] hF hS Fol (by kernel_rfl) (by kernel_rfl) (by kernel_rfl) ?_ (fun a w hF hS => ?_)
  · exact obs_nil
  refine seqR ?_
  obtain ⟨r1, hr1, hm⟩ := call_b hm
  refine at_run 2 [] [] [5, 6] [pl 5 (strV s1), pl 6 (strV sep1)] hF hS (by kernel_rfl) (by kernel_rfl) ?_ (fun a w hF hS => ?_)
  · exact obs_nil
  refine at_call (f := 125) (args := #[strV s1, strV sep1, .int .i64 0]) (d := 7) hF (by kernel_rfl) (by kernel_rfl) Tryd.func125 (by kernel_rfl) rfl (strings_splitSeq_w hr1 hS ) (fun v a w hR hF => ?_)
  clear hS
  obtain ⟨g1, g2, g3, rfl, hS⟩ := hR
  have hS : Sep w0 B w (blk g1 9 #[strV r1.1] :: blk g2 9 #[strV r1.2.1] :: blk g3 3 #[.int .i64 r1.2.2] :: fs) := hS
  refine at_run 1 [] [] [4] [pl 4 (.func (.func 152) #[] #[.pointer (some ⟨g1, 0, none⟩), .pointer (some ⟨g2, 0, none⟩), .pointer (some ⟨g3, 0, none⟩)])] hF hS (by kernel_rfl) (by kernel_rfl) ?_ (fun a w hF hS => ?_)
  · exact obs_nil
  refine at_end [4] [pl 4 (.func (.func 152) #[] #[.pointer (some ⟨g1, 0, none⟩), .pointer (some ⟨g2, 0, none⟩), .pointer (some ⟨g3, 0, none⟩)])] hF rfl (by kernel_rfl) (fun hF => ?_)
  refine then_n ?_
  refine wpIn_ret ?_
  have hm : some (r1.1, r1.2.1, r1.2.2) = some r := hm
  obtain rfl := Option.some.inj hm
  exact retV (rs := [.tmp 4]) (vs := [.func (.func 152) #[] #[.pointer (some ⟨g1, 0, none⟩), .pointer (some ⟨g2, 0, none⟩), .pointer (some ⟨g3, 0, none⟩)]]) hF rfl (rv_t (by kernel_rfl) <| rv_nil) rfl ⟨_, rfl, g1, g2, g3, rfl, hS⟩

/-- Never reached: nothing is said of it. -/
noncomputable def utf8_DecodeRuneInString_m (_s1 : List UInt8) : Option (Int × Int) := none

theorem utf8_DecodeRuneInString_w {s1 : List UInt8} {r : (Int × Int)} {w0 w : World} {B : Nat} {fs : List HP} (hm : utf8_DecodeRuneInString_m s1 = some r) (_hS : Sep w0 B w (fs)) :
    Calls Tryd.prog 148 #[strV s1] w fun e w' => e = .returned (.tuple #[.int .i32 r.1, .int .i64 r.2]) ∧ Sep w0 B w' (fs) := by
  cases hm

noncomputable def strings_Index_m (s1 : List UInt8) (substr1 : List UInt8) : Option Int :=
  asrt ((s1.length : Int) ≤ 4194304) <| some (indexM s1 substr1)

theorem strings_Index_w {s1 : List UInt8} {substr1 : List UInt8} {r : Int} {w0 w : World} {B : Nat} {fs : List HP} [IntG 4 w0 B] (hm : strings_Index_m s1 substr1 = some r) (hS : Sep w0 B w (fs)) :
    Calls Tryd.prog 133 #[strV s1, strV substr1] w fun e w' => e = .returned (.int .i64 r) ∧ Sep w0 B w' (fs) := by
  unfold strings_Index_m at hm
  obtain ⟨hb, hm⟩ := asrt_b (start_b hm)
  obtain rfl := Option.some.inj hm
  exact index_own (g1 := 4) IndexL rfl hS hb

noncomputable def strings_splitSeq_1_J5 {S : Type}  (z1 : List UInt8) (r1 : (Int × Int)) (yield2 : S) : Option (St (S × List UInt8) (Fl S S)) :=
  asrt (0 ≤ r1.2 ∧ r1.2 ≤ (z1.length : Int) ∧ (z1.length : Int) ≤ (z1.length : Int)) <| some (.next (yield2, (cut z1 r1.2 (z1.length : Int))))

noncomputable def strings_splitSeq_1_J4 {S : Type}  (yd1 : List UInt8 → S → Option (S × Bool)) (yield1 : S) (z1 : List UInt8) : Option (St (S × List UInt8) (Fl S S)) :=
  (utf8_DecodeRuneInString_m z1).bind fun r1 => asrt (0 ≤ (0 : Int) ∧ (0 : Int) ≤ r1.2 ∧ r1.2 ≤ (z1.length : Int)) <| (yd1 (cut z1 (0 : Int) r1.2) yield1).bind fun r2 => if (!r2.2) then (some (.done (.ret r2.1))) else ((strings_splitSeq_1_J5 z1 r1) r2.1)

noncomputable def strings_splitSeq_1_J3 {S : Type}  (sv3 : S) : Option S :=
  some sv3

noncomputable def strings_splitSeq_1_K1 {S : Type}  : (Fl S S) → Option S :=
  fun (x : (Fl S S)) => match x with | .go sv3 => strings_splitSeq_1_J3 sv3 | .ret x => some x

noncomputable def strings_splitSeq_1_L1 {S : Type}  (yd1 : List UInt8 → S → Option (S × Bool)) : (S × List UInt8) → Option (St (S × List UInt8) (Fl S S)) :=
  fun (x : (S × List UInt8)) => match x with | (yield1, z1) => if (decide ((0 : Int) < (z1.length : Int))) then ((strings_splitSeq_1_J4 yd1 yield1 z1)) else (some (.done (.go yield1)))

noncomputable def strings_splitSeq_1_J8 {S : Type}  (p11 : List UInt8) (z2 : List UInt8) (r3 : Int) (yield5 : S) : Option (St (S × List UInt8) (Fl (S × List UInt8) S)) :=
  asrt (0 ≤ (w64 (r3 + (p11.length : Int))) ∧ (w64 (r3 + (p11.length : Int))) ≤ (z2.length : Int) ∧ (z2.length : Int) ≤ (z2.length : Int)) <| some (.next (yield5, (cut z2 (w64 (r3 + (p11.length : Int))) (z2.length : Int))))

noncomputable def strings_splitSeq_1_J7 {S : Type}  (yd1 : List UInt8 → S → Option (S × Bool)) (p11 : List UInt8) (p31 : Int) (yield3 : S) (z2 : List UInt8) (r3 : Int) : Option (St (S × List UInt8) (Fl (S × List UInt8) S)) :=
  asrt (0 ≤ (0 : Int) ∧ (0 : Int) ≤ (w64 (r3 + p31)) ∧ (w64 (r3 + p31)) ≤ (z2.length : Int)) <| (yd1 (cut z2 (0 : Int) (w64 (r3 + p31))) yield3).bind fun r4 => if (!r4.2) then (some (.done (.ret r4.1))) else ((strings_splitSeq_1_J8 p11 z2 r3) r4.1)

noncomputable def strings_splitSeq_1_J1 {S : Type}  (sv4 : S) : Option S :=
  some sv4

noncomputable def strings_splitSeq_1_J6 {S : Type}  (yd1 : List UInt8 → S → Option (S × Bool)) (yield4 : S) (z3 : List UInt8) : Option S :=
  (yd1 z3 yield4).bind fun r5 => strings_splitSeq_1_J1 r5.1

noncomputable def strings_splitSeq_1_K2 {S : Type}  (yd1 : List UInt8 → S → Option (S × Bool)) : (Fl (S × List UInt8) S) → Option S :=
  fun (x : (Fl (S × List UInt8) S)) => match x with | .go (yield4, z3) => (strings_splitSeq_1_J6 yd1) yield4 z3 | .ret x => some x

noncomputable def strings_splitSeq_1_L2 {S : Type}  (yd1 : List UInt8 → S → Option (S × Bool)) (p11 : List UInt8) (p31 : Int) : (S × List UInt8) → Option (St (S × List UInt8) (Fl (S × List UInt8) S)) :=
  fun (x : (S × List UInt8)) => match x with | (yield3, z2) => (strings_Index_m z2 p11).bind fun r3 => if (decide (r3 < 0)) then (some (.done (.go (yield3, z2)))) else ((strings_splitSeq_1_J7 yd1 p11 p31 yield3 z2 r3))

noncomputable def strings_splitSeq_1_J2 {S : Type}  (yd1 : List UInt8 → S → Option (S × Bool)) (sv1 : S) (p11 : List UInt8) (p21 : List UInt8) (p31 : Int) : Option S :=
  (loop (strings_splitSeq_1_L2 yd1 p11 p31) (sv1, p21)).bind (strings_splitSeq_1_K2 yd1)

noncomputable def strings_splitSeq_1_m {S : Type}  (yd1 : List UInt8 → S → Option (S × Bool)) (sv1 : S) (p11 : List UInt8) (p21 : List UInt8) (p31 : Int) : Option S :=
  if ((p11.length : Int) == 0) then ((loop (strings_splitSeq_1_L1 yd1) (sv1, p21)).bind strings_splitSeq_1_K1) else ((strings_splitSeq_1_J2 yd1 sv1 p11 p21 p31))

set_option maxRecDepth 100000 in
set_option maxHeartbeats 4000000 in
theorem strings_splitSeq_1_w {S : Type}  {l1 : Nat} {RS : S → List HP → Prop} {yd1 : List UInt8 → S → Option (S × Bool)} {sv1 : S} {g1 : Nat} {p11 : List UInt8} {g2 : Nat} {p21 : List UInt8} {g3 : Nat} {p31 : Int} {r : S} {w0 w : World} {B : Nat} {fs : List HP} [IntG 4 w0 B] (hm : strings_splitSeq_1_m yd1 sv1 p11 p21 p31 = some r) (hS : Sep w0 B w (stateH RS sv1 :: blk g1 9 #[strV p11] :: blk g2 9 #[strV p21] :: blk g3 3 #[.int .i64 p31] :: fs)) (hY : YieldC Tryd.prog w0 B l1 (fun (x : List UInt8) => #[strV x]) RS yd1 (blk g1 9 #[strV p11] :: blk g3 3 #[.int .i64 p31] :: fs)) :
    Calls Tryd.prog 152 #[.func (.yield l1) #[] #[], .pointer (some ⟨g1, 0, none⟩), .pointer (some ⟨g2, 0, none⟩), .pointer (some ⟨g3, 0, none⟩)] w fun e w' => ∃ v, e = .returned v ∧ v = .tuple #[] ∧ Sep w0 B w' (stateH RS r :: blk g1 9 #[strV p11] :: blk g3 3 #[.int .i64 p31] :: fs) := by
  obtain ⟨i9, hi9, hz9, hs9, hb9⟩ := info_parts Info9
  unfold strings_splitSeq_1_m at hm
  replace hm := start_b hm
  refine enter (l := [.func (.yield l1) #[] #[], .pointer (some ⟨g1, 0, none⟩), .pointer (some ⟨g2, 0, none⟩), .pointer (some ⟨g3, 0, none⟩)]) (n := 52) Tryd.func152 rfl rfl (by simp) (fun a hF => ?_)
  refine end_cut (fun a w => ∃ (sv4 : S), Fr 52 [] a ∧ Sep w0 B w (stateH RS sv4 :: blk g1 9 #[strV p11] :: blk g3 3 #[.int .i64 p31] :: fs) ∧ (strings_splitSeq_1_J1 sv4).bind some = some r) ?_ ?_
  · rintro a w ⟨sv4, hF, hS, hm⟩
    unfold strings_splitSeq_1_J1 at hm
    have hm : some sv4 = some r := hm
    obtain rfl := Option.some.inj hm
    exact endV (rs := []) (vs := []) hF rfl (rv_nil) rfl ⟨_, rfl, rfl, hS⟩ rfl
  · refine seq_cut (fun a w => Fr 52 [pl 0 (.func (.yield l1) #[] #[]), pl 1 (.pointer (some ⟨g1, 0, none⟩)), pl 2 (.pointer (some ⟨g2, 0, none⟩)), pl 3 (.pointer (some ⟨g3, 0, none⟩))] a ∧ Sep w0 B w (stateH RS sv1 :: blk g1 9 #[strV p11] :: blk g2 9 #[strV p21] :: blk g3 3 #[.int .i64 p31] :: fs) ∧ ((strings_splitSeq_1_J2 yd1 sv1 p11 p21 p31)).bind some = some r) ?_ ?_
    · rintro a w ⟨hF, hS, hm⟩
      unfold strings_splitSeq_1_J2 at hm
      refine seq_cut (fun a w => ∃ (yield4 : S) (z3 : List UInt8), Fr 52 [pl 0 (.func (.yield l1) #[] #[]), pl 2 (.pointer (some ⟨g2, 0, none⟩))] a ∧ Sep w0 B w (stateH RS yield4 :: blk g2 9 #[strV z3] :: blk g1 9 #[strV p11] :: blk g3 3 #[.int .i64 p31] :: fs) ∧ ((strings_splitSeq_1_J6 yd1) yield4 z3).bind some = some r) ?_ ?_
      · rintro a w ⟨yield4, z3, hF, hS, hm⟩
        unfold strings_splitSeq_1_J6 at hm
        refine oneR ?_
        obtain ⟨r5, hr5, hm⟩ := call_b hm
        refine at_run 2 [⟨false, [], vS (Instr.loadAt 9 (.pointer (some ⟨g2, 0, none⟩))), strV z3⟩] [none, some (strV z3)] [49, 50] [pl 49 (.func (.yield l1) #[] #[]), pl 50 (strV z3)] hF hS (by kernel_rfl) (by kernel_rfl) ?_ (fun a w hF hS => ?_)
        · exact obs_cons (ob_load Agg9 (fun _ _ hS => (hS.at_ 1 rfl).cell rfl)) <| obs_nil
        have hS := hS.pickN 4 [1, 0, 2, 3] (by decide)
        refine at_yield (d := 51) hF (by kernel_rfl) (by kernel_rfl) (hY [blk g2 9 #[strV z3]] z3 yield4 _ _ hr5 (Sep.rot (us := [blk g2 9 #[strV z3]]) hS)) (fun v a w hR hF => ?_)
        obtain ⟨rfl, hS⟩ := hR
        have hS : Sep w0 B w (blk g2 9 #[strV z3] :: stateH RS r5.1 :: blk g1 9 #[strV p11] :: blk g3 3 #[.int .i64 p31] :: fs) := Sep.unrot (us := [blk g2 9 #[strV z3]]) hS
        refine at_end [] [] hF rfl (by kernel_rfl) (fun hF => ?_)
        refine then_n ?_
        have hS := hS.pickN 4 [1, 2, 3] (by decide)
        exact ⟨r5.1, hF.weak [] (by kernel_rfl), hS, hm⟩
      · refine wpIn_block ?_
        refine wp_loop_model (S := (S × List UInt8)) (R := (Fl (S × List UInt8) S)) (strings_splitSeq_1_L2 yd1 p11 p31) (fun x => ((strings_splitSeq_1_K2 yd1) x).bind some) r (fun (x : (S × List UInt8)) a w => Fr 52 [pl 0 (.func (.yield l1) #[] #[]), pl 1 (.pointer (some ⟨g1, 0, none⟩)), pl 2 (.pointer (some ⟨g2, 0, none⟩)), pl 3 (.pointer (some ⟨g3, 0, none⟩))] a ∧ Sep w0 B w (stateH RS x.1 :: blk g1 9 #[strV p11] :: blk g2 9 #[strV x.2] :: blk g3 3 #[.int .i64 p31] :: fs)) (assoc_b hm) ⟨hF.weak [0, 1, 2, 3] (by kernel_rfl), hS⟩ ?_
        clear hF hS hm
        rintro nn2 ⟨yield3, z2⟩ a w ⟨hF, hS⟩ hm
        generalize hφ2 : stK (strings_splitSeq_1_L2 yd1 p11 p31) nn2 (fun x => ((strings_splitSeq_1_K2 yd1) x).bind some) = φ2 at hm
        unfold strings_splitSeq_1_L2 at hm
        dsimp only at hF hS hm
        refine wpIn_block ?_
        obtain ⟨r3, hr3, hm⟩ := call_b hm
        refine reg [⟨false, [], vS (Instr.loadAt 9 (.pointer (some ⟨g2, 0, none⟩))), strV z2⟩, ⟨false, [], vS (Instr.loadAt 9 (.pointer (some ⟨g1, 0, none⟩))), strV p11⟩, ⟨false, [], callFunc 133 #[strV z2, strV p11], .int .i64 r3⟩] [some (strV z2), some (strV p11), some (.int .i64 r3), none] [0, 1, 2, 3, 7] [pl 0 (.func (.yield l1) #[] #[]), pl 1 (.pointer (some ⟨g1, 0, none⟩)), pl 2 (.pointer (some ⟨g2, 0, none⟩)), pl 3 (.pointer (some ⟨g3, 0, none⟩)), pl 7 (.int .i64 r3)] hF hS Fol (by kernel_rfl) (by kernel_rfl) (by kernel_rfl) ?_ (fun a w hF hS => ?_)
        · exact obs_cons (ob_load Agg9 (fun _ _ hS => (hS.at_ 2 rfl).cell rfl)) <| obs_cons (ob_load Agg9 (fun _ _ hS => (hS.at_ 1 rfl).cell rfl)) <| obs_cons (ob_call Tryd.func133 (by kernel_rfl) rfl (fun _ _ hS => strings_Index_w hr3 hS )) <| obs_nil
        refine seq_cut (fun a w => Fr 52 [pl 0 (.func (.yield l1) #[] #[]), pl 1 (.pointer (some ⟨g1, 0, none⟩)), pl 2 (.pointer (some ⟨g2, 0, none⟩)), pl 3 (.pointer (some ⟨g3, 0, none⟩)), pl 7 (.int .i64 r3)] a ∧ Sep w0 B w (stateH RS yield3 :: blk g1 9 #[strV p11] :: blk g2 9 #[strV z2] :: blk g3 3 #[.int .i64 p31] :: fs) ∧ ((strings_splitSeq_1_J7 yd1 p11 p31 yield3 z2 r3)).bind φ2 = some r) ?_ ?_
        · rintro a w ⟨hF, hS, hm⟩
          unfold strings_splitSeq_1_J7 at hm
          obtain ⟨hp3, hm⟩ := asrt_b hm
          refine reg [⟨false, [], vS (Instr.loadAt 9 (.pointer (some ⟨g2, 0, none⟩))), strV z2⟩, ⟨false, [], vS (Instr.loadAt 3 (.pointer (some ⟨g3, 0, none⟩))), .int .i64 p31⟩, ⟨true, [], vS (Instr.sliceAt 9 (strV z2) none (some (.int .i64 (w64 (r3 + p31)))) none), strV (cut z2 (0 : Int) (w64 (r3 + p31)))⟩] [some (strV z2), none, some (.int .i64 p31), none, some (strV (cut z2 (0 : Int) (w64 (r3 + p31)))), none] [0, 1, 2, 3, 7, 8] [pl 0 (.func (.yield l1) #[] #[]), pl 1 (.pointer (some ⟨g1, 0, none⟩)), pl 2 (.pointer (some ⟨g2, 0, none⟩)), pl 3 (.pointer (some ⟨g3, 0, none⟩)), pl 7 (.int .i64 r3), pl 8 (strV (cut z2 (0 : Int) (w64 (r3 + p31))))] hF hS Fol (by kernel_rfl) (by kernel_rfl) (by kernel_rfl) ?_ (fun a w hF hS => ?_)
          · exact obs_cons (ob_load Agg9 (fun _ _ hS => (hS.at_ 2 rfl).cell rfl)) <| obs_cons (ob_load Agg3 (fun _ _ hS => (hS.at_ 3 rfl).cell rfl)) <| obs_cons (ob_scut (s := z2) (k := .i64) (k' := .i64) (by kernel_rfl) (.inr ⟨rfl, rfl⟩) (.inl rfl) (fun _ => hp3)) <| obs_nil
          refine seq_cut (fun a w => ∃ (yield5 : S), Fr 52 [pl 0 (.func (.yield l1) #[] #[]), pl 1 (.pointer (some ⟨g1, 0, none⟩)), pl 2 (.pointer (some ⟨g2, 0, none⟩)), pl 3 (.pointer (some ⟨g3, 0, none⟩)), pl 7 (.int .i64 r3)] a ∧ Sep w0 B w (stateH RS yield5 :: blk g1 9 #[strV p11] :: blk g2 9 #[strV z2] :: blk g3 3 #[.int .i64 p31] :: fs) ∧ ((strings_splitSeq_1_J8 p11 z2 r3) yield5).bind φ2 = some r) ?_ ?_
          · rintro a w ⟨yield5, hF, hS, hm⟩
            unfold strings_splitSeq_1_J8 at hm
            refine oneR ?_
            obtain ⟨hp4, hm⟩ := asrt_b hm
            refine at_run 6 [⟨false, [], vS (Instr.loadAt 9 (.pointer (some ⟨g2, 0, none⟩))), strV z2⟩, ⟨false, [], vS (Instr.loadAt 9 (.pointer (some ⟨g1, 0, none⟩))), strV p11⟩, ⟨true, [], vS (Builtin.len_ #[9] 3 #[strV p11]), .int .i64 (p11.length : Int)⟩, ⟨true, [], vS (Instr.sliceAt 9 (strV z2) (some (.int .i64 (w64 (r3 + (p11.length : Int))))) none none), strV (cut z2 (w64 (r3 + (p11.length : Int))) (z2.length : Int))⟩] [some (strV z2), none, some (strV p11), some (.int .i64 (p11.length : Int)), none, some (strV (cut z2 (w64 (r3 + (p11.length : Int))) (z2.length : Int)))] [0, 1, 2, 3, 48] [pl 0 (.func (.yield l1) #[] #[]), pl 1 (.pointer (some ⟨g1, 0, none⟩)), pl 2 (.pointer (some ⟨g2, 0, none⟩)), pl 3 (.pointer (some ⟨g3, 0, none⟩)), pl 48 (strV (cut z2 (w64 (r3 + (p11.length : Int))) (z2.length : Int)))] hF hS (by kernel_rfl) (by kernel_rfl) ?_ (fun a w hF hS => ?_)
            · exact obs_cons (ob_load Agg9 (fun _ _ hS => (hS.at_ 2 rfl).cell rfl)) <| obs_cons (ob_load Agg9 (fun _ _ hS => (hS.at_ 1 rfl).cell rfl)) <| obs_cons (ob_slen (s := p11) (by kernel_rfl) 3) <| obs_cons (ob_scut (s := z2) (k := .i64) (k' := .i64) (by kernel_rfl) (.inl rfl) (.inr ⟨rfl, rfl⟩) (fun _ => hp4)) <| obs_nil
            obtain ⟨w, hrun, hS⟩ := run_put (P := Tryd.prog) (t := 9) (u := strV (cut z2 (w64 (r3 + (p11.length : Int))) (z2.length : Int))) (i := 0) (hS.at_ 2 rfl) hi9 hs9 rfl (Nat.lt_of_lt_of_eq (Nat.lt_of_succ_le (Nat.le_of_ble_eq_true (by kernel_rfl))) rfl)
            refine at_skip hF (by kernel_rfl) hrun ?_
            have hS : Sep w0 B w (stateH RS yield5 :: blk g1 9 #[strV p11] :: blk g2 9 #[strV (cut z2 (w64 (r3 + (p11.length : Int))) (z2.length : Int))] :: blk g3 3 #[.int .i64 p31] :: fs) := hS
            refine at_end [0, 1, 2, 3] [pl 0 (.func (.yield l1) #[] #[]), pl 1 (.pointer (some ⟨g1, 0, none⟩)), pl 2 (.pointer (some ⟨g2, 0, none⟩)), pl 3 (.pointer (some ⟨g3, 0, none⟩))] hF rfl (by kernel_rfl) (fun hF => ?_)
            refine block_n ?_
            refine then_n ?_
            rw [← hφ2] at hm
            exact ⟨(yield5, (cut z2 (w64 (r3 + (p11.length : Int))) (z2.length : Int))), ⟨hF.weak [0, 1, 2, 3] (by kernel_rfl), hS⟩, hm⟩
          · refine seqR ?_
            obtain ⟨r4, hr4, hm⟩ := call_b hm
            refine at_run 2 [] [] [0, 1, 2, 3, 7, 39, 40] [pl 0 (.func (.yield l1) #[] #[]), pl 1 (.pointer (some ⟨g1, 0, none⟩)), pl 2 (.pointer (some ⟨g2, 0, none⟩)), pl 3 (.pointer (some ⟨g3, 0, none⟩)), pl 7 (.int .i64 r3), pl 39 (.func (.yield l1) #[] #[]), pl 40 (strV (cut z2 (0 : Int) (w64 (r3 + p31))))] hF hS (by kernel_rfl) (by kernel_rfl) ?_ (fun a w hF hS => ?_)
            · exact obs_nil
            have hS := hS.pickN 4 [2, 0, 1, 3] (by decide)
            refine at_yield (d := 41) hF (by kernel_rfl) (by kernel_rfl) (hY [blk g2 9 #[strV z2]] (cut z2 (0 : Int) (w64 (r3 + p31))) yield3 _ _ hr4 (Sep.rot (us := [blk g2 9 #[strV z2]]) hS)) (fun v a w hR hF => ?_)
            obtain ⟨rfl, hS⟩ := hR
            have hS : Sep w0 B w (blk g2 9 #[strV z2] :: stateH RS r4.1 :: blk g1 9 #[strV p11] :: blk g3 3 #[.int .i64 p31] :: fs) := Sep.unrot (us := [blk g2 9 #[strV z2]]) hS
            refine at_run 1 [] [] [0, 1, 2, 3, 7, 42] [pl 0 (.func (.yield l1) #[] #[]), pl 1 (.pointer (some ⟨g1, 0, none⟩)), pl 2 (.pointer (some ⟨g2, 0, none⟩)), pl 3 (.pointer (some ⟨g3, 0, none⟩)), pl 7 (.int .i64 r3), pl 42 (.bool (!r4.2))] hF hS (by kernel_rfl) (by kernel_rfl) ?_ (fun a w hF hS => ?_)
            · exact obs_nil
            refine at_end [0, 1, 2, 3, 7, 42] [pl 0 (.func (.yield l1) #[] #[]), pl 1 (.pointer (some ⟨g1, 0, none⟩)), pl 2 (.pointer (some ⟨g2, 0, none⟩)), pl 3 (.pointer (some ⟨g3, 0, none⟩)), pl 7 (.int .i64 r3), pl 42 (.bool (!r4.2))] hF rfl (by kernel_rfl) (fun hF => ?_)
            refine then_n ?_
            refine cond_ev (t := 42) (b := !r4.2) hF (by kernel_rfl) (fun hb => ?_) (fun hb => ?_)
            · replace hm := if_t hm hb
              refine wpIn_ret ?_
              refine then_r (block_r (then_r (block_r (then_r (then_r ?_)))))
              rw [← hφ2] at hm
              replace hm := done_b hm
              unfold strings_splitSeq_1_K2 at hm
              try dsimp only at hm
              have hS := hS.pickN 4 [1, 2, 3] (by decide)
              have hm : some r4.1 = some r := hm
              obtain rfl := Option.some.inj hm
              exact retV (rs := []) (vs := []) hF rfl (rv_nil) rfl ⟨_, rfl, rfl, hS⟩
            · replace hm := if_f hm hb
              refine wpIn_skip ?_
              refine then_n ?_
              have hS := hS.pickN 4 [1, 2, 0, 3] (by decide)
              exact ⟨r4.1, hF.weak [0, 1, 2, 3, 7] (by kernel_rfl), hS, hm⟩
        · refine reg [] [] [0, 1, 2, 3, 7, 33] [pl 0 (.func (.yield l1) #[] #[]), pl 1 (.pointer (some ⟨g1, 0, none⟩)), pl 2 (.pointer (some ⟨g2, 0, none⟩)), pl 3 (.pointer (some ⟨g3, 0, none⟩)), pl 7 (.int .i64 r3), pl 33 (.bool (decide (r3 < 0)))] hF hS Fol (by kernel_rfl) (by kernel_rfl) (by kernel_rfl) ?_ (fun a w hF hS => ?_)
          · exact obs_nil
          refine cond_ev (t := 33) (b := decide (r3 < 0)) hF (by kernel_rfl) (fun hb => ?_) (fun hb => ?_)
          · replace hm := if_t hm hb
            refine wpIn_exit ?_
            refine then_e (block_o rfl (then_e (block_e (then_n ?_))))
            have hS := hS.pickN 4 [0, 2, 1, 3] (by decide)
            rw [← hφ2] at hm
            replace hm := done_b hm
            unfold strings_splitSeq_1_K2 at hm
            try dsimp only at hm
            have hm : ((strings_splitSeq_1_J6 yd1) yield3 z2).bind some = some r := hm
            exact ⟨yield3, z2, hF.weak [0, 2] (by kernel_rfl), hS, hm⟩
          · replace hm := if_f hm hb
            refine wpIn_skip ?_
            refine then_n ?_
            exact ⟨hF.weak [0, 1, 2, 3, 7] (by kernel_rfl), hS, hm⟩
    · refine reg [⟨false, [], vS (Instr.loadAt 9 (.pointer (some ⟨g1, 0, none⟩))), strV p11⟩, ⟨true, [], vS (Builtin.len_ #[9] 3 #[strV p11]), .int .i64 (p11.length : Int)⟩] [some (strV p11), some (.int .i64 (p11.length : Int)), none] [0, 1, 2, 3, 11] [pl 0 (.func (.yield l1) #[] #[]), pl 1 (.pointer (some ⟨g1, 0, none⟩)), pl 2 (.pointer (some ⟨g2, 0, none⟩)), pl 3 (.pointer (some ⟨g3, 0, none⟩)), pl 11 (.bool ((p11.length : Int) == 0))] hF hS Fol (by kernel_rfl) (by kernel_rfl) (by kernel_rfl) ?_ (fun a w hF hS => ?_)
      · exact obs_cons (ob_load Agg9 (fun _ _ hS => (hS.at_ 1 rfl).cell rfl)) <| obs_cons (ob_slen (s := p11) (by kernel_rfl) 3) <| obs_nil
      refine cond_ev (t := 11) (b := ((p11.length : Int) == 0)) hF (by kernel_rfl) (fun hb => ?_) (fun hb => ?_)
      · replace hm := if_t hm hb
        refine seq_cut (fun a w => ∃ (sv3 : S), Fr 52 [] a ∧ Sep w0 B w (stateH RS sv3 :: blk g1 9 #[strV p11] :: blk g3 3 #[.int .i64 p31] :: fs) ∧ (strings_splitSeq_1_J3 sv3).bind some = some r) ?_ ?_
        · rintro a w ⟨sv3, hF, hS, hm⟩
          unfold strings_splitSeq_1_J3 at hm
          refine wpIn_ret ?_
          refine then_r (then_r ?_)
          have hm : some sv3 = some r := hm
          obtain rfl := Option.some.inj hm
          exact retV (rs := []) (vs := []) hF rfl (rv_nil) rfl ⟨_, rfl, rfl, hS⟩
        · refine wpIn_block ?_
          have hS := hS.pickN 4 [0, 2, 1, 3] (by decide)
          refine wp_loop_model (S := (S × List UInt8)) (R := (Fl S S)) (strings_splitSeq_1_L1 yd1) (fun x => (strings_splitSeq_1_K1 x).bind some) r (fun (x : (S × List UInt8)) a w => Fr 52 [pl 0 (.func (.yield l1) #[] #[]), pl 2 (.pointer (some ⟨g2, 0, none⟩))] a ∧ Sep w0 B w (stateH RS x.1 :: blk g2 9 #[strV x.2] :: blk g1 9 #[strV p11] :: blk g3 3 #[.int .i64 p31] :: fs)) (assoc_b hm) ⟨hF.weak [0, 2] (by kernel_rfl), hS⟩ ?_
          clear hF hS hm
          rintro nn1 ⟨yield1, z1⟩ a w ⟨hF, hS⟩ hm
          generalize hφ1 : stK (strings_splitSeq_1_L1 yd1) nn1 (fun x => (strings_splitSeq_1_K1 x).bind some) = φ1 at hm
          unfold strings_splitSeq_1_L1 at hm
          dsimp only at hF hS hm
          refine seq_cut (fun a w => Fr 52 [pl 0 (.func (.yield l1) #[] #[]), pl 2 (.pointer (some ⟨g2, 0, none⟩))] a ∧ Sep w0 B w (stateH RS yield1 :: blk g2 9 #[strV z1] :: blk g1 9 #[strV p11] :: blk g3 3 #[.int .i64 p31] :: fs) ∧ ((strings_splitSeq_1_J4 yd1 yield1 z1)).bind φ1 = some r) ?_ ?_
          · rintro a w ⟨hF, hS, hm⟩
            unfold strings_splitSeq_1_J4 at hm
            refine wpIn_block ?_
            obtain ⟨r1, hr1, hm⟩ := call_b hm
            refine reg [⟨false, [], vS (Instr.loadAt 9 (.pointer (some ⟨g2, 0, none⟩))), strV z1⟩, ⟨false, [], callFunc 148 #[strV z1], .tuple #[.int .i32 r1.1, .int .i64 r1.2]⟩] [some (strV z1), some (.tuple #[.int .i32 r1.1, .int .i64 r1.2]), none, none, none, none, none] [0, 2, 6] [pl 0 (.func (.yield l1) #[] #[]), pl 2 (.pointer (some ⟨g2, 0, none⟩)), pl 6 (.int .i64 r1.2)] hF hS Fol (by kernel_rfl) (by kernel_rfl) (by kernel_rfl) ?_ (fun a w hF hS => ?_)
            · exact obs_cons (ob_load Agg9 (fun _ _ hS => (hS.at_ 1 rfl).cell rfl)) <| obs_cons (ob_call Tryd.func148 (by kernel_rfl) rfl (fun _ _ hS => utf8_DecodeRuneInString_w hr1 hS )) <| obs_nil
            refine seq_cut (fun a w => ∃ (yield2 : S), Fr 52 [pl 0 (.func (.yield l1) #[] #[]), pl 2 (.pointer (some ⟨g2, 0, none⟩)), pl 6 (.int .i64 r1.2)] a ∧ Sep w0 B w (stateH RS yield2 :: blk g2 9 #[strV z1] :: blk g1 9 #[strV p11] :: blk g3 3 #[.int .i64 p31] :: fs) ∧ ((strings_splitSeq_1_J5 z1 r1) yield2).bind φ1 = some r) ?_ ?_
            · rintro a w ⟨yield2, hF, hS, hm⟩
              unfold strings_splitSeq_1_J5 at hm
              refine oneR ?_
              obtain ⟨hp2, hm⟩ := asrt_b hm
              refine at_run 3 [⟨false, [], vS (Instr.loadAt 9 (.pointer (some ⟨g2, 0, none⟩))), strV z1⟩, ⟨true, [], vS (Instr.sliceAt 9 (strV z1) (some (.int .i64 r1.2)) none none), strV (cut z1 r1.2 (z1.length : Int))⟩] [some (strV z1), none, some (strV (cut z1 r1.2 (z1.length : Int)))] [0, 2, 28] [pl 0 (.func (.yield l1) #[] #[]), pl 2 (.pointer (some ⟨g2, 0, none⟩)), pl 28 (strV (cut z1 r1.2 (z1.length : Int)))] hF hS (by kernel_rfl) (by kernel_rfl) ?_ (fun a w hF hS => ?_)
              · exact obs_cons (ob_load Agg9 (fun _ _ hS => (hS.at_ 1 rfl).cell rfl)) <| obs_cons (ob_scut (s := z1) (k := .i64) (k' := .i64) (by kernel_rfl) (.inl rfl) (.inr ⟨rfl, rfl⟩) (fun _ => hp2)) <| obs_nil
              obtain ⟨w, hrun, hS⟩ := run_put (P := Tryd.prog) (t := 9) (u := strV (cut z1 r1.2 (z1.length : Int))) (i := 0) (hS.at_ 1 rfl) hi9 hs9 rfl (Nat.lt_of_lt_of_eq (Nat.lt_of_succ_le (Nat.le_of_ble_eq_true (by kernel_rfl))) rfl)
              refine at_skip hF (by kernel_rfl) hrun ?_
              have hS : Sep w0 B w (stateH RS yield2 :: blk g2 9 #[strV (cut z1 r1.2 (z1.length : Int))] :: blk g1 9 #[strV p11] :: blk g3 3 #[.int .i64 p31] :: fs) := hS
              refine at_end [0, 2] [pl 0 (.func (.yield l1) #[] #[]), pl 2 (.pointer (some ⟨g2, 0, none⟩))] hF rfl (by kernel_rfl) (fun hF => ?_)
              refine block_n ?_
              refine then_n ?_
              rw [← hφ1] at hm
              exact ⟨(yield2, (cut z1 r1.2 (z1.length : Int))), ⟨hF.weak [0, 2] (by kernel_rfl), hS⟩, hm⟩
            · refine seqR ?_
              obtain ⟨hp1, hm⟩ := asrt_b hm
              obtain ⟨r2, hr2, hm⟩ := call_b hm
              refine at_run 4 [⟨false, [], vS (Instr.loadAt 9 (.pointer (some ⟨g2, 0, none⟩))), strV z1⟩, ⟨true, [], vS (Instr.sliceAt 9 (strV z1) none (some (.int .i64 r1.2)) none), strV (cut z1 (0 : Int) r1.2)⟩] [none, some (strV z1), none, some (strV (cut z1 (0 : Int) r1.2))] [0, 2, 6, 20, 23] [pl 0 (.func (.yield l1) #[] #[]), pl 2 (.pointer (some ⟨g2, 0, none⟩)), pl 6 (.int .i64 r1.2), pl 20 (.func (.yield l1) #[] #[]), pl 23 (strV (cut z1 (0 : Int) r1.2))] hF hS (by kernel_rfl) (by kernel_rfl) ?_ (fun a w hF hS => ?_)
              · exact obs_cons (ob_load Agg9 (fun _ _ hS => (hS.at_ 1 rfl).cell rfl)) <| obs_cons (ob_scut (s := z1) (k := .i64) (k' := .i64) (by kernel_rfl) (.inr ⟨rfl, rfl⟩) (.inl rfl) (fun _ => hp1)) <| obs_nil
              have hS := hS.pickN 4 [1, 0, 2, 3] (by decide)
              refine at_yield (d := 24) hF (by kernel_rfl) (by kernel_rfl) (hY [blk g2 9 #[strV z1]] (cut z1 (0 : Int) r1.2) yield1 _ _ hr2 (Sep.rot (us := [blk g2 9 #[strV z1]]) hS)) (fun v a w hR hF => ?_)
              obtain ⟨rfl, hS⟩ := hR
              have hS : Sep w0 B w (blk g2 9 #[strV z1] :: stateH RS r2.1 :: blk g1 9 #[strV p11] :: blk g3 3 #[.int .i64 p31] :: fs) := Sep.unrot (us := [blk g2 9 #[strV z1]]) hS
              refine at_run 1 [] [] [0, 2, 6, 25] [pl 0 (.func (.yield l1) #[] #[]), pl 2 (.pointer (some ⟨g2, 0, none⟩)), pl 6 (.int .i64 r1.2), pl 25 (.bool (!r2.2))] hF hS (by kernel_rfl) (by kernel_rfl) ?_ (fun a w hF hS => ?_)
              · exact obs_nil
              refine at_end [0, 2, 6, 25] [pl 0 (.func (.yield l1) #[] #[]), pl 2 (.pointer (some ⟨g2, 0, none⟩)), pl 6 (.int .i64 r1.2), pl 25 (.bool (!r2.2))] hF rfl (by kernel_rfl) (fun hF => ?_)
              refine then_n ?_
              refine cond_ev (t := 25) (b := !r2.2) hF (by kernel_rfl) (fun hb => ?_) (fun hb => ?_)
              · replace hm := if_t hm hb
                refine wpIn_ret ?_
                refine then_r (block_r (then_r (block_r (then_r (then_r (then_r ?_))))))
                rw [← hφ1] at hm
                replace hm := done_b hm
                unfold strings_splitSeq_1_K1 at hm
                try dsimp only at hm
                have hS := hS.pickN 4 [1, 2, 3] (by decide)
                have hm : some r2.1 = some r := hm
                obtain rfl := Option.some.inj hm
                exact retV (rs := []) (vs := []) hF rfl (rv_nil) rfl ⟨_, rfl, rfl, hS⟩
              · replace hm := if_f hm hb
                refine wpIn_skip ?_
                refine then_n ?_
                have hS := hS.pickN 4 [1, 0, 2, 3] (by decide)
                exact ⟨r2.1, hF.weak [0, 2, 6] (by kernel_rfl), hS, hm⟩
          · refine reg [⟨false, [], vS (Instr.loadAt 9 (.pointer (some ⟨g2, 0, none⟩))), strV z1⟩, ⟨true, [], vS (Builtin.len_ #[9] 3 #[strV z1]), .int .i64 (z1.length : Int)⟩] [some (strV z1), some (.int .i64 (z1.length : Int)), none] [0, 2, 14] [pl 0 (.func (.yield l1) #[] #[]), pl 2 (.pointer (some ⟨g2, 0, none⟩)), pl 14 (.bool (decide ((0 : Int) < (z1.length : Int))))] hF hS Fol (by kernel_rfl) (by kernel_rfl) (by kernel_rfl) ?_ (fun a w hF hS => ?_)
            · exact obs_cons (ob_load Agg9 (fun _ _ hS => (hS.at_ 1 rfl).cell rfl)) <| obs_cons (ob_slen (s := z1) (by kernel_rfl) 3) <| obs_nil
            refine cond_ev (t := 14) (b := decide ((0 : Int) < (z1.length : Int))) hF (by kernel_rfl) (fun hb => ?_) (fun hb => ?_)
            · replace hm := if_t hm hb
              refine wpIn_skip ?_
              refine then_n ?_
              exact ⟨hF.weak [0, 2] (by kernel_rfl), hS, hm⟩
            · replace hm := if_f hm hb
              refine wpIn_exit ?_
              refine then_e (then_e (block_e (then_n ?_)))
              have hS := hS.pickN 4 [0, 2, 3] (by decide)
              rw [← hφ1] at hm
              replace hm := done_b hm
              unfold strings_splitSeq_1_K1 at hm
              try dsimp only at hm
              have hm : (strings_splitSeq_1_J3 yield1).bind some = some r := hm
              exact ⟨yield1, hF.weak [] (by kernel_rfl), hS, hm⟩
      · replace hm := if_f hm hb
        refine wpIn_skip ?_
        refine then_n ?_
        exact ⟨hF.weak [0, 1, 2, 3] (by kernel_rfl), hS, hm⟩

noncomputable def strconv_Atoi_m (s1 : List UInt8) : Option (Int × Bool) :=
  asrt ((s1.length : Int) ≤ 4194304) <| some ((atoiN s1, atoiE s1))

theorem strconv_Atoi_w {s1 : List UInt8} {r : (Int × Bool)} {w0 w : World} {B : Nat} {fs : List HP} [ErrG 2 w0 B] [ErrG 3 w0 B] (hm : strconv_Atoi_m s1 = some r) (hS : Sep w0 B w (fs)) :
    Calls Tryd.prog 58 #[strV s1] w fun e w' => ∃ v, e = .returned v ∧ ∃ (N1 : Nat), v = .tuple #[.int .i64 r.1, errV r.2 (AtoiR.t 168) N1] ∧ Sep w0 B w' (fs) := by
  unfold strconv_Atoi_m at hm
  obtain ⟨hb, hm⟩ := asrt_b (start_b hm)
  obtain rfl := Option.some.inj hm
  exact atoi_own (g15 := 2) (g16 := 3) AtoiL rfl rfl rfl hS hb

noncomputable def strings_Trim_m (s1 : List UInt8) (cutset1 : List UInt8) : Option (List UInt8) :=
  asrt ((s1.length : Int) ≤ 4194304 ∧ (cutset1.length : Int) ≤ 4194304 ∧ cutset1.all (fun b => decide (b.toNat < 128)) = true) <| some (trimM s1 cutset1)

theorem strings_Trim_w {s1 : List UInt8} {cutset1 : List UInt8} {r : (List UInt8)} {w0 w : World} {B : Nat} {fs : List HP} (hm : strings_Trim_m s1 cutset1 = some r) (hS : Sep w0 B w (fs)) :
    Calls Tryd.prog 76 #[strV s1, strV cutset1] w fun e w' => e = .returned (strV r) ∧ Sep w0 B w' (fs) := by
  unfold strings_Trim_m at hm
  obtain ⟨hb, hm⟩ := asrt_b (start_b hm)
  obtain rfl := Option.some.inj hm
  exact trim_own TrimBL (by kernel_rfl) hS hb

noncomputable def draughts_Read_J4  (z1 : Int) (way1 : List Int) (n1 : Int) : Option (St (Int × List Int) (Int × List Int)) :=
  asrt ((way1.length : Int) + 1 ≤ bigN) <| some (.next (z1, (way1 ++ ([n1] : List Int))))

noncomputable def draughts_Read_J3  (z1 : Int) (way1 : List Int) (r3 : (Int × Bool)) : Option (St (Int × List Int) (Int × List Int)) :=
  if r3.2 then ((draughts_Read_J4 z1 way1) 99) else ((draughts_Read_J4 z1 way1) r3.1)

noncomputable def draughts_Read_J5  (sign1 : List UInt8) (way2 : List Int) : Option (List Int × Bool × Int) :=
  some (way2, (sign1 == ([120] : List UInt8)), 0)

noncomputable def draughts_Read_J2  (sign1 : List UInt8) (z2 : Int) (way2 : List Int) : Option (List Int × Bool × Int) :=
  if (decide ((way2.length : Int) < 2)) then (some (([] : List Int), false, 1)) else ((slices_ContainsFunc_m way2).bind fun r5 => if r5 then (some (([] : List Int), false, 3)) else ((draughts_Read_J5 sign1 way2)))

noncomputable def draughts_Read_K1  (sign1 : List UInt8) : (St (Int × List Int) (Int × List Int)) → Option (List Int × Bool × Int) :=
  fun (x : St (Int × List Int) (Int × List Int)) => match x with | .next (z1, way1) => (draughts_Read_J2 sign1) z1 way1 | .done (z1, way1) => some (([] : List Int), false, z1)

noncomputable def draughts_Read_L1  : (List UInt8 × (Int × List Int)) → Option (St (Int × List Int) (Int × List Int)) :=
  fun (x : List UInt8 × (Int × List Int)) => match x with | (x1, (z1, way1)) => (strconv_Atoi_m x1).bind fun r3 => ((if (!((r3.2 && (decide ((x1.length : Int) < 19))) || (x1 == ([] : List UInt8)))) then strings_Trim_m x1 ([48, 49, 50, 51, 52, 53, 54, 55, 56, 57] : List UInt8) else some ([]))).bind fun r4 => asrt ((((r3.2 && (decide ((x1.length : Int) < 19))) || (x1 == ([] : List UInt8))) || (!(r4 == ([] : List UInt8)))) = false → 0 ≤ (0 : Int) ∧ (0 : Int) < (x1.length : Int)) <| if ((((r3.2 && (decide ((x1.length : Int) < 19))) || (x1 == ([] : List UInt8))) || (!(r4 == ([] : List UInt8)))) || ((getU x1 0) == 48)) then (some (.done (1, way1))) else ((draughts_Read_J3 z1 way1 r3))

noncomputable def draughts_Read_J1  (text1 : List UInt8) (sign1 : List UInt8) : Option (List Int × Bool × Int) :=
  (strings_SplitSeq_m text1 sign1).bind fun r2 => (strings_splitSeq_1_m (ydOf (fun x s => draughts_Read_L1 (x, s))) (.next (0, ([] : List Int))) r2.1 r2.2.1 r2.2.2).bind (draughts_Read_K1 sign1)

noncomputable def draughts_Read_m  (text1 : List UInt8) : Option (List Int × Bool × Int) :=
  (strings_Contains_m text1 ([120] : List UInt8)).bind fun r1 => if r1 then ((draughts_Read_J1 text1) ([120] : List UInt8)) else ((draughts_Read_J1 text1) ([45] : List UInt8))

set_option maxRecDepth 100000 in
set_option maxHeartbeats 4000000 in
theorem draughts_Read_w  {text1 : List UInt8} {r : (List Int × Bool × Int)} {w0 w : World} {B : Nat} {fs : List HP} [ErrG 2 w0 B] [ErrG 3 w0 B] [IntG 4 w0 B] (hm : draughts_Read_m text1 = some r) (hS : Sep w0 B w (fs)) :
    Calls Tryd.prog 46 #[strV text1] w fun e w' => ∃ v, e = .returned v ∧ ∃ (A4 : Option Addr) (c4 : Nat), v = .tuple #[.slice A4 r.1.length c4, .bool r.2.1, .int .i64 r.2.2] ∧ Sep w0 B w' (own 3 (.slice A4 r.1.length c4) (vI r.1) :: fs) := by
  obtain ⟨i3, hi3, hz3, hs3, hb3⟩ := info_parts Info3
  obtain ⟨i4, hi4, hz4, hs4, hb4⟩ := info_parts Info4
  obtain ⟨i22, hi22, hz22, hs22, hb22⟩ := info_parts Info22
  obtain ⟨i23, hi23, hz23, hs23, hb23⟩ := info_parts Info23
  unfold draughts_Read_m at hm
  replace hm := start_b hm
  refine enter (l := [strV text1]) (n := 58) Tryd.func46 rfl rfl (by simp) (fun a hF => ?_)
  have hS := hS.defs0
  refine seqR ?_
  refine at_do (d := 2) (s := vS (Instr.alloc 22 true (.tuple #[]))) (v := .pointer (some ⟨w.heap.size, 0, none⟩)) (w' := w.alloc (.cells #[.slice none 0 0] 22)) hF (by kernel_rfl) (by kernel_rfl) (by kernel_rfl) (fun a hF => ?_)
  have hS : Sep w0 B (w.alloc (.cells #[.slice none 0 0] 22)) (blk w.heap.size 22 #[.slice none 0 0] :: (defsH ([]) :: fs)) := hS.box 22 #[.slice none 0 0]
  generalize w.heap.size = g1 at hF hS
  generalize w.alloc (.cells #[.slice none 0 0] 22) = w at hS ⊢
  refine at_do (d := 3) (s := vS (Instr.alloc 4 true (.tuple #[]))) (v := .pointer (some ⟨w.heap.size, 0, none⟩)) (w' := w.alloc (.cells #[.bool false] 4)) hF (by kernel_rfl) (by kernel_rfl) (by kernel_rfl) (fun a hF => ?_)
  have hS : Sep w0 B (w.alloc (.cells #[.bool false] 4)) (blk w.heap.size 4 #[.bool false] :: (blk g1 22 #[.slice none 0 0] :: defsH ([]) :: fs)) := hS.box 4 #[.bool false]
  generalize w.heap.size = g2 at hF hS
  generalize w.alloc (.cells #[.bool false] 4) = w at hS ⊢
  refine at_do (d := 4) (s := vS (Instr.alloc 23 true (.tuple #[]))) (v := .pointer (some ⟨w.heap.size, 0, none⟩)) (w' := w.alloc (.cells #[.int .i64 0] 23)) hF (by kernel_rfl) (by kernel_rfl) (by kernel_rfl) (fun a hF => ?_)
  have hS : Sep w0 B (w.alloc (.cells #[.int .i64 0] 23)) (blk w.heap.size 23 #[.int .i64 0] :: (blk g2 4 #[.bool false] :: blk g1 22 #[.slice none 0 0] :: defsH ([]) :: fs)) := hS.box 23 #[.int .i64 0]
  generalize w.heap.size = g3 at hF hS
  generalize w.alloc (.cells #[.int .i64 0] 23) = w at hS ⊢
  refine at_end [0, 2, 3, 4] [pl 0 (strV text1), pl 2 (.pointer (some ⟨g1, 0, none⟩)), pl 3 (.pointer (some ⟨g2, 0, none⟩)), pl 4 (.pointer (some ⟨g3, 0, none⟩))] hF rfl (by kernel_rfl) (fun hF => ?_)
  refine then_n ?_
  refine reg [] [] [0, 2, 3, 4, 5] [pl 0 (strV text1), pl 2 (.pointer (some ⟨g1, 0, none⟩)), pl 3 (.pointer (some ⟨g2, 0, none⟩)), pl 4 (.pointer (some ⟨g3, 0, none⟩)), pl 5 (strV ([45] : List UInt8))] hF hS Fol (by kernel_rfl) (by kernel_rfl) (by kernel_rfl) ?_ (fun a w hF hS => ?_)
  · exact obs_nil
  refine seq_cut (fun a w => ∃ (sign1 : List UInt8) (Ds1 : List Nat), FrD Ds1 58 [pl 0 (strV text1), pl 2 (.pointer (some ⟨g1, 0, none⟩)), pl 3 (.pointer (some ⟨g2, 0, none⟩)), pl 4 (.pointer (some ⟨g3, 0, none⟩)), pl 5 (strV sign1)] a ∧ Sep w0 B w (blk g1 22 #[.slice none 0 0] :: blk g2 4 #[.bool false] :: blk g3 23 #[.int .i64 0] :: defsH Ds1 :: fs) ∧ ((draughts_Read_J1 text1) sign1).bind some = some r) ?_ ?_
  · rintro a w ⟨sign1, Ds1, hF, hS, hm⟩
    unfold draughts_Read_J1 at hm
    refine seqR ?_
    refine at_do (d := 6) (s := vS (Instr.alloc 22 true (.tuple #[]))) (v := .pointer (some ⟨w.heap.size, 0, none⟩)) (w' := w.alloc (.cells #[.slice none 0 0] 22)) hF (by kernel_rfl) (by kernel_rfl) (by kernel_rfl) (fun a hF => ?_)
    have hS : Sep w0 B (w.alloc (.cells #[.slice none 0 0] 22)) (blk w.heap.size 22 #[.slice none 0 0] :: (blk g1 22 #[.slice none 0 0] :: blk g2 4 #[.bool false] :: blk g3 23 #[.int .i64 0] :: defsH Ds1 :: fs)) := hS.box 22 #[.slice none 0 0]
    generalize w.heap.size = g4 at hF hS
    generalize w.alloc (.cells #[.slice none 0 0] 22) = w at hS ⊢
    refine at_end [0, 2, 3, 4, 5, 6] [pl 0 (strV text1), pl 2 (.pointer (some ⟨g1, 0, none⟩)), pl 3 (.pointer (some ⟨g2, 0, none⟩)), pl 4 (.pointer (some ⟨g3, 0, none⟩)), pl 5 (strV sign1), pl 6 (.pointer (some ⟨g4, 0, none⟩))] hF rfl (by kernel_rfl) (fun hF => ?_)
    refine then_n ?_
    refine seq_cut (fun a w => ∃ (z2 : Int) (way2 : List Int) (A3 : Option Addr) (c3 : Nat) (Ds3 : List Nat), FrD Ds3 58 [pl 2 (.pointer (some ⟨g1, 0, none⟩)), pl 3 (.pointer (some ⟨g2, 0, none⟩)), pl 4 (.pointer (some ⟨g3, 0, none⟩)), pl 5 (strV sign1), pl 6 (.pointer (some ⟨g4, 0, none⟩))] a ∧ Sep w0 B w (blk g1 22 #[.slice none 0 0] :: blk g2 4 #[.bool false] :: blk g3 23 #[.int .i64 z2] :: blk g4 22 #[.slice A3 way2.length c3] :: own 3 (.slice A3 way2.length c3) (vI way2) :: defsH Ds3 :: fs) ∧ ((draughts_Read_J2 sign1) z2 way2).bind some = some r) ?_ ?_
    · rintro a w ⟨z2, way2, A3, c3, Ds3, hF, hS, hm⟩
      unfold draughts_Read_J2 at hm
      refine seq_cut (fun a w => ∃ (Ds4 : List Nat), FrD Ds4 58 [pl 2 (.pointer (some ⟨g1, 0, none⟩)), pl 3 (.pointer (some ⟨g2, 0, none⟩)), pl 4 (.pointer (some ⟨g3, 0, none⟩)), pl 5 (strV sign1), pl 6 (.pointer (some ⟨g4, 0, none⟩))] a ∧ Sep w0 B w (blk g1 22 #[.slice none 0 0] :: blk g2 4 #[.bool false] :: blk g3 23 #[.int .i64 z2] :: blk g4 22 #[.slice A3 way2.length c3] :: own 3 (.slice A3 way2.length c3) (vI way2) :: defsH Ds4 :: fs) ∧ ((draughts_Read_J5 sign1 way2)).bind some = some r) ?_ ?_
      · rintro a w ⟨Ds4, hF, hS, hm⟩
        unfold draughts_Read_J5 at hm
        refine seqR ?_
        refine at_run 3 [⟨false, [], vS (Instr.loadAt 22 (.pointer (some ⟨g4, 0, none⟩))), .slice A3 way2.length c3⟩, ⟨true, [], vS (do eqGuard .eql 9 (.tmp 56) (.const (strV ([120] : List UInt8))) (strV sign1) (strV ([120] : List UInt8)); binOp .eql 9 (strV sign1) (strV ([120] : List UInt8))), .bool ((sign1 == ([120] : List UInt8)))⟩] [some (.slice A3 way2.length c3), none, some (.bool ((sign1 == ([120] : List UInt8))))] [2, 3, 4, 55, 57] [pl 2 (.pointer (some ⟨g1, 0, none⟩)), pl 3 (.pointer (some ⟨g2, 0, none⟩)), pl 4 (.pointer (some ⟨g3, 0, none⟩)), pl 55 (.slice A3 way2.length c3), pl 57 (.bool (sign1 == ([120] : List UInt8)))] hF hS (by kernel_rfl) (by kernel_rfl) ?_ (fun a w hF hS => ?_)
        · exact obs_cons (ob_load Agg22 (fun _ _ hS => (hS.at_ 3 rfl).cell rfl)) <| obs_cons (ob_seql _ _) <| obs_nil
        obtain ⟨w, hrun, hS⟩ := run_put (P := Tryd.prog) (t := 22) (u := .slice A3 way2.length c3) (i := 0) (hS.at_ 0 rfl) hi22 hs22 rfl (Nat.lt_of_lt_of_eq (Nat.lt_of_succ_le (Nat.le_of_ble_eq_true (by kernel_rfl))) rfl)
        refine at_skip hF (by kernel_rfl) hrun ?_
        have hS : Sep w0 B w (blk g1 22 #[.slice A3 way2.length c3] :: blk g2 4 #[.bool false] :: blk g3 23 #[.int .i64 z2] :: blk g4 22 #[.slice A3 way2.length c3] :: own 3 (.slice A3 way2.length c3) (vI way2) :: defsH Ds4 :: fs) := hS
        obtain ⟨w, hrun, hS⟩ := run_put (P := Tryd.prog) (t := 4) (u := .bool (sign1 == ([120] : List UInt8))) (i := 0) (hS.at_ 1 rfl) hi4 hs4 rfl (Nat.lt_of_lt_of_eq (Nat.lt_of_succ_le (Nat.le_of_ble_eq_true (by kernel_rfl))) rfl)
        refine at_skip hF (by kernel_rfl) hrun ?_
        have hS : Sep w0 B w (blk g1 22 #[.slice A3 way2.length c3] :: blk g2 4 #[.bool (sign1 == ([120] : List UInt8))] :: blk g3 23 #[.int .i64 z2] :: blk g4 22 #[.slice A3 way2.length c3] :: own 3 (.slice A3 way2.length c3) (vI way2) :: defsH Ds4 :: fs) := hS
        obtain ⟨w, hrun, hS⟩ := run_put (P := Tryd.prog) (t := 23) (u := .int .i64 0) (i := 0) (hS.at_ 2 rfl) hi23 hs23 rfl (Nat.lt_of_lt_of_eq (Nat.lt_of_succ_le (Nat.le_of_ble_eq_true (by kernel_rfl))) rfl)
        refine at_skip hF (by kernel_rfl) hrun ?_
        have hS : Sep w0 B w (blk g1 22 #[.slice A3 way2.length c3] :: blk g2 4 #[.bool (sign1 == ([120] : List UInt8))] :: blk g3 23 #[.int .i64 0] :: blk g4 22 #[.slice A3 way2.length c3] :: own 3 (.slice A3 way2.length c3) (vI way2) :: defsH Ds4 :: fs) := hS
        refine at_end [2, 3, 4] [pl 2 (.pointer (some ⟨g1, 0, none⟩)), pl 3 (.pointer (some ⟨g2, 0, none⟩)), pl 4 (.pointer (some ⟨g3, 0, none⟩))] hF rfl (by kernel_rfl) (fun hF => ?_)
        refine then_n ?_
        refine wpIn_ret ?_
        have hS := hS.pickN 6 [5, 0, 1, 2, 3, 4] (by decide)
        have hm : some (way2, (sign1 == ([120] : List UInt8)), 0) = some r := hm
        obtain rfl := Option.some.inj hm
        exact retD (rs := [.cell 2 22, .cell 3 4, .cell 4 23]) (vs := [.slice A3 way2.length c3, .bool (sign1 == ([120] : List UInt8)), .int .i64 0]) hF hS rfl (fun w hS => by have hld0 := run_loadVar1 (P := Tryd.prog) (t := 22) Agg22 ((hS.at_ 0 rfl).cell (i := 0) rfl); have hld1 := run_loadVar1 (P := Tryd.prog) (t := 4) Agg4 ((hS.at_ 1 rfl).cell (i := 0) rfl); have hld2 := run_loadVar1 (P := Tryd.prog) (t := 23) Agg23 ((hS.at_ 2 rfl).cell (i := 0) rfl); exact rv_c (by kernel_rfl) hld0 <| rv_c (by kernel_rfl) hld1 <| rv_c (by kernel_rfl) hld2 <| rv_nil) rfl (fun w hS => ⟨_, rfl, A3, c3, rfl, hS.pickN 5 [4] (by decide)⟩)
      · refine wpIn_block ?_
        refine reg [⟨false, [], vS (Instr.loadAt 22 (.pointer (some ⟨g4, 0, none⟩))), .slice A3 way2.length c3⟩] [some (.slice A3 way2.length c3), none, none, none] [2, 3, 4, 5, 6, 48] [pl 2 (.pointer (some ⟨g1, 0, none⟩)), pl 3 (.pointer (some ⟨g2, 0, none⟩)), pl 4 (.pointer (some ⟨g3, 0, none⟩)), pl 5 (strV sign1), pl 6 (.pointer (some ⟨g4, 0, none⟩)), pl 48 (.bool (decide ((way2.length : Int) < 2)))] hF hS Fol (by kernel_rfl) (by kernel_rfl) (by kernel_rfl) ?_ (fun a w hF hS => ?_)
        · exact obs_cons (ob_load Agg22 (fun _ _ hS => (hS.at_ 3 rfl).cell rfl)) <| obs_nil
        refine cond_ev (t := 48) (b := decide ((way2.length : Int) < 2)) hF (by kernel_rfl) (fun hb => ?_) (fun hb => ?_)
        · replace hm := if_t hm hb
          refine seqR ?_
          obtain ⟨w, hrun, hS⟩ := run_put (P := Tryd.prog) (t := 22) (u := .slice none 0 0) (i := 0) (hS.at_ 0 rfl) hi22 hs22 rfl (Nat.lt_of_lt_of_eq (Nat.lt_of_succ_le (Nat.le_of_ble_eq_true (by kernel_rfl))) rfl)
          refine at_skip hF (by kernel_rfl) hrun ?_
          have hS : Sep w0 B w (blk g1 22 #[.slice none 0 0] :: blk g2 4 #[.bool false] :: blk g3 23 #[.int .i64 z2] :: blk g4 22 #[.slice A3 way2.length c3] :: own 3 (.slice A3 way2.length c3) (vI way2) :: defsH Ds3 :: fs) := hS
          obtain ⟨w, hrun, hS⟩ := run_put (P := Tryd.prog) (t := 4) (u := .bool false) (i := 0) (hS.at_ 1 rfl) hi4 hs4 rfl (Nat.lt_of_lt_of_eq (Nat.lt_of_succ_le (Nat.le_of_ble_eq_true (by kernel_rfl))) rfl)
          refine at_skip hF (by kernel_rfl) hrun ?_
          have hS : Sep w0 B w (blk g1 22 #[.slice none 0 0] :: blk g2 4 #[.bool false] :: blk g3 23 #[.int .i64 z2] :: blk g4 22 #[.slice A3 way2.length c3] :: own 3 (.slice A3 way2.length c3) (vI way2) :: defsH Ds3 :: fs) := hS
          obtain ⟨w, hrun, hS⟩ := run_put (P := Tryd.prog) (t := 23) (u := .int .i64 1) (i := 0) (hS.at_ 2 rfl) hi23 hs23 rfl (Nat.lt_of_lt_of_eq (Nat.lt_of_succ_le (Nat.le_of_ble_eq_true (by kernel_rfl))) rfl)
          refine at_skip hF (by kernel_rfl) hrun ?_
          have hS : Sep w0 B w (blk g1 22 #[.slice none 0 0] :: blk g2 4 #[.bool false] :: blk g3 23 #[.int .i64 1] :: blk g4 22 #[.slice A3 way2.length c3] :: own 3 (.slice A3 way2.length c3) (vI way2) :: defsH Ds3 :: fs) := hS
          refine at_end [2, 3, 4] [pl 2 (.pointer (some ⟨g1, 0, none⟩)), pl 3 (.pointer (some ⟨g2, 0, none⟩)), pl 4 (.pointer (some ⟨g3, 0, none⟩))] hF rfl (by kernel_rfl) (fun hF => ?_)
          refine then_n ?_
          refine wpIn_ret ?_
          refine block_r (then_r ?_)
          have hS : Sep w0 B w (own 3 (.slice none 0 0) (vI ([] : List Int)) :: blk g1 22 #[.slice none 0 0] :: blk g2 4 #[.bool false] :: blk g3 23 #[.int .i64 1] :: blk g4 22 #[.slice A3 way2.length c3] :: own 3 (.slice A3 way2.length c3) (vI way2) :: defsH Ds3 :: fs) := hS.nil 3
          have hl3 := (hS.at_ 0 rfl).len1
          have hS := (hS.at_ 0 rfl).reN hl3
          have hS : Sep w0 B w (own 3 (.slice none (([] : List Int).length) 0) (vI ([] : List Int)) :: blk g1 22 #[.slice none 0 0] :: blk g2 4 #[.bool false] :: blk g3 23 #[.int .i64 1] :: blk g4 22 #[.slice A3 way2.length c3] :: own 3 (.slice A3 way2.length c3) (vI way2) :: defsH Ds3 :: fs) := hS
          have hS := hS.pickN 7 [6, 0, 1, 2, 3, 4, 5] (by decide)
          have hm : some (([] : List Int), false, 1) = some r := hm
          obtain rfl := Option.some.inj hm
          exact retD (rs := [.cell 2 22, .cell 3 4, .cell 4 23]) (vs := [.slice none (([] : List Int).length) 0, .bool false, .int .i64 1]) hF hS rfl (fun w hS => by have hld0 := run_loadVar1 (P := Tryd.prog) (t := 22) Agg22 ((hS.at_ 1 rfl).cell (i := 0) rfl); have hld1 := run_loadVar1 (P := Tryd.prog) (t := 4) Agg4 ((hS.at_ 2 rfl).cell (i := 0) rfl); have hld2 := run_loadVar1 (P := Tryd.prog) (t := 23) Agg23 ((hS.at_ 3 rfl).cell (i := 0) rfl); exact rv_c (by kernel_rfl) hld0 <| rv_c (by kernel_rfl) hld1 <| rv_c (by kernel_rfl) hld2 <| rv_nil) rfl (fun w hS => ⟨_, rfl, none, 0, rfl, hS.pickN 6 [0] (by decide)⟩)
        · replace hm := if_f hm hb
          obtain ⟨r5, hr5, hm⟩ := call_b hm
          refine reg [⟨false, [], vS (Instr.loadAt 22 (.pointer (some ⟨g4, 0, none⟩))), .slice A3 way2.length c3⟩, ⟨false, [], callFunc 78 #[.slice A3 way2.length c3, .func (.func 97) #[] #[]], .bool r5⟩] [some (.slice A3 way2.length c3), some (.bool r5), none] [2, 3, 4, 5, 6, 52] [pl 2 (.pointer (some ⟨g1, 0, none⟩)), pl 3 (.pointer (some ⟨g2, 0, none⟩)), pl 4 (.pointer (some ⟨g3, 0, none⟩)), pl 5 (strV sign1), pl 6 (.pointer (some ⟨g4, 0, none⟩)), pl 52 (.bool r5)] hF hS Fol (by kernel_rfl) (by kernel_rfl) (by kernel_rfl) ?_ (fun a w hF hS => ?_)
          · exact obs_cons (ob_load Agg22 (fun _ _ hS => (hS.at_ 3 rfl).cell rfl)) <| obs_cons (ob_call Tryd.func78 (by kernel_rfl) rfl (fun _ _ hS => slices_ContainsFunc_w hr5 hS (fun _ hS => (hS.at_ 4 rfl).rd) ((hS.at_ 4 rfl).cap1) rfl)) <| obs_nil
          refine cond_ev (t := 52) (b := r5) hF (by kernel_rfl) (fun hb => ?_) (fun hb => ?_)
          · replace hm := if_t hm hb
            refine seqR ?_
            obtain ⟨w, hrun, hS⟩ := run_put (P := Tryd.prog) (t := 22) (u := .slice none 0 0) (i := 0) (hS.at_ 0 rfl) hi22 hs22 rfl (Nat.lt_of_lt_of_eq (Nat.lt_of_succ_le (Nat.le_of_ble_eq_true (by kernel_rfl))) rfl)
            refine at_skip hF (by kernel_rfl) hrun ?_
            have hS : Sep w0 B w (blk g1 22 #[.slice none 0 0] :: blk g2 4 #[.bool false] :: blk g3 23 #[.int .i64 z2] :: blk g4 22 #[.slice A3 way2.length c3] :: own 3 (.slice A3 way2.length c3) (vI way2) :: defsH Ds3 :: fs) := hS
            obtain ⟨w, hrun, hS⟩ := run_put (P := Tryd.prog) (t := 4) (u := .bool false) (i := 0) (hS.at_ 1 rfl) hi4 hs4 rfl (Nat.lt_of_lt_of_eq (Nat.lt_of_succ_le (Nat.le_of_ble_eq_true (by kernel_rfl))) rfl)
            refine at_skip hF (by kernel_rfl) hrun ?_
            have hS : Sep w0 B w (blk g1 22 #[.slice none 0 0] :: blk g2 4 #[.bool false] :: blk g3 23 #[.int .i64 z2] :: blk g4 22 #[.slice A3 way2.length c3] :: own 3 (.slice A3 way2.length c3) (vI way2) :: defsH Ds3 :: fs) := hS
            obtain ⟨w, hrun, hS⟩ := run_put (P := Tryd.prog) (t := 23) (u := .int .i64 3) (i := 0) (hS.at_ 2 rfl) hi23 hs23 rfl (Nat.lt_of_lt_of_eq (Nat.lt_of_succ_le (Nat.le_of_ble_eq_true (by kernel_rfl))) rfl)
            refine at_skip hF (by kernel_rfl) hrun ?_
            have hS : Sep w0 B w (blk g1 22 #[.slice none 0 0] :: blk g2 4 #[.bool false] :: blk g3 23 #[.int .i64 3] :: blk g4 22 #[.slice A3 way2.length c3] :: own 3 (.slice A3 way2.length c3) (vI way2) :: defsH Ds3 :: fs) := hS
            refine at_end [2, 3, 4] [pl 2 (.pointer (some ⟨g1, 0, none⟩)), pl 3 (.pointer (some ⟨g2, 0, none⟩)), pl 4 (.pointer (some ⟨g3, 0, none⟩))] hF rfl (by kernel_rfl) (fun hF => ?_)
            refine then_n ?_
            refine wpIn_ret ?_
            refine block_r (then_r ?_)
            have hS : Sep w0 B w (own 3 (.slice none 0 0) (vI ([] : List Int)) :: blk g1 22 #[.slice none 0 0] :: blk g2 4 #[.bool false] :: blk g3 23 #[.int .i64 3] :: blk g4 22 #[.slice A3 way2.length c3] :: own 3 (.slice A3 way2.length c3) (vI way2) :: defsH Ds3 :: fs) := hS.nil 3
            have hl4 := (hS.at_ 0 rfl).len1
            have hS := (hS.at_ 0 rfl).reN hl4
            have hS : Sep w0 B w (own 3 (.slice none (([] : List Int).length) 0) (vI ([] : List Int)) :: blk g1 22 #[.slice none 0 0] :: blk g2 4 #[.bool false] :: blk g3 23 #[.int .i64 3] :: blk g4 22 #[.slice A3 way2.length c3] :: own 3 (.slice A3 way2.length c3) (vI way2) :: defsH Ds3 :: fs) := hS
            have hS := hS.pickN 7 [6, 0, 1, 2, 3, 4, 5] (by decide)
            have hm : some (([] : List Int), false, 3) = some r := hm
            obtain rfl := Option.some.inj hm
            exact retD (rs := [.cell 2 22, .cell 3 4, .cell 4 23]) (vs := [.slice none (([] : List Int).length) 0, .bool false, .int .i64 3]) hF hS rfl (fun w hS => by have hld0 := run_loadVar1 (P := Tryd.prog) (t := 22) Agg22 ((hS.at_ 1 rfl).cell (i := 0) rfl); have hld1 := run_loadVar1 (P := Tryd.prog) (t := 4) Agg4 ((hS.at_ 2 rfl).cell (i := 0) rfl); have hld2 := run_loadVar1 (P := Tryd.prog) (t := 23) Agg23 ((hS.at_ 3 rfl).cell (i := 0) rfl); exact rv_c (by kernel_rfl) hld0 <| rv_c (by kernel_rfl) hld1 <| rv_c (by kernel_rfl) hld2 <| rv_nil) rfl (fun w hS => ⟨_, rfl, none, 0, rfl, hS.pickN 6 [0] (by decide)⟩)
          · replace hm := if_f hm hb
            refine wpIn_skip ?_
            refine block_n ?_
            refine then_n ?_
            exact ⟨Ds3, hF.weak [2, 3, 4, 5, 6] (by kernel_rfl), hS, hm⟩
    · refine seqR ?_
      obtain ⟨r2, hr2, hm⟩ := call_b hm
      refine at_run 2 [] [] [2, 3, 4, 5, 6, 12, 13] [pl 2 (.pointer (some ⟨g1, 0, none⟩)), pl 3 (.pointer (some ⟨g2, 0, none⟩)), pl 4 (.pointer (some ⟨g3, 0, none⟩)), pl 5 (strV sign1), pl 6 (.pointer (some ⟨g4, 0, none⟩)), pl 12 (strV text1), pl 13 (strV sign1)] hF hS (by kernel_rfl) (by kernel_rfl) ?_ (fun a w hF hS => ?_)
      · exact obs_nil
      refine at_call (f := 84) (args := #[strV text1, strV sign1]) (d := 14) hF (by kernel_rfl) (by kernel_rfl) Tryd.func84 (by kernel_rfl) rfl (strings_SplitSeq_w hr2 hS ) (fun v a w hR hF => ?_)
      clear hS
      obtain ⟨g5, g6, g7, rfl, hS⟩ := hR
      have hS : Sep w0 B w (blk g5 9 #[strV r2.1] :: blk g6 9 #[strV r2.2.1] :: blk g7 3 #[.int .i64 r2.2.2] :: blk g4 22 #[.slice none 0 0] :: blk g1 22 #[.slice none 0 0] :: blk g2 4 #[.bool false] :: blk g3 23 #[.int .i64 0] :: defsH Ds1 :: fs) := hS
      refine at_end [2, 3, 4, 5, 6, 14] [pl 2 (.pointer (some ⟨g1, 0, none⟩)), pl 3 (.pointer (some ⟨g2, 0, none⟩)), pl 4 (.pointer (some ⟨g3, 0, none⟩)), pl 5 (strV sign1), pl 6 (.pointer (some ⟨g4, 0, none⟩)), pl 14 (.func (.func 152) #[] #[.pointer (some ⟨g5, 0, none⟩), .pointer (some ⟨g6, 0, none⟩), .pointer (some ⟨g7, 0, none⟩)])] hF rfl (by kernel_rfl) (fun hF => ?_)
      refine then_n ?_
      refine wpIn_block ?_
      have hS : Sep w0 B w (own 3 (.slice none 0 0) (vI ([] : List Int)) :: blk g5 9 #[strV r2.1] :: blk g6 9 #[strV r2.2.1] :: blk g7 3 #[.int .i64 r2.2.2] :: blk g4 22 #[.slice none 0 0] :: blk g1 22 #[.slice none 0 0] :: blk g2 4 #[.bool false] :: blk g3 23 #[.int .i64 0] :: defsH Ds1 :: fs) := hS.nil 3
      have hS : Sep w0 B w (own 3 (.slice none 0 0) (vI ([] : List Int)) :: blk g5 9 #[strV r2.1] :: blk g6 9 #[strV r2.2.1] :: blk g7 3 #[.int .i64 r2.2.2] :: blk g4 22 #[.slice none 0 0] :: blk g1 22 #[.slice none 0 0] :: blk g2 4 #[.bool false] :: blk g3 23 #[.int .i64 0] :: defsH Ds1 :: fs) := hS
      have hl1 := (hS.at_ 0 rfl).len1
      have hS := (hS.at_ 0 rfl).reN hl1
      have hS := (hS.at_ 4 rfl).reBlk (congrArg (fun k9 => (#[.slice none k9 0] : Array Value)) hl1)
      have hS : Sep w0 B w (own 3 (.slice none (([] : List Int).length) 0) (vI ([] : List Int)) :: blk g5 9 #[strV r2.1] :: blk g6 9 #[strV r2.2.1] :: blk g7 3 #[.int .i64 r2.2.2] :: blk g4 22 #[.slice none (([] : List Int).length) 0] :: blk g1 22 #[.slice none 0 0] :: blk g2 4 #[.bool false] :: blk g3 23 #[.int .i64 0] :: defsH Ds1 :: fs) := hS
      have hS := hS.pickN 9 [7, 4, 0, 8, 2, 5, 6, 1, 3] (by decide)
      obtain ⟨y1, hy1, hm⟩ := call_b hm
      refine range_outP (pr := [blk g6 9 #[strV r2.2.1]]) (ρ := [pl 2 (.pointer (some ⟨g1, 0, none⟩)), pl 3 (.pointer (some ⟨g2, 0, none⟩)), pl 4 (.pointer (some ⟨g3, 0, none⟩)), pl 5 (strV sign1), pl 6 (.pointer (some ⟨g4, 0, none⟩)), pl 14 (.func (.func 152) #[] #[.pointer (some ⟨g5, 0, none⟩), .pointer (some ⟨g6, 0, none⟩), .pointer (some ⟨g7, 0, none⟩)])]) (lb := [.pointer (some ⟨g5, 0, none⟩), .pointer (some ⟨g6, 0, none⟩), .pointer (some ⟨g7, 0, none⟩)]) (y := y1) (enc := (fun (x : List UInt8) => #[strV x])) (qs := [blk g3 23 #[.int .i64 0], blk g4 22 #[.slice none (([] : List Int).length) 0], own 3 (.slice none (([] : List Int).length) 0) (vI ([] : List Int))]) (fun (x : List UInt8) => [(15, strV x)]) (fun (s : (Int × List Int)) qs => ∃ (A1 : Option Addr) (c1 : Nat), qs = [blk g3 23 #[.int .i64 s.1], blk g4 22 #[.slice A1 s.2.length c1], own 3 (.slice A1 s.2.length c1) (vI s.2)]) (fun (x : (Int × List Int)) c qs => c = .ret ∧ (fun (s : (Int × List Int)) qs => ∃ (A1 : Option Addr) (c1 : Nat), qs = [blk g3 23 #[.int .i64 s.1], blk g4 22 #[.slice A1 s.2.length c1], own 3 (.slice A1 s.2.length c1) (vI s.2)]) x qs) (fun x s => draughts_Read_L1 (x, s)) (0, ([] : List Int)) (hF.weak [2, 3, 4, 5, 6, 14] (by kernel_rfl)) hS (by kernel_rfl) Tryd.func152 (by kernel_rfl) rfl (by kernel_rfl) (by intro x; simp) (fun _ => rfl) (fun x p hp => ?_) ⟨none, 0, rfl⟩ ?_ ?_ ?_ ?_
      · simp only [List.mem_cons, List.not_mem_nil, or_false] at hp
        rcases hp with rfl <;> (dsimp only; decide)
      · intro lr1 D1 RS w hY hS
        exact Calls.mono (strings_splitSeq_1_w hy1 (hS.pickN 7 [0, 5, 2, 6, 1, 3, 4] (by decide)) (YieldC.perm (blk g5 9 #[strV r2.1] :: blk g7 3 #[.int .i64 r2.2.2] :: defsH (D1 :: Ds1) :: blk g1 22 #[.slice none 0 0] :: blk g2 4 #[.bool false] :: fs) hY (fun hS => hS.pickN 6 [0, 3, 4, 5, 1, 2] (by decide)) (fun hS => hS.pickN 6 [0, 4, 5, 1, 2, 3] (by decide))) ) (fun e w' h => by obtain ⟨_, rfl, _, hS⟩ := h; exact hS.pickN 6 [0, 3, 4, 5, 1, 2] (by decide))
      · rintro lr1 D1 rr1 x1 ⟨z1, way1⟩ r qs us1 a w hrr1 hm hI hF hS
        obtain ⟨A1, c1, rfl⟩ := hI
        replace hm := start_b hm
        unfold draughts_Read_L1 at hm
        dsimp only at hm hF hS
        have hF : Fr 58 [pl 2 (.pointer (some ⟨g1, 0, none⟩)), pl 3 (.pointer (some ⟨g2, 0, none⟩)), pl 4 (.pointer (some ⟨g3, 0, none⟩)), pl 5 (strV sign1), pl 6 (.pointer (some ⟨g4, 0, none⟩)), pl 15 (strV x1)] a := hF.weak [2, 3, 4, 5, 6, 15] (by kernel_rfl)
        have hS : Sep w0 B w (recH lr1 rr1 :: blk g3 23 #[.int .i64 z1] :: blk g4 22 #[.slice A1 way1.length c1] :: own 3 (.slice A1 way1.length c1) (vI way1) :: defsH (D1 :: Ds1) :: blk g1 22 #[.slice none 0 0] :: blk g2 4 #[.bool false] :: blk g5 9 #[strV r2.1] :: blk g7 3 #[.int .i64 r2.2.2] :: (fs ++ us1)) := hS
        refine reg1 [] [] [2, 3, 4, 6, 7] [pl 2 (.pointer (some ⟨g1, 0, none⟩)), pl 3 (.pointer (some ⟨g2, 0, none⟩)), pl 4 (.pointer (some ⟨g3, 0, none⟩)), pl 6 (.pointer (some ⟨g4, 0, none⟩)), pl 7 (strV x1)] hF hS Fol (by kernel_rfl) (by kernel_rfl) (by kernel_rfl) ?_ (fun a w hF hS => ?_)
        · exact obs_nil
        refine then_n ?_
        refine begin_r hS hrr1 (fun w hS => ?_)
        have hS : Sep w0 B w (recH lr1 { rr1 with state := .busy } :: blk g3 23 #[.int .i64 z1] :: blk g4 22 #[.slice A1 way1.length c1] :: own 3 (.slice A1 way1.length c1) (vI way1) :: defsH (D1 :: Ds1) :: blk g1 22 #[.slice none 0 0] :: blk g2 4 #[.bool false] :: blk g5 9 #[strV r2.1] :: blk g7 3 #[.int .i64 r2.2.2] :: (fs ++ us1)) := hS
        refine wpIn_block ?_
        refine seqR ?_
        obtain ⟨r3, hr3, hm⟩ := call_b hm
        refine at_run 1 [] [] [2, 3, 4, 6, 7, 17] [pl 2 (.pointer (some ⟨g1, 0, none⟩)), pl 3 (.pointer (some ⟨g2, 0, none⟩)), pl 4 (.pointer (some ⟨g3, 0, none⟩)), pl 6 (.pointer (some ⟨g4, 0, none⟩)), pl 7 (strV x1), pl 17 (strV x1)] hF hS (by kernel_rfl) (by kernel_rfl) ?_ (fun a w hF hS => ?_)
        · exact obs_nil
        refine at_call (f := 58) (args := #[strV x1]) (d := 18) hF (by kernel_rfl) (by kernel_rfl) Tryd.func58 (by kernel_rfl) rfl (strconv_Atoi_w hr3 hS ) (fun v a w hR hF => ?_)
        clear hS
        obtain ⟨N1, rfl, hS⟩ := hR
        have hS : Sep w0 B w (recH lr1 { rr1 with state := .busy } :: blk g3 23 #[.int .i64 z1] :: blk g4 22 #[.slice A1 way1.length c1] :: own 3 (.slice A1 way1.length c1) (vI way1) :: defsH (D1 :: Ds1) :: blk g1 22 #[.slice none 0 0] :: blk g2 4 #[.bool false] :: blk g5 9 #[strV r2.1] :: blk g7 3 #[.int .i64 r2.2.2] :: (fs ++ us1)) := hS
        refine at_run 5 [] [] [2, 3, 4, 6, 7, 8, 9] [pl 2 (.pointer (some ⟨g1, 0, none⟩)), pl 3 (.pointer (some ⟨g2, 0, none⟩)), pl 4 (.pointer (some ⟨g3, 0, none⟩)), pl 6 (.pointer (some ⟨g4, 0, none⟩)), pl 7 (strV x1), pl 8 (.int .i64 r3.1), pl 9 (errV r3.2 (AtoiR.t 168) N1)] hF hS (by kernel_rfl) (by kernel_rfl) ?_ (fun a w hF hS => ?_)
        · exact obs_nil
        refine at_end [2, 3, 4, 6, 7, 8, 9] [pl 2 (.pointer (some ⟨g1, 0, none⟩)), pl 3 (.pointer (some ⟨g2, 0, none⟩)), pl 4 (.pointer (some ⟨g3, 0, none⟩)), pl 6 (.pointer (some ⟨g4, 0, none⟩)), pl 7 (strV x1), pl 8 (.int .i64 r3.1), pl 9 (errV r3.2 (AtoiR.t 168) N1)] hF rfl (by kernel_rfl) (fun hF => ?_)
        refine then_n ?_
        refine seq_cut (fun a w => Fr 58 [pl 6 (.pointer (some ⟨g4, 0, none⟩)), pl 8 (.int .i64 r3.1), pl 9 (errV r3.2 (AtoiR.t 168) N1)] a ∧ Sep w0 B w (blk g4 22 #[.slice A1 way1.length c1] :: own 3 (.slice A1 way1.length c1) (vI way1) :: defsH (D1 :: Ds1) :: recH lr1 { rr1 with state := .busy } :: blk g3 23 #[.int .i64 z1] :: blk g1 22 #[.slice none 0 0] :: blk g2 4 #[.bool false] :: blk g5 9 #[strV r2.1] :: blk g7 3 #[.int .i64 r2.2.2] :: (fs ++ us1)) ∧ ((draughts_Read_J3 z1 way1 r3)).bind some = some r) ?_ ?_
        · rintro a w ⟨hF, hS, hm⟩
          unfold draughts_Read_J3 at hm
          refine seq_cut (fun a w => ∃ (n1 : Int), Fr 58 [pl 6 (.pointer (some ⟨g4, 0, none⟩)), pl 8 (.int .i64 n1)] a ∧ Sep w0 B w (blk g4 22 #[.slice A1 way1.length c1] :: own 3 (.slice A1 way1.length c1) (vI way1) :: defsH (D1 :: Ds1) :: recH lr1 { rr1 with state := .busy } :: blk g3 23 #[.int .i64 z1] :: blk g1 22 #[.slice none 0 0] :: blk g2 4 #[.bool false] :: blk g5 9 #[strV r2.1] :: blk g7 3 #[.int .i64 r2.2.2] :: (fs ++ us1)) ∧ ((draughts_Read_J4 z1 way1) n1).bind some = some r) ?_ ?_
          · rintro a w ⟨n1, hF, hS, hm⟩
            unfold draughts_Read_J4 at hm
            refine oneR ?_
            obtain ⟨hp2, hm⟩ := asrt_b hm
            refine at_run 2 [⟨false, [], vS (Instr.loadAt 22 (.pointer (some ⟨g4, 0, none⟩))), .slice A1 way1.length c1⟩] [some (.slice A1 way1.length c1), none] [6, 44, 45] [pl 6 (.pointer (some ⟨g4, 0, none⟩)), pl 44 (.slice A1 way1.length c1), pl 45 (.int .i64 n1)] hF hS (by kernel_rfl) (by kernel_rfl) ?_ (fun a w hF hS => ?_)
            · exact obs_cons (ob_load Agg22 (fun _ _ hS => (hS.at_ 0 rfl).cell rfl)) <| obs_nil
            refine at_do (d := 46) (s := vS (Instr.buildSlice 22 1 #[(0, .int .i64 n1)])) (v := .slice (some ⟨w.heap.size, 0, none⟩) 1 1) (w' := w.alloc (.cells #[.int .i64 n1] 3)) hF (by kernel_rfl) (by kernel_rfl) (by kernel_rfl) (fun a hF => ?_)
            have hS : Sep w0 B (w.alloc (.cells #[.int .i64 n1] 3)) (own 3 (.slice (some (⟨w.heap.size, 0, none⟩ : Addr)) 1 1) (vI ([n1] : List Int)) :: (blk g4 22 #[.slice A1 way1.length c1] :: own 3 (.slice A1 way1.length c1) (vI way1) :: defsH (D1 :: Ds1) :: recH lr1 { rr1 with state := .busy } :: blk g3 23 #[.int .i64 z1] :: blk g1 22 #[.slice none 0 0] :: blk g2 4 #[.bool false] :: blk g5 9 #[strV r2.1] :: blk g7 3 #[.int .i64 r2.2.2] :: (fs ++ us1))) := hS.lit 3 #[.int .i64 n1] 1 rfl (by omega)
            generalize (some (⟨w.heap.size, 0, none⟩ : Addr)) = g8 at hF hS
            generalize w.alloc (.cells #[.int .i64 n1] 3) = w at hS ⊢
            obtain ⟨A2, c2, w, hrun, hS⟩ := run_app1 (P := Tryd.prog) (t := 22) (m := way1) (ys := ([n1] : List Int)) (A2 := g8) (m2 := 1) (c2 := 1) (Value.int .i64) (0 : Int) (hS.at_ 2 rfl) (hS.at_ 0 rfl).rd ((hS.at_ 0 rfl).len1) 22 Und22 hi3 hz3 hs3 (by omega) rfl (fun _ => rfl) hp2
            have hS : Sep w0 B w (own 3 (.slice g8 1 1) (vI ([n1] : List Int)) :: blk g4 22 #[.slice A1 way1.length c1] :: own 3 (.slice A2 ((way1 ++ ([n1] : List Int)).length) c2) (vI (way1 ++ ([n1] : List Int))) :: defsH (D1 :: Ds1) :: recH lr1 { rr1 with state := .busy } :: blk g3 23 #[.int .i64 z1] :: blk g1 22 #[.slice none 0 0] :: blk g2 4 #[.bool false] :: blk g5 9 #[strV r2.1] :: blk g7 3 #[.int .i64 r2.2.2] :: (fs ++ us1)) := hS
            refine at_do (d := 47) hF (by kernel_rfl) (by kernel_rfl) hrun (fun a hF => ?_)
            obtain ⟨w, hrun, hS⟩ := run_put (P := Tryd.prog) (t := 22) (u := .slice A2 ((way1 ++ ([n1] : List Int)).length) c2) (i := 0) (hS.at_ 1 rfl) hi22 hs22 rfl (Nat.lt_of_lt_of_eq (Nat.lt_of_succ_le (Nat.le_of_ble_eq_true (by kernel_rfl))) rfl)
            refine at_skip hF (by kernel_rfl) hrun ?_
            have hS : Sep w0 B w (own 3 (.slice g8 1 1) (vI ([n1] : List Int)) :: blk g4 22 #[.slice A2 ((way1 ++ ([n1] : List Int)).length) c2] :: own 3 (.slice A2 ((way1 ++ ([n1] : List Int)).length) c2) (vI (way1 ++ ([n1] : List Int))) :: defsH (D1 :: Ds1) :: recH lr1 { rr1 with state := .busy } :: blk g3 23 #[.int .i64 z1] :: blk g1 22 #[.slice none 0 0] :: blk g2 4 #[.bool false] :: blk g5 9 #[strV r2.1] :: blk g7 3 #[.int .i64 r2.2.2] :: (fs ++ us1)) := hS
            refine at_end [] [] hF rfl (by kernel_rfl) (fun hF => ?_)
            refine block_n ?_
            have hS := hS.pickN 10 [4, 5, 1, 2, 3, 6, 7, 8, 9] (by decide)
            have hm : some (.next (z1, (way1 ++ ([n1] : List Int)))) = some r := hm
            obtain rfl := Option.some.inj hm
            exact ⟨_, _, rfl, ⟨A2, c2, rfl⟩, hS⟩
          · refine reg [⟨true, [], vS (do eqGuard .neq 88 (.tmp 42) (.const .nilIface) (errV r3.2 (AtoiR.t 168) N1) .nilIface; binOp .neq 88 (errV r3.2 (AtoiR.t 168) N1) .nilIface), .bool r3.2⟩] [none, some (.bool r3.2)] [6, 8, 43] [pl 6 (.pointer (some ⟨g4, 0, none⟩)), pl 8 (.int .i64 r3.1), pl 43 (.bool r3.2)] hF hS Fol (by kernel_rfl) (by kernel_rfl) (by kernel_rfl) ?_ (fun a w hF hS => ?_)
            · exact obs_cons (ob_errne Tryd.underlying88 _ _ _ _) <| obs_nil
            refine cond_ev (t := 43) (b := r3.2) hF (by kernel_rfl) (fun hb => ?_) (fun hb => ?_)
            · replace hm := if_t hm hb
              refine reg1 [] [] [6, 8] [pl 6 (.pointer (some ⟨g4, 0, none⟩)), pl 8 (.int .i64 99)] hF hS Fol (by kernel_rfl) (by kernel_rfl) (by kernel_rfl) ?_ (fun a w hF hS => ?_)
              · exact obs_nil
              refine then_n ?_
              exact ⟨99, hF.weak [6, 8] (by kernel_rfl), hS, hm⟩
            · replace hm := if_f hm hb
              refine wpIn_skip ?_
              refine then_n ?_
              exact ⟨r3.1, hF.weak [6, 8] (by kernel_rfl), hS, hm⟩
        · obtain ⟨r4, hr4, hm⟩ := call_b hm
          obtain ⟨hp1, hm⟩ := asrt_b hm
          refine reg [⟨true, [], vS (do eqGuard .neq 88 (.tmp 21) (.const .nilIface) (errV r3.2 (AtoiR.t 168) N1) .nilIface; binOp .neq 88 (errV r3.2 (AtoiR.t 168) N1) .nilIface), .bool r3.2⟩, ⟨true, [(r3.2, true)], vS (Builtin.len_ #[9] 3 #[strV x1]), .int .i64 (x1.length : Int)⟩, ⟨true, [(r3.2 && (decide ((x1.length : Int) < 19)), false)], vS (do eqGuard .eql 9 (.tmp 29) (.const (strV ([] : List UInt8))) (strV x1) (strV ([] : List UInt8)); binOp .eql 9 (strV x1) (strV ([] : List UInt8))), .bool ((x1 == ([] : List UInt8)))⟩, ⟨false, [((r3.2 && (decide ((x1.length : Int) < 19))) || (x1 == ([] : List UInt8)), false)], callFunc 76 #[strV x1, strV ([48, 49, 50, 51, 52, 53, 54, 55, 56, 57] : List UInt8)], strV r4⟩, ⟨true, [((r3.2 && (decide ((x1.length : Int) < 19))) || (x1 == ([] : List UInt8)), false)], vS (do eqGuard .neq 9 (.tmp 34) (.const (strV ([] : List UInt8))) (strV r4) (strV ([] : List UInt8)); binOp .neq 9 (strV r4) (strV ([] : List UInt8))), .bool (!(r4 == ([] : List UInt8)))⟩, ⟨true, [(((r3.2 && (decide ((x1.length : Int) < 19))) || (x1 == ([] : List UInt8))) || (!(r4 == ([] : List UInt8))), false)], vS (Instr.index 9 (strV x1) (.int .i64 0)), .int .u8 (getU x1 0)⟩] [none, some (.bool r3.2), none, none, some (.int .i64 (x1.length : Int)), none, none, none, none, some (.bool ((x1 == ([] : List UInt8)))), none, none, none, some (strV r4), some (.bool (!(r4 == ([] : List UInt8)))), none, none, none, some (.int .u8 (getU x1 0)), none, none] [2, 3, 4, 6, 8, 9, 41] [pl 2 (.pointer (some ⟨g1, 0, none⟩)), pl 3 (.pointer (some ⟨g2, 0, none⟩)), pl 4 (.pointer (some ⟨g3, 0, none⟩)), pl 6 (.pointer (some ⟨g4, 0, none⟩)), pl 8 (.int .i64 r3.1), pl 9 (errV r3.2 (AtoiR.t 168) N1), pl 41 (.bool ((((r3.2 && (decide ((x1.length : Int) < 19))) || (x1 == ([] : List UInt8))) || (!(r4 == ([] : List UInt8)))) || ((getU x1 0) == 48)))] hF hS Fol (by kernel_rfl) (by kernel_rfl) (by kernel_rfl) ?_ (fun a w hF hS => ?_)
          · exact obs_cons (ob_errne Tryd.underlying88 _ _ _ _) <| obs_cons (ob_slen (s := x1) (by kernel_rfl) 3) <| obs_cons (ob_seql _ _) <| obs_cons (ob_call Tryd.func76 (by kernel_rfl) rfl (fun hy _ hS => strings_Trim_w (ite_some hr4 (by rw [show ((r3.2 && (decide ((x1.length : Int) < 19))) || (x1 == ([] : List UInt8))) = false from hy ((r3.2 && (decide ((x1.length : Int) < 19))) || (x1 == ([] : List UInt8)), false) (by simp)]; try rfl)) hS )) <| obs_cons (ob_sneq _ _) <| obs_cons (ob_sidx (s := x1) (by kernel_rfl) (fun hy => hp1 (hy (((r3.2 && (decide ((x1.length : Int) < 19))) || (x1 == ([] : List UInt8))) || (!(r4 == ([] : List UInt8))), false) (by simp)))) <| obs_nil
          refine cond_ev (t := 41) (b := (((r3.2 && (decide ((x1.length : Int) < 19))) || (x1 == ([] : List UInt8))) || (!(r4 == ([] : List UInt8)))) || ((getU x1 0) == 48)) hF (by kernel_rfl) (fun hb => ?_) (fun hb => ?_)
          · replace hm := if_t hm hb
            refine seqR ?_
            obtain ⟨w, hrun, hS⟩ := run_put (P := Tryd.prog) (t := 22) (u := .slice none 0 0) (i := 0) (hS.at_ 5 rfl) hi22 hs22 rfl (Nat.lt_of_lt_of_eq (Nat.lt_of_succ_le (Nat.le_of_ble_eq_true (by kernel_rfl))) rfl)
            refine at_skip hF (by kernel_rfl) hrun ?_
            have hS : Sep w0 B w (recH lr1 { rr1 with state := .busy } :: blk g3 23 #[.int .i64 z1] :: blk g4 22 #[.slice A1 way1.length c1] :: own 3 (.slice A1 way1.length c1) (vI way1) :: defsH (D1 :: Ds1) :: blk g1 22 #[.slice none 0 0] :: blk g2 4 #[.bool false] :: blk g5 9 #[strV r2.1] :: blk g7 3 #[.int .i64 r2.2.2] :: (fs ++ us1)) := hS
            obtain ⟨w, hrun, hS⟩ := run_put (P := Tryd.prog) (t := 4) (u := .bool false) (i := 0) (hS.at_ 6 rfl) hi4 hs4 rfl (Nat.lt_of_lt_of_eq (Nat.lt_of_succ_le (Nat.le_of_ble_eq_true (by kernel_rfl))) rfl)
            refine at_skip hF (by kernel_rfl) hrun ?_
            have hS : Sep w0 B w (recH lr1 { rr1 with state := .busy } :: blk g3 23 #[.int .i64 z1] :: blk g4 22 #[.slice A1 way1.length c1] :: own 3 (.slice A1 way1.length c1) (vI way1) :: defsH (D1 :: Ds1) :: blk g1 22 #[.slice none 0 0] :: blk g2 4 #[.bool false] :: blk g5 9 #[strV r2.1] :: blk g7 3 #[.int .i64 r2.2.2] :: (fs ++ us1)) := hS
            obtain ⟨w, hrun, hS⟩ := run_put (P := Tryd.prog) (t := 23) (u := .int .i64 1) (i := 0) (hS.at_ 1 rfl) hi23 hs23 rfl (Nat.lt_of_lt_of_eq (Nat.lt_of_succ_le (Nat.le_of_ble_eq_true (by kernel_rfl))) rfl)
            refine at_skip hF (by kernel_rfl) hrun ?_
            have hS : Sep w0 B w (recH lr1 { rr1 with state := .busy } :: blk g3 23 #[.int .i64 1] :: blk g4 22 #[.slice A1 way1.length c1] :: own 3 (.slice A1 way1.length c1) (vI way1) :: defsH (D1 :: Ds1) :: blk g1 22 #[.slice none 0 0] :: blk g2 4 #[.bool false] :: blk g5 9 #[strV r2.1] :: blk g7 3 #[.int .i64 r2.2.2] :: (fs ++ us1)) := hS
            refine at_end [] [] hF rfl (by kernel_rfl) (fun hF => ?_)
            refine then_n ?_
            refine wpIn_ret ?_
            refine then_r (block_r ?_)
            have hm : some (.done (1, way1)) = some r := hm
            obtain rfl := Option.some.inj hm
            exact ⟨_, _, rfl, ⟨rfl, ⟨A1, c1, rfl⟩⟩, hS⟩
          · replace hm := if_f hm hb
            refine wpIn_skip ?_
            refine then_n ?_
            have hS := hS.pickN 9 [2, 3, 4, 0, 1, 5, 6, 7, 8] (by decide)
            exact ⟨hF.weak [6, 8, 9] (by kernel_rfl), hS, hm⟩
      · rintro ⟨z1, way1⟩ D1 qs a w hy1e hI hF hS
        obtain ⟨A1, c1, rfl⟩ := hI
        rw [hy1e] at hm
        unfold draughts_Read_K1 at hm
        dsimp only at hm hF hS
        have hF : FrD (D1 :: Ds1) 58 [pl 2 (.pointer (some ⟨g1, 0, none⟩)), pl 3 (.pointer (some ⟨g2, 0, none⟩)), pl 4 (.pointer (some ⟨g3, 0, none⟩)), pl 5 (strV sign1), pl 6 (.pointer (some ⟨g4, 0, none⟩)), pl 14 (.func (.func 152) #[] #[.pointer (some ⟨g5, 0, none⟩), .pointer (some ⟨g6, 0, none⟩), .pointer (some ⟨g7, 0, none⟩)])] a := hF
        have hS : Sep w0 B w (blk g3 23 #[.int .i64 z1] :: blk g4 22 #[.slice A1 way1.length c1] :: own 3 (.slice A1 way1.length c1) (vI way1) :: defsH (D1 :: Ds1) :: blk g1 22 #[.slice none 0 0] :: blk g2 4 #[.bool false] :: blk g5 9 #[strV r2.1] :: blk g7 3 #[.int .i64 r2.2.2] :: fs) := hS
        refine block_n ?_
        refine then_n ?_
        have hS := hS.pickN 8 [4, 5, 0, 1, 2, 3] (by decide)
        exact ⟨z1, way1, A1, c1, (D1 :: Ds1), hF.weak [2, 3, 4, 5, 6] (by kernel_rfl), hS, hm⟩
      · rintro ⟨z1, way1⟩ c D1 qs a w hy1e hI hF hS
        obtain ⟨rfl, A1, c1, rfl⟩ := hI
        rw [hy1e] at hm
        unfold draughts_Read_K1 at hm
        dsimp only at hm hF hS
        have hF : FrD (D1 :: Ds1) 58 [pl 2 (.pointer (some ⟨g1, 0, none⟩)), pl 3 (.pointer (some ⟨g2, 0, none⟩)), pl 4 (.pointer (some ⟨g3, 0, none⟩)), pl 5 (strV sign1), pl 6 (.pointer (some ⟨g4, 0, none⟩)), pl 14 (.func (.func 152) #[] #[.pointer (some ⟨g5, 0, none⟩), .pointer (some ⟨g6, 0, none⟩), .pointer (some ⟨g7, 0, none⟩)])] a := hF
        have hS : Sep w0 B w (blk g3 23 #[.int .i64 z1] :: blk g4 22 #[.slice A1 way1.length c1] :: own 3 (.slice A1 way1.length c1) (vI way1) :: defsH (D1 :: Ds1) :: blk g1 22 #[.slice none 0 0] :: blk g2 4 #[.bool false] :: blk g5 9 #[strV r2.1] :: blk g7 3 #[.int .i64 r2.2.2] :: fs) := hS
        refine wpIn_ret ?_
        refine block_r (then_r ?_)
        have hS : Sep w0 B w (own 3 (.slice none 0 0) (vI ([] : List Int)) :: blk g3 23 #[.int .i64 z1] :: blk g4 22 #[.slice A1 way1.length c1] :: own 3 (.slice A1 way1.length c1) (vI way1) :: defsH (D1 :: Ds1) :: blk g1 22 #[.slice none 0 0] :: blk g2 4 #[.bool false] :: blk g5 9 #[strV r2.1] :: blk g7 3 #[.int .i64 r2.2.2] :: fs) := hS.nil 3
        have hl2 := (hS.at_ 0 rfl).len1
        have hS := (hS.at_ 0 rfl).reN hl2
        have hS : Sep w0 B w (own 3 (.slice none (([] : List Int).length) 0) (vI ([] : List Int)) :: blk g3 23 #[.int .i64 z1] :: blk g4 22 #[.slice A1 way1.length c1] :: own 3 (.slice A1 way1.length c1) (vI way1) :: defsH (D1 :: Ds1) :: blk g1 22 #[.slice none 0 0] :: blk g2 4 #[.bool false] :: blk g5 9 #[strV r2.1] :: blk g7 3 #[.int .i64 r2.2.2] :: fs) := hS
        have hS := hS.pickN 9 [4, 0, 1, 2, 3, 5, 6, 7, 8] (by decide)
        have hm : some (([] : List Int), false, z1) = some r := hm
        obtain rfl := Option.some.inj hm
        exact retD (rs := [.cell 2 22, .cell 3 4, .cell 4 23]) (vs := [.slice none (([] : List Int).length) 0, .bool false, .int .i64 z1]) hF hS rfl (fun w hS => by have hld0 := run_loadVar1 (P := Tryd.prog) (t := 22) Agg22 ((hS.at_ 4 rfl).cell (i := 0) rfl); have hld1 := run_loadVar1 (P := Tryd.prog) (t := 4) Agg4 ((hS.at_ 5 rfl).cell (i := 0) rfl); have hld2 := run_loadVar1 (P := Tryd.prog) (t := 23) Agg23 ((hS.at_ 1 rfl).cell (i := 0) rfl); exact rv_c (by kernel_rfl) hld0 <| rv_c (by kernel_rfl) hld1 <| rv_c (by kernel_rfl) hld2 <| rv_nil) rfl (fun w hS => ⟨_, rfl, none, 0, rfl, hS.pickN 8 [0] (by decide)⟩)
  · obtain ⟨r1, hr1, hm⟩ := call_b hm
    refine reg [⟨false, [], callFunc 99 #[strV text1, strV ([120] : List UInt8)], .bool r1⟩] [none, some (.bool r1)] [0, 2, 3, 4, 5, 11] [pl 0 (strV text1), pl 2 (.pointer (some ⟨g1, 0, none⟩)), pl 3 (.pointer (some ⟨g2, 0, none⟩)), pl 4 (.pointer (some ⟨g3, 0, none⟩)), pl 5 (strV ([45] : List UInt8)), pl 11 (.bool r1)] hF hS Fol (by kernel_rfl) (by kernel_rfl) (by kernel_rfl) ?_ (fun a w hF hS => ?_)
    · exact obs_cons (ob_call Tryd.func99 (by kernel_rfl) rfl (fun _ _ hS => strings_Contains_w hr1 hS )) <| obs_nil
    refine cond_ev (t := 11) (b := r1) hF (by kernel_rfl) (fun hb => ?_) (fun hb => ?_)
    · replace hm := if_t hm hb
      refine reg1 [] [] [0, 2, 3, 4, 5] [pl 0 (strV text1), pl 2 (.pointer (some ⟨g1, 0, none⟩)), pl 3 (.pointer (some ⟨g2, 0, none⟩)), pl 4 (.pointer (some ⟨g3, 0, none⟩)), pl 5 (strV ([120] : List UInt8))] hF hS Fol (by kernel_rfl) (by kernel_rfl) (by kernel_rfl) ?_ (fun a w hF hS => ?_)
      · exact obs_nil
      refine then_n ?_
      have hS := hS.pickN 4 [2, 1, 0, 3] (by decide)
      exact ⟨([120] : List UInt8), ([]), hF.weak [0, 2, 3, 4, 5] (by kernel_rfl), hS, hm⟩
    · replace hm := if_f hm hb
      refine wpIn_skip ?_
      refine then_n ?_
      have hS := hS.pickN 4 [2, 1, 0, 3] (by decide)
      exact ⟨([45] : List UInt8), ([]), hF.weak [0, 2, 3, 4, 5] (by kernel_rfl), hS, hm⟩

noncomputable def gameroomref_within_m  (n1 : Int) (low1 : Int) (high1 : Int) : Option Bool :=
  some ((decide (low1 ≤ n1)) && (decide (n1 ≤ high1)))

set_option maxRecDepth 100000 in
set_option maxHeartbeats 4000000 in
theorem gameroomref_within_w  {n1 : Int} {low1 : Int} {high1 : Int} {r : Bool} {w0 w : World} {B : Nat} {fs : List HP} (hm : gameroomref_within_m n1 low1 high1 = some r) (hS : Sep w0 B w (fs)) :
    Calls Tryd.prog 53 #[.int .i64 n1, .int .i64 low1, .int .i64 high1] w fun e w' => e = .returned (.bool r) ∧ Sep w0 B w' (fs) := by
  unfold gameroomref_within_m at hm
  replace hm := start_b hm
  refine enter (l := [.int .i64 n1, .int .i64 low1, .int .i64 high1]) (n := 15) Tryd.func53 rfl rfl (by simp) (fun a hF => ?_)
  refine reg [] [] [0, 1, 2] [pl 0 (.int .i64 n1), pl 1 (.int .i64 low1), pl 2 (.int .i64 high1)] hF hS Fol (by kernel_rfl) (by kernel_rfl) (by kernel_rfl) ?_ (fun a w hF hS => ?_)
  · exact obs_nil
  refine reg [] [] [6] [pl 6 (.bool ((decide (low1 ≤ n1)) && (decide (n1 ≤ high1))))] hF hS Fol (by kernel_rfl) (by kernel_rfl) (by kernel_rfl) ?_ (fun a w hF hS => ?_)
  · exact obs_nil
  refine wpIn_ret ?_
  have hm : some ((decide (low1 ≤ n1)) && (decide (n1 ≤ high1))) = some r := hm
  obtain rfl := Option.some.inj hm
  exact retV (rs := [.tmp 6]) (vs := [.bool ((decide (low1 ≤ n1)) && (decide (n1 ≤ high1)))]) hF rfl (rv_t (by kernel_rfl) <| rv_nil) rfl ⟨rfl, hS⟩

noncomputable def gameroomref_Dec_J3  (rec_gameroomref_Dec : Int → Option (List UInt8)) (n1 : Int) : Option (List UInt8) :=
  (rec_gameroomref_Dec (w64 (Int.tdiv n1 10))).bind fun r4 => (rec_gameroomref_Dec (Int.tmod n1 10)).bind fun r5 => asrt ((r4.length : Int) + r5.length ≤ bigN) <| some (r4 ++ r5)

noncomputable def gameroomref_Dec_J2  (rec_gameroomref_Dec : Int → Option (List UInt8)) (n1 : Int) : Option (List UInt8) :=
  if (decide (n1 < 10)) then (some (b8 ([IntKind.wrap .u8 (w64 (48 + n1))] : List Int))) else ((gameroomref_Dec_J3 rec_gameroomref_Dec n1))

noncomputable def gameroomref_Dec_J1  (rec_gameroomref_Dec : Int → Option (List UInt8)) (n1 : Int) : Option (List UInt8) :=
  if (decide (n1 < 0)) then ((rec_gameroomref_Dec (w64 (0 - n1))).bind fun r3 => asrt ((([45] : List UInt8).length : Int) + r3.length ≤ bigN) <| some (([45] : List UInt8) ++ r3)) else ((gameroomref_Dec_J2 rec_gameroomref_Dec n1))

noncomputable def gameroomref_Dec_B  (rec_gameroomref_Dec : Int → Option (List UInt8)) (n1 : Int) : Option (List UInt8) :=
  if (decide (n1 ≤ (-10))) then ((rec_gameroomref_Dec (w64 (0 - (w64 (Int.tdiv n1 10))))).bind fun r1 => asrt ((([45] : List UInt8).length : Int) + r1.length ≤ bigN) <| (rec_gameroomref_Dec (w64 (0 - (Int.tmod n1 10)))).bind fun r2 => asrt (((([45] : List UInt8) ++ r1).length : Int) + r2.length ≤ bigN) <| some ((([45] : List UInt8) ++ r1) ++ r2)) else ((gameroomref_Dec_J1 rec_gameroomref_Dec n1))

noncomputable def gameroomref_Dec_mF  : Nat → Int → Option (List UInt8)
  | 0 => fun _ => none
  | n + 1 => fun n1 => gameroomref_Dec_B (gameroomref_Dec_mF n) n1

noncomputable def gameroomref_Dec_m  (n1 : Int) : Option (List UInt8) :=
  recM fun n => gameroomref_Dec_mF n n1

set_option maxRecDepth 100000 in
set_option maxHeartbeats 4000000 in
theorem gameroomref_Dec_wB  {rec_gameroomref_Dec : Int → Option (List UInt8)} (ih_gameroomref_Dec : ∀ {n1 : Int} {r : (List UInt8)} {w0 w : World} {B : Nat} {fs : List HP} (_ : rec_gameroomref_Dec n1 = some r) (_ : Sep w0 B w (fs)), Calls Tryd.prog 59 #[.int .i64 n1] w fun e w' => e = .returned (strV r) ∧ Sep w0 B w' (fs)) {n1 : Int} {r : (List UInt8)} {w0 w : World} {B : Nat} {fs : List HP} (hm : gameroomref_Dec_B rec_gameroomref_Dec n1 = some r) (hS : Sep w0 B w (fs)) :
    Calls Tryd.prog 59 #[.int .i64 n1] w fun e w' => e = .returned (strV r) ∧ Sep w0 B w' (fs) := by
  obtain ⟨i5, hi5, hz5, hs5, hb5⟩ := info_parts Info5
  unfold gameroomref_Dec_B at hm
  replace hm := start_b hm
  refine enter (l := [.int .i64 n1]) (n := 35) Tryd.func59 rfl rfl (by simp) (fun a hF => ?_)
  refine reg [] [] [0] [pl 0 (.int .i64 n1)] hF hS Fol (by kernel_rfl) (by kernel_rfl) (by kernel_rfl) ?_ (fun a w hF hS => ?_)
  · exact obs_nil
  refine seq_cut (fun a w => Fr 35 [pl 0 (.int .i64 n1)] a ∧ Sep w0 B w (fs) ∧ ((gameroomref_Dec_J1 rec_gameroomref_Dec n1)).bind some = some r) ?_ ?_
  · rintro a w ⟨hF, hS, hm⟩
    unfold gameroomref_Dec_J1 at hm
    refine seq_cut (fun a w => Fr 35 [pl 0 (.int .i64 n1)] a ∧ Sep w0 B w (fs) ∧ ((gameroomref_Dec_J2 rec_gameroomref_Dec n1)).bind some = some r) ?_ ?_
    · rintro a w ⟨hF, hS, hm⟩
      unfold gameroomref_Dec_J2 at hm
      refine seq_cut (fun a w => Fr 35 [pl 0 (.int .i64 n1)] a ∧ Sep w0 B w (fs) ∧ ((gameroomref_Dec_J3 rec_gameroomref_Dec n1)).bind some = some r) ?_ ?_
      · rintro a w ⟨hF, hS, hm⟩
        unfold gameroomref_Dec_J3 at hm
        obtain ⟨r4, hr4, hm⟩ := call_b hm
        obtain ⟨r5, hr5, hm⟩ := call_b hm
        obtain ⟨hp4, hm⟩ := asrt_b hm
        refine reg [⟨false, [], callFunc 59 #[.int .i64 (w64 (Int.tdiv n1 10))], strV r4⟩, ⟨false, [], callFunc 59 #[.int .i64 (Int.tmod n1 10)], strV r5⟩, ⟨true, [], vS (do eqGuard .add 9 (.tmp 30) (.tmp 33) (strV r4) (strV r5); binOp .add 9 (strV r4) (strV r5)), strV (r4 ++ r5)⟩] [none, none, some (strV r4), none, none, some (strV r5), some (strV (r4 ++ r5)), none] [2] [pl 2 (strV (r4 ++ r5))] hF hS Fol (by kernel_rfl) (by kernel_rfl) (by kernel_rfl) ?_ (fun a w hF hS => ?_)
        · exact obs_cons (ob_call Tryd.func59 (by kernel_rfl) rfl (fun _ _ hS => ih_gameroomref_Dec hr4 hS )) <| obs_cons (ob_call Tryd.func59 (by kernel_rfl) rfl (fun _ _ hS => ih_gameroomref_Dec hr5 hS )) <| obs_cons (ob_sadd _ _ (fun _ => hp4)) <| obs_nil
        refine wpIn_ret ?_
        have hm : some (r4 ++ r5) = some r := hm
        obtain rfl := Option.some.inj hm
        exact retV (rs := [.tmp 2]) (vs := [strV (r4 ++ r5)]) hF rfl (rv_t (by kernel_rfl) <| rv_nil) rfl ⟨rfl, hS⟩
      · refine reg [] [] [0, 22] [pl 0 (.int .i64 n1), pl 22 (.bool (decide (n1 < 10)))] hF hS Fol (by kernel_rfl) (by kernel_rfl) (by kernel_rfl) ?_ (fun a w hF hS => ?_)
        · exact obs_nil
        refine cond_ev (t := 22) (b := decide (n1 < 10)) hF (by kernel_rfl) (fun hb => ?_) (fun hb => ?_)
        · replace hm := if_t hm hb
          refine seqR ?_
          refine at_run 3 [] [] [25] [pl 25 (.int .u8 (IntKind.wrap .u8 (w64 (48 + n1))))] hF hS (by kernel_rfl) (by kernel_rfl) ?_ (fun a w hF hS => ?_)
          · exact obs_nil
          refine at_do (d := 26) (s := vS (Instr.buildSlice 112 1 #[(0, .int .u8 (IntKind.wrap .u8 (w64 (48 + n1))))])) (v := .slice (some ⟨w.heap.size, 0, none⟩) 1 1) (w' := w.alloc (.cells #[.int .u8 (IntKind.wrap .u8 (w64 (48 + n1)))] 5)) hF (by kernel_rfl) (by kernel_rfl) (by kernel_rfl) (fun a hF => ?_)
          have hS : Sep w0 B (w.alloc (.cells #[.int .u8 (IntKind.wrap .u8 (w64 (48 + n1)))] 5)) (own 5 (.slice (some (⟨w.heap.size, 0, none⟩ : Addr)) 1 1) ((List.map (Value.int .u8) ([IntKind.wrap .u8 (w64 (48 + n1))] : List Int))) :: (fs)) := hS.lit 5 #[.int .u8 (IntKind.wrap .u8 (w64 (48 + n1)))] 1 rfl (by omega)
          generalize (some (⟨w.heap.size, 0, none⟩ : Addr)) = g1 at hF hS
          generalize w.alloc (.cells #[.int .u8 (IntKind.wrap .u8 (w64 (48 + n1)))] 5) = w at hS ⊢
          have hrun := run_strE (P := Tryd.prog) (src := 112) (dst := 9) (e := 5) (m := ([IntKind.wrap .u8 (w64 (48 + n1))] : List Int)) (c := 1) (by kernel_rfl) (by kernel_rfl) (by kernel_rfl) (hS.at_ 0 rfl).rd ((hS.at_ 0 rfl).len1)
          refine at_do (d := 27) hF (by kernel_rfl) (by kernel_rfl) hrun (fun a hF => ?_)
          refine at_run 1 [] [] [2] [pl 2 (strV (b8 ([IntKind.wrap .u8 (w64 (48 + n1))] : List Int)))] hF hS (by kernel_rfl) (by kernel_rfl) ?_ (fun a w hF hS => ?_)
          · exact obs_nil
          refine at_end [2] [pl 2 (strV (b8 ([IntKind.wrap .u8 (w64 (48 + n1))] : List Int)))] hF rfl (by kernel_rfl) (fun hF => ?_)
          refine then_n ?_
          refine wpIn_ret ?_
          refine then_r ?_
          have hS := hS.pickN 1 [] (by decide)
          have hm : some (b8 ([IntKind.wrap .u8 (w64 (48 + n1))] : List Int)) = some r := hm
          obtain rfl := Option.some.inj hm
          exact retV (rs := [.tmp 2]) (vs := [strV (b8 ([IntKind.wrap .u8 (w64 (48 + n1))] : List Int))]) hF rfl (rv_t (by kernel_rfl) <| rv_nil) rfl ⟨rfl, hS⟩
        · replace hm := if_f hm hb
          refine wpIn_skip ?_
          refine then_n ?_
          exact ⟨hF.weak [0] (by kernel_rfl), hS, hm⟩
    · refine reg [] [] [0, 16] [pl 0 (.int .i64 n1), pl 16 (.bool (decide (n1 < 0)))] hF hS Fol (by kernel_rfl) (by kernel_rfl) (by kernel_rfl) ?_ (fun a w hF hS => ?_)
      · exact obs_nil
      refine cond_ev (t := 16) (b := decide (n1 < 0)) hF (by kernel_rfl) (fun hb => ?_) (fun hb => ?_)
      · replace hm := if_t hm hb
        obtain ⟨r3, hr3, hm⟩ := call_b hm
        obtain ⟨hp3, hm⟩ := asrt_b hm
        refine reg [⟨false, [], callFunc 59 #[.int .i64 (w64 (0 - n1))], strV r3⟩, ⟨true, [], vS (do eqGuard .add 9 (.const (strV ([45] : List UInt8))) (.tmp 19) (strV ([45] : List UInt8)) (strV r3); binOp .add 9 (strV ([45] : List UInt8)) (strV r3)), strV (([45] : List UInt8) ++ r3)⟩] [none, none, some (strV r3), some (strV (([45] : List UInt8) ++ r3)), none] [2] [pl 2 (strV (([45] : List UInt8) ++ r3))] hF hS Fol (by kernel_rfl) (by kernel_rfl) (by kernel_rfl) ?_ (fun a w hF hS => ?_)
        · exact obs_cons (ob_call Tryd.func59 (by kernel_rfl) rfl (fun _ _ hS => ih_gameroomref_Dec hr3 hS )) <| obs_cons (ob_sadd _ _ (fun _ => hp3)) <| obs_nil
        refine wpIn_ret ?_
        refine then_r ?_
        have hm : some (([45] : List UInt8) ++ r3) = some r := hm
        obtain rfl := Option.some.inj hm
        exact retV (rs := [.tmp 2]) (vs := [strV (([45] : List UInt8) ++ r3)]) hF rfl (rv_t (by kernel_rfl) <| rv_nil) rfl ⟨rfl, hS⟩
      · replace hm := if_f hm hb
        refine wpIn_skip ?_
        refine then_n ?_
        exact ⟨hF.weak [0] (by kernel_rfl), hS, hm⟩
  · refine reg [] [] [0, 4] [pl 0 (.int .i64 n1), pl 4 (.bool (decide (n1 ≤ (-10))))] hF hS Fol (by kernel_rfl) (by kernel_rfl) (by kernel_rfl) ?_ (fun a w hF hS => ?_)
    · exact obs_nil
    refine cond_ev (t := 4) (b := decide (n1 ≤ (-10))) hF (by kernel_rfl) (fun hb => ?_) (fun hb => ?_)
    · replace hm := if_t hm hb
      obtain ⟨r1, hr1, hm⟩ := call_b hm
      obtain ⟨hp1, hm⟩ := asrt_b hm
      obtain ⟨r2, hr2, hm⟩ := call_b hm
      obtain ⟨hp2, hm⟩ := asrt_b hm
      refine reg [⟨false, [], callFunc 59 #[.int .i64 (w64 (0 - (w64 (Int.tdiv n1 10))))], strV r1⟩, ⟨true, [], vS (do eqGuard .add 9 (.const (strV ([45] : List UInt8))) (.tmp 8) (strV ([45] : List UInt8)) (strV r1); binOp .add 9 (strV ([45] : List UInt8)) (strV r1)), strV (([45] : List UInt8) ++ r1)⟩, ⟨false, [], callFunc 59 #[.int .i64 (w64 (0 - (Int.tmod n1 10)))], strV r2⟩, ⟨true, [], vS (do eqGuard .add 9 (.tmp 9) (.tmp 13) (strV (([45] : List UInt8) ++ r1)) (strV r2); binOp .add 9 (strV (([45] : List UInt8) ++ r1)) (strV r2)), strV ((([45] : List UInt8) ++ r1) ++ r2)⟩] [none, none, none, some (strV r1), some (strV (([45] : List UInt8) ++ r1)), none, none, none, some (strV r2), some (strV ((([45] : List UInt8) ++ r1) ++ r2)), none] [2] [pl 2 (strV ((([45] : List UInt8) ++ r1) ++ r2))] hF hS Fol (by kernel_rfl) (by kernel_rfl) (by kernel_rfl) ?_ (fun a w hF hS => ?_)
      · exact obs_cons (ob_call Tryd.func59 (by kernel_rfl) rfl (fun _ _ hS => ih_gameroomref_Dec hr1 hS )) <| obs_cons (ob_sadd _ _ (fun _ => hp1)) <| obs_cons (ob_call Tryd.func59 (by kernel_rfl) rfl (fun _ _ hS => ih_gameroomref_Dec hr2 hS )) <| obs_cons (ob_sadd _ _ (fun _ => hp2)) <| obs_nil
      refine wpIn_ret ?_
      refine then_r ?_
      have hm : some ((([45] : List UInt8) ++ r1) ++ r2) = some r := hm
      obtain rfl := Option.some.inj hm
      exact retV (rs := [.tmp 2]) (vs := [strV ((([45] : List UInt8) ++ r1) ++ r2)]) hF rfl (rv_t (by kernel_rfl) <| rv_nil) rfl ⟨rfl, hS⟩
    · replace hm := if_f hm hb
      refine wpIn_skip ?_
      refine then_n ?_
      exact ⟨hF.weak [0] (by kernel_rfl), hS, hm⟩

theorem gameroomref_Dec_w  {n1 : Int} {r : (List UInt8)} {w0 w : World} {B : Nat} {fs : List HP} (hm : gameroomref_Dec_m n1 = some r) (hS : Sep w0 B w (fs)) :
    Calls Tryd.prog 59 #[.int .i64 n1] w fun e w' => e = .returned (strV r) ∧ Sep w0 B w' (fs) := by
  have key : ∀ (n : Nat) {n1 : Int} {r : (List UInt8)} {w0 w : World} {B : Nat} {fs : List HP} (_ : gameroomref_Dec_mF n n1 = some r) (_ : Sep w0 B w (fs)), Calls Tryd.prog 59 #[.int .i64 n1] w fun e w' => e = .returned (strV r) ∧ Sep w0 B w' (fs) := by
    intro n
    induction n with
    | zero => intros; rename_i hm0 _; cases hm0
    | succ n ih => intros; rename_i hm0 hS0; exact gameroomref_Dec_wB (rec_gameroomref_Dec := gameroomref_Dec_mF n) (fun hm hS => ih hm hS) hm0 hS0
  obtain ⟨n, hn⟩ := recM_some hm
  exact key n hn hS

set_option maxRecDepth 100000 in
theorem gameroomref_Dec_J3_le_gameroomref_Dec {rec_gameroomref_Dec1 rec_gameroomref_Dec2 : Int → Option (List UInt8)} (h_rec_gameroomref_Dec : ∀ a0, Le (rec_gameroomref_Dec1 a0) (rec_gameroomref_Dec2 a0)) (n1 : Int) : Le (gameroomref_Dec_J3 rec_gameroomref_Dec1 n1) (gameroomref_Dec_J3 rec_gameroomref_Dec2 n1) := by
  unfold gameroomref_Dec_J3
  repeat' (first | with_reducible exact Le.refl _ | with_reducible exact h_rec_gameroomref_Dec _ | with_reducible refine Le.asrt ?_ | with_reducible refine Le.ite ?_ ?_ | refine Le.bind ?_ (fun _ => ?_) | refine Le.loop2 (fun _ => ?_) | refine Le.elim2 (fun _ => ?_) (fun _ => ?_))

set_option maxRecDepth 100000 in
theorem gameroomref_Dec_J2_le_gameroomref_Dec {rec_gameroomref_Dec1 rec_gameroomref_Dec2 : Int → Option (List UInt8)} (h_rec_gameroomref_Dec : ∀ a0, Le (rec_gameroomref_Dec1 a0) (rec_gameroomref_Dec2 a0)) (n1 : Int) : Le (gameroomref_Dec_J2 rec_gameroomref_Dec1 n1) (gameroomref_Dec_J2 rec_gameroomref_Dec2 n1) := by
  unfold gameroomref_Dec_J2
  repeat' (first | with_reducible exact Le.refl _ | with_reducible exact h_rec_gameroomref_Dec _ | with_reducible exact gameroomref_Dec_J3_le_gameroomref_Dec h_rec_gameroomref_Dec _ | with_reducible refine Le.asrt ?_ | with_reducible refine Le.ite ?_ ?_ | refine Le.bind ?_ (fun _ => ?_) | refine Le.loop2 (fun _ => ?_) | refine Le.elim2 (fun _ => ?_) (fun _ => ?_))

set_option maxRecDepth 100000 in
theorem gameroomref_Dec_J1_le_gameroomref_Dec {rec_gameroomref_Dec1 rec_gameroomref_Dec2 : Int → Option (List UInt8)} (h_rec_gameroomref_Dec : ∀ a0, Le (rec_gameroomref_Dec1 a0) (rec_gameroomref_Dec2 a0)) (n1 : Int) : Le (gameroomref_Dec_J1 rec_gameroomref_Dec1 n1) (gameroomref_Dec_J1 rec_gameroomref_Dec2 n1) := by
  unfold gameroomref_Dec_J1
  repeat' (first | with_reducible exact Le.refl _ | with_reducible exact h_rec_gameroomref_Dec _ | with_reducible exact gameroomref_Dec_J2_le_gameroomref_Dec h_rec_gameroomref_Dec _ | with_reducible refine Le.asrt ?_ | with_reducible refine Le.ite ?_ ?_ | refine Le.bind ?_ (fun _ => ?_) | refine Le.loop2 (fun _ => ?_) | refine Le.elim2 (fun _ => ?_) (fun _ => ?_))

set_option maxRecDepth 100000 in
theorem gameroomref_Dec_B_le {rec_gameroomref_Dec1 rec_gameroomref_Dec2 : Int → Option (List UInt8)} (h_rec_gameroomref_Dec : ∀ a0, Le (rec_gameroomref_Dec1 a0) (rec_gameroomref_Dec2 a0)) (n1 : Int) : Le (gameroomref_Dec_B rec_gameroomref_Dec1 n1) (gameroomref_Dec_B rec_gameroomref_Dec2 n1) := by
  unfold gameroomref_Dec_B
  repeat' (first | with_reducible exact Le.refl _ | with_reducible exact h_rec_gameroomref_Dec _ | with_reducible exact gameroomref_Dec_J1_le_gameroomref_Dec h_rec_gameroomref_Dec _ | with_reducible refine Le.asrt ?_ | with_reducible refine Le.ite ?_ ?_ | refine Le.bind ?_ (fun _ => ?_) | refine Le.loop2 (fun _ => ?_) | refine Le.elim2 (fun _ => ?_) (fun _ => ?_))

set_option maxRecDepth 100000 in
theorem gameroomref_Dec_mF_le : ∀ (n : Nat) (n1 : Int), Le (gameroomref_Dec_mF n n1) (gameroomref_Dec_mF (n + 1) n1)
  | 0, _ => fun _ h => by cases h
  | n + 1, _ => gameroomref_Dec_B_le (fun a0 => gameroomref_Dec_mF_le n a0) _

set_option maxRecDepth 100000 in
theorem gameroomref_Dec_m_of (N : Nat) (n1 : Int) {r : (List UInt8)} (h : gameroomref_Dec_mF N n1 = some r) : gameroomref_Dec_m n1 = some r :=
  recM_mono (fun n => gameroomref_Dec_mF_le n _) h

noncomputable def gameroomref_WayText_J4  (i1 : Int) (s5 : List UInt8) : Option (St (List UInt8 × Int) (Fl (List UInt8) (List UInt8 × Int))) :=
  some (.next (s5, (w64 (i1 + 1))))

noncomputable def gameroomref_WayText_J7  (way1 : List Int) (i1 : Int) (s4 : List UInt8) : Option (St (List UInt8 × Int) (Fl (List UInt8) (List UInt8 × Int))) :=
  asrt (0 ≤ i1 ∧ i1 < (way1.length : Int)) <| (gameroomref_Dec_m (geti way1 i1)).bind fun r2 => asrt ((s4.length : Int) + r2.length ≤ bigN) <| (gameroomref_WayText_J4 i1) (s4 ++ r2)

noncomputable def gameroomref_WayText_J6  (way1 : List Int) (jump1 : Bool) (i1 : Int) (s3 : List UInt8) : Option (St (List UInt8 × Int) (Fl (List UInt8) (List UInt8 × Int))) :=
  if ((decide ((0 : Int) < i1)) && (!jump1)) then (asrt ((s3.length : Int) + ([45] : List UInt8).length ≤ bigN) <| (gameroomref_WayText_J7 way1 i1) (s3 ++ ([45] : List UInt8))) else ((gameroomref_WayText_J7 way1 i1) s3)

noncomputable def gameroomref_WayText_J5  (way1 : List Int) (jump1 : Bool) (s1 : List UInt8) (i1 : Int) : Option (St (List UInt8 × Int) (Fl (List UInt8) (List UInt8 × Int))) :=
  if ((decide ((0 : Int) < i1)) && jump1) then (asrt ((s1.length : Int) + ([120] : List UInt8).length ≤ bigN) <| (gameroomref_WayText_J6 way1 jump1 i1) (s1 ++ ([120] : List UInt8))) else ((gameroomref_WayText_J6 way1 jump1 i1) s1)

noncomputable def gameroomref_WayText_J3  (way1 : List Int) (jump1 : Bool) (s1 : List UInt8) (i1 : Int) : Option (St (List UInt8 × Int) (Fl (List UInt8) (List UInt8 × Int))) :=
  asrt (0 ≤ i1 ∧ i1 < (way1.length : Int)) <| (gameroomref_within_m (geti way1 i1) 1 32).bind fun r1 => if (!r1) then (some (.done (.ret (([] : List UInt8), 3)))) else ((gameroomref_WayText_J5 way1 jump1 s1 i1))

noncomputable def gameroomref_WayText_J2  (s2 : List UInt8) : Option (List UInt8 × Int) :=
  some (s2, 0)

noncomputable def gameroomref_WayText_K1  : (Fl (List UInt8) (List UInt8 × Int)) → Option (List UInt8 × Int) :=
  fun (x : (Fl (List UInt8) (List UInt8 × Int))) => match x with | .go s2 => gameroomref_WayText_J2 s2 | .ret x => some x

noncomputable def gameroomref_WayText_L1  (way1 : List Int) (jump1 : Bool) : (List UInt8 × Int) → Option (St (List UInt8 × Int) (Fl (List UInt8) (List UInt8 × Int))) :=
  fun (x : (List UInt8 × Int)) => match x with | (s1, i1) => if (decide (i1 < (way1.length : Int))) then ((gameroomref_WayText_J3 way1 jump1 s1 i1)) else (some (.done (.go s1)))

noncomputable def gameroomref_WayText_J1  (way1 : List Int) (jump1 : Bool) : Option (List UInt8 × Int) :=
  (loop (gameroomref_WayText_L1 way1 jump1) (([] : List UInt8), 0)).bind gameroomref_WayText_K1

noncomputable def gameroomref_WayText_m  (way1 : List Int) (jump1 : Bool) : Option (List UInt8 × Int) :=
  if (decide ((way1.length : Int) < 2)) then (some (([] : List UInt8), 1)) else ((gameroomref_WayText_J1 way1 jump1))

set_option maxRecDepth 100000 in
set_option maxHeartbeats 4000000 in
theorem gameroomref_WayText_w  {A1 : Option Addr} {c1 : Nat} {n1 : Nat} {way1 : List Int} {jump1 : Bool} {r : (List UInt8 × Int)} {w0 w : World} {B : Nat} {fs : List HP} (hm : gameroomref_WayText_m way1 jump1 = some r) (hS : Sep w0 B w (fs)) (hr_way1 : RdF w0 B fs A1 (vI way1)) (_hc_way1 : way1.length ≤ c1) (_hn_way1 : n1 = way1.length) :
    Calls Tryd.prog 47 #[.slice A1 n1 c1, .bool jump1] w fun e w' => e = .returned (.tuple #[strV r.1, .int .i64 r.2]) ∧ Sep w0 B w' (fs) := by
  obtain ⟨i3, hi3, hz3, hs3, hb3⟩ := info_parts Info3
  obtain rfl := _hn_way1
  unfold gameroomref_WayText_m at hm
  replace hm := start_b hm
  refine enter (l := [.slice A1 way1.length c1, .bool jump1]) (n := 46) Tryd.func47 rfl rfl (by simp) (fun a hF => ?_)
  refine reg [] [] [0, 1] [pl 0 (.slice A1 way1.length c1), pl 1 (.bool jump1)] hF hS Fol (by kernel_rfl) (by kernel_rfl) (by kernel_rfl) ?_ (fun a w hF hS => ?_)
  · exact obs_nil
  refine seq_cut (fun a w => Fr 46 [pl 0 (.slice A1 way1.length c1), pl 1 (.bool jump1)] a ∧ Sep w0 B w (fs) ∧ ((gameroomref_WayText_J1 way1 jump1)).bind some = some r) ?_ ?_
  · rintro a w ⟨hF, hS, hm⟩
    unfold gameroomref_WayText_J1 at hm
    refine reg [] [] [0, 1, 6] [pl 0 (.slice A1 way1.length c1), pl 1 (.bool jump1), pl 6 (strV ([] : List UInt8))] hF hS Fol (by kernel_rfl) (by kernel_rfl) (by kernel_rfl) ?_ (fun a w hF hS => ?_)
    · exact obs_nil
    refine seq_cut (fun a w => ∃ (s2 : List UInt8), Fr 46 [pl 6 (strV s2)] a ∧ Sep w0 B w (fs) ∧ (gameroomref_WayText_J2 s2).bind some = some r) ?_ ?_
    · rintro a w ⟨s2, hF, hS, hm⟩
      unfold gameroomref_WayText_J2 at hm
      refine reg [] [] [4, 5] [pl 4 (strV s2), pl 5 (.int .i64 0)] hF hS Fol (by kernel_rfl) (by kernel_rfl) (by kernel_rfl) ?_ (fun a w hF hS => ?_)
      · exact obs_nil
      refine wpIn_ret ?_
      have hm : some (s2, 0) = some r := hm
      obtain rfl := Option.some.inj hm
      exact retV (rs := [.tmp 4, .tmp 5]) (vs := [strV s2, .int .i64 0]) hF rfl (rv_t (by kernel_rfl) <| rv_t (by kernel_rfl) <| rv_nil) rfl ⟨rfl, hS⟩
    · refine reg [] [] [0, 1, 6, 7] [pl 0 (.slice A1 way1.length c1), pl 1 (.bool jump1), pl 6 (strV ([] : List UInt8)), pl 7 (.int .i64 0)] hF hS Fol (by kernel_rfl) (by kernel_rfl) (by kernel_rfl) ?_ (fun a w hF hS => ?_)
      · exact obs_nil
      refine wpIn_block ?_
      refine wp_loop_model (S := (List UInt8 × Int)) (R := (Fl (List UInt8) (List UInt8 × Int))) (gameroomref_WayText_L1 way1 jump1) (fun x => (gameroomref_WayText_K1 x).bind some) r (fun (x : (List UInt8 × Int)) a w => Fr 46 [pl 0 (.slice A1 way1.length c1), pl 1 (.bool jump1), pl 6 (strV x.1), pl 7 (.int .i64 x.2)] a ∧ Sep w0 B w (fs)) (assoc_b hm) ⟨hF.weak [0, 1, 6, 7] (by kernel_rfl), hS⟩ ?_
      clear hF hS hm
      rintro nn1 ⟨s1, i1⟩ a w ⟨hF, hS⟩ hm
      generalize hφ1 : stK (gameroomref_WayText_L1 way1 jump1) nn1 (fun x => (gameroomref_WayText_K1 x).bind some) = φ1 at hm
      unfold gameroomref_WayText_L1 at hm
      dsimp only at hF hS hm
      refine seq_cut (fun a w => Fr 46 [pl 0 (.slice A1 way1.length c1), pl 1 (.bool jump1), pl 6 (strV s1), pl 7 (.int .i64 i1)] a ∧ Sep w0 B w (fs) ∧ ((gameroomref_WayText_J3 way1 jump1 s1 i1)).bind φ1 = some r) ?_ ?_
      · rintro a w ⟨hF, hS, hm⟩
        unfold gameroomref_WayText_J3 at hm
        refine seq_cut (fun a w => ∃ (s5 : List UInt8), Fr 46 [pl 0 (.slice A1 way1.length c1), pl 1 (.bool jump1), pl 6 (strV s5), pl 7 (.int .i64 i1)] a ∧ Sep w0 B w (fs) ∧ ((gameroomref_WayText_J4 i1) s5).bind φ1 = some r) ?_ ?_
        · rintro a w ⟨s5, hF, hS, hm⟩
          unfold gameroomref_WayText_J4 at hm
          refine reg1 [] [] [0, 1, 6, 7] [pl 0 (.slice A1 way1.length c1), pl 1 (.bool jump1), pl 6 (strV s5), pl 7 (.int .i64 (w64 (i1 + 1)))] hF hS Fol (by kernel_rfl) (by kernel_rfl) (by kernel_rfl) ?_ (fun a w hF hS => ?_)
          · exact obs_nil
          refine then_n ?_
          rw [← hφ1] at hm
          exact ⟨(s5, (w64 (i1 + 1))), ⟨hF.weak [0, 1, 6, 7] (by kernel_rfl), hS⟩, hm⟩
        · refine wpIn_block ?_
          refine seq_cut (fun a w => Fr 46 [pl 0 (.slice A1 way1.length c1), pl 1 (.bool jump1), pl 6 (strV s1), pl 7 (.int .i64 i1)] a ∧ Sep w0 B w (fs) ∧ ((gameroomref_WayText_J5 way1 jump1 s1 i1)).bind φ1 = some r) ?_ ?_
          · rintro a w ⟨hF, hS, hm⟩
            unfold gameroomref_WayText_J5 at hm
            refine seq_cut (fun a w => ∃ (s3 : List UInt8), Fr 46 [pl 0 (.slice A1 way1.length c1), pl 1 (.bool jump1), pl 6 (strV s3), pl 7 (.int .i64 i1)] a ∧ Sep w0 B w (fs) ∧ ((gameroomref_WayText_J6 way1 jump1 i1) s3).bind φ1 = some r) ?_ ?_
            · rintro a w ⟨s3, hF, hS, hm⟩
              unfold gameroomref_WayText_J6 at hm
              refine seq_cut (fun a w => ∃ (s4 : List UInt8), Fr 46 [pl 0 (.slice A1 way1.length c1), pl 1 (.bool jump1), pl 6 (strV s4), pl 7 (.int .i64 i1)] a ∧ Sep w0 B w (fs) ∧ ((gameroomref_WayText_J7 way1 i1) s4).bind φ1 = some r) ?_ ?_
              · rintro a w ⟨s4, hF, hS, hm⟩
                unfold gameroomref_WayText_J7 at hm
                obtain ⟨hp4, hm⟩ := asrt_b hm
                obtain ⟨r2, hr2, hm⟩ := call_b hm
                obtain ⟨hp5, hm⟩ := asrt_b hm
                refine reg1 [⟨true, [], vS (Instr.indexAt 22 (.slice A1 way1.length c1) (.int .i64 i1)), .pointer (some (sAddr A1 i1))⟩, ⟨false, [], vS (Instr.loadAt 3 (.pointer (some (sAddr A1 i1)))), .int .i64 (geti way1 i1)⟩, ⟨false, [], callFunc 59 #[.int .i64 (geti way1 i1)], strV r2⟩, ⟨true, [], vS (do eqGuard .add 9 (.tmp 38) (.tmp 43) (strV s4) (strV r2); binOp .add 9 (strV s4) (strV r2)), strV (s4 ++ r2)⟩] [none, none, none, some (.pointer (some (sAddr A1 i1))), some (.int .i64 (geti way1 i1)), some (strV r2), some (strV (s4 ++ r2)), none] [0, 1, 6, 7] [pl 0 (.slice A1 way1.length c1), pl 1 (.bool jump1), pl 6 (strV (s4 ++ r2)), pl 7 (.int .i64 i1)] hF hS Fol (by kernel_rfl) (by kernel_rfl) (by kernel_rfl) ?_ (fun a w hF hS => ?_)
                · exact obs_cons (ob_ix1 (f := (Value.int .i64)) (m := way1) Und22 hi3 hs3 (hr_way1 _ (hS.dropN 0)) rfl (fun _ => hp4)) <| obs_cons (ob_get1 (n := way1.length) (m := way1) (Value.int .i64) (0 : Int) Agg3 (fun _ hS => ⟨_, (hr_way1 _ (hS.dropN 0))⟩) (fun _ hS => rfl) (fun _ => hp4)) <| obs_cons (ob_call Tryd.func59 (by kernel_rfl) rfl (fun _ _ hS => gameroomref_Dec_w hr2 hS )) <| obs_cons (ob_sadd _ _ (fun _ => hp5)) <| obs_nil
                refine block_n ?_
                refine then_n ?_
                exact ⟨(s4 ++ r2), hF.weak [0, 1, 6, 7] (by kernel_rfl), hS, hm⟩
              · refine reg [] [] [0, 1, 6, 7, 35] [pl 0 (.slice A1 way1.length c1), pl 1 (.bool jump1), pl 6 (strV s3), pl 7 (.int .i64 i1), pl 35 (.bool ((decide ((0 : Int) < i1)) && (!jump1)))] hF hS Fol (by kernel_rfl) (by kernel_rfl) (by kernel_rfl) ?_ (fun a w hF hS => ?_)
                · exact obs_nil
                refine cond_ev (t := 35) (b := (decide ((0 : Int) < i1)) && (!jump1)) hF (by kernel_rfl) (fun hb => ?_) (fun hb => ?_)
                · replace hm := if_t hm hb
                  obtain ⟨hp3, hm⟩ := asrt_b hm
                  refine reg1 [⟨true, [], vS (do eqGuard .add 9 (.tmp 36) (.const (strV ([45] : List UInt8))) (strV s3) (strV ([45] : List UInt8)); binOp .add 9 (strV s3) (strV ([45] : List UInt8))), strV (s3 ++ ([45] : List UInt8))⟩] [none, some (strV (s3 ++ ([45] : List UInt8))), none] [0, 1, 6, 7] [pl 0 (.slice A1 way1.length c1), pl 1 (.bool jump1), pl 6 (strV (s3 ++ ([45] : List UInt8))), pl 7 (.int .i64 i1)] hF hS Fol (by kernel_rfl) (by kernel_rfl) (by kernel_rfl) ?_ (fun a w hF hS => ?_)
                  · exact obs_cons (ob_sadd _ _ (fun _ => hp3)) <| obs_nil
                  refine then_n ?_
                  exact ⟨(s3 ++ ([45] : List UInt8)), hF.weak [0, 1, 6, 7] (by kernel_rfl), hS, hm⟩
                · replace hm := if_f hm hb
                  refine wpIn_skip ?_
                  refine then_n ?_
                  exact ⟨s3, hF.weak [0, 1, 6, 7] (by kernel_rfl), hS, hm⟩
            · refine reg [] [] [0, 1, 6, 7, 27] [pl 0 (.slice A1 way1.length c1), pl 1 (.bool jump1), pl 6 (strV s1), pl 7 (.int .i64 i1), pl 27 (.bool ((decide ((0 : Int) < i1)) && jump1))] hF hS Fol (by kernel_rfl) (by kernel_rfl) (by kernel_rfl) ?_ (fun a w hF hS => ?_)
              · exact obs_nil
              refine cond_ev (t := 27) (b := (decide ((0 : Int) < i1)) && jump1) hF (by kernel_rfl) (fun hb => ?_) (fun hb => ?_)
              · replace hm := if_t hm hb
                obtain ⟨hp2, hm⟩ := asrt_b hm
                refine reg1 [⟨true, [], vS (do eqGuard .add 9 (.tmp 28) (.const (strV ([120] : List UInt8))) (strV s1) (strV ([120] : List UInt8)); binOp .add 9 (strV s1) (strV ([120] : List UInt8))), strV (s1 ++ ([120] : List UInt8))⟩] [none, some (strV (s1 ++ ([120] : List UInt8))), none] [0, 1, 6, 7] [pl 0 (.slice A1 way1.length c1), pl 1 (.bool jump1), pl 6 (strV (s1 ++ ([120] : List UInt8))), pl 7 (.int .i64 i1)] hF hS Fol (by kernel_rfl) (by kernel_rfl) (by kernel_rfl) ?_ (fun a w hF hS => ?_)
                · exact obs_cons (ob_sadd _ _ (fun _ => hp2)) <| obs_nil
                refine then_n ?_
                exact ⟨(s1 ++ ([120] : List UInt8)), hF.weak [0, 1, 6, 7] (by kernel_rfl), hS, hm⟩
              · replace hm := if_f hm hb
                refine wpIn_skip ?_
                refine then_n ?_
                exact ⟨s1, hF.weak [0, 1, 6, 7] (by kernel_rfl), hS, hm⟩
          · obtain ⟨hp1, hm⟩ := asrt_b hm
            obtain ⟨r1, hr1, hm⟩ := call_b hm
            refine reg [⟨true, [], vS (Instr.indexAt 22 (.slice A1 way1.length c1) (.int .i64 i1)), .pointer (some (sAddr A1 i1))⟩, ⟨false, [], vS (Instr.loadAt 3 (.pointer (some (sAddr A1 i1)))), .int .i64 (geti way1 i1)⟩, ⟨false, [], callFunc 53 #[.int .i64 (geti way1 i1), .int .i64 1, .int .i64 32], .bool r1⟩] [none, none, some (.pointer (some (sAddr A1 i1))), some (.int .i64 (geti way1 i1)), some (.bool r1), none] [0, 1, 6, 7, 22] [pl 0 (.slice A1 way1.length c1), pl 1 (.bool jump1), pl 6 (strV s1), pl 7 (.int .i64 i1), pl 22 (.bool (!r1))] hF hS Fol (by kernel_rfl) (by kernel_rfl) (by kernel_rfl) ?_ (fun a w hF hS => ?_)
            · exact obs_cons (ob_ix1 (f := (Value.int .i64)) (m := way1) Und22 hi3 hs3 (hr_way1 _ (hS.dropN 0)) rfl (fun _ => hp1)) <| obs_cons (ob_get1 (n := way1.length) (m := way1) (Value.int .i64) (0 : Int) Agg3 (fun _ hS => ⟨_, (hr_way1 _ (hS.dropN 0))⟩) (fun _ hS => rfl) (fun _ => hp1)) <| obs_cons (ob_call Tryd.func53 (by kernel_rfl) rfl (fun _ _ hS => gameroomref_within_w hr1 hS )) <| obs_nil
            refine cond_ev (t := 22) (b := !r1) hF (by kernel_rfl) (fun hb => ?_) (fun hb => ?_)
            · replace hm := if_t hm hb
              refine reg [] [] [4, 5] [pl 4 (strV ([] : List UInt8)), pl 5 (.int .i64 3)] hF hS Fol (by kernel_rfl) (by kernel_rfl) (by kernel_rfl) ?_ (fun a w hF hS => ?_)
              · exact obs_nil
              refine wpIn_ret ?_
              refine then_r (block_r (then_r (then_r (block_r (then_r ?_)))))
              rw [← hφ1] at hm
              replace hm := done_b hm
              unfold gameroomref_WayText_K1 at hm
              try dsimp only at hm
              have hm : some (([] : List UInt8), 3) = some r := hm
              obtain rfl := Option.some.inj hm
              exact retV (rs := [.tmp 4, .tmp 5]) (vs := [strV ([] : List UInt8), .int .i64 3]) hF rfl (rv_t (by kernel_rfl) <| rv_t (by kernel_rfl) <| rv_nil) rfl ⟨rfl, hS⟩
            · replace hm := if_f hm hb
              refine wpIn_skip ?_
              refine then_n ?_
              exact ⟨hF.weak [0, 1, 6, 7] (by kernel_rfl), hS, hm⟩
      · refine reg [] [] [0, 1, 6, 7, 14] [pl 0 (.slice A1 way1.length c1), pl 1 (.bool jump1), pl 6 (strV s1), pl 7 (.int .i64 i1), pl 14 (.bool (decide (i1 < (way1.length : Int))))] hF hS Fol (by kernel_rfl) (by kernel_rfl) (by kernel_rfl) ?_ (fun a w hF hS => ?_)
        · exact obs_nil
        refine cond_ev (t := 14) (b := decide (i1 < (way1.length : Int))) hF (by kernel_rfl) (fun hb => ?_) (fun hb => ?_)
        · replace hm := if_t hm hb
          refine wpIn_skip ?_
          refine then_n ?_
          exact ⟨hF.weak [0, 1, 6, 7] (by kernel_rfl), hS, hm⟩
        · replace hm := if_f hm hb
          refine wpIn_exit ?_
          refine then_e (then_e (block_e (then_n ?_)))
          rw [← hφ1] at hm
          replace hm := done_b hm
          unfold gameroomref_WayText_K1 at hm
          try dsimp only at hm
          have hm : (gameroomref_WayText_J2 s1).bind some = some r := hm
          exact ⟨s1, hF.weak [6] (by kernel_rfl), hS, hm⟩
  · refine reg [] [] [0, 1, 10] [pl 0 (.slice A1 way1.length c1), pl 1 (.bool jump1), pl 10 (.bool (decide ((way1.length : Int) < 2)))] hF hS Fol (by kernel_rfl) (by kernel_rfl) (by kernel_rfl) ?_ (fun a w hF hS => ?_)
    · exact obs_nil
    refine cond_ev (t := 10) (b := decide ((way1.length : Int) < 2)) hF (by kernel_rfl) (fun hb => ?_) (fun hb => ?_)
    · replace hm := if_t hm hb
      refine reg [] [] [4, 5] [pl 4 (strV ([] : List UInt8)), pl 5 (.int .i64 1)] hF hS Fol (by kernel_rfl) (by kernel_rfl) (by kernel_rfl) ?_ (fun a w hF hS => ?_)
      · exact obs_nil
      refine wpIn_ret ?_
      refine then_r ?_
      have hm : some (([] : List UInt8), 1) = some r := hm
      obtain rfl := Option.some.inj hm
      exact retV (rs := [.tmp 4, .tmp 5]) (vs := [strV ([] : List UInt8), .int .i64 1]) hF rfl (rv_t (by kernel_rfl) <| rv_t (by kernel_rfl) <| rv_nil) rfl ⟨rfl, hS⟩
    · replace hm := if_f hm hb
      refine wpIn_skip ?_
      refine then_n ?_
      exact ⟨hF.weak [0, 1] (by kernel_rfl), hS, hm⟩

noncomputable def gameroomref_ReadWay_J3  (i1 : Int) (way3 : List Int) (jump3 : Bool) (step3 : Bool) (n3 : Int) (digits2 : Int) : Option (St (List Int × Bool × Bool × Int × Int × Int) (Fl (List Int × Bool × Bool) (List Int × Bool × Int))) :=
  some (.next (way3, jump3, step3, n3, digits2, (w64 (i1 + 1))))

noncomputable def gameroomref_ReadWay_J6  (way1 : List Int) (jump1 : Bool) (step1 : Bool) (digits1 : Int) (i1 : Int) (n2 : Int) : Option (St (List Int × Bool × Bool × Int × Int × Int) (Fl (List Int × Bool × Bool) (List Int × Bool × Int))) :=
  (gameroomref_ReadWay_J3 i1) way1 jump1 step1 n2 (w64 (digits1 + 1))

noncomputable def gameroomref_ReadWay_J5  (text1 : List UInt8) (way1 : List Int) (jump1 : Bool) (step1 : Bool) (n1 : Int) (digits1 : Int) (i1 : Int) : Option (St (List Int × Bool × Bool × Int × Int × Int) (Fl (List Int × Bool × Bool) (List Int × Bool × Int))) :=
  if (decide (n1 < 1000)) then (asrt (0 ≤ i1 ∧ i1 < (text1.length : Int)) <| (gameroomref_ReadWay_J6 way1 jump1 step1 digits1 i1) (w64 ((w64 (10 * n1)) + (w64 (IntKind.wrap .u8 ((getU text1 i1) - 48)))))) else ((gameroomref_ReadWay_J6 way1 jump1 step1 digits1 i1) n1)

noncomputable def gameroomref_ReadWay_J8  (way1 : List Int) (n1 : Int) (i1 : Int) (jump4 : Bool) (step4 : Bool) : Option (St (List Int × Bool × Bool × Int × Int × Int) (Fl (List Int × Bool × Bool) (List Int × Bool × Int))) :=
  asrt ((way1.length : Int) + 1 ≤ bigN) <| (gameroomref_ReadWay_J3 i1) (way1 ++ ([n1] : List Int)) jump4 step4 0 0

noncomputable def gameroomref_ReadWay_J7  (text1 : List UInt8) (way1 : List Int) (jump1 : Bool) (step1 : Bool) (n1 : Int) (i1 : Int) : Option (St (List Int × Bool × Bool × Int × Int × Int) (Fl (List Int × Bool × Bool) (List Int × Bool × Int))) :=
  if (decide (i1 < (text1.length : Int))) then (asrt (jump1 = false → 0 ≤ i1 ∧ i1 < (text1.length : Int)) <| asrt (step1 = false → 0 ≤ i1 ∧ i1 < (text1.length : Int)) <| (gameroomref_ReadWay_J8 way1 n1 i1) (jump1 || ((getU text1 i1) == 120)) (step1 || ((getU text1 i1) == 45))) else ((gameroomref_ReadWay_J8 way1 n1 i1) jump1 step1)

noncomputable def gameroomref_ReadWay_J4  (text1 : List UInt8) (way1 : List Int) (jump1 : Bool) (step1 : Bool) (n1 : Int) (digits1 : Int) (i1 : Int) : Option (St (List Int × Bool × Bool × Int × Int × Int) (Fl (List Int × Bool × Bool) (List Int × Bool × Int))) :=
  asrt ((decide (i1 < (text1.length : Int))) = true → (digits1 == 0) = false → 0 ≤ i1 ∧ i1 < (text1.length : Int)) <| asrt (((decide (i1 < (text1.length : Int))) && ((getU text1 i1) != 45)) = true → (digits1 == 0) = false → 0 ≤ i1 ∧ i1 < (text1.length : Int)) <| if ((digits1 == 0) || (((decide (i1 < (text1.length : Int))) && ((getU text1 i1) != 45)) && ((getU text1 i1) != 120))) then (some (.done (.ret (([] : List Int), false, 1)))) else ((gameroomref_ReadWay_J7 text1 way1 jump1 step1 n1 i1))

noncomputable def gameroomref_ReadWay_J2  (text1 : List UInt8) (way1 : List Int) (jump1 : Bool) (step1 : Bool) (n1 : Int) (digits1 : Int) (i1 : Int) : Option (St (List Int × Bool × Bool × Int × Int × Int) (Fl (List Int × Bool × Bool) (List Int × Bool × Int))) :=
  asrt ((decide (i1 < (text1.length : Int))) = true → 0 ≤ i1 ∧ i1 < (text1.length : Int)) <| ((if (decide (i1 < (text1.length : Int))) then gameroomref_within_m (w64 (getU text1 i1)) 48 57 else some false)).bind fun r1 => if ((decide (i1 < (text1.length : Int))) && r1) then (asrt ((digits1 == 0) = true → 0 ≤ i1 ∧ i1 < (text1.length : Int)) <| if ((digits1 == 0) && ((getU text1 i1) == 48)) then (some (.done (.ret (([] : List Int), false, 1)))) else ((gameroomref_ReadWay_J5 text1 way1 jump1 step1 n1 digits1 i1))) else ((gameroomref_ReadWay_J4 text1 way1 jump1 step1 n1 digits1 i1))

noncomputable def gameroomref_ReadWay_J12  (i2 : Int) : Option (St Int (Fl Unit (List Int × Bool × Int))) :=
  some (.next (w64 (i2 + 1)))

noncomputable def gameroomref_ReadWay_J11  (way2 : List Int) (i2 : Int) : Option (St Int (Fl Unit (List Int × Bool × Int))) :=
  asrt (0 ≤ i2 ∧ i2 < (way2.length : Int)) <| (gameroomref_within_m (geti way2 i2) 1 32).bind fun r2 => if (!r2) then (some (.done (.ret (([] : List Int), false, 3)))) else ((gameroomref_ReadWay_J12 i2))

noncomputable def gameroomref_ReadWay_L2  (way2 : List Int) : Int → Option (St Int (Fl Unit (List Int × Bool × Int))) :=
  fun (x : Int) => match x with | i2 => if (decide (i2 < (way2.length : Int))) then ((gameroomref_ReadWay_J11 way2 i2)) else (some (.done (.go ())))

noncomputable def gameroomref_ReadWay_J10  (way2 : List Int) (jump2 : Bool) : Option (List Int × Bool × Int) :=
  some (way2, jump2, 0)

noncomputable def gameroomref_ReadWay_K2  (way2 : List Int) (jump2 : Bool) : (Fl Unit (List Int × Bool × Int)) → Option (List Int × Bool × Int) :=
  fun (x : (Fl Unit (List Int × Bool × Int))) => match x with | .go _ => (gameroomref_ReadWay_J10 way2 jump2) | .ret x => some x

noncomputable def gameroomref_ReadWay_J9  (way2 : List Int) (jump2 : Bool) : Option (List Int × Bool × Int) :=
  (loop (gameroomref_ReadWay_L2 way2) 0).bind (gameroomref_ReadWay_K2 way2 jump2)

noncomputable def gameroomref_ReadWay_J1  (way2 : List Int) (jump2 : Bool) (step2 : Bool) : Option (List Int × Bool × Int) :=
  if ((jump2 && step2) || (decide ((way2.length : Int) < 2))) then (some (([] : List Int), false, 1)) else ((gameroomref_ReadWay_J9 way2 jump2))

noncomputable def gameroomref_ReadWay_K1  : (Fl (List Int × Bool × Bool) (List Int × Bool × Int)) → Option (List Int × Bool × Int) :=
  fun (x : (Fl (List Int × Bool × Bool) (List Int × Bool × Int))) => match x with | .go (way2, jump2, step2) => gameroomref_ReadWay_J1 way2 jump2 step2 | .ret x => some x

noncomputable def gameroomref_ReadWay_L1  (text1 : List UInt8) : (List Int × Bool × Bool × Int × Int × Int) → Option (St (List Int × Bool × Bool × Int × Int × Int) (Fl (List Int × Bool × Bool) (List Int × Bool × Int))) :=
  fun (x : (List Int × Bool × Bool × Int × Int × Int)) => match x with | (way1, jump1, step1, n1, digits1, i1) => if (decide (i1 ≤ (text1.length : Int))) then ((gameroomref_ReadWay_J2 text1 way1 jump1 step1 n1 digits1 i1)) else (some (.done (.go (way1, jump1, step1))))

noncomputable def gameroomref_ReadWay_m  (text1 : List UInt8) : Option (List Int × Bool × Int) :=
  (loop (gameroomref_ReadWay_L1 text1) (([] : List Int), false, false, 0, 0, 0)).bind gameroomref_ReadWay_K1

set_option maxRecDepth 100000 in
set_option maxHeartbeats 4000000 in
theorem gameroomref_ReadWay_w  {text1 : List UInt8} {r : (List Int × Bool × Int)} {w0 w : World} {B : Nat} {fs : List HP} (hm : gameroomref_ReadWay_m text1 = some r) (hS : Sep w0 B w (fs)) :
    Calls Tryd.prog 48 #[strV text1] w fun e w' => ∃ v, e = .returned v ∧ ∃ (A5 : Option Addr) (c5 : Nat), v = .tuple #[.slice A5 r.1.length c5, .bool r.2.1, .int .i64 r.2.2] ∧ Sep w0 B w' (own 3 (.slice A5 r.1.length c5) (vI r.1) :: fs) := by
  obtain ⟨i3, hi3, hz3, hs3, hb3⟩ := info_parts Info3
  unfold gameroomref_ReadWay_m at hm
  replace hm := start_b hm
  refine enter (l := [strV text1]) (n := 114) Tryd.func48 rfl rfl (by simp) (fun a hF => ?_)
  refine reg [] [] [0] [pl 0 (strV text1)] hF hS Fol (by kernel_rfl) (by kernel_rfl) (by kernel_rfl) ?_ (fun a w hF hS => ?_)
  · exact obs_nil
  refine reg [] [] [0, 5] [pl 0 (strV text1), pl 5 (.slice none 0 0)] hF hS Fol (by kernel_rfl) (by kernel_rfl) (by kernel_rfl) ?_ (fun a w hF hS => ?_)
  · exact obs_nil
  refine reg [] [] [0, 5, 6, 7] [pl 0 (strV text1), pl 5 (.slice none 0 0), pl 6 (.bool false), pl 7 (.bool false)] hF hS Fol (by kernel_rfl) (by kernel_rfl) (by kernel_rfl) ?_ (fun a w hF hS => ?_)
  · exact obs_nil
  refine reg [] [] [0, 5, 6, 7, 8, 9] [pl 0 (strV text1), pl 5 (.slice none 0 0), pl 6 (.bool false), pl 7 (.bool false), pl 8 (.int .i64 0), pl 9 (.int .i64 0)] hF hS Fol (by kernel_rfl) (by kernel_rfl) (by kernel_rfl) ?_ (fun a w hF hS => ?_)
  · exact obs_nil
  refine seq_cut (fun a w => ∃ (way2 : List Int) (jump2 : Bool) (step2 : Bool) (A2 : Option Addr) (c2 : Nat), Fr 114 [pl 5 (.slice A2 way2.length c2), pl 6 (.bool jump2), pl 7 (.bool step2)] a ∧ Sep w0 B w (own 3 (.slice A2 way2.length c2) (vI way2) :: fs) ∧ (gameroomref_ReadWay_J1 way2 jump2 step2).bind some = some r) ?_ ?_
  · rintro a w ⟨way2, jump2, step2, A2, c2, hF, hS, hm⟩
    unfold gameroomref_ReadWay_J1 at hm
    refine seq_cut (fun a w => Fr 114 [pl 5 (.slice A2 way2.length c2), pl 6 (.bool jump2)] a ∧ Sep w0 B w (own 3 (.slice A2 way2.length c2) (vI way2) :: fs) ∧ ((gameroomref_ReadWay_J9 way2 jump2)).bind some = some r) ?_ ?_
    · rintro a w ⟨hF, hS, hm⟩
      unfold gameroomref_ReadWay_J9 at hm
      refine seq_cut (fun a w => Fr 114 [pl 5 (.slice A2 way2.length c2), pl 6 (.bool jump2)] a ∧ Sep w0 B w (own 3 (.slice A2 way2.length c2) (vI way2) :: fs) ∧ ((gameroomref_ReadWay_J10 way2 jump2)).bind some = some r) ?_ ?_
      · rintro a w ⟨hF, hS, hm⟩
        unfold gameroomref_ReadWay_J10 at hm
        refine reg [] [] [2, 3, 4] [pl 2 (.slice A2 way2.length c2), pl 3 (.bool jump2), pl 4 (.int .i64 0)] hF hS Fol (by kernel_rfl) (by kernel_rfl) (by kernel_rfl) ?_ (fun a w hF hS => ?_)
        · exact obs_nil
        refine wpIn_ret ?_
        have hm : some (way2, jump2, 0) = some r := hm
        obtain rfl := Option.some.inj hm
        exact retV (rs := [.tmp 2, .tmp 3, .tmp 4]) (vs := [.slice A2 way2.length c2, .bool jump2, .int .i64 0]) hF rfl (rv_t (by kernel_rfl) <| rv_t (by kernel_rfl) <| rv_t (by kernel_rfl) <| rv_nil) rfl ⟨_, rfl, A2, c2, rfl, hS⟩
      · refine reg [] [] [5, 6, 11] [pl 5 (.slice A2 way2.length c2), pl 6 (.bool jump2), pl 11 (.int .i64 0)] hF hS Fol (by kernel_rfl) (by kernel_rfl) (by kernel_rfl) ?_ (fun a w hF hS => ?_)
        · exact obs_nil
        refine wpIn_block ?_
        refine wp_loop_model (S := Int) (R := (Fl Unit (List Int × Bool × Int))) (gameroomref_ReadWay_L2 way2) (fun x => ((gameroomref_ReadWay_K2 way2 jump2) x).bind some) r (fun (x : Int) a w => Fr 114 [pl 5 (.slice A2 way2.length c2), pl 6 (.bool jump2), pl 11 (.int .i64 x)] a ∧ Sep w0 B w (own 3 (.slice A2 way2.length c2) (vI way2) :: fs)) (assoc_b hm) ⟨hF.weak [5, 6, 11] (by kernel_rfl), hS⟩ ?_
        clear hF hS hm
        rintro nn2 i2 a w ⟨hF, hS⟩ hm
        generalize hφ2 : stK (gameroomref_ReadWay_L2 way2) nn2 (fun x => ((gameroomref_ReadWay_K2 way2 jump2) x).bind some) = φ2 at hm
        unfold gameroomref_ReadWay_L2 at hm
        dsimp only at hm
        refine seq_cut (fun a w => Fr 114 [pl 5 (.slice A2 way2.length c2), pl 6 (.bool jump2), pl 11 (.int .i64 i2)] a ∧ Sep w0 B w (own 3 (.slice A2 way2.length c2) (vI way2) :: fs) ∧ ((gameroomref_ReadWay_J11 way2 i2)).bind φ2 = some r) ?_ ?_
        · rintro a w ⟨hF, hS, hm⟩
          unfold gameroomref_ReadWay_J11 at hm
          refine seq_cut (fun a w => Fr 114 [pl 5 (.slice A2 way2.length c2), pl 6 (.bool jump2), pl 11 (.int .i64 i2)] a ∧ Sep w0 B w (own 3 (.slice A2 way2.length c2) (vI way2) :: fs) ∧ ((gameroomref_ReadWay_J12 i2)).bind φ2 = some r) ?_ ?_
          · rintro a w ⟨hF, hS, hm⟩
            unfold gameroomref_ReadWay_J12 at hm
            refine reg1 [] [] [5, 6, 11] [pl 5 (.slice A2 way2.length c2), pl 6 (.bool jump2), pl 11 (.int .i64 (w64 (i2 + 1)))] hF hS Fol (by kernel_rfl) (by kernel_rfl) (by kernel_rfl) ?_ (fun a w hF hS => ?_)
            · exact obs_nil
            refine then_n ?_
            rw [← hφ2] at hm
            exact ⟨(w64 (i2 + 1)), ⟨hF.weak [5, 6, 11] (by kernel_rfl), hS⟩, hm⟩
          · refine wpIn_block ?_
            obtain ⟨hp9, hm⟩ := asrt_b hm
            obtain ⟨r2, hr2, hm⟩ := call_b hm
            refine reg [⟨true, [], vS (Instr.indexAt 22 (.slice A2 way2.length c2) (.int .i64 i2)), .pointer (some (sAddr A2 i2))⟩, ⟨false, [], vS (Instr.loadAt 3 (.pointer (some (sAddr A2 i2)))), .int .i64 (geti way2 i2)⟩, ⟨false, [], callFunc 53 #[.int .i64 (geti way2 i2), .int .i64 1, .int .i64 32], .bool r2⟩] [none, none, some (.pointer (some (sAddr A2 i2))), some (.int .i64 (geti way2 i2)), some (.bool r2), none] [5, 6, 11, 111] [pl 5 (.slice A2 way2.length c2), pl 6 (.bool jump2), pl 11 (.int .i64 i2), pl 111 (.bool (!r2))] hF hS Fol (by kernel_rfl) (by kernel_rfl) (by kernel_rfl) ?_ (fun a w hF hS => ?_)
            · exact obs_cons (ob_ix1 (f := (Value.int .i64)) (m := way2) Und22 hi3 hs3 (hS.at_ 0 rfl).rd rfl (fun _ => hp9)) <| obs_cons (ob_get1 (n := way2.length) (m := way2) (Value.int .i64) (0 : Int) Agg3 (fun _ hS => ⟨_, (hS.at_ 0 rfl).rd⟩) (fun _ hS => rfl) (fun _ => hp9)) <| obs_cons (ob_call Tryd.func53 (by kernel_rfl) rfl (fun _ _ hS => gameroomref_within_w hr2 hS )) <| obs_nil
            refine cond_ev (t := 111) (b := !r2) hF (by kernel_rfl) (fun hb => ?_) (fun hb => ?_)
            · replace hm := if_t hm hb
              refine reg [] [] [2, 3, 4] [pl 2 (.slice none 0 0), pl 3 (.bool false), pl 4 (.int .i64 3)] hF hS Fol (by kernel_rfl) (by kernel_rfl) (by kernel_rfl) ?_ (fun a w hF hS => ?_)
              · exact obs_nil
              refine wpIn_ret ?_
              refine block_r (then_r (then_r (block_r (then_r ?_))))
              rw [← hφ2] at hm
              replace hm := done_b hm
              unfold gameroomref_ReadWay_K2 at hm
              try dsimp only at hm
              have hS : Sep w0 B w (own 3 (.slice none 0 0) (vI ([] : List Int)) :: own 3 (.slice A2 way2.length c2) (vI way2) :: fs) := hS.nil 3
              have hl5 := (hS.at_ 0 rfl).len1
              have hS := (hS.at_ 0 rfl).reN hl5
              have hS : Sep w0 B w (own 3 (.slice none (([] : List Int).length) 0) (vI ([] : List Int)) :: own 3 (.slice A2 way2.length c2) (vI way2) :: fs) := hS
              have hS := hS.pickN 2 [0] (by decide)
              have hm : some (([] : List Int), false, 3) = some r := hm
              obtain rfl := Option.some.inj hm
              exact retV (rs := [.tmp 2, .tmp 3, .tmp 4]) (vs := [.slice none (([] : List Int).length) 0, .bool false, .int .i64 3]) hF rfl (rv_t (by kernel_rfl) <| rv_t (by kernel_rfl) <| rv_t (by kernel_rfl) <| rv_nil) rfl ⟨_, rfl, none, 0, rfl, hS⟩
            · replace hm := if_f hm hb
              refine wpIn_skip ?_
              refine block_n ?_
              refine then_n ?_
              exact ⟨hF.weak [5, 6, 11] (by kernel_rfl), hS, hm⟩
        · refine reg [] [] [5, 6, 11, 103] [pl 5 (.slice A2 way2.length c2), pl 6 (.bool jump2), pl 11 (.int .i64 i2), pl 103 (.bool (decide (i2 < (way2.length : Int))))] hF hS Fol (by kernel_rfl) (by kernel_rfl) (by kernel_rfl) ?_ (fun a w hF hS => ?_)
          · exact obs_nil
          refine cond_ev (t := 103) (b := decide (i2 < (way2.length : Int))) hF (by kernel_rfl) (fun hb => ?_) (fun hb => ?_)
          · replace hm := if_t hm hb
            refine wpIn_skip ?_
            refine then_n ?_
            exact ⟨hF.weak [5, 6, 11] (by kernel_rfl), hS, hm⟩
          · replace hm := if_f hm hb
            refine wpIn_exit ?_
            refine then_e (then_e (block_e (then_n ?_)))
            rw [← hφ2] at hm
            replace hm := done_b hm
            unfold gameroomref_ReadWay_K2 at hm
            try dsimp only at hm
            have hm : ((gameroomref_ReadWay_J10 way2 jump2)).bind some = some r := hm
            exact ⟨hF.weak [5, 6] (by kernel_rfl), hS, hm⟩
    · refine reg [] [] [5, 6, 99] [pl 5 (.slice A2 way2.length c2), pl 6 (.bool jump2), pl 99 (.bool ((jump2 && step2) || (decide ((way2.length : Int) < 2))))] hF hS Fol (by kernel_rfl) (by kernel_rfl) (by kernel_rfl) ?_ (fun a w hF hS => ?_)
      · exact obs_nil
      refine cond_ev (t := 99) (b := (jump2 && step2) || (decide ((way2.length : Int) < 2))) hF (by kernel_rfl) (fun hb => ?_) (fun hb => ?_)
      · replace hm := if_t hm hb
        refine reg [] [] [2, 3, 4] [pl 2 (.slice none 0 0), pl 3 (.bool false), pl 4 (.int .i64 1)] hF hS Fol (by kernel_rfl) (by kernel_rfl) (by kernel_rfl) ?_ (fun a w hF hS => ?_)
        · exact obs_nil
        refine wpIn_ret ?_
        refine then_r ?_
        have hS : Sep w0 B w (own 3 (.slice none 0 0) (vI ([] : List Int)) :: own 3 (.slice A2 way2.length c2) (vI way2) :: fs) := hS.nil 3
        have hl4 := (hS.at_ 0 rfl).len1
        have hS := (hS.at_ 0 rfl).reN hl4
        have hS : Sep w0 B w (own 3 (.slice none (([] : List Int).length) 0) (vI ([] : List Int)) :: own 3 (.slice A2 way2.length c2) (vI way2) :: fs) := hS
        have hS := hS.pickN 2 [0] (by decide)
        have hm : some (([] : List Int), false, 1) = some r := hm
        obtain rfl := Option.some.inj hm
        exact retV (rs := [.tmp 2, .tmp 3, .tmp 4]) (vs := [.slice none (([] : List Int).length) 0, .bool false, .int .i64 1]) hF rfl (rv_t (by kernel_rfl) <| rv_t (by kernel_rfl) <| rv_t (by kernel_rfl) <| rv_nil) rfl ⟨_, rfl, none, 0, rfl, hS⟩
      · replace hm := if_f hm hb
        refine wpIn_skip ?_
        refine then_n ?_
        exact ⟨hF.weak [5, 6] (by kernel_rfl), hS, hm⟩
  · refine reg [] [] [0, 5, 6, 7, 8, 9, 10] [pl 0 (strV text1), pl 5 (.slice none 0 0), pl 6 (.bool false), pl 7 (.bool false), pl 8 (.int .i64 0), pl 9 (.int .i64 0), pl 10 (.int .i64 0)] hF hS Fol (by kernel_rfl) (by kernel_rfl) (by kernel_rfl) ?_ (fun a w hF hS => ?_)
    · exact obs_nil
    refine wpIn_block ?_
    have hS : Sep w0 B w (own 3 (.slice none 0 0) (vI ([] : List Int)) :: fs) := hS.nil 3
    have hl1 := (hS.at_ 0 rfl).len1
    have hS := (hS.at_ 0 rfl).reN hl1
    have hS : Sep w0 B w (own 3 (.slice none (([] : List Int).length) 0) (vI ([] : List Int)) :: fs) := hS
    have hF := hF.cast (t := 5) (v := .slice none 0 0) (v' := .slice none (([] : List Int).length) 0) rfl rfl (congrArg (fun k => Value.slice none k 0) hl1)
    refine wp_loop_model (S := (List Int × Bool × Bool × Int × Int × Int)) (R := (Fl (List Int × Bool × Bool) (List Int × Bool × Int))) (gameroomref_ReadWay_L1 text1) (fun x => (gameroomref_ReadWay_K1 x).bind some) r (fun (x : (List Int × Bool × Bool × Int × Int × Int)) a w => ∃ (A1 : Option Addr) (c1 : Nat), Fr 114 [pl 0 (strV text1), pl 5 (.slice A1 x.1.length c1), pl 6 (.bool x.2.1), pl 7 (.bool x.2.2.1), pl 8 (.int .i64 x.2.2.2.1), pl 9 (.int .i64 x.2.2.2.2.1), pl 10 (.int .i64 x.2.2.2.2.2)] a ∧ Sep w0 B w (own 3 (.slice A1 x.1.length c1) (vI x.1) :: fs)) (assoc_b hm) ⟨none, 0, hF.weak [0, 5, 6, 7, 8, 9, 10] (by kernel_rfl), hS⟩ ?_
    clear hF hS hm
    rintro nn1 ⟨way1, jump1, step1, n1, digits1, i1⟩ a w ⟨A1, c1, hF, hS⟩ hm
    generalize hφ1 : stK (gameroomref_ReadWay_L1 text1) nn1 (fun x => (gameroomref_ReadWay_K1 x).bind some) = φ1 at hm
    unfold gameroomref_ReadWay_L1 at hm
    dsimp only at hF hS hm
    refine seq_cut (fun a w => Fr 114 [pl 0 (strV text1), pl 5 (.slice A1 way1.length c1), pl 6 (.bool jump1), pl 7 (.bool step1), pl 8 (.int .i64 n1), pl 9 (.int .i64 digits1), pl 10 (.int .i64 i1)] a ∧ Sep w0 B w (own 3 (.slice A1 way1.length c1) (vI way1) :: fs) ∧ ((gameroomref_ReadWay_J2 text1 way1 jump1 step1 n1 digits1 i1)).bind φ1 = some r) ?_ ?_
    · rintro a w ⟨hF, hS, hm⟩
      unfold gameroomref_ReadWay_J2 at hm
      refine seq_cut (fun a w => ∃ (way3 : List Int) (jump3 : Bool) (step3 : Bool) (n3 : Int) (digits2 : Int) (A3 : Option Addr) (c3 : Nat), Fr 114 [pl 0 (strV text1), pl 5 (.slice A3 way3.length c3), pl 6 (.bool jump3), pl 7 (.bool step3), pl 8 (.int .i64 n3), pl 9 (.int .i64 digits2), pl 10 (.int .i64 i1)] a ∧ Sep w0 B w (own 3 (.slice A3 way3.length c3) (vI way3) :: fs) ∧ ((gameroomref_ReadWay_J3 i1) way3 jump3 step3 n3 digits2).bind φ1 = some r) ?_ ?_
      · rintro a w ⟨way3, jump3, step3, n3, digits2, A3, c3, hF, hS, hm⟩
        unfold gameroomref_ReadWay_J3 at hm
        refine reg1 [] [] [0, 5, 6, 7, 8, 9, 10] [pl 0 (strV text1), pl 5 (.slice A3 way3.length c3), pl 6 (.bool jump3), pl 7 (.bool step3), pl 8 (.int .i64 n3), pl 9 (.int .i64 digits2), pl 10 (.int .i64 (w64 (i1 + 1)))] hF hS Fol (by kernel_rfl) (by kernel_rfl) (by kernel_rfl) ?_ (fun a w hF hS => ?_)
        · exact obs_nil
        refine then_n ?_
        rw [← hφ1] at hm
        exact ⟨(way3, jump3, step3, n3, digits2, (w64 (i1 + 1))), ⟨A3, c3, hF.weak [0, 5, 6, 7, 8, 9, 10] (by kernel_rfl), hS⟩, hm⟩
      · refine wpIn_block ?_
        refine seq_cut (fun a w => Fr 114 [pl 0 (strV text1), pl 5 (.slice A1 way1.length c1), pl 6 (.bool jump1), pl 7 (.bool step1), pl 8 (.int .i64 n1), pl 9 (.int .i64 digits1), pl 10 (.int .i64 i1)] a ∧ Sep w0 B w (own 3 (.slice A1 way1.length c1) (vI way1) :: fs) ∧ ((gameroomref_ReadWay_J4 text1 way1 jump1 step1 n1 digits1 i1)).bind φ1 = some r) ?_ ?_
        · rintro a w ⟨hF, hS, hm⟩
          unfold gameroomref_ReadWay_J4 at hm
          refine seq_cut (fun a w => Fr 114 [pl 0 (strV text1), pl 5 (.slice A1 way1.length c1), pl 6 (.bool jump1), pl 7 (.bool step1), pl 8 (.int .i64 n1), pl 10 (.int .i64 i1)] a ∧ Sep w0 B w (own 3 (.slice A1 way1.length c1) (vI way1) :: fs) ∧ ((gameroomref_ReadWay_J7 text1 way1 jump1 step1 n1 i1)).bind φ1 = some r) ?_ ?_
          · rintro a w ⟨hF, hS, hm⟩
            unfold gameroomref_ReadWay_J7 at hm
            refine seq_cut (fun a w => ∃ (jump4 : Bool) (step4 : Bool), Fr 114 [pl 0 (strV text1), pl 5 (.slice A1 way1.length c1), pl 6 (.bool jump4), pl 7 (.bool step4), pl 8 (.int .i64 n1), pl 10 (.int .i64 i1)] a ∧ Sep w0 B w (own 3 (.slice A1 way1.length c1) (vI way1) :: fs) ∧ ((gameroomref_ReadWay_J8 way1 n1 i1) jump4 step4).bind φ1 = some r) ?_ ?_
            · rintro a w ⟨jump4, step4, hF, hS, hm⟩
              unfold gameroomref_ReadWay_J8 at hm
              refine seqR ?_
              obtain ⟨hp8, hm⟩ := asrt_b hm
              refine at_run 2 [] [] [0, 6, 7, 10, 87, 88] [pl 0 (strV text1), pl 6 (.bool jump4), pl 7 (.bool step4), pl 10 (.int .i64 i1), pl 87 (.slice A1 way1.length c1), pl 88 (.int .i64 n1)] hF hS (by kernel_rfl) (by kernel_rfl) ?_ (fun a w hF hS => ?_)
              · exact obs_nil
              refine at_do (d := 89) (s := vS (Instr.buildSlice 22 1 #[(0, .int .i64 n1)])) (v := .slice (some ⟨w.heap.size, 0, none⟩) 1 1) (w' := w.alloc (.cells #[.int .i64 n1] 3)) hF (by kernel_rfl) (by kernel_rfl) (by kernel_rfl) (fun a hF => ?_)
              have hS : Sep w0 B (w.alloc (.cells #[.int .i64 n1] 3)) (own 3 (.slice (some (⟨w.heap.size, 0, none⟩ : Addr)) 1 1) (vI ([n1] : List Int)) :: (own 3 (.slice A1 way1.length c1) (vI way1) :: fs)) := hS.lit 3 #[.int .i64 n1] 1 rfl (by omega)
              generalize (some (⟨w.heap.size, 0, none⟩ : Addr)) = g1 at hF hS
              generalize w.alloc (.cells #[.int .i64 n1] 3) = w at hS ⊢
              obtain ⟨A4, c4, w, hrun, hS⟩ := run_app1 (P := Tryd.prog) (t := 22) (m := way1) (ys := ([n1] : List Int)) (A2 := g1) (m2 := 1) (c2 := 1) (Value.int .i64) (0 : Int) (hS.at_ 1 rfl) (hS.at_ 0 rfl).rd ((hS.at_ 0 rfl).len1) 22 Und22 hi3 hz3 hs3 (by omega) rfl (fun _ => rfl) hp8
              have hS : Sep w0 B w (own 3 (.slice g1 1 1) (vI ([n1] : List Int)) :: own 3 (.slice A4 ((way1 ++ ([n1] : List Int)).length) c4) (vI (way1 ++ ([n1] : List Int))) :: fs) := hS
              refine at_do (d := 90) hF (by kernel_rfl) (by kernel_rfl) hrun (fun a hF => ?_)
              refine at_run 1 [] [] [0, 5, 6, 7, 10] [pl 0 (strV text1), pl 5 (.slice A4 ((way1 ++ ([n1] : List Int)).length) c4), pl 6 (.bool jump4), pl 7 (.bool step4), pl 10 (.int .i64 i1)] hF hS (by kernel_rfl) (by kernel_rfl) ?_ (fun a w hF hS => ?_)
              · exact obs_nil
              refine at_end [0, 5, 6, 7, 10] [pl 0 (strV text1), pl 5 (.slice A4 ((way1 ++ ([n1] : List Int)).length) c4), pl 6 (.bool jump4), pl 7 (.bool step4), pl 10 (.int .i64 i1)] hF rfl (by kernel_rfl) (fun hF => ?_)
              refine then_n ?_
              refine reg1 [] [] [0, 5, 6, 7, 8, 9, 10] [pl 0 (strV text1), pl 5 (.slice A4 ((way1 ++ ([n1] : List Int)).length) c4), pl 6 (.bool jump4), pl 7 (.bool step4), pl 8 (.int .i64 0), pl 9 (.int .i64 0), pl 10 (.int .i64 i1)] hF hS Fol (by kernel_rfl) (by kernel_rfl) (by kernel_rfl) ?_ (fun a w hF hS => ?_)
              · exact obs_nil
              refine block_n ?_
              refine then_n ?_
              have hS := hS.pickN 2 [1] (by decide)
              exact ⟨(way1 ++ ([n1] : List Int)), jump4, step4, 0, 0, A4, c4, hF.weak [0, 5, 6, 7, 8, 9, 10] (by kernel_rfl), hS, hm⟩
            · refine reg [⟨true, [], vS (Builtin.len_ #[9] 3 #[strV text1]), .int .i64 (text1.length : Int)⟩] [none, none, some (.int .i64 (text1.length : Int)), none] [0, 5, 6, 7, 8, 10, 72] [pl 0 (strV text1), pl 5 (.slice A1 way1.length c1), pl 6 (.bool jump1), pl 7 (.bool step1), pl 8 (.int .i64 n1), pl 10 (.int .i64 i1), pl 72 (.bool (decide (i1 < (text1.length : Int))))] hF hS Fol (by kernel_rfl) (by kernel_rfl) (by kernel_rfl) ?_ (fun a w hF hS => ?_)
              · exact obs_cons (ob_slen (s := text1) (by kernel_rfl) 3) <| obs_nil
              refine cond_ev (t := 72) (b := decide (i1 < (text1.length : Int))) hF (by kernel_rfl) (fun hb => ?_) (fun hb => ?_)
              · replace hm := if_t hm hb
                obtain ⟨hp6, hm⟩ := asrt_b hm
                refine reg [⟨true, [(jump1, false)], vS (Instr.index 9 (strV text1) (.int .i64 i1)), .int .u8 (getU text1 i1)⟩] [none, none, none, none, some (.int .u8 (getU text1 i1)), none, none, none] [0, 5, 6, 7, 8, 10] [pl 0 (strV text1), pl 5 (.slice A1 way1.length c1), pl 6 (.bool (jump1 || ((getU text1 i1) == 120))), pl 7 (.bool step1), pl 8 (.int .i64 n1), pl 10 (.int .i64 i1)] hF hS Fol (by kernel_rfl) (by kernel_rfl) (by kernel_rfl) ?_ (fun a w hF hS => ?_)
                · exact obs_cons (ob_sidx (s := text1) (by kernel_rfl) (fun hy => hp6 (hy (jump1, false) (by simp)))) <| obs_nil
                obtain ⟨hp7, hm⟩ := asrt_b hm
                refine reg1 [⟨true, [(step1, false)], vS (Instr.index 9 (strV text1) (.int .i64 i1)), .int .u8 (getU text1 i1)⟩] [none, none, none, none, some (.int .u8 (getU text1 i1)), none, none, none] [0, 5, 6, 7, 8, 10] [pl 0 (strV text1), pl 5 (.slice A1 way1.length c1), pl 6 (.bool (jump1 || ((getU text1 i1) == 120))), pl 7 (.bool (step1 || ((getU text1 i1) == 45))), pl 8 (.int .i64 n1), pl 10 (.int .i64 i1)] hF hS Fol (by kernel_rfl) (by kernel_rfl) (by kernel_rfl) ?_ (fun a w hF hS => ?_)
                · exact obs_cons (ob_sidx (s := text1) (by kernel_rfl) (fun hy => hp7 (hy (step1, false) (by simp)))) <| obs_nil
                refine then_n ?_
                exact ⟨(jump1 || ((getU text1 i1) == 120)), (step1 || ((getU text1 i1) == 45)), hF.weak [0, 5, 6, 7, 8, 10] (by kernel_rfl), hS, hm⟩
              · replace hm := if_f hm hb
                refine wpIn_skip ?_
                refine then_n ?_
                exact ⟨jump1, step1, hF.weak [0, 5, 6, 7, 8, 10] (by kernel_rfl), hS, hm⟩
          · obtain ⟨hp4, hm⟩ := asrt_b hm
            obtain ⟨hp5, hm⟩ := asrt_b hm
            refine reg [⟨true, [((digits1 == 0), false)], vS (Builtin.len_ #[9] 3 #[strV text1]), .int .i64 (text1.length : Int)⟩, ⟨true, [(decide (i1 < (text1.length : Int)), true), ((digits1 == 0), false)], vS (Instr.index 9 (strV text1) (.int .i64 i1)), .int .u8 (getU text1 i1)⟩, ⟨true, [((decide (i1 < (text1.length : Int))) && ((getU text1 i1) != 45), true), ((digits1 == 0), false)], vS (Instr.index 9 (strV text1) (.int .i64 i1)), .int .u8 (getU text1 i1)⟩] [none, none, none, none, none, some (.int .i64 (text1.length : Int)), none, none, none, none, some (.int .u8 (getU text1 i1)), none, none, none, none, none, some (.int .u8 (getU text1 i1)), none, none, none] [0, 5, 6, 7, 8, 10, 68] [pl 0 (strV text1), pl 5 (.slice A1 way1.length c1), pl 6 (.bool jump1), pl 7 (.bool step1), pl 8 (.int .i64 n1), pl 10 (.int .i64 i1), pl 68 (.bool ((digits1 == 0) || (((decide (i1 < (text1.length : Int))) && ((getU text1 i1) != 45)) && ((getU text1 i1) != 120))))] hF hS Fol (by kernel_rfl) (by kernel_rfl) (by kernel_rfl) ?_ (fun a w hF hS => ?_)
            · exact obs_cons (ob_slen (s := text1) (by kernel_rfl) 3) <| obs_cons (ob_sidx (s := text1) (by kernel_rfl) (fun hy => hp4 (hy (decide (i1 < (text1.length : Int)), true) (by simp)) (hy ((digits1 == 0), false) (by simp)))) <| obs_cons (ob_sidx (s := text1) (by kernel_rfl) (fun hy => hp5 (hy ((decide (i1 < (text1.length : Int))) && ((getU text1 i1) != 45), true) (by simp)) (hy ((digits1 == 0), false) (by simp)))) <| obs_nil
            refine cond_ev (t := 68) (b := (digits1 == 0) || (((decide (i1 < (text1.length : Int))) && ((getU text1 i1) != 45)) && ((getU text1 i1) != 120))) hF (by kernel_rfl) (fun hb => ?_) (fun hb => ?_)
            · replace hm := if_t hm hb
              refine reg [] [] [2, 3, 4] [pl 2 (.slice none 0 0), pl 3 (.bool false), pl 4 (.int .i64 1)] hF hS Fol (by kernel_rfl) (by kernel_rfl) (by kernel_rfl) ?_ (fun a w hF hS => ?_)
              · exact obs_nil
              refine wpIn_ret ?_
              refine then_r (block_r (then_r (then_r (block_r (then_r ?_)))))
              rw [← hφ1] at hm
              replace hm := done_b hm
              unfold gameroomref_ReadWay_K1 at hm
              try dsimp only at hm
              have hS : Sep w0 B w (own 3 (.slice none 0 0) (vI ([] : List Int)) :: own 3 (.slice A1 way1.length c1) (vI way1) :: fs) := hS.nil 3
              have hl3 := (hS.at_ 0 rfl).len1
              have hS := (hS.at_ 0 rfl).reN hl3
              have hS : Sep w0 B w (own 3 (.slice none (([] : List Int).length) 0) (vI ([] : List Int)) :: own 3 (.slice A1 way1.length c1) (vI way1) :: fs) := hS
              have hS := hS.pickN 2 [0] (by decide)
              have hm : some (([] : List Int), false, 1) = some r := hm
              obtain rfl := Option.some.inj hm
              exact retV (rs := [.tmp 2, .tmp 3, .tmp 4]) (vs := [.slice none (([] : List Int).length) 0, .bool false, .int .i64 1]) hF rfl (rv_t (by kernel_rfl) <| rv_t (by kernel_rfl) <| rv_t (by kernel_rfl) <| rv_nil) rfl ⟨_, rfl, none, 0, rfl, hS⟩
            · replace hm := if_f hm hb
              refine wpIn_skip ?_
              refine then_n ?_
              exact ⟨hF.weak [0, 5, 6, 7, 8, 10] (by kernel_rfl), hS, hm⟩
        · obtain ⟨hp1, hm⟩ := asrt_b hm
          obtain ⟨r1, hr1, hm⟩ := call_b hm
          refine reg [⟨true, [], vS (Builtin.len_ #[9] 3 #[strV text1]), .int .i64 (text1.length : Int)⟩, ⟨true, [(decide (i1 < (text1.length : Int)), true)], vS (Instr.index 9 (strV text1) (.int .i64 i1)), .int .u8 (getU text1 i1)⟩, ⟨false, [(decide (i1 < (text1.length : Int)), true)], callFunc 53 #[.int .i64 (w64 (getU text1 i1)), .int .i64 48, .int .i64 57], .bool r1⟩] [none, none, some (.int .i64 (text1.length : Int)), none, none, none, none, some (.int .u8 (getU text1 i1)), none, some (.bool r1), none] [0, 5, 6, 7, 8, 9, 10, 28] [pl 0 (strV text1), pl 5 (.slice A1 way1.length c1), pl 6 (.bool jump1), pl 7 (.bool step1), pl 8 (.int .i64 n1), pl 9 (.int .i64 digits1), pl 10 (.int .i64 i1), pl 28 (.bool ((decide (i1 < (text1.length : Int))) && r1))] hF hS Fol (by kernel_rfl) (by kernel_rfl) (by kernel_rfl) ?_ (fun a w hF hS => ?_)
          · exact obs_cons (ob_slen (s := text1) (by kernel_rfl) 3) <| obs_cons (ob_sidx (s := text1) (by kernel_rfl) (fun hy => hp1 (hy (decide (i1 < (text1.length : Int)), true) (by simp)))) <| obs_cons (ob_call Tryd.func53 (by kernel_rfl) rfl (fun hy _ hS => gameroomref_within_w (ite_some hr1 (by rw [show (decide (i1 < (text1.length : Int))) = true from hy (decide (i1 < (text1.length : Int)), true) (by simp)]; try rfl)) hS )) <| obs_nil
          refine cond_ev (t := 28) (b := (decide (i1 < (text1.length : Int))) && r1) hF (by kernel_rfl) (fun hb => ?_) (fun hb => ?_)
          · replace hm := if_t hm hb
            refine seq_cut (fun a w => Fr 114 [pl 0 (strV text1), pl 5 (.slice A1 way1.length c1), pl 6 (.bool jump1), pl 7 (.bool step1), pl 8 (.int .i64 n1), pl 9 (.int .i64 digits1), pl 10 (.int .i64 i1)] a ∧ Sep w0 B w (own 3 (.slice A1 way1.length c1) (vI way1) :: fs) ∧ ((gameroomref_ReadWay_J5 text1 way1 jump1 step1 n1 digits1 i1)).bind φ1 = some r) ?_ ?_
            · rintro a w ⟨hF, hS, hm⟩
              unfold gameroomref_ReadWay_J5 at hm
              refine reg [] [] [0, 5, 6, 7, 8, 9, 10] [pl 0 (strV text1), pl 5 (.slice A1 way1.length c1), pl 6 (.bool jump1), pl 7 (.bool step1), pl 8 (.int .i64 n1), pl 9 (.int .i64 (w64 (digits1 + 1))), pl 10 (.int .i64 i1)] hF hS Fol (by kernel_rfl) (by kernel_rfl) (by kernel_rfl) ?_ (fun a w hF hS => ?_)
              · exact obs_nil
              refine seq_cut (fun a w => ∃ (n2 : Int), Fr 114 [pl 0 (strV text1), pl 5 (.slice A1 way1.length c1), pl 6 (.bool jump1), pl 7 (.bool step1), pl 8 (.int .i64 n2), pl 9 (.int .i64 (w64 (digits1 + 1))), pl 10 (.int .i64 i1)] a ∧ Sep w0 B w (own 3 (.slice A1 way1.length c1) (vI way1) :: fs) ∧ ((gameroomref_ReadWay_J6 way1 jump1 step1 digits1 i1) n2).bind φ1 = some r) ?_ ?_
              · rintro a w ⟨n2, hF, hS, hm⟩
                unfold gameroomref_ReadWay_J6 at hm
                refine wpIn_exit ?_
                refine then_e (block_e (then_n ?_))
                exact ⟨way1, jump1, step1, n2, (w64 (digits1 + 1)), A1, c1, hF.weak [0, 5, 6, 7, 8, 9, 10] (by kernel_rfl), hS, hm⟩
              · refine reg [] [] [0, 5, 6, 7, 8, 9, 10, 40] [pl 0 (strV text1), pl 5 (.slice A1 way1.length c1), pl 6 (.bool jump1), pl 7 (.bool step1), pl 8 (.int .i64 n1), pl 9 (.int .i64 (w64 (digits1 + 1))), pl 10 (.int .i64 i1), pl 40 (.bool (decide (n1 < 1000)))] hF hS Fol (by kernel_rfl) (by kernel_rfl) (by kernel_rfl) ?_ (fun a w hF hS => ?_)
                · exact obs_nil
                refine cond_ev (t := 40) (b := decide (n1 < 1000)) hF (by kernel_rfl) (fun hb => ?_) (fun hb => ?_)
                · replace hm := if_t hm hb
                  obtain ⟨hp3, hm⟩ := asrt_b hm
                  refine reg1 [⟨true, [], vS (Instr.index 9 (strV text1) (.int .i64 i1)), .int .u8 (getU text1 i1)⟩] [none, none, none, none, some (.int .u8 (getU text1 i1)), none, none, none, none] [0, 5, 6, 7, 8, 9, 10] [pl 0 (strV text1), pl 5 (.slice A1 way1.length c1), pl 6 (.bool jump1), pl 7 (.bool step1), pl 8 (.int .i64 (w64 ((w64 (10 * n1)) + (w64 (IntKind.wrap .u8 ((getU text1 i1) - 48)))))), pl 9 (.int .i64 (w64 (digits1 + 1))), pl 10 (.int .i64 i1)] hF hS Fol (by kernel_rfl) (by kernel_rfl) (by kernel_rfl) ?_ (fun a w hF hS => ?_)
                  · exact obs_cons (ob_sidx (s := text1) (by kernel_rfl) (fun _ => hp3)) <| obs_nil
                  refine then_n ?_
                  exact ⟨(w64 ((w64 (10 * n1)) + (w64 (IntKind.wrap .u8 ((getU text1 i1) - 48))))), hF.weak [0, 5, 6, 7, 8, 9, 10] (by kernel_rfl), hS, hm⟩
                · replace hm := if_f hm hb
                  refine wpIn_skip ?_
                  refine then_n ?_
                  exact ⟨n1, hF.weak [0, 5, 6, 7, 8, 9, 10] (by kernel_rfl), hS, hm⟩
            · obtain ⟨hp2, hm⟩ := asrt_b hm
              refine reg [⟨true, [((digits1 == 0), true)], vS (Instr.index 9 (strV text1) (.int .i64 i1)), .int .u8 (getU text1 i1)⟩] [none, none, none, none, none, some (.int .u8 (getU text1 i1)), none, none] [0, 5, 6, 7, 8, 9, 10, 36] [pl 0 (strV text1), pl 5 (.slice A1 way1.length c1), pl 6 (.bool jump1), pl 7 (.bool step1), pl 8 (.int .i64 n1), pl 9 (.int .i64 digits1), pl 10 (.int .i64 i1), pl 36 (.bool ((digits1 == 0) && ((getU text1 i1) == 48)))] hF hS Fol (by kernel_rfl) (by kernel_rfl) (by kernel_rfl) ?_ (fun a w hF hS => ?_)
              · exact obs_cons (ob_sidx (s := text1) (by kernel_rfl) (fun hy => hp2 (hy ((digits1 == 0), true) (by simp)))) <| obs_nil
              refine cond_ev (t := 36) (b := (digits1 == 0) && ((getU text1 i1) == 48)) hF (by kernel_rfl) (fun hb => ?_) (fun hb => ?_)
              · replace hm := if_t hm hb
                refine reg [] [] [2, 3, 4] [pl 2 (.slice none 0 0), pl 3 (.bool false), pl 4 (.int .i64 1)] hF hS Fol (by kernel_rfl) (by kernel_rfl) (by kernel_rfl) ?_ (fun a w hF hS => ?_)
                · exact obs_nil
                refine wpIn_ret ?_
                refine then_r (then_r (block_r (then_r (then_r (block_r (then_r ?_))))))
                rw [← hφ1] at hm
                replace hm := done_b hm
                unfold gameroomref_ReadWay_K1 at hm
                try dsimp only at hm
                have hS : Sep w0 B w (own 3 (.slice none 0 0) (vI ([] : List Int)) :: own 3 (.slice A1 way1.length c1) (vI way1) :: fs) := hS.nil 3
                have hl2 := (hS.at_ 0 rfl).len1
                have hS := (hS.at_ 0 rfl).reN hl2
                have hS : Sep w0 B w (own 3 (.slice none (([] : List Int).length) 0) (vI ([] : List Int)) :: own 3 (.slice A1 way1.length c1) (vI way1) :: fs) := hS
                have hS := hS.pickN 2 [0] (by decide)
                have hm : some (([] : List Int), false, 1) = some r := hm
                obtain rfl := Option.some.inj hm
                exact retV (rs := [.tmp 2, .tmp 3, .tmp 4]) (vs := [.slice none (([] : List Int).length) 0, .bool false, .int .i64 1]) hF rfl (rv_t (by kernel_rfl) <| rv_t (by kernel_rfl) <| rv_t (by kernel_rfl) <| rv_nil) rfl ⟨_, rfl, none, 0, rfl, hS⟩
              · replace hm := if_f hm hb
                refine wpIn_skip ?_
                refine then_n ?_
                exact ⟨hF.weak [0, 5, 6, 7, 8, 9, 10] (by kernel_rfl), hS, hm⟩
          · replace hm := if_f hm hb
            refine wpIn_skip ?_
            refine then_n ?_
            exact ⟨hF.weak [0, 5, 6, 7, 8, 9, 10] (by kernel_rfl), hS, hm⟩
    · refine reg [⟨true, [], vS (Builtin.len_ #[9] 3 #[strV text1]), .int .i64 (text1.length : Int)⟩] [none, none, some (.int .i64 (text1.length : Int)), none] [0, 5, 6, 7, 8, 9, 10, 15] [pl 0 (strV text1), pl 5 (.slice A1 way1.length c1), pl 6 (.bool jump1), pl 7 (.bool step1), pl 8 (.int .i64 n1), pl 9 (.int .i64 digits1), pl 10 (.int .i64 i1), pl 15 (.bool (decide (i1 ≤ (text1.length : Int))))] hF hS Fol (by kernel_rfl) (by kernel_rfl) (by kernel_rfl) ?_ (fun a w hF hS => ?_)
      · exact obs_cons (ob_slen (s := text1) (by kernel_rfl) 3) <| obs_nil
      refine cond_ev (t := 15) (b := decide (i1 ≤ (text1.length : Int))) hF (by kernel_rfl) (fun hb => ?_) (fun hb => ?_)
      · replace hm := if_t hm hb
        refine wpIn_skip ?_
        refine then_n ?_
        exact ⟨hF.weak [0, 5, 6, 7, 8, 9, 10] (by kernel_rfl), hS, hm⟩
      · replace hm := if_f hm hb
        refine wpIn_exit ?_
        refine then_e (then_e (block_e (then_n ?_)))
        rw [← hφ1] at hm
        replace hm := done_b hm
        unfold gameroomref_ReadWay_K1 at hm
        try dsimp only at hm
        have hm : (gameroomref_ReadWay_J1 way1 jump1 step1).bind some = some r := hm
        exact ⟨way1, jump1, step1, A1, c1, hF.weak [5, 6, 7] (by kernel_rfl), hS, hm⟩

noncomputable def gameroomlaw_sameInts_J4  (i1 : Int) : Option (St Int (Fl Unit Bool)) :=
  some (.next (w64 (i1 + 1)))

noncomputable def gameroomlaw_sameInts_J3  (a1 : List Int) (b1 : List Int) (i1 : Int) : Option (St Int (Fl Unit Bool)) :=
  asrt (0 ≤ i1 ∧ i1 < (a1.length : Int)) <| asrt (0 ≤ i1 ∧ i1 < (b1.length : Int)) <| if ((geti a1 i1) != (geti b1 i1)) then (some (.done (.ret false))) else ((gameroomlaw_sameInts_J4 i1))

noncomputable def gameroomlaw_sameInts_J2  : Option Bool :=
  some true

noncomputable def gameroomlaw_sameInts_K1  : (Fl Unit Bool) → Option Bool :=
  fun (x : (Fl Unit Bool)) => match x with | .go _ => gameroomlaw_sameInts_J2 | .ret x => some x

noncomputable def gameroomlaw_sameInts_L1  (a1 : List Int) (b1 : List Int) : Int → Option (St Int (Fl Unit Bool)) :=
  fun (x : Int) => match x with | i1 => if (decide (i1 < (a1.length : Int))) then ((gameroomlaw_sameInts_J3 a1 b1 i1)) else (some (.done (.go ())))

noncomputable def gameroomlaw_sameInts_J1  (a1 : List Int) (b1 : List Int) : Option Bool :=
  (loop (gameroomlaw_sameInts_L1 a1 b1) 0).bind gameroomlaw_sameInts_K1

noncomputable def gameroomlaw_sameInts_m  (a1 : List Int) (b1 : List Int) : Option Bool :=
  if ((a1.length : Int) != (b1.length : Int)) then (some false) else ((gameroomlaw_sameInts_J1 a1 b1))

set_option maxRecDepth 100000 in
set_option maxHeartbeats 4000000 in
theorem gameroomlaw_sameInts_w  {A1 : Option Addr} {c1 : Nat} {n1 : Nat} {a1 : List Int} {A2 : Option Addr} {c2 : Nat} {n2 : Nat} {b1 : List Int} {r : Bool} {w0 w : World} {B : Nat} {fs : List HP} (hm : gameroomlaw_sameInts_m a1 b1 = some r) (hS : Sep w0 B w (fs)) (hr_a1 : RdF w0 B fs A1 (vI a1)) (_hc_a1 : a1.length ≤ c1) (_hn_a1 : n1 = a1.length) (hr_b1 : RdF w0 B fs A2 (vI b1)) (_hc_b1 : b1.length ≤ c2) (_hn_b1 : n2 = b1.length) :
    Calls Tryd.prog 49 #[.slice A1 n1 c1, .slice A2 n2 c2] w fun e w' => e = .returned (.bool r) ∧ Sep w0 B w' (fs) := by
  obtain ⟨i3, hi3, hz3, hs3, hb3⟩ := info_parts Info3
  obtain rfl := _hn_a1
  obtain rfl := _hn_b1
  unfold gameroomlaw_sameInts_m at hm
  replace hm := start_b hm
  refine enter (l := [.slice A1 a1.length c1, .slice A2 b1.length c2]) (n := 26) Tryd.func49 rfl rfl (by simp) (fun a hF => ?_)
  refine reg [] [] [0, 1] [pl 0 (.slice A1 a1.length c1), pl 1 (.slice A2 b1.length c2)] hF hS Fol (by kernel_rfl) (by kernel_rfl) (by kernel_rfl) ?_ (fun a w hF hS => ?_)
  · exact obs_nil
  refine seq_cut (fun a w => Fr 26 [pl 0 (.slice A1 a1.length c1), pl 1 (.slice A2 b1.length c2)] a ∧ Sep w0 B w (fs) ∧ ((gameroomlaw_sameInts_J1 a1 b1)).bind some = some r) ?_ ?_
  · rintro a w ⟨hF, hS, hm⟩
    unfold gameroomlaw_sameInts_J1 at hm
    refine seq_cut (fun a w => Fr 26 [] a ∧ Sep w0 B w (fs) ∧ (gameroomlaw_sameInts_J2).bind some = some r) ?_ ?_
    · rintro a w ⟨hF, hS, hm⟩
      unfold gameroomlaw_sameInts_J2 at hm
      refine reg [] [] [4] [pl 4 (.bool true)] hF hS Fol (by kernel_rfl) (by kernel_rfl) (by kernel_rfl) ?_ (fun a w hF hS => ?_)
      · exact obs_nil
      refine wpIn_ret ?_
      have hm : some true = some r := hm
      obtain rfl := Option.some.inj hm
      exact retV (rs := [.tmp 4]) (vs := [.bool true]) hF rfl (rv_t (by kernel_rfl) <| rv_nil) rfl ⟨rfl, hS⟩
    · refine reg [] [] [0, 1, 5] [pl 0 (.slice A1 a1.length c1), pl 1 (.slice A2 b1.length c2), pl 5 (.int .i64 0)] hF hS Fol (by kernel_rfl) (by kernel_rfl) (by kernel_rfl) ?_ (fun a w hF hS => ?_)
      · exact obs_nil
      refine wpIn_block ?_
      refine wp_loop_model (S := Int) (R := (Fl Unit Bool)) (gameroomlaw_sameInts_L1 a1 b1) (fun x => (gameroomlaw_sameInts_K1 x).bind some) r (fun (x : Int) a w => Fr 26 [pl 0 (.slice A1 a1.length c1), pl 1 (.slice A2 b1.length c2), pl 5 (.int .i64 x)] a ∧ Sep w0 B w (fs)) (assoc_b hm) ⟨hF.weak [0, 1, 5] (by kernel_rfl), hS⟩ ?_
      clear hF hS hm
      rintro nn1 i1 a w ⟨hF, hS⟩ hm
      generalize hφ1 : stK (gameroomlaw_sameInts_L1 a1 b1) nn1 (fun x => (gameroomlaw_sameInts_K1 x).bind some) = φ1 at hm
      unfold gameroomlaw_sameInts_L1 at hm
      dsimp only at hm
      refine seq_cut (fun a w => Fr 26 [pl 0 (.slice A1 a1.length c1), pl 1 (.slice A2 b1.length c2), pl 5 (.int .i64 i1)] a ∧ Sep w0 B w (fs) ∧ ((gameroomlaw_sameInts_J3 a1 b1 i1)).bind φ1 = some r) ?_ ?_
      · rintro a w ⟨hF, hS, hm⟩
        unfold gameroomlaw_sameInts_J3 at hm
        refine seq_cut (fun a w => Fr 26 [pl 0 (.slice A1 a1.length c1), pl 1 (.slice A2 b1.length c2), pl 5 (.int .i64 i1)] a ∧ Sep w0 B w (fs) ∧ ((gameroomlaw_sameInts_J4 i1)).bind φ1 = some r) ?_ ?_
        · rintro a w ⟨hF, hS, hm⟩
          unfold gameroomlaw_sameInts_J4 at hm
          refine reg1 [] [] [0, 1, 5] [pl 0 (.slice A1 a1.length c1), pl 1 (.slice A2 b1.length c2), pl 5 (.int .i64 (w64 (i1 + 1)))] hF hS Fol (by kernel_rfl) (by kernel_rfl) (by kernel_rfl) ?_ (fun a w hF hS => ?_)
          · exact obs_nil
          refine then_n ?_
          rw [← hφ1] at hm
          exact ⟨(w64 (i1 + 1)), ⟨hF.weak [0, 1, 5] (by kernel_rfl), hS⟩, hm⟩
        · refine wpIn_block ?_
          obtain ⟨hp1, hm⟩ := asrt_b hm
          obtain ⟨hp2, hm⟩ := asrt_b hm
          refine reg [⟨true, [], vS (Instr.indexAt 22 (.slice A1 a1.length c1) (.int .i64 i1)), .pointer (some (sAddr A1 i1))⟩, ⟨false, [], vS (Instr.loadAt 3 (.pointer (some (sAddr A1 i1)))), .int .i64 (geti a1 i1)⟩, ⟨true, [], vS (Instr.indexAt 22 (.slice A2 b1.length c2) (.int .i64 i1)), .pointer (some (sAddr A2 i1))⟩, ⟨false, [], vS (Instr.loadAt 3 (.pointer (some (sAddr A2 i1)))), .int .i64 (geti b1 i1)⟩] [none, none, some (.pointer (some (sAddr A1 i1))), some (.int .i64 (geti a1 i1)), none, none, some (.pointer (some (sAddr A2 i1))), some (.int .i64 (geti b1 i1)), none] [0, 1, 5, 25] [pl 0 (.slice A1 a1.length c1), pl 1 (.slice A2 b1.length c2), pl 5 (.int .i64 i1), pl 25 (.bool ((geti a1 i1) != (geti b1 i1)))] hF hS Fol (by kernel_rfl) (by kernel_rfl) (by kernel_rfl) ?_ (fun a w hF hS => ?_)
          · exact obs_cons (ob_ix1 (f := (Value.int .i64)) (m := a1) Und22 hi3 hs3 (hr_a1 _ (hS.dropN 0)) rfl (fun _ => hp1)) <| obs_cons (ob_get1 (n := a1.length) (m := a1) (Value.int .i64) (0 : Int) Agg3 (fun _ hS => ⟨_, (hr_a1 _ (hS.dropN 0))⟩) (fun _ hS => rfl) (fun _ => hp1)) <| obs_cons (ob_ix1 (f := (Value.int .i64)) (m := b1) Und22 hi3 hs3 (hr_b1 _ (hS.dropN 0)) rfl (fun _ => hp2)) <| obs_cons (ob_get1 (n := b1.length) (m := b1) (Value.int .i64) (0 : Int) Agg3 (fun _ hS => ⟨_, (hr_b1 _ (hS.dropN 0))⟩) (fun _ hS => rfl) (fun _ => hp2)) <| obs_nil
          refine cond_ev (t := 25) (b := ((geti a1 i1) != (geti b1 i1))) hF (by kernel_rfl) (fun hb => ?_) (fun hb => ?_)
          · replace hm := if_t hm hb
            refine reg [] [] [4] [pl 4 (.bool false)] hF hS Fol (by kernel_rfl) (by kernel_rfl) (by kernel_rfl) ?_ (fun a w hF hS => ?_)
            · exact obs_nil
            refine wpIn_ret ?_
            refine block_r (then_r (then_r (block_r (then_r ?_))))
            rw [← hφ1] at hm
            replace hm := done_b hm
            unfold gameroomlaw_sameInts_K1 at hm
            try dsimp only at hm
            have hm : some false = some r := hm
            obtain rfl := Option.some.inj hm
            exact retV (rs := [.tmp 4]) (vs := [.bool false]) hF rfl (rv_t (by kernel_rfl) <| rv_nil) rfl ⟨rfl, hS⟩
          · replace hm := if_f hm hb
            refine wpIn_skip ?_
            refine block_n ?_
            refine then_n ?_
            exact ⟨hF.weak [0, 1, 5] (by kernel_rfl), hS, hm⟩
      · refine reg [] [] [0, 1, 5, 14] [pl 0 (.slice A1 a1.length c1), pl 1 (.slice A2 b1.length c2), pl 5 (.int .i64 i1), pl 14 (.bool (decide (i1 < (a1.length : Int))))] hF hS Fol (by kernel_rfl) (by kernel_rfl) (by kernel_rfl) ?_ (fun a w hF hS => ?_)
        · exact obs_nil
        refine cond_ev (t := 14) (b := decide (i1 < (a1.length : Int))) hF (by kernel_rfl) (fun hb => ?_) (fun hb => ?_)
        · replace hm := if_t hm hb
          refine wpIn_skip ?_
          refine then_n ?_
          exact ⟨hF.weak [0, 1, 5] (by kernel_rfl), hS, hm⟩
        · replace hm := if_f hm hb
          refine wpIn_exit ?_
          refine then_e (then_e (block_e (then_n ?_)))
          rw [← hφ1] at hm
          replace hm := done_b hm
          unfold gameroomlaw_sameInts_K1 at hm
          try dsimp only at hm
          have hm : (gameroomlaw_sameInts_J2).bind some = some r := hm
          exact ⟨hF.weak [] (by kernel_rfl), hS, hm⟩
  · refine reg [] [] [0, 1, 10] [pl 0 (.slice A1 a1.length c1), pl 1 (.slice A2 b1.length c2), pl 10 (.bool ((a1.length : Int) != (b1.length : Int)))] hF hS Fol (by kernel_rfl) (by kernel_rfl) (by kernel_rfl) ?_ (fun a w hF hS => ?_)
    · exact obs_nil
    refine cond_ev (t := 10) (b := ((a1.length : Int) != (b1.length : Int))) hF (by kernel_rfl) (fun hb => ?_) (fun hb => ?_)
    · replace hm := if_t hm hb
      refine reg [] [] [4] [pl 4 (.bool false)] hF hS Fol (by kernel_rfl) (by kernel_rfl) (by kernel_rfl) ?_ (fun a w hF hS => ?_)
      · exact obs_nil
      refine wpIn_ret ?_
      refine then_r ?_
      have hm : some false = some r := hm
      obtain rfl := Option.some.inj hm
      exact retV (rs := [.tmp 4]) (vs := [.bool false]) hF rfl (rv_t (by kernel_rfl) <| rv_nil) rfl ⟨rfl, hS⟩
    · replace hm := if_f hm hb
      refine wpIn_skip ?_
      refine then_n ?_
      exact ⟨hF.weak [0, 1] (by kernel_rfl), hS, hm⟩

noncomputable def gameroomlaw_DraughtsTexts_m  (way1 : List Int) (jump1 : Bool) (text1 : List UInt8) : Option Bool :=
  (gameroomlaw_ints_m way1).bind fun r1 => (draughts_Text_m r1 jump1).bind fun r2 => (draughts_Read_m text1).bind fun r3 => (gameroomref_WayText_m way1 jump1).bind fun r4 => (gameroomref_ReadWay_m text1).bind fun r5 => ((if ((((r2.2 == r4.2) && (r2.1 == r4.1)) && (r3.2.2 == r5.2.2)) && (r3.2.1 == r5.2.1)) then gameroomlaw_sameInts_m r3.1 r5.1 else some false)).bind fun r6 => some (((((r2.2 == r4.2) && (r2.1 == r4.1)) && (r3.2.2 == r5.2.2)) && (r3.2.1 == r5.2.1)) && r6)

set_option maxRecDepth 100000 in
set_option maxHeartbeats 4000000 in
theorem gameroomlaw_DraughtsTexts_w  {A1 : Option Addr} {c1 : Nat} {n1 : Nat} {way1 : List Int} {jump1 : Bool} {text1 : List UInt8} {r : Bool} {w0 w : World} {B : Nat} {fs : List HP} [ErrG 2 w0 B] [ErrG 3 w0 B] [IntG 4 w0 B] [PowG Tryd.prog w0 B] (hm : gameroomlaw_DraughtsTexts_m way1 jump1 text1 = some r) (hS : Sep w0 B w (fs)) (hr_way1 : RdF w0 B fs A1 (vI way1)) (_hc_way1 : way1.length ≤ c1) (_hn_way1 : n1 = way1.length) :
    Calls Tryd.prog 8 #[.slice A1 n1 c1, .bool jump1, strV text1] w fun e w' => e = .returned (.bool r) ∧ Sep w0 B w' (fs) := by
  obtain ⟨i3, hi3, hz3, hs3, hb3⟩ := info_parts Info3
  obtain rfl := _hn_way1
  unfold gameroomlaw_DraughtsTexts_m at hm
  replace hm := start_b hm
  refine enter (l := [.slice A1 way1.length c1, .bool jump1, strV text1]) (n := 65) Tryd.func8 rfl rfl (by simp) (fun a hF => ?_)
  refine reg [] [] [0, 1, 2] [pl 0 (.slice A1 way1.length c1), pl 1 (.bool jump1), pl 2 (strV text1)] hF hS Fol (by kernel_rfl) (by kernel_rfl) (by kernel_rfl) ?_ (fun a w hF hS => ?_)
  · exact obs_nil
  refine seqR ?_
  obtain ⟨r1, hr1, hm⟩ := call_b hm
  obtain ⟨r2, hr2, hm⟩ := call_b hm
  refine at_run 1 [] [] [0, 1, 2, 18] [pl 0 (.slice A1 way1.length c1), pl 1 (.bool jump1), pl 2 (strV text1), pl 18 (.slice A1 way1.length c1)] hF hS (by kernel_rfl) (by kernel_rfl) ?_ (fun a w hF hS => ?_)
  · exact obs_nil
  refine at_call (f := 11) (args := #[.slice A1 way1.length c1]) (d := 19) hF (by kernel_rfl) (by kernel_rfl) Tryd.func11 (by kernel_rfl) rfl (gameroomlaw_ints_w hr1 hS (fun _ hS => (hr_way1 _ (hS.dropN 0))) _hc_way1 rfl) (fun v a w hR hF => ?_)
  clear hS
  obtain ⟨A2, c2, rfl, hS⟩ := hR
  have hS : Sep w0 B w (own 3 (.slice A2 r1.length c2) (vI r1) :: fs) := hS
  refine at_run 7 [⟨false, [], callFunc 45 #[.slice A2 r1.length c2, .bool jump1], .tuple #[strV r2.1, .int .i64 r2.2]⟩] [none, some (.tuple #[strV r2.1, .int .i64 r2.2]), none, none, none, none, none] [0, 1, 2, 7, 8] [pl 0 (.slice A1 way1.length c1), pl 1 (.bool jump1), pl 2 (strV text1), pl 7 (strV r2.1), pl 8 (.int .i64 r2.2)] hF hS (by kernel_rfl) (by kernel_rfl) ?_ (fun a w hF hS => ?_)
  · exact obs_cons (ob_call Tryd.func45 (by kernel_rfl) rfl (fun _ _ hS => draughts_Text_w hr2 hS (fun _ hS => (hS.at_ 0 rfl).rd) ((hS.at_ 0 rfl).cap1) rfl)) <| obs_nil
  refine at_end [0, 1, 2, 7, 8] [pl 0 (.slice A1 way1.length c1), pl 1 (.bool jump1), pl 2 (strV text1), pl 7 (strV r2.1), pl 8 (.int .i64 r2.2)] hF rfl (by kernel_rfl) (fun hF => ?_)
  refine then_n ?_
  refine seqR ?_
  obtain ⟨r3, hr3, hm⟩ := call_b hm
  refine at_run 1 [] [] [0, 1, 2, 7, 8, 25] [pl 0 (.slice A1 way1.length c1), pl 1 (.bool jump1), pl 2 (strV text1), pl 7 (strV r2.1), pl 8 (.int .i64 r2.2), pl 25 (strV text1)] hF hS (by kernel_rfl) (by kernel_rfl) ?_ (fun a w hF hS => ?_)
  · exact obs_nil
  refine at_call (f := 46) (args := #[strV text1]) (d := 26) hF (by kernel_rfl) (by kernel_rfl) Tryd.func46 (by kernel_rfl) rfl (draughts_Read_w hr3 hS ) (fun v a w hR hF => ?_)
  clear hS
  obtain ⟨A3, c3, rfl, hS⟩ := hR
  have hS : Sep w0 B w (own 3 (.slice A3 r3.1.length c3) (vI r3.1) :: own 3 (.slice A2 r1.length c2) (vI r1) :: fs) := hS
  refine at_run 7 [] [] [0, 1, 2, 7, 8, 9, 10, 11] [pl 0 (.slice A1 way1.length c1), pl 1 (.bool jump1), pl 2 (strV text1), pl 7 (strV r2.1), pl 8 (.int .i64 r2.2), pl 9 (.slice A3 r3.1.length c3), pl 10 (.bool r3.2.1), pl 11 (.int .i64 r3.2.2)] hF hS (by kernel_rfl) (by kernel_rfl) ?_ (fun a w hF hS => ?_)
  · exact obs_nil
  refine at_end [0, 1, 2, 7, 8, 9, 10, 11] [pl 0 (.slice A1 way1.length c1), pl 1 (.bool jump1), pl 2 (strV text1), pl 7 (strV r2.1), pl 8 (.int .i64 r2.2), pl 9 (.slice A3 r3.1.length c3), pl 10 (.bool r3.2.1), pl 11 (.int .i64 r3.2.2)] hF rfl (by kernel_rfl) (fun hF => ?_)
  refine then_n ?_
  obtain ⟨r4, hr4, hm⟩ := call_b hm
  refine reg [⟨false, [], callFunc 47 #[.slice A1 way1.length c1, .bool jump1], .tuple #[strV r4.1, .int .i64 r4.2]⟩] [none, none, some (.tuple #[strV r4.1, .int .i64 r4.2]), none, none, none, none, none] [2, 7, 8, 9, 10, 11, 12, 13] [pl 2 (strV text1), pl 7 (strV r2.1), pl 8 (.int .i64 r2.2), pl 9 (.slice A3 r3.1.length c3), pl 10 (.bool r3.2.1), pl 11 (.int .i64 r3.2.2), pl 12 (strV r4.1), pl 13 (.int .i64 r4.2)] hF hS Fol (by kernel_rfl) (by kernel_rfl) (by kernel_rfl) ?_ (fun a w hF hS => ?_)
  · exact obs_cons (ob_call Tryd.func47 (by kernel_rfl) rfl (fun _ _ hS => gameroomref_WayText_w hr4 hS (fun _ hS => (hr_way1 _ (hS.dropN 2))) _hc_way1 rfl)) <| obs_nil
  refine seqR ?_
  obtain ⟨r5, hr5, hm⟩ := call_b hm
  refine at_run 1 [] [] [7, 8, 9, 10, 11, 12, 13, 37] [pl 7 (strV r2.1), pl 8 (.int .i64 r2.2), pl 9 (.slice A3 r3.1.length c3), pl 10 (.bool r3.2.1), pl 11 (.int .i64 r3.2.2), pl 12 (strV r4.1), pl 13 (.int .i64 r4.2), pl 37 (strV text1)] hF hS (by kernel_rfl) (by kernel_rfl) ?_ (fun a w hF hS => ?_)
  · exact obs_nil
  refine at_call (f := 48) (args := #[strV text1]) (d := 38) hF (by kernel_rfl) (by kernel_rfl) Tryd.func48 (by kernel_rfl) rfl (gameroomref_ReadWay_w hr5 hS ) (fun v a w hR hF => ?_)
  clear hS
  obtain ⟨A4, c4, rfl, hS⟩ := hR
  have hS : Sep w0 B w (own 3 (.slice A4 r5.1.length c4) (vI r5.1) :: own 3 (.slice A3 r3.1.length c3) (vI r3.1) :: own 3 (.slice A2 r1.length c2) (vI r1) :: fs) := hS
  refine at_run 7 [] [] [7, 8, 9, 10, 11, 12, 13, 14, 15, 16] [pl 7 (strV r2.1), pl 8 (.int .i64 r2.2), pl 9 (.slice A3 r3.1.length c3), pl 10 (.bool r3.2.1), pl 11 (.int .i64 r3.2.2), pl 12 (strV r4.1), pl 13 (.int .i64 r4.2), pl 14 (.slice A4 r5.1.length c4), pl 15 (.bool r5.2.1), pl 16 (.int .i64 r5.2.2)] hF hS (by kernel_rfl) (by kernel_rfl) ?_ (fun a w hF hS => ?_)
  · exact obs_nil
  refine at_end [7, 8, 9, 10, 11, 12, 13, 14, 15, 16] [pl 7 (strV r2.1), pl 8 (.int .i64 r2.2), pl 9 (.slice A3 r3.1.length c3), pl 10 (.bool r3.2.1), pl 11 (.int .i64 r3.2.2), pl 12 (strV r4.1), pl 13 (.int .i64 r4.2), pl 14 (.slice A4 r5.1.length c4), pl 15 (.bool r5.2.1), pl 16 (.int .i64 r5.2.2)] hF rfl (by kernel_rfl) (fun hF => ?_)
  refine then_n ?_
  obtain ⟨r6, hr6, hm⟩ := call_b hm
  refine reg [⟨true, [((r2.2 == r4.2), true)], vS (do eqGuard .eql 9 (.tmp 46) (.tmp 47) (strV r2.1) (strV r4.1); binOp .eql 9 (strV r2.1) (strV r4.1)), .bool ((r2.1 == r4.1))⟩, ⟨false, [((((r2.2 == r4.2) && (r2.1 == r4.1)) && (r3.2.2 == r5.2.2)) && (r3.2.1 == r5.2.1), true)], callFunc 49 #[.slice A3 r3.1.length c3, .slice A4 r5.1.length c4], .bool r6⟩] [none, none, none, none, none, none, some (.bool ((r2.1 == r4.1))), none, none, none, none, none, none, none, none, none, none, none, none, none, none, some (.bool r6), none, none] [6] [pl 6 (.bool (((((r2.2 == r4.2) && (r2.1 == r4.1)) && (r3.2.2 == r5.2.2)) && (r3.2.1 == r5.2.1)) && r6))] hF hS Fol (by kernel_rfl) (by kernel_rfl) (by kernel_rfl) ?_ (fun a w hF hS => ?_)
  · exact obs_cons (ob_seql _ _) <| obs_cons (ob_call Tryd.func49 (by kernel_rfl) rfl (fun hy _ hS => gameroomlaw_sameInts_w (ite_some hr6 (by rw [show ((((r2.2 == r4.2) && (r2.1 == r4.1)) && (r3.2.2 == r5.2.2)) && (r3.2.1 == r5.2.1)) = true from hy ((((r2.2 == r4.2) && (r2.1 == r4.1)) && (r3.2.2 == r5.2.2)) && (r3.2.1 == r5.2.1), true) (by simp)]; try rfl)) hS (fun _ hS => (hS.at_ 1 rfl).rd) ((hS.at_ 1 rfl).cap1) rfl (fun _ hS => (hS.at_ 0 rfl).rd) ((hS.at_ 0 rfl).cap1) rfl)) <| obs_nil
  refine wpIn_ret ?_
  have hS := hS.pickN 3 [] (by decide)
  have hm : some (((((r2.2 == r4.2) && (r2.1 == r4.1)) && (r3.2.2 == r5.2.2)) && (r3.2.1 == r5.2.1)) && r6) = some r := hm
  obtain rfl := Option.some.inj hm
  exact retV (rs := [.tmp 6]) (vs := [.bool (((((r2.2 == r4.2) && (r2.1 == r4.1)) && (r3.2.2 == r5.2.2)) && (r3.2.1 == r5.2.1)) && r6)]) hF rfl (rv_t (by kernel_rfl) <| rv_nil) rfl ⟨rfl, hS⟩

end Go.Proofs.YtdbdcbejmbpbmaaDoor
