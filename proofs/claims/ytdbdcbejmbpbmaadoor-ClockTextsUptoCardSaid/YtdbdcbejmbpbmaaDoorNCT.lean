/-
  Models and walks, printed by our own program (wip/gen).
-/
import Derived.Test.YtdbdcbejmbpbmaaDoorFB
import Derived.Test.YtdbdcbejmbpbmaaDoorLibIt
import Derived.Test.YtdbdcbejmbpbmaaDoorSX
import Derived.Test.YtdbdcbejmbpbmaaDoorLibSu
import Derived.Test.YtdbdcbejmbpbmaaDoorLibSt
namespace Go.Proofs.YtdbdcbejmbpbmaaDoor
open Go Go.GL Go.RowKit


noncomputable def clock_far_m  (n1 : Int) : Option Bool :=
  some ((decide (n1 < 0)) || (decide ((36000000 : Int) < n1)))

set_option maxRecDepth 100000 in
set_option maxHeartbeats 4000000 in
theorem clock_far_w  {n1 : Int} {r : Bool} {w0 w : World} {B : Nat} {fs : List HP} (hm : clock_far_m n1 = some r) (hS : Sep w0 B w (fs)) :
    Calls Tryd.prog 54 #[.int .i64 n1] w fun e w' => e = .returned (.bool r) ∧ Sep w0 B w' (fs) := by
  unfold clock_far_m at hm
  replace hm := start_b hm
  refine enter (l := [.int .i64 n1]) (n := 9) Tryd.func54 rfl rfl (by simp) (fun a hF => ?_)
  refine reg [] [] [0] [pl 0 (.int .i64 n1)] hF hS Fol (by kernel_rfl) (by kernel_rfl) (by kernel_rfl) ?_ (fun a w hF hS => ?_)
  · exact obs_nil
  refine reg [] [] [2] [pl 2 (.bool ((decide (n1 < 0)) || (decide ((36000000 : Int) < n1))))] hF hS Fol (by kernel_rfl) (by kernel_rfl) (by kernel_rfl) ?_ (fun a w hF hS => ?_)
  · exact obs_nil
  refine wpIn_ret ?_
  have hm : some ((decide (n1 < 0)) || (decide ((36000000 : Int) < n1))) = some r := hm
  obtain rfl := Option.some.inj hm
  exact retV (rs := [.tmp 2]) (vs := [.bool ((decide (n1 < 0)) || (decide ((36000000 : Int) < n1)))]) hF rfl (rv_t (by kernel_rfl) <| rv_nil) rfl ⟨rfl, hS⟩

noncomputable def strconv_Itoa_m (i1 : Int) : Option (List UInt8) :=
  asrt (-9223372036854775808 ≤ i1 ∧ i1 ≤ 9223372036854775807) <| some (itoaL i1)

theorem strconv_Itoa_w {i1 : Int} {r : (List UInt8)} {w0 w : World} {B : Nat} {fs : List HP} [PowG Tryd.prog w0 B] (hm : strconv_Itoa_m i1 = some r) (hS : Sep w0 B w (fs)) :
    Calls Tryd.prog 55 #[.int .i64 i1] w fun e w' => e = .returned (strV r) ∧ Sep w0 B w' (fs) := by
  unfold strconv_Itoa_m at hm
  obtain ⟨hb, hm⟩ := asrt_b (start_b hm)
  obtain rfl := Option.some.inj hm
  exact itoa_own ItoaL hS hb

noncomputable def clock_two_m  (n1 : Int) : Option (List UInt8) :=
  (strconv_Itoa_m (w64 (100 + n1))).bind fun r1 => asrt (0 ≤ (1 : Int) ∧ (1 : Int) ≤ (r1.length : Int) ∧ (r1.length : Int) ≤ (r1.length : Int)) <| some (cut r1 (1 : Int) (r1.length : Int))

set_option maxRecDepth 100000 in
set_option maxHeartbeats 4000000 in
theorem clock_two_w  {n1 : Int} {r : (List UInt8)} {w0 w : World} {B : Nat} {fs : List HP} [PowG Tryd.prog w0 B] (hm : clock_two_m n1 = some r) (hS : Sep w0 B w (fs)) :
    Calls Tryd.prog 56 #[.int .i64 n1] w fun e w' => e = .returned (strV r) ∧ Sep w0 B w' (fs) := by
  unfold clock_two_m at hm
  replace hm := start_b hm
  refine enter (l := [.int .i64 n1]) (n := 7) Tryd.func56 rfl rfl (by simp) (fun a hF => ?_)
  refine reg [] [] [0] [pl 0 (.int .i64 n1)] hF hS Fol (by kernel_rfl) (by kernel_rfl) (by kernel_rfl) ?_ (fun a w hF hS => ?_)
  · exact obs_nil
  obtain ⟨r1, hr1, hm⟩ := call_b hm
  obtain ⟨hp1, hm⟩ := asrt_b hm
  refine reg [⟨false, [], callFunc 55 #[.int .i64 (w64 (100 + n1))], strV r1⟩, ⟨true, [], vS (Instr.sliceAt 9 (strV r1) (some (.int .i64 (1 : Int))) none none), strV (cut r1 (1 : Int) (r1.length : Int))⟩] [none, none, some (strV r1), some (strV (cut r1 (1 : Int) (r1.length : Int))), none] [2] [pl 2 (strV (cut r1 (1 : Int) (r1.length : Int)))] hF hS Fol (by kernel_rfl) (by kernel_rfl) (by kernel_rfl) ?_ (fun a w hF hS => ?_)
  · exact obs_cons (ob_call Tryd.func55 (by kernel_rfl) rfl (fun _ _ hS => strconv_Itoa_w hr1 hS )) <| obs_cons (ob_scut (s := r1) (k := .i64) (k' := .i64) (by kernel_rfl) (.inl rfl) (.inr ⟨rfl, rfl⟩) (fun _ => hp1)) <| obs_nil
  refine wpIn_ret ?_
  have hm : some (cut r1 (1 : Int) (r1.length : Int)) = some r := hm
  obtain rfl := Option.some.inj hm
  exact retV (rs := [.tmp 2]) (vs := [strV (cut r1 (1 : Int) (r1.length : Int))]) hF rfl (rv_t (by kernel_rfl) <| rv_nil) rfl ⟨rfl, hS⟩

noncomputable def clock_Show_J2  (time1 : Int) : Option (List UInt8 × Int) :=
  (strconv_Itoa_m (w64 (Int.tdiv time1 1000))).bind fun r7 => asrt ((r7.length : Int) + ([46] : List UInt8).length ≤ bigN) <| (strconv_Itoa_m (Int.tmod (w64 (Int.tdiv time1 100)) 10)).bind fun r8 => asrt (((r7 ++ ([46] : List UInt8)).length : Int) + r8.length ≤ bigN) <| some (((r7 ++ ([46] : List UInt8)) ++ r8), 0)

noncomputable def clock_Show_J1  (time1 : Int) : Option (List UInt8 × Int) :=
  if (decide ((3600 : Int) ≤ (w64 (Int.tdiv time1 1000)))) then ((strconv_Itoa_m (w64 (Int.tdiv (w64 (Int.tdiv time1 1000)) 3600))).bind fun r2 => asrt ((r2.length : Int) + ([58] : List UInt8).length ≤ bigN) <| (clock_two_m (Int.tmod (w64 (Int.tdiv (w64 (Int.tdiv time1 1000)) 60)) 60)).bind fun r3 => asrt (((r2 ++ ([58] : List UInt8)).length : Int) + r3.length ≤ bigN) <| asrt ((((r2 ++ ([58] : List UInt8)) ++ r3).length : Int) + ([58] : List UInt8).length ≤ bigN) <| (clock_two_m (Int.tmod (w64 (Int.tdiv time1 1000)) 60)).bind fun r4 => asrt (((((r2 ++ ([58] : List UInt8)) ++ r3) ++ ([58] : List UInt8)).length : Int) + r4.length ≤ bigN) <| some (((((r2 ++ ([58] : List UInt8)) ++ r3) ++ ([58] : List UInt8)) ++ r4), 0)) else (if (decide ((60 : Int) ≤ (w64 (Int.tdiv time1 1000)))) then ((strconv_Itoa_m (w64 (Int.tdiv (w64 (Int.tdiv time1 1000)) 60))).bind fun r5 => asrt ((r5.length : Int) + ([58] : List UInt8).length ≤ bigN) <| (clock_two_m (Int.tmod (w64 (Int.tdiv time1 1000)) 60)).bind fun r6 => asrt (((r5 ++ ([58] : List UInt8)).length : Int) + r6.length ≤ bigN) <| some (((r5 ++ ([58] : List UInt8)) ++ r6), 0)) else ((clock_Show_J2 time1)))

noncomputable def clock_Show_m  (time1 : Int) : Option (List UInt8 × Int) :=
  (clock_far_m time1).bind fun r1 => if r1 then (some (([] : List UInt8), 1)) else ((clock_Show_J1 time1))

set_option maxRecDepth 100000 in
set_option maxHeartbeats 4000000 in
theorem clock_Show_w  {time1 : Int} {r : (List UInt8 × Int)} {w0 w : World} {B : Nat} {fs : List HP} [PowG Tryd.prog w0 B] (hm : clock_Show_m time1 = some r) (hS : Sep w0 B w (fs)) :
    Calls Tryd.prog 16 #[.int .i64 time1] w fun e w' => e = .returned (.tuple #[strV r.1, .int .i64 r.2]) ∧ Sep w0 B w' (fs) := by
  unfold clock_Show_m at hm
  replace hm := start_b hm
  refine enter (l := [.int .i64 time1]) (n := 45) Tryd.func16 rfl rfl (by simp) (fun a hF => ?_)
  refine reg [] [] [0] [pl 0 (.int .i64 time1)] hF hS Fol (by kernel_rfl) (by kernel_rfl) (by kernel_rfl) ?_ (fun a w hF hS => ?_)
  · exact obs_nil
  refine seq_cut (fun a w => Fr 45 [pl 0 (.int .i64 time1)] a ∧ Sep w0 B w (fs) ∧ ((clock_Show_J1 time1)).bind some = some r) ?_ ?_
  · rintro a w ⟨hF, hS, hm⟩
    unfold clock_Show_J1 at hm
    refine reg [] [] [0, 4] [pl 0 (.int .i64 time1), pl 4 (.int .i64 (w64 (Int.tdiv time1 1000)))] hF hS Fol (by kernel_rfl) (by kernel_rfl) (by kernel_rfl) ?_ (fun a w hF hS => ?_)
    · exact obs_nil
    refine seq_cut (fun a w => Fr 45 [pl 0 (.int .i64 time1), pl 4 (.int .i64 (w64 (Int.tdiv time1 1000)))] a ∧ Sep w0 B w (fs) ∧ ((clock_Show_J2 time1)).bind some = some r) ?_ ?_
    · rintro a w ⟨hF, hS, hm⟩
      unfold clock_Show_J2 at hm
      obtain ⟨r7, hr7, hm⟩ := call_b hm
      obtain ⟨hp7, hm⟩ := asrt_b hm
      obtain ⟨r8, hr8, hm⟩ := call_b hm
      obtain ⟨hp8, hm⟩ := asrt_b hm
      refine reg [⟨false, [], callFunc 55 #[.int .i64 (w64 (Int.tdiv time1 1000))], strV r7⟩, ⟨true, [], vS (do eqGuard .add 9 (.tmp 38) (.const (strV ([46] : List UInt8))) (strV r7) (strV ([46] : List UInt8)); binOp .add 9 (strV r7) (strV ([46] : List UInt8))), strV (r7 ++ ([46] : List UInt8))⟩, ⟨false, [], callFunc 55 #[.int .i64 (Int.tmod (w64 (Int.tdiv time1 100)) 10)], strV r8⟩, ⟨true, [], vS (do eqGuard .add 9 (.tmp 39) (.tmp 43) (strV (r7 ++ ([46] : List UInt8))) (strV r8); binOp .add 9 (strV (r7 ++ ([46] : List UInt8))) (strV r8)), strV ((r7 ++ ([46] : List UInt8)) ++ r8)⟩] [none, some (strV r7), some (strV (r7 ++ ([46] : List UInt8))), none, none, none, some (strV r8), some (strV ((r7 ++ ([46] : List UInt8)) ++ r8)), none, none] [2, 3] [pl 2 (strV ((r7 ++ ([46] : List UInt8)) ++ r8)), pl 3 (.int .i64 0)] hF hS Fol (by kernel_rfl) (by kernel_rfl) (by kernel_rfl) ?_ (fun a w hF hS => ?_)
      · exact obs_cons (ob_call Tryd.func55 (by kernel_rfl) rfl (fun _ _ hS => strconv_Itoa_w hr7 hS )) <| obs_cons (ob_sadd _ _ (fun _ => hp7)) <| obs_cons (ob_call Tryd.func55 (by kernel_rfl) rfl (fun _ _ hS => strconv_Itoa_w hr8 hS )) <| obs_cons (ob_sadd _ _ (fun _ => hp8)) <| obs_nil
      refine wpIn_ret ?_
      have hm : some (((r7 ++ ([46] : List UInt8)) ++ r8), 0) = some r := hm
      obtain rfl := Option.some.inj hm
      exact retV (rs := [.tmp 2, .tmp 3]) (vs := [strV ((r7 ++ ([46] : List UInt8)) ++ r8), .int .i64 0]) hF rfl (rv_t (by kernel_rfl) <| rv_t (by kernel_rfl) <| rv_nil) rfl ⟨rfl, hS⟩
    · refine wpIn_block ?_
      refine reg [] [] [0, 4, 9] [pl 0 (.int .i64 time1), pl 4 (.int .i64 (w64 (Int.tdiv time1 1000))), pl 9 (.bool (decide ((3600 : Int) ≤ (w64 (Int.tdiv time1 1000)))))] hF hS Fol (by kernel_rfl) (by kernel_rfl) (by kernel_rfl) ?_ (fun a w hF hS => ?_)
      · exact obs_nil
      refine cond_ev (t := 9) (b := decide ((3600 : Int) ≤ (w64 (Int.tdiv time1 1000)))) hF (by kernel_rfl) (fun hb => ?_) (fun hb => ?_)
      · replace hm := if_t hm hb
        obtain ⟨r2, hr2, hm⟩ := call_b hm
        obtain ⟨hp1, hm⟩ := asrt_b hm
        obtain ⟨r3, hr3, hm⟩ := call_b hm
        obtain ⟨hp2, hm⟩ := asrt_b hm
        obtain ⟨hp3, hm⟩ := asrt_b hm
        obtain ⟨r4, hr4, hm⟩ := call_b hm
        obtain ⟨hp4, hm⟩ := asrt_b hm
        refine reg [⟨false, [], callFunc 55 #[.int .i64 (w64 (Int.tdiv (w64 (Int.tdiv time1 1000)) 3600))], strV r2⟩, ⟨true, [], vS (do eqGuard .add 9 (.tmp 14) (.const (strV ([58] : List UInt8))) (strV r2) (strV ([58] : List UInt8)); binOp .add 9 (strV r2) (strV ([58] : List UInt8))), strV (r2 ++ ([58] : List UInt8))⟩, ⟨false, [], callFunc 56 #[.int .i64 (Int.tmod (w64 (Int.tdiv (w64 (Int.tdiv time1 1000)) 60)) 60)], strV r3⟩, ⟨true, [], vS (do eqGuard .add 9 (.tmp 15) (.tmp 19) (strV (r2 ++ ([58] : List UInt8))) (strV r3); binOp .add 9 (strV (r2 ++ ([58] : List UInt8))) (strV r3)), strV ((r2 ++ ([58] : List UInt8)) ++ r3)⟩, ⟨true, [], vS (do eqGuard .add 9 (.tmp 20) (.const (strV ([58] : List UInt8))) (strV ((r2 ++ ([58] : List UInt8)) ++ r3)) (strV ([58] : List UInt8)); binOp .add 9 (strV ((r2 ++ ([58] : List UInt8)) ++ r3)) (strV ([58] : List UInt8))), strV (((r2 ++ ([58] : List UInt8)) ++ r3) ++ ([58] : List UInt8))⟩, ⟨false, [], callFunc 56 #[.int .i64 (Int.tmod (w64 (Int.tdiv time1 1000)) 60)], strV r4⟩, ⟨true, [], vS (do eqGuard .add 9 (.tmp 21) (.tmp 24) (strV (((r2 ++ ([58] : List UInt8)) ++ r3) ++ ([58] : List UInt8))) (strV r4); binOp .add 9 (strV (((r2 ++ ([58] : List UInt8)) ++ r3) ++ ([58] : List UInt8))) (strV r4)), strV ((((r2 ++ ([58] : List UInt8)) ++ r3) ++ ([58] : List UInt8)) ++ r4)⟩] [none, none, some (strV r2), some (strV (r2 ++ ([58] : List UInt8))), none, none, none, some (strV r3), some (strV ((r2 ++ ([58] : List UInt8)) ++ r3)), some (strV (((r2 ++ ([58] : List UInt8)) ++ r3) ++ ([58] : List UInt8))), none, none, some (strV r4), some (strV ((((r2 ++ ([58] : List UInt8)) ++ r3) ++ ([58] : List UInt8)) ++ r4)), none, none] [2, 3] [pl 2 (strV ((((r2 ++ ([58] : List UInt8)) ++ r3) ++ ([58] : List UInt8)) ++ r4)), pl 3 (.int .i64 0)] hF hS Fol (by kernel_rfl) (by kernel_rfl) (by kernel_rfl) ?_ (fun a w hF hS => ?_)
        · exact obs_cons (ob_call Tryd.func55 (by kernel_rfl) rfl (fun _ _ hS => strconv_Itoa_w hr2 hS )) <| obs_cons (ob_sadd _ _ (fun _ => hp1)) <| obs_cons (ob_call Tryd.func56 (by kernel_rfl) rfl (fun _ _ hS => clock_two_w hr3 hS )) <| obs_cons (ob_sadd _ _ (fun _ => hp2)) <| obs_cons (ob_sadd _ _ (fun _ => hp3)) <| obs_cons (ob_call Tryd.func56 (by kernel_rfl) rfl (fun _ _ hS => clock_two_w hr4 hS )) <| obs_cons (ob_sadd _ _ (fun _ => hp4)) <| obs_nil
        refine wpIn_ret ?_
        refine block_r (then_r ?_)
        have hm : some (((((r2 ++ ([58] : List UInt8)) ++ r3) ++ ([58] : List UInt8)) ++ r4), 0) = some r := hm
        obtain rfl := Option.some.inj hm
        exact retV (rs := [.tmp 2, .tmp 3]) (vs := [strV ((((r2 ++ ([58] : List UInt8)) ++ r3) ++ ([58] : List UInt8)) ++ r4), .int .i64 0]) hF rfl (rv_t (by kernel_rfl) <| rv_t (by kernel_rfl) <| rv_nil) rfl ⟨rfl, hS⟩
      · replace hm := if_f hm hb
        refine reg [] [] [0, 4, 26] [pl 0 (.int .i64 time1), pl 4 (.int .i64 (w64 (Int.tdiv time1 1000))), pl 26 (.bool (decide ((60 : Int) ≤ (w64 (Int.tdiv time1 1000)))))] hF hS Fol (by kernel_rfl) (by kernel_rfl) (by kernel_rfl) ?_ (fun a w hF hS => ?_)
        · exact obs_nil
        refine cond_ev (t := 26) (b := decide ((60 : Int) ≤ (w64 (Int.tdiv time1 1000)))) hF (by kernel_rfl) (fun hb => ?_) (fun hb => ?_)
        · replace hm := if_t hm hb
          obtain ⟨r5, hr5, hm⟩ := call_b hm
          obtain ⟨hp5, hm⟩ := asrt_b hm
          obtain ⟨r6, hr6, hm⟩ := call_b hm
          obtain ⟨hp6, hm⟩ := asrt_b hm
          refine reg [⟨false, [], callFunc 55 #[.int .i64 (w64 (Int.tdiv (w64 (Int.tdiv time1 1000)) 60))], strV r5⟩, ⟨true, [], vS (do eqGuard .add 9 (.tmp 31) (.const (strV ([58] : List UInt8))) (strV r5) (strV ([58] : List UInt8)); binOp .add 9 (strV r5) (strV ([58] : List UInt8))), strV (r5 ++ ([58] : List UInt8))⟩, ⟨false, [], callFunc 56 #[.int .i64 (Int.tmod (w64 (Int.tdiv time1 1000)) 60)], strV r6⟩, ⟨true, [], vS (do eqGuard .add 9 (.tmp 32) (.tmp 35) (strV (r5 ++ ([58] : List UInt8))) (strV r6); binOp .add 9 (strV (r5 ++ ([58] : List UInt8))) (strV r6)), strV ((r5 ++ ([58] : List UInt8)) ++ r6)⟩] [none, none, some (strV r5), some (strV (r5 ++ ([58] : List UInt8))), none, none, some (strV r6), some (strV ((r5 ++ ([58] : List UInt8)) ++ r6)), none, none] [2, 3] [pl 2 (strV ((r5 ++ ([58] : List UInt8)) ++ r6)), pl 3 (.int .i64 0)] hF hS Fol (by kernel_rfl) (by kernel_rfl) (by kernel_rfl) ?_ (fun a w hF hS => ?_)
          · exact obs_cons (ob_call Tryd.func55 (by kernel_rfl) rfl (fun _ _ hS => strconv_Itoa_w hr5 hS )) <| obs_cons (ob_sadd _ _ (fun _ => hp5)) <| obs_cons (ob_call Tryd.func56 (by kernel_rfl) rfl (fun _ _ hS => clock_two_w hr6 hS )) <| obs_cons (ob_sadd _ _ (fun _ => hp6)) <| obs_nil
          refine wpIn_ret ?_
          refine block_r (then_r ?_)
          have hm : some (((r5 ++ ([58] : List UInt8)) ++ r6), 0) = some r := hm
          obtain rfl := Option.some.inj hm
          exact retV (rs := [.tmp 2, .tmp 3]) (vs := [strV ((r5 ++ ([58] : List UInt8)) ++ r6), .int .i64 0]) hF rfl (rv_t (by kernel_rfl) <| rv_t (by kernel_rfl) <| rv_nil) rfl ⟨rfl, hS⟩
        · replace hm := if_f hm hb
          refine wpIn_skip ?_
          refine block_n ?_
          refine then_n ?_
          exact ⟨hF.weak [0, 4] (by kernel_rfl), hS, hm⟩
  · obtain ⟨r1, hr1, hm⟩ := call_b hm
    refine reg [⟨false, [], callFunc 54 #[.int .i64 time1], .bool r1⟩] [none, some (.bool r1)] [0, 6] [pl 0 (.int .i64 time1), pl 6 (.bool r1)] hF hS Fol (by kernel_rfl) (by kernel_rfl) (by kernel_rfl) ?_ (fun a w hF hS => ?_)
    · exact obs_cons (ob_call Tryd.func54 (by kernel_rfl) rfl (fun _ _ hS => clock_far_w hr1 hS )) <| obs_nil
    refine cond_ev (t := 6) (b := r1) hF (by kernel_rfl) (fun hb => ?_) (fun hb => ?_)
    · replace hm := if_t hm hb
      refine reg [] [] [2, 3] [pl 2 (strV ([] : List UInt8)), pl 3 (.int .i64 1)] hF hS Fol (by kernel_rfl) (by kernel_rfl) (by kernel_rfl) ?_ (fun a w hF hS => ?_)
      · exact obs_nil
      refine wpIn_ret ?_
      refine then_r ?_
      have hm : some (([] : List UInt8), 1) = some r := hm
      obtain rfl := Option.some.inj hm
      exact retV (rs := [.tmp 2, .tmp 3]) (vs := [strV ([] : List UInt8), .int .i64 1]) hF rfl (rv_t (by kernel_rfl) <| rv_t (by kernel_rfl) <| rv_nil) rfl ⟨rfl, hS⟩
    · replace hm := if_f hm hb
      refine wpIn_skip ?_
      refine then_n ?_
      exact ⟨hF.weak [0] (by kernel_rfl), hS, hm⟩

noncomputable def strings_Split_m (s1 : List UInt8) (sep1 : List UInt8) : Option (List (List UInt8)) :=
  asrt ((s1.length : Int) ≤ 4194304 ∧ sep1 ≠ []) <| some (splitM s1 sep1)

theorem strings_Split_w {s1 : List UInt8} {sep1 : List UInt8} {r : (List (List UInt8))} {w0 w : World} {B : Nat} {fs : List HP} [IntG 4 w0 B] (hm : strings_Split_m s1 sep1 = some r) (hS : Sep w0 B w (fs)) :
    Calls Tryd.prog 57 #[strV s1, strV sep1] w fun e w' => ∃ v, e = .returned v ∧ ∃ (A1 : Option Addr) (c1 : Nat), v = .slice A1 r.length c1 ∧ Sep w0 B w' (own 9 (.slice A1 r.length c1) ((List.map strV r)) :: fs) := by
  unfold strings_Split_m at hm
  obtain ⟨hb, hm⟩ := asrt_b (start_b hm)
  obtain rfl := Option.some.inj hm
  exact split_own (g1 := 4) SplitL rfl rfl (by kernel_rfl) hS hb.1 hb.2

noncomputable def strconv_Atoi_m (s1 : List UInt8) : Option (Int × Bool) :=
  asrt ((s1.length : Int) ≤ 4194304) <| some ((atoiN s1, atoiE s1))

theorem strconv_Atoi_w {s1 : List UInt8} {r : (Int × Bool)} {w0 w : World} {B : Nat} {fs : List HP} [ErrG 2 w0 B] [ErrG 3 w0 B] (hm : strconv_Atoi_m s1 = some r) (hS : Sep w0 B w (fs)) :
    Calls Tryd.prog 58 #[strV s1] w fun e w' => ∃ v, e = .returned v ∧ ∃ (N1 : Nat), v = .tuple #[.int .i64 r.1, errV r.2 (AtoiR.t 168) N1] ∧ Sep w0 B w' (fs) := by
  unfold strconv_Atoi_m at hm
  obtain ⟨hb, hm⟩ := asrt_b (start_b hm)
  obtain rfl := Option.some.inj hm
  exact atoi_own (g15 := 2) (g16 := 3) AtoiL rfl rfl rfl hS hb

noncomputable def clock_Read_J4  (z1 : Int) (n3 : Int) : Option (St (Int × Int) (Fl Int (Int × Int))) :=
  some (.next (n3, (w64 (z1 + 1))))

noncomputable def clock_Read_J5  (unit1 : Int) (n1 : Int) (z1 : Int) (r3 : (Int × Bool)) : Option (St (Int × Int) (Fl Int (Int × Int))) :=
  if (unit1 == 100) then ((clock_Read_J4 z1) (w64 ((w64 (n1 * 10)) + r3.1))) else ((clock_Read_J4 z1) (w64 ((w64 (n1 * 60)) + r3.1)))

noncomputable def clock_Read_J3  (parts1 : List (List UInt8)) (unit1 : Int) (n1 : Int) (z1 : Int) : Option (St (Int × Int) (Fl Int (Int × Int))) :=
  asrt (0 ≤ z1 ∧ z1 < (parts1.length : Int)) <| (strconv_Atoi_m (getd ([] : List UInt8) parts1 z1)).bind fun r3 => if ((r3.2 || (decide ((2 : Int) < ((getd ([] : List UInt8) parts1 z1).length : Int)))) || (decide ((3 : Int) < (parts1.length : Int)))) then (some (.done (.ret (0, 1)))) else ((clock_Read_J5 unit1 n1 z1 r3))

noncomputable def clock_Read_J6  (unit1 : Int) (n2 : Int) : Option (Int × Int) :=
  some ((w64 (n2 * unit1)), 0)

noncomputable def clock_Read_J2  (s1 : List UInt8) (unit1 : Int) (n2 : Int) : Option (Int × Int) :=
  (clock_Show_m (w64 (n2 * unit1))).bind fun r4 => if ((r4.2 != 0) || (!(r4.1 == s1))) then (some (0, 1)) else ((clock_Read_J6 unit1 n2))

noncomputable def clock_Read_K1  (s1 : List UInt8) (unit1 : Int) : (Fl Int (Int × Int)) → Option (Int × Int) :=
  fun (x : (Fl Int (Int × Int))) => match x with | .go n2 => (clock_Read_J2 s1 unit1) n2 | .ret x => some x

noncomputable def clock_Read_L1  (parts1 : List (List UInt8)) (unit1 : Int) : (Int × Int) → Option (St (Int × Int) (Fl Int (Int × Int))) :=
  fun (x : (Int × Int)) => match x with | (n1, z1) => if (decide (z1 < (parts1.length : Int))) then ((clock_Read_J3 parts1 unit1 n1 z1)) else (some (.done (.go n1)))

noncomputable def clock_Read_J1  (s1 : List UInt8) (parts1 : List (List UInt8)) (unit1 : Int) : Option (Int × Int) :=
  (loop (clock_Read_L1 parts1 unit1) (0, 0)).bind (clock_Read_K1 s1 unit1)

noncomputable def clock_Read_m  (s1 : List UInt8) : Option (Int × Int) :=
  (strings_Split_m s1 ([58] : List UInt8)).bind fun r1 => if ((r1.length : Int) == 1) then ((strings_Split_m s1 ([46] : List UInt8)).bind fun r2 => (clock_Read_J1 s1) r2 100) else ((clock_Read_J1 s1) r1 1000)

set_option maxRecDepth 100000 in
set_option maxHeartbeats 4000000 in
theorem clock_Read_w  {s1 : List UInt8} {r : (Int × Int)} {w0 w : World} {B : Nat} {fs : List HP} [ErrG 2 w0 B] [ErrG 3 w0 B] [IntG 4 w0 B] [PowG Tryd.prog w0 B] (hm : clock_Read_m s1 = some r) (hS : Sep w0 B w (fs)) :
    Calls Tryd.prog 17 #[strV s1] w fun e w' => e = .returned (.tuple #[.int .i64 r.1, .int .i64 r.2]) ∧ Sep w0 B w' (fs) := by
  obtain ⟨i9, hi9, hz9, hs9, hb9⟩ := info_parts Info9
  unfold clock_Read_m at hm
  replace hm := start_b hm
  refine enter (l := [strV s1]) (n := 71) Tryd.func17 rfl rfl (by simp) (fun a hF => ?_)
  refine reg [] [] [0] [pl 0 (strV s1)] hF hS Fol (by kernel_rfl) (by kernel_rfl) (by kernel_rfl) ?_ (fun a w hF hS => ?_)
  · exact obs_nil
  refine seqR ?_
  obtain ⟨r1, hr1, hm⟩ := call_b hm
  refine at_run 1 [] [] [0, 13] [pl 0 (strV s1), pl 13 (strV s1)] hF hS (by kernel_rfl) (by kernel_rfl) ?_ (fun a w hF hS => ?_)
  · exact obs_nil
  refine at_call (f := 57) (args := #[strV s1, strV ([58] : List UInt8)]) (d := 14) hF (by kernel_rfl) (by kernel_rfl) Tryd.func57 (by kernel_rfl) rfl (strings_Split_w hr1 hS ) (fun v a w hR hF => ?_)
  clear hS
  obtain ⟨A1, c1, rfl, hS⟩ := hR
  have hS : Sep w0 B w (own 9 (.slice A1 r1.length c1) ((List.map strV r1)) :: fs) := hS
  refine at_run 1 [] [] [0, 4] [pl 0 (strV s1), pl 4 (.slice A1 r1.length c1)] hF hS (by kernel_rfl) (by kernel_rfl) ?_ (fun a w hF hS => ?_)
  · exact obs_nil
  refine at_end [0, 4] [pl 0 (strV s1), pl 4 (.slice A1 r1.length c1)] hF rfl (by kernel_rfl) (fun hF => ?_)
  refine then_n ?_
  refine reg [] [] [0, 4, 5] [pl 0 (strV s1), pl 4 (.slice A1 r1.length c1), pl 5 (.int .i64 1000)] hF hS Fol (by kernel_rfl) (by kernel_rfl) (by kernel_rfl) ?_ (fun a w hF hS => ?_)
  · exact obs_nil
  refine seq_cut (fun a w => ∃ (parts1 : List (List UInt8)) (unit1 : Int) (A3 : Option Addr) (c3 : Nat), Fr 71 [pl 0 (strV s1), pl 4 (.slice A3 parts1.length c3), pl 5 (.int .i64 unit1)] a ∧ Sep w0 B w (own 9 (.slice A3 parts1.length c3) ((List.map strV parts1)) :: fs) ∧ ((clock_Read_J1 s1) parts1 unit1).bind some = some r) ?_ ?_
  · rintro a w ⟨parts1, unit1, A3, c3, hF, hS, hm⟩
    unfold clock_Read_J1 at hm
    refine reg [] [] [0, 4, 5, 6] [pl 0 (strV s1), pl 4 (.slice A3 parts1.length c3), pl 5 (.int .i64 unit1), pl 6 (.int .i64 0)] hF hS Fol (by kernel_rfl) (by kernel_rfl) (by kernel_rfl) ?_ (fun a w hF hS => ?_)
    · exact obs_nil
    refine seq_cut (fun a w => ∃ (n2 : Int), Fr 71 [pl 0 (strV s1), pl 5 (.int .i64 unit1), pl 6 (.int .i64 n2)] a ∧ Sep w0 B w (fs) ∧ ((clock_Read_J2 s1 unit1) n2).bind some = some r) ?_ ?_
    · rintro a w ⟨n2, hF, hS, hm⟩
      unfold clock_Read_J2 at hm
      refine seq_cut (fun a w => Fr 71 [pl 5 (.int .i64 unit1), pl 6 (.int .i64 n2)] a ∧ Sep w0 B w (fs) ∧ ((clock_Read_J6 unit1 n2)).bind some = some r) ?_ ?_
      · rintro a w ⟨hF, hS, hm⟩
        unfold clock_Read_J6 at hm
        refine reg [] [] [2, 3] [pl 2 (.int .i64 (w64 (n2 * unit1))), pl 3 (.int .i64 0)] hF hS Fol (by kernel_rfl) (by kernel_rfl) (by kernel_rfl) ?_ (fun a w hF hS => ?_)
        · exact obs_nil
        refine wpIn_ret ?_
        have hm : some ((w64 (n2 * unit1)), 0) = some r := hm
        obtain rfl := Option.some.inj hm
        exact retV (rs := [.tmp 2, .tmp 3]) (vs := [.int .i64 (w64 (n2 * unit1)), .int .i64 0]) hF rfl (rv_t (by kernel_rfl) <| rv_t (by kernel_rfl) <| rv_nil) rfl ⟨rfl, hS⟩
      · obtain ⟨r4, hr4, hm⟩ := call_b hm
        refine reg [⟨false, [], callFunc 16 #[.int .i64 (w64 (n2 * unit1))], .tuple #[strV r4.1, .int .i64 r4.2]⟩] [none, none, none, some (.tuple #[strV r4.1, .int .i64 r4.2]), none, none, none, none, none] [0, 5, 6, 11, 12] [pl 0 (strV s1), pl 5 (.int .i64 unit1), pl 6 (.int .i64 n2), pl 11 (strV r4.1), pl 12 (.int .i64 r4.2)] hF hS Fol (by kernel_rfl) (by kernel_rfl) (by kernel_rfl) ?_ (fun a w hF hS => ?_)
        · exact obs_cons (ob_call Tryd.func16 (by kernel_rfl) rfl (fun _ _ hS => clock_Show_w hr4 hS )) <| obs_nil
        refine reg [⟨true, [((r4.2 != 0), false)], vS (do eqGuard .neq 9 (.tmp 64) (.tmp 65) (strV r4.1) (strV s1); binOp .neq 9 (strV r4.1) (strV s1)), .bool (!(r4.1 == s1))⟩] [none, none, none, none, none, some (.bool (!(r4.1 == s1))), none] [5, 6, 67] [pl 5 (.int .i64 unit1), pl 6 (.int .i64 n2), pl 67 (.bool ((r4.2 != 0) || (!(r4.1 == s1))))] hF hS Fol (by kernel_rfl) (by kernel_rfl) (by kernel_rfl) ?_ (fun a w hF hS => ?_)
        · exact obs_cons (ob_sneq _ _) <| obs_nil
        refine cond_ev (t := 67) (b := (r4.2 != 0) || (!(r4.1 == s1))) hF (by kernel_rfl) (fun hb => ?_) (fun hb => ?_)
        · replace hm := if_t hm hb
          refine reg [] [] [2, 3] [pl 2 (.int .i64 0), pl 3 (.int .i64 1)] hF hS Fol (by kernel_rfl) (by kernel_rfl) (by kernel_rfl) ?_ (fun a w hF hS => ?_)
          · exact obs_nil
          refine wpIn_ret ?_
          refine then_r ?_
          have hm : some (0, 1) = some r := hm
          obtain rfl := Option.some.inj hm
          exact retV (rs := [.tmp 2, .tmp 3]) (vs := [.int .i64 0, .int .i64 1]) hF rfl (rv_t (by kernel_rfl) <| rv_t (by kernel_rfl) <| rv_nil) rfl ⟨rfl, hS⟩
        · replace hm := if_f hm hb
          refine wpIn_skip ?_
          refine then_n ?_
          exact ⟨hF.weak [5, 6] (by kernel_rfl), hS, hm⟩
    · refine reg [] [] [0, 4, 5, 6, 20, 21, 22] [pl 0 (strV s1), pl 4 (.slice A3 parts1.length c3), pl 5 (.int .i64 unit1), pl 6 (.int .i64 0), pl 20 (.slice A3 parts1.length c3), pl 21 (.int .i64 (parts1.length : Int)), pl 22 (.int .i64 0)] hF hS Fol (by kernel_rfl) (by kernel_rfl) (by kernel_rfl) ?_ (fun a w hF hS => ?_)
      · exact obs_nil
      refine wpIn_block ?_
      refine wp_loop_model (S := (Int × Int)) (R := (Fl Int (Int × Int))) (clock_Read_L1 parts1 unit1) (fun x => ((clock_Read_K1 s1 unit1) x).bind some) r (fun (x : (Int × Int)) a w => Fr 71 [pl 0 (strV s1), pl 4 (.slice A3 parts1.length c3), pl 5 (.int .i64 unit1), pl 6 (.int .i64 x.1), pl 20 (.slice A3 parts1.length c3), pl 21 (.int .i64 (parts1.length : Int)), pl 22 (.int .i64 x.2)] a ∧ Sep w0 B w (own 9 (.slice A3 parts1.length c3) ((List.map strV parts1)) :: fs)) (assoc_b hm) ⟨hF.weak [0, 4, 5, 6, 20, 21, 22] (by kernel_rfl), hS⟩ ?_
      clear hF hS hm
      rintro nn1 ⟨n1, z1⟩ a w ⟨hF, hS⟩ hm
      generalize hφ1 : stK (clock_Read_L1 parts1 unit1) nn1 (fun x => ((clock_Read_K1 s1 unit1) x).bind some) = φ1 at hm
      unfold clock_Read_L1 at hm
      dsimp only at hF hS hm
      refine reg [] [] [0, 4, 5, 6, 20, 21, 22, 23] [pl 0 (strV s1), pl 4 (.slice A3 parts1.length c3), pl 5 (.int .i64 unit1), pl 6 (.int .i64 n1), pl 20 (.slice A3 parts1.length c3), pl 21 (.int .i64 (parts1.length : Int)), pl 22 (.int .i64 z1), pl 23 (.bool (decide (z1 < (parts1.length : Int))))] hF hS Fol (by kernel_rfl) (by kernel_rfl) (by kernel_rfl) ?_ (fun a w hF hS => ?_)
      · exact obs_nil
      refine seq_cut (fun a w => Fr 71 [pl 0 (strV s1), pl 4 (.slice A3 parts1.length c3), pl 5 (.int .i64 unit1), pl 6 (.int .i64 n1), pl 20 (.slice A3 parts1.length c3), pl 21 (.int .i64 (parts1.length : Int)), pl 22 (.int .i64 z1)] a ∧ Sep w0 B w (own 9 (.slice A3 parts1.length c3) ((List.map strV parts1)) :: fs) ∧ ((clock_Read_J3 parts1 unit1 n1 z1)).bind φ1 = some r) ?_ ?_
      · rintro a w ⟨hF, hS, hm⟩
        unfold clock_Read_J3 at hm
        refine seq_cut (fun a w => ∃ (n3 : Int), Fr 71 [pl 0 (strV s1), pl 4 (.slice A3 parts1.length c3), pl 5 (.int .i64 unit1), pl 6 (.int .i64 n3), pl 20 (.slice A3 parts1.length c3), pl 21 (.int .i64 (parts1.length : Int)), pl 22 (.int .i64 z1)] a ∧ Sep w0 B w (own 9 (.slice A3 parts1.length c3) ((List.map strV parts1)) :: fs) ∧ ((clock_Read_J4 z1) n3).bind φ1 = some r) ?_ ?_
        · rintro a w ⟨n3, hF, hS, hm⟩
          unfold clock_Read_J4 at hm
          refine reg1 [] [] [0, 4, 5, 6, 20, 21, 22] [pl 0 (strV s1), pl 4 (.slice A3 parts1.length c3), pl 5 (.int .i64 unit1), pl 6 (.int .i64 n3), pl 20 (.slice A3 parts1.length c3), pl 21 (.int .i64 (parts1.length : Int)), pl 22 (.int .i64 (w64 (z1 + 1)))] hF hS Fol (by kernel_rfl) (by kernel_rfl) (by kernel_rfl) ?_ (fun a w hF hS => ?_)
          · exact obs_nil
          refine then_n ?_
          rw [← hφ1] at hm
          exact ⟨(n3, (w64 (z1 + 1))), ⟨hF.weak [0, 4, 5, 6, 20, 21, 22] (by kernel_rfl), hS⟩, hm⟩
        · refine wpIn_block ?_
          obtain ⟨hp1, hm⟩ := asrt_b hm
          refine reg [⟨true, [], vS (Instr.indexAt 40 (.slice A3 parts1.length c3) (.int .i64 z1)), .pointer (some (sAddr A3 z1))⟩, ⟨false, [], vS (Instr.loadAt 9 (.pointer (some (sAddr A3 z1)))), strV (getd ([] : List UInt8) parts1 z1)⟩] [some (.pointer (some (sAddr A3 z1))), some (strV (getd ([] : List UInt8) parts1 z1)), none] [0, 4, 5, 6, 8, 20, 21, 22] [pl 0 (strV s1), pl 4 (.slice A3 parts1.length c3), pl 5 (.int .i64 unit1), pl 6 (.int .i64 n1), pl 8 (strV (getd ([] : List UInt8) parts1 z1)), pl 20 (.slice A3 parts1.length c3), pl 21 (.int .i64 (parts1.length : Int)), pl 22 (.int .i64 z1)] hF hS Fol (by kernel_rfl) (by kernel_rfl) (by kernel_rfl) ?_ (fun a w hF hS => ?_)
          · exact obs_cons (ob_ix1 (f := strV) (m := parts1) Und40 hi9 hs9 (hS.at_ 0 rfl).rd rfl (fun _ => hp1)) <| obs_cons (ob_get1 (n := parts1.length) (m := parts1) strV ([] : List UInt8) Agg9 (fun _ hS => ⟨_, (hS.at_ 0 rfl).rd⟩) (fun _ hS => rfl) (fun _ => hp1)) <| obs_nil
          refine seqR ?_
          obtain ⟨r3, hr3, hm⟩ := call_b hm
          refine at_run 1 [] [] [0, 4, 5, 6, 8, 20, 21, 22, 27] [pl 0 (strV s1), pl 4 (.slice A3 parts1.length c3), pl 5 (.int .i64 unit1), pl 6 (.int .i64 n1), pl 8 (strV (getd ([] : List UInt8) parts1 z1)), pl 20 (.slice A3 parts1.length c3), pl 21 (.int .i64 (parts1.length : Int)), pl 22 (.int .i64 z1), pl 27 (strV (getd ([] : List UInt8) parts1 z1))] hF hS (by kernel_rfl) (by kernel_rfl) ?_ (fun a w hF hS => ?_)
          · exact obs_nil
          refine at_call (f := 58) (args := #[strV (getd ([] : List UInt8) parts1 z1)]) (d := 28) hF (by kernel_rfl) (by kernel_rfl) Tryd.func58 (by kernel_rfl) rfl (strconv_Atoi_w hr3 hS ) (fun v a w hR hF => ?_)
          clear hS
          obtain ⟨N1, rfl, hS⟩ := hR
          have hS : Sep w0 B w (own 9 (.slice A3 parts1.length c3) ((List.map strV parts1)) :: fs) := hS
          refine at_run 5 [] [] [0, 4, 5, 6, 8, 9, 10, 20, 21, 22] [pl 0 (strV s1), pl 4 (.slice A3 parts1.length c3), pl 5 (.int .i64 unit1), pl 6 (.int .i64 n1), pl 8 (strV (getd ([] : List UInt8) parts1 z1)), pl 9 (.int .i64 r3.1), pl 10 (errV r3.2 (AtoiR.t 168) N1), pl 20 (.slice A3 parts1.length c3), pl 21 (.int .i64 (parts1.length : Int)), pl 22 (.int .i64 z1)] hF hS (by kernel_rfl) (by kernel_rfl) ?_ (fun a w hF hS => ?_)
          · exact obs_nil
          refine at_end [0, 4, 5, 6, 8, 9, 10, 20, 21, 22] [pl 0 (strV s1), pl 4 (.slice A3 parts1.length c3), pl 5 (.int .i64 unit1), pl 6 (.int .i64 n1), pl 8 (strV (getd ([] : List UInt8) parts1 z1)), pl 9 (.int .i64 r3.1), pl 10 (errV r3.2 (AtoiR.t 168) N1), pl 20 (.slice A3 parts1.length c3), pl 21 (.int .i64 (parts1.length : Int)), pl 22 (.int .i64 z1)] hF rfl (by kernel_rfl) (fun hF => ?_)
          refine then_n ?_
          refine seq_cut (fun a w => Fr 71 [pl 0 (strV s1), pl 4 (.slice A3 parts1.length c3), pl 5 (.int .i64 unit1), pl 6 (.int .i64 n1), pl 9 (.int .i64 r3.1), pl 20 (.slice A3 parts1.length c3), pl 21 (.int .i64 (parts1.length : Int)), pl 22 (.int .i64 z1)] a ∧ Sep w0 B w (own 9 (.slice A3 parts1.length c3) ((List.map strV parts1)) :: fs) ∧ ((clock_Read_J5 unit1 n1 z1 r3)).bind φ1 = some r) ?_ ?_
          · rintro a w ⟨hF, hS, hm⟩
            unfold clock_Read_J5 at hm
            refine reg [] [] [0, 4, 5, 6, 9, 20, 21, 22, 44] [pl 0 (strV s1), pl 4 (.slice A3 parts1.length c3), pl 5 (.int .i64 unit1), pl 6 (.int .i64 n1), pl 9 (.int .i64 r3.1), pl 20 (.slice A3 parts1.length c3), pl 21 (.int .i64 (parts1.length : Int)), pl 22 (.int .i64 z1), pl 44 (.bool (unit1 == 100))] hF hS Fol (by kernel_rfl) (by kernel_rfl) (by kernel_rfl) ?_ (fun a w hF hS => ?_)
            · exact obs_nil
            refine cond_ev (t := 44) (b := (unit1 == 100)) hF (by kernel_rfl) (fun hb => ?_) (fun hb => ?_)
            · replace hm := if_t hm hb
              refine reg1 [] [] [0, 4, 5, 6, 20, 21, 22] [pl 0 (strV s1), pl 4 (.slice A3 parts1.length c3), pl 5 (.int .i64 unit1), pl 6 (.int .i64 (w64 ((w64 (n1 * 10)) + r3.1))), pl 20 (.slice A3 parts1.length c3), pl 21 (.int .i64 (parts1.length : Int)), pl 22 (.int .i64 z1)] hF hS Fol (by kernel_rfl) (by kernel_rfl) (by kernel_rfl) ?_ (fun a w hF hS => ?_)
              · exact obs_nil
              refine block_n ?_
              refine then_n ?_
              exact ⟨(w64 ((w64 (n1 * 10)) + r3.1)), hF.weak [0, 4, 5, 6, 20, 21, 22] (by kernel_rfl), hS, hm⟩
            · replace hm := if_f hm hb
              refine reg1 [] [] [0, 4, 5, 6, 20, 21, 22] [pl 0 (strV s1), pl 4 (.slice A3 parts1.length c3), pl 5 (.int .i64 unit1), pl 6 (.int .i64 (w64 ((w64 (n1 * 60)) + r3.1))), pl 20 (.slice A3 parts1.length c3), pl 21 (.int .i64 (parts1.length : Int)), pl 22 (.int .i64 z1)] hF hS Fol (by kernel_rfl) (by kernel_rfl) (by kernel_rfl) ?_ (fun a w hF hS => ?_)
              · exact obs_nil
              refine block_n ?_
              refine then_n ?_
              exact ⟨(w64 ((w64 (n1 * 60)) + r3.1)), hF.weak [0, 4, 5, 6, 20, 21, 22] (by kernel_rfl), hS, hm⟩
          · refine reg [⟨true, [], vS (do eqGuard .neq 88 (.tmp 31) (.const .nilIface) (errV r3.2 (AtoiR.t 168) N1) .nilIface; binOp .neq 88 (errV r3.2 (AtoiR.t 168) N1) .nilIface), .bool r3.2⟩, ⟨true, [(r3.2, false)], vS (Builtin.len_ #[9] 3 #[strV (getd ([] : List UInt8) parts1 z1)]), .int .i64 ((getd ([] : List UInt8) parts1 z1).length : Int)⟩] [none, some (.bool r3.2), none, none, some (.int .i64 ((getd ([] : List UInt8) parts1 z1).length : Int)), none, none, none, none, none, none, none] [0, 4, 5, 6, 9, 20, 21, 22, 42] [pl 0 (strV s1), pl 4 (.slice A3 parts1.length c3), pl 5 (.int .i64 unit1), pl 6 (.int .i64 n1), pl 9 (.int .i64 r3.1), pl 20 (.slice A3 parts1.length c3), pl 21 (.int .i64 (parts1.length : Int)), pl 22 (.int .i64 z1), pl 42 (.bool ((r3.2 || (decide ((2 : Int) < ((getd ([] : List UInt8) parts1 z1).length : Int)))) || (decide ((3 : Int) < (parts1.length : Int)))))] hF hS Fol (by kernel_rfl) (by kernel_rfl) (by kernel_rfl) ?_ (fun a w hF hS => ?_)
            · exact obs_cons (ob_errne Tryd.underlying88 _ _ _ _) <| obs_cons (ob_slen (s := getd ([] : List UInt8) parts1 z1) (by kernel_rfl) 3) <| obs_nil
            refine cond_ev (t := 42) (b := (r3.2 || (decide ((2 : Int) < ((getd ([] : List UInt8) parts1 z1).length : Int)))) || (decide ((3 : Int) < (parts1.length : Int)))) hF (by kernel_rfl) (fun hb => ?_) (fun hb => ?_)
            · replace hm := if_t hm hb
              refine reg [] [] [2, 3] [pl 2 (.int .i64 0), pl 3 (.int .i64 1)] hF hS Fol (by kernel_rfl) (by kernel_rfl) (by kernel_rfl) ?_ (fun a w hF hS => ?_)
              · exact obs_nil
              refine wpIn_ret ?_
              refine then_r (block_r (then_r (then_r (block_r (then_r ?_)))))
              rw [← hφ1] at hm
              replace hm := done_b hm
              unfold clock_Read_K1 at hm
              try dsimp only at hm
              have hS := hS.pickN 1 [] (by decide)
              have hm : some (0, 1) = some r := hm
              obtain rfl := Option.some.inj hm
              exact retV (rs := [.tmp 2, .tmp 3]) (vs := [.int .i64 0, .int .i64 1]) hF rfl (rv_t (by kernel_rfl) <| rv_t (by kernel_rfl) <| rv_nil) rfl ⟨rfl, hS⟩
            · replace hm := if_f hm hb
              refine wpIn_skip ?_
              refine then_n ?_
              exact ⟨hF.weak [0, 4, 5, 6, 9, 20, 21, 22] (by kernel_rfl), hS, hm⟩
      · refine cond_ev (t := 23) (b := decide (z1 < (parts1.length : Int))) hF (by kernel_rfl) (fun hb => ?_) (fun hb => ?_)
        · replace hm := if_t hm hb
          refine wpIn_skip ?_
          refine then_n ?_
          exact ⟨hF.weak [0, 4, 5, 6, 20, 21, 22] (by kernel_rfl), hS, hm⟩
        · replace hm := if_f hm hb
          refine wpIn_exit ?_
          refine then_e (then_e (block_e (then_n ?_)))
          have hS := hS.pickN 1 [] (by decide)
          rw [← hφ1] at hm
          replace hm := done_b hm
          unfold clock_Read_K1 at hm
          try dsimp only at hm
          have hm : ((clock_Read_J2 s1 unit1) n1).bind some = some r := hm
          exact ⟨n1, hF.weak [0, 5, 6] (by kernel_rfl), hS, hm⟩
  · refine reg [] [] [0, 4, 5, 17] [pl 0 (strV s1), pl 4 (.slice A1 r1.length c1), pl 5 (.int .i64 1000), pl 17 (.bool ((r1.length : Int) == 1))] hF hS Fol (by kernel_rfl) (by kernel_rfl) (by kernel_rfl) ?_ (fun a w hF hS => ?_)
    · exact obs_nil
    refine cond_ev (t := 17) (b := ((r1.length : Int) == 1)) hF (by kernel_rfl) (fun hb => ?_) (fun hb => ?_)
    · replace hm := if_t hm hb
      refine seqR ?_
      obtain ⟨r2, hr2, hm⟩ := call_b hm
      refine at_run 1 [] [] [0, 18] [pl 0 (strV s1), pl 18 (strV s1)] hF hS (by kernel_rfl) (by kernel_rfl) ?_ (fun a w hF hS => ?_)
      · exact obs_nil
      refine at_call (f := 57) (args := #[strV s1, strV ([46] : List UInt8)]) (d := 19) hF (by kernel_rfl) (by kernel_rfl) Tryd.func57 (by kernel_rfl) rfl (strings_Split_w hr2 hS ) (fun v a w hR hF => ?_)
      clear hS
      obtain ⟨A2, c2, rfl, hS⟩ := hR
      have hS : Sep w0 B w (own 9 (.slice A2 r2.length c2) ((List.map strV r2)) :: own 9 (.slice A1 r1.length c1) ((List.map strV r1)) :: fs) := hS
      refine at_run 1 [] [] [0, 4] [pl 0 (strV s1), pl 4 (.slice A2 r2.length c2)] hF hS (by kernel_rfl) (by kernel_rfl) ?_ (fun a w hF hS => ?_)
      · exact obs_nil
      refine at_end [0, 4] [pl 0 (strV s1), pl 4 (.slice A2 r2.length c2)] hF rfl (by kernel_rfl) (fun hF => ?_)
      refine then_n ?_
      refine reg1 [] [] [0, 4, 5] [pl 0 (strV s1), pl 4 (.slice A2 r2.length c2), pl 5 (.int .i64 100)] hF hS Fol (by kernel_rfl) (by kernel_rfl) (by kernel_rfl) ?_ (fun a w hF hS => ?_)
      · exact obs_nil
      refine then_n ?_
      have hS := hS.pickN 2 [0] (by decide)
      exact ⟨r2, 100, A2, c2, hF.weak [0, 4, 5] (by kernel_rfl), hS, hm⟩
    · replace hm := if_f hm hb
      refine wpIn_skip ?_
      refine then_n ?_
      exact ⟨r1, 1000, A1, c1, hF.weak [0, 4, 5] (by kernel_rfl), hS, hm⟩

noncomputable def gameroomref_Dec_J3  (rec_gameroomref_Dec : Int → Option (List UInt8)) (n1 : Int) : Option (List UInt8) :=
  (rec_gameroomref_Dec (w64 (Int.tdiv n1 10))).bind fun r4 => (rec_gameroomref_Dec (Int.tmod n1 10)).bind fun r5 => asrt ((r4.length : Int) + r5.length ≤ bigN) <| some (r4 ++ r5)

noncomputable def gameroomref_Dec_J2  (rec_gameroomref_Dec : Int → Option (List UInt8)) (n1 : Int) : Option (List UInt8) :=
  if (decide (n1 < 10)) then (some (b8 ([IntKind.wrap .u8 (w64 (48 + n1))] : List Int))) else ((gameroomref_Dec_J3 rec_gameroomref_Dec n1))

noncomputable def gameroomref_Dec_J1  (rec_gameroomref_Dec : Int → Option (List UInt8)) (n1 : Int) : Option (List UInt8) :=
  if (decide (n1 < 0)) then ((rec_gameroomref_Dec (w64 (0 - n1))).bind fun r3 => asrt ((([45] : List UInt8).length : Int) + r3.length ≤ bigN) <| some (([45] : List UInt8) ++ r3)) else ((gameroomref_Dec_J2 rec_gameroomref_Dec n1))

noncomputable def gameroomref_Dec_B  (rec_gameroomref_Dec : Int → Option (List UInt8)) (n1 : Int) : Option (List UInt8) :=
  if (decide (n1 ≤ (-10))) then ((rec_gameroomref_Dec (w64 (0 - (w64 (Int.tdiv n1 10))))).bind fun r1 => asrt ((([45] : List UInt8).length : Int) + r1.length ≤ bigN) <| (rec_gameroomref_Dec (w64 (0 - (Int.tmod n1 10)))).bind fun r2 => asrt (((([45] : List UInt8) ++ r1).length : Int) + r2.length ≤ bigN) <| some ((([45] : List UInt8) ++ r1) ++ r2)) else ((gameroomref_Dec_J1 rec_gameroomref_Dec n1))

noncomputable def gameroomref_Dec_mF  : Nat → Int → Option (List UInt8)
  | 0 => fun _ => none
  | n + 1 => fun n1 => gameroomref_Dec_B (gameroomref_Dec_mF n) n1

noncomputable def gameroomref_Dec_m  (n1 : Int) : Option (List UInt8) :=
  recM fun n => gameroomref_Dec_mF n n1

set_option maxRecDepth 100000 in
set_option maxHeartbeats 4000000 in
theorem gameroomref_Dec_wB  {rec_gameroomref_Dec : Int → Option (List UInt8)} (ih_gameroomref_Dec : ∀ {n1 : Int} {r : (List UInt8)} {w0 w : World} {B : Nat} {fs : List HP} (_ : rec_gameroomref_Dec n1 = some r) (_ : Sep w0 B w (fs)), Calls Tryd.prog 59 #[.int .i64 n1] w fun e w' => e = .returned (strV r) ∧ Sep w0 B w' (fs)) {n1 : Int} {r : (List UInt8)} {w0 w : World} {B : Nat} {fs : List HP} (hm : gameroomref_Dec_B rec_gameroomref_Dec n1 = some r) (hS : Sep w0 B w (fs)) :
    Calls Tryd.prog 59 #[.int .i64 n1] w fun e w' => e = .returned (strV r) ∧ Sep w0 B w' (fs) := by
  obtain ⟨i5, hi5, hz5, hs5, hb5⟩ := info_parts Info5
  unfold gameroomref_Dec_B at hm
  replace hm := start_b hm
  refine enter (l := [.int .i64 n1]) (n := 35) Tryd.func59 rfl rfl (by simp) (fun a hF => ?_)
  refine reg [] [] [0] [pl 0 (.int .i64 n1)] hF hS Fol (by kernel_rfl) (by kernel_rfl) (by kernel_rfl) ?_ (fun a w hF hS => ?_)
  · exact obs_nil
  refine seq_cut (fun a w => Fr 35 [pl 0 (.int .i64 n1)] a ∧ Sep w0 B w (fs) ∧ ((gameroomref_Dec_J1 rec_gameroomref_Dec n1)).bind some = some r) ?_ ?_
  · rintro a w ⟨hF, hS, hm⟩
    unfold gameroomref_Dec_J1 at hm
    refine seq_cut (fun a w => Fr 35 [pl 0 (.int .i64 n1)] a ∧ Sep w0 B w (fs) ∧ ((gameroomref_Dec_J2 rec_gameroomref_Dec n1)).bind some = some r) ?_ ?_
    · rintro a w ⟨hF, hS, hm⟩
      unfold gameroomref_Dec_J2 at hm
      refine seq_cut (fun a w => Fr 35 [pl 0 (.int .i64 n1)] a ∧ Sep w0 B w (fs) ∧ ((gameroomref_Dec_J3 rec_gameroomref_Dec n1)).bind some = some r) ?_ ?_
      · rintro a w ⟨hF, hS, hm⟩
        unfold gameroomref_Dec_J3 at hm
        obtain ⟨r4, hr4, hm⟩ := call_b hm
        obtain ⟨r5, hr5, hm⟩ := call_b hm
        obtain ⟨hp4, hm⟩ := asrt_b hm
        refine reg [⟨false, [], callFunc 59 #[.int .i64 (w64 (Int.tdiv n1 10))], strV r4⟩, ⟨false, [], callFunc 59 #[.int .i64 (Int.tmod n1 10)], strV r5⟩, ⟨true, [], vS (do eqGuard .add 9 (.tmp 30) (.tmp 33) (strV r4) (strV r5); binOp .add 9 (strV r4) (strV r5)), strV (r4 ++ r5)⟩] [none, none, some (strV r4), none, none, some (strV r5), some (strV (r4 ++ r5)), none] [2] [pl 2 (strV (r4 ++ r5))] hF hS Fol (by kernel_rfl) (by kernel_rfl) (by kernel_rfl) ?_ (fun a w hF hS => ?_)
        · exact obs_cons (ob_call Tryd.func59 (by kernel_rfl) rfl (fun _ _ hS => ih_gameroomref_Dec hr4 hS )) <| obs_cons (ob_call Tryd.func59 (by kernel_rfl) rfl (fun _ _ hS => ih_gameroomref_Dec hr5 hS )) <| obs_cons (ob_sadd _ _ (fun _ => hp4)) <| obs_nil
        refine wpIn_ret ?_
        have hm : some (r4 ++ r5) = some r := hm
        obtain rfl := Option.some.inj hm
        exact retV (rs := [.tmp 2]) (vs := [strV (r4 ++ r5)]) hF rfl (rv_t (by kernel_rfl) <| rv_nil) rfl ⟨rfl, hS⟩
      · refine reg [] [] [0, 22] [pl 0 (.int .i64 n1), pl 22 (.bool (decide (n1 < 10)))] hF hS Fol (by kernel_rfl) (by kernel_rfl) (by kernel_rfl) ?_ (fun a w hF hS => ?_)
        · exact obs_nil
        refine cond_ev (t := 22) (b := decide (n1 < 10)) hF (by kernel_rfl) (fun hb => ?_) (fun hb => ?_)
        · replace hm := if_t hm hb
          refine seqR ?_
          refine at_run 3 [] [] [25] [pl 25 (.int .u8 (IntKind.wrap .u8 (w64 (48 + n1))))] hF hS (by kernel_rfl) (by kernel_rfl) ?_ (fun a w hF hS => ?_)
          · exact obs_nil
          refine at_do (d := 26) (s := vS (Instr.buildSlice 112 1 #[(0, .int .u8 (IntKind.wrap .u8 (w64 (48 + n1))))])) (v := .slice (some ⟨w.heap.size, 0, none⟩) 1 1) (w' := w.alloc (.cells #[.int .u8 (IntKind.wrap .u8 (w64 (48 + n1)))] 5)) hF (by kernel_rfl) (by kernel_rfl) (by kernel_rfl) (fun a hF => ?_)
          have hS : Sep w0 B (w.alloc (.cells #[.int .u8 (IntKind.wrap .u8 (w64 (48 + n1)))] 5)) (own 5 (.slice (some (⟨w.heap.size, 0, none⟩ : Addr)) 1 1) ((List.map (Value.int .u8) ([IntKind.wrap .u8 (w64 (48 + n1))] : List Int))) :: (fs)) := hS.lit 5 #[.int .u8 (IntKind.wrap .u8 (w64 (48 + n1)))] 1 rfl (by omega)
          generalize (some (⟨w.heap.size, 0, none⟩ : Addr)) = g1 at hF hS
          generalize w.alloc (.cells #[.int .u8 (IntKind.wrap .u8 (w64 (48 + n1)))] 5) = w at hS ⊢
          have hrun := run_strE (P := Tryd.prog) (src := 112) (dst := 9) (e := 5) (m := ([IntKind.wrap .u8 (w64 (48 + n1))] : List Int)) (c := 1) (by kernel_rfl) (by kernel_rfl) (by kernel_rfl) (hS.at_ 0 rfl).rd ((hS.at_ 0 rfl).len1)
          refine at_do (d := 27) hF (by kernel_rfl) (by kernel_rfl) hrun (fun a hF => ?_)
          refine at_run 1 [] [] [2] [pl 2 (strV (b8 ([IntKind.wrap .u8 (w64 (48 + n1))] : List Int)))] hF hS (by kernel_rfl) (by kernel_rfl) ?_ (fun a w hF hS => ?_)
          · exact obs_nil
          refine at_end [2] [pl 2 (strV (b8 ([IntKind.wrap .u8 (w64 (48 + n1))] : List Int)))] hF rfl (by kernel_rfl) (fun hF => ?_)
          refine then_n ?_
          refine wpIn_ret ?_
          refine then_r ?_
          have hS := hS.pickN 1 [] (by decide)
          have hm : some (b8 ([IntKind.wrap .u8 (w64 (48 + n1))] : List Int)) = some r := hm
          obtain rfl := Option.some.inj hm
          exact retV (rs := [.tmp 2]) (vs := [strV (b8 ([IntKind.wrap .u8 (w64 (48 + n1))] : List Int))]) hF rfl (rv_t (by kernel_rfl) <| rv_nil) rfl ⟨rfl, hS⟩
        · replace hm := if_f hm hb
          refine wpIn_skip ?_
          refine then_n ?_
          exact ⟨hF.weak [0] (by kernel_rfl), hS, hm⟩
    · refine reg [] [] [0, 16] [pl 0 (.int .i64 n1), pl 16 (.bool (decide (n1 < 0)))] hF hS Fol (by kernel_rfl) (by kernel_rfl) (by kernel_rfl) ?_ (fun a w hF hS => ?_)
      · exact obs_nil
      refine cond_ev (t := 16) (b := decide (n1 < 0)) hF (by kernel_rfl) (fun hb => ?_) (fun hb => ?_)
      · replace hm := if_t hm hb
        obtain ⟨r3, hr3, hm⟩ := call_b hm
        obtain ⟨hp3, hm⟩ := asrt_b hm
        refine reg [⟨false, [], callFunc 59 #[.int .i64 (w64 (0 - n1))], strV r3⟩, ⟨true, [], vS (do eqGuard .add 9 (.const (strV ([45] : List UInt8))) (.tmp 19) (strV ([45] : List UInt8)) (strV r3); binOp .add 9 (strV ([45] : List UInt8)) (strV r3)), strV (([45] : List UInt8) ++ r3)⟩] [none, none, some (strV r3), some (strV (([45] : List UInt8) ++ r3)), none] [2] [pl 2 (strV (([45] : List UInt8) ++ r3))] hF hS Fol (by kernel_rfl) (by kernel_rfl) (by kernel_rfl) ?_ (fun a w hF hS => ?_)
        · exact obs_cons (ob_call Tryd.func59 (by kernel_rfl) rfl (fun _ _ hS => ih_gameroomref_Dec hr3 hS )) <| obs_cons (ob_sadd _ _ (fun _ => hp3)) <| obs_nil
        refine wpIn_ret ?_
        refine then_r ?_
        have hm : some (([45] : List UInt8) ++ r3) = some r := hm
        obtain rfl := Option.some.inj hm
        exact retV (rs := [.tmp 2]) (vs := [strV (([45] : List UInt8) ++ r3)]) hF rfl (rv_t (by kernel_rfl) <| rv_nil) rfl ⟨rfl, hS⟩
      · replace hm := if_f hm hb
        refine wpIn_skip ?_
        refine then_n ?_
        exact ⟨hF.weak [0] (by kernel_rfl), hS, hm⟩
  · refine reg [] [] [0, 4] [pl 0 (.int .i64 n1), pl 4 (.bool (decide (n1 ≤ (-10))))] hF hS Fol (by kernel_rfl) (by kernel_rfl) (by kernel_rfl) ?_ (fun a w hF hS => ?_)
    · exact obs_nil
    refine cond_ev (t := 4) (b := decide (n1 ≤ (-10))) hF (by kernel_rfl) (fun hb => ?_) (fun hb => ?_)
    · replace hm := if_t hm hb
      obtain ⟨r1, hr1, hm⟩ := call_b hm
      obtain ⟨hp1, hm⟩ := asrt_b hm
      obtain ⟨r2, hr2, hm⟩ := call_b hm
      obtain ⟨hp2, hm⟩ := asrt_b hm
      refine reg [⟨false, [], callFunc 59 #[.int .i64 (w64 (0 - (w64 (Int.tdiv n1 10))))], strV r1⟩, ⟨true, [], vS (do eqGuard .add 9 (.const (strV ([45] : List UInt8))) (.tmp 8) (strV ([45] : List UInt8)) (strV r1); binOp .add 9 (strV ([45] : List UInt8)) (strV r1)), strV (([45] : List UInt8) ++ r1)⟩, ⟨false, [], callFunc 59 #[.int .i64 (w64 (0 - (Int.tmod n1 10)))], strV r2⟩, ⟨true, [], vS (do eqGuard .add 9 (.tmp 9) (.tmp 13) (strV (([45] : List UInt8) ++ r1)) (strV r2); binOp .add 9 (strV (([45] : List UInt8) ++ r1)) (strV r2)), strV ((([45] : List UInt8) ++ r1) ++ r2)⟩] [none, none, none, some (strV r1), some (strV (([45] : List UInt8) ++ r1)), none, none, none, some (strV r2), some (strV ((([45] : List UInt8) ++ r1) ++ r2)), none] [2] [pl 2 (strV ((([45] : List UInt8) ++ r1) ++ r2))] hF hS Fol (by kernel_rfl) (by kernel_rfl) (by kernel_rfl) ?_ (fun a w hF hS => ?_)
      · exact obs_cons (ob_call Tryd.func59 (by kernel_rfl) rfl (fun _ _ hS => ih_gameroomref_Dec hr1 hS )) <| obs_cons (ob_sadd _ _ (fun _ => hp1)) <| obs_cons (ob_call Tryd.func59 (by kernel_rfl) rfl (fun _ _ hS => ih_gameroomref_Dec hr2 hS )) <| obs_cons (ob_sadd _ _ (fun _ => hp2)) <| obs_nil
      refine wpIn_ret ?_
      refine then_r ?_
      have hm : some ((([45] : List UInt8) ++ r1) ++ r2) = some r := hm
      obtain rfl := Option.some.inj hm
      exact retV (rs := [.tmp 2]) (vs := [strV ((([45] : List UInt8) ++ r1) ++ r2)]) hF rfl (rv_t (by kernel_rfl) <| rv_nil) rfl ⟨rfl, hS⟩
    · replace hm := if_f hm hb
      refine wpIn_skip ?_
      refine then_n ?_
      exact ⟨hF.weak [0] (by kernel_rfl), hS, hm⟩

theorem gameroomref_Dec_w  {n1 : Int} {r : (List UInt8)} {w0 w : World} {B : Nat} {fs : List HP} (hm : gameroomref_Dec_m n1 = some r) (hS : Sep w0 B w (fs)) :
    Calls Tryd.prog 59 #[.int .i64 n1] w fun e w' => e = .returned (strV r) ∧ Sep w0 B w' (fs) := by
  have key : ∀ (n : Nat) {n1 : Int} {r : (List UInt8)} {w0 w : World} {B : Nat} {fs : List HP} (_ : gameroomref_Dec_mF n n1 = some r) (_ : Sep w0 B w (fs)), Calls Tryd.prog 59 #[.int .i64 n1] w fun e w' => e = .returned (strV r) ∧ Sep w0 B w' (fs) := by
    intro n
    induction n with
    | zero => intros; rename_i hm0 _; cases hm0
    | succ n ih => intros; rename_i hm0 hS0; exact gameroomref_Dec_wB (rec_gameroomref_Dec := gameroomref_Dec_mF n) (fun hm hS => ih hm hS) hm0 hS0
  obtain ⟨n, hn⟩ := recM_some hm
  exact key n hn hS

set_option maxRecDepth 100000 in
theorem gameroomref_Dec_J3_le_gameroomref_Dec {rec_gameroomref_Dec1 rec_gameroomref_Dec2 : Int → Option (List UInt8)} (h_rec_gameroomref_Dec : ∀ a0, Le (rec_gameroomref_Dec1 a0) (rec_gameroomref_Dec2 a0)) (n1 : Int) : Le (gameroomref_Dec_J3 rec_gameroomref_Dec1 n1) (gameroomref_Dec_J3 rec_gameroomref_Dec2 n1) := by
  unfold gameroomref_Dec_J3
  repeat' (first | with_reducible exact Le.refl _ | with_reducible exact h_rec_gameroomref_Dec _ | with_reducible refine Le.asrt ?_ | with_reducible refine Le.ite ?_ ?_ | refine Le.bind ?_ (fun _ => ?_) | refine Le.loop2 (fun _ => ?_) | refine Le.elim2 (fun _ => ?_) (fun _ => ?_))

set_option maxRecDepth 100000 in
theorem gameroomref_Dec_J2_le_gameroomref_Dec {rec_gameroomref_Dec1 rec_gameroomref_Dec2 : Int → Option (List UInt8)} (h_rec_gameroomref_Dec : ∀ a0, Le (rec_gameroomref_Dec1 a0) (rec_gameroomref_Dec2 a0)) (n1 : Int) : Le (gameroomref_Dec_J2 rec_gameroomref_Dec1 n1) (gameroomref_Dec_J2 rec_gameroomref_Dec2 n1) := by
  unfold gameroomref_Dec_J2
  repeat' (first | with_reducible exact Le.refl _ | with_reducible exact h_rec_gameroomref_Dec _ | with_reducible exact gameroomref_Dec_J3_le_gameroomref_Dec h_rec_gameroomref_Dec _ | with_reducible refine Le.asrt ?_ | with_reducible refine Le.ite ?_ ?_ | refine Le.bind ?_ (fun _ => ?_) | refine Le.loop2 (fun _ => ?_) | refine Le.elim2 (fun _ => ?_) (fun _ => ?_))

set_option maxRecDepth 100000 in
theorem gameroomref_Dec_J1_le_gameroomref_Dec {rec_gameroomref_Dec1 rec_gameroomref_Dec2 : Int → Option (List UInt8)} (h_rec_gameroomref_Dec : ∀ a0, Le (rec_gameroomref_Dec1 a0) (rec_gameroomref_Dec2 a0)) (n1 : Int) : Le (gameroomref_Dec_J1 rec_gameroomref_Dec1 n1) (gameroomref_Dec_J1 rec_gameroomref_Dec2 n1) := by
  unfold gameroomref_Dec_J1
  repeat' (first | with_reducible exact Le.refl _ | with_reducible exact h_rec_gameroomref_Dec _ | with_reducible exact gameroomref_Dec_J2_le_gameroomref_Dec h_rec_gameroomref_Dec _ | with_reducible refine Le.asrt ?_ | with_reducible refine Le.ite ?_ ?_ | refine Le.bind ?_ (fun _ => ?_) | refine Le.loop2 (fun _ => ?_) | refine Le.elim2 (fun _ => ?_) (fun _ => ?_))

set_option maxRecDepth 100000 in
theorem gameroomref_Dec_B_le {rec_gameroomref_Dec1 rec_gameroomref_Dec2 : Int → Option (List UInt8)} (h_rec_gameroomref_Dec : ∀ a0, Le (rec_gameroomref_Dec1 a0) (rec_gameroomref_Dec2 a0)) (n1 : Int) : Le (gameroomref_Dec_B rec_gameroomref_Dec1 n1) (gameroomref_Dec_B rec_gameroomref_Dec2 n1) := by
  unfold gameroomref_Dec_B
  repeat' (first | with_reducible exact Le.refl _ | with_reducible exact h_rec_gameroomref_Dec _ | with_reducible exact gameroomref_Dec_J1_le_gameroomref_Dec h_rec_gameroomref_Dec _ | with_reducible refine Le.asrt ?_ | with_reducible refine Le.ite ?_ ?_ | refine Le.bind ?_ (fun _ => ?_) | refine Le.loop2 (fun _ => ?_) | refine Le.elim2 (fun _ => ?_) (fun _ => ?_))

set_option maxRecDepth 100000 in
theorem gameroomref_Dec_mF_le : ∀ (n : Nat) (n1 : Int), Le (gameroomref_Dec_mF n n1) (gameroomref_Dec_mF (n + 1) n1)
  | 0, _ => fun _ h => by cases h
  | n + 1, _ => gameroomref_Dec_B_le (fun a0 => gameroomref_Dec_mF_le n a0) _

set_option maxRecDepth 100000 in
theorem gameroomref_Dec_m_of (N : Nat) (n1 : Int) {r : (List UInt8)} (h : gameroomref_Dec_mF N n1 = some r) : gameroomref_Dec_m n1 = some r :=
  recM_mono (fun n => gameroomref_Dec_mF_le n _) h

noncomputable def gameroomref_twoDigits_J1  (n1 : Int) : Option (List UInt8) :=
  (gameroomref_Dec_m n1).bind fun r2 => some r2

noncomputable def gameroomref_twoDigits_m  (n1 : Int) : Option (List UInt8) :=
  if (decide (n1 < 10)) then ((gameroomref_Dec_m n1).bind fun r1 => asrt ((([48] : List UInt8).length : Int) + r1.length ≤ bigN) <| some (([48] : List UInt8) ++ r1)) else ((gameroomref_twoDigits_J1 n1))

set_option maxRecDepth 100000 in
set_option maxHeartbeats 4000000 in
theorem gameroomref_twoDigits_w  {n1 : Int} {r : (List UInt8)} {w0 w : World} {B : Nat} {fs : List HP} (hm : gameroomref_twoDigits_m n1 = some r) (hS : Sep w0 B w (fs)) :
    Calls Tryd.prog 60 #[.int .i64 n1] w fun e w' => e = .returned (strV r) ∧ Sep w0 B w' (fs) := by
  unfold gameroomref_twoDigits_m at hm
  replace hm := start_b hm
  refine enter (l := [.int .i64 n1]) (n := 10) Tryd.func60 rfl rfl (by simp) (fun a hF => ?_)
  refine reg [] [] [0] [pl 0 (.int .i64 n1)] hF hS Fol (by kernel_rfl) (by kernel_rfl) (by kernel_rfl) ?_ (fun a w hF hS => ?_)
  · exact obs_nil
  refine seq_cut (fun a w => Fr 10 [pl 0 (.int .i64 n1)] a ∧ Sep w0 B w (fs) ∧ ((gameroomref_twoDigits_J1 n1)).bind some = some r) ?_ ?_
  · rintro a w ⟨hF, hS, hm⟩
    unfold gameroomref_twoDigits_J1 at hm
    obtain ⟨r2, hr2, hm⟩ := call_b hm
    refine reg [⟨false, [], callFunc 59 #[.int .i64 n1], strV r2⟩] [none, some (strV r2), none] [2] [pl 2 (strV r2)] hF hS Fol (by kernel_rfl) (by kernel_rfl) (by kernel_rfl) ?_ (fun a w hF hS => ?_)
    · exact obs_cons (ob_call Tryd.func59 (by kernel_rfl) rfl (fun _ _ hS => gameroomref_Dec_w hr2 hS )) <| obs_nil
    refine wpIn_ret ?_
    have hm : some r2 = some r := hm
    obtain rfl := Option.some.inj hm
    exact retV (rs := [.tmp 2]) (vs := [strV r2]) hF rfl (rv_t (by kernel_rfl) <| rv_nil) rfl ⟨rfl, hS⟩
  · refine reg [] [] [0, 4] [pl 0 (.int .i64 n1), pl 4 (.bool (decide (n1 < 10)))] hF hS Fol (by kernel_rfl) (by kernel_rfl) (by kernel_rfl) ?_ (fun a w hF hS => ?_)
    · exact obs_nil
    refine cond_ev (t := 4) (b := decide (n1 < 10)) hF (by kernel_rfl) (fun hb => ?_) (fun hb => ?_)
    · replace hm := if_t hm hb
      obtain ⟨r1, hr1, hm⟩ := call_b hm
      obtain ⟨hp1, hm⟩ := asrt_b hm
      refine reg [⟨false, [], callFunc 59 #[.int .i64 n1], strV r1⟩, ⟨true, [], vS (do eqGuard .add 9 (.const (strV ([48] : List UInt8))) (.tmp 6) (strV ([48] : List UInt8)) (strV r1); binOp .add 9 (strV ([48] : List UInt8)) (strV r1)), strV (([48] : List UInt8) ++ r1)⟩] [none, some (strV r1), some (strV (([48] : List UInt8) ++ r1)), none] [2] [pl 2 (strV (([48] : List UInt8) ++ r1))] hF hS Fol (by kernel_rfl) (by kernel_rfl) (by kernel_rfl) ?_ (fun a w hF hS => ?_)
      · exact obs_cons (ob_call Tryd.func59 (by kernel_rfl) rfl (fun _ _ hS => gameroomref_Dec_w hr1 hS )) <| obs_cons (ob_sadd _ _ (fun _ => hp1)) <| obs_nil
      refine wpIn_ret ?_
      refine then_r ?_
      have hm : some (([48] : List UInt8) ++ r1) = some r := hm
      obtain rfl := Option.some.inj hm
      exact retV (rs := [.tmp 2]) (vs := [strV (([48] : List UInt8) ++ r1)]) hF rfl (rv_t (by kernel_rfl) <| rv_nil) rfl ⟨rfl, hS⟩
    · replace hm := if_f hm hb
      refine wpIn_skip ?_
      refine then_n ?_
      exact ⟨hF.weak [0] (by kernel_rfl), hS, hm⟩

noncomputable def gameroomref_TimeText_J2  (t1 : Int) : Option (List UInt8) :=
  (gameroomref_Dec_m (Int.tmod (w64 (Int.tdiv t1 1000)) 60)).bind fun r6 => asrt ((r6.length : Int) + ([46] : List UInt8).length ≤ bigN) <| (gameroomref_Dec_m (Int.tmod (w64 (Int.tdiv t1 100)) 10)).bind fun r7 => asrt (((r6 ++ ([46] : List UInt8)).length : Int) + r7.length ≤ bigN) <| some ((r6 ++ ([46] : List UInt8)) ++ r7)

noncomputable def gameroomref_TimeText_J1  (t1 : Int) : Option (List UInt8) :=
  if (decide ((0 : Int) < (Int.tmod (w64 (Int.tdiv t1 60000)) 60))) then ((gameroomref_Dec_m (Int.tmod (w64 (Int.tdiv t1 60000)) 60)).bind fun r4 => asrt ((r4.length : Int) + ([58] : List UInt8).length ≤ bigN) <| (gameroomref_twoDigits_m (Int.tmod (w64 (Int.tdiv t1 1000)) 60)).bind fun r5 => asrt (((r4 ++ ([58] : List UInt8)).length : Int) + r5.length ≤ bigN) <| some ((r4 ++ ([58] : List UInt8)) ++ r5)) else ((gameroomref_TimeText_J2 t1))

noncomputable def gameroomref_TimeText_m  (t1 : Int) : Option (List UInt8) :=
  if (decide ((0 : Int) < (w64 (Int.tdiv t1 3600000)))) then ((gameroomref_Dec_m (w64 (Int.tdiv t1 3600000))).bind fun r1 => asrt ((r1.length : Int) + ([58] : List UInt8).length ≤ bigN) <| (gameroomref_twoDigits_m (Int.tmod (w64 (Int.tdiv t1 60000)) 60)).bind fun r2 => asrt (((r1 ++ ([58] : List UInt8)).length : Int) + r2.length ≤ bigN) <| asrt ((((r1 ++ ([58] : List UInt8)) ++ r2).length : Int) + ([58] : List UInt8).length ≤ bigN) <| (gameroomref_twoDigits_m (Int.tmod (w64 (Int.tdiv t1 1000)) 60)).bind fun r3 => asrt (((((r1 ++ ([58] : List UInt8)) ++ r2) ++ ([58] : List UInt8)).length : Int) + r3.length ≤ bigN) <| some ((((r1 ++ ([58] : List UInt8)) ++ r2) ++ ([58] : List UInt8)) ++ r3)) else ((gameroomref_TimeText_J1 t1))

set_option maxRecDepth 100000 in
set_option maxHeartbeats 4000000 in
theorem gameroomref_TimeText_w  {t1 : Int} {r : (List UInt8)} {w0 w : World} {B : Nat} {fs : List HP} (hm : gameroomref_TimeText_m t1 = some r) (hS : Sep w0 B w (fs)) :
    Calls Tryd.prog 18 #[.int .i64 t1] w fun e w' => e = .returned (strV r) ∧ Sep w0 B w' (fs) := by
  unfold gameroomref_TimeText_m at hm
  replace hm := start_b hm
  refine enter (l := [.int .i64 t1]) (n := 42) Tryd.func18 rfl rfl (by simp) (fun a hF => ?_)
  refine reg [] [] [0] [pl 0 (.int .i64 t1)] hF hS Fol (by kernel_rfl) (by kernel_rfl) (by kernel_rfl) ?_ (fun a w hF hS => ?_)
  · exact obs_nil
  refine reg [] [] [0, 3, 4, 5] [pl 0 (.int .i64 t1), pl 3 (.int .i64 (w64 (Int.tdiv t1 3600000))), pl 4 (.int .i64 (Int.tmod (w64 (Int.tdiv t1 60000)) 60)), pl 5 (.int .i64 (Int.tmod (w64 (Int.tdiv t1 1000)) 60))] hF hS Fol (by kernel_rfl) (by kernel_rfl) (by kernel_rfl) ?_ (fun a w hF hS => ?_)
  · exact obs_nil
  refine seq_cut (fun a w => Fr 42 [pl 0 (.int .i64 t1), pl 4 (.int .i64 (Int.tmod (w64 (Int.tdiv t1 60000)) 60)), pl 5 (.int .i64 (Int.tmod (w64 (Int.tdiv t1 1000)) 60))] a ∧ Sep w0 B w (fs) ∧ ((gameroomref_TimeText_J1 t1)).bind some = some r) ?_ ?_
  · rintro a w ⟨hF, hS, hm⟩
    unfold gameroomref_TimeText_J1 at hm
    refine seq_cut (fun a w => Fr 42 [pl 0 (.int .i64 t1), pl 5 (.int .i64 (Int.tmod (w64 (Int.tdiv t1 1000)) 60))] a ∧ Sep w0 B w (fs) ∧ ((gameroomref_TimeText_J2 t1)).bind some = some r) ?_ ?_
    · rintro a w ⟨hF, hS, hm⟩
      unfold gameroomref_TimeText_J2 at hm
      obtain ⟨r6, hr6, hm⟩ := call_b hm
      obtain ⟨hp7, hm⟩ := asrt_b hm
      obtain ⟨r7, hr7, hm⟩ := call_b hm
      obtain ⟨hp8, hm⟩ := asrt_b hm
      refine reg [⟨false, [], callFunc 59 #[.int .i64 (Int.tmod (w64 (Int.tdiv t1 1000)) 60)], strV r6⟩, ⟨true, [], vS (do eqGuard .add 9 (.tmp 35) (.const (strV ([46] : List UInt8))) (strV r6) (strV ([46] : List UInt8)); binOp .add 9 (strV r6) (strV ([46] : List UInt8))), strV (r6 ++ ([46] : List UInt8))⟩, ⟨false, [], callFunc 59 #[.int .i64 (Int.tmod (w64 (Int.tdiv t1 100)) 10)], strV r7⟩, ⟨true, [], vS (do eqGuard .add 9 (.tmp 36) (.tmp 40) (strV (r6 ++ ([46] : List UInt8))) (strV r7); binOp .add 9 (strV (r6 ++ ([46] : List UInt8))) (strV r7)), strV ((r6 ++ ([46] : List UInt8)) ++ r7)⟩] [none, some (strV r6), some (strV (r6 ++ ([46] : List UInt8))), none, none, none, some (strV r7), some (strV ((r6 ++ ([46] : List UInt8)) ++ r7)), none] [2] [pl 2 (strV ((r6 ++ ([46] : List UInt8)) ++ r7))] hF hS Fol (by kernel_rfl) (by kernel_rfl) (by kernel_rfl) ?_ (fun a w hF hS => ?_)
      · exact obs_cons (ob_call Tryd.func59 (by kernel_rfl) rfl (fun _ _ hS => gameroomref_Dec_w hr6 hS )) <| obs_cons (ob_sadd _ _ (fun _ => hp7)) <| obs_cons (ob_call Tryd.func59 (by kernel_rfl) rfl (fun _ _ hS => gameroomref_Dec_w hr7 hS )) <| obs_cons (ob_sadd _ _ (fun _ => hp8)) <| obs_nil
      refine wpIn_ret ?_
      have hm : some ((r6 ++ ([46] : List UInt8)) ++ r7) = some r := hm
      obtain rfl := Option.some.inj hm
      exact retV (rs := [.tmp 2]) (vs := [strV ((r6 ++ ([46] : List UInt8)) ++ r7)]) hF rfl (rv_t (by kernel_rfl) <| rv_nil) rfl ⟨rfl, hS⟩
    · refine reg [] [] [0, 4, 5, 27] [pl 0 (.int .i64 t1), pl 4 (.int .i64 (Int.tmod (w64 (Int.tdiv t1 60000)) 60)), pl 5 (.int .i64 (Int.tmod (w64 (Int.tdiv t1 1000)) 60)), pl 27 (.bool (decide ((0 : Int) < (Int.tmod (w64 (Int.tdiv t1 60000)) 60))))] hF hS Fol (by kernel_rfl) (by kernel_rfl) (by kernel_rfl) ?_ (fun a w hF hS => ?_)
      · exact obs_nil
      refine cond_ev (t := 27) (b := decide ((0 : Int) < (Int.tmod (w64 (Int.tdiv t1 60000)) 60))) hF (by kernel_rfl) (fun hb => ?_) (fun hb => ?_)
      · replace hm := if_t hm hb
        obtain ⟨r4, hr4, hm⟩ := call_b hm
        obtain ⟨hp5, hm⟩ := asrt_b hm
        obtain ⟨r5, hr5, hm⟩ := call_b hm
        obtain ⟨hp6, hm⟩ := asrt_b hm
        refine reg [⟨false, [], callFunc 59 #[.int .i64 (Int.tmod (w64 (Int.tdiv t1 60000)) 60)], strV r4⟩, ⟨true, [], vS (do eqGuard .add 9 (.tmp 29) (.const (strV ([58] : List UInt8))) (strV r4) (strV ([58] : List UInt8)); binOp .add 9 (strV r4) (strV ([58] : List UInt8))), strV (r4 ++ ([58] : List UInt8))⟩, ⟨false, [], callFunc 60 #[.int .i64 (Int.tmod (w64 (Int.tdiv t1 1000)) 60)], strV r5⟩, ⟨true, [], vS (do eqGuard .add 9 (.tmp 30) (.tmp 32) (strV (r4 ++ ([58] : List UInt8))) (strV r5); binOp .add 9 (strV (r4 ++ ([58] : List UInt8))) (strV r5)), strV ((r4 ++ ([58] : List UInt8)) ++ r5)⟩] [none, some (strV r4), some (strV (r4 ++ ([58] : List UInt8))), none, some (strV r5), some (strV ((r4 ++ ([58] : List UInt8)) ++ r5)), none] [2] [pl 2 (strV ((r4 ++ ([58] : List UInt8)) ++ r5))] hF hS Fol (by kernel_rfl) (by kernel_rfl) (by kernel_rfl) ?_ (fun a w hF hS => ?_)
        · exact obs_cons (ob_call Tryd.func59 (by kernel_rfl) rfl (fun _ _ hS => gameroomref_Dec_w hr4 hS )) <| obs_cons (ob_sadd _ _ (fun _ => hp5)) <| obs_cons (ob_call Tryd.func60 (by kernel_rfl) rfl (fun _ _ hS => gameroomref_twoDigits_w hr5 hS )) <| obs_cons (ob_sadd _ _ (fun _ => hp6)) <| obs_nil
        refine wpIn_ret ?_
        refine then_r ?_
        have hm : some ((r4 ++ ([58] : List UInt8)) ++ r5) = some r := hm
        obtain rfl := Option.some.inj hm
        exact retV (rs := [.tmp 2]) (vs := [strV ((r4 ++ ([58] : List UInt8)) ++ r5)]) hF rfl (rv_t (by kernel_rfl) <| rv_nil) rfl ⟨rfl, hS⟩
      · replace hm := if_f hm hb
        refine wpIn_skip ?_
        refine then_n ?_
        exact ⟨hF.weak [0, 5] (by kernel_rfl), hS, hm⟩
  · refine reg [] [] [0, 3, 4, 5, 15] [pl 0 (.int .i64 t1), pl 3 (.int .i64 (w64 (Int.tdiv t1 3600000))), pl 4 (.int .i64 (Int.tmod (w64 (Int.tdiv t1 60000)) 60)), pl 5 (.int .i64 (Int.tmod (w64 (Int.tdiv t1 1000)) 60)), pl 15 (.bool (decide ((0 : Int) < (w64 (Int.tdiv t1 3600000)))))] hF hS Fol (by kernel_rfl) (by kernel_rfl) (by kernel_rfl) ?_ (fun a w hF hS => ?_)
    · exact obs_nil
    refine cond_ev (t := 15) (b := decide ((0 : Int) < (w64 (Int.tdiv t1 3600000)))) hF (by kernel_rfl) (fun hb => ?_) (fun hb => ?_)
    · replace hm := if_t hm hb
      obtain ⟨r1, hr1, hm⟩ := call_b hm
      obtain ⟨hp1, hm⟩ := asrt_b hm
      obtain ⟨r2, hr2, hm⟩ := call_b hm
      obtain ⟨hp2, hm⟩ := asrt_b hm
      obtain ⟨hp3, hm⟩ := asrt_b hm
      obtain ⟨r3, hr3, hm⟩ := call_b hm
      obtain ⟨hp4, hm⟩ := asrt_b hm
      refine reg [⟨false, [], callFunc 59 #[.int .i64 (w64 (Int.tdiv t1 3600000))], strV r1⟩, ⟨true, [], vS (do eqGuard .add 9 (.tmp 17) (.const (strV ([58] : List UInt8))) (strV r1) (strV ([58] : List UInt8)); binOp .add 9 (strV r1) (strV ([58] : List UInt8))), strV (r1 ++ ([58] : List UInt8))⟩, ⟨false, [], callFunc 60 #[.int .i64 (Int.tmod (w64 (Int.tdiv t1 60000)) 60)], strV r2⟩, ⟨true, [], vS (do eqGuard .add 9 (.tmp 18) (.tmp 20) (strV (r1 ++ ([58] : List UInt8))) (strV r2); binOp .add 9 (strV (r1 ++ ([58] : List UInt8))) (strV r2)), strV ((r1 ++ ([58] : List UInt8)) ++ r2)⟩, ⟨true, [], vS (do eqGuard .add 9 (.tmp 21) (.const (strV ([58] : List UInt8))) (strV ((r1 ++ ([58] : List UInt8)) ++ r2)) (strV ([58] : List UInt8)); binOp .add 9 (strV ((r1 ++ ([58] : List UInt8)) ++ r2)) (strV ([58] : List UInt8))), strV (((r1 ++ ([58] : List UInt8)) ++ r2) ++ ([58] : List UInt8))⟩, ⟨false, [], callFunc 60 #[.int .i64 (Int.tmod (w64 (Int.tdiv t1 1000)) 60)], strV r3⟩, ⟨true, [], vS (do eqGuard .add 9 (.tmp 22) (.tmp 24) (strV (((r1 ++ ([58] : List UInt8)) ++ r2) ++ ([58] : List UInt8))) (strV r3); binOp .add 9 (strV (((r1 ++ ([58] : List UInt8)) ++ r2) ++ ([58] : List UInt8))) (strV r3)), strV ((((r1 ++ ([58] : List UInt8)) ++ r2) ++ ([58] : List UInt8)) ++ r3)⟩] [none, some (strV r1), some (strV (r1 ++ ([58] : List UInt8))), none, some (strV r2), some (strV ((r1 ++ ([58] : List UInt8)) ++ r2)), some (strV (((r1 ++ ([58] : List UInt8)) ++ r2) ++ ([58] : List UInt8))), none, some (strV r3), some (strV ((((r1 ++ ([58] : List UInt8)) ++ r2) ++ ([58] : List UInt8)) ++ r3)), none] [2] [pl 2 (strV ((((r1 ++ ([58] : List UInt8)) ++ r2) ++ ([58] : List UInt8)) ++ r3))] hF hS Fol (by kernel_rfl) (by kernel_rfl) (by kernel_rfl) ?_ (fun a w hF hS => ?_)
      · exact obs_cons (ob_call Tryd.func59 (by kernel_rfl) rfl (fun _ _ hS => gameroomref_Dec_w hr1 hS )) <| obs_cons (ob_sadd _ _ (fun _ => hp1)) <| obs_cons (ob_call Tryd.func60 (by kernel_rfl) rfl (fun _ _ hS => gameroomref_twoDigits_w hr2 hS )) <| obs_cons (ob_sadd _ _ (fun _ => hp2)) <| obs_cons (ob_sadd _ _ (fun _ => hp3)) <| obs_cons (ob_call Tryd.func60 (by kernel_rfl) rfl (fun _ _ hS => gameroomref_twoDigits_w hr3 hS )) <| obs_cons (ob_sadd _ _ (fun _ => hp4)) <| obs_nil
      refine wpIn_ret ?_
      refine then_r ?_
      have hm : some ((((r1 ++ ([58] : List UInt8)) ++ r2) ++ ([58] : List UInt8)) ++ r3) = some r := hm
      obtain rfl := Option.some.inj hm
      exact retV (rs := [.tmp 2]) (vs := [strV ((((r1 ++ ([58] : List UInt8)) ++ r2) ++ ([58] : List UInt8)) ++ r3)]) hF rfl (rv_t (by kernel_rfl) <| rv_nil) rfl ⟨rfl, hS⟩
    · replace hm := if_f hm hb
      refine wpIn_skip ?_
      refine then_n ?_
      exact ⟨hF.weak [0, 4, 5] (by kernel_rfl), hS, hm⟩

noncomputable def gameroomref_ReadTime_J3  (t1 : Int) : Option (St Int (Fl Unit Int)) :=
  some (.next (w64 (t1 + 100)))

noncomputable def gameroomref_ReadTime_J2  (s1 : List UInt8) (t1 : Int) : Option (St Int (Fl Unit Int)) :=
  (gameroomref_TimeText_m t1).bind fun r1 => if (r1 == s1) then (some (.done (.ret t1))) else ((gameroomref_ReadTime_J3 t1))

noncomputable def gameroomref_ReadTime_J6  (t2 : Int) : Option (St Int (Fl Unit Int)) :=
  some (.next (w64 (t2 + 1000)))

noncomputable def gameroomref_ReadTime_J5  (s1 : List UInt8) (t2 : Int) : Option (St Int (Fl Unit Int)) :=
  (gameroomref_TimeText_m t2).bind fun r2 => if (r2 == s1) then (some (.done (.ret t2))) else ((gameroomref_ReadTime_J6 t2))

noncomputable def gameroomref_ReadTime_L2  (s1 : List UInt8) : Int → Option (St Int (Fl Unit Int)) :=
  fun (x : Int) => match x with | t2 => if (decide (t2 ≤ 36000000)) then ((gameroomref_ReadTime_J5 s1 t2)) else (some (.done (.go ())))

noncomputable def gameroomref_ReadTime_J4  : Option Int :=
  some (-1)

noncomputable def gameroomref_ReadTime_K2  : (Fl Unit Int) → Option Int :=
  fun (x : (Fl Unit Int)) => match x with | .go _ => gameroomref_ReadTime_J4 | .ret x => some x

noncomputable def gameroomref_ReadTime_J1  (s1 : List UInt8) : Option Int :=
  (loop (gameroomref_ReadTime_L2 s1) 60000).bind gameroomref_ReadTime_K2

noncomputable def gameroomref_ReadTime_K1  (s1 : List UInt8) : (Fl Unit Int) → Option Int :=
  fun (x : (Fl Unit Int)) => match x with | .go _ => (gameroomref_ReadTime_J1 s1) | .ret x => some x

noncomputable def gameroomref_ReadTime_L1  (s1 : List UInt8) : Int → Option (St Int (Fl Unit Int)) :=
  fun (x : Int) => match x with | t1 => if (decide (t1 < 60000)) then ((gameroomref_ReadTime_J2 s1 t1)) else (some (.done (.go ())))

noncomputable def gameroomref_ReadTime_m  (s1 : List UInt8) : Option Int :=
  (loop (gameroomref_ReadTime_L1 s1) 0).bind (gameroomref_ReadTime_K1 s1)

set_option maxRecDepth 100000 in
set_option maxHeartbeats 4000000 in
theorem gameroomref_ReadTime_w  {s1 : List UInt8} {r : Int} {w0 w : World} {B : Nat} {fs : List HP} (hm : gameroomref_ReadTime_m s1 = some r) (hS : Sep w0 B w (fs)) :
    Calls Tryd.prog 19 #[strV s1] w fun e w' => e = .returned (.int .i64 r) ∧ Sep w0 B w' (fs) := by
  unfold gameroomref_ReadTime_m at hm
  replace hm := start_b hm
  refine enter (l := [strV s1]) (n := 23) Tryd.func19 rfl rfl (by simp) (fun a hF => ?_)
  refine reg [] [] [0] [pl 0 (strV s1)] hF hS Fol (by kernel_rfl) (by kernel_rfl) (by kernel_rfl) ?_ (fun a w hF hS => ?_)
  · exact obs_nil
  refine seq_cut (fun a w => Fr 23 [pl 0 (strV s1)] a ∧ Sep w0 B w (fs) ∧ ((gameroomref_ReadTime_J1 s1)).bind some = some r) ?_ ?_
  · rintro a w ⟨hF, hS, hm⟩
    unfold gameroomref_ReadTime_J1 at hm
    refine seq_cut (fun a w => Fr 23 [] a ∧ Sep w0 B w (fs) ∧ (gameroomref_ReadTime_J4).bind some = some r) ?_ ?_
    · rintro a w ⟨hF, hS, hm⟩
      unfold gameroomref_ReadTime_J4 at hm
      refine reg [] [] [2] [pl 2 (.int .i64 (-1))] hF hS Fol (by kernel_rfl) (by kernel_rfl) (by kernel_rfl) ?_ (fun a w hF hS => ?_)
      · exact obs_nil
      refine wpIn_ret ?_
      have hm : some (-1) = some r := hm
      obtain rfl := Option.some.inj hm
      exact retV (rs := [.tmp 2]) (vs := [.int .i64 (-1)]) hF rfl (rv_t (by kernel_rfl) <| rv_nil) rfl ⟨rfl, hS⟩
    · refine reg [] [] [0, 4] [pl 0 (strV s1), pl 4 (.int .i64 60000)] hF hS Fol (by kernel_rfl) (by kernel_rfl) (by kernel_rfl) ?_ (fun a w hF hS => ?_)
      · exact obs_nil
      refine wpIn_block ?_
      refine wp_loop_model (S := Int) (R := (Fl Unit Int)) (gameroomref_ReadTime_L2 s1) (fun x => (gameroomref_ReadTime_K2 x).bind some) r (fun (x : Int) a w => Fr 23 [pl 0 (strV s1), pl 4 (.int .i64 x)] a ∧ Sep w0 B w (fs)) (assoc_b hm) ⟨hF.weak [0, 4] (by kernel_rfl), hS⟩ ?_
      clear hF hS hm
      rintro nn2 t2 a w ⟨hF, hS⟩ hm
      generalize hφ2 : stK (gameroomref_ReadTime_L2 s1) nn2 (fun x => (gameroomref_ReadTime_K2 x).bind some) = φ2 at hm
      unfold gameroomref_ReadTime_L2 at hm
      dsimp only at hm
      refine seq_cut (fun a w => Fr 23 [pl 0 (strV s1), pl 4 (.int .i64 t2)] a ∧ Sep w0 B w (fs) ∧ ((gameroomref_ReadTime_J5 s1 t2)).bind φ2 = some r) ?_ ?_
      · rintro a w ⟨hF, hS, hm⟩
        unfold gameroomref_ReadTime_J5 at hm
        refine seq_cut (fun a w => Fr 23 [pl 0 (strV s1), pl 4 (.int .i64 t2)] a ∧ Sep w0 B w (fs) ∧ ((gameroomref_ReadTime_J6 t2)).bind φ2 = some r) ?_ ?_
        · rintro a w ⟨hF, hS, hm⟩
          unfold gameroomref_ReadTime_J6 at hm
          refine reg1 [] [] [0, 4] [pl 0 (strV s1), pl 4 (.int .i64 (w64 (t2 + 1000)))] hF hS Fol (by kernel_rfl) (by kernel_rfl) (by kernel_rfl) ?_ (fun a w hF hS => ?_)
          · exact obs_nil
          refine then_n ?_
          rw [← hφ2] at hm
          exact ⟨(w64 (t2 + 1000)), ⟨hF.weak [0, 4] (by kernel_rfl), hS⟩, hm⟩
        · refine wpIn_block ?_
          obtain ⟨r2, hr2, hm⟩ := call_b hm
          refine reg [⟨false, [], callFunc 18 #[.int .i64 t2], strV r2⟩, ⟨true, [], vS (do eqGuard .eql 9 (.tmp 19) (.tmp 20) (strV r2) (strV s1); binOp .eql 9 (strV r2) (strV s1)), .bool ((r2 == s1))⟩] [none, some (strV r2), none, some (.bool ((r2 == s1)))] [0, 4, 21] [pl 0 (strV s1), pl 4 (.int .i64 t2), pl 21 (.bool (r2 == s1))] hF hS Fol (by kernel_rfl) (by kernel_rfl) (by kernel_rfl) ?_ (fun a w hF hS => ?_)
          · exact obs_cons (ob_call Tryd.func18 (by kernel_rfl) rfl (fun _ _ hS => gameroomref_TimeText_w hr2 hS )) <| obs_cons (ob_seql _ _) <| obs_nil
          refine cond_ev (t := 21) (b := (r2 == s1)) hF (by kernel_rfl) (fun hb => ?_) (fun hb => ?_)
          · replace hm := if_t hm hb
            refine reg [] [] [2] [pl 2 (.int .i64 t2)] hF hS Fol (by kernel_rfl) (by kernel_rfl) (by kernel_rfl) ?_ (fun a w hF hS => ?_)
            · exact obs_nil
            refine wpIn_ret ?_
            refine block_r (then_r (then_r (block_r (then_r ?_))))
            rw [← hφ2] at hm
            replace hm := done_b hm
            unfold gameroomref_ReadTime_K2 at hm
            try dsimp only at hm
            have hm : some t2 = some r := hm
            obtain rfl := Option.some.inj hm
            exact retV (rs := [.tmp 2]) (vs := [.int .i64 t2]) hF rfl (rv_t (by kernel_rfl) <| rv_nil) rfl ⟨rfl, hS⟩
          · replace hm := if_f hm hb
            refine wpIn_skip ?_
            refine block_n ?_
            refine then_n ?_
            exact ⟨hF.weak [0, 4] (by kernel_rfl), hS, hm⟩
      · refine reg [] [] [0, 4, 15] [pl 0 (strV s1), pl 4 (.int .i64 t2), pl 15 (.bool (decide (t2 ≤ 36000000)))] hF hS Fol (by kernel_rfl) (by kernel_rfl) (by kernel_rfl) ?_ (fun a w hF hS => ?_)
        · exact obs_nil
        refine cond_ev (t := 15) (b := decide (t2 ≤ 36000000)) hF (by kernel_rfl) (fun hb => ?_) (fun hb => ?_)
        · replace hm := if_t hm hb
          refine wpIn_skip ?_
          refine then_n ?_
          exact ⟨hF.weak [0, 4] (by kernel_rfl), hS, hm⟩
        · replace hm := if_f hm hb
          refine wpIn_exit ?_
          refine then_e (then_e (block_e (then_n ?_)))
          rw [← hφ2] at hm
          replace hm := done_b hm
          unfold gameroomref_ReadTime_K2 at hm
          try dsimp only at hm
          have hm : (gameroomref_ReadTime_J4).bind some = some r := hm
          exact ⟨hF.weak [] (by kernel_rfl), hS, hm⟩
  · refine reg [] [] [0, 3] [pl 0 (strV s1), pl 3 (.int .i64 0)] hF hS Fol (by kernel_rfl) (by kernel_rfl) (by kernel_rfl) ?_ (fun a w hF hS => ?_)
    · exact obs_nil
    refine wpIn_block ?_
    refine wp_loop_model (S := Int) (R := (Fl Unit Int)) (gameroomref_ReadTime_L1 s1) (fun x => ((gameroomref_ReadTime_K1 s1) x).bind some) r (fun (x : Int) a w => Fr 23 [pl 0 (strV s1), pl 3 (.int .i64 x)] a ∧ Sep w0 B w (fs)) (assoc_b hm) ⟨hF.weak [0, 3] (by kernel_rfl), hS⟩ ?_
    clear hF hS hm
    rintro nn1 t1 a w ⟨hF, hS⟩ hm
    generalize hφ1 : stK (gameroomref_ReadTime_L1 s1) nn1 (fun x => ((gameroomref_ReadTime_K1 s1) x).bind some) = φ1 at hm
    unfold gameroomref_ReadTime_L1 at hm
    dsimp only at hm
    refine seq_cut (fun a w => Fr 23 [pl 0 (strV s1), pl 3 (.int .i64 t1)] a ∧ Sep w0 B w (fs) ∧ ((gameroomref_ReadTime_J2 s1 t1)).bind φ1 = some r) ?_ ?_
    · rintro a w ⟨hF, hS, hm⟩
      unfold gameroomref_ReadTime_J2 at hm
      refine seq_cut (fun a w => Fr 23 [pl 0 (strV s1), pl 3 (.int .i64 t1)] a ∧ Sep w0 B w (fs) ∧ ((gameroomref_ReadTime_J3 t1)).bind φ1 = some r) ?_ ?_
      · rintro a w ⟨hF, hS, hm⟩
        unfold gameroomref_ReadTime_J3 at hm
        refine reg1 [] [] [0, 3] [pl 0 (strV s1), pl 3 (.int .i64 (w64 (t1 + 100)))] hF hS Fol (by kernel_rfl) (by kernel_rfl) (by kernel_rfl) ?_ (fun a w hF hS => ?_)
        · exact obs_nil
        refine then_n ?_
        rw [← hφ1] at hm
        exact ⟨(w64 (t1 + 100)), ⟨hF.weak [0, 3] (by kernel_rfl), hS⟩, hm⟩
      · refine wpIn_block ?_
        obtain ⟨r1, hr1, hm⟩ := call_b hm
        refine reg [⟨false, [], callFunc 18 #[.int .i64 t1], strV r1⟩, ⟨true, [], vS (do eqGuard .eql 9 (.tmp 10) (.tmp 11) (strV r1) (strV s1); binOp .eql 9 (strV r1) (strV s1)), .bool ((r1 == s1))⟩] [none, some (strV r1), none, some (.bool ((r1 == s1)))] [0, 3, 12] [pl 0 (strV s1), pl 3 (.int .i64 t1), pl 12 (.bool (r1 == s1))] hF hS Fol (by kernel_rfl) (by kernel_rfl) (by kernel_rfl) ?_ (fun a w hF hS => ?_)
        · exact obs_cons (ob_call Tryd.func18 (by kernel_rfl) rfl (fun _ _ hS => gameroomref_TimeText_w hr1 hS )) <| obs_cons (ob_seql _ _) <| obs_nil
        refine cond_ev (t := 12) (b := (r1 == s1)) hF (by kernel_rfl) (fun hb => ?_) (fun hb => ?_)
        · replace hm := if_t hm hb
          refine reg [] [] [2] [pl 2 (.int .i64 t1)] hF hS Fol (by kernel_rfl) (by kernel_rfl) (by kernel_rfl) ?_ (fun a w hF hS => ?_)
          · exact obs_nil
          refine wpIn_ret ?_
          refine block_r (then_r (then_r (block_r (then_r ?_))))
          rw [← hφ1] at hm
          replace hm := done_b hm
          unfold gameroomref_ReadTime_K1 at hm
          try dsimp only at hm
          have hm : some t1 = some r := hm
          obtain rfl := Option.some.inj hm
          exact retV (rs := [.tmp 2]) (vs := [.int .i64 t1]) hF rfl (rv_t (by kernel_rfl) <| rv_nil) rfl ⟨rfl, hS⟩
        · replace hm := if_f hm hb
          refine wpIn_skip ?_
          refine block_n ?_
          refine then_n ?_
          exact ⟨hF.weak [0, 3] (by kernel_rfl), hS, hm⟩
    · refine reg [] [] [0, 3, 6] [pl 0 (strV s1), pl 3 (.int .i64 t1), pl 6 (.bool (decide (t1 < 60000)))] hF hS Fol (by kernel_rfl) (by kernel_rfl) (by kernel_rfl) ?_ (fun a w hF hS => ?_)
      · exact obs_nil
      refine cond_ev (t := 6) (b := decide (t1 < 60000)) hF (by kernel_rfl) (fun hb => ?_) (fun hb => ?_)
      · replace hm := if_t hm hb
        refine wpIn_skip ?_
        refine then_n ?_
        exact ⟨hF.weak [0, 3] (by kernel_rfl), hS, hm⟩
      · replace hm := if_f hm hb
        refine wpIn_exit ?_
        refine then_e (then_e (block_e (then_n ?_)))
        rw [← hφ1] at hm
        replace hm := done_b hm
        unfold gameroomref_ReadTime_K1 at hm
        try dsimp only at hm
        have hm : ((gameroomref_ReadTime_J1 s1)).bind some = some r := hm
        exact ⟨hF.weak [0] (by kernel_rfl), hS, hm⟩

noncomputable def gameroomlaw_ClockTexts_J2  (r2 : (Int × Int)) (r4 : Int) : Option Bool :=
  some ((r2.2 == 0) && (r2.1 == r4))

noncomputable def gameroomlaw_ClockTexts_J1  (s1 : List UInt8) (r2 : (Int × Int)) : Option Bool :=
  (gameroomref_ReadTime_m s1).bind fun r4 => if (decide (r4 < 0)) then (some ((r2.2 == 1) && (r2.1 == 0))) else ((gameroomlaw_ClockTexts_J2 r2 r4))

noncomputable def gameroomlaw_ClockTexts_m  (t1 : Int) (s1 : List UInt8) : Option Bool :=
  (clock_Show_m t1).bind fun r1 => (clock_Read_m s1).bind fun r2 => if ((decide (t1 < 0)) || (decide ((36000000 : Int) < t1))) then (if ((r1.2 != 1) || (!(r1.1 == ([] : List UInt8)))) then (some false) else ((gameroomlaw_ClockTexts_J1 s1 r2))) else (((if (!(r1.2 != 0)) then gameroomref_TimeText_m t1 else some ([]))).bind fun r3 => if ((r1.2 != 0) || (!(r1.1 == r3))) then (some false) else ((gameroomlaw_ClockTexts_J1 s1 r2)))

set_option maxRecDepth 100000 in
set_option maxHeartbeats 4000000 in
theorem gameroomlaw_ClockTexts_w  {t1 : Int} {s1 : List UInt8} {r : Bool} {w0 w : World} {B : Nat} {fs : List HP} [ErrG 2 w0 B] [ErrG 3 w0 B] [IntG 4 w0 B] [PowG Tryd.prog w0 B] (hm : gameroomlaw_ClockTexts_m t1 s1 = some r) (hS : Sep w0 B w (fs)) :
    Calls Tryd.prog 4 #[.int .i64 t1, strV s1] w fun e w' => e = .returned (.bool r) ∧ Sep w0 B w' (fs) := by
  unfold gameroomlaw_ClockTexts_m at hm
  replace hm := start_b hm
  refine enter (l := [.int .i64 t1, strV s1]) (n := 57) Tryd.func4 rfl rfl (by simp) (fun a hF => ?_)
  refine reg [] [] [0, 1] [pl 0 (.int .i64 t1), pl 1 (strV s1)] hF hS Fol (by kernel_rfl) (by kernel_rfl) (by kernel_rfl) ?_ (fun a w hF hS => ?_)
  · exact obs_nil
  obtain ⟨r1, hr1, hm⟩ := call_b hm
  refine reg [⟨false, [], callFunc 16 #[.int .i64 t1], .tuple #[strV r1.1, .int .i64 r1.2]⟩] [none, some (.tuple #[strV r1.1, .int .i64 r1.2]), none, none, none, none, none] [0, 1, 5, 6] [pl 0 (.int .i64 t1), pl 1 (strV s1), pl 5 (strV r1.1), pl 6 (.int .i64 r1.2)] hF hS Fol (by kernel_rfl) (by kernel_rfl) (by kernel_rfl) ?_ (fun a w hF hS => ?_)
  · exact obs_cons (ob_call Tryd.func16 (by kernel_rfl) rfl (fun _ _ hS => clock_Show_w hr1 hS )) <| obs_nil
  obtain ⟨r2, hr2, hm⟩ := call_b hm
  refine reg [⟨false, [], callFunc 17 #[strV s1], .tuple #[.int .i64 r2.1, .int .i64 r2.2]⟩] [none, some (.tuple #[.int .i64 r2.1, .int .i64 r2.2]), none, none, none, none, none] [0, 1, 5, 6, 7, 8] [pl 0 (.int .i64 t1), pl 1 (strV s1), pl 5 (strV r1.1), pl 6 (.int .i64 r1.2), pl 7 (.int .i64 r2.1), pl 8 (.int .i64 r2.2)] hF hS Fol (by kernel_rfl) (by kernel_rfl) (by kernel_rfl) ?_ (fun a w hF hS => ?_)
  · exact obs_cons (ob_call Tryd.func17 (by kernel_rfl) rfl (fun _ _ hS => clock_Read_w hr2 hS )) <| obs_nil
  refine seq_cut (fun a w => Fr 57 [pl 1 (strV s1), pl 7 (.int .i64 r2.1), pl 8 (.int .i64 r2.2)] a ∧ Sep w0 B w (fs) ∧ ((gameroomlaw_ClockTexts_J1 s1 r2)).bind some = some r) ?_ ?_
  · rintro a w ⟨hF, hS, hm⟩
    unfold gameroomlaw_ClockTexts_J1 at hm
    obtain ⟨r4, hr4, hm⟩ := call_b hm
    refine reg [⟨false, [], callFunc 19 #[strV s1], .int .i64 r4⟩] [none, some (.int .i64 r4), none] [7, 8, 9] [pl 7 (.int .i64 r2.1), pl 8 (.int .i64 r2.2), pl 9 (.int .i64 r4)] hF hS Fol (by kernel_rfl) (by kernel_rfl) (by kernel_rfl) ?_ (fun a w hF hS => ?_)
    · exact obs_cons (ob_call Tryd.func19 (by kernel_rfl) rfl (fun _ _ hS => gameroomref_ReadTime_w hr4 hS )) <| obs_nil
    refine seq_cut (fun a w => Fr 57 [pl 7 (.int .i64 r2.1), pl 8 (.int .i64 r2.2), pl 9 (.int .i64 r4)] a ∧ Sep w0 B w (fs) ∧ ((gameroomlaw_ClockTexts_J2 r2 r4)).bind some = some r) ?_ ?_
    · rintro a w ⟨hF, hS, hm⟩
      unfold gameroomlaw_ClockTexts_J2 at hm
      refine reg [] [] [4] [pl 4 (.bool ((r2.2 == 0) && (r2.1 == r4)))] hF hS Fol (by kernel_rfl) (by kernel_rfl) (by kernel_rfl) ?_ (fun a w hF hS => ?_)
      · exact obs_nil
      refine wpIn_ret ?_
      have hm : some ((r2.2 == 0) && (r2.1 == r4)) = some r := hm
      obtain rfl := Option.some.inj hm
      exact retV (rs := [.tmp 4]) (vs := [.bool ((r2.2 == 0) && (r2.1 == r4))]) hF rfl (rv_t (by kernel_rfl) <| rv_nil) rfl ⟨rfl, hS⟩
    · refine reg [] [] [7, 8, 9, 43] [pl 7 (.int .i64 r2.1), pl 8 (.int .i64 r2.2), pl 9 (.int .i64 r4), pl 43 (.bool (decide (r4 < 0)))] hF hS Fol (by kernel_rfl) (by kernel_rfl) (by kernel_rfl) ?_ (fun a w hF hS => ?_)
      · exact obs_nil
      refine cond_ev (t := 43) (b := decide (r4 < 0)) hF (by kernel_rfl) (fun hb => ?_) (fun hb => ?_)
      · replace hm := if_t hm hb
        refine reg [] [] [4] [pl 4 (.bool ((r2.2 == 1) && (r2.1 == 0)))] hF hS Fol (by kernel_rfl) (by kernel_rfl) (by kernel_rfl) ?_ (fun a w hF hS => ?_)
        · exact obs_nil
        refine wpIn_ret ?_
        refine then_r ?_
        have hm : some ((r2.2 == 1) && (r2.1 == 0)) = some r := hm
        obtain rfl := Option.some.inj hm
        exact retV (rs := [.tmp 4]) (vs := [.bool ((r2.2 == 1) && (r2.1 == 0))]) hF rfl (rv_t (by kernel_rfl) <| rv_nil) rfl ⟨rfl, hS⟩
      · replace hm := if_f hm hb
        refine wpIn_skip ?_
        refine then_n ?_
        exact ⟨hF.weak [7, 8, 9] (by kernel_rfl), hS, hm⟩
  · refine reg [] [] [0, 1, 5, 6, 7, 8, 25] [pl 0 (.int .i64 t1), pl 1 (strV s1), pl 5 (strV r1.1), pl 6 (.int .i64 r1.2), pl 7 (.int .i64 r2.1), pl 8 (.int .i64 r2.2), pl 25 (.bool ((decide (t1 < 0)) || (decide ((36000000 : Int) < t1))))] hF hS Fol (by kernel_rfl) (by kernel_rfl) (by kernel_rfl) ?_ (fun a w hF hS => ?_)
    · exact obs_nil
    refine cond_ev (t := 25) (b := (decide (t1 < 0)) || (decide ((36000000 : Int) < t1))) hF (by kernel_rfl) (fun hb => ?_) (fun hb => ?_)
    · replace hm := if_t hm hb
      refine reg [⟨true, [((r1.2 != 1), false)], vS (do eqGuard .neq 9 (.tmp 29) (.const (strV ([] : List UInt8))) (strV r1.1) (strV ([] : List UInt8)); binOp .neq 9 (strV r1.1) (strV ([] : List UInt8))), .bool (!(r1.1 == ([] : List UInt8)))⟩] [none, none, none, none, some (.bool (!(r1.1 == ([] : List UInt8)))), none] [1, 7, 8, 31] [pl 1 (strV s1), pl 7 (.int .i64 r2.1), pl 8 (.int .i64 r2.2), pl 31 (.bool ((r1.2 != 1) || (!(r1.1 == ([] : List UInt8)))))] hF hS Fol (by kernel_rfl) (by kernel_rfl) (by kernel_rfl) ?_ (fun a w hF hS => ?_)
      · exact obs_cons (ob_sneq _ _) <| obs_nil
      refine cond_ev (t := 31) (b := (r1.2 != 1) || (!(r1.1 == ([] : List UInt8)))) hF (by kernel_rfl) (fun hb => ?_) (fun hb => ?_)
      · replace hm := if_t hm hb
        refine reg [] [] [4] [pl 4 (.bool false)] hF hS Fol (by kernel_rfl) (by kernel_rfl) (by kernel_rfl) ?_ (fun a w hF hS => ?_)
        · exact obs_nil
        refine wpIn_ret ?_
        refine then_r ?_
        have hm : some false = some r := hm
        obtain rfl := Option.some.inj hm
        exact retV (rs := [.tmp 4]) (vs := [.bool false]) hF rfl (rv_t (by kernel_rfl) <| rv_nil) rfl ⟨rfl, hS⟩
      · replace hm := if_f hm hb
        refine wpIn_skip ?_
        refine then_n ?_
        exact ⟨hF.weak [1, 7, 8] (by kernel_rfl), hS, hm⟩
    · replace hm := if_f hm hb
      obtain ⟨r3, hr3, hm⟩ := call_b hm
      refine reg [⟨false, [((r1.2 != 0), false)], callFunc 18 #[.int .i64 t1], strV r3⟩, ⟨true, [((r1.2 != 0), false)], vS (do eqGuard .neq 9 (.tmp 35) (.tmp 37) (strV r1.1) (strV r3); binOp .neq 9 (strV r1.1) (strV r3)), .bool (!(r1.1 == r3))⟩] [none, none, none, none, none, some (strV r3), some (.bool (!(r1.1 == r3))), none] [1, 7, 8, 39] [pl 1 (strV s1), pl 7 (.int .i64 r2.1), pl 8 (.int .i64 r2.2), pl 39 (.bool ((r1.2 != 0) || (!(r1.1 == r3))))] hF hS Fol (by kernel_rfl) (by kernel_rfl) (by kernel_rfl) ?_ (fun a w hF hS => ?_)
      · exact obs_cons (ob_call Tryd.func18 (by kernel_rfl) rfl (fun hy _ hS => gameroomref_TimeText_w (ite_some hr3 (by rw [show (r1.2 != 0) = false from hy ((r1.2 != 0), false) (by simp)]; try rfl)) hS )) <| obs_cons (ob_sneq _ _) <| obs_nil
      refine cond_ev (t := 39) (b := (r1.2 != 0) || (!(r1.1 == r3))) hF (by kernel_rfl) (fun hb => ?_) (fun hb => ?_)
      · replace hm := if_t hm hb
        refine reg [] [] [4] [pl 4 (.bool false)] hF hS Fol (by kernel_rfl) (by kernel_rfl) (by kernel_rfl) ?_ (fun a w hF hS => ?_)
        · exact obs_nil
        refine wpIn_ret ?_
        refine then_r ?_
        have hm : some false = some r := hm
        obtain rfl := Option.some.inj hm
        exact retV (rs := [.tmp 4]) (vs := [.bool false]) hF rfl (rv_t (by kernel_rfl) <| rv_nil) rfl ⟨rfl, hS⟩
      · replace hm := if_f hm hb
        refine wpIn_skip ?_
        refine then_n ?_
        exact ⟨hF.weak [1, 7, 8] (by kernel_rfl), hS, hm⟩

end Go.Proofs.YtdbdcbejmbpbmaaDoor
