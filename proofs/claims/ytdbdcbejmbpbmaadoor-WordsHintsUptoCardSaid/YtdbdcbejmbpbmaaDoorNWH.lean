/-
  Models and walks, printed by our own program (wip/gen).
-/
import Derived.Test.YtdbdcbejmbpbmaaDoorFB
import Derived.Test.YtdbdcbejmbpbmaaDoorLibUv
import Derived.Test.YtdbdcbejmbpbmaaDoorSV
import Derived.Test.YtdbdcbejmbpbmaaDoorLibIr
import Derived.Test.YtdbdcbejmbpbmaaDoorLibSu
import Derived.Test.YtdbdcbejmbpbmaaDoorFM
import Derived.Test.YtdbdcbejmbpbmaaDoorLibSt
namespace Go.Proofs.YtdbdcbejmbpbmaaDoor
open Go Go.GL Go.RowKit


noncomputable def utf8_RuneCountInString_J2  (s1 : List UInt8) (n1 : Int) (z1 : Int) : Option (St (Int × Int) Int) :=
  some (.next ((w64 (n1 + 1)), (z1 + swid s1 z1)))

noncomputable def utf8_RuneCountInString_J1  (n2 : Int) : Option Int :=
  some n2

noncomputable def utf8_RuneCountInString_K1  : Int → Option Int :=
  fun (x : Int) => match x with | n2 => utf8_RuneCountInString_J1 n2

noncomputable def utf8_RuneCountInString_L1  (s1 : List UInt8) : (Int × Int) → Option (St (Int × Int) Int) :=
  fun (x : (Int × Int)) => match x with | (n1, z1) => if (decide (z1 < (s1.length : Int))) then ((utf8_RuneCountInString_J2 s1 n1 z1)) else (some (.done n1))

noncomputable def utf8_RuneCountInString_m  (s1 : List UInt8) : Option Int :=
  (loop (utf8_RuneCountInString_L1 s1) (0, (0 : Int))).bind utf8_RuneCountInString_K1

set_option maxRecDepth 100000 in
set_option maxHeartbeats 4000000 in
theorem utf8_RuneCountInString_w  {s1 : List UInt8} {r : Int} {w0 w : World} {B : Nat} {fs : List HP} (hm : utf8_RuneCountInString_m s1 = some r) (hS : Sep w0 B w (fs)) :
    Calls Tryd.prog 65 #[strV s1] w fun e w' => e = .returned (.int .i64 r) ∧ Sep w0 B w' (fs) := by
  unfold utf8_RuneCountInString_m at hm
  replace hm := start_b hm
  refine enter (l := [strV s1]) (n := 10) Tryd.func65 rfl rfl (by simp) (fun a hF => ?_)
  refine reg [] [] [0, 2] [pl 0 (strV s1), pl 2 (.int .i64 0)] hF hS Fol (by kernel_rfl) (by kernel_rfl) (by kernel_rfl) ?_ (fun a w hF hS => ?_)
  · exact obs_nil
  refine seq_cut (fun a w => ∃ (n2 : Int), Fr 10 [pl 2 (.int .i64 n2)] a ∧ Sep w0 B w (fs) ∧ (utf8_RuneCountInString_J1 n2).bind some = some r) ?_ ?_
  · rintro a w ⟨n2, hF, hS, hm⟩
    unfold utf8_RuneCountInString_J1 at hm
    refine reg [] [] [2] [pl 2 (.int .i64 n2)] hF hS Fol (by kernel_rfl) (by kernel_rfl) (by kernel_rfl) ?_ (fun a w hF hS => ?_)
    · exact obs_nil
    refine wpIn_ret ?_
    have hm : some n2 = some r := hm
    obtain rfl := Option.some.inj hm
    exact retV (rs := [.tmp 2]) (vs := [.int .i64 n2]) hF rfl (rv_t (by kernel_rfl) <| rv_nil) rfl ⟨rfl, hS⟩
  · refine seqR ?_
    refine at_run 1 [] [] [2, 3] [pl 2 (.int .i64 0), pl 3 (strV s1)] hF hS (by kernel_rfl) (by kernel_rfl) ?_ (fun a w hF hS => ?_)
    · exact obs_nil
    refine at_do (d := 4) (s := vS (Instr.range 9 (strV s1))) (v := .pointer (some ⟨w.heap.size, 0, none⟩)) (w' := w.alloc (.stringIter ⟨(s1).toArray⟩ 0)) hF (by kernel_rfl) (by kernel_rfl) (run_rangeS (s := s1) (by kernel_rfl)) (fun a hF => ?_)
    have hS : Sep w0 B (w.alloc (.stringIter ⟨(s1).toArray⟩ 0)) (iterH w.heap.size s1 0 :: (fs)) := hS.iterNew _
    generalize w.heap.size = g1 at hF hS
    generalize w.alloc (.stringIter ⟨(s1).toArray⟩ 0) = w at hS ⊢
    refine at_end [2, 4] [pl 2 (.int .i64 0), pl 4 (.pointer (some ⟨g1, 0, none⟩))] hF rfl (by kernel_rfl) (fun hF => ?_)
    refine then_n ?_
    refine wpIn_block ?_
    refine wp_loop_model (S := (Int × Int)) (R := Int) (utf8_RuneCountInString_L1 s1) (fun x => (utf8_RuneCountInString_K1 x).bind some) r (fun (x : (Int × Int)) a w => Fr 10 [pl 2 (.int .i64 x.1), pl 4 (.pointer (some ⟨g1, 0, none⟩))] a ∧ Sep w0 B w (iterH g1 s1 x.2 :: fs)) (assoc_b hm) ⟨hF.weak [2, 4] (by kernel_rfl), hS⟩ ?_
    clear hF hS hm
    rintro nn1 ⟨n1, z1⟩ a w ⟨hF, hS⟩ hm
    generalize hφ1 : stK (utf8_RuneCountInString_L1 s1) nn1 (fun x => (utf8_RuneCountInString_K1 x).bind some) = φ1 at hm
    unfold utf8_RuneCountInString_L1 at hm
    dsimp only at hF hS hm
    refine seqR ?_
    rcases Bool.eq_false_or_eq_true (decide (z1 < (s1.length : Int))) with hg1 | hg1
    · replace hm := if_t hm hg1
      obtain ⟨w, hrun, hS⟩ := run_nextT (P := Tryd.prog) (ty := 0) hg1 (hS.at_ 0 rfl)
      refine at_do (d := 5) hF (by kernel_rfl) (by kernel_rfl) hrun (fun a hF => ?_)
      have hS : Sep w0 B w (iterH g1 s1 (z1 + swid s1 z1) :: fs) := hS
      refine at_run 1 [] [] [2, 4, 6] [pl 2 (.int .i64 n1), pl 4 (.pointer (some ⟨g1, 0, none⟩)), pl 6 (.bool true)] hF hS (by kernel_rfl) (by kernel_rfl) ?_ (fun a w hF hS => ?_)
      · exact obs_nil
      refine at_end [2, 4, 6] [pl 2 (.int .i64 n1), pl 4 (.pointer (some ⟨g1, 0, none⟩)), pl 6 (.bool true)] hF rfl (by kernel_rfl) (fun hF => ?_)
      refine then_n ?_
      refine seq_cut (fun a w => Fr 10 [pl 2 (.int .i64 n1), pl 4 (.pointer (some ⟨g1, 0, none⟩))] a ∧ Sep w0 B w (iterH g1 s1 (z1 + swid s1 z1) :: fs) ∧ ((utf8_RuneCountInString_J2 s1 n1 z1)).bind φ1 = some r) ?_ ?_
      · rintro a w ⟨hF, hS, hm⟩
        unfold utf8_RuneCountInString_J2 at hm
        refine wpIn_block ?_
        refine reg1 [] [] [2, 4] [pl 2 (.int .i64 (w64 (n1 + 1))), pl 4 (.pointer (some ⟨g1, 0, none⟩))] hF hS Fol (by kernel_rfl) (by kernel_rfl) (by kernel_rfl) ?_ (fun a w hF hS => ?_)
        · exact obs_nil
        refine block_n ?_
        refine then_n ?_
        rw [← hφ1] at hm
        exact ⟨((w64 (n1 + 1)), (z1 + swid s1 z1)), ⟨hF.weak [2, 4] (by kernel_rfl), hS⟩, hm⟩
      · refine cond_ev (t := 6) (b := true) hF (by kernel_rfl) (fun hb => ?_) (fun hb => ?_)
        · refine wpIn_skip ?_
          refine then_n ?_
          exact ⟨hF.weak [2, 4] (by kernel_rfl), hS, hm⟩
        · exact absurd hb (by decide)
    · replace hm := if_f hm hg1
      refine at_do (d := 5) hF (by kernel_rfl) (by kernel_rfl) (run_nextF (P := Tryd.prog) (ty := 0) hg1 (hS.at_ 0 rfl)) (fun a hF => ?_)
      refine at_run 1 [] [] [2, 4, 6] [pl 2 (.int .i64 n1), pl 4 (.pointer (some ⟨g1, 0, none⟩)), pl 6 (.bool false)] hF hS (by kernel_rfl) (by kernel_rfl) ?_ (fun a w hF hS => ?_)
      · exact obs_nil
      refine at_end [2, 4, 6] [pl 2 (.int .i64 n1), pl 4 (.pointer (some ⟨g1, 0, none⟩)), pl 6 (.bool false)] hF rfl (by kernel_rfl) (fun hF => ?_)
      refine then_n ?_
      refine seq_cut (fun _ _ => False) (fun _ _ h => h.elim) ?_
      refine cond_ev (t := 6) (b := false) hF (by kernel_rfl) (fun hb => ?_) (fun hb => ?_)
      · exact absurd hb (by decide)
      · refine wpIn_exit ?_
        refine then_e (then_e (block_e (then_n ?_)))
        have hS := hS.pickN 1 [] (by decide)
        rw [← hφ1] at hm
        replace hm := done_b hm
        unfold utf8_RuneCountInString_K1 at hm
        try dsimp only at hm
        have hm : (utf8_RuneCountInString_J1 n1).bind some = some r := hm
        exact ⟨n1, hF.weak [2] (by kernel_rfl), hS, hm⟩

noncomputable def utf8_ValidString_m (s1 : List UInt8) : Option Bool :=
  asrt ((s1.length : Int) ≤ bigN) <| some (validS s1)

theorem utf8_ValidString_w {s1 : List UInt8} {r : Bool} {w0 w : World} {B : Nat} {fs : List HP} [UTab 0 1 w0 B] (hm : utf8_ValidString_m s1 = some r) (hS : Sep w0 B w (fs)) :
    Calls Tryd.prog 66 #[strV s1] w fun e w' => e = .returned (.bool r) ∧ Sep w0 B w' (fs) := by
  unfold utf8_ValidString_m at hm
  obtain ⟨hb, hm⟩ := asrt_b (start_b hm)
  obtain rfl := Option.some.inj hm
  exact valid_own ValidL (g3 := 0) (g4 := 1) rfl rfl hS hb

noncomputable def words_foreign_m  (c1 : Int) : Option Bool :=
  some (((decide (c1 < 97)) || (decide ((122 : Int) < c1))) && (((decide (c1 < 223)) || (decide ((255 : Int) < c1))) || (c1 == 247)))

set_option maxRecDepth 100000 in
set_option maxHeartbeats 4000000 in
theorem words_foreign_w  {c1 : Int} {r : Bool} {w0 w : World} {B : Nat} {fs : List HP} (hm : words_foreign_m c1 = some r) (hS : Sep w0 B w (fs)) :
    Calls Tryd.prog 69 #[.int .i32 c1] w fun e w' => e = .returned (.bool r) ∧ Sep w0 B w' (fs) := by
  unfold words_foreign_m at hm
  replace hm := start_b hm
  refine enter (l := [.int .i32 c1]) (n := 21) Tryd.func69 rfl rfl (by simp) (fun a hF => ?_)
  refine reg [] [] [0] [pl 0 (.int .i32 c1)] hF hS Fol (by kernel_rfl) (by kernel_rfl) (by kernel_rfl) ?_ (fun a w hF hS => ?_)
  · exact obs_nil
  refine reg [] [] [2] [pl 2 (.bool (((decide (c1 < 97)) || (decide ((122 : Int) < c1))) && (((decide (c1 < 223)) || (decide ((255 : Int) < c1))) || (c1 == 247))))] hF hS Fol (by kernel_rfl) (by kernel_rfl) (by kernel_rfl) ?_ (fun a w hF hS => ?_)
  · exact obs_nil
  refine wpIn_ret ?_
  have hm : some (((decide (c1 < 97)) || (decide ((122 : Int) < c1))) && (((decide (c1 < 223)) || (decide ((255 : Int) < c1))) || (c1 == 247))) = some r := hm
  obtain rfl := Option.some.inj hm
  exact retV (rs := [.tmp 2]) (vs := [.bool (((decide (c1 < 97)) || (decide ((122 : Int) < c1))) && (((decide (c1 < 223)) || (decide ((255 : Int) < c1))) || (c1 == 247)))]) hF rfl (rv_t (by kernel_rfl) <| rv_nil) rfl ⟨rfl, hS⟩

noncomputable def strings_indexFunc_J2  (s1 : List UInt8) (truth1 : Bool) (z1 : Int) : Option (St Int (Fl Unit Int)) :=
  (words_foreign_m (srune s1 z1)).bind fun r1 => if (r1 == truth1) then (some (.done (.ret z1))) else (some (.next (z1 + swid s1 z1)))

noncomputable def strings_indexFunc_J1  : Option Int :=
  some (-1)

noncomputable def strings_indexFunc_K1  : (Fl Unit Int) → Option Int :=
  fun (x : (Fl Unit Int)) => match x with | .go _ => strings_indexFunc_J1 | .ret x => some x

noncomputable def strings_indexFunc_L1  (s1 : List UInt8) (truth1 : Bool) : Int → Option (St Int (Fl Unit Int)) :=
  fun (x : Int) => match x with | z1 => if (decide (z1 < (s1.length : Int))) then ((strings_indexFunc_J2 s1 truth1 z1)) else (some (.done (.go ())))

noncomputable def strings_indexFunc_m  (s1 : List UInt8) (truth1 : Bool) : Option Int :=
  (loop (strings_indexFunc_L1 s1 truth1) (0 : Int)).bind strings_indexFunc_K1

set_option maxRecDepth 100000 in
set_option maxHeartbeats 4000000 in
theorem strings_indexFunc_w  {s1 : List UInt8} {truth1 : Bool} {r : Int} {w0 w : World} {B : Nat} {fs : List HP} (hm : strings_indexFunc_m s1 truth1 = some r) (hS : Sep w0 B w (fs)) :
    Calls Tryd.prog 146 #[strV s1, .func (.func 69) #[] #[], .bool truth1] w fun e w' => e = .returned (.int .i64 r) ∧ Sep w0 B w' (fs) := by
  unfold strings_indexFunc_m at hm
  replace hm := start_b hm
  refine enter (l := [strV s1, .func (.func 69) #[] #[], .bool truth1]) (n := 21) Tryd.func146 rfl rfl (by simp) (fun a hF => ?_)
  refine reg [] [] [0, 1, 2] [pl 0 (strV s1), pl 1 (.func (.func 69) #[] #[]), pl 2 (.bool truth1)] hF hS Fol (by kernel_rfl) (by kernel_rfl) (by kernel_rfl) ?_ (fun a w hF hS => ?_)
  · exact obs_nil
  refine seq_cut (fun a w => Fr 21 [] a ∧ Sep w0 B w (fs) ∧ (strings_indexFunc_J1).bind some = some r) ?_ ?_
  · rintro a w ⟨hF, hS, hm⟩
    unfold strings_indexFunc_J1 at hm
    refine reg [] [] [6] [pl 6 (.int .i64 (-1))] hF hS Fol (by kernel_rfl) (by kernel_rfl) (by kernel_rfl) ?_ (fun a w hF hS => ?_)
    · exact obs_nil
    refine wpIn_ret ?_
    have hm : some (-1) = some r := hm
    obtain rfl := Option.some.inj hm
    exact retV (rs := [.tmp 6]) (vs := [.int .i64 (-1)]) hF rfl (rv_t (by kernel_rfl) <| rv_nil) rfl ⟨rfl, hS⟩
  · refine seqR ?_
    refine at_run 1 [] [] [1, 2, 9] [pl 1 (.func (.func 69) #[] #[]), pl 2 (.bool truth1), pl 9 (strV s1)] hF hS (by kernel_rfl) (by kernel_rfl) ?_ (fun a w hF hS => ?_)
    · exact obs_nil
    refine at_do (d := 10) (s := vS (Instr.range 9 (strV s1))) (v := .pointer (some ⟨w.heap.size, 0, none⟩)) (w' := w.alloc (.stringIter ⟨(s1).toArray⟩ 0)) hF (by kernel_rfl) (by kernel_rfl) (run_rangeS (s := s1) (by kernel_rfl)) (fun a hF => ?_)
    have hS : Sep w0 B (w.alloc (.stringIter ⟨(s1).toArray⟩ 0)) (iterH w.heap.size s1 0 :: (fs)) := hS.iterNew _
    generalize w.heap.size = g1 at hF hS
    generalize w.alloc (.stringIter ⟨(s1).toArray⟩ 0) = w at hS ⊢
    refine at_end [1, 2, 10] [pl 1 (.func (.func 69) #[] #[]), pl 2 (.bool truth1), pl 10 (.pointer (some ⟨g1, 0, none⟩))] hF rfl (by kernel_rfl) (fun hF => ?_)
    refine then_n ?_
    refine wpIn_block ?_
    refine wp_loop_model (S := Int) (R := (Fl Unit Int)) (strings_indexFunc_L1 s1 truth1) (fun x => (strings_indexFunc_K1 x).bind some) r (fun (x : Int) a w => Fr 21 [pl 1 (.func (.func 69) #[] #[]), pl 2 (.bool truth1), pl 10 (.pointer (some ⟨g1, 0, none⟩))] a ∧ Sep w0 B w (iterH g1 s1 x :: fs)) (assoc_b hm) ⟨hF.weak [1, 2, 10] (by kernel_rfl), hS⟩ ?_
    clear hF hS hm
    rintro nn1 z1 a w ⟨hF, hS⟩ hm
    generalize hφ1 : stK (strings_indexFunc_L1 s1 truth1) nn1 (fun x => (strings_indexFunc_K1 x).bind some) = φ1 at hm
    unfold strings_indexFunc_L1 at hm
    dsimp only at hm
    refine seqR ?_
    rcases Bool.eq_false_or_eq_true (decide (z1 < (s1.length : Int))) with hg1 | hg1
    · replace hm := if_t hm hg1
      obtain ⟨w, hrun, hS⟩ := run_nextT (P := Tryd.prog) (ty := 0) hg1 (hS.at_ 0 rfl)
      refine at_do (d := 11) hF (by kernel_rfl) (by kernel_rfl) hrun (fun a hF => ?_)
      have hS : Sep w0 B w (iterH g1 s1 (z1 + swid s1 z1) :: fs) := hS
      refine at_run 1 [] [] [1, 2, 10, 11, 12] [pl 1 (.func (.func 69) #[] #[]), pl 2 (.bool truth1), pl 10 (.pointer (some ⟨g1, 0, none⟩)), pl 11 (.tuple #[.bool true, .int .i64 z1, .int .i32 (srune s1 z1)]), pl 12 (.bool true)] hF hS (by kernel_rfl) (by kernel_rfl) ?_ (fun a w hF hS => ?_)
      · exact obs_nil
      refine at_end [1, 2, 10, 11, 12] [pl 1 (.func (.func 69) #[] #[]), pl 2 (.bool truth1), pl 10 (.pointer (some ⟨g1, 0, none⟩)), pl 11 (.tuple #[.bool true, .int .i64 z1, .int .i32 (srune s1 z1)]), pl 12 (.bool true)] hF rfl (by kernel_rfl) (fun hF => ?_)
      refine then_n ?_
      refine seq_cut (fun a w => Fr 21 [pl 1 (.func (.func 69) #[] #[]), pl 2 (.bool truth1), pl 10 (.pointer (some ⟨g1, 0, none⟩)), pl 11 (.tuple #[.bool true, .int .i64 z1, .int .i32 (srune s1 z1)])] a ∧ Sep w0 B w (iterH g1 s1 (z1 + swid s1 z1) :: fs) ∧ ((strings_indexFunc_J2 s1 truth1 z1)).bind φ1 = some r) ?_ ?_
      · rintro a w ⟨hF, hS, hm⟩
        unfold strings_indexFunc_J2 at hm
        refine wpIn_block ?_
        refine reg [] [] [1, 2, 7, 8, 10] [pl 1 (.func (.func 69) #[] #[]), pl 2 (.bool truth1), pl 7 (.int .i64 z1), pl 8 (.int .i32 (srune s1 z1)), pl 10 (.pointer (some ⟨g1, 0, none⟩))] hF hS Fol (by kernel_rfl) (by kernel_rfl) (by kernel_rfl) ?_ (fun a w hF hS => ?_)
        · exact obs_nil
        obtain ⟨r1, hr1, hm⟩ := call_b hm
        refine reg [⟨false, [], callFunc 69 #[.int .i32 (srune s1 z1)], .bool r1⟩] [none, none, some (.bool r1), none, none] [1, 2, 7, 10, 19] [pl 1 (.func (.func 69) #[] #[]), pl 2 (.bool truth1), pl 7 (.int .i64 z1), pl 10 (.pointer (some ⟨g1, 0, none⟩)), pl 19 (.bool (r1 == truth1))] hF hS Fol (by kernel_rfl) (by kernel_rfl) (by kernel_rfl) ?_ (fun a w hF hS => ?_)
        · exact obs_cons (ob_call Tryd.func69 (by kernel_rfl) rfl (fun _ _ hS => words_foreign_w hr1 hS )) <| obs_nil
        refine cond_ev (t := 19) (b := (r1 == truth1)) hF (by kernel_rfl) (fun hb => ?_) (fun hb => ?_)
        · replace hm := if_t hm hb
          refine reg [] [] [6] [pl 6 (.int .i64 z1)] hF hS Fol (by kernel_rfl) (by kernel_rfl) (by kernel_rfl) ?_ (fun a w hF hS => ?_)
          · exact obs_nil
          refine wpIn_ret ?_
          refine block_r (then_r (block_r (then_r ?_)))
          rw [← hφ1] at hm
          replace hm := done_b hm
          unfold strings_indexFunc_K1 at hm
          try dsimp only at hm
          have hS := hS.pickN 1 [] (by decide)
          have hm : some z1 = some r := hm
          obtain rfl := Option.some.inj hm
          exact retV (rs := [.tmp 6]) (vs := [.int .i64 z1]) hF rfl (rv_t (by kernel_rfl) <| rv_nil) rfl ⟨rfl, hS⟩
        · replace hm := if_f hm hb
          refine wpIn_skip ?_
          refine block_n ?_
          refine then_n ?_
          rw [← hφ1] at hm
          exact ⟨(z1 + swid s1 z1), ⟨hF.weak [1, 2, 10] (by kernel_rfl), hS⟩, hm⟩
      · refine cond_ev (t := 12) (b := true) hF (by kernel_rfl) (fun hb => ?_) (fun hb => ?_)
        · refine wpIn_skip ?_
          refine then_n ?_
          exact ⟨hF.weak [1, 2, 10, 11] (by kernel_rfl), hS, hm⟩
        · exact absurd hb (by decide)
    · replace hm := if_f hm hg1
      refine at_do (d := 11) hF (by kernel_rfl) (by kernel_rfl) (run_nextF (P := Tryd.prog) (ty := 0) hg1 (hS.at_ 0 rfl)) (fun a hF => ?_)
      refine at_run 1 [] [] [1, 2, 10, 11, 12] [pl 1 (.func (.func 69) #[] #[]), pl 2 (.bool truth1), pl 10 (.pointer (some ⟨g1, 0, none⟩)), pl 11 (.tuple #[.bool false]), pl 12 (.bool false)] hF hS (by kernel_rfl) (by kernel_rfl) ?_ (fun a w hF hS => ?_)
      · exact obs_nil
      refine at_end [1, 2, 10, 11, 12] [pl 1 (.func (.func 69) #[] #[]), pl 2 (.bool truth1), pl 10 (.pointer (some ⟨g1, 0, none⟩)), pl 11 (.tuple #[.bool false]), pl 12 (.bool false)] hF rfl (by kernel_rfl) (fun hF => ?_)
      refine then_n ?_
      refine seq_cut (fun _ _ => False) (fun _ _ h => h.elim) ?_
      refine cond_ev (t := 12) (b := false) hF (by kernel_rfl) (fun hb => ?_) (fun hb => ?_)
      · exact absurd hb (by decide)
      · refine wpIn_exit ?_
        refine then_e (then_e (block_e (then_n ?_)))
        have hS := hS.pickN 1 [] (by decide)
        rw [← hφ1] at hm
        replace hm := done_b hm
        unfold strings_indexFunc_K1 at hm
        try dsimp only at hm
        have hm : (strings_indexFunc_J1).bind some = some r := hm
        exact ⟨hF.weak [] (by kernel_rfl), hS, hm⟩

noncomputable def strings_IndexFunc_m  (s1 : List UInt8) : Option Int :=
  (strings_indexFunc_m s1 true).bind fun r1 => some r1

set_option maxRecDepth 100000 in
set_option maxHeartbeats 4000000 in
theorem strings_IndexFunc_w  {s1 : List UInt8} {r : Int} {w0 w : World} {B : Nat} {fs : List HP} (hm : strings_IndexFunc_m s1 = some r) (hS : Sep w0 B w (fs)) :
    Calls Tryd.prog 110 #[strV s1, .func (.func 69) #[] #[]] w fun e w' => e = .returned (.int .i64 r) ∧ Sep w0 B w' (fs) := by
  unfold strings_IndexFunc_m at hm
  replace hm := start_b hm
  refine enter (l := [strV s1, .func (.func 69) #[] #[]]) (n := 8) Tryd.func110 rfl rfl (by simp) (fun a hF => ?_)
  refine reg [] [] [0, 1] [pl 0 (strV s1), pl 1 (.func (.func 69) #[] #[])] hF hS Fol (by kernel_rfl) (by kernel_rfl) (by kernel_rfl) ?_ (fun a w hF hS => ?_)
  · exact obs_nil
  obtain ⟨r1, hr1, hm⟩ := call_b hm
  refine reg [⟨false, [], callFunc 146 #[strV s1, .func (.func 69) #[] #[], .bool true], .int .i64 r1⟩] [none, none, some (.int .i64 r1), none] [4] [pl 4 (.int .i64 r1)] hF hS Fol (by kernel_rfl) (by kernel_rfl) (by kernel_rfl) ?_ (fun a w hF hS => ?_)
  · exact obs_cons (ob_call Tryd.func146 (by kernel_rfl) rfl (fun _ _ hS => strings_indexFunc_w hr1 hS )) <| obs_nil
  refine wpIn_ret ?_
  have hm : some r1 = some r := hm
  obtain rfl := Option.some.inj hm
  exact retV (rs := [.tmp 4]) (vs := [.int .i64 r1]) hF rfl (rv_t (by kernel_rfl) <| rv_nil) rfl ⟨rfl, hS⟩

noncomputable def strings_ContainsFunc_m  (s1 : List UInt8) : Option Bool :=
  (strings_IndexFunc_m s1).bind fun r1 => some (decide ((0 : Int) ≤ r1))

set_option maxRecDepth 100000 in
set_option maxHeartbeats 4000000 in
theorem strings_ContainsFunc_w  {s1 : List UInt8} {r : Bool} {w0 w : World} {B : Nat} {fs : List HP} (hm : strings_ContainsFunc_m s1 = some r) (hS : Sep w0 B w (fs)) :
    Calls Tryd.prog 67 #[strV s1, .func (.func 69) #[] #[]] w fun e w' => e = .returned (.bool r) ∧ Sep w0 B w' (fs) := by
  unfold strings_ContainsFunc_m at hm
  replace hm := start_b hm
  refine enter (l := [strV s1, .func (.func 69) #[] #[]]) (n := 9) Tryd.func67 rfl rfl (by simp) (fun a hF => ?_)
  refine reg [] [] [0, 1] [pl 0 (strV s1), pl 1 (.func (.func 69) #[] #[])] hF hS Fol (by kernel_rfl) (by kernel_rfl) (by kernel_rfl) ?_ (fun a w hF hS => ?_)
  · exact obs_nil
  obtain ⟨r1, hr1, hm⟩ := call_b hm
  refine reg [⟨false, [], callFunc 110 #[strV s1, .func (.func 69) #[] #[]], .int .i64 r1⟩] [none, none, some (.int .i64 r1), none, none] [4] [pl 4 (.bool (decide ((0 : Int) ≤ r1)))] hF hS Fol (by kernel_rfl) (by kernel_rfl) (by kernel_rfl) ?_ (fun a w hF hS => ?_)
  · exact obs_cons (ob_call Tryd.func110 (by kernel_rfl) rfl (fun _ _ hS => strings_IndexFunc_w hr1 hS )) <| obs_nil
  refine wpIn_ret ?_
  have hm : some (decide ((0 : Int) ≤ r1)) = some r := hm
  obtain rfl := Option.some.inj hm
  exact retV (rs := [.tmp 4]) (vs := [.bool (decide ((0 : Int) ≤ r1))]) hF rfl (rv_t (by kernel_rfl) <| rv_nil) rfl ⟨rfl, hS⟩

noncomputable def words_word_m  (s1 : List UInt8) : Option Bool :=
  (utf8_RuneCountInString_m s1).bind fun r1 => ((if ((decide ((1 : Int) ≤ r1)) && (decide (r1 ≤ 8))) then utf8_ValidString_m s1 else some false)).bind fun r2 => ((if (((decide ((1 : Int) ≤ r1)) && (decide (r1 ≤ 8))) && r2) then strings_ContainsFunc_m s1 else some false)).bind fun r3 => some ((((decide ((1 : Int) ≤ r1)) && (decide (r1 ≤ 8))) && r2) && (!r3))

set_option maxRecDepth 100000 in
set_option maxHeartbeats 4000000 in
theorem words_word_w  {s1 : List UInt8} {r : Bool} {w0 w : World} {B : Nat} {fs : List HP} [UTab 0 1 w0 B] (hm : words_word_m s1 = some r) (hS : Sep w0 B w (fs)) :
    Calls Tryd.prog 50 #[strV s1] w fun e w' => e = .returned (.bool r) ∧ Sep w0 B w' (fs) := by
  unfold words_word_m at hm
  replace hm := start_b hm
  refine enter (l := [strV s1]) (n := 21) Tryd.func50 rfl rfl (by simp) (fun a hF => ?_)
  refine reg [] [] [0] [pl 0 (strV s1)] hF hS Fol (by kernel_rfl) (by kernel_rfl) (by kernel_rfl) ?_ (fun a w hF hS => ?_)
  · exact obs_nil
  obtain ⟨r1, hr1, hm⟩ := call_b hm
  refine reg [⟨false, [], callFunc 65 #[strV s1], .int .i64 r1⟩] [none, some (.int .i64 r1), none] [0, 3] [pl 0 (strV s1), pl 3 (.int .i64 r1)] hF hS Fol (by kernel_rfl) (by kernel_rfl) (by kernel_rfl) ?_ (fun a w hF hS => ?_)
  · exact obs_cons (ob_call Tryd.func65 (by kernel_rfl) rfl (fun _ _ hS => utf8_RuneCountInString_w hr1 hS )) <| obs_nil
  obtain ⟨r2, hr2, hm⟩ := call_b hm
  obtain ⟨r3, hr3, hm⟩ := call_b hm
  refine reg [⟨false, [((decide ((1 : Int) ≤ r1)) && (decide (r1 ≤ 8)), true)], callFunc 66 #[strV s1], .bool r2⟩, ⟨false, [(((decide ((1 : Int) ≤ r1)) && (decide (r1 ≤ 8))) && r2, true)], callFunc 67 #[strV s1, .func (.func 69) #[] #[]], .bool r3⟩] [none, none, none, none, none, none, none, none, some (.bool r2), none, none, none, some (.bool r3), none, none, none] [2] [pl 2 (.bool ((((decide ((1 : Int) ≤ r1)) && (decide (r1 ≤ 8))) && r2) && (!r3)))] hF hS Fol (by kernel_rfl) (by kernel_rfl) (by kernel_rfl) ?_ (fun a w hF hS => ?_)
  · exact obs_cons (ob_call Tryd.func66 (by kernel_rfl) rfl (fun hy _ hS => utf8_ValidString_w (ite_some hr2 (by rw [show ((decide ((1 : Int) ≤ r1)) && (decide (r1 ≤ 8))) = true from hy ((decide ((1 : Int) ≤ r1)) && (decide (r1 ≤ 8)), true) (by simp)]; try rfl)) hS )) <| obs_cons (ob_call Tryd.func67 (by kernel_rfl) rfl (fun hy _ hS => strings_ContainsFunc_w (ite_some hr3 (by rw [show (((decide ((1 : Int) ≤ r1)) && (decide (r1 ≤ 8))) && r2) = true from hy (((decide ((1 : Int) ≤ r1)) && (decide (r1 ≤ 8))) && r2, true) (by simp)]; try rfl)) hS )) <| obs_nil
  refine wpIn_ret ?_
  have hm : some ((((decide ((1 : Int) ≤ r1)) && (decide (r1 ≤ 8))) && r2) && (!r3)) = some r := hm
  obtain rfl := Option.some.inj hm
  exact retV (rs := [.tmp 2]) (vs := [.bool ((((decide ((1 : Int) ≤ r1)) && (decide (r1 ≤ 8))) && r2) && (!r3))]) hF rfl (rv_t (by kernel_rfl) <| rv_nil) rfl ⟨rfl, hS⟩

noncomputable def words_hint_J3  (z1 : Int) (out3 : List Int) (left3 : List (Int × Int)) : Option (St (List Int × List (Int × Int) × Int) (List Int × List (Int × Int))) :=
  some (.next (out3, left3, (w64 (z1 + 1))))

noncomputable def words_hint_J2  (secret1 : List Int) (guess1 : List Int) (out1 : List Int) (left1 : List (Int × Int)) (z1 : Int) : Option (St (List Int × List (Int × Int) × Int) (List Int × List (Int × Int))) :=
  asrt (0 ≤ z1 ∧ z1 < (secret1.length : Int)) <| asrt (0 ≤ z1 ∧ z1 < (((Int.toNat (guess1.length : Int)) : Nat) : Int)) <| asrt (0 ≤ z1 ∧ z1 < (guess1.length : Int)) <| if ((getd (0 : Int) guess1 z1) == (getd (0 : Int) secret1 z1)) then (asrt (0 ≤ z1 ∧ z1 < (((Int.toNat (guess1.length : Int)) : Nat) : Int)) <| (words_hint_J3 z1) ((out1.set (Int.toNat z1) 46).set (Int.toNat z1) 103) left1) else ((words_hint_J3 z1) (out1.set (Int.toNat z1) 46) (mput (getd (0 : Int) secret1 z1) (w64 ((mget (0 : Int) (getd (0 : Int) secret1 z1) left1) + 1)) left1))

noncomputable def words_hint_J6  (z2 : Int) (out6 : List Int) (left5 : List (Int × Int)) : Option (St (List Int × List (Int × Int) × Int) (List Int)) :=
  some (.next (out6, left5, (w64 (z2 + 1))))

noncomputable def words_hint_J7  (guess1 : List Int) (out4 : List Int) (left4 : List (Int × Int)) (z2 : Int) (z3 : Bool) : Option (St (List Int × List (Int × Int) × Int) (List Int)) :=
  if z3 then (asrt (0 ≤ z2 ∧ z2 < (((Int.toNat (guess1.length : Int)) : Nat) : Int)) <| (words_hint_J6 z2) (out4.set (Int.toNat z2) 121) (mput (getd (0 : Int) guess1 z2) (w64 ((mget (0 : Int) (getd (0 : Int) guess1 z2) left4) - 1)) left4)) else ((words_hint_J6 z2) out4 left4)

noncomputable def words_hint_J5  (guess1 : List Int) (out4 : List Int) (left4 : List (Int × Int)) (z2 : Int) : Option (St (List Int × List (Int × Int) × Int) (List Int)) :=
  asrt (0 ≤ z2 ∧ z2 < (guess1.length : Int)) <| asrt (0 ≤ z2 ∧ z2 < (((Int.toNat (guess1.length : Int)) : Nat) : Int)) <| if ((getd (0 : Int) out4 z2) == 46) then ((words_hint_J7 guess1 out4 left4 z2) (((getd (0 : Int) out4 z2) == 46) && (decide ((0 : Int) < (mget (0 : Int) (getd (0 : Int) guess1 z2) left4))))) else ((words_hint_J7 guess1 out4 left4 z2) (((getd (0 : Int) out4 z2) == 46) && (decide ((0 : Int) < 0))))

noncomputable def words_hint_L2  (guess1 : List Int) : (List Int × List (Int × Int) × Int) → Option (St (List Int × List (Int × Int) × Int) (List Int)) :=
  fun (x : (List Int × List (Int × Int) × Int)) => match x with | (out4, left4, z2) => if (decide (z2 < (guess1.length : Int))) then ((words_hint_J5 guess1 out4 left4 z2)) else (some (.done out4))

noncomputable def words_hint_J4  (out5 : List Int) : Option (List UInt8) :=
  some (b8 out5)

noncomputable def words_hint_K2  : (List Int) → Option (List UInt8) :=
  fun (x : (List Int)) => match x with | out5 => words_hint_J4 out5

noncomputable def words_hint_J1  (guess1 : List Int) (out2 : List Int) (left2 : List (Int × Int)) : Option (List UInt8) :=
  (loop (words_hint_L2 guess1) (out2, left2, 0)).bind words_hint_K2

noncomputable def words_hint_K1  (guess1 : List Int) : (List Int × List (Int × Int)) → Option (List UInt8) :=
  fun (x : (List Int × List (Int × Int))) => match x with | (out2, left2) => (words_hint_J1 guess1) out2 left2

noncomputable def words_hint_L1  (secret1 : List Int) (guess1 : List Int) : (List Int × List (Int × Int) × Int) → Option (St (List Int × List (Int × Int) × Int) (List Int × List (Int × Int))) :=
  fun (x : (List Int × List (Int × Int) × Int)) => match x with | (out1, left1, z1) => if (decide (z1 < (secret1.length : Int))) then ((words_hint_J2 secret1 guess1 out1 left1 z1)) else (some (.done (out1, left1)))

noncomputable def words_hint_m  (secret1 : List Int) (guess1 : List Int) : Option (List UInt8) :=
  asrt ((0 : Int) ≤ (guess1.length : Int) ∧ (guess1.length : Int) ≤ bigN) <| (loop (words_hint_L1 secret1 guess1) ((List.replicate (Int.toNat (guess1.length : Int)) (0 : Int)), ([] : List (Int × Int)), 0)).bind (words_hint_K1 guess1)

set_option maxRecDepth 100000 in
set_option maxHeartbeats 4000000 in
theorem words_hint_w  {A1 : Option Addr} {c1 : Nat} {n1 : Nat} {secret1 : List Int} {A2 : Option Addr} {c2 : Nat} {n2 : Nat} {guess1 : List Int} {r : (List UInt8)} {w0 w : World} {B : Nat} {fs : List HP} (hm : words_hint_m secret1 guess1 = some r) (hS : Sep w0 B w (fs)) (hr_secret1 : RdF w0 B fs A1 ((List.map (Value.int .i32) secret1))) (_hc_secret1 : secret1.length ≤ c1) (_hn_secret1 : n1 = secret1.length) (hr_guess1 : RdF w0 B fs A2 ((List.map (Value.int .i32) guess1))) (_hc_guess1 : guess1.length ≤ c2) (_hn_guess1 : n2 = guess1.length) :
    Calls Tryd.prog 51 #[.slice A1 n1 c1, .slice A2 n2 c2] w fun e w' => e = .returned (strV r) ∧ Sep w0 B w' (fs) := by
  obtain ⟨i5, hi5, hz5, hs5, hb5⟩ := info_parts Info5
  obtain ⟨i21, hi21, hz21, hs21, hb21⟩ := info_parts Info21
  obtain rfl := _hn_secret1
  obtain rfl := _hn_guess1
  unfold words_hint_m at hm
  replace hm := start_b hm
  refine enter (l := [.slice A1 secret1.length c1, .slice A2 guess1.length c2]) (n := 67) Tryd.func51 rfl rfl (by simp) (fun a hF => ?_)
  refine reg [] [] [0, 1] [pl 0 (.slice A1 secret1.length c1), pl 1 (.slice A2 guess1.length c2)] hF hS Fol (by kernel_rfl) (by kernel_rfl) (by kernel_rfl) ?_ (fun a w hF hS => ?_)
  · exact obs_nil
  refine seqR ?_
  obtain ⟨hp1, hm⟩ := asrt_b hm
  refine at_run 2 [] [] [0, 1, 12] [pl 0 (.slice A1 secret1.length c1), pl 1 (.slice A2 guess1.length c2), pl 12 (.int .i64 (guess1.length : Int))] hF hS (by kernel_rfl) (by kernel_rfl) ?_ (fun a w hF hS => ?_)
  · exact obs_nil
  obtain ⟨A3, c3, w, hrun, hS⟩ := run_mk1 (P := Tryd.prog) (t := 112) (Value.int .u8) (0 : Int) hS .i64 .i64 Und112 hi5 hz5 hs5 (by omega) rfl hp1
  have hS : Sep w0 B w (own 5 (.slice A3 (Int.toNat (guess1.length : Int)) c3) ((List.map (Value.int .u8) (List.replicate (Int.toNat (guess1.length : Int)) (0 : Int)))) :: fs) := hS
  refine at_do (d := 13) hF (by kernel_rfl) (by kernel_rfl) hrun (fun a hF => ?_)
  refine at_run 1 [] [] [0, 1, 5] [pl 0 (.slice A1 secret1.length c1), pl 1 (.slice A2 guess1.length c2), pl 5 (.slice A3 (Int.toNat (guess1.length : Int)) c3)] hF hS (by kernel_rfl) (by kernel_rfl) ?_ (fun a w hF hS => ?_)
  · exact obs_nil
  refine at_end [0, 1, 5] [pl 0 (.slice A1 secret1.length c1), pl 1 (.slice A2 guess1.length c2), pl 5 (.slice A3 (Int.toNat (guess1.length : Int)) c3)] hF rfl (by kernel_rfl) (fun hF => ?_)
  refine then_n ?_
  refine seqR ?_
  refine at_do (d := 14) (s := vS (Instr.makeMap 99 none)) (v := .map (some w.heap.size)) (w' := w.alloc (.map #[] 0)) hF (by kernel_rfl) (by kernel_rfl) (by kernel_rfl) (fun a hF => ?_)
  have hS : Sep w0 B (w.alloc (.map #[] 0)) (mapH kf21 (Value.int .i64) w.heap.size ([] : List (Int × Int)) :: (own 5 (.slice A3 (Int.toNat (guess1.length : Int)) c3) ((List.map (Value.int .u8) (List.replicate (Int.toNat (guess1.length : Int)) (0 : Int)))) :: fs)) := hS.mapNew _ _
  generalize w.heap.size = g1 at hF hS
  generalize w.alloc (.map #[] 0) = w at hS ⊢
  refine at_run 1 [] [] [0, 1, 5, 6] [pl 0 (.slice A1 secret1.length c1), pl 1 (.slice A2 guess1.length c2), pl 5 (.slice A3 (Int.toNat (guess1.length : Int)) c3), pl 6 (.map (some g1))] hF hS (by kernel_rfl) (by kernel_rfl) ?_ (fun a w hF hS => ?_)
  · exact obs_nil
  refine at_end [0, 1, 5, 6] [pl 0 (.slice A1 secret1.length c1), pl 1 (.slice A2 guess1.length c2), pl 5 (.slice A3 (Int.toNat (guess1.length : Int)) c3), pl 6 (.map (some g1))] hF rfl (by kernel_rfl) (fun hF => ?_)
  refine then_n ?_
  refine seq_cut (fun a w => ∃ (out2 : List Int) (left2 : List (Int × Int)), Fr 67 [pl 1 (.slice A2 guess1.length c2), pl 5 (.slice A3 (Int.toNat (guess1.length : Int)) c3), pl 6 (.map (some g1))] a ∧ Sep w0 B w (own 5 (.slice A3 (Int.toNat (guess1.length : Int)) c3) ((List.map (Value.int .u8) out2)) :: mapH kf21 (Value.int .i64) g1 left2 :: fs) ∧ ((words_hint_J1 guess1) out2 left2).bind some = some r) ?_ ?_
  · rintro a w ⟨out2, left2, hF, hS, hm⟩
    unfold words_hint_J1 at hm
    refine seq_cut (fun a w => ∃ (out5 : List Int), Fr 67 [pl 5 (.slice A3 (Int.toNat (guess1.length : Int)) c3)] a ∧ Sep w0 B w (own 5 (.slice A3 (Int.toNat (guess1.length : Int)) c3) ((List.map (Value.int .u8) out5)) :: fs) ∧ (words_hint_J4 out5).bind some = some r) ?_ ?_
    · rintro a w ⟨out5, hF, hS, hm⟩
      unfold words_hint_J4 at hm
      refine seqR ?_
      refine at_run 1 [] [] [65] [pl 65 (.slice A3 (Int.toNat (guess1.length : Int)) c3)] hF hS (by kernel_rfl) (by kernel_rfl) ?_ (fun a w hF hS => ?_)
      · exact obs_nil
      have hrun := run_strE (P := Tryd.prog) (src := 112) (dst := 9) (e := 5) (m := out5) (c := c3) (by kernel_rfl) (by kernel_rfl) (by kernel_rfl) (hS.at_ 0 rfl).rd ((hS.at_ 0 rfl).len1)
      refine at_do (d := 66) hF (by kernel_rfl) (by kernel_rfl) hrun (fun a hF => ?_)
      refine at_run 1 [] [] [4] [pl 4 (strV (b8 out5))] hF hS (by kernel_rfl) (by kernel_rfl) ?_ (fun a w hF hS => ?_)
      · exact obs_nil
      refine at_end [4] [pl 4 (strV (b8 out5))] hF rfl (by kernel_rfl) (fun hF => ?_)
      refine then_n ?_
      refine wpIn_ret ?_
      have hS := hS.pickN 1 [] (by decide)
      have hm : some (b8 out5) = some r := hm
      obtain rfl := Option.some.inj hm
      exact retV (rs := [.tmp 4]) (vs := [strV (b8 out5)]) hF rfl (rv_t (by kernel_rfl) <| rv_nil) rfl ⟨rfl, hS⟩
    · refine reg [] [] [5, 6, 39, 40, 41] [pl 5 (.slice A3 (Int.toNat (guess1.length : Int)) c3), pl 6 (.map (some g1)), pl 39 (.slice A2 guess1.length c2), pl 40 (.int .i64 (guess1.length : Int)), pl 41 (.int .i64 0)] hF hS Fol (by kernel_rfl) (by kernel_rfl) (by kernel_rfl) ?_ (fun a w hF hS => ?_)
      · exact obs_nil
      refine wpIn_block ?_
      refine wp_loop_model (S := (List Int × List (Int × Int) × Int)) (R := (List Int)) (words_hint_L2 guess1) (fun x => (words_hint_K2 x).bind some) r (fun (x : (List Int × List (Int × Int) × Int)) a w => Fr 67 [pl 5 (.slice A3 (Int.toNat (guess1.length : Int)) c3), pl 6 (.map (some g1)), pl 39 (.slice A2 guess1.length c2), pl 40 (.int .i64 (guess1.length : Int)), pl 41 (.int .i64 x.2.2)] a ∧ Sep w0 B w (own 5 (.slice A3 (Int.toNat (guess1.length : Int)) c3) ((List.map (Value.int .u8) x.1)) :: mapH kf21 (Value.int .i64) g1 x.2.1 :: fs)) (assoc_b hm) ⟨hF.weak [5, 6, 39, 40, 41] (by kernel_rfl), hS⟩ ?_
      clear hF hS hm
      rintro nn2 ⟨out4, left4, z2⟩ a w ⟨hF, hS⟩ hm
      generalize hφ2 : stK (words_hint_L2 guess1) nn2 (fun x => (words_hint_K2 x).bind some) = φ2 at hm
      unfold words_hint_L2 at hm
      dsimp only at hF hS hm
      refine reg [] [] [5, 6, 39, 40, 41, 42] [pl 5 (.slice A3 (Int.toNat (guess1.length : Int)) c3), pl 6 (.map (some g1)), pl 39 (.slice A2 guess1.length c2), pl 40 (.int .i64 (guess1.length : Int)), pl 41 (.int .i64 z2), pl 42 (.bool (decide (z2 < (guess1.length : Int))))] hF hS Fol (by kernel_rfl) (by kernel_rfl) (by kernel_rfl) ?_ (fun a w hF hS => ?_)
      · exact obs_nil
      refine seq_cut (fun a w => Fr 67 [pl 5 (.slice A3 (Int.toNat (guess1.length : Int)) c3), pl 6 (.map (some g1)), pl 39 (.slice A2 guess1.length c2), pl 40 (.int .i64 (guess1.length : Int)), pl 41 (.int .i64 z2)] a ∧ Sep w0 B w (own 5 (.slice A3 (Int.toNat (guess1.length : Int)) c3) ((List.map (Value.int .u8) out4)) :: mapH kf21 (Value.int .i64) g1 left4 :: fs) ∧ ((words_hint_J5 guess1 out4 left4 z2)).bind φ2 = some r) ?_ ?_
      · rintro a w ⟨hF, hS, hm⟩
        unfold words_hint_J5 at hm
        refine seq_cut (fun a w => ∃ (out6 : List Int) (left5 : List (Int × Int)), Fr 67 [pl 5 (.slice A3 (Int.toNat (guess1.length : Int)) c3), pl 6 (.map (some g1)), pl 39 (.slice A2 guess1.length c2), pl 40 (.int .i64 (guess1.length : Int)), pl 41 (.int .i64 z2)] a ∧ Sep w0 B w (own 5 (.slice A3 (Int.toNat (guess1.length : Int)) c3) ((List.map (Value.int .u8) out6)) :: mapH kf21 (Value.int .i64) g1 left5 :: fs) ∧ ((words_hint_J6 z2) out6 left5).bind φ2 = some r) ?_ ?_
        · rintro a w ⟨out6, left5, hF, hS, hm⟩
          unfold words_hint_J6 at hm
          refine reg1 [] [] [5, 6, 39, 40, 41] [pl 5 (.slice A3 (Int.toNat (guess1.length : Int)) c3), pl 6 (.map (some g1)), pl 39 (.slice A2 guess1.length c2), pl 40 (.int .i64 (guess1.length : Int)), pl 41 (.int .i64 (w64 (z2 + 1)))] hF hS Fol (by kernel_rfl) (by kernel_rfl) (by kernel_rfl) ?_ (fun a w hF hS => ?_)
          · exact obs_nil
          refine then_n ?_
          rw [← hφ2] at hm
          exact ⟨(out6, left5, (w64 (z2 + 1))), ⟨hF.weak [5, 6, 39, 40, 41] (by kernel_rfl), hS⟩, hm⟩
        · refine wpIn_block ?_
          obtain ⟨hp6, hm⟩ := asrt_b hm
          refine reg [⟨true, [], vS (Instr.indexAt 79 (.slice A2 guess1.length c2) (.int .i64 z2)), .pointer (some (sAddr A2 z2))⟩, ⟨false, [], vS (Instr.loadAt 21 (.pointer (some (sAddr A2 z2)))), .int .i32 (getd (0 : Int) guess1 z2)⟩] [none, some (.pointer (some (sAddr A2 z2))), some (.int .i32 (getd (0 : Int) guess1 z2)), none, none] [5, 6, 9, 10, 39, 40, 41] [pl 5 (.slice A3 (Int.toNat (guess1.length : Int)) c3), pl 6 (.map (some g1)), pl 9 (.int .i64 z2), pl 10 (.int .i32 (getd (0 : Int) guess1 z2)), pl 39 (.slice A2 guess1.length c2), pl 40 (.int .i64 (guess1.length : Int)), pl 41 (.int .i64 z2)] hF hS Fol (by kernel_rfl) (by kernel_rfl) (by kernel_rfl) ?_ (fun a w hF hS => ?_)
          · exact obs_cons (ob_ix1 (f := (Value.int .i32)) (m := guess1) Und79 hi21 hs21 (hr_guess1 _ (hS.dropN 2)) rfl (fun _ => hp6)) <| obs_cons (ob_get1 (n := guess1.length) (m := guess1) (Value.int .i32) (0 : Int) Agg21 (fun _ hS => ⟨_, (hr_guess1 _ (hS.dropN 2))⟩) (fun _ hS => rfl) (fun _ => hp6)) <| obs_nil
          refine seq_cut (fun a w => ∃ (z3 : Bool), Fr 67 [pl 5 (.slice A3 (Int.toNat (guess1.length : Int)) c3), pl 6 (.map (some g1)), pl 9 (.int .i64 z2), pl 10 (.int .i32 (getd (0 : Int) guess1 z2)), pl 39 (.slice A2 guess1.length c2), pl 40 (.int .i64 (guess1.length : Int)), pl 41 (.int .i64 z2), pl 56 (.bool z3)] a ∧ Sep w0 B w (own 5 (.slice A3 (Int.toNat (guess1.length : Int)) c3) ((List.map (Value.int .u8) out4)) :: mapH kf21 (Value.int .i64) g1 left4 :: fs) ∧ ((words_hint_J7 guess1 out4 left4 z2) z3).bind φ2 = some r) ?_ ?_
          · rintro a w ⟨z3, hF, hS, hm⟩
            unfold words_hint_J7 at hm
            refine cond_ev (t := 56) (b := z3) hF (by kernel_rfl) (fun hb => ?_) (fun hb => ?_)
            · replace hm := if_t hm hb
              refine seqR ?_
              obtain ⟨hp8, hm⟩ := asrt_b hm
              refine at_run 3 [⟨true, [], vS (Instr.indexAt 112 (.slice A3 (Int.toNat (guess1.length : Int)) c3) (.int .i64 z2)), .pointer (some (sAddr A3 z2))⟩] [none, none, some (.pointer (some (sAddr A3 z2)))] [5, 6, 10, 39, 40, 41, 59] [pl 5 (.slice A3 (Int.toNat (guess1.length : Int)) c3), pl 6 (.map (some g1)), pl 10 (.int .i32 (getd (0 : Int) guess1 z2)), pl 39 (.slice A2 guess1.length c2), pl 40 (.int .i64 (guess1.length : Int)), pl 41 (.int .i64 z2), pl 59 (.pointer (some (sAddr A3 z2)))] hF hS (by kernel_rfl) (by kernel_rfl) ?_ (fun a w hF hS => ?_)
              · exact obs_cons (ob_ix1 (f := (Value.int .u8)) (m := out4) Und112 hi5 hs5 (hS.at_ 0 rfl).rd ((hS.at_ 0 rfl).len1) (fun _ => hp8)) <| obs_nil
              obtain ⟨w, hrun, hS⟩ := run_set1 (P := Tryd.prog) (t := 5) (x := 121) (Value.int .u8) (hS.at_ 0 rfl) hi5 hs5 rfl rfl hp8
              refine at_skip hF (by kernel_rfl) hrun ?_
              have hS : Sep w0 B w (own 5 (.slice A3 (Int.toNat (guess1.length : Int)) c3) ((List.map (Value.int .u8) (out4.set (Int.toNat z2) 121))) :: mapH kf21 (Value.int .i64) g1 left4 :: fs) := hS
              refine at_end [5, 6, 10, 39, 40, 41] [pl 5 (.slice A3 (Int.toNat (guess1.length : Int)) c3), pl 6 (.map (some g1)), pl 10 (.int .i32 (getd (0 : Int) guess1 z2)), pl 39 (.slice A2 guess1.length c2), pl 40 (.int .i64 (guess1.length : Int)), pl 41 (.int .i64 z2)] hF rfl (by kernel_rfl) (fun hF => ?_)
              refine then_n ?_
              refine oneR ?_
              refine at_run 4 [⟨false, [], vS (Instr.lookup 99 (.map (some g1)) (.int .i32 (getd (0 : Int) guess1 z2)) false), .int .i64 (mget (0 : Int) (getd (0 : Int) guess1 z2) left4)⟩] [none, none, some (.int .i64 (mget (0 : Int) (getd (0 : Int) guess1 z2) left4)), none] [5, 6, 39, 40, 41, 60, 61, 63] [pl 5 (.slice A3 (Int.toNat (guess1.length : Int)) c3), pl 6 (.map (some g1)), pl 39 (.slice A2 guess1.length c2), pl 40 (.int .i64 (guess1.length : Int)), pl 41 (.int .i64 z2), pl 60 (.map (some g1)), pl 61 (.int .i32 (getd (0 : Int) guess1 z2)), pl 63 (.int .i64 (w64 ((mget (0 : Int) (getd (0 : Int) guess1 z2) left4) - 1)))] hF hS (by kernel_rfl) (by kernel_rfl) ?_ (fun a w hF hS => ?_)
              · exact obs_cons (ob_look (k := (getd (0 : Int) guess1 z2)) (m := left4) MK21 UndM99 (z := (0 : Int)) MZ3 (fun _ hS => ⟨_, _, _, _, hS.at_ 1 rfl⟩)) <| obs_nil
              obtain ⟨w, hrun, hS⟩ := run_mput (P := Tryd.prog) (t := 99) (vf := (Value.int .i64)) MK21 UndM99 (getd (0 : Int) guess1 z2) (w64 ((mget (0 : Int) (getd (0 : Int) guess1 z2) left4) - 1)) (hS.at_ 1 rfl)
              refine at_skip hF (by kernel_rfl) hrun ?_
              have hS : Sep w0 B w (own 5 (.slice A3 (Int.toNat (guess1.length : Int)) c3) ((List.map (Value.int .u8) (out4.set (Int.toNat z2) 121))) :: mapH kf21 (Value.int .i64) g1 (mput (getd (0 : Int) guess1 z2) (w64 ((mget (0 : Int) (getd (0 : Int) guess1 z2) left4) - 1)) left4) :: fs) := hS
              refine at_end [5, 6, 39, 40, 41] [pl 5 (.slice A3 (Int.toNat (guess1.length : Int)) c3), pl 6 (.map (some g1)), pl 39 (.slice A2 guess1.length c2), pl 40 (.int .i64 (guess1.length : Int)), pl 41 (.int .i64 z2)] hF rfl (by kernel_rfl) (fun hF => ?_)
              refine block_n ?_
              refine then_n ?_
              exact ⟨(out4.set (Int.toNat z2) 121), (mput (getd (0 : Int) guess1 z2) (w64 ((mget (0 : Int) (getd (0 : Int) guess1 z2) left4) - 1)) left4), hF.weak [5, 6, 39, 40, 41] (by kernel_rfl), hS, hm⟩
            · replace hm := if_f hm hb
              refine wpIn_skip ?_
              refine block_n ?_
              refine then_n ?_
              exact ⟨out4, left4, hF.weak [5, 6, 39, 40, 41] (by kernel_rfl), hS, hm⟩
          · refine oneR ?_
            obtain ⟨hp7, hm⟩ := asrt_b hm
            refine at_run 8 [⟨true, [], vS (Instr.indexAt 112 (.slice A3 (Int.toNat (guess1.length : Int)) c3) (.int .i64 z2)), .pointer (some (sAddr A3 z2))⟩, ⟨false, [], vS (Instr.loadAt 5 (.pointer (some (sAddr A3 z2)))), .int .u8 (getd (0 : Int) out4 z2)⟩] [none, none, some (.pointer (some (sAddr A3 z2))), some (.int .u8 (getd (0 : Int) out4 z2)), none, none, none, none] [5, 6, 9, 10, 39, 40, 41, 51, 52, 53] [pl 5 (.slice A3 (Int.toNat (guess1.length : Int)) c3), pl 6 (.map (some g1)), pl 9 (.int .i64 z2), pl 10 (.int .i32 (getd (0 : Int) guess1 z2)), pl 39 (.slice A2 guess1.length c2), pl 40 (.int .i64 (guess1.length : Int)), pl 41 (.int .i64 z2), pl 51 (.bool ((getd (0 : Int) out4 z2) == 46)), ⟨52, [(51, true)], .map (some g1)⟩, ⟨53, [(51, true)], .int .i32 (getd (0 : Int) guess1 z2)⟩] hF hS (by kernel_rfl) (by kernel_rfl) ?_ (fun a w hF hS => ?_)
            · exact obs_cons (ob_ix1 (f := (Value.int .u8)) (m := out4) Und112 hi5 hs5 (hS.at_ 0 rfl).rd ((hS.at_ 0 rfl).len1) (fun _ => hp7)) <| obs_cons (ob_get1 (n := (Int.toNat (guess1.length : Int))) (m := out4) (Value.int .u8) (0 : Int) Agg5 (fun _ hS => ⟨_, (hS.at_ 0 rfl).rd⟩) (fun _ hS => ((hS.at_ 0 rfl).len1)) (fun _ => hp7)) <| obs_nil
            rcases Bool.eq_false_or_eq_true ((getd (0 : Int) out4 z2) == 46) with hg1 | hg1
            · replace hm := if_t hm hg1
              refine at_run 3 [⟨false, [(((getd (0 : Int) out4 z2) == 46), true)], vS (Instr.lookup 99 (.map (some g1)) (.int .i32 (getd (0 : Int) guess1 z2)) false), .int .i64 (mget (0 : Int) (getd (0 : Int) guess1 z2) left4)⟩] [some (.int .i64 (mget (0 : Int) (getd (0 : Int) guess1 z2) left4)), none, none] [5, 6, 9, 10, 39, 40, 41, 56] [pl 5 (.slice A3 (Int.toNat (guess1.length : Int)) c3), pl 6 (.map (some g1)), pl 9 (.int .i64 z2), pl 10 (.int .i32 (getd (0 : Int) guess1 z2)), pl 39 (.slice A2 guess1.length c2), pl 40 (.int .i64 (guess1.length : Int)), pl 41 (.int .i64 z2), pl 56 (.bool (((getd (0 : Int) out4 z2) == 46) && (decide ((0 : Int) < (mget (0 : Int) (getd (0 : Int) guess1 z2) left4)))))] hF hS (by kernel_rfl) (by kernel_rfl) ?_ (fun a w hF hS => ?_)
              · exact obs_cons (ob_look (k := (getd (0 : Int) guess1 z2)) (m := left4) MK21 UndM99 (z := (0 : Int)) MZ3 (fun _ hS => ⟨_, _, _, _, hS.at_ 1 rfl⟩)) <| obs_nil
              refine at_end [5, 6, 9, 10, 39, 40, 41, 56] [pl 5 (.slice A3 (Int.toNat (guess1.length : Int)) c3), pl 6 (.map (some g1)), pl 9 (.int .i64 z2), pl 10 (.int .i32 (getd (0 : Int) guess1 z2)), pl 39 (.slice A2 guess1.length c2), pl 40 (.int .i64 (guess1.length : Int)), pl 41 (.int .i64 z2), pl 56 (.bool (((getd (0 : Int) out4 z2) == 46) && (decide ((0 : Int) < (mget (0 : Int) (getd (0 : Int) guess1 z2) left4)))))] hF rfl (by kernel_rfl) (fun hF => ?_)
              refine then_n ?_
              exact ⟨(((getd (0 : Int) out4 z2) == 46) && (decide ((0 : Int) < (mget (0 : Int) (getd (0 : Int) guess1 z2) left4)))), hF.weak [5, 6, 9, 10, 39, 40, 41, 56] (by kernel_rfl), hS, hm⟩
            · replace hm := if_f hm hg1
              refine at_gskip (d := 54) (v := .int .i64 0) (hs := [(((getd (0 : Int) out4 z2) == 46), true)]) (ctx := [(51, true)]) hF (by kernel_rfl) (by kernel_rfl) (fun h => absurd (h (((getd (0 : Int) out4 z2) == 46), true) (by simp)) (by first | exact fun hz => Bool.noConfusion (Eq.trans (Eq.symm hg1) hz) | simp [hg1])) (fun a hF => ?_)
              refine at_run 2 [] [] [5, 6, 9, 10, 39, 40, 41, 56] [pl 5 (.slice A3 (Int.toNat (guess1.length : Int)) c3), pl 6 (.map (some g1)), pl 9 (.int .i64 z2), pl 10 (.int .i32 (getd (0 : Int) guess1 z2)), pl 39 (.slice A2 guess1.length c2), pl 40 (.int .i64 (guess1.length : Int)), pl 41 (.int .i64 z2), pl 56 (.bool (((getd (0 : Int) out4 z2) == 46) && (decide ((0 : Int) < 0))))] hF hS (by kernel_rfl) (by kernel_rfl) ?_ (fun a w hF hS => ?_)
              · exact obs_nil
              refine at_end [5, 6, 9, 10, 39, 40, 41, 56] [pl 5 (.slice A3 (Int.toNat (guess1.length : Int)) c3), pl 6 (.map (some g1)), pl 9 (.int .i64 z2), pl 10 (.int .i32 (getd (0 : Int) guess1 z2)), pl 39 (.slice A2 guess1.length c2), pl 40 (.int .i64 (guess1.length : Int)), pl 41 (.int .i64 z2), pl 56 (.bool (((getd (0 : Int) out4 z2) == 46) && (decide ((0 : Int) < 0))))] hF rfl (by kernel_rfl) (fun hF => ?_)
              refine then_n ?_
              exact ⟨(((getd (0 : Int) out4 z2) == 46) && (decide ((0 : Int) < 0))), hF.weak [5, 6, 9, 10, 39, 40, 41, 56] (by kernel_rfl), hS, hm⟩
      · refine cond_ev (t := 42) (b := decide (z2 < (guess1.length : Int))) hF (by kernel_rfl) (fun hb => ?_) (fun hb => ?_)
        · replace hm := if_t hm hb
          refine wpIn_skip ?_
          refine then_n ?_
          exact ⟨hF.weak [5, 6, 39, 40, 41] (by kernel_rfl), hS, hm⟩
        · replace hm := if_f hm hb
          refine wpIn_exit ?_
          refine then_e (then_e (block_e (then_n ?_)))
          have hS := hS.pickN 2 [0] (by decide)
          rw [← hφ2] at hm
          replace hm := done_b hm
          unfold words_hint_K2 at hm
          try dsimp only at hm
          have hm : (words_hint_J4 out4).bind some = some r := hm
          exact ⟨out4, hF.weak [5] (by kernel_rfl), hS, hm⟩
  · refine reg [] [] [1, 5, 6, 15, 16, 17] [pl 1 (.slice A2 guess1.length c2), pl 5 (.slice A3 (Int.toNat (guess1.length : Int)) c3), pl 6 (.map (some g1)), pl 15 (.slice A1 secret1.length c1), pl 16 (.int .i64 (secret1.length : Int)), pl 17 (.int .i64 0)] hF hS Fol (by kernel_rfl) (by kernel_rfl) (by kernel_rfl) ?_ (fun a w hF hS => ?_)
    · exact obs_nil
    refine wpIn_block ?_
    have hS := hS.pickN 2 [1, 0] (by decide)
    refine wp_loop_model (S := (List Int × List (Int × Int) × Int)) (R := (List Int × List (Int × Int))) (words_hint_L1 secret1 guess1) (fun x => ((words_hint_K1 guess1) x).bind some) r (fun (x : (List Int × List (Int × Int) × Int)) a w => Fr 67 [pl 1 (.slice A2 guess1.length c2), pl 5 (.slice A3 (Int.toNat (guess1.length : Int)) c3), pl 6 (.map (some g1)), pl 15 (.slice A1 secret1.length c1), pl 16 (.int .i64 (secret1.length : Int)), pl 17 (.int .i64 x.2.2)] a ∧ Sep w0 B w (own 5 (.slice A3 (Int.toNat (guess1.length : Int)) c3) ((List.map (Value.int .u8) x.1)) :: mapH kf21 (Value.int .i64) g1 x.2.1 :: fs)) (assoc_b hm) ⟨hF.weak [1, 5, 6, 15, 16, 17] (by kernel_rfl), hS⟩ ?_
    clear hF hS hm
    rintro nn1 ⟨out1, left1, z1⟩ a w ⟨hF, hS⟩ hm
    generalize hφ1 : stK (words_hint_L1 secret1 guess1) nn1 (fun x => ((words_hint_K1 guess1) x).bind some) = φ1 at hm
    unfold words_hint_L1 at hm
    dsimp only at hF hS hm
    refine reg [] [] [1, 5, 6, 15, 16, 17, 18] [pl 1 (.slice A2 guess1.length c2), pl 5 (.slice A3 (Int.toNat (guess1.length : Int)) c3), pl 6 (.map (some g1)), pl 15 (.slice A1 secret1.length c1), pl 16 (.int .i64 (secret1.length : Int)), pl 17 (.int .i64 z1), pl 18 (.bool (decide (z1 < (secret1.length : Int))))] hF hS Fol (by kernel_rfl) (by kernel_rfl) (by kernel_rfl) ?_ (fun a w hF hS => ?_)
    · exact obs_nil
    refine seq_cut (fun a w => Fr 67 [pl 1 (.slice A2 guess1.length c2), pl 5 (.slice A3 (Int.toNat (guess1.length : Int)) c3), pl 6 (.map (some g1)), pl 15 (.slice A1 secret1.length c1), pl 16 (.int .i64 (secret1.length : Int)), pl 17 (.int .i64 z1)] a ∧ Sep w0 B w (own 5 (.slice A3 (Int.toNat (guess1.length : Int)) c3) ((List.map (Value.int .u8) out1)) :: mapH kf21 (Value.int .i64) g1 left1 :: fs) ∧ ((words_hint_J2 secret1 guess1 out1 left1 z1)).bind φ1 = some r) ?_ ?_
    · rintro a w ⟨hF, hS, hm⟩
      unfold words_hint_J2 at hm
      refine seq_cut (fun a w => ∃ (out3 : List Int) (left3 : List (Int × Int)), Fr 67 [pl 1 (.slice A2 guess1.length c2), pl 5 (.slice A3 (Int.toNat (guess1.length : Int)) c3), pl 6 (.map (some g1)), pl 15 (.slice A1 secret1.length c1), pl 16 (.int .i64 (secret1.length : Int)), pl 17 (.int .i64 z1)] a ∧ Sep w0 B w (own 5 (.slice A3 (Int.toNat (guess1.length : Int)) c3) ((List.map (Value.int .u8) out3)) :: mapH kf21 (Value.int .i64) g1 left3 :: fs) ∧ ((words_hint_J3 z1) out3 left3).bind φ1 = some r) ?_ ?_
      · rintro a w ⟨out3, left3, hF, hS, hm⟩
        unfold words_hint_J3 at hm
        refine reg1 [] [] [1, 5, 6, 15, 16, 17] [pl 1 (.slice A2 guess1.length c2), pl 5 (.slice A3 (Int.toNat (guess1.length : Int)) c3), pl 6 (.map (some g1)), pl 15 (.slice A1 secret1.length c1), pl 16 (.int .i64 (secret1.length : Int)), pl 17 (.int .i64 (w64 (z1 + 1)))] hF hS Fol (by kernel_rfl) (by kernel_rfl) (by kernel_rfl) ?_ (fun a w hF hS => ?_)
        · exact obs_nil
        refine then_n ?_
        rw [← hφ1] at hm
        exact ⟨(out3, left3, (w64 (z1 + 1))), ⟨hF.weak [1, 5, 6, 15, 16, 17] (by kernel_rfl), hS⟩, hm⟩
      · refine wpIn_block ?_
        obtain ⟨hp2, hm⟩ := asrt_b hm
        refine reg [⟨true, [], vS (Instr.indexAt 79 (.slice A1 secret1.length c1) (.int .i64 z1)), .pointer (some (sAddr A1 z1))⟩, ⟨false, [], vS (Instr.loadAt 21 (.pointer (some (sAddr A1 z1)))), .int .i32 (getd (0 : Int) secret1 z1)⟩] [none, some (.pointer (some (sAddr A1 z1))), some (.int .i32 (getd (0 : Int) secret1 z1)), none, none] [1, 5, 6, 7, 8, 15, 16, 17] [pl 1 (.slice A2 guess1.length c2), pl 5 (.slice A3 (Int.toNat (guess1.length : Int)) c3), pl 6 (.map (some g1)), pl 7 (.int .i64 z1), pl 8 (.int .i32 (getd (0 : Int) secret1 z1)), pl 15 (.slice A1 secret1.length c1), pl 16 (.int .i64 (secret1.length : Int)), pl 17 (.int .i64 z1)] hF hS Fol (by kernel_rfl) (by kernel_rfl) (by kernel_rfl) ?_ (fun a w hF hS => ?_)
        · exact obs_cons (ob_ix1 (f := (Value.int .i32)) (m := secret1) Und79 hi21 hs21 (hr_secret1 _ (hS.dropN 2)) rfl (fun _ => hp2)) <| obs_cons (ob_get1 (n := secret1.length) (m := secret1) (Value.int .i32) (0 : Int) Agg21 (fun _ hS => ⟨_, (hr_secret1 _ (hS.dropN 2))⟩) (fun _ hS => rfl) (fun _ => hp2)) <| obs_nil
        refine seqR ?_
        obtain ⟨hp3, hm⟩ := asrt_b hm
        refine at_run 3 [⟨true, [], vS (Instr.indexAt 112 (.slice A3 (Int.toNat (guess1.length : Int)) c3) (.int .i64 z1)), .pointer (some (sAddr A3 z1))⟩] [none, none, some (.pointer (some (sAddr A3 z1)))] [1, 5, 6, 7, 8, 15, 16, 17, 24] [pl 1 (.slice A2 guess1.length c2), pl 5 (.slice A3 (Int.toNat (guess1.length : Int)) c3), pl 6 (.map (some g1)), pl 7 (.int .i64 z1), pl 8 (.int .i32 (getd (0 : Int) secret1 z1)), pl 15 (.slice A1 secret1.length c1), pl 16 (.int .i64 (secret1.length : Int)), pl 17 (.int .i64 z1), pl 24 (.pointer (some (sAddr A3 z1)))] hF hS (by kernel_rfl) (by kernel_rfl) ?_ (fun a w hF hS => ?_)
        · exact obs_cons (ob_ix1 (f := (Value.int .u8)) (m := out1) Und112 hi5 hs5 (hS.at_ 0 rfl).rd ((hS.at_ 0 rfl).len1) (fun _ => hp3)) <| obs_nil
        obtain ⟨w, hrun, hS⟩ := run_set1 (P := Tryd.prog) (t := 5) (x := 46) (Value.int .u8) (hS.at_ 0 rfl) hi5 hs5 rfl rfl hp3
        refine at_skip hF (by kernel_rfl) hrun ?_
        have hS : Sep w0 B w (own 5 (.slice A3 (Int.toNat (guess1.length : Int)) c3) ((List.map (Value.int .u8) (out1.set (Int.toNat z1) 46))) :: mapH kf21 (Value.int .i64) g1 left1 :: fs) := hS
        refine at_end [1, 5, 6, 7, 8, 15, 16, 17] [pl 1 (.slice A2 guess1.length c2), pl 5 (.slice A3 (Int.toNat (guess1.length : Int)) c3), pl 6 (.map (some g1)), pl 7 (.int .i64 z1), pl 8 (.int .i32 (getd (0 : Int) secret1 z1)), pl 15 (.slice A1 secret1.length c1), pl 16 (.int .i64 (secret1.length : Int)), pl 17 (.int .i64 z1)] hF rfl (by kernel_rfl) (fun hF => ?_)
        refine then_n ?_
        obtain ⟨hp4, hm⟩ := asrt_b hm
        refine reg [⟨true, [], vS (Instr.indexAt 79 (.slice A2 guess1.length c2) (.int .i64 z1)), .pointer (some (sAddr A2 z1))⟩, ⟨false, [], vS (Instr.loadAt 21 (.pointer (some (sAddr A2 z1)))), .int .i32 (getd (0 : Int) guess1 z1)⟩] [none, none, some (.pointer (some (sAddr A2 z1))), some (.int .i32 (getd (0 : Int) guess1 z1)), none, none] [1, 5, 6, 7, 8, 15, 16, 17, 30] [pl 1 (.slice A2 guess1.length c2), pl 5 (.slice A3 (Int.toNat (guess1.length : Int)) c3), pl 6 (.map (some g1)), pl 7 (.int .i64 z1), pl 8 (.int .i32 (getd (0 : Int) secret1 z1)), pl 15 (.slice A1 secret1.length c1), pl 16 (.int .i64 (secret1.length : Int)), pl 17 (.int .i64 z1), pl 30 (.bool ((getd (0 : Int) guess1 z1) == (getd (0 : Int) secret1 z1)))] hF hS Fol (by kernel_rfl) (by kernel_rfl) (by kernel_rfl) ?_ (fun a w hF hS => ?_)
        · exact obs_cons (ob_ix1 (f := (Value.int .i32)) (m := guess1) Und79 hi21 hs21 (hr_guess1 _ (hS.dropN 2)) rfl (fun _ => hp4)) <| obs_cons (ob_get1 (n := guess1.length) (m := guess1) (Value.int .i32) (0 : Int) Agg21 (fun _ hS => ⟨_, (hr_guess1 _ (hS.dropN 2))⟩) (fun _ hS => rfl) (fun _ => hp4)) <| obs_nil
        refine cond_ev (t := 30) (b := ((getd (0 : Int) guess1 z1) == (getd (0 : Int) secret1 z1))) hF (by kernel_rfl) (fun hb => ?_) (fun hb => ?_)
        · replace hm := if_t hm hb
          refine oneR ?_
          obtain ⟨hp5, hm⟩ := asrt_b hm
          refine at_run 3 [⟨true, [], vS (Instr.indexAt 112 (.slice A3 (Int.toNat (guess1.length : Int)) c3) (.int .i64 z1)), .pointer (some (sAddr A3 z1))⟩] [none, none, some (.pointer (some (sAddr A3 z1)))] [1, 5, 6, 15, 16, 17, 33] [pl 1 (.slice A2 guess1.length c2), pl 5 (.slice A3 (Int.toNat (guess1.length : Int)) c3), pl 6 (.map (some g1)), pl 15 (.slice A1 secret1.length c1), pl 16 (.int .i64 (secret1.length : Int)), pl 17 (.int .i64 z1), pl 33 (.pointer (some (sAddr A3 z1)))] hF hS (by kernel_rfl) (by kernel_rfl) ?_ (fun a w hF hS => ?_)
          · exact obs_cons (ob_ix1 (f := (Value.int .u8)) (m := (out1.set (Int.toNat z1) 46)) Und112 hi5 hs5 (hS.at_ 0 rfl).rd ((hS.at_ 0 rfl).len1) (fun _ => hp5)) <| obs_nil
          obtain ⟨w, hrun, hS⟩ := run_set1 (P := Tryd.prog) (t := 5) (x := 103) (Value.int .u8) (hS.at_ 0 rfl) hi5 hs5 rfl rfl hp5
          refine at_skip hF (by kernel_rfl) hrun ?_
          have hS : Sep w0 B w (own 5 (.slice A3 (Int.toNat (guess1.length : Int)) c3) ((List.map (Value.int .u8) ((out1.set (Int.toNat z1) 46).set (Int.toNat z1) 103))) :: mapH kf21 (Value.int .i64) g1 left1 :: fs) := hS
          refine at_end [1, 5, 6, 15, 16, 17] [pl 1 (.slice A2 guess1.length c2), pl 5 (.slice A3 (Int.toNat (guess1.length : Int)) c3), pl 6 (.map (some g1)), pl 15 (.slice A1 secret1.length c1), pl 16 (.int .i64 (secret1.length : Int)), pl 17 (.int .i64 z1)] hF rfl (by kernel_rfl) (fun hF => ?_)
          refine block_n ?_
          refine then_n ?_
          exact ⟨((out1.set (Int.toNat z1) 46).set (Int.toNat z1) 103), left1, hF.weak [1, 5, 6, 15, 16, 17] (by kernel_rfl), hS, hm⟩
        · replace hm := if_f hm hb
          refine oneR ?_
          refine at_run 4 [⟨false, [], vS (Instr.lookup 99 (.map (some g1)) (.int .i32 (getd (0 : Int) secret1 z1)) false), .int .i64 (mget (0 : Int) (getd (0 : Int) secret1 z1) left1)⟩] [none, none, some (.int .i64 (mget (0 : Int) (getd (0 : Int) secret1 z1) left1)), none] [1, 5, 6, 15, 16, 17, 34, 35, 37] [pl 1 (.slice A2 guess1.length c2), pl 5 (.slice A3 (Int.toNat (guess1.length : Int)) c3), pl 6 (.map (some g1)), pl 15 (.slice A1 secret1.length c1), pl 16 (.int .i64 (secret1.length : Int)), pl 17 (.int .i64 z1), pl 34 (.map (some g1)), pl 35 (.int .i32 (getd (0 : Int) secret1 z1)), pl 37 (.int .i64 (w64 ((mget (0 : Int) (getd (0 : Int) secret1 z1) left1) + 1)))] hF hS (by kernel_rfl) (by kernel_rfl) ?_ (fun a w hF hS => ?_)
          · exact obs_cons (ob_look (k := (getd (0 : Int) secret1 z1)) (m := left1) MK21 UndM99 (z := (0 : Int)) MZ3 (fun _ hS => ⟨_, _, _, _, hS.at_ 1 rfl⟩)) <| obs_nil
          obtain ⟨w, hrun, hS⟩ := run_mput (P := Tryd.prog) (t := 99) (vf := (Value.int .i64)) MK21 UndM99 (getd (0 : Int) secret1 z1) (w64 ((mget (0 : Int) (getd (0 : Int) secret1 z1) left1) + 1)) (hS.at_ 1 rfl)
          refine at_skip hF (by kernel_rfl) hrun ?_
          have hS : Sep w0 B w (own 5 (.slice A3 (Int.toNat (guess1.length : Int)) c3) ((List.map (Value.int .u8) (out1.set (Int.toNat z1) 46))) :: mapH kf21 (Value.int .i64) g1 (mput (getd (0 : Int) secret1 z1) (w64 ((mget (0 : Int) (getd (0 : Int) secret1 z1) left1) + 1)) left1) :: fs) := hS
          refine at_end [1, 5, 6, 15, 16, 17] [pl 1 (.slice A2 guess1.length c2), pl 5 (.slice A3 (Int.toNat (guess1.length : Int)) c3), pl 6 (.map (some g1)), pl 15 (.slice A1 secret1.length c1), pl 16 (.int .i64 (secret1.length : Int)), pl 17 (.int .i64 z1)] hF rfl (by kernel_rfl) (fun hF => ?_)
          refine block_n ?_
          refine then_n ?_
          exact ⟨(out1.set (Int.toNat z1) 46), (mput (getd (0 : Int) secret1 z1) (w64 ((mget (0 : Int) (getd (0 : Int) secret1 z1) left1) + 1)) left1), hF.weak [1, 5, 6, 15, 16, 17] (by kernel_rfl), hS, hm⟩
    · refine cond_ev (t := 18) (b := decide (z1 < (secret1.length : Int))) hF (by kernel_rfl) (fun hb => ?_) (fun hb => ?_)
      · replace hm := if_t hm hb
        refine wpIn_skip ?_
        refine then_n ?_
        exact ⟨hF.weak [1, 5, 6, 15, 16, 17] (by kernel_rfl), hS, hm⟩
      · replace hm := if_f hm hb
        refine wpIn_exit ?_
        refine then_e (then_e (block_e (then_n ?_)))
        rw [← hφ1] at hm
        replace hm := done_b hm
        unfold words_hint_K1 at hm
        try dsimp only at hm
        have hm : ((words_hint_J1 guess1) out1 left1).bind some = some r := hm
        exact ⟨out1, left1, hF.weak [1, 5, 6] (by kernel_rfl), hS, hm⟩

noncomputable def words_Hint_J2  (secret1 : List UInt8) (guess1 : List UInt8) : Option (List UInt8 × Int) :=
  (words_hint_m (runesL secret1) (runesL guess1)).bind fun r3 => some (r3, 0)

noncomputable def words_Hint_J1  (secret1 : List UInt8) (guess1 : List UInt8) : Option (List UInt8 × Int) :=
  asrt (((secret1.length : Int) ≤ bigN)) <| asrt (((guess1.length : Int) ≤ bigN)) <| if ((((runesL secret1).length : Nat) : Int) != (((runesL guess1).length : Nat) : Int)) then (some (([] : List UInt8), 11)) else ((words_Hint_J2 secret1 guess1))

noncomputable def words_Hint_m  (secret1 : List UInt8) (guess1 : List UInt8) : Option (List UInt8 × Int) :=
  (words_word_m secret1).bind fun r1 => ((if (!(!r1)) then words_word_m guess1 else some false)).bind fun r2 => if ((!r1) || (!r2)) then (some (([] : List UInt8), 14)) else ((words_Hint_J1 secret1 guess1))

set_option maxRecDepth 100000 in
set_option maxHeartbeats 4000000 in
theorem words_Hint_w  {secret1 : List UInt8} {guess1 : List UInt8} {r : (List UInt8 × Int)} {w0 w : World} {B : Nat} {fs : List HP} [UTab 0 1 w0 B] (hm : words_Hint_m secret1 guess1 = some r) (hS : Sep w0 B w (fs)) :
    Calls Tryd.prog 9 #[strV secret1, strV guess1] w fun e w' => e = .returned (.tuple #[strV r.1, .int .i64 r.2]) ∧ Sep w0 B w' (fs) := by
  obtain ⟨i21, hi21, hz21, hs21, hb21⟩ := info_parts Info21
  unfold words_Hint_m at hm
  replace hm := start_b hm
  refine enter (l := [strV secret1, strV guess1]) (n := 28) Tryd.func9 rfl rfl (by simp) (fun a hF => ?_)
  refine reg [] [] [0, 1] [pl 0 (strV secret1), pl 1 (strV guess1)] hF hS Fol (by kernel_rfl) (by kernel_rfl) (by kernel_rfl) ?_ (fun a w hF hS => ?_)
  · exact obs_nil
  refine seq_cut (fun a w => Fr 28 [pl 0 (strV secret1), pl 1 (strV guess1)] a ∧ Sep w0 B w (fs) ∧ ((words_Hint_J1 secret1 guess1)).bind some = some r) ?_ ?_
  · rintro a w ⟨hF, hS, hm⟩
    unfold words_Hint_J1 at hm
    refine seqR ?_
    obtain ⟨hp1, hm⟩ := asrt_b hm
    obtain ⟨hp2, hm⟩ := asrt_b hm
    refine at_run 1 [] [] [1, 16] [pl 1 (strV guess1), pl 16 (strV secret1)] hF hS (by kernel_rfl) (by kernel_rfl) ?_ (fun a w hF hS => ?_)
    · exact obs_nil
    obtain ⟨A1, c1, w, hrun, hS⟩ := run_runesS (P := Tryd.prog) (src := 9) (dst := 79) (e := 21) (by kernel_rfl) (by kernel_rfl) (by kernel_rfl) secret1 hp1 hS
    refine at_do (d := 17) hF (by kernel_rfl) (by kernel_rfl) hrun (fun a hF => ?_)
    have hS : Sep w0 B w (own 21 (.slice A1 ((runesL secret1).length) c1) ((List.map (Value.int .i32) (runesL secret1))) :: fs) := hS
    refine at_run 1 [] [] [17, 18] [pl 17 (.slice A1 ((runesL secret1).length) c1), pl 18 (strV guess1)] hF hS (by kernel_rfl) (by kernel_rfl) ?_ (fun a w hF hS => ?_)
    · exact obs_nil
    obtain ⟨A2, c2, w, hrun, hS⟩ := run_runesS (P := Tryd.prog) (src := 9) (dst := 79) (e := 21) (by kernel_rfl) (by kernel_rfl) (by kernel_rfl) guess1 hp2 hS
    refine at_do (d := 19) hF (by kernel_rfl) (by kernel_rfl) hrun (fun a hF => ?_)
    have hS : Sep w0 B w (own 21 (.slice A2 ((runesL guess1).length) c2) ((List.map (Value.int .i32) (runesL guess1))) :: own 21 (.slice A1 ((runesL secret1).length) c1) ((List.map (Value.int .i32) (runesL secret1))) :: fs) := hS
    refine at_run 2 [] [] [6, 7] [pl 6 (.slice A1 ((runesL secret1).length) c1), pl 7 (.slice A2 ((runesL guess1).length) c2)] hF hS (by kernel_rfl) (by kernel_rfl) ?_ (fun a w hF hS => ?_)
    · exact obs_nil
    refine at_end [6, 7] [pl 6 (.slice A1 ((runesL secret1).length) c1), pl 7 (.slice A2 ((runesL guess1).length) c2)] hF rfl (by kernel_rfl) (fun hF => ?_)
    refine then_n ?_
    refine seq_cut (fun a w => Fr 28 [pl 6 (.slice A1 ((runesL secret1).length) c1), pl 7 (.slice A2 ((runesL guess1).length) c2)] a ∧ Sep w0 B w (own 21 (.slice A1 ((runesL secret1).length) c1) ((List.map (Value.int .i32) (runesL secret1))) :: own 21 (.slice A2 ((runesL guess1).length) c2) ((List.map (Value.int .i32) (runesL guess1))) :: fs) ∧ ((words_Hint_J2 secret1 guess1)).bind some = some r) ?_ ?_
    · rintro a w ⟨hF, hS, hm⟩
      unfold words_Hint_J2 at hm
      obtain ⟨r3, hr3, hm⟩ := call_b hm
      refine reg [⟨false, [], callFunc 51 #[.slice A1 ((runesL secret1).length) c1, .slice A2 ((runesL guess1).length) c2], strV r3⟩] [none, none, some (strV r3), none, none] [4, 5] [pl 4 (strV r3), pl 5 (.int .i64 0)] hF hS Fol (by kernel_rfl) (by kernel_rfl) (by kernel_rfl) ?_ (fun a w hF hS => ?_)
      · exact obs_cons (ob_call Tryd.func51 (by kernel_rfl) rfl (fun _ _ hS => words_hint_w hr3 hS (fun _ hS => (hS.at_ 0 rfl).rd) ((hS.at_ 0 rfl).cap1) rfl (fun _ hS => (hS.at_ 1 rfl).rd) ((hS.at_ 1 rfl).cap1) rfl)) <| obs_nil
      refine wpIn_ret ?_
      have hS := hS.pickN 2 [] (by decide)
      have hm : some (r3, 0) = some r := hm
      obtain rfl := Option.some.inj hm
      exact retV (rs := [.tmp 4, .tmp 5]) (vs := [strV r3, .int .i64 0]) hF rfl (rv_t (by kernel_rfl) <| rv_t (by kernel_rfl) <| rv_nil) rfl ⟨rfl, hS⟩
    · refine reg [] [] [6, 7, 24] [pl 6 (.slice A1 ((runesL secret1).length) c1), pl 7 (.slice A2 ((runesL guess1).length) c2), pl 24 (.bool ((((runesL secret1).length : Nat) : Int) != (((runesL guess1).length : Nat) : Int)))] hF hS Fol (by kernel_rfl) (by kernel_rfl) (by kernel_rfl) ?_ (fun a w hF hS => ?_)
      · exact obs_nil
      refine cond_ev (t := 24) (b := ((((runesL secret1).length : Nat) : Int) != (((runesL guess1).length : Nat) : Int))) hF (by kernel_rfl) (fun hb => ?_) (fun hb => ?_)
      · replace hm := if_t hm hb
        refine reg [] [] [4, 5] [pl 4 (strV ([] : List UInt8)), pl 5 (.int .i64 11)] hF hS Fol (by kernel_rfl) (by kernel_rfl) (by kernel_rfl) ?_ (fun a w hF hS => ?_)
        · exact obs_nil
        refine wpIn_ret ?_
        refine then_r ?_
        have hS := hS.pickN 2 [] (by decide)
        have hm : some (([] : List UInt8), 11) = some r := hm
        obtain rfl := Option.some.inj hm
        exact retV (rs := [.tmp 4, .tmp 5]) (vs := [strV ([] : List UInt8), .int .i64 11]) hF rfl (rv_t (by kernel_rfl) <| rv_t (by kernel_rfl) <| rv_nil) rfl ⟨rfl, hS⟩
      · replace hm := if_f hm hb
        refine wpIn_skip ?_
        refine then_n ?_
        have hS := hS.pickN 2 [1, 0] (by decide)
        exact ⟨hF.weak [6, 7] (by kernel_rfl), hS, hm⟩
  · obtain ⟨r1, hr1, hm⟩ := call_b hm
    obtain ⟨r2, hr2, hm⟩ := call_b hm
    refine reg [⟨false, [], callFunc 50 #[strV secret1], .bool r1⟩, ⟨false, [(!r1, false)], callFunc 50 #[strV guess1], .bool r2⟩] [none, some (.bool r1), none, none, none, some (.bool r2), none, none] [0, 1, 15] [pl 0 (strV secret1), pl 1 (strV guess1), pl 15 (.bool ((!r1) || (!r2)))] hF hS Fol (by kernel_rfl) (by kernel_rfl) (by kernel_rfl) ?_ (fun a w hF hS => ?_)
    · exact obs_cons (ob_call Tryd.func50 (by kernel_rfl) rfl (fun _ _ hS => words_word_w hr1 hS )) <| obs_cons (ob_call Tryd.func50 (by kernel_rfl) rfl (fun hy _ hS => words_word_w (ite_some hr2 (by rw [show (!r1) = false from hy (!r1, false) (by simp)]; try rfl)) hS )) <| obs_nil
    refine cond_ev (t := 15) (b := (!r1) || (!r2)) hF (by kernel_rfl) (fun hb => ?_) (fun hb => ?_)
    · replace hm := if_t hm hb
      refine reg [] [] [4, 5] [pl 4 (strV ([] : List UInt8)), pl 5 (.int .i64 14)] hF hS Fol (by kernel_rfl) (by kernel_rfl) (by kernel_rfl) ?_ (fun a w hF hS => ?_)
      · exact obs_nil
      refine wpIn_ret ?_
      refine then_r ?_
      have hm : some (([] : List UInt8), 14) = some r := hm
      obtain rfl := Option.some.inj hm
      exact retV (rs := [.tmp 4, .tmp 5]) (vs := [strV ([] : List UInt8), .int .i64 14]) hF rfl (rv_t (by kernel_rfl) <| rv_t (by kernel_rfl) <| rv_nil) rfl ⟨rfl, hS⟩
    · replace hm := if_f hm hb
      refine wpIn_skip ?_
      refine then_n ?_
      exact ⟨hF.weak [0, 1] (by kernel_rfl), hS, hm⟩

noncomputable def gameroomlaw_ints_m  (l1 : List Int) : Option (List Int) :=
  asrt ((0 : Int) + (l1.length : Int) ≤ bigN) <| some ([] ++ l1)

set_option maxRecDepth 100000 in
set_option maxHeartbeats 4000000 in
theorem gameroomlaw_ints_w  {A1 : Option Addr} {c1 : Nat} {n1 : Nat} {l1 : List Int} {r : (List Int)} {w0 w : World} {B : Nat} {fs : List HP} (hm : gameroomlaw_ints_m l1 = some r) (hS : Sep w0 B w (fs)) (hr_l1 : RdF w0 B fs A1 (vI l1)) (_hc_l1 : l1.length ≤ c1) (_hn_l1 : n1 = l1.length) :
    Calls Tryd.prog 11 #[.slice A1 n1 c1] w fun e w' => ∃ v, e = .returned v ∧ ∃ (A3 : Option Addr) (c3 : Nat), v = .slice A3 r.length c3 ∧ Sep w0 B w' (own 3 (.slice A3 r.length c3) (vI r) :: fs) := by
  obtain ⟨i3, hi3, hz3, hs3, hb3⟩ := info_parts Info3
  obtain rfl := _hn_l1
  unfold gameroomlaw_ints_m at hm
  replace hm := start_b hm
  refine enter (l := [.slice A1 l1.length c1]) (n := 5) Tryd.func11 rfl rfl (by simp) (fun a hF => ?_)
  refine reg [] [] [0] [pl 0 (.slice A1 l1.length c1)] hF hS Fol (by kernel_rfl) (by kernel_rfl) (by kernel_rfl) ?_ (fun a w hF hS => ?_)
  · exact obs_nil
  refine seqR ?_
  obtain ⟨hp1, hm⟩ := asrt_b hm
  refine at_run 1 [] [] [3] [pl 3 (.slice A1 l1.length c1)] hF hS (by kernel_rfl) (by kernel_rfl) ?_ (fun a w hF hS => ?_)
  · exact obs_nil
  have hS : Sep w0 B w (own 3 (.slice none 0 0) (vI ([] : List Int)) :: fs) := hS.nil 3
  obtain ⟨A2, c2, w, hrun, hS⟩ := run_app1 (P := Tryd.prog) (t := 22) (m := ([] : List Int)) (ys := l1) (A2 := A1) (m2 := l1.length) (c2 := c1) (Value.int .i64) (0 : Int) (hS.at_ 0 rfl) (hr_l1 _ (hS.dropN 1)) rfl 22 Und22 hi3 hz3 hs3 (by omega) rfl (fun _ => rfl) hp1
  have hS : Sep w0 B w (own 3 (.slice A2 (([] ++ l1).length) c2) (vI ([] ++ l1)) :: fs) := hS
  refine at_do (d := 4) hF (by kernel_rfl) (by kernel_rfl) hrun (fun a hF => ?_)
  refine at_run 1 [] [] [2] [pl 2 (.slice A2 (([] ++ l1).length) c2)] hF hS (by kernel_rfl) (by kernel_rfl) ?_ (fun a w hF hS => ?_)
  · exact obs_nil
  refine at_end [2] [pl 2 (.slice A2 (([] ++ l1).length) c2)] hF rfl (by kernel_rfl) (fun hF => ?_)
  refine then_n ?_
  refine wpIn_ret ?_
  have hm : some ([] ++ l1) = some r := hm
  obtain rfl := Option.some.inj hm
  exact retV (rs := [.tmp 2]) (vs := [.slice A2 (([] ++ l1).length) c2]) hF rfl (rv_t (by kernel_rfl) <| rv_nil) rfl ⟨_, rfl, A2, c2, rfl, hS⟩

noncomputable def words_Codes_J4  (z1 : Int) (left3 : List (Int × Int)) (same3 : Int) : Option (St (List (Int × Int) × Int × Int) (List (Int × Int) × Int)) :=
  some (.next (left3, same3, (w64 (z1 + 1))))

noncomputable def words_Codes_J3  (code1 : List Int) (guess1 : List Int) (left1 : List (Int × Int)) (same1 : Int) (z1 : Int) : Option (St (List (Int × Int) × Int × Int) (List (Int × Int) × Int)) :=
  asrt (0 ≤ z1 ∧ z1 < (code1.length : Int)) <| asrt (0 ≤ z1 ∧ z1 < (guess1.length : Int)) <| if ((geti guess1 z1) == (geti code1 z1)) then ((words_Codes_J4 z1) left1 (w64 (same1 + 1))) else ((words_Codes_J4 z1) (mput (geti code1 z1) (w64 ((mget (0 : Int) (geti code1 z1) left1) + 1)) left1) same1)

noncomputable def words_Codes_J7  (z2 : Int) (left5 : List (Int × Int)) (more3 : Int) : Option (St (List (Int × Int) × Int × Int) Int) :=
  some (.next (left5, more3, (w64 (z2 + 1))))

noncomputable def words_Codes_J8  (guess1 : List Int) (left4 : List (Int × Int)) (more1 : Int) (z2 : Int) (z3 : Bool) : Option (St (List (Int × Int) × Int × Int) Int) :=
  if z3 then ((words_Codes_J7 z2) (mput (geti guess1 z2) (w64 ((mget (0 : Int) (geti guess1 z2) left4) - 1)) left4) (w64 (more1 + 1))) else ((words_Codes_J7 z2) left4 more1)

noncomputable def words_Codes_J6  (code1 : List Int) (guess1 : List Int) (left4 : List (Int × Int)) (more1 : Int) (z2 : Int) : Option (St (List (Int × Int) × Int × Int) Int) :=
  asrt (0 ≤ z2 ∧ z2 < (guess1.length : Int)) <| asrt (0 ≤ z2 ∧ z2 < (code1.length : Int)) <| if ((geti code1 z2) != (geti guess1 z2)) then ((words_Codes_J8 guess1 left4 more1 z2) (((geti code1 z2) != (geti guess1 z2)) && (decide ((0 : Int) < (mget (0 : Int) (geti guess1 z2) left4))))) else ((words_Codes_J8 guess1 left4 more1 z2) (((geti code1 z2) != (geti guess1 z2)) && (decide ((0 : Int) < 0))))

noncomputable def words_Codes_L2  (code1 : List Int) (guess1 : List Int) : (List (Int × Int) × Int × Int) → Option (St (List (Int × Int) × Int × Int) Int) :=
  fun (x : (List (Int × Int) × Int × Int)) => match x with | (left4, more1, z2) => if (decide (z2 < (guess1.length : Int))) then ((words_Codes_J6 code1 guess1 left4 more1 z2)) else (some (.done more1))

noncomputable def words_Codes_J5  (same2 : Int) (more2 : Int) : Option (Int × Int × Int) :=
  some (same2, more2, 0)

noncomputable def words_Codes_K2  (same2 : Int) : Int → Option (Int × Int × Int) :=
  fun (x : Int) => match x with | more2 => (words_Codes_J5 same2) more2

noncomputable def words_Codes_J2  (code1 : List Int) (guess1 : List Int) (left2 : List (Int × Int)) (same2 : Int) : Option (Int × Int × Int) :=
  (loop (words_Codes_L2 code1 guess1) (left2, 0, 0)).bind (words_Codes_K2 same2)

noncomputable def words_Codes_K1  (code1 : List Int) (guess1 : List Int) : (List (Int × Int) × Int) → Option (Int × Int × Int) :=
  fun (x : (List (Int × Int) × Int)) => match x with | (left2, same2) => (words_Codes_J2 code1 guess1) left2 same2

noncomputable def words_Codes_L1  (code1 : List Int) (guess1 : List Int) : (List (Int × Int) × Int × Int) → Option (St (List (Int × Int) × Int × Int) (List (Int × Int) × Int)) :=
  fun (x : (List (Int × Int) × Int × Int)) => match x with | (left1, same1, z1) => if (decide (z1 < (code1.length : Int))) then ((words_Codes_J3 code1 guess1 left1 same1 z1)) else (some (.done (left1, same1)))

noncomputable def words_Codes_J1  (code1 : List Int) (guess1 : List Int) : Option (Int × Int × Int) :=
  (loop (words_Codes_L1 code1 guess1) (([] : List (Int × Int)), 0, 0)).bind (words_Codes_K1 code1 guess1)

noncomputable def words_Codes_m  (code1 : List Int) (guess1 : List Int) : Option (Int × Int × Int) :=
  if (((code1.length : Int) != (guess1.length : Int)) || (decide ((8 : Int) < (code1.length : Int)))) then (some (0, 0, 11)) else ((words_Codes_J1 code1 guess1))

set_option maxRecDepth 100000 in
set_option maxHeartbeats 4000000 in
theorem words_Codes_w  {A1 : Option Addr} {c1 : Nat} {n1 : Nat} {code1 : List Int} {A2 : Option Addr} {c2 : Nat} {n2 : Nat} {guess1 : List Int} {r : (Int × Int × Int)} {w0 w : World} {B : Nat} {fs : List HP} (hm : words_Codes_m code1 guess1 = some r) (hS : Sep w0 B w (fs)) (hr_code1 : RdF w0 B fs A1 (vI code1)) (_hc_code1 : code1.length ≤ c1) (_hn_code1 : n1 = code1.length) (hr_guess1 : RdF w0 B fs A2 (vI guess1)) (_hc_guess1 : guess1.length ≤ c2) (_hn_guess1 : n2 = guess1.length) :
    Calls Tryd.prog 10 #[.slice A1 n1 c1, .slice A2 n2 c2] w fun e w' => e = .returned (.tuple #[.int .i64 r.1, .int .i64 r.2.1, .int .i64 r.2.2]) ∧ Sep w0 B w' (fs) := by
  obtain ⟨i3, hi3, hz3, hs3, hb3⟩ := info_parts Info3
  obtain rfl := _hn_code1
  obtain rfl := _hn_guess1
  unfold words_Codes_m at hm
  replace hm := start_b hm
  refine enter (l := [.slice A1 code1.length c1, .slice A2 guess1.length c2]) (n := 73) Tryd.func10 rfl rfl (by simp) (fun a hF => ?_)
  refine reg [] [] [0, 1] [pl 0 (.slice A1 code1.length c1), pl 1 (.slice A2 guess1.length c2)] hF hS Fol (by kernel_rfl) (by kernel_rfl) (by kernel_rfl) ?_ (fun a w hF hS => ?_)
  · exact obs_nil
  refine seq_cut (fun a w => Fr 73 [pl 0 (.slice A1 code1.length c1), pl 1 (.slice A2 guess1.length c2)] a ∧ Sep w0 B w (fs) ∧ ((words_Codes_J1 code1 guess1)).bind some = some r) ?_ ?_
  · rintro a w ⟨hF, hS, hm⟩
    unfold words_Codes_J1 at hm
    refine seqR ?_
    refine at_do (d := 24) (s := vS (Instr.makeMap 81 none)) (v := .map (some w.heap.size)) (w' := w.alloc (.map #[] 0)) hF (by kernel_rfl) (by kernel_rfl) (by kernel_rfl) (fun a hF => ?_)
    have hS : Sep w0 B (w.alloc (.map #[] 0)) (mapH kf3 (Value.int .i64) w.heap.size ([] : List (Int × Int)) :: (fs)) := hS.mapNew _ _
    generalize w.heap.size = g1 at hF hS
    generalize w.alloc (.map #[] 0) = w at hS ⊢
    refine at_run 1 [] [] [0, 1, 7] [pl 0 (.slice A1 code1.length c1), pl 1 (.slice A2 guess1.length c2), pl 7 (.map (some g1))] hF hS (by kernel_rfl) (by kernel_rfl) ?_ (fun a w hF hS => ?_)
    · exact obs_nil
    refine at_end [0, 1, 7] [pl 0 (.slice A1 code1.length c1), pl 1 (.slice A2 guess1.length c2), pl 7 (.map (some g1))] hF rfl (by kernel_rfl) (fun hF => ?_)
    refine then_n ?_
    refine reg [] [] [0, 1, 7, 8, 9] [pl 0 (.slice A1 code1.length c1), pl 1 (.slice A2 guess1.length c2), pl 7 (.map (some g1)), pl 8 (.int .i64 0), pl 9 (.int .i64 0)] hF hS Fol (by kernel_rfl) (by kernel_rfl) (by kernel_rfl) ?_ (fun a w hF hS => ?_)
    · exact obs_nil
    refine seq_cut (fun a w => ∃ (left2 : List (Int × Int)) (same2 : Int), Fr 73 [pl 0 (.slice A1 code1.length c1), pl 1 (.slice A2 guess1.length c2), pl 7 (.map (some g1)), pl 8 (.int .i64 same2), pl 9 (.int .i64 0)] a ∧ Sep w0 B w (mapH kf3 (Value.int .i64) g1 left2 :: fs) ∧ ((words_Codes_J2 code1 guess1) left2 same2).bind some = some r) ?_ ?_
    · rintro a w ⟨left2, same2, hF, hS, hm⟩
      unfold words_Codes_J2 at hm
      refine seq_cut (fun a w => ∃ (more2 : Int), Fr 73 [pl 8 (.int .i64 same2), pl 9 (.int .i64 more2)] a ∧ Sep w0 B w (fs) ∧ ((words_Codes_J5 same2) more2).bind some = some r) ?_ ?_
      · rintro a w ⟨more2, hF, hS, hm⟩
        unfold words_Codes_J5 at hm
        refine reg [] [] [4, 5, 6] [pl 4 (.int .i64 same2), pl 5 (.int .i64 more2), pl 6 (.int .i64 0)] hF hS Fol (by kernel_rfl) (by kernel_rfl) (by kernel_rfl) ?_ (fun a w hF hS => ?_)
        · exact obs_nil
        refine wpIn_ret ?_
        have hm : some (same2, more2, 0) = some r := hm
        obtain rfl := Option.some.inj hm
        exact retV (rs := [.tmp 4, .tmp 5, .tmp 6]) (vs := [.int .i64 same2, .int .i64 more2, .int .i64 0]) hF rfl (rv_t (by kernel_rfl) <| rv_t (by kernel_rfl) <| rv_t (by kernel_rfl) <| rv_nil) rfl ⟨rfl, hS⟩
      · refine reg [] [] [0, 7, 8, 9, 45, 46, 47] [pl 0 (.slice A1 code1.length c1), pl 7 (.map (some g1)), pl 8 (.int .i64 same2), pl 9 (.int .i64 0), pl 45 (.slice A2 guess1.length c2), pl 46 (.int .i64 (guess1.length : Int)), pl 47 (.int .i64 0)] hF hS Fol (by kernel_rfl) (by kernel_rfl) (by kernel_rfl) ?_ (fun a w hF hS => ?_)
        · exact obs_nil
        refine wpIn_block ?_
        refine wp_loop_model (S := (List (Int × Int) × Int × Int)) (R := Int) (words_Codes_L2 code1 guess1) (fun x => ((words_Codes_K2 same2) x).bind some) r (fun (x : (List (Int × Int) × Int × Int)) a w => Fr 73 [pl 0 (.slice A1 code1.length c1), pl 7 (.map (some g1)), pl 8 (.int .i64 same2), pl 9 (.int .i64 x.2.1), pl 45 (.slice A2 guess1.length c2), pl 46 (.int .i64 (guess1.length : Int)), pl 47 (.int .i64 x.2.2)] a ∧ Sep w0 B w (mapH kf3 (Value.int .i64) g1 x.1 :: fs)) (assoc_b hm) ⟨hF.weak [0, 7, 8, 9, 45, 46, 47] (by kernel_rfl), hS⟩ ?_
        clear hF hS hm
        rintro nn2 ⟨left4, more1, z2⟩ a w ⟨hF, hS⟩ hm
        generalize hφ2 : stK (words_Codes_L2 code1 guess1) nn2 (fun x => ((words_Codes_K2 same2) x).bind some) = φ2 at hm
        unfold words_Codes_L2 at hm
        dsimp only at hF hS hm
        refine reg [] [] [0, 7, 8, 9, 45, 46, 47, 48] [pl 0 (.slice A1 code1.length c1), pl 7 (.map (some g1)), pl 8 (.int .i64 same2), pl 9 (.int .i64 more1), pl 45 (.slice A2 guess1.length c2), pl 46 (.int .i64 (guess1.length : Int)), pl 47 (.int .i64 z2), pl 48 (.bool (decide (z2 < (guess1.length : Int))))] hF hS Fol (by kernel_rfl) (by kernel_rfl) (by kernel_rfl) ?_ (fun a w hF hS => ?_)
        · exact obs_nil
        refine seq_cut (fun a w => Fr 73 [pl 0 (.slice A1 code1.length c1), pl 7 (.map (some g1)), pl 8 (.int .i64 same2), pl 9 (.int .i64 more1), pl 45 (.slice A2 guess1.length c2), pl 46 (.int .i64 (guess1.length : Int)), pl 47 (.int .i64 z2)] a ∧ Sep w0 B w (mapH kf3 (Value.int .i64) g1 left4 :: fs) ∧ ((words_Codes_J6 code1 guess1 left4 more1 z2)).bind φ2 = some r) ?_ ?_
        · rintro a w ⟨hF, hS, hm⟩
          unfold words_Codes_J6 at hm
          refine seq_cut (fun a w => ∃ (left5 : List (Int × Int)) (more3 : Int), Fr 73 [pl 0 (.slice A1 code1.length c1), pl 7 (.map (some g1)), pl 8 (.int .i64 same2), pl 9 (.int .i64 more3), pl 45 (.slice A2 guess1.length c2), pl 46 (.int .i64 (guess1.length : Int)), pl 47 (.int .i64 z2)] a ∧ Sep w0 B w (mapH kf3 (Value.int .i64) g1 left5 :: fs) ∧ ((words_Codes_J7 z2) left5 more3).bind φ2 = some r) ?_ ?_
          · rintro a w ⟨left5, more3, hF, hS, hm⟩
            unfold words_Codes_J7 at hm
            refine reg1 [] [] [0, 7, 8, 9, 45, 46, 47] [pl 0 (.slice A1 code1.length c1), pl 7 (.map (some g1)), pl 8 (.int .i64 same2), pl 9 (.int .i64 more3), pl 45 (.slice A2 guess1.length c2), pl 46 (.int .i64 (guess1.length : Int)), pl 47 (.int .i64 (w64 (z2 + 1)))] hF hS Fol (by kernel_rfl) (by kernel_rfl) (by kernel_rfl) ?_ (fun a w hF hS => ?_)
            · exact obs_nil
            refine then_n ?_
            rw [← hφ2] at hm
            exact ⟨(left5, more3, (w64 (z2 + 1))), ⟨hF.weak [0, 7, 8, 9, 45, 46, 47] (by kernel_rfl), hS⟩, hm⟩
          · refine wpIn_block ?_
            obtain ⟨hp3, hm⟩ := asrt_b hm
            refine reg [⟨true, [], vS (Instr.indexAt 22 (.slice A2 guess1.length c2) (.int .i64 z2)), .pointer (some (sAddr A2 z2))⟩, ⟨false, [], vS (Instr.loadAt 3 (.pointer (some (sAddr A2 z2)))), .int .i64 (geti guess1 z2)⟩] [none, some (.pointer (some (sAddr A2 z2))), some (.int .i64 (geti guess1 z2)), none, none] [0, 7, 8, 9, 12, 13, 45, 46, 47] [pl 0 (.slice A1 code1.length c1), pl 7 (.map (some g1)), pl 8 (.int .i64 same2), pl 9 (.int .i64 more1), pl 12 (.int .i64 z2), pl 13 (.int .i64 (geti guess1 z2)), pl 45 (.slice A2 guess1.length c2), pl 46 (.int .i64 (guess1.length : Int)), pl 47 (.int .i64 z2)] hF hS Fol (by kernel_rfl) (by kernel_rfl) (by kernel_rfl) ?_ (fun a w hF hS => ?_)
            · exact obs_cons (ob_ix1 (f := (Value.int .i64)) (m := guess1) Und22 hi3 hs3 (hr_guess1 _ (hS.dropN 1)) rfl (fun _ => hp3)) <| obs_cons (ob_get1 (n := guess1.length) (m := guess1) (Value.int .i64) (0 : Int) Agg3 (fun _ hS => ⟨_, (hr_guess1 _ (hS.dropN 1))⟩) (fun _ hS => rfl) (fun _ => hp3)) <| obs_nil
            refine seq_cut (fun a w => ∃ (z3 : Bool), Fr 73 [pl 0 (.slice A1 code1.length c1), pl 7 (.map (some g1)), pl 8 (.int .i64 same2), pl 9 (.int .i64 more1), pl 13 (.int .i64 (geti guess1 z2)), pl 45 (.slice A2 guess1.length c2), pl 46 (.int .i64 (guess1.length : Int)), pl 47 (.int .i64 z2), pl 63 (.bool z3)] a ∧ Sep w0 B w (mapH kf3 (Value.int .i64) g1 left4 :: fs) ∧ ((words_Codes_J8 guess1 left4 more1 z2) z3).bind φ2 = some r) ?_ ?_
            · rintro a w ⟨z3, hF, hS, hm⟩
              unfold words_Codes_J8 at hm
              refine cond_ev (t := 63) (b := z3) hF (by kernel_rfl) (fun hb => ?_) (fun hb => ?_)
              · replace hm := if_t hm hb
                refine seqR ?_
                refine at_run 4 [⟨false, [], vS (Instr.lookup 81 (.map (some g1)) (.int .i64 (geti guess1 z2)) false), .int .i64 (mget (0 : Int) (geti guess1 z2) left4)⟩] [none, none, some (.int .i64 (mget (0 : Int) (geti guess1 z2) left4)), none] [0, 7, 8, 9, 45, 46, 47, 64, 65, 67] [pl 0 (.slice A1 code1.length c1), pl 7 (.map (some g1)), pl 8 (.int .i64 same2), pl 9 (.int .i64 more1), pl 45 (.slice A2 guess1.length c2), pl 46 (.int .i64 (guess1.length : Int)), pl 47 (.int .i64 z2), pl 64 (.map (some g1)), pl 65 (.int .i64 (geti guess1 z2)), pl 67 (.int .i64 (w64 ((mget (0 : Int) (geti guess1 z2) left4) - 1)))] hF hS (by kernel_rfl) (by kernel_rfl) ?_ (fun a w hF hS => ?_)
                · exact obs_cons (ob_look (k := (geti guess1 z2)) (m := left4) MK3 UndM81 (z := (0 : Int)) MZ3 (fun _ hS => ⟨_, _, _, _, hS.at_ 0 rfl⟩)) <| obs_nil
                obtain ⟨w, hrun, hS⟩ := run_mput (P := Tryd.prog) (t := 81) (vf := (Value.int .i64)) MK3 UndM81 (geti guess1 z2) (w64 ((mget (0 : Int) (geti guess1 z2) left4) - 1)) (hS.at_ 0 rfl)
                refine at_skip hF (by kernel_rfl) hrun ?_
                have hS : Sep w0 B w (mapH kf3 (Value.int .i64) g1 (mput (geti guess1 z2) (w64 ((mget (0 : Int) (geti guess1 z2) left4) - 1)) left4) :: fs) := hS
                refine at_end [0, 7, 8, 9, 45, 46, 47] [pl 0 (.slice A1 code1.length c1), pl 7 (.map (some g1)), pl 8 (.int .i64 same2), pl 9 (.int .i64 more1), pl 45 (.slice A2 guess1.length c2), pl 46 (.int .i64 (guess1.length : Int)), pl 47 (.int .i64 z2)] hF rfl (by kernel_rfl) (fun hF => ?_)
                refine then_n ?_
                refine reg1 [] [] [0, 7, 8, 9, 45, 46, 47] [pl 0 (.slice A1 code1.length c1), pl 7 (.map (some g1)), pl 8 (.int .i64 same2), pl 9 (.int .i64 (w64 (more1 + 1))), pl 45 (.slice A2 guess1.length c2), pl 46 (.int .i64 (guess1.length : Int)), pl 47 (.int .i64 z2)] hF hS Fol (by kernel_rfl) (by kernel_rfl) (by kernel_rfl) ?_ (fun a w hF hS => ?_)
                · exact obs_nil
                refine block_n ?_
                refine then_n ?_
                exact ⟨(mput (geti guess1 z2) (w64 ((mget (0 : Int) (geti guess1 z2) left4) - 1)) left4), (w64 (more1 + 1)), hF.weak [0, 7, 8, 9, 45, 46, 47] (by kernel_rfl), hS, hm⟩
              · replace hm := if_f hm hb
                refine wpIn_skip ?_
                refine block_n ?_
                refine then_n ?_
                exact ⟨left4, more1, hF.weak [0, 7, 8, 9, 45, 46, 47] (by kernel_rfl), hS, hm⟩
            · refine oneR ?_
              obtain ⟨hp4, hm⟩ := asrt_b hm
              refine at_run 9 [⟨true, [], vS (Instr.indexAt 22 (.slice A1 code1.length c1) (.int .i64 z2)), .pointer (some (sAddr A1 z2))⟩, ⟨false, [], vS (Instr.loadAt 3 (.pointer (some (sAddr A1 z2)))), .int .i64 (geti code1 z2)⟩] [none, none, some (.pointer (some (sAddr A1 z2))), some (.int .i64 (geti code1 z2)), none, none, none, none, none] [0, 7, 8, 9, 13, 45, 46, 47, 58, 59, 60] [pl 0 (.slice A1 code1.length c1), pl 7 (.map (some g1)), pl 8 (.int .i64 same2), pl 9 (.int .i64 more1), pl 13 (.int .i64 (geti guess1 z2)), pl 45 (.slice A2 guess1.length c2), pl 46 (.int .i64 (guess1.length : Int)), pl 47 (.int .i64 z2), pl 58 (.bool ((geti code1 z2) != (geti guess1 z2))), ⟨59, [(58, true)], .map (some g1)⟩, ⟨60, [(58, true)], .int .i64 (geti guess1 z2)⟩] hF hS (by kernel_rfl) (by kernel_rfl) ?_ (fun a w hF hS => ?_)
              · exact obs_cons (ob_ix1 (f := (Value.int .i64)) (m := code1) Und22 hi3 hs3 (hr_code1 _ (hS.dropN 1)) rfl (fun _ => hp4)) <| obs_cons (ob_get1 (n := code1.length) (m := code1) (Value.int .i64) (0 : Int) Agg3 (fun _ hS => ⟨_, (hr_code1 _ (hS.dropN 1))⟩) (fun _ hS => rfl) (fun _ => hp4)) <| obs_nil
              rcases Bool.eq_false_or_eq_true ((geti code1 z2) != (geti guess1 z2)) with hg1 | hg1
              · replace hm := if_t hm hg1
                refine at_run 3 [⟨false, [(((geti code1 z2) != (geti guess1 z2)), true)], vS (Instr.lookup 81 (.map (some g1)) (.int .i64 (geti guess1 z2)) false), .int .i64 (mget (0 : Int) (geti guess1 z2) left4)⟩] [some (.int .i64 (mget (0 : Int) (geti guess1 z2) left4)), none, none] [0, 7, 8, 9, 13, 45, 46, 47, 63] [pl 0 (.slice A1 code1.length c1), pl 7 (.map (some g1)), pl 8 (.int .i64 same2), pl 9 (.int .i64 more1), pl 13 (.int .i64 (geti guess1 z2)), pl 45 (.slice A2 guess1.length c2), pl 46 (.int .i64 (guess1.length : Int)), pl 47 (.int .i64 z2), pl 63 (.bool (((geti code1 z2) != (geti guess1 z2)) && (decide ((0 : Int) < (mget (0 : Int) (geti guess1 z2) left4)))))] hF hS (by kernel_rfl) (by kernel_rfl) ?_ (fun a w hF hS => ?_)
                · exact obs_cons (ob_look (k := (geti guess1 z2)) (m := left4) MK3 UndM81 (z := (0 : Int)) MZ3 (fun _ hS => ⟨_, _, _, _, hS.at_ 0 rfl⟩)) <| obs_nil
                refine at_end [0, 7, 8, 9, 13, 45, 46, 47, 63] [pl 0 (.slice A1 code1.length c1), pl 7 (.map (some g1)), pl 8 (.int .i64 same2), pl 9 (.int .i64 more1), pl 13 (.int .i64 (geti guess1 z2)), pl 45 (.slice A2 guess1.length c2), pl 46 (.int .i64 (guess1.length : Int)), pl 47 (.int .i64 z2), pl 63 (.bool (((geti code1 z2) != (geti guess1 z2)) && (decide ((0 : Int) < (mget (0 : Int) (geti guess1 z2) left4)))))] hF rfl (by kernel_rfl) (fun hF => ?_)
                refine then_n ?_
                exact ⟨(((geti code1 z2) != (geti guess1 z2)) && (decide ((0 : Int) < (mget (0 : Int) (geti guess1 z2) left4)))), hF.weak [0, 7, 8, 9, 13, 45, 46, 47, 63] (by kernel_rfl), hS, hm⟩
              · replace hm := if_f hm hg1
                refine at_gskip (d := 61) (v := .int .i64 0) (hs := [(((geti code1 z2) != (geti guess1 z2)), true)]) (ctx := [(58, true)]) hF (by kernel_rfl) (by kernel_rfl) (fun h => absurd (h (((geti code1 z2) != (geti guess1 z2)), true) (by simp)) (by first | exact fun hz => Bool.noConfusion (Eq.trans (Eq.symm hg1) hz) | simp [hg1])) (fun a hF => ?_)
                refine at_run 2 [] [] [0, 7, 8, 9, 13, 45, 46, 47, 63] [pl 0 (.slice A1 code1.length c1), pl 7 (.map (some g1)), pl 8 (.int .i64 same2), pl 9 (.int .i64 more1), pl 13 (.int .i64 (geti guess1 z2)), pl 45 (.slice A2 guess1.length c2), pl 46 (.int .i64 (guess1.length : Int)), pl 47 (.int .i64 z2), pl 63 (.bool (((geti code1 z2) != (geti guess1 z2)) && (decide ((0 : Int) < 0))))] hF hS (by kernel_rfl) (by kernel_rfl) ?_ (fun a w hF hS => ?_)
                · exact obs_nil
                refine at_end [0, 7, 8, 9, 13, 45, 46, 47, 63] [pl 0 (.slice A1 code1.length c1), pl 7 (.map (some g1)), pl 8 (.int .i64 same2), pl 9 (.int .i64 more1), pl 13 (.int .i64 (geti guess1 z2)), pl 45 (.slice A2 guess1.length c2), pl 46 (.int .i64 (guess1.length : Int)), pl 47 (.int .i64 z2), pl 63 (.bool (((geti code1 z2) != (geti guess1 z2)) && (decide ((0 : Int) < 0))))] hF rfl (by kernel_rfl) (fun hF => ?_)
                refine then_n ?_
                exact ⟨(((geti code1 z2) != (geti guess1 z2)) && (decide ((0 : Int) < 0))), hF.weak [0, 7, 8, 9, 13, 45, 46, 47, 63] (by kernel_rfl), hS, hm⟩
        · refine cond_ev (t := 48) (b := decide (z2 < (guess1.length : Int))) hF (by kernel_rfl) (fun hb => ?_) (fun hb => ?_)
          · replace hm := if_t hm hb
            refine wpIn_skip ?_
            refine then_n ?_
            exact ⟨hF.weak [0, 7, 8, 9, 45, 46, 47] (by kernel_rfl), hS, hm⟩
          · replace hm := if_f hm hb
            refine wpIn_exit ?_
            refine then_e (then_e (block_e (then_n ?_)))
            have hS := hS.pickN 1 [] (by decide)
            rw [← hφ2] at hm
            replace hm := done_b hm
            unfold words_Codes_K2 at hm
            try dsimp only at hm
            have hm : ((words_Codes_J5 same2) more1).bind some = some r := hm
            exact ⟨more1, hF.weak [8, 9] (by kernel_rfl), hS, hm⟩
    · refine reg [] [] [0, 1, 7, 8, 9, 25, 26, 27] [pl 0 (.slice A1 code1.length c1), pl 1 (.slice A2 guess1.length c2), pl 7 (.map (some g1)), pl 8 (.int .i64 0), pl 9 (.int .i64 0), pl 25 (.slice A1 code1.length c1), pl 26 (.int .i64 (code1.length : Int)), pl 27 (.int .i64 0)] hF hS Fol (by kernel_rfl) (by kernel_rfl) (by kernel_rfl) ?_ (fun a w hF hS => ?_)
      · exact obs_nil
      refine wpIn_block ?_
      refine wp_loop_model (S := (List (Int × Int) × Int × Int)) (R := (List (Int × Int) × Int)) (words_Codes_L1 code1 guess1) (fun x => ((words_Codes_K1 code1 guess1) x).bind some) r (fun (x : (List (Int × Int) × Int × Int)) a w => Fr 73 [pl 0 (.slice A1 code1.length c1), pl 1 (.slice A2 guess1.length c2), pl 7 (.map (some g1)), pl 8 (.int .i64 x.2.1), pl 9 (.int .i64 0), pl 25 (.slice A1 code1.length c1), pl 26 (.int .i64 (code1.length : Int)), pl 27 (.int .i64 x.2.2)] a ∧ Sep w0 B w (mapH kf3 (Value.int .i64) g1 x.1 :: fs)) (assoc_b hm) ⟨hF.weak [0, 1, 7, 8, 9, 25, 26, 27] (by kernel_rfl), hS⟩ ?_
      clear hF hS hm
      rintro nn1 ⟨left1, same1, z1⟩ a w ⟨hF, hS⟩ hm
      generalize hφ1 : stK (words_Codes_L1 code1 guess1) nn1 (fun x => ((words_Codes_K1 code1 guess1) x).bind some) = φ1 at hm
      unfold words_Codes_L1 at hm
      dsimp only at hF hS hm
      refine reg [] [] [0, 1, 7, 8, 9, 25, 26, 27, 28] [pl 0 (.slice A1 code1.length c1), pl 1 (.slice A2 guess1.length c2), pl 7 (.map (some g1)), pl 8 (.int .i64 same1), pl 9 (.int .i64 0), pl 25 (.slice A1 code1.length c1), pl 26 (.int .i64 (code1.length : Int)), pl 27 (.int .i64 z1), pl 28 (.bool (decide (z1 < (code1.length : Int))))] hF hS Fol (by kernel_rfl) (by kernel_rfl) (by kernel_rfl) ?_ (fun a w hF hS => ?_)
      · exact obs_nil
      refine seq_cut (fun a w => Fr 73 [pl 0 (.slice A1 code1.length c1), pl 1 (.slice A2 guess1.length c2), pl 7 (.map (some g1)), pl 8 (.int .i64 same1), pl 9 (.int .i64 0), pl 25 (.slice A1 code1.length c1), pl 26 (.int .i64 (code1.length : Int)), pl 27 (.int .i64 z1)] a ∧ Sep w0 B w (mapH kf3 (Value.int .i64) g1 left1 :: fs) ∧ ((words_Codes_J3 code1 guess1 left1 same1 z1)).bind φ1 = some r) ?_ ?_
      · rintro a w ⟨hF, hS, hm⟩
        unfold words_Codes_J3 at hm
        refine seq_cut (fun a w => ∃ (left3 : List (Int × Int)) (same3 : Int), Fr 73 [pl 0 (.slice A1 code1.length c1), pl 1 (.slice A2 guess1.length c2), pl 7 (.map (some g1)), pl 8 (.int .i64 same3), pl 9 (.int .i64 0), pl 25 (.slice A1 code1.length c1), pl 26 (.int .i64 (code1.length : Int)), pl 27 (.int .i64 z1)] a ∧ Sep w0 B w (mapH kf3 (Value.int .i64) g1 left3 :: fs) ∧ ((words_Codes_J4 z1) left3 same3).bind φ1 = some r) ?_ ?_
        · rintro a w ⟨left3, same3, hF, hS, hm⟩
          unfold words_Codes_J4 at hm
          refine reg1 [] [] [0, 1, 7, 8, 9, 25, 26, 27] [pl 0 (.slice A1 code1.length c1), pl 1 (.slice A2 guess1.length c2), pl 7 (.map (some g1)), pl 8 (.int .i64 same3), pl 9 (.int .i64 0), pl 25 (.slice A1 code1.length c1), pl 26 (.int .i64 (code1.length : Int)), pl 27 (.int .i64 (w64 (z1 + 1)))] hF hS Fol (by kernel_rfl) (by kernel_rfl) (by kernel_rfl) ?_ (fun a w hF hS => ?_)
          · exact obs_nil
          refine then_n ?_
          rw [← hφ1] at hm
          exact ⟨(left3, same3, (w64 (z1 + 1))), ⟨hF.weak [0, 1, 7, 8, 9, 25, 26, 27] (by kernel_rfl), hS⟩, hm⟩
        · refine wpIn_block ?_
          obtain ⟨hp1, hm⟩ := asrt_b hm
          refine reg [⟨true, [], vS (Instr.indexAt 22 (.slice A1 code1.length c1) (.int .i64 z1)), .pointer (some (sAddr A1 z1))⟩, ⟨false, [], vS (Instr.loadAt 3 (.pointer (some (sAddr A1 z1)))), .int .i64 (geti code1 z1)⟩] [none, some (.pointer (some (sAddr A1 z1))), some (.int .i64 (geti code1 z1)), none, none] [0, 1, 7, 8, 9, 10, 11, 25, 26, 27] [pl 0 (.slice A1 code1.length c1), pl 1 (.slice A2 guess1.length c2), pl 7 (.map (some g1)), pl 8 (.int .i64 same1), pl 9 (.int .i64 0), pl 10 (.int .i64 z1), pl 11 (.int .i64 (geti code1 z1)), pl 25 (.slice A1 code1.length c1), pl 26 (.int .i64 (code1.length : Int)), pl 27 (.int .i64 z1)] hF hS Fol (by kernel_rfl) (by kernel_rfl) (by kernel_rfl) ?_ (fun a w hF hS => ?_)
          · exact obs_cons (ob_ix1 (f := (Value.int .i64)) (m := code1) Und22 hi3 hs3 (hr_code1 _ (hS.dropN 1)) rfl (fun _ => hp1)) <| obs_cons (ob_get1 (n := code1.length) (m := code1) (Value.int .i64) (0 : Int) Agg3 (fun _ hS => ⟨_, (hr_code1 _ (hS.dropN 1))⟩) (fun _ hS => rfl) (fun _ => hp1)) <| obs_nil
          obtain ⟨hp2, hm⟩ := asrt_b hm
          refine reg [⟨true, [], vS (Instr.indexAt 22 (.slice A2 guess1.length c2) (.int .i64 z1)), .pointer (some (sAddr A2 z1))⟩, ⟨false, [], vS (Instr.loadAt 3 (.pointer (some (sAddr A2 z1)))), .int .i64 (geti guess1 z1)⟩] [none, none, some (.pointer (some (sAddr A2 z1))), some (.int .i64 (geti guess1 z1)), none, none] [0, 1, 7, 8, 9, 11, 25, 26, 27, 37] [pl 0 (.slice A1 code1.length c1), pl 1 (.slice A2 guess1.length c2), pl 7 (.map (some g1)), pl 8 (.int .i64 same1), pl 9 (.int .i64 0), pl 11 (.int .i64 (geti code1 z1)), pl 25 (.slice A1 code1.length c1), pl 26 (.int .i64 (code1.length : Int)), pl 27 (.int .i64 z1), pl 37 (.bool ((geti guess1 z1) == (geti code1 z1)))] hF hS Fol (by kernel_rfl) (by kernel_rfl) (by kernel_rfl) ?_ (fun a w hF hS => ?_)
          · exact obs_cons (ob_ix1 (f := (Value.int .i64)) (m := guess1) Und22 hi3 hs3 (hr_guess1 _ (hS.dropN 1)) rfl (fun _ => hp2)) <| obs_cons (ob_get1 (n := guess1.length) (m := guess1) (Value.int .i64) (0 : Int) Agg3 (fun _ hS => ⟨_, (hr_guess1 _ (hS.dropN 1))⟩) (fun _ hS => rfl) (fun _ => hp2)) <| obs_nil
          refine cond_ev (t := 37) (b := ((geti guess1 z1) == (geti code1 z1))) hF (by kernel_rfl) (fun hb => ?_) (fun hb => ?_)
          · replace hm := if_t hm hb
            refine reg1 [] [] [0, 1, 7, 8, 9, 25, 26, 27] [pl 0 (.slice A1 code1.length c1), pl 1 (.slice A2 guess1.length c2), pl 7 (.map (some g1)), pl 8 (.int .i64 (w64 (same1 + 1))), pl 9 (.int .i64 0), pl 25 (.slice A1 code1.length c1), pl 26 (.int .i64 (code1.length : Int)), pl 27 (.int .i64 z1)] hF hS Fol (by kernel_rfl) (by kernel_rfl) (by kernel_rfl) ?_ (fun a w hF hS => ?_)
            · exact obs_nil
            refine block_n ?_
            refine then_n ?_
            exact ⟨left1, (w64 (same1 + 1)), hF.weak [0, 1, 7, 8, 9, 25, 26, 27] (by kernel_rfl), hS, hm⟩
          · replace hm := if_f hm hb
            refine oneR ?_
            refine at_run 4 [⟨false, [], vS (Instr.lookup 81 (.map (some g1)) (.int .i64 (geti code1 z1)) false), .int .i64 (mget (0 : Int) (geti code1 z1) left1)⟩] [none, none, some (.int .i64 (mget (0 : Int) (geti code1 z1) left1)), none] [0, 1, 7, 8, 9, 25, 26, 27, 40, 41, 43] [pl 0 (.slice A1 code1.length c1), pl 1 (.slice A2 guess1.length c2), pl 7 (.map (some g1)), pl 8 (.int .i64 same1), pl 9 (.int .i64 0), pl 25 (.slice A1 code1.length c1), pl 26 (.int .i64 (code1.length : Int)), pl 27 (.int .i64 z1), pl 40 (.map (some g1)), pl 41 (.int .i64 (geti code1 z1)), pl 43 (.int .i64 (w64 ((mget (0 : Int) (geti code1 z1) left1) + 1)))] hF hS (by kernel_rfl) (by kernel_rfl) ?_ (fun a w hF hS => ?_)
            · exact obs_cons (ob_look (k := (geti code1 z1)) (m := left1) MK3 UndM81 (z := (0 : Int)) MZ3 (fun _ hS => ⟨_, _, _, _, hS.at_ 0 rfl⟩)) <| obs_nil
            obtain ⟨w, hrun, hS⟩ := run_mput (P := Tryd.prog) (t := 81) (vf := (Value.int .i64)) MK3 UndM81 (geti code1 z1) (w64 ((mget (0 : Int) (geti code1 z1) left1) + 1)) (hS.at_ 0 rfl)
            refine at_skip hF (by kernel_rfl) hrun ?_
            have hS : Sep w0 B w (mapH kf3 (Value.int .i64) g1 (mput (geti code1 z1) (w64 ((mget (0 : Int) (geti code1 z1) left1) + 1)) left1) :: fs) := hS
            refine at_end [0, 1, 7, 8, 9, 25, 26, 27] [pl 0 (.slice A1 code1.length c1), pl 1 (.slice A2 guess1.length c2), pl 7 (.map (some g1)), pl 8 (.int .i64 same1), pl 9 (.int .i64 0), pl 25 (.slice A1 code1.length c1), pl 26 (.int .i64 (code1.length : Int)), pl 27 (.int .i64 z1)] hF rfl (by kernel_rfl) (fun hF => ?_)
            refine block_n ?_
            refine then_n ?_
            exact ⟨(mput (geti code1 z1) (w64 ((mget (0 : Int) (geti code1 z1) left1) + 1)) left1), same1, hF.weak [0, 1, 7, 8, 9, 25, 26, 27] (by kernel_rfl), hS, hm⟩
      · refine cond_ev (t := 28) (b := decide (z1 < (code1.length : Int))) hF (by kernel_rfl) (fun hb => ?_) (fun hb => ?_)
        · replace hm := if_t hm hb
          refine wpIn_skip ?_
          refine then_n ?_
          exact ⟨hF.weak [0, 1, 7, 8, 9, 25, 26, 27] (by kernel_rfl), hS, hm⟩
        · replace hm := if_f hm hb
          refine wpIn_exit ?_
          refine then_e (then_e (block_e (then_n ?_)))
          rw [← hφ1] at hm
          replace hm := done_b hm
          unfold words_Codes_K1 at hm
          try dsimp only at hm
          have hm : ((words_Codes_J2 code1 guess1) left1 same1).bind some = some r := hm
          exact ⟨left1, same1, hF.weak [0, 1, 7, 8, 9] (by kernel_rfl), hS, hm⟩
  · refine reg [] [] [0, 1, 23] [pl 0 (.slice A1 code1.length c1), pl 1 (.slice A2 guess1.length c2), pl 23 (.bool (((code1.length : Int) != (guess1.length : Int)) || (decide ((8 : Int) < (code1.length : Int)))))] hF hS Fol (by kernel_rfl) (by kernel_rfl) (by kernel_rfl) ?_ (fun a w hF hS => ?_)
    · exact obs_nil
    refine cond_ev (t := 23) (b := ((code1.length : Int) != (guess1.length : Int)) || (decide ((8 : Int) < (code1.length : Int)))) hF (by kernel_rfl) (fun hb => ?_) (fun hb => ?_)
    · replace hm := if_t hm hb
      refine reg [] [] [4, 5, 6] [pl 4 (.int .i64 0), pl 5 (.int .i64 0), pl 6 (.int .i64 11)] hF hS Fol (by kernel_rfl) (by kernel_rfl) (by kernel_rfl) ?_ (fun a w hF hS => ?_)
      · exact obs_nil
      refine wpIn_ret ?_
      refine then_r ?_
      have hm : some (0, 0, 11) = some r := hm
      obtain rfl := Option.some.inj hm
      exact retV (rs := [.tmp 4, .tmp 5, .tmp 6]) (vs := [.int .i64 0, .int .i64 0, .int .i64 11]) hF rfl (rv_t (by kernel_rfl) <| rv_t (by kernel_rfl) <| rv_t (by kernel_rfl) <| rv_nil) rfl ⟨rfl, hS⟩
    · replace hm := if_f hm hb
      refine wpIn_skip ?_
      refine then_n ?_
      exact ⟨hF.weak [0, 1] (by kernel_rfl), hS, hm⟩

noncomputable def gameroomref_CodesOf_J6  (k1 : Int) : Option (St Int (Int × Int × List Bool)) :=
  some (.next (w64 (k1 + 1)))

noncomputable def gameroomref_CodesOf_J5  (code1 : List Int) (guess1 : List Int) (both1 : Int) (used1 : List Bool) (i1 : Int) (same3 : Int) (k1 : Int) : Option (St Int (Int × Int × List Bool)) :=
  asrt (0 ≤ k1 ∧ k1 < (((Int.toNat (guess1.length : Int)) : Nat) : Int)) <| asrt ((!(getb used1 k1)) = true → 0 ≤ k1 ∧ k1 < (guess1.length : Int)) <| asrt ((!(getb used1 k1)) = true → 0 ≤ i1 ∧ i1 < (code1.length : Int)) <| if ((!(getb used1 k1)) && ((geti guess1 k1) == (geti code1 i1))) then (asrt (0 ≤ k1 ∧ k1 < (((Int.toNat (guess1.length : Int)) : Nat) : Int)) <| some (.done (same3, (w64 (both1 + 1)), (used1.set (Int.toNat k1) true)))) else ((gameroomref_CodesOf_J6 k1))

noncomputable def gameroomref_CodesOf_J3  (i1 : Int) (same4 : Int) (both3 : Int) (used2 : List Bool) : Option (St (Int × Int × List Bool × Int) (Int × Int)) :=
  some (.next (same4, both3, used2, (w64 (i1 + 1))))

noncomputable def gameroomref_CodesOf_K2  (i1 : Int) : (Int × Int × List Bool) → Option (St (Int × Int × List Bool × Int) (Int × Int)) :=
  fun (x : (Int × Int × List Bool)) => match x with | (same4, both3, used2) => (gameroomref_CodesOf_J3 i1) same4 both3 used2

noncomputable def gameroomref_CodesOf_L2  (code1 : List Int) (guess1 : List Int) (both1 : Int) (used1 : List Bool) (i1 : Int) (same3 : Int) : Int → Option (St Int (Int × Int × List Bool)) :=
  fun (x : Int) => match x with | k1 => if (decide (k1 < (guess1.length : Int))) then ((gameroomref_CodesOf_J5 code1 guess1 both1 used1 i1 same3 k1)) else (some (.done (same3, both1, used1)))

noncomputable def gameroomref_CodesOf_J4  (code1 : List Int) (guess1 : List Int) (both1 : Int) (used1 : List Bool) (i1 : Int) (same3 : Int) : Option (St (Int × Int × List Bool × Int) (Int × Int)) :=
  (loop (gameroomref_CodesOf_L2 code1 guess1 both1 used1 i1 same3) 0).bind (gameroomref_CodesOf_K2 i1)

noncomputable def gameroomref_CodesOf_J2  (code1 : List Int) (guess1 : List Int) (same1 : Int) (both1 : Int) (used1 : List Bool) (i1 : Int) : Option (St (Int × Int × List Bool × Int) (Int × Int)) :=
  asrt (0 ≤ i1 ∧ i1 < (code1.length : Int)) <| asrt (0 ≤ i1 ∧ i1 < (guess1.length : Int)) <| if ((geti code1 i1) == (geti guess1 i1)) then ((gameroomref_CodesOf_J4 code1 guess1 both1 used1 i1) (w64 (same1 + 1))) else ((gameroomref_CodesOf_J4 code1 guess1 both1 used1 i1) same1)

noncomputable def gameroomref_CodesOf_J1  (same2 : Int) (both2 : Int) : Option (Int × Int) :=
  some (same2, (w64 (both2 - same2)))

noncomputable def gameroomref_CodesOf_K1  : (Int × Int) → Option (Int × Int) :=
  fun (x : (Int × Int)) => match x with | (same2, both2) => gameroomref_CodesOf_J1 same2 both2

noncomputable def gameroomref_CodesOf_L1  (code1 : List Int) (guess1 : List Int) : (Int × Int × List Bool × Int) → Option (St (Int × Int × List Bool × Int) (Int × Int)) :=
  fun (x : (Int × Int × List Bool × Int)) => match x with | (same1, both1, used1, i1) => if (decide (i1 < (code1.length : Int))) then ((gameroomref_CodesOf_J2 code1 guess1 same1 both1 used1 i1)) else (some (.done (same1, both1)))

noncomputable def gameroomref_CodesOf_m  (code1 : List Int) (guess1 : List Int) : Option (Int × Int) :=
  asrt ((0 : Int) ≤ (guess1.length : Int) ∧ (guess1.length : Int) ≤ bigN) <| (loop (gameroomref_CodesOf_L1 code1 guess1) (0, 0, (List.replicate (Int.toNat (guess1.length : Int)) false), 0)).bind gameroomref_CodesOf_K1

set_option maxRecDepth 100000 in
set_option maxHeartbeats 4000000 in
theorem gameroomref_CodesOf_w  {A1 : Option Addr} {c1 : Nat} {n1 : Nat} {code1 : List Int} {A2 : Option Addr} {c2 : Nat} {n2 : Nat} {guess1 : List Int} {r : (Int × Int)} {w0 w : World} {B : Nat} {fs : List HP} (hm : gameroomref_CodesOf_m code1 guess1 = some r) (hS : Sep w0 B w (fs)) (hr_code1 : RdF w0 B fs A1 (vI code1)) (_hc_code1 : code1.length ≤ c1) (_hn_code1 : n1 = code1.length) (hr_guess1 : RdF w0 B fs A2 (vI guess1)) (_hc_guess1 : guess1.length ≤ c2) (_hn_guess1 : n2 = guess1.length) :
    Calls Tryd.prog 12 #[.slice A1 n1 c1, .slice A2 n2 c2] w fun e w' => e = .returned (.tuple #[.int .i64 r.1, .int .i64 r.2]) ∧ Sep w0 B w' (fs) := by
  obtain ⟨i3, hi3, hz3, hs3, hb3⟩ := info_parts Info3
  obtain ⟨i4, hi4, hz4, hs4, hb4⟩ := info_parts Info4
  obtain rfl := _hn_code1
  obtain rfl := _hn_guess1
  unfold gameroomref_CodesOf_m at hm
  replace hm := start_b hm
  refine enter (l := [.slice A1 code1.length c1, .slice A2 guess1.length c2]) (n := 62) Tryd.func12 rfl rfl (by simp) (fun a hF => ?_)
  refine reg [] [] [0, 1] [pl 0 (.slice A1 code1.length c1), pl 1 (.slice A2 guess1.length c2)] hF hS Fol (by kernel_rfl) (by kernel_rfl) (by kernel_rfl) ?_ (fun a w hF hS => ?_)
  · exact obs_nil
  refine reg [] [] [0, 1, 6, 7] [pl 0 (.slice A1 code1.length c1), pl 1 (.slice A2 guess1.length c2), pl 6 (.int .i64 0), pl 7 (.int .i64 0)] hF hS Fol (by kernel_rfl) (by kernel_rfl) (by kernel_rfl) ?_ (fun a w hF hS => ?_)
  · exact obs_nil
  refine seqR ?_
  obtain ⟨hp1, hm⟩ := asrt_b hm
  refine at_run 2 [] [] [0, 1, 6, 7, 12] [pl 0 (.slice A1 code1.length c1), pl 1 (.slice A2 guess1.length c2), pl 6 (.int .i64 0), pl 7 (.int .i64 0), pl 12 (.int .i64 (guess1.length : Int))] hF hS (by kernel_rfl) (by kernel_rfl) ?_ (fun a w hF hS => ?_)
  · exact obs_nil
  obtain ⟨A3, c3, w, hrun, hS⟩ := run_mk1 (P := Tryd.prog) (t := 82) Value.bool false hS .i64 .i64 Und82 hi4 hz4 hs4 (by omega) rfl hp1
  have hS : Sep w0 B w (own 4 (.slice A3 (Int.toNat (guess1.length : Int)) c3) (vB (List.replicate (Int.toNat (guess1.length : Int)) false)) :: fs) := hS
  refine at_do (d := 13) hF (by kernel_rfl) (by kernel_rfl) hrun (fun a hF => ?_)
  refine at_run 1 [] [] [0, 1, 6, 7, 8] [pl 0 (.slice A1 code1.length c1), pl 1 (.slice A2 guess1.length c2), pl 6 (.int .i64 0), pl 7 (.int .i64 0), pl 8 (.slice A3 (Int.toNat (guess1.length : Int)) c3)] hF hS (by kernel_rfl) (by kernel_rfl) ?_ (fun a w hF hS => ?_)
  · exact obs_nil
  refine at_end [0, 1, 6, 7, 8] [pl 0 (.slice A1 code1.length c1), pl 1 (.slice A2 guess1.length c2), pl 6 (.int .i64 0), pl 7 (.int .i64 0), pl 8 (.slice A3 (Int.toNat (guess1.length : Int)) c3)] hF rfl (by kernel_rfl) (fun hF => ?_)
  refine then_n ?_
  refine seq_cut (fun a w => ∃ (same2 : Int) (both2 : Int), Fr 62 [pl 6 (.int .i64 same2), pl 7 (.int .i64 both2)] a ∧ Sep w0 B w (fs) ∧ (gameroomref_CodesOf_J1 same2 both2).bind some = some r) ?_ ?_
  · rintro a w ⟨same2, both2, hF, hS, hm⟩
    unfold gameroomref_CodesOf_J1 at hm
    refine reg [] [] [4, 5] [pl 4 (.int .i64 same2), pl 5 (.int .i64 (w64 (both2 - same2)))] hF hS Fol (by kernel_rfl) (by kernel_rfl) (by kernel_rfl) ?_ (fun a w hF hS => ?_)
    · exact obs_nil
    refine wpIn_ret ?_
    have hm : some (same2, (w64 (both2 - same2))) = some r := hm
    obtain rfl := Option.some.inj hm
    exact retV (rs := [.tmp 4, .tmp 5]) (vs := [.int .i64 same2, .int .i64 (w64 (both2 - same2))]) hF rfl (rv_t (by kernel_rfl) <| rv_t (by kernel_rfl) <| rv_nil) rfl ⟨rfl, hS⟩
  · refine reg [] [] [0, 1, 6, 7, 8, 9] [pl 0 (.slice A1 code1.length c1), pl 1 (.slice A2 guess1.length c2), pl 6 (.int .i64 0), pl 7 (.int .i64 0), pl 8 (.slice A3 (Int.toNat (guess1.length : Int)) c3), pl 9 (.int .i64 0)] hF hS Fol (by kernel_rfl) (by kernel_rfl) (by kernel_rfl) ?_ (fun a w hF hS => ?_)
    · exact obs_nil
    refine wpIn_block ?_
    refine wp_loop_model (S := (Int × Int × List Bool × Int)) (R := (Int × Int)) (gameroomref_CodesOf_L1 code1 guess1) (fun x => (gameroomref_CodesOf_K1 x).bind some) r (fun (x : (Int × Int × List Bool × Int)) a w => Fr 62 [pl 0 (.slice A1 code1.length c1), pl 1 (.slice A2 guess1.length c2), pl 6 (.int .i64 x.1), pl 7 (.int .i64 x.2.1), pl 8 (.slice A3 (Int.toNat (guess1.length : Int)) c3), pl 9 (.int .i64 x.2.2.2)] a ∧ Sep w0 B w (own 4 (.slice A3 (Int.toNat (guess1.length : Int)) c3) (vB x.2.2.1) :: fs)) (assoc_b hm) ⟨hF.weak [0, 1, 6, 7, 8, 9] (by kernel_rfl), hS⟩ ?_
    clear hF hS hm
    rintro nn1 ⟨same1, both1, used1, i1⟩ a w ⟨hF, hS⟩ hm
    generalize hφ1 : stK (gameroomref_CodesOf_L1 code1 guess1) nn1 (fun x => (gameroomref_CodesOf_K1 x).bind some) = φ1 at hm
    unfold gameroomref_CodesOf_L1 at hm
    dsimp only at hF hS hm
    refine seq_cut (fun a w => Fr 62 [pl 0 (.slice A1 code1.length c1), pl 1 (.slice A2 guess1.length c2), pl 6 (.int .i64 same1), pl 7 (.int .i64 both1), pl 8 (.slice A3 (Int.toNat (guess1.length : Int)) c3), pl 9 (.int .i64 i1)] a ∧ Sep w0 B w (own 4 (.slice A3 (Int.toNat (guess1.length : Int)) c3) (vB used1) :: fs) ∧ ((gameroomref_CodesOf_J2 code1 guess1 same1 both1 used1 i1)).bind φ1 = some r) ?_ ?_
    · rintro a w ⟨hF, hS, hm⟩
      unfold gameroomref_CodesOf_J2 at hm
      refine seq_cut (fun a w => ∃ (same4 : Int) (both3 : Int) (used2 : List Bool), Fr 62 [pl 0 (.slice A1 code1.length c1), pl 1 (.slice A2 guess1.length c2), pl 6 (.int .i64 same4), pl 7 (.int .i64 both3), pl 8 (.slice A3 (Int.toNat (guess1.length : Int)) c3), pl 9 (.int .i64 i1)] a ∧ Sep w0 B w (own 4 (.slice A3 (Int.toNat (guess1.length : Int)) c3) (vB used2) :: fs) ∧ ((gameroomref_CodesOf_J3 i1) same4 both3 used2).bind φ1 = some r) ?_ ?_
      · rintro a w ⟨same4, both3, used2, hF, hS, hm⟩
        unfold gameroomref_CodesOf_J3 at hm
        refine reg1 [] [] [0, 1, 6, 7, 8, 9] [pl 0 (.slice A1 code1.length c1), pl 1 (.slice A2 guess1.length c2), pl 6 (.int .i64 same4), pl 7 (.int .i64 both3), pl 8 (.slice A3 (Int.toNat (guess1.length : Int)) c3), pl 9 (.int .i64 (w64 (i1 + 1)))] hF hS Fol (by kernel_rfl) (by kernel_rfl) (by kernel_rfl) ?_ (fun a w hF hS => ?_)
        · exact obs_nil
        refine then_n ?_
        rw [← hφ1] at hm
        exact ⟨(same4, both3, used2, (w64 (i1 + 1))), ⟨hF.weak [0, 1, 6, 7, 8, 9] (by kernel_rfl), hS⟩, hm⟩
      · refine wpIn_block ?_
        refine seq_cut (fun a w => ∃ (same3 : Int), Fr 62 [pl 0 (.slice A1 code1.length c1), pl 1 (.slice A2 guess1.length c2), pl 6 (.int .i64 same3), pl 7 (.int .i64 both1), pl 8 (.slice A3 (Int.toNat (guess1.length : Int)) c3), pl 9 (.int .i64 i1)] a ∧ Sep w0 B w (own 4 (.slice A3 (Int.toNat (guess1.length : Int)) c3) (vB used1) :: fs) ∧ ((gameroomref_CodesOf_J4 code1 guess1 both1 used1 i1) same3).bind φ1 = some r) ?_ ?_
        · rintro a w ⟨same3, hF, hS, hm⟩
          unfold gameroomref_CodesOf_J4 at hm
          refine reg [] [] [0, 1, 6, 7, 8, 9, 10] [pl 0 (.slice A1 code1.length c1), pl 1 (.slice A2 guess1.length c2), pl 6 (.int .i64 same3), pl 7 (.int .i64 both1), pl 8 (.slice A3 (Int.toNat (guess1.length : Int)) c3), pl 9 (.int .i64 i1), pl 10 (.int .i64 0)] hF hS Fol (by kernel_rfl) (by kernel_rfl) (by kernel_rfl) ?_ (fun a w hF hS => ?_)
          · exact obs_nil
          refine wpIn_block ?_
          refine wp_loop_model (S := Int) (R := (Int × Int × List Bool)) (gameroomref_CodesOf_L2 code1 guess1 both1 used1 i1 same3) (fun x => ((gameroomref_CodesOf_K2 i1) x).bind φ1) r (fun (x : Int) a w => Fr 62 [pl 0 (.slice A1 code1.length c1), pl 1 (.slice A2 guess1.length c2), pl 6 (.int .i64 same3), pl 7 (.int .i64 both1), pl 8 (.slice A3 (Int.toNat (guess1.length : Int)) c3), pl 9 (.int .i64 i1), pl 10 (.int .i64 x)] a ∧ Sep w0 B w (own 4 (.slice A3 (Int.toNat (guess1.length : Int)) c3) (vB used1) :: fs)) (assoc_b hm) ⟨hF.weak [0, 1, 6, 7, 8, 9, 10] (by kernel_rfl), hS⟩ ?_
          clear hF hS hm
          rintro nn2 k1 a w ⟨hF, hS⟩ hm
          generalize hφ2 : stK (gameroomref_CodesOf_L2 code1 guess1 both1 used1 i1 same3) nn2 (fun x => ((gameroomref_CodesOf_K2 i1) x).bind φ1) = φ2 at hm
          unfold gameroomref_CodesOf_L2 at hm
          dsimp only at hm
          refine seq_cut (fun a w => Fr 62 [pl 0 (.slice A1 code1.length c1), pl 1 (.slice A2 guess1.length c2), pl 6 (.int .i64 same3), pl 7 (.int .i64 both1), pl 8 (.slice A3 (Int.toNat (guess1.length : Int)) c3), pl 9 (.int .i64 i1), pl 10 (.int .i64 k1)] a ∧ Sep w0 B w (own 4 (.slice A3 (Int.toNat (guess1.length : Int)) c3) (vB used1) :: fs) ∧ ((gameroomref_CodesOf_J5 code1 guess1 both1 used1 i1 same3 k1)).bind φ2 = some r) ?_ ?_
          · rintro a w ⟨hF, hS, hm⟩
            unfold gameroomref_CodesOf_J5 at hm
            refine seq_cut (fun a w => Fr 62 [pl 0 (.slice A1 code1.length c1), pl 1 (.slice A2 guess1.length c2), pl 6 (.int .i64 same3), pl 7 (.int .i64 both1), pl 8 (.slice A3 (Int.toNat (guess1.length : Int)) c3), pl 9 (.int .i64 i1), pl 10 (.int .i64 k1)] a ∧ Sep w0 B w (own 4 (.slice A3 (Int.toNat (guess1.length : Int)) c3) (vB used1) :: fs) ∧ ((gameroomref_CodesOf_J6 k1)).bind φ2 = some r) ?_ ?_
            · rintro a w ⟨hF, hS, hm⟩
              unfold gameroomref_CodesOf_J6 at hm
              refine reg1 [] [] [0, 1, 6, 7, 8, 9, 10] [pl 0 (.slice A1 code1.length c1), pl 1 (.slice A2 guess1.length c2), pl 6 (.int .i64 same3), pl 7 (.int .i64 both1), pl 8 (.slice A3 (Int.toNat (guess1.length : Int)) c3), pl 9 (.int .i64 i1), pl 10 (.int .i64 (w64 (k1 + 1)))] hF hS Fol (by kernel_rfl) (by kernel_rfl) (by kernel_rfl) ?_ (fun a w hF hS => ?_)
              · exact obs_nil
              refine then_n ?_
              rw [← hφ2] at hm
              exact ⟨(w64 (k1 + 1)), ⟨hF.weak [0, 1, 6, 7, 8, 9, 10] (by kernel_rfl), hS⟩, hm⟩
            · refine wpIn_block ?_
              obtain ⟨hp4, hm⟩ := asrt_b hm
              obtain ⟨hp5, hm⟩ := asrt_b hm
              obtain ⟨hp6, hm⟩ := asrt_b hm
              refine reg [⟨true, [], vS (Instr.indexAt 82 (.slice A3 (Int.toNat (guess1.length : Int)) c3) (.int .i64 k1)), .pointer (some (sAddr A3 k1))⟩, ⟨false, [], vS (Instr.loadAt 4 (.pointer (some (sAddr A3 k1)))), .bool (getb used1 k1)⟩, ⟨true, [(!(getb used1 k1), true)], vS (Instr.indexAt 22 (.slice A2 guess1.length c2) (.int .i64 k1)), .pointer (some (sAddr A2 k1))⟩, ⟨false, [(!(getb used1 k1), true)], vS (Instr.loadAt 3 (.pointer (some (sAddr A2 k1)))), .int .i64 (geti guess1 k1)⟩, ⟨true, [(!(getb used1 k1), true)], vS (Instr.indexAt 22 (.slice A1 code1.length c1) (.int .i64 i1)), .pointer (some (sAddr A1 i1))⟩, ⟨false, [(!(getb used1 k1), true)], vS (Instr.loadAt 3 (.pointer (some (sAddr A1 i1)))), .int .i64 (geti code1 i1)⟩] [none, none, some (.pointer (some (sAddr A3 k1))), some (.bool (getb used1 k1)), none, none, none, none, some (.pointer (some (sAddr A2 k1))), some (.int .i64 (geti guess1 k1)), none, none, some (.pointer (some (sAddr A1 i1))), some (.int .i64 (geti code1 i1)), none, none] [0, 1, 6, 7, 8, 9, 10, 52] [pl 0 (.slice A1 code1.length c1), pl 1 (.slice A2 guess1.length c2), pl 6 (.int .i64 same3), pl 7 (.int .i64 both1), pl 8 (.slice A3 (Int.toNat (guess1.length : Int)) c3), pl 9 (.int .i64 i1), pl 10 (.int .i64 k1), pl 52 (.bool ((!(getb used1 k1)) && ((geti guess1 k1) == (geti code1 i1))))] hF hS Fol (by kernel_rfl) (by kernel_rfl) (by kernel_rfl) ?_ (fun a w hF hS => ?_)
              · exact obs_cons (ob_ix1 (f := Value.bool) (m := used1) Und82 hi4 hs4 (hS.at_ 0 rfl).rd ((hS.at_ 0 rfl).len1) (fun _ => hp4)) <| obs_cons (ob_get1 (n := (Int.toNat (guess1.length : Int))) (m := used1) Value.bool false Agg4 (fun _ hS => ⟨_, (hS.at_ 0 rfl).rd⟩) (fun _ hS => ((hS.at_ 0 rfl).len1)) (fun _ => hp4)) <| obs_cons (ob_ix1 (f := (Value.int .i64)) (m := guess1) Und22 hi3 hs3 (hr_guess1 _ (hS.dropN 1)) rfl (fun hy => hp5 (hy (!(getb used1 k1), true) (by simp)))) <| obs_cons (ob_get1 (n := guess1.length) (m := guess1) (Value.int .i64) (0 : Int) Agg3 (fun _ hS => ⟨_, (hr_guess1 _ (hS.dropN 1))⟩) (fun _ hS => rfl) (fun hy => hp5 (hy (!(getb used1 k1), true) (by simp)))) <| obs_cons (ob_ix1 (f := (Value.int .i64)) (m := code1) Und22 hi3 hs3 (hr_code1 _ (hS.dropN 1)) rfl (fun hy => hp6 (hy (!(getb used1 k1), true) (by simp)))) <| obs_cons (ob_get1 (n := code1.length) (m := code1) (Value.int .i64) (0 : Int) Agg3 (fun _ hS => ⟨_, (hr_code1 _ (hS.dropN 1))⟩) (fun _ hS => rfl) (fun hy => hp6 (hy (!(getb used1 k1), true) (by simp)))) <| obs_nil
              refine cond_ev (t := 52) (b := (!(getb used1 k1)) && ((geti guess1 k1) == (geti code1 i1))) hF (by kernel_rfl) (fun hb => ?_) (fun hb => ?_)
              · replace hm := if_t hm hb
                refine seqR ?_
                obtain ⟨hp7, hm⟩ := asrt_b hm
                refine at_run 3 [⟨true, [], vS (Instr.indexAt 82 (.slice A3 (Int.toNat (guess1.length : Int)) c3) (.int .i64 k1)), .pointer (some (sAddr A3 k1))⟩] [none, none, some (.pointer (some (sAddr A3 k1)))] [0, 1, 6, 7, 8, 9, 55] [pl 0 (.slice A1 code1.length c1), pl 1 (.slice A2 guess1.length c2), pl 6 (.int .i64 same3), pl 7 (.int .i64 both1), pl 8 (.slice A3 (Int.toNat (guess1.length : Int)) c3), pl 9 (.int .i64 i1), pl 55 (.pointer (some (sAddr A3 k1)))] hF hS (by kernel_rfl) (by kernel_rfl) ?_ (fun a w hF hS => ?_)
                · exact obs_cons (ob_ix1 (f := Value.bool) (m := used1) Und82 hi4 hs4 (hS.at_ 0 rfl).rd ((hS.at_ 0 rfl).len1) (fun _ => hp7)) <| obs_nil
                obtain ⟨w, hrun, hS⟩ := run_set1 (P := Tryd.prog) (t := 4) (x := true) Value.bool (hS.at_ 0 rfl) hi4 hs4 rfl rfl hp7
                refine at_skip hF (by kernel_rfl) hrun ?_
                have hS : Sep w0 B w (own 4 (.slice A3 (Int.toNat (guess1.length : Int)) c3) (vB (used1.set (Int.toNat k1) true)) :: fs) := hS
                refine at_end [0, 1, 6, 7, 8, 9] [pl 0 (.slice A1 code1.length c1), pl 1 (.slice A2 guess1.length c2), pl 6 (.int .i64 same3), pl 7 (.int .i64 both1), pl 8 (.slice A3 (Int.toNat (guess1.length : Int)) c3), pl 9 (.int .i64 i1)] hF rfl (by kernel_rfl) (fun hF => ?_)
                refine then_n ?_
                refine reg [] [] [0, 1, 6, 7, 8, 9] [pl 0 (.slice A1 code1.length c1), pl 1 (.slice A2 guess1.length c2), pl 6 (.int .i64 same3), pl 7 (.int .i64 (w64 (both1 + 1))), pl 8 (.slice A3 (Int.toNat (guess1.length : Int)) c3), pl 9 (.int .i64 i1)] hF hS Fol (by kernel_rfl) (by kernel_rfl) (by kernel_rfl) ?_ (fun a w hF hS => ?_)
                · exact obs_nil
                refine wpIn_exit ?_
                refine block_o rfl (then_e (then_e (block_e (block_n (then_n ?_)))))
                rw [← hφ2] at hm
                replace hm := done_b hm
                unfold gameroomref_CodesOf_K2 at hm
                try dsimp only at hm
                have hm : ((gameroomref_CodesOf_J3 i1) same3 (w64 (both1 + 1)) (used1.set (Int.toNat k1) true)).bind φ1 = some r := hm
                exact ⟨same3, (w64 (both1 + 1)), (used1.set (Int.toNat k1) true), hF.weak [0, 1, 6, 7, 8, 9] (by kernel_rfl), hS, hm⟩
              · replace hm := if_f hm hb
                refine wpIn_skip ?_
                refine block_n ?_
                refine then_n ?_
                exact ⟨hF.weak [0, 1, 6, 7, 8, 9, 10] (by kernel_rfl), hS, hm⟩
          · refine reg [] [] [0, 1, 6, 7, 8, 9, 10, 34] [pl 0 (.slice A1 code1.length c1), pl 1 (.slice A2 guess1.length c2), pl 6 (.int .i64 same3), pl 7 (.int .i64 both1), pl 8 (.slice A3 (Int.toNat (guess1.length : Int)) c3), pl 9 (.int .i64 i1), pl 10 (.int .i64 k1), pl 34 (.bool (decide (k1 < (guess1.length : Int))))] hF hS Fol (by kernel_rfl) (by kernel_rfl) (by kernel_rfl) ?_ (fun a w hF hS => ?_)
            · exact obs_nil
            refine cond_ev (t := 34) (b := decide (k1 < (guess1.length : Int))) hF (by kernel_rfl) (fun hb => ?_) (fun hb => ?_)
            · replace hm := if_t hm hb
              refine wpIn_skip ?_
              refine then_n ?_
              exact ⟨hF.weak [0, 1, 6, 7, 8, 9, 10] (by kernel_rfl), hS, hm⟩
            · replace hm := if_f hm hb
              refine wpIn_exit ?_
              refine then_e (then_e (block_e (block_n (then_n ?_))))
              rw [← hφ2] at hm
              replace hm := done_b hm
              unfold gameroomref_CodesOf_K2 at hm
              try dsimp only at hm
              have hm : ((gameroomref_CodesOf_J3 i1) same3 both1 used1).bind φ1 = some r := hm
              exact ⟨same3, both1, used1, hF.weak [0, 1, 6, 7, 8, 9] (by kernel_rfl), hS, hm⟩
        · obtain ⟨hp2, hm⟩ := asrt_b hm
          obtain ⟨hp3, hm⟩ := asrt_b hm
          refine reg [⟨true, [], vS (Instr.indexAt 22 (.slice A1 code1.length c1) (.int .i64 i1)), .pointer (some (sAddr A1 i1))⟩, ⟨false, [], vS (Instr.loadAt 3 (.pointer (some (sAddr A1 i1)))), .int .i64 (geti code1 i1)⟩, ⟨true, [], vS (Instr.indexAt 22 (.slice A2 guess1.length c2) (.int .i64 i1)), .pointer (some (sAddr A2 i1))⟩, ⟨false, [], vS (Instr.loadAt 3 (.pointer (some (sAddr A2 i1)))), .int .i64 (geti guess1 i1)⟩] [none, none, some (.pointer (some (sAddr A1 i1))), some (.int .i64 (geti code1 i1)), none, none, some (.pointer (some (sAddr A2 i1))), some (.int .i64 (geti guess1 i1)), none] [0, 1, 6, 7, 8, 9, 28] [pl 0 (.slice A1 code1.length c1), pl 1 (.slice A2 guess1.length c2), pl 6 (.int .i64 same1), pl 7 (.int .i64 both1), pl 8 (.slice A3 (Int.toNat (guess1.length : Int)) c3), pl 9 (.int .i64 i1), pl 28 (.bool ((geti code1 i1) == (geti guess1 i1)))] hF hS Fol (by kernel_rfl) (by kernel_rfl) (by kernel_rfl) ?_ (fun a w hF hS => ?_)
          · exact obs_cons (ob_ix1 (f := (Value.int .i64)) (m := code1) Und22 hi3 hs3 (hr_code1 _ (hS.dropN 1)) rfl (fun _ => hp2)) <| obs_cons (ob_get1 (n := code1.length) (m := code1) (Value.int .i64) (0 : Int) Agg3 (fun _ hS => ⟨_, (hr_code1 _ (hS.dropN 1))⟩) (fun _ hS => rfl) (fun _ => hp2)) <| obs_cons (ob_ix1 (f := (Value.int .i64)) (m := guess1) Und22 hi3 hs3 (hr_guess1 _ (hS.dropN 1)) rfl (fun _ => hp3)) <| obs_cons (ob_get1 (n := guess1.length) (m := guess1) (Value.int .i64) (0 : Int) Agg3 (fun _ hS => ⟨_, (hr_guess1 _ (hS.dropN 1))⟩) (fun _ hS => rfl) (fun _ => hp3)) <| obs_nil
          refine cond_ev (t := 28) (b := ((geti code1 i1) == (geti guess1 i1))) hF (by kernel_rfl) (fun hb => ?_) (fun hb => ?_)
          · replace hm := if_t hm hb
            refine reg1 [] [] [0, 1, 6, 7, 8, 9] [pl 0 (.slice A1 code1.length c1), pl 1 (.slice A2 guess1.length c2), pl 6 (.int .i64 (w64 (same1 + 1))), pl 7 (.int .i64 both1), pl 8 (.slice A3 (Int.toNat (guess1.length : Int)) c3), pl 9 (.int .i64 i1)] hF hS Fol (by kernel_rfl) (by kernel_rfl) (by kernel_rfl) ?_ (fun a w hF hS => ?_)
            · exact obs_nil
            refine then_n ?_
            exact ⟨(w64 (same1 + 1)), hF.weak [0, 1, 6, 7, 8, 9] (by kernel_rfl), hS, hm⟩
          · replace hm := if_f hm hb
            refine wpIn_skip ?_
            refine then_n ?_
            exact ⟨same1, hF.weak [0, 1, 6, 7, 8, 9] (by kernel_rfl), hS, hm⟩
    · refine reg [] [] [0, 1, 6, 7, 8, 9, 17] [pl 0 (.slice A1 code1.length c1), pl 1 (.slice A2 guess1.length c2), pl 6 (.int .i64 same1), pl 7 (.int .i64 both1), pl 8 (.slice A3 (Int.toNat (guess1.length : Int)) c3), pl 9 (.int .i64 i1), pl 17 (.bool (decide (i1 < (code1.length : Int))))] hF hS Fol (by kernel_rfl) (by kernel_rfl) (by kernel_rfl) ?_ (fun a w hF hS => ?_)
      · exact obs_nil
      refine cond_ev (t := 17) (b := decide (i1 < (code1.length : Int))) hF (by kernel_rfl) (fun hb => ?_) (fun hb => ?_)
      · replace hm := if_t hm hb
        refine wpIn_skip ?_
        refine then_n ?_
        exact ⟨hF.weak [0, 1, 6, 7, 8, 9] (by kernel_rfl), hS, hm⟩
      · replace hm := if_f hm hb
        refine wpIn_exit ?_
        refine then_e (then_e (block_e (then_n ?_)))
        have hS := hS.pickN 1 [] (by decide)
        rw [← hφ1] at hm
        replace hm := done_b hm
        unfold gameroomref_CodesOf_K1 at hm
        try dsimp only at hm
        have hm : (gameroomref_CodesOf_J1 same1 both1).bind some = some r := hm
        exact ⟨same1, both1, hF.weak [6, 7] (by kernel_rfl), hS, hm⟩

noncomputable def gameroomref_within_m  (n1 : Int) (low1 : Int) (high1 : Int) : Option Bool :=
  some ((decide (low1 ≤ n1)) && (decide (n1 ≤ high1)))

set_option maxRecDepth 100000 in
set_option maxHeartbeats 4000000 in
theorem gameroomref_within_w  {n1 : Int} {low1 : Int} {high1 : Int} {r : Bool} {w0 w : World} {B : Nat} {fs : List HP} (hm : gameroomref_within_m n1 low1 high1 = some r) (hS : Sep w0 B w (fs)) :
    Calls Tryd.prog 53 #[.int .i64 n1, .int .i64 low1, .int .i64 high1] w fun e w' => e = .returned (.bool r) ∧ Sep w0 B w' (fs) := by
  unfold gameroomref_within_m at hm
  replace hm := start_b hm
  refine enter (l := [.int .i64 n1, .int .i64 low1, .int .i64 high1]) (n := 15) Tryd.func53 rfl rfl (by simp) (fun a hF => ?_)
  refine reg [] [] [0, 1, 2] [pl 0 (.int .i64 n1), pl 1 (.int .i64 low1), pl 2 (.int .i64 high1)] hF hS Fol (by kernel_rfl) (by kernel_rfl) (by kernel_rfl) ?_ (fun a w hF hS => ?_)
  · exact obs_nil
  refine reg [] [] [6] [pl 6 (.bool ((decide (low1 ≤ n1)) && (decide (n1 ≤ high1))))] hF hS Fol (by kernel_rfl) (by kernel_rfl) (by kernel_rfl) ?_ (fun a w hF hS => ?_)
  · exact obs_nil
  refine wpIn_ret ?_
  have hm : some ((decide (low1 ≤ n1)) && (decide (n1 ≤ high1))) = some r := hm
  obtain rfl := Option.some.inj hm
  exact retV (rs := [.tmp 6]) (vs := [.bool ((decide (low1 ≤ n1)) && (decide (n1 ≤ high1)))]) hF rfl (rv_t (by kernel_rfl) <| rv_nil) rfl ⟨rfl, hS⟩

noncomputable def gameroomref_lettersOf_J4  : Option (St (List (List UInt8) × Int) (Fl (List (List UInt8)) (List (List UInt8) × Bool))) :=
  some (.done (.ret (([] : List (List UInt8)), false)))

noncomputable def gameroomref_lettersOf_J3  (s1 : List UInt8) (l1 : List (List UInt8)) (i1 : Int) : Option (St (List (List UInt8) × Int) (Fl (List (List UInt8)) (List (List UInt8) × Bool))) :=
  asrt ((decide ((w64 (i1 + 1)) < (s1.length : Int))) = true → 0 ≤ i1 ∧ i1 < (s1.length : Int)) <| asrt (((decide ((w64 (i1 + 1)) < (s1.length : Int))) && ((getU s1 i1) == 195)) = true → 0 ≤ (w64 (i1 + 1)) ∧ (w64 (i1 + 1)) < (s1.length : Int)) <| ((if ((decide ((w64 (i1 + 1)) < (s1.length : Int))) && ((getU s1 i1) == 195)) then gameroomref_within_m (w64 (getU s1 (w64 (i1 + 1)))) 159 191 else some false)).bind fun r2 => asrt ((((decide ((w64 (i1 + 1)) < (s1.length : Int))) && ((getU s1 i1) == 195)) && r2) = true → 0 ≤ (w64 (i1 + 1)) ∧ (w64 (i1 + 1)) < (s1.length : Int)) <| if ((((decide ((w64 (i1 + 1)) < (s1.length : Int))) && ((getU s1 i1) == 195)) && r2) && ((getU s1 (w64 (i1 + 1))) != 183)) then (asrt (0 ≤ i1 ∧ i1 ≤ (w64 (i1 + 2)) ∧ (w64 (i1 + 2)) ≤ (s1.length : Int)) <| asrt ((l1.length : Int) + 1 ≤ bigP) <| some (.next ((l1 ++ ([(cut s1 i1 (w64 (i1 + 2)))] : List (List UInt8))), (w64 (i1 + 2))))) else (gameroomref_lettersOf_J4)

noncomputable def gameroomref_lettersOf_J2  (s1 : List UInt8) (any1 : Bool) (l1 : List (List UInt8)) (i1 : Int) : Option (St (List (List UInt8) × Int) (Fl (List (List UInt8)) (List (List UInt8) × Bool))) :=
  asrt (0 ≤ i1 ∧ i1 < (s1.length : Int)) <| (gameroomref_within_m (w64 (getU s1 i1)) 97 122).bind fun r1 => asrt (any1 = true → r1 = false → 0 ≤ i1 ∧ i1 < (s1.length : Int)) <| if (r1 || (any1 && ((getU s1 i1) == 63))) then (asrt (0 ≤ i1 ∧ i1 ≤ (w64 (i1 + 1)) ∧ (w64 (i1 + 1)) ≤ (s1.length : Int)) <| asrt ((l1.length : Int) + 1 ≤ bigP) <| some (.next ((l1 ++ ([(cut s1 i1 (w64 (i1 + 1)))] : List (List UInt8))), (w64 (i1 + 1))))) else ((gameroomref_lettersOf_J3 s1 l1 i1))

noncomputable def gameroomref_lettersOf_J1  (l2 : List (List UInt8)) : Option (List (List UInt8) × Bool) :=
  some (l2, true)

noncomputable def gameroomref_lettersOf_K1  : (Fl (List (List UInt8)) (List (List UInt8) × Bool)) → Option (List (List UInt8) × Bool) :=
  fun (x : (Fl (List (List UInt8)) (List (List UInt8) × Bool))) => match x with | .go l2 => gameroomref_lettersOf_J1 l2 | .ret x => some x

noncomputable def gameroomref_lettersOf_L1  (s1 : List UInt8) (any1 : Bool) : (List (List UInt8) × Int) → Option (St (List (List UInt8) × Int) (Fl (List (List UInt8)) (List (List UInt8) × Bool))) :=
  fun (x : (List (List UInt8) × Int)) => match x with | (l1, i1) => if (decide (i1 < (s1.length : Int))) then ((gameroomref_lettersOf_J2 s1 any1 l1 i1)) else (some (.done (.go l1)))

noncomputable def gameroomref_lettersOf_m  (s1 : List UInt8) (any1 : Bool) : Option (List (List UInt8) × Bool) :=
  (loop (gameroomref_lettersOf_L1 s1 any1) (([] : List (List UInt8)), 0)).bind gameroomref_lettersOf_K1

set_option maxRecDepth 100000 in
set_option maxHeartbeats 4000000 in
theorem gameroomref_lettersOf_w  {s1 : List UInt8} {any1 : Bool} {r : (List (List UInt8) × Bool)} {w0 w : World} {B : Nat} {fs : List HP} (hm : gameroomref_lettersOf_m s1 any1 = some r) (hS : Sep w0 B w (fs)) :
    Calls Tryd.prog 52 #[strV s1, .bool any1] w fun e w' => ∃ v, e = .returned v ∧ ∃ (A5 : Option Addr) (c5 : Nat), v = .tuple #[.slice A5 r.1.length c5, .bool r.2] ∧ Sep w0 B w' (own 9 (.slice A5 r.1.length c5) ((List.map strV r.1)) :: fs) := by
  obtain ⟨i9, hi9, hz9, hs9, hb9⟩ := info_parts Info9
  unfold gameroomref_lettersOf_m at hm
  replace hm := start_b hm
  refine enter (l := [strV s1, .bool any1]) (n := 73) Tryd.func52 rfl rfl (by simp) (fun a hF => ?_)
  refine reg [] [] [0, 1] [pl 0 (strV s1), pl 1 (.bool any1)] hF hS Fol (by kernel_rfl) (by kernel_rfl) (by kernel_rfl) ?_ (fun a w hF hS => ?_)
  · exact obs_nil
  refine reg [] [] [0, 1, 6] [pl 0 (strV s1), pl 1 (.bool any1), pl 6 (.slice none 0 0)] hF hS Fol (by kernel_rfl) (by kernel_rfl) (by kernel_rfl) ?_ (fun a w hF hS => ?_)
  · exact obs_nil
  refine seq_cut (fun a w => ∃ (l2 : List (List UInt8)) (A2 : Option Addr) (c2 : Nat), Fr 73 [pl 6 (.slice A2 l2.length c2)] a ∧ Sep w0 B w (own 9 (.slice A2 l2.length c2) ((List.map strV l2)) :: fs) ∧ (gameroomref_lettersOf_J1 l2).bind some = some r) ?_ ?_
  · rintro a w ⟨l2, A2, c2, hF, hS, hm⟩
    unfold gameroomref_lettersOf_J1 at hm
    refine reg [] [] [4, 5] [pl 4 (.slice A2 l2.length c2), pl 5 (.bool true)] hF hS Fol (by kernel_rfl) (by kernel_rfl) (by kernel_rfl) ?_ (fun a w hF hS => ?_)
    · exact obs_nil
    refine wpIn_ret ?_
    have hm : some (l2, true) = some r := hm
    obtain rfl := Option.some.inj hm
    exact retV (rs := [.tmp 4, .tmp 5]) (vs := [.slice A2 l2.length c2, .bool true]) hF rfl (rv_t (by kernel_rfl) <| rv_t (by kernel_rfl) <| rv_nil) rfl ⟨_, rfl, A2, c2, rfl, hS⟩
  · refine reg [] [] [0, 1, 6, 7] [pl 0 (strV s1), pl 1 (.bool any1), pl 6 (.slice none 0 0), pl 7 (.int .i64 0)] hF hS Fol (by kernel_rfl) (by kernel_rfl) (by kernel_rfl) ?_ (fun a w hF hS => ?_)
    · exact obs_nil
    refine wpIn_block ?_
    have hS : Sep w0 B w (own 9 (.slice none 0 0) ((List.map strV ([] : List (List UInt8)))) :: fs) := hS.nil 9
    have hl1 := (hS.at_ 0 rfl).len1
    have hS := (hS.at_ 0 rfl).reN hl1
    have hS : Sep w0 B w (own 9 (.slice none (([] : List (List UInt8)).length) 0) ((List.map strV ([] : List (List UInt8)))) :: fs) := hS
    have hF := hF.cast (t := 6) (v := .slice none 0 0) (v' := .slice none (([] : List (List UInt8)).length) 0) rfl rfl (congrArg (fun k => Value.slice none k 0) hl1)
    refine wp_loop_model (S := (List (List UInt8) × Int)) (R := (Fl (List (List UInt8)) (List (List UInt8) × Bool))) (gameroomref_lettersOf_L1 s1 any1) (fun x => (gameroomref_lettersOf_K1 x).bind some) r (fun (x : (List (List UInt8) × Int)) a w => ∃ (A1 : Option Addr) (c1 : Nat), Fr 73 [pl 0 (strV s1), pl 1 (.bool any1), pl 6 (.slice A1 x.1.length c1), pl 7 (.int .i64 x.2)] a ∧ Sep w0 B w (own 9 (.slice A1 x.1.length c1) ((List.map strV x.1)) :: fs)) (assoc_b hm) ⟨none, 0, hF.weak [0, 1, 6, 7] (by kernel_rfl), hS⟩ ?_
    clear hF hS hm
    rintro nn1 ⟨l1, i1⟩ a w ⟨A1, c1, hF, hS⟩ hm
    generalize hφ1 : stK (gameroomref_lettersOf_L1 s1 any1) nn1 (fun x => (gameroomref_lettersOf_K1 x).bind some) = φ1 at hm
    unfold gameroomref_lettersOf_L1 at hm
    dsimp only at hF hS hm
    refine seq_cut (fun a w => Fr 73 [pl 0 (strV s1), pl 1 (.bool any1), pl 6 (.slice A1 l1.length c1), pl 7 (.int .i64 i1)] a ∧ Sep w0 B w (own 9 (.slice A1 l1.length c1) ((List.map strV l1)) :: fs) ∧ ((gameroomref_lettersOf_J2 s1 any1 l1 i1)).bind φ1 = some r) ?_ ?_
    · rintro a w ⟨hF, hS, hm⟩
      unfold gameroomref_lettersOf_J2 at hm
      refine wpIn_block ?_
      refine seq_cut (fun a w => Fr 73 [pl 0 (strV s1), pl 1 (.bool any1), pl 6 (.slice A1 l1.length c1), pl 7 (.int .i64 i1)] a ∧ Sep w0 B w (own 9 (.slice A1 l1.length c1) ((List.map strV l1)) :: fs) ∧ ((gameroomref_lettersOf_J3 s1 l1 i1)).bind φ1 = some r) ?_ ?_
      · rintro a w ⟨hF, hS, hm⟩
        unfold gameroomref_lettersOf_J3 at hm
        refine seq_cut (fun a w => Fr 73 [] a ∧ Sep w0 B w (fs) ∧ (gameroomref_lettersOf_J4).bind φ1 = some r) ?_ ?_
        · rintro a w ⟨hF, hS, hm⟩
          unfold gameroomref_lettersOf_J4 at hm
          refine reg [] [] [4, 5] [pl 4 (.slice none 0 0), pl 5 (.bool false)] hF hS Fol (by kernel_rfl) (by kernel_rfl) (by kernel_rfl) ?_ (fun a w hF hS => ?_)
          · exact obs_nil
          refine wpIn_ret ?_
          refine block_r (then_r (block_r (then_r ?_)))
          rw [← hφ1] at hm
          replace hm := done_b hm
          unfold gameroomref_lettersOf_K1 at hm
          try dsimp only at hm
          have hS : Sep w0 B w (own 9 (.slice none 0 0) ((List.map strV ([] : List (List UInt8)))) :: fs) := hS.nil 9
          have hl2 := (hS.at_ 0 rfl).len1
          have hS := (hS.at_ 0 rfl).reN hl2
          have hS : Sep w0 B w (own 9 (.slice none (([] : List (List UInt8)).length) 0) ((List.map strV ([] : List (List UInt8)))) :: fs) := hS
          have hm : some (([] : List (List UInt8)), false) = some r := hm
          obtain rfl := Option.some.inj hm
          exact retV (rs := [.tmp 4, .tmp 5]) (vs := [.slice none (([] : List (List UInt8)).length) 0, .bool false]) hF rfl (rv_t (by kernel_rfl) <| rv_t (by kernel_rfl) <| rv_nil) rfl ⟨_, rfl, none, 0, rfl, hS⟩
        · obtain ⟨hp5, hm⟩ := asrt_b hm
          obtain ⟨hp6, hm⟩ := asrt_b hm
          obtain ⟨r2, hr2, hm⟩ := call_b hm
          obtain ⟨hp7, hm⟩ := asrt_b hm
          refine reg [⟨true, [], vS (Builtin.len_ #[9] 3 #[strV s1]), .int .i64 (s1.length : Int)⟩, ⟨true, [(decide ((w64 (i1 + 1)) < (s1.length : Int)), true)], vS (Instr.index 9 (strV s1) (.int .i64 i1)), .int .u8 (getU s1 i1)⟩, ⟨true, [((decide ((w64 (i1 + 1)) < (s1.length : Int))) && ((getU s1 i1) == 195), true)], vS (Instr.index 9 (strV s1) (.int .i64 (w64 (i1 + 1)))), .int .u8 (getU s1 (w64 (i1 + 1)))⟩, ⟨false, [((decide ((w64 (i1 + 1)) < (s1.length : Int))) && ((getU s1 i1) == 195), true)], callFunc 53 #[.int .i64 (w64 (getU s1 (w64 (i1 + 1)))), .int .i64 159, .int .i64 191], .bool r2⟩, ⟨true, [(((decide ((w64 (i1 + 1)) < (s1.length : Int))) && ((getU s1 i1) == 195)) && r2, true)], vS (Instr.index 9 (strV s1) (.int .i64 (w64 (i1 + 1)))), .int .u8 (getU s1 (w64 (i1 + 1)))⟩] [none, none, none, some (.int .i64 (s1.length : Int)), none, none, none, none, some (.int .u8 (getU s1 i1)), none, none, none, none, none, none, some (.int .u8 (getU s1 (w64 (i1 + 1)))), none, some (.bool r2), none, none, none, none, none, some (.int .u8 (getU s1 (w64 (i1 + 1)))), none, none] [0, 1, 6, 7, 61] [pl 0 (strV s1), pl 1 (.bool any1), pl 6 (.slice A1 l1.length c1), pl 7 (.int .i64 i1), pl 61 (.bool ((((decide ((w64 (i1 + 1)) < (s1.length : Int))) && ((getU s1 i1) == 195)) && r2) && ((getU s1 (w64 (i1 + 1))) != 183)))] hF hS Fol (by kernel_rfl) (by kernel_rfl) (by kernel_rfl) ?_ (fun a w hF hS => ?_)
          · exact obs_cons (ob_slen (s := s1) (by kernel_rfl) 3) <| obs_cons (ob_sidx (s := s1) (by kernel_rfl) (fun hy => hp5 (hy (decide ((w64 (i1 + 1)) < (s1.length : Int)), true) (by simp)))) <| obs_cons (ob_sidx (s := s1) (by kernel_rfl) (fun hy => hp6 (hy ((decide ((w64 (i1 + 1)) < (s1.length : Int))) && ((getU s1 i1) == 195), true) (by simp)))) <| obs_cons (ob_call Tryd.func53 (by kernel_rfl) rfl (fun hy _ hS => gameroomref_within_w (ite_some hr2 (by rw [show ((decide ((w64 (i1 + 1)) < (s1.length : Int))) && ((getU s1 i1) == 195)) = true from hy ((decide ((w64 (i1 + 1)) < (s1.length : Int))) && ((getU s1 i1) == 195), true) (by simp)]; try rfl)) hS )) <| obs_cons (ob_sidx (s := s1) (by kernel_rfl) (fun hy => hp7 (hy (((decide ((w64 (i1 + 1)) < (s1.length : Int))) && ((getU s1 i1) == 195)) && r2, true) (by simp)))) <| obs_nil
          refine cond_ev (t := 61) (b := (((decide ((w64 (i1 + 1)) < (s1.length : Int))) && ((getU s1 i1) == 195)) && r2) && ((getU s1 (w64 (i1 + 1))) != 183)) hF (by kernel_rfl) (fun hb => ?_) (fun hb => ?_)
          · replace hm := if_t hm hb
            refine seqR ?_
            obtain ⟨hp8, hm⟩ := asrt_b hm
            obtain ⟨hp9, hm⟩ := asrt_b hm
            refine at_run 6 [⟨true, [], vS (Instr.sliceAt 9 (strV s1) (some (.int .i64 i1)) (some (.int .i64 (w64 (i1 + 2)))) none), strV (cut s1 i1 (w64 (i1 + 2)))⟩] [none, none, none, none, none, some (strV (cut s1 i1 (w64 (i1 + 2))))] [0, 1, 7, 62, 67] [pl 0 (strV s1), pl 1 (.bool any1), pl 7 (.int .i64 i1), pl 62 (.slice A1 l1.length c1), pl 67 (strV (cut s1 i1 (w64 (i1 + 2))))] hF hS (by kernel_rfl) (by kernel_rfl) ?_ (fun a w hF hS => ?_)
            · exact obs_cons (ob_scut (s := s1) (k := .i64) (k' := .i64) (by kernel_rfl) (.inl rfl) (.inl rfl) (fun _ => hp8)) <| obs_nil
            refine at_do (d := 68) (s := vS (Instr.buildSlice 40 1 #[(0, strV (cut s1 i1 (w64 (i1 + 2))))])) (v := .slice (some ⟨w.heap.size, 0, none⟩) 1 1) (w' := w.alloc (.cells #[strV (cut s1 i1 (w64 (i1 + 2)))] 9)) hF (by kernel_rfl) (by kernel_rfl) (by kernel_rfl) (fun a hF => ?_)
            have hS : Sep w0 B (w.alloc (.cells #[strV (cut s1 i1 (w64 (i1 + 2)))] 9)) (own 9 (.slice (some (⟨w.heap.size, 0, none⟩ : Addr)) 1 1) ((List.map strV ([(cut s1 i1 (w64 (i1 + 2)))] : List (List UInt8)))) :: (own 9 (.slice A1 l1.length c1) ((List.map strV l1)) :: fs)) := hS.lit 9 #[strV (cut s1 i1 (w64 (i1 + 2)))] 1 rfl (by omega)
            generalize (some (⟨w.heap.size, 0, none⟩ : Addr)) = g2 at hF hS
            generalize w.alloc (.cells #[strV (cut s1 i1 (w64 (i1 + 2)))] 9) = w at hS ⊢
            obtain ⟨A4, c4, w, hrun, hS⟩ := run_appG (P := Tryd.prog) (t := 40) (m := l1) (ys := ([(cut s1 i1 (w64 (i1 + 2)))] : List (List UInt8))) (A2 := g2) (m2 := 1) (c2 := 1) strV ([] : List UInt8) 8796093022208 (hS.at_ 1 rfl) (hS.at_ 0 rfl).rd ((hS.at_ 0 rfl).len1) 40 Und40 hi9 hz9 hs9 (by rw [hb9]; decide) (by decide) rfl (fun _ => rfl) hp9
            have hS : Sep w0 B w (own 9 (.slice g2 1 1) ((List.map strV ([(cut s1 i1 (w64 (i1 + 2)))] : List (List UInt8)))) :: own 9 (.slice A4 ((l1 ++ ([(cut s1 i1 (w64 (i1 + 2)))] : List (List UInt8))).length) c4) ((List.map strV (l1 ++ ([(cut s1 i1 (w64 (i1 + 2)))] : List (List UInt8))))) :: fs) := hS
            refine at_do (d := 69) hF (by kernel_rfl) (by kernel_rfl) hrun (fun a hF => ?_)
            refine at_run 1 [] [] [0, 1, 6, 7] [pl 0 (strV s1), pl 1 (.bool any1), pl 6 (.slice A4 ((l1 ++ ([(cut s1 i1 (w64 (i1 + 2)))] : List (List UInt8))).length) c4), pl 7 (.int .i64 i1)] hF hS (by kernel_rfl) (by kernel_rfl) ?_ (fun a w hF hS => ?_)
            · exact obs_nil
            refine at_end [0, 1, 6, 7] [pl 0 (strV s1), pl 1 (.bool any1), pl 6 (.slice A4 ((l1 ++ ([(cut s1 i1 (w64 (i1 + 2)))] : List (List UInt8))).length) c4), pl 7 (.int .i64 i1)] hF rfl (by kernel_rfl) (fun hF => ?_)
            refine then_n ?_
            refine reg [] [] [0, 1, 6, 7] [pl 0 (strV s1), pl 1 (.bool any1), pl 6 (.slice A4 ((l1 ++ ([(cut s1 i1 (w64 (i1 + 2)))] : List (List UInt8))).length) c4), pl 7 (.int .i64 (w64 (i1 + 2)))] hF hS Fol (by kernel_rfl) (by kernel_rfl) (by kernel_rfl) ?_ (fun a w hF hS => ?_)
            · exact obs_nil
            refine wpIn_exit ?_
            refine then_e (block_e (then_n ?_))
            have hS := hS.pickN 2 [1] (by decide)
            rw [← hφ1] at hm
            exact ⟨((l1 ++ ([(cut s1 i1 (w64 (i1 + 2)))] : List (List UInt8))), (w64 (i1 + 2))), ⟨A4, c4, hF.weak [0, 1, 6, 7] (by kernel_rfl), hS⟩, hm⟩
          · replace hm := if_f hm hb
            refine wpIn_skip ?_
            refine then_n ?_
            have hS := hS.pickN 1 [] (by decide)
            exact ⟨hF.weak [] (by kernel_rfl), hS, hm⟩
      · obtain ⟨hp1, hm⟩ := asrt_b hm
        obtain ⟨r1, hr1, hm⟩ := call_b hm
        obtain ⟨hp2, hm⟩ := asrt_b hm
        refine reg [⟨true, [], vS (Instr.index 9 (strV s1) (.int .i64 i1)), .int .u8 (getU s1 i1)⟩, ⟨false, [], callFunc 53 #[.int .i64 (w64 (getU s1 i1)), .int .i64 97, .int .i64 122], .bool r1⟩, ⟨true, [(any1, true), (r1, false)], vS (Instr.index 9 (strV s1) (.int .i64 i1)), .int .u8 (getU s1 i1)⟩] [none, none, some (.int .u8 (getU s1 i1)), none, some (.bool r1), none, none, none, none, none, some (.int .u8 (getU s1 i1)), none, none, none] [0, 1, 6, 7, 25] [pl 0 (strV s1), pl 1 (.bool any1), pl 6 (.slice A1 l1.length c1), pl 7 (.int .i64 i1), pl 25 (.bool (r1 || (any1 && ((getU s1 i1) == 63))))] hF hS Fol (by kernel_rfl) (by kernel_rfl) (by kernel_rfl) ?_ (fun a w hF hS => ?_)
        · exact obs_cons (ob_sidx (s := s1) (by kernel_rfl) (fun _ => hp1)) <| obs_cons (ob_call Tryd.func53 (by kernel_rfl) rfl (fun _ _ hS => gameroomref_within_w hr1 hS )) <| obs_cons (ob_sidx (s := s1) (by kernel_rfl) (fun hy => hp2 (hy (any1, true) (by simp)) (hy (r1, false) (by simp)))) <| obs_nil
        refine cond_ev (t := 25) (b := r1 || (any1 && ((getU s1 i1) == 63))) hF (by kernel_rfl) (fun hb => ?_) (fun hb => ?_)
        · replace hm := if_t hm hb
          refine seqR ?_
          obtain ⟨hp3, hm⟩ := asrt_b hm
          obtain ⟨hp4, hm⟩ := asrt_b hm
          refine at_run 6 [⟨true, [], vS (Instr.sliceAt 9 (strV s1) (some (.int .i64 i1)) (some (.int .i64 (w64 (i1 + 1)))) none), strV (cut s1 i1 (w64 (i1 + 1)))⟩] [none, none, none, none, none, some (strV (cut s1 i1 (w64 (i1 + 1))))] [0, 1, 7, 26, 31] [pl 0 (strV s1), pl 1 (.bool any1), pl 7 (.int .i64 i1), pl 26 (.slice A1 l1.length c1), pl 31 (strV (cut s1 i1 (w64 (i1 + 1))))] hF hS (by kernel_rfl) (by kernel_rfl) ?_ (fun a w hF hS => ?_)
          · exact obs_cons (ob_scut (s := s1) (k := .i64) (k' := .i64) (by kernel_rfl) (.inl rfl) (.inl rfl) (fun _ => hp3)) <| obs_nil
          refine at_do (d := 32) (s := vS (Instr.buildSlice 40 1 #[(0, strV (cut s1 i1 (w64 (i1 + 1))))])) (v := .slice (some ⟨w.heap.size, 0, none⟩) 1 1) (w' := w.alloc (.cells #[strV (cut s1 i1 (w64 (i1 + 1)))] 9)) hF (by kernel_rfl) (by kernel_rfl) (by kernel_rfl) (fun a hF => ?_)
          have hS : Sep w0 B (w.alloc (.cells #[strV (cut s1 i1 (w64 (i1 + 1)))] 9)) (own 9 (.slice (some (⟨w.heap.size, 0, none⟩ : Addr)) 1 1) ((List.map strV ([(cut s1 i1 (w64 (i1 + 1)))] : List (List UInt8)))) :: (own 9 (.slice A1 l1.length c1) ((List.map strV l1)) :: fs)) := hS.lit 9 #[strV (cut s1 i1 (w64 (i1 + 1)))] 1 rfl (by omega)
          generalize (some (⟨w.heap.size, 0, none⟩ : Addr)) = g1 at hF hS
          generalize w.alloc (.cells #[strV (cut s1 i1 (w64 (i1 + 1)))] 9) = w at hS ⊢
          obtain ⟨A3, c3, w, hrun, hS⟩ := run_appG (P := Tryd.prog) (t := 40) (m := l1) (ys := ([(cut s1 i1 (w64 (i1 + 1)))] : List (List UInt8))) (A2 := g1) (m2 := 1) (c2 := 1) strV ([] : List UInt8) 8796093022208 (hS.at_ 1 rfl) (hS.at_ 0 rfl).rd ((hS.at_ 0 rfl).len1) 40 Und40 hi9 hz9 hs9 (by rw [hb9]; decide) (by decide) rfl (fun _ => rfl) hp4
          have hS : Sep w0 B w (own 9 (.slice g1 1 1) ((List.map strV ([(cut s1 i1 (w64 (i1 + 1)))] : List (List UInt8)))) :: own 9 (.slice A3 ((l1 ++ ([(cut s1 i1 (w64 (i1 + 1)))] : List (List UInt8))).length) c3) ((List.map strV (l1 ++ ([(cut s1 i1 (w64 (i1 + 1)))] : List (List UInt8))))) :: fs) := hS
          refine at_do (d := 33) hF (by kernel_rfl) (by kernel_rfl) hrun (fun a hF => ?_)
          refine at_run 1 [] [] [0, 1, 6, 7] [pl 0 (strV s1), pl 1 (.bool any1), pl 6 (.slice A3 ((l1 ++ ([(cut s1 i1 (w64 (i1 + 1)))] : List (List UInt8))).length) c3), pl 7 (.int .i64 i1)] hF hS (by kernel_rfl) (by kernel_rfl) ?_ (fun a w hF hS => ?_)
          · exact obs_nil
          refine at_end [0, 1, 6, 7] [pl 0 (strV s1), pl 1 (.bool any1), pl 6 (.slice A3 ((l1 ++ ([(cut s1 i1 (w64 (i1 + 1)))] : List (List UInt8))).length) c3), pl 7 (.int .i64 i1)] hF rfl (by kernel_rfl) (fun hF => ?_)
          refine then_n ?_
          refine reg [] [] [0, 1, 6, 7] [pl 0 (strV s1), pl 1 (.bool any1), pl 6 (.slice A3 ((l1 ++ ([(cut s1 i1 (w64 (i1 + 1)))] : List (List UInt8))).length) c3), pl 7 (.int .i64 (w64 (i1 + 1)))] hF hS Fol (by kernel_rfl) (by kernel_rfl) (by kernel_rfl) ?_ (fun a w hF hS => ?_)
          · exact obs_nil
          refine wpIn_exit ?_
          refine then_e (block_e (then_n ?_))
          have hS := hS.pickN 2 [1] (by decide)
          rw [← hφ1] at hm
          exact ⟨((l1 ++ ([(cut s1 i1 (w64 (i1 + 1)))] : List (List UInt8))), (w64 (i1 + 1))), ⟨A3, c3, hF.weak [0, 1, 6, 7] (by kernel_rfl), hS⟩, hm⟩
        · replace hm := if_f hm hb
          refine wpIn_skip ?_
          refine then_n ?_
          exact ⟨hF.weak [0, 1, 6, 7] (by kernel_rfl), hS, hm⟩
    · refine reg [⟨true, [], vS (Builtin.len_ #[9] 3 #[strV s1]), .int .i64 (s1.length : Int)⟩] [none, none, some (.int .i64 (s1.length : Int)), none] [0, 1, 6, 7, 11] [pl 0 (strV s1), pl 1 (.bool any1), pl 6 (.slice A1 l1.length c1), pl 7 (.int .i64 i1), pl 11 (.bool (decide (i1 < (s1.length : Int))))] hF hS Fol (by kernel_rfl) (by kernel_rfl) (by kernel_rfl) ?_ (fun a w hF hS => ?_)
      · exact obs_cons (ob_slen (s := s1) (by kernel_rfl) 3) <| obs_nil
      refine cond_ev (t := 11) (b := decide (i1 < (s1.length : Int))) hF (by kernel_rfl) (fun hb => ?_) (fun hb => ?_)
      · replace hm := if_t hm hb
        refine wpIn_skip ?_
        refine then_n ?_
        exact ⟨hF.weak [0, 1, 6, 7] (by kernel_rfl), hS, hm⟩
      · replace hm := if_f hm hb
        refine wpIn_exit ?_
        refine then_e (then_e (block_e (then_n ?_)))
        rw [← hφ1] at hm
        replace hm := done_b hm
        unfold gameroomref_lettersOf_K1 at hm
        try dsimp only at hm
        have hm : (gameroomref_lettersOf_J1 l1).bind some = some r := hm
        exact ⟨l1, A1, c1, hF.weak [6] (by kernel_rfl), hS, hm⟩

noncomputable def gameroomref_WordMay_m  (s1 : List UInt8) : Option Bool :=
  (gameroomref_lettersOf_m s1 false).bind fun r1 => ((if r1.2 then gameroomref_within_m (r1.1.length : Int) 1 8 else some false)).bind fun r2 => some (r1.2 && r2)

set_option maxRecDepth 100000 in
set_option maxHeartbeats 4000000 in
theorem gameroomref_WordMay_w  {s1 : List UInt8} {r : Bool} {w0 w : World} {B : Nat} {fs : List HP} (hm : gameroomref_WordMay_m s1 = some r) (hS : Sep w0 B w (fs)) :
    Calls Tryd.prog 13 #[strV s1] w fun e w' => e = .returned (.bool r) ∧ Sep w0 B w' (fs) := by
  unfold gameroomref_WordMay_m at hm
  replace hm := start_b hm
  refine enter (l := [strV s1]) (n := 16) Tryd.func13 rfl rfl (by simp) (fun a hF => ?_)
  refine reg [] [] [0] [pl 0 (strV s1)] hF hS Fol (by kernel_rfl) (by kernel_rfl) (by kernel_rfl) ?_ (fun a w hF hS => ?_)
  · exact obs_nil
  refine seqR ?_
  obtain ⟨r1, hr1, hm⟩ := call_b hm
  refine at_run 1 [] [] [6] [pl 6 (strV s1)] hF hS (by kernel_rfl) (by kernel_rfl) ?_ (fun a w hF hS => ?_)
  · exact obs_nil
  refine at_call (f := 52) (args := #[strV s1, .bool false]) (d := 7) hF (by kernel_rfl) (by kernel_rfl) Tryd.func52 (by kernel_rfl) rfl (gameroomref_lettersOf_w hr1 hS ) (fun v a w hR hF => ?_)
  clear hS
  obtain ⟨A1, c1, rfl, hS⟩ := hR
  have hS : Sep w0 B w (own 9 (.slice A1 r1.1.length c1) ((List.map strV r1.1)) :: fs) := hS
  refine at_run 5 [] [] [3, 4] [pl 3 (.slice A1 r1.1.length c1), pl 4 (.bool r1.2)] hF hS (by kernel_rfl) (by kernel_rfl) ?_ (fun a w hF hS => ?_)
  · exact obs_nil
  refine at_end [3, 4] [pl 3 (.slice A1 r1.1.length c1), pl 4 (.bool r1.2)] hF rfl (by kernel_rfl) (fun hF => ?_)
  refine then_n ?_
  obtain ⟨r2, hr2, hm⟩ := call_b hm
  refine reg [⟨false, [(r1.2, true)], callFunc 53 #[.int .i64 (r1.1.length : Int), .int .i64 1, .int .i64 8], .bool r2⟩] [none, none, none, none, some (.bool r2), none, none] [2] [pl 2 (.bool (r1.2 && r2))] hF hS Fol (by kernel_rfl) (by kernel_rfl) (by kernel_rfl) ?_ (fun a w hF hS => ?_)
  · exact obs_cons (ob_call Tryd.func53 (by kernel_rfl) rfl (fun hy _ hS => gameroomref_within_w (ite_some hr2 (by rw [show r1.2 = true from hy (r1.2, true) (by simp)]; try rfl)) hS )) <| obs_nil
  refine wpIn_ret ?_
  have hS := hS.pickN 1 [] (by decide)
  have hm : some (r1.2 && r2) = some r := hm
  obtain rfl := Option.some.inj hm
  exact retV (rs := [.tmp 2]) (vs := [.bool (r1.2 && r2)]) hF rfl (rv_t (by kernel_rfl) <| rv_nil) rfl ⟨rfl, hS⟩

noncomputable def gameroomlaw_letters_J2  (s1 : List UInt8) (n1 : Int) (z1 : Int) : Option (St (Int × Int) Int) :=
  some (.next ((w64 (n1 + 1)), (z1 + swid s1 z1)))

noncomputable def gameroomlaw_letters_J1  (n2 : Int) : Option Int :=
  some n2

noncomputable def gameroomlaw_letters_K1  : Int → Option Int :=
  fun (x : Int) => match x with | n2 => gameroomlaw_letters_J1 n2

noncomputable def gameroomlaw_letters_L1  (s1 : List UInt8) : (Int × Int) → Option (St (Int × Int) Int) :=
  fun (x : (Int × Int)) => match x with | (n1, z1) => if (decide (z1 < (s1.length : Int))) then ((gameroomlaw_letters_J2 s1 n1 z1)) else (some (.done n1))

noncomputable def gameroomlaw_letters_m  (s1 : List UInt8) : Option Int :=
  (loop (gameroomlaw_letters_L1 s1) (0, (0 : Int))).bind gameroomlaw_letters_K1

set_option maxRecDepth 100000 in
set_option maxHeartbeats 4000000 in
theorem gameroomlaw_letters_w  {s1 : List UInt8} {r : Int} {w0 w : World} {B : Nat} {fs : List HP} (hm : gameroomlaw_letters_m s1 = some r) (hS : Sep w0 B w (fs)) :
    Calls Tryd.prog 14 #[strV s1] w fun e w' => e = .returned (.int .i64 r) ∧ Sep w0 B w' (fs) := by
  unfold gameroomlaw_letters_m at hm
  replace hm := start_b hm
  refine enter (l := [strV s1]) (n := 11) Tryd.func14 rfl rfl (by simp) (fun a hF => ?_)
  refine reg [] [] [0] [pl 0 (strV s1)] hF hS Fol (by kernel_rfl) (by kernel_rfl) (by kernel_rfl) ?_ (fun a w hF hS => ?_)
  · exact obs_nil
  refine reg [] [] [0, 3] [pl 0 (strV s1), pl 3 (.int .i64 0)] hF hS Fol (by kernel_rfl) (by kernel_rfl) (by kernel_rfl) ?_ (fun a w hF hS => ?_)
  · exact obs_nil
  refine seq_cut (fun a w => ∃ (n2 : Int), Fr 11 [pl 3 (.int .i64 n2)] a ∧ Sep w0 B w (fs) ∧ (gameroomlaw_letters_J1 n2).bind some = some r) ?_ ?_
  · rintro a w ⟨n2, hF, hS, hm⟩
    unfold gameroomlaw_letters_J1 at hm
    refine reg [] [] [2] [pl 2 (.int .i64 n2)] hF hS Fol (by kernel_rfl) (by kernel_rfl) (by kernel_rfl) ?_ (fun a w hF hS => ?_)
    · exact obs_nil
    refine wpIn_ret ?_
    have hm : some n2 = some r := hm
    obtain rfl := Option.some.inj hm
    exact retV (rs := [.tmp 2]) (vs := [.int .i64 n2]) hF rfl (rv_t (by kernel_rfl) <| rv_nil) rfl ⟨rfl, hS⟩
  · refine seqR ?_
    refine at_run 1 [] [] [3, 4] [pl 3 (.int .i64 0), pl 4 (strV s1)] hF hS (by kernel_rfl) (by kernel_rfl) ?_ (fun a w hF hS => ?_)
    · exact obs_nil
    refine at_do (d := 5) (s := vS (Instr.range 9 (strV s1))) (v := .pointer (some ⟨w.heap.size, 0, none⟩)) (w' := w.alloc (.stringIter ⟨(s1).toArray⟩ 0)) hF (by kernel_rfl) (by kernel_rfl) (run_rangeS (s := s1) (by kernel_rfl)) (fun a hF => ?_)
    have hS : Sep w0 B (w.alloc (.stringIter ⟨(s1).toArray⟩ 0)) (iterH w.heap.size s1 0 :: (fs)) := hS.iterNew _
    generalize w.heap.size = g1 at hF hS
    generalize w.alloc (.stringIter ⟨(s1).toArray⟩ 0) = w at hS ⊢
    refine at_end [3, 5] [pl 3 (.int .i64 0), pl 5 (.pointer (some ⟨g1, 0, none⟩))] hF rfl (by kernel_rfl) (fun hF => ?_)
    refine then_n ?_
    refine wpIn_block ?_
    refine wp_loop_model (S := (Int × Int)) (R := Int) (gameroomlaw_letters_L1 s1) (fun x => (gameroomlaw_letters_K1 x).bind some) r (fun (x : (Int × Int)) a w => Fr 11 [pl 3 (.int .i64 x.1), pl 5 (.pointer (some ⟨g1, 0, none⟩))] a ∧ Sep w0 B w (iterH g1 s1 x.2 :: fs)) (assoc_b hm) ⟨hF.weak [3, 5] (by kernel_rfl), hS⟩ ?_
    clear hF hS hm
    rintro nn1 ⟨n1, z1⟩ a w ⟨hF, hS⟩ hm
    generalize hφ1 : stK (gameroomlaw_letters_L1 s1) nn1 (fun x => (gameroomlaw_letters_K1 x).bind some) = φ1 at hm
    unfold gameroomlaw_letters_L1 at hm
    dsimp only at hF hS hm
    refine seqR ?_
    rcases Bool.eq_false_or_eq_true (decide (z1 < (s1.length : Int))) with hg1 | hg1
    · replace hm := if_t hm hg1
      obtain ⟨w, hrun, hS⟩ := run_nextT (P := Tryd.prog) (ty := 0) hg1 (hS.at_ 0 rfl)
      refine at_do (d := 6) hF (by kernel_rfl) (by kernel_rfl) hrun (fun a hF => ?_)
      have hS : Sep w0 B w (iterH g1 s1 (z1 + swid s1 z1) :: fs) := hS
      refine at_run 1 [] [] [3, 5, 7] [pl 3 (.int .i64 n1), pl 5 (.pointer (some ⟨g1, 0, none⟩)), pl 7 (.bool true)] hF hS (by kernel_rfl) (by kernel_rfl) ?_ (fun a w hF hS => ?_)
      · exact obs_nil
      refine at_end [3, 5, 7] [pl 3 (.int .i64 n1), pl 5 (.pointer (some ⟨g1, 0, none⟩)), pl 7 (.bool true)] hF rfl (by kernel_rfl) (fun hF => ?_)
      refine then_n ?_
      refine seq_cut (fun a w => Fr 11 [pl 3 (.int .i64 n1), pl 5 (.pointer (some ⟨g1, 0, none⟩))] a ∧ Sep w0 B w (iterH g1 s1 (z1 + swid s1 z1) :: fs) ∧ ((gameroomlaw_letters_J2 s1 n1 z1)).bind φ1 = some r) ?_ ?_
      · rintro a w ⟨hF, hS, hm⟩
        unfold gameroomlaw_letters_J2 at hm
        refine wpIn_block ?_
        refine reg1 [] [] [3, 5] [pl 3 (.int .i64 (w64 (n1 + 1))), pl 5 (.pointer (some ⟨g1, 0, none⟩))] hF hS Fol (by kernel_rfl) (by kernel_rfl) (by kernel_rfl) ?_ (fun a w hF hS => ?_)
        · exact obs_nil
        refine block_n ?_
        refine then_n ?_
        rw [← hφ1] at hm
        exact ⟨((w64 (n1 + 1)), (z1 + swid s1 z1)), ⟨hF.weak [3, 5] (by kernel_rfl), hS⟩, hm⟩
      · refine cond_ev (t := 7) (b := true) hF (by kernel_rfl) (fun hb => ?_) (fun hb => ?_)
        · refine wpIn_skip ?_
          refine then_n ?_
          exact ⟨hF.weak [3, 5] (by kernel_rfl), hS, hm⟩
        · exact absurd hb (by decide)
    · replace hm := if_f hm hg1
      refine at_do (d := 6) hF (by kernel_rfl) (by kernel_rfl) (run_nextF (P := Tryd.prog) (ty := 0) hg1 (hS.at_ 0 rfl)) (fun a hF => ?_)
      refine at_run 1 [] [] [3, 5, 7] [pl 3 (.int .i64 n1), pl 5 (.pointer (some ⟨g1, 0, none⟩)), pl 7 (.bool false)] hF hS (by kernel_rfl) (by kernel_rfl) ?_ (fun a w hF hS => ?_)
      · exact obs_nil
      refine at_end [3, 5, 7] [pl 3 (.int .i64 n1), pl 5 (.pointer (some ⟨g1, 0, none⟩)), pl 7 (.bool false)] hF rfl (by kernel_rfl) (fun hF => ?_)
      refine then_n ?_
      refine seq_cut (fun _ _ => False) (fun _ _ h => h.elim) ?_
      refine cond_ev (t := 7) (b := false) hF (by kernel_rfl) (fun hb => ?_) (fun hb => ?_)
      · exact absurd hb (by decide)
      · refine wpIn_exit ?_
        refine then_e (then_e (block_e (then_n ?_)))
        have hS := hS.pickN 1 [] (by decide)
        rw [← hφ1] at hm
        replace hm := done_b hm
        unfold gameroomlaw_letters_K1 at hm
        try dsimp only at hm
        have hm : (gameroomlaw_letters_J1 n1).bind some = some r := hm
        exact ⟨n1, hF.weak [3] (by kernel_rfl), hS, hm⟩

noncomputable def gameroomref_HintOf_J3  (r1 : (List (List UInt8) × Bool)) (r2 : (List (List UInt8) × Bool)) (told1 : List Bool) (i1 : Int) : Option (St (List Bool × Int) (List Bool)) :=
  some (.next ((told1.set (Int.toNat i1) ((getd ([] : List UInt8) r1.1 i1) == (getd ([] : List UInt8) r2.1 i1))), (w64 (i1 + 1))))

noncomputable def gameroomref_HintOf_J2  (r1 : (List (List UInt8) × Bool)) (r2 : (List (List UInt8) × Bool)) (told1 : List Bool) (i1 : Int) : Option (St (List Bool × Int) (List Bool)) :=
  asrt (0 ≤ i1 ∧ i1 < (r1.1.length : Int)) <| asrt (0 ≤ i1 ∧ i1 < (r2.1.length : Int)) <| asrt (0 ≤ i1 ∧ i1 < (((Int.toNat (r1.1.length : Int)) : Nat) : Int)) <| (gameroomref_HintOf_J3 r1 r2 told1 i1)

noncomputable def gameroomref_HintOf_J10  (k1 : Int) (told6 : List Bool) (sign4 : List UInt8) : Option (St (List Bool × List UInt8 × Int) (List Bool × List UInt8)) :=
  some (.next (told6, sign4, (w64 (k1 + 1))))

noncomputable def gameroomref_HintOf_J9  (r1 : (List (List UInt8) × Bool)) (r2 : (List (List UInt8) × Bool)) (i2 : Int) (told4 : List Bool) (sign2 : List UInt8) (k1 : Int) : Option (St (List Bool × List UInt8 × Int) (List Bool × List UInt8)) :=
  asrt (0 ≤ k1 ∧ k1 < (((Int.toNat (r1.1.length : Int)) : Nat) : Int)) <| asrt ((!(getb told4 k1)) = true → 0 ≤ k1 ∧ k1 < (r1.1.length : Int)) <| asrt ((!(getb told4 k1)) = true → 0 ≤ i2 ∧ i2 < (r2.1.length : Int)) <| if ((!(getb told4 k1)) && ((getd ([] : List UInt8) r1.1 k1) == (getd ([] : List UInt8) r2.1 i2))) then (asrt (0 ≤ k1 ∧ k1 < (((Int.toNat (r1.1.length : Int)) : Nat) : Int)) <| (gameroomref_HintOf_J10 k1) (told4.set (Int.toNat k1) true) ([121] : List UInt8)) else ((gameroomref_HintOf_J10 k1) told4 sign2)

noncomputable def gameroomref_HintOf_L3  (r1 : (List (List UInt8) × Bool)) (r2 : (List (List UInt8) × Bool)) (i2 : Int) : (List Bool × List UInt8 × Int) → Option (St (List Bool × List UInt8 × Int) (List Bool × List UInt8)) :=
  fun (x : (List Bool × List UInt8 × Int)) => match x with | (told4, sign2, k1) => if ((decide (k1 < (r1.1.length : Int))) && (sign2 == ([46] : List UInt8))) then ((gameroomref_HintOf_J9 r1 r2 i2 told4 sign2 k1)) else (some (.done (told4, sign2)))

noncomputable def gameroomref_HintOf_J6  (i2 : Int) (told7 : List Bool) (s3 : List UInt8) : Option (St (List Bool × List UInt8 × Int) (List UInt8)) :=
  some (.next (told7, s3, (w64 (i2 + 1))))

noncomputable def gameroomref_HintOf_J8  (s1 : List UInt8) (i2 : Int) (told5 : List Bool) (sign3 : List UInt8) : Option (St (List Bool × List UInt8 × Int) (List UInt8)) :=
  asrt ((s1.length : Int) + sign3.length ≤ bigN) <| (gameroomref_HintOf_J6 i2) told5 (s1 ++ sign3)

noncomputable def gameroomref_HintOf_K3  (s1 : List UInt8) (i2 : Int) : (List Bool × List UInt8) → Option (St (List Bool × List UInt8 × Int) (List UInt8)) :=
  fun (x : (List Bool × List UInt8)) => match x with | (told5, sign3) => (gameroomref_HintOf_J8 s1 i2) told5 sign3

noncomputable def gameroomref_HintOf_J7  (r1 : (List (List UInt8) × Bool)) (r2 : (List (List UInt8) × Bool)) (told3 : List Bool) (s1 : List UInt8) (i2 : Int) (sign1 : List UInt8) : Option (St (List Bool × List UInt8 × Int) (List UInt8)) :=
  (loop (gameroomref_HintOf_L3 r1 r2 i2) (told3, sign1, 0)).bind (gameroomref_HintOf_K3 s1 i2)

noncomputable def gameroomref_HintOf_J5  (r1 : (List (List UInt8) × Bool)) (r2 : (List (List UInt8) × Bool)) (told3 : List Bool) (s1 : List UInt8) (i2 : Int) : Option (St (List Bool × List UInt8 × Int) (List UInt8)) :=
  asrt (0 ≤ i2 ∧ i2 < (r1.1.length : Int)) <| asrt (0 ≤ i2 ∧ i2 < (r2.1.length : Int)) <| if ((getd ([] : List UInt8) r1.1 i2) == (getd ([] : List UInt8) r2.1 i2)) then ((gameroomref_HintOf_J7 r1 r2 told3 s1 i2) ([103] : List UInt8)) else ((gameroomref_HintOf_J7 r1 r2 told3 s1 i2) ([46] : List UInt8))

noncomputable def gameroomref_HintOf_L2  (r1 : (List (List UInt8) × Bool)) (r2 : (List (List UInt8) × Bool)) : (List Bool × List UInt8 × Int) → Option (St (List Bool × List UInt8 × Int) (List UInt8)) :=
  fun (x : (List Bool × List UInt8 × Int)) => match x with | (told3, s1, i2) => if (decide (i2 < (r2.1.length : Int))) then ((gameroomref_HintOf_J5 r1 r2 told3 s1 i2)) else (some (.done s1))

noncomputable def gameroomref_HintOf_J4  (s2 : List UInt8) : Option (List UInt8) :=
  some s2

noncomputable def gameroomref_HintOf_K2  : (List UInt8) → Option (List UInt8) :=
  fun (x : (List UInt8)) => match x with | s2 => gameroomref_HintOf_J4 s2

noncomputable def gameroomref_HintOf_J1  (r1 : (List (List UInt8) × Bool)) (r2 : (List (List UInt8) × Bool)) (told2 : List Bool) : Option (List UInt8) :=
  (loop (gameroomref_HintOf_L2 r1 r2) (told2, ([] : List UInt8), 0)).bind gameroomref_HintOf_K2

noncomputable def gameroomref_HintOf_K1  (r1 : (List (List UInt8) × Bool)) (r2 : (List (List UInt8) × Bool)) : (List Bool) → Option (List UInt8) :=
  fun (x : (List Bool)) => match x with | told2 => (gameroomref_HintOf_J1 r1 r2) told2

noncomputable def gameroomref_HintOf_L1  (r1 : (List (List UInt8) × Bool)) (r2 : (List (List UInt8) × Bool)) : (List Bool × Int) → Option (St (List Bool × Int) (List Bool)) :=
  fun (x : (List Bool × Int)) => match x with | (told1, i1) => if (decide (i1 < (r1.1.length : Int))) then ((gameroomref_HintOf_J2 r1 r2 told1 i1)) else (some (.done told1))

noncomputable def gameroomref_HintOf_m  (secret1 : List UInt8) (guess1 : List UInt8) : Option (List UInt8) :=
  (gameroomref_lettersOf_m secret1 false).bind fun r1 => (gameroomref_lettersOf_m guess1 false).bind fun r2 => asrt ((0 : Int) ≤ (r1.1.length : Int) ∧ (r1.1.length : Int) ≤ bigN) <| (loop (gameroomref_HintOf_L1 r1 r2) ((List.replicate (Int.toNat (r1.1.length : Int)) false), 0)).bind (gameroomref_HintOf_K1 r1 r2)

set_option maxRecDepth 100000 in
set_option maxHeartbeats 4000000 in
theorem gameroomref_HintOf_w  {secret1 : List UInt8} {guess1 : List UInt8} {r : (List UInt8)} {w0 w : World} {B : Nat} {fs : List HP} (hm : gameroomref_HintOf_m secret1 guess1 = some r) (hS : Sep w0 B w (fs)) :
    Calls Tryd.prog 15 #[strV secret1, strV guess1] w fun e w' => e = .returned (strV r) ∧ Sep w0 B w' (fs) := by
  obtain ⟨i4, hi4, hz4, hs4, hb4⟩ := info_parts Info4
  obtain ⟨i9, hi9, hz9, hs9, hb9⟩ := info_parts Info9
  unfold gameroomref_HintOf_m at hm
  replace hm := start_b hm
  refine enter (l := [strV secret1, strV guess1]) (n := 94) Tryd.func15 rfl rfl (by simp) (fun a hF => ?_)
  refine reg [] [] [0, 1] [pl 0 (strV secret1), pl 1 (strV guess1)] hF hS Fol (by kernel_rfl) (by kernel_rfl) (by kernel_rfl) ?_ (fun a w hF hS => ?_)
  · exact obs_nil
  refine seqR ?_
  obtain ⟨r1, hr1, hm⟩ := call_b hm
  refine at_run 1 [] [] [1, 16] [pl 1 (strV guess1), pl 16 (strV secret1)] hF hS (by kernel_rfl) (by kernel_rfl) ?_ (fun a w hF hS => ?_)
  · exact obs_nil
  refine at_call (f := 52) (args := #[strV secret1, .bool false]) (d := 17) hF (by kernel_rfl) (by kernel_rfl) Tryd.func52 (by kernel_rfl) rfl (gameroomref_lettersOf_w hr1 hS ) (fun v a w hR hF => ?_)
  clear hS
  obtain ⟨A1, c1, rfl, hS⟩ := hR
  have hS : Sep w0 B w (own 9 (.slice A1 r1.1.length c1) ((List.map strV r1.1)) :: fs) := hS
  refine at_run 5 [] [] [1, 5] [pl 1 (strV guess1), pl 5 (.slice A1 r1.1.length c1)] hF hS (by kernel_rfl) (by kernel_rfl) ?_ (fun a w hF hS => ?_)
  · exact obs_nil
  refine at_end [1, 5] [pl 1 (strV guess1), pl 5 (.slice A1 r1.1.length c1)] hF rfl (by kernel_rfl) (fun hF => ?_)
  refine then_n ?_
  refine seqR ?_
  obtain ⟨r2, hr2, hm⟩ := call_b hm
  refine at_run 1 [] [] [5, 21] [pl 5 (.slice A1 r1.1.length c1), pl 21 (strV guess1)] hF hS (by kernel_rfl) (by kernel_rfl) ?_ (fun a w hF hS => ?_)
  · exact obs_nil
  refine at_call (f := 52) (args := #[strV guess1, .bool false]) (d := 22) hF (by kernel_rfl) (by kernel_rfl) Tryd.func52 (by kernel_rfl) rfl (gameroomref_lettersOf_w hr2 hS ) (fun v a w hR hF => ?_)
  clear hS
  obtain ⟨A2, c2, rfl, hS⟩ := hR
  have hS : Sep w0 B w (own 9 (.slice A2 r2.1.length c2) ((List.map strV r2.1)) :: own 9 (.slice A1 r1.1.length c1) ((List.map strV r1.1)) :: fs) := hS
  refine at_run 5 [] [] [5, 7] [pl 5 (.slice A1 r1.1.length c1), pl 7 (.slice A2 r2.1.length c2)] hF hS (by kernel_rfl) (by kernel_rfl) ?_ (fun a w hF hS => ?_)
  · exact obs_nil
  refine at_end [5, 7] [pl 5 (.slice A1 r1.1.length c1), pl 7 (.slice A2 r2.1.length c2)] hF rfl (by kernel_rfl) (fun hF => ?_)
  refine then_n ?_
  refine seqR ?_
  obtain ⟨hp1, hm⟩ := asrt_b hm
  refine at_run 2 [] [] [5, 7, 26] [pl 5 (.slice A1 r1.1.length c1), pl 7 (.slice A2 r2.1.length c2), pl 26 (.int .i64 (r1.1.length : Int))] hF hS (by kernel_rfl) (by kernel_rfl) ?_ (fun a w hF hS => ?_)
  · exact obs_nil
  obtain ⟨A3, c3, w, hrun, hS⟩ := run_mk1 (P := Tryd.prog) (t := 82) Value.bool false hS .i64 .i64 Und82 hi4 hz4 hs4 (by omega) rfl hp1
  have hS : Sep w0 B w (own 4 (.slice A3 (Int.toNat (r1.1.length : Int)) c3) (vB (List.replicate (Int.toNat (r1.1.length : Int)) false)) :: own 9 (.slice A2 r2.1.length c2) ((List.map strV r2.1)) :: own 9 (.slice A1 r1.1.length c1) ((List.map strV r1.1)) :: fs) := hS
  refine at_do (d := 27) hF (by kernel_rfl) (by kernel_rfl) hrun (fun a hF => ?_)
  refine at_run 1 [] [] [5, 7, 9] [pl 5 (.slice A1 r1.1.length c1), pl 7 (.slice A2 r2.1.length c2), pl 9 (.slice A3 (Int.toNat (r1.1.length : Int)) c3)] hF hS (by kernel_rfl) (by kernel_rfl) ?_ (fun a w hF hS => ?_)
  · exact obs_nil
  refine at_end [5, 7, 9] [pl 5 (.slice A1 r1.1.length c1), pl 7 (.slice A2 r2.1.length c2), pl 9 (.slice A3 (Int.toNat (r1.1.length : Int)) c3)] hF rfl (by kernel_rfl) (fun hF => ?_)
  refine then_n ?_
  refine seq_cut (fun a w => ∃ (told2 : List Bool), Fr 94 [pl 5 (.slice A1 r1.1.length c1), pl 7 (.slice A2 r2.1.length c2), pl 9 (.slice A3 (Int.toNat (r1.1.length : Int)) c3)] a ∧ Sep w0 B w (own 9 (.slice A1 r1.1.length c1) ((List.map strV r1.1)) :: own 9 (.slice A2 r2.1.length c2) ((List.map strV r2.1)) :: own 4 (.slice A3 (Int.toNat (r1.1.length : Int)) c3) (vB told2) :: fs) ∧ ((gameroomref_HintOf_J1 r1 r2) told2).bind some = some r) ?_ ?_
  · rintro a w ⟨told2, hF, hS, hm⟩
    unfold gameroomref_HintOf_J1 at hm
    refine reg [] [] [5, 7, 9, 11] [pl 5 (.slice A1 r1.1.length c1), pl 7 (.slice A2 r2.1.length c2), pl 9 (.slice A3 (Int.toNat (r1.1.length : Int)) c3), pl 11 (strV ([] : List UInt8))] hF hS Fol (by kernel_rfl) (by kernel_rfl) (by kernel_rfl) ?_ (fun a w hF hS => ?_)
    · exact obs_nil
    refine seq_cut (fun a w => ∃ (s2 : List UInt8), Fr 94 [pl 11 (strV s2)] a ∧ Sep w0 B w (fs) ∧ (gameroomref_HintOf_J4 s2).bind some = some r) ?_ ?_
    · rintro a w ⟨s2, hF, hS, hm⟩
      unfold gameroomref_HintOf_J4 at hm
      refine reg [] [] [4] [pl 4 (strV s2)] hF hS Fol (by kernel_rfl) (by kernel_rfl) (by kernel_rfl) ?_ (fun a w hF hS => ?_)
      · exact obs_nil
      refine wpIn_ret ?_
      have hm : some s2 = some r := hm
      obtain rfl := Option.some.inj hm
      exact retV (rs := [.tmp 4]) (vs := [strV s2]) hF rfl (rv_t (by kernel_rfl) <| rv_nil) rfl ⟨rfl, hS⟩
    · refine reg [] [] [5, 7, 9, 11, 12] [pl 5 (.slice A1 r1.1.length c1), pl 7 (.slice A2 r2.1.length c2), pl 9 (.slice A3 (Int.toNat (r1.1.length : Int)) c3), pl 11 (strV ([] : List UInt8)), pl 12 (.int .i64 0)] hF hS Fol (by kernel_rfl) (by kernel_rfl) (by kernel_rfl) ?_ (fun a w hF hS => ?_)
      · exact obs_nil
      refine wpIn_block ?_
      refine wp_loop_model (S := (List Bool × List UInt8 × Int)) (R := (List UInt8)) (gameroomref_HintOf_L2 r1 r2) (fun x => (gameroomref_HintOf_K2 x).bind some) r (fun (x : (List Bool × List UInt8 × Int)) a w => Fr 94 [pl 5 (.slice A1 r1.1.length c1), pl 7 (.slice A2 r2.1.length c2), pl 9 (.slice A3 (Int.toNat (r1.1.length : Int)) c3), pl 11 (strV x.2.1), pl 12 (.int .i64 x.2.2)] a ∧ Sep w0 B w (own 9 (.slice A1 r1.1.length c1) ((List.map strV r1.1)) :: own 9 (.slice A2 r2.1.length c2) ((List.map strV r2.1)) :: own 4 (.slice A3 (Int.toNat (r1.1.length : Int)) c3) (vB x.1) :: fs)) (assoc_b hm) ⟨hF.weak [5, 7, 9, 11, 12] (by kernel_rfl), hS⟩ ?_
      clear hF hS hm
      rintro nn2 ⟨told3, s1, i2⟩ a w ⟨hF, hS⟩ hm
      generalize hφ2 : stK (gameroomref_HintOf_L2 r1 r2) nn2 (fun x => (gameroomref_HintOf_K2 x).bind some) = φ2 at hm
      unfold gameroomref_HintOf_L2 at hm
      dsimp only at hF hS hm
      refine seq_cut (fun a w => Fr 94 [pl 5 (.slice A1 r1.1.length c1), pl 7 (.slice A2 r2.1.length c2), pl 9 (.slice A3 (Int.toNat (r1.1.length : Int)) c3), pl 11 (strV s1), pl 12 (.int .i64 i2)] a ∧ Sep w0 B w (own 9 (.slice A1 r1.1.length c1) ((List.map strV r1.1)) :: own 9 (.slice A2 r2.1.length c2) ((List.map strV r2.1)) :: own 4 (.slice A3 (Int.toNat (r1.1.length : Int)) c3) (vB told3) :: fs) ∧ ((gameroomref_HintOf_J5 r1 r2 told3 s1 i2)).bind φ2 = some r) ?_ ?_
      · rintro a w ⟨hF, hS, hm⟩
        unfold gameroomref_HintOf_J5 at hm
        refine seq_cut (fun a w => ∃ (told7 : List Bool) (s3 : List UInt8), Fr 94 [pl 5 (.slice A1 r1.1.length c1), pl 7 (.slice A2 r2.1.length c2), pl 9 (.slice A3 (Int.toNat (r1.1.length : Int)) c3), pl 11 (strV s3), pl 12 (.int .i64 i2)] a ∧ Sep w0 B w (own 9 (.slice A1 r1.1.length c1) ((List.map strV r1.1)) :: own 9 (.slice A2 r2.1.length c2) ((List.map strV r2.1)) :: own 4 (.slice A3 (Int.toNat (r1.1.length : Int)) c3) (vB told7) :: fs) ∧ ((gameroomref_HintOf_J6 i2) told7 s3).bind φ2 = some r) ?_ ?_
        · rintro a w ⟨told7, s3, hF, hS, hm⟩
          unfold gameroomref_HintOf_J6 at hm
          refine reg1 [] [] [5, 7, 9, 11, 12] [pl 5 (.slice A1 r1.1.length c1), pl 7 (.slice A2 r2.1.length c2), pl 9 (.slice A3 (Int.toNat (r1.1.length : Int)) c3), pl 11 (strV s3), pl 12 (.int .i64 (w64 (i2 + 1)))] hF hS Fol (by kernel_rfl) (by kernel_rfl) (by kernel_rfl) ?_ (fun a w hF hS => ?_)
          · exact obs_nil
          refine then_n ?_
          rw [← hφ2] at hm
          exact ⟨(told7, s3, (w64 (i2 + 1))), ⟨hF.weak [5, 7, 9, 11, 12] (by kernel_rfl), hS⟩, hm⟩
        · refine wpIn_block ?_
          refine reg [] [] [5, 7, 9, 11, 12, 13] [pl 5 (.slice A1 r1.1.length c1), pl 7 (.slice A2 r2.1.length c2), pl 9 (.slice A3 (Int.toNat (r1.1.length : Int)) c3), pl 11 (strV s1), pl 12 (.int .i64 i2), pl 13 (strV ([46] : List UInt8))] hF hS Fol (by kernel_rfl) (by kernel_rfl) (by kernel_rfl) ?_ (fun a w hF hS => ?_)
          · exact obs_nil
          refine seq_cut (fun a w => ∃ (sign1 : List UInt8), Fr 94 [pl 5 (.slice A1 r1.1.length c1), pl 7 (.slice A2 r2.1.length c2), pl 9 (.slice A3 (Int.toNat (r1.1.length : Int)) c3), pl 11 (strV s1), pl 12 (.int .i64 i2), pl 13 (strV sign1)] a ∧ Sep w0 B w (own 9 (.slice A1 r1.1.length c1) ((List.map strV r1.1)) :: own 9 (.slice A2 r2.1.length c2) ((List.map strV r2.1)) :: own 4 (.slice A3 (Int.toNat (r1.1.length : Int)) c3) (vB told3) :: fs) ∧ ((gameroomref_HintOf_J7 r1 r2 told3 s1 i2) sign1).bind φ2 = some r) ?_ ?_
          · rintro a w ⟨sign1, hF, hS, hm⟩
            unfold gameroomref_HintOf_J7 at hm
            refine seq_cut (fun a w => ∃ (told5 : List Bool) (sign3 : List UInt8), Fr 94 [pl 5 (.slice A1 r1.1.length c1), pl 7 (.slice A2 r2.1.length c2), pl 9 (.slice A3 (Int.toNat (r1.1.length : Int)) c3), pl 11 (strV s1), pl 12 (.int .i64 i2), pl 13 (strV sign3)] a ∧ Sep w0 B w (own 9 (.slice A1 r1.1.length c1) ((List.map strV r1.1)) :: own 9 (.slice A2 r2.1.length c2) ((List.map strV r2.1)) :: own 4 (.slice A3 (Int.toNat (r1.1.length : Int)) c3) (vB told5) :: fs) ∧ ((gameroomref_HintOf_J8 s1 i2) told5 sign3).bind φ2 = some r) ?_ ?_
            · rintro a w ⟨told5, sign3, hF, hS, hm⟩
              unfold gameroomref_HintOf_J8 at hm
              obtain ⟨hp11, hm⟩ := asrt_b hm
              refine reg1 [⟨true, [], vS (do eqGuard .add 9 (.tmp 90) (.tmp 91) (strV s1) (strV sign3); binOp .add 9 (strV s1) (strV sign3)), strV (s1 ++ sign3)⟩] [none, none, some (strV (s1 ++ sign3)), none] [5, 7, 9, 11, 12] [pl 5 (.slice A1 r1.1.length c1), pl 7 (.slice A2 r2.1.length c2), pl 9 (.slice A3 (Int.toNat (r1.1.length : Int)) c3), pl 11 (strV (s1 ++ sign3)), pl 12 (.int .i64 i2)] hF hS Fol (by kernel_rfl) (by kernel_rfl) (by kernel_rfl) ?_ (fun a w hF hS => ?_)
              · exact obs_cons (ob_sadd _ _ (fun _ => hp11)) <| obs_nil
              refine block_n ?_
              refine then_n ?_
              exact ⟨told5, (s1 ++ sign3), hF.weak [5, 7, 9, 11, 12] (by kernel_rfl), hS, hm⟩
            · refine reg [] [] [5, 7, 9, 11, 12, 13, 14] [pl 5 (.slice A1 r1.1.length c1), pl 7 (.slice A2 r2.1.length c2), pl 9 (.slice A3 (Int.toNat (r1.1.length : Int)) c3), pl 11 (strV s1), pl 12 (.int .i64 i2), pl 13 (strV sign1), pl 14 (.int .i64 0)] hF hS Fol (by kernel_rfl) (by kernel_rfl) (by kernel_rfl) ?_ (fun a w hF hS => ?_)
              · exact obs_nil
              refine wpIn_block ?_
              refine wp_loop_model (S := (List Bool × List UInt8 × Int)) (R := (List Bool × List UInt8)) (gameroomref_HintOf_L3 r1 r2 i2) (fun x => ((gameroomref_HintOf_K3 s1 i2) x).bind φ2) r (fun (x : (List Bool × List UInt8 × Int)) a w => Fr 94 [pl 5 (.slice A1 r1.1.length c1), pl 7 (.slice A2 r2.1.length c2), pl 9 (.slice A3 (Int.toNat (r1.1.length : Int)) c3), pl 11 (strV s1), pl 12 (.int .i64 i2), pl 13 (strV x.2.1), pl 14 (.int .i64 x.2.2)] a ∧ Sep w0 B w (own 9 (.slice A1 r1.1.length c1) ((List.map strV r1.1)) :: own 9 (.slice A2 r2.1.length c2) ((List.map strV r2.1)) :: own 4 (.slice A3 (Int.toNat (r1.1.length : Int)) c3) (vB x.1) :: fs)) (assoc_b hm) ⟨hF.weak [5, 7, 9, 11, 12, 13, 14] (by kernel_rfl), hS⟩ ?_
              clear hF hS hm
              rintro nn3 ⟨told4, sign2, k1⟩ a w ⟨hF, hS⟩ hm
              generalize hφ3 : stK (gameroomref_HintOf_L3 r1 r2 i2) nn3 (fun x => ((gameroomref_HintOf_K3 s1 i2) x).bind φ2) = φ3 at hm
              unfold gameroomref_HintOf_L3 at hm
              dsimp only at hF hS hm
              refine seq_cut (fun a w => Fr 94 [pl 5 (.slice A1 r1.1.length c1), pl 7 (.slice A2 r2.1.length c2), pl 9 (.slice A3 (Int.toNat (r1.1.length : Int)) c3), pl 11 (strV s1), pl 12 (.int .i64 i2), pl 13 (strV sign2), pl 14 (.int .i64 k1)] a ∧ Sep w0 B w (own 9 (.slice A1 r1.1.length c1) ((List.map strV r1.1)) :: own 9 (.slice A2 r2.1.length c2) ((List.map strV r2.1)) :: own 4 (.slice A3 (Int.toNat (r1.1.length : Int)) c3) (vB told4) :: fs) ∧ ((gameroomref_HintOf_J9 r1 r2 i2 told4 sign2 k1)).bind φ3 = some r) ?_ ?_
              · rintro a w ⟨hF, hS, hm⟩
                unfold gameroomref_HintOf_J9 at hm
                refine seq_cut (fun a w => ∃ (told6 : List Bool) (sign4 : List UInt8), Fr 94 [pl 5 (.slice A1 r1.1.length c1), pl 7 (.slice A2 r2.1.length c2), pl 9 (.slice A3 (Int.toNat (r1.1.length : Int)) c3), pl 11 (strV s1), pl 12 (.int .i64 i2), pl 13 (strV sign4), pl 14 (.int .i64 k1)] a ∧ Sep w0 B w (own 9 (.slice A1 r1.1.length c1) ((List.map strV r1.1)) :: own 9 (.slice A2 r2.1.length c2) ((List.map strV r2.1)) :: own 4 (.slice A3 (Int.toNat (r1.1.length : Int)) c3) (vB told6) :: fs) ∧ ((gameroomref_HintOf_J10 k1) told6 sign4).bind φ3 = some r) ?_ ?_
                · rintro a w ⟨told6, sign4, hF, hS, hm⟩
                  unfold gameroomref_HintOf_J10 at hm
                  refine reg1 [] [] [5, 7, 9, 11, 12, 13, 14] [pl 5 (.slice A1 r1.1.length c1), pl 7 (.slice A2 r2.1.length c2), pl 9 (.slice A3 (Int.toNat (r1.1.length : Int)) c3), pl 11 (strV s1), pl 12 (.int .i64 i2), pl 13 (strV sign4), pl 14 (.int .i64 (w64 (k1 + 1)))] hF hS Fol (by kernel_rfl) (by kernel_rfl) (by kernel_rfl) ?_ (fun a w hF hS => ?_)
                  · exact obs_nil
                  refine then_n ?_
                  rw [← hφ3] at hm
                  exact ⟨(told6, sign4, (w64 (k1 + 1))), ⟨hF.weak [5, 7, 9, 11, 12, 13, 14] (by kernel_rfl), hS⟩, hm⟩
                · refine wpIn_block ?_
                  obtain ⟨hp7, hm⟩ := asrt_b hm
                  obtain ⟨hp8, hm⟩ := asrt_b hm
                  obtain ⟨hp9, hm⟩ := asrt_b hm
                  refine reg [⟨true, [], vS (Instr.indexAt 82 (.slice A3 (Int.toNat (r1.1.length : Int)) c3) (.int .i64 k1)), .pointer (some (sAddr A3 k1))⟩, ⟨false, [], vS (Instr.loadAt 4 (.pointer (some (sAddr A3 k1)))), .bool (getb told4 k1)⟩, ⟨true, [(!(getb told4 k1), true)], vS (Instr.indexAt 40 (.slice A1 r1.1.length c1) (.int .i64 k1)), .pointer (some (sAddr A1 k1))⟩, ⟨false, [(!(getb told4 k1), true)], vS (Instr.loadAt 9 (.pointer (some (sAddr A1 k1)))), strV (getd ([] : List UInt8) r1.1 k1)⟩, ⟨true, [(!(getb told4 k1), true)], vS (Instr.indexAt 40 (.slice A2 r2.1.length c2) (.int .i64 i2)), .pointer (some (sAddr A2 i2))⟩, ⟨false, [(!(getb told4 k1), true)], vS (Instr.loadAt 9 (.pointer (some (sAddr A2 i2)))), strV (getd ([] : List UInt8) r2.1 i2)⟩, ⟨true, [(!(getb told4 k1), true)], vS (do eqGuard .eql 9 (.tmp 80) (.tmp 84) (strV (getd ([] : List UInt8) r1.1 k1)) (strV (getd ([] : List UInt8) r2.1 i2)); binOp .eql 9 (strV (getd ([] : List UInt8) r1.1 k1)) (strV (getd ([] : List UInt8) r2.1 i2))), .bool (((getd ([] : List UInt8) r1.1 k1) == (getd ([] : List UInt8) r2.1 i2)))⟩] [none, none, some (.pointer (some (sAddr A3 k1))), some (.bool (getb told4 k1)), none, none, none, none, some (.pointer (some (sAddr A1 k1))), some (strV (getd ([] : List UInt8) r1.1 k1)), none, none, some (.pointer (some (sAddr A2 i2))), some (strV (getd ([] : List UInt8) r2.1 i2)), some (.bool (((getd ([] : List UInt8) r1.1 k1) == (getd ([] : List UInt8) r2.1 i2)))), none] [5, 7, 9, 11, 12, 13, 14, 86] [pl 5 (.slice A1 r1.1.length c1), pl 7 (.slice A2 r2.1.length c2), pl 9 (.slice A3 (Int.toNat (r1.1.length : Int)) c3), pl 11 (strV s1), pl 12 (.int .i64 i2), pl 13 (strV sign2), pl 14 (.int .i64 k1), pl 86 (.bool ((!(getb told4 k1)) && ((getd ([] : List UInt8) r1.1 k1) == (getd ([] : List UInt8) r2.1 i2))))] hF hS Fol (by kernel_rfl) (by kernel_rfl) (by kernel_rfl) ?_ (fun a w hF hS => ?_)
                  · exact obs_cons (ob_ix1 (f := Value.bool) (m := told4) Und82 hi4 hs4 (hS.at_ 2 rfl).rd ((hS.at_ 2 rfl).len1) (fun _ => hp7)) <| obs_cons (ob_get1 (n := (Int.toNat (r1.1.length : Int))) (m := told4) Value.bool false Agg4 (fun _ hS => ⟨_, (hS.at_ 2 rfl).rd⟩) (fun _ hS => ((hS.at_ 2 rfl).len1)) (fun _ => hp7)) <| obs_cons (ob_ix1 (f := strV) (m := r1.1) Und40 hi9 hs9 (hS.at_ 0 rfl).rd rfl (fun hy => hp8 (hy (!(getb told4 k1), true) (by simp)))) <| obs_cons (ob_get1 (n := r1.1.length) (m := r1.1) strV ([] : List UInt8) Agg9 (fun _ hS => ⟨_, (hS.at_ 0 rfl).rd⟩) (fun _ hS => rfl) (fun hy => hp8 (hy (!(getb told4 k1), true) (by simp)))) <| obs_cons (ob_ix1 (f := strV) (m := r2.1) Und40 hi9 hs9 (hS.at_ 1 rfl).rd rfl (fun hy => hp9 (hy (!(getb told4 k1), true) (by simp)))) <| obs_cons (ob_get1 (n := r2.1.length) (m := r2.1) strV ([] : List UInt8) Agg9 (fun _ hS => ⟨_, (hS.at_ 1 rfl).rd⟩) (fun _ hS => rfl) (fun hy => hp9 (hy (!(getb told4 k1), true) (by simp)))) <| obs_cons (ob_seql _ _) <| obs_nil
                  refine cond_ev (t := 86) (b := (!(getb told4 k1)) && ((getd ([] : List UInt8) r1.1 k1) == (getd ([] : List UInt8) r2.1 i2))) hF (by kernel_rfl) (fun hb => ?_) (fun hb => ?_)
                  · replace hm := if_t hm hb
                    refine seqR ?_
                    obtain ⟨hp10, hm⟩ := asrt_b hm
                    refine at_run 3 [⟨true, [], vS (Instr.indexAt 82 (.slice A3 (Int.toNat (r1.1.length : Int)) c3) (.int .i64 k1)), .pointer (some (sAddr A3 k1))⟩] [none, none, some (.pointer (some (sAddr A3 k1)))] [5, 7, 9, 11, 12, 14, 89] [pl 5 (.slice A1 r1.1.length c1), pl 7 (.slice A2 r2.1.length c2), pl 9 (.slice A3 (Int.toNat (r1.1.length : Int)) c3), pl 11 (strV s1), pl 12 (.int .i64 i2), pl 14 (.int .i64 k1), pl 89 (.pointer (some (sAddr A3 k1)))] hF hS (by kernel_rfl) (by kernel_rfl) ?_ (fun a w hF hS => ?_)
                    · exact obs_cons (ob_ix1 (f := Value.bool) (m := told4) Und82 hi4 hs4 (hS.at_ 2 rfl).rd ((hS.at_ 2 rfl).len1) (fun _ => hp10)) <| obs_nil
                    obtain ⟨w, hrun, hS⟩ := run_set1 (P := Tryd.prog) (t := 4) (x := true) Value.bool (hS.at_ 2 rfl) hi4 hs4 rfl rfl hp10
                    refine at_skip hF (by kernel_rfl) hrun ?_
                    have hS : Sep w0 B w (own 9 (.slice A1 r1.1.length c1) ((List.map strV r1.1)) :: own 9 (.slice A2 r2.1.length c2) ((List.map strV r2.1)) :: own 4 (.slice A3 (Int.toNat (r1.1.length : Int)) c3) (vB (told4.set (Int.toNat k1) true)) :: fs) := hS
                    refine at_end [5, 7, 9, 11, 12, 14] [pl 5 (.slice A1 r1.1.length c1), pl 7 (.slice A2 r2.1.length c2), pl 9 (.slice A3 (Int.toNat (r1.1.length : Int)) c3), pl 11 (strV s1), pl 12 (.int .i64 i2), pl 14 (.int .i64 k1)] hF rfl (by kernel_rfl) (fun hF => ?_)
                    refine then_n ?_
                    refine reg1 [] [] [5, 7, 9, 11, 12, 13, 14] [pl 5 (.slice A1 r1.1.length c1), pl 7 (.slice A2 r2.1.length c2), pl 9 (.slice A3 (Int.toNat (r1.1.length : Int)) c3), pl 11 (strV s1), pl 12 (.int .i64 i2), pl 13 (strV ([121] : List UInt8)), pl 14 (.int .i64 k1)] hF hS Fol (by kernel_rfl) (by kernel_rfl) (by kernel_rfl) ?_ (fun a w hF hS => ?_)
                    · exact obs_nil
                    refine block_n ?_
                    refine then_n ?_
                    exact ⟨(told4.set (Int.toNat k1) true), ([121] : List UInt8), hF.weak [5, 7, 9, 11, 12, 13, 14] (by kernel_rfl), hS, hm⟩
                  · replace hm := if_f hm hb
                    refine wpIn_skip ?_
                    refine block_n ?_
                    refine then_n ?_
                    exact ⟨told4, sign2, hF.weak [5, 7, 9, 11, 12, 13, 14] (by kernel_rfl), hS, hm⟩
              · refine reg [⟨true, [(decide (k1 < (r1.1.length : Int)), true)], vS (do eqGuard .eql 9 (.tmp 66) (.const (strV ([46] : List UInt8))) (strV sign2) (strV ([46] : List UInt8)); binOp .eql 9 (strV sign2) (strV ([46] : List UInt8))), .bool ((sign2 == ([46] : List UInt8)))⟩] [none, none, none, none, none, none, some (.bool ((sign2 == ([46] : List UInt8)))), none] [5, 7, 9, 11, 12, 13, 14, 68] [pl 5 (.slice A1 r1.1.length c1), pl 7 (.slice A2 r2.1.length c2), pl 9 (.slice A3 (Int.toNat (r1.1.length : Int)) c3), pl 11 (strV s1), pl 12 (.int .i64 i2), pl 13 (strV sign2), pl 14 (.int .i64 k1), pl 68 (.bool ((decide (k1 < (r1.1.length : Int))) && (sign2 == ([46] : List UInt8))))] hF hS Fol (by kernel_rfl) (by kernel_rfl) (by kernel_rfl) ?_ (fun a w hF hS => ?_)
                · exact obs_cons (ob_seql _ _) <| obs_nil
                refine cond_ev (t := 68) (b := (decide (k1 < (r1.1.length : Int))) && (sign2 == ([46] : List UInt8))) hF (by kernel_rfl) (fun hb => ?_) (fun hb => ?_)
                · replace hm := if_t hm hb
                  refine wpIn_skip ?_
                  refine then_n ?_
                  exact ⟨hF.weak [5, 7, 9, 11, 12, 13, 14] (by kernel_rfl), hS, hm⟩
                · replace hm := if_f hm hb
                  refine wpIn_exit ?_
                  refine then_e (then_e (block_e (then_n ?_)))
                  rw [← hφ3] at hm
                  replace hm := done_b hm
                  unfold gameroomref_HintOf_K3 at hm
                  try dsimp only at hm
                  have hm : ((gameroomref_HintOf_J8 s1 i2) told4 sign2).bind φ2 = some r := hm
                  exact ⟨told4, sign2, hF.weak [5, 7, 9, 11, 12, 13] (by kernel_rfl), hS, hm⟩
          · obtain ⟨hp5, hm⟩ := asrt_b hm
            obtain ⟨hp6, hm⟩ := asrt_b hm
            refine reg [⟨true, [], vS (Instr.indexAt 40 (.slice A1 r1.1.length c1) (.int .i64 i2)), .pointer (some (sAddr A1 i2))⟩, ⟨false, [], vS (Instr.loadAt 9 (.pointer (some (sAddr A1 i2)))), strV (getd ([] : List UInt8) r1.1 i2)⟩, ⟨true, [], vS (Instr.indexAt 40 (.slice A2 r2.1.length c2) (.int .i64 i2)), .pointer (some (sAddr A2 i2))⟩, ⟨false, [], vS (Instr.loadAt 9 (.pointer (some (sAddr A2 i2)))), strV (getd ([] : List UInt8) r2.1 i2)⟩, ⟨true, [], vS (do eqGuard .eql 9 (.tmp 55) (.tmp 59) (strV (getd ([] : List UInt8) r1.1 i2)) (strV (getd ([] : List UInt8) r2.1 i2)); binOp .eql 9 (strV (getd ([] : List UInt8) r1.1 i2)) (strV (getd ([] : List UInt8) r2.1 i2))), .bool (((getd ([] : List UInt8) r1.1 i2) == (getd ([] : List UInt8) r2.1 i2)))⟩] [none, none, some (.pointer (some (sAddr A1 i2))), some (strV (getd ([] : List UInt8) r1.1 i2)), none, none, some (.pointer (some (sAddr A2 i2))), some (strV (getd ([] : List UInt8) r2.1 i2)), some (.bool (((getd ([] : List UInt8) r1.1 i2) == (getd ([] : List UInt8) r2.1 i2))))] [5, 7, 9, 11, 12, 13, 60] [pl 5 (.slice A1 r1.1.length c1), pl 7 (.slice A2 r2.1.length c2), pl 9 (.slice A3 (Int.toNat (r1.1.length : Int)) c3), pl 11 (strV s1), pl 12 (.int .i64 i2), pl 13 (strV ([46] : List UInt8)), pl 60 (.bool ((getd ([] : List UInt8) r1.1 i2) == (getd ([] : List UInt8) r2.1 i2)))] hF hS Fol (by kernel_rfl) (by kernel_rfl) (by kernel_rfl) ?_ (fun a w hF hS => ?_)
            · exact obs_cons (ob_ix1 (f := strV) (m := r1.1) Und40 hi9 hs9 (hS.at_ 0 rfl).rd rfl (fun _ => hp5)) <| obs_cons (ob_get1 (n := r1.1.length) (m := r1.1) strV ([] : List UInt8) Agg9 (fun _ hS => ⟨_, (hS.at_ 0 rfl).rd⟩) (fun _ hS => rfl) (fun _ => hp5)) <| obs_cons (ob_ix1 (f := strV) (m := r2.1) Und40 hi9 hs9 (hS.at_ 1 rfl).rd rfl (fun _ => hp6)) <| obs_cons (ob_get1 (n := r2.1.length) (m := r2.1) strV ([] : List UInt8) Agg9 (fun _ hS => ⟨_, (hS.at_ 1 rfl).rd⟩) (fun _ hS => rfl) (fun _ => hp6)) <| obs_cons (ob_seql _ _) <| obs_nil
            refine cond_ev (t := 60) (b := ((getd ([] : List UInt8) r1.1 i2) == (getd ([] : List UInt8) r2.1 i2))) hF (by kernel_rfl) (fun hb => ?_) (fun hb => ?_)
            · replace hm := if_t hm hb
              refine reg1 [] [] [5, 7, 9, 11, 12, 13] [pl 5 (.slice A1 r1.1.length c1), pl 7 (.slice A2 r2.1.length c2), pl 9 (.slice A3 (Int.toNat (r1.1.length : Int)) c3), pl 11 (strV s1), pl 12 (.int .i64 i2), pl 13 (strV ([103] : List UInt8))] hF hS Fol (by kernel_rfl) (by kernel_rfl) (by kernel_rfl) ?_ (fun a w hF hS => ?_)
              · exact obs_nil
              refine then_n ?_
              exact ⟨([103] : List UInt8), hF.weak [5, 7, 9, 11, 12, 13] (by kernel_rfl), hS, hm⟩
            · replace hm := if_f hm hb
              refine wpIn_skip ?_
              refine then_n ?_
              exact ⟨([46] : List UInt8), hF.weak [5, 7, 9, 11, 12, 13] (by kernel_rfl), hS, hm⟩
      · refine reg [] [] [5, 7, 9, 11, 12, 49] [pl 5 (.slice A1 r1.1.length c1), pl 7 (.slice A2 r2.1.length c2), pl 9 (.slice A3 (Int.toNat (r1.1.length : Int)) c3), pl 11 (strV s1), pl 12 (.int .i64 i2), pl 49 (.bool (decide (i2 < (r2.1.length : Int))))] hF hS Fol (by kernel_rfl) (by kernel_rfl) (by kernel_rfl) ?_ (fun a w hF hS => ?_)
        · exact obs_nil
        refine cond_ev (t := 49) (b := decide (i2 < (r2.1.length : Int))) hF (by kernel_rfl) (fun hb => ?_) (fun hb => ?_)
        · replace hm := if_t hm hb
          refine wpIn_skip ?_
          refine then_n ?_
          exact ⟨hF.weak [5, 7, 9, 11, 12] (by kernel_rfl), hS, hm⟩
        · replace hm := if_f hm hb
          refine wpIn_exit ?_
          refine then_e (then_e (block_e (then_n ?_)))
          have hS := hS.pickN 3 [] (by decide)
          rw [← hφ2] at hm
          replace hm := done_b hm
          unfold gameroomref_HintOf_K2 at hm
          try dsimp only at hm
          have hm : (gameroomref_HintOf_J4 s1).bind some = some r := hm
          exact ⟨s1, hF.weak [11] (by kernel_rfl), hS, hm⟩
  · refine reg [] [] [5, 7, 9, 10] [pl 5 (.slice A1 r1.1.length c1), pl 7 (.slice A2 r2.1.length c2), pl 9 (.slice A3 (Int.toNat (r1.1.length : Int)) c3), pl 10 (.int .i64 0)] hF hS Fol (by kernel_rfl) (by kernel_rfl) (by kernel_rfl) ?_ (fun a w hF hS => ?_)
    · exact obs_nil
    refine wpIn_block ?_
    have hS := hS.pickN 3 [2, 1, 0] (by decide)
    refine wp_loop_model (S := (List Bool × Int)) (R := (List Bool)) (gameroomref_HintOf_L1 r1 r2) (fun x => ((gameroomref_HintOf_K1 r1 r2) x).bind some) r (fun (x : (List Bool × Int)) a w => Fr 94 [pl 5 (.slice A1 r1.1.length c1), pl 7 (.slice A2 r2.1.length c2), pl 9 (.slice A3 (Int.toNat (r1.1.length : Int)) c3), pl 10 (.int .i64 x.2)] a ∧ Sep w0 B w (own 9 (.slice A1 r1.1.length c1) ((List.map strV r1.1)) :: own 9 (.slice A2 r2.1.length c2) ((List.map strV r2.1)) :: own 4 (.slice A3 (Int.toNat (r1.1.length : Int)) c3) (vB x.1) :: fs)) (assoc_b hm) ⟨hF.weak [5, 7, 9, 10] (by kernel_rfl), hS⟩ ?_
    clear hF hS hm
    rintro nn1 ⟨told1, i1⟩ a w ⟨hF, hS⟩ hm
    generalize hφ1 : stK (gameroomref_HintOf_L1 r1 r2) nn1 (fun x => ((gameroomref_HintOf_K1 r1 r2) x).bind some) = φ1 at hm
    unfold gameroomref_HintOf_L1 at hm
    dsimp only at hF hS hm
    refine seq_cut (fun a w => Fr 94 [pl 5 (.slice A1 r1.1.length c1), pl 7 (.slice A2 r2.1.length c2), pl 9 (.slice A3 (Int.toNat (r1.1.length : Int)) c3), pl 10 (.int .i64 i1)] a ∧ Sep w0 B w (own 9 (.slice A1 r1.1.length c1) ((List.map strV r1.1)) :: own 9 (.slice A2 r2.1.length c2) ((List.map strV r2.1)) :: own 4 (.slice A3 (Int.toNat (r1.1.length : Int)) c3) (vB told1) :: fs) ∧ ((gameroomref_HintOf_J2 r1 r2 told1 i1)).bind φ1 = some r) ?_ ?_
    · rintro a w ⟨hF, hS, hm⟩
      unfold gameroomref_HintOf_J2 at hm
      refine seq_cut (fun a w => Fr 94 [pl 5 (.slice A1 r1.1.length c1), pl 7 (.slice A2 r2.1.length c2), pl 9 (.slice A3 (Int.toNat (r1.1.length : Int)) c3), pl 10 (.int .i64 i1)] a ∧ Sep w0 B w (own 9 (.slice A1 r1.1.length c1) ((List.map strV r1.1)) :: own 9 (.slice A2 r2.1.length c2) ((List.map strV r2.1)) :: own 4 (.slice A3 (Int.toNat (r1.1.length : Int)) c3) (vB (told1.set (Int.toNat i1) ((getd ([] : List UInt8) r1.1 i1) == (getd ([] : List UInt8) r2.1 i1)))) :: fs) ∧ ((gameroomref_HintOf_J3 r1 r2 told1 i1)).bind φ1 = some r) ?_ ?_
      · rintro a w ⟨hF, hS, hm⟩
        unfold gameroomref_HintOf_J3 at hm
        refine reg1 [] [] [5, 7, 9, 10] [pl 5 (.slice A1 r1.1.length c1), pl 7 (.slice A2 r2.1.length c2), pl 9 (.slice A3 (Int.toNat (r1.1.length : Int)) c3), pl 10 (.int .i64 (w64 (i1 + 1)))] hF hS Fol (by kernel_rfl) (by kernel_rfl) (by kernel_rfl) ?_ (fun a w hF hS => ?_)
        · exact obs_nil
        refine then_n ?_
        rw [← hφ1] at hm
        exact ⟨((told1.set (Int.toNat i1) ((getd ([] : List UInt8) r1.1 i1) == (getd ([] : List UInt8) r2.1 i1))), (w64 (i1 + 1))), ⟨hF.weak [5, 7, 9, 10] (by kernel_rfl), hS⟩, hm⟩
      · refine wpIn_block ?_
        obtain ⟨hp2, hm⟩ := asrt_b hm
        obtain ⟨hp3, hm⟩ := asrt_b hm
        obtain ⟨hp4, hm⟩ := asrt_b hm
        refine regMix4 [0, 1, 2, 3, 4, 5, 6, 7, 8, 9, 10, 11] [12] [⟨true, [], vS (Instr.indexAt 40 (.slice A1 r1.1.length c1) (.int .i64 i1)), .pointer (some (sAddr A1 i1))⟩, ⟨false, [], vS (Instr.loadAt 9 (.pointer (some (sAddr A1 i1)))), strV (getd ([] : List UInt8) r1.1 i1)⟩, ⟨true, [], vS (Instr.indexAt 40 (.slice A2 r2.1.length c2) (.int .i64 i1)), .pointer (some (sAddr A2 i1))⟩, ⟨false, [], vS (Instr.loadAt 9 (.pointer (some (sAddr A2 i1)))), strV (getd ([] : List UInt8) r2.1 i1)⟩, ⟨true, [], vS (do eqGuard .eql 9 (.tmp 39) (.tmp 43) (strV (getd ([] : List UInt8) r1.1 i1)) (strV (getd ([] : List UInt8) r2.1 i1)); binOp .eql 9 (strV (getd ([] : List UInt8) r1.1 i1)) (strV (getd ([] : List UInt8) r2.1 i1))), .bool (((getd ([] : List UInt8) r1.1 i1) == (getd ([] : List UInt8) r2.1 i1)))⟩, ⟨true, [], vS (Instr.indexAt 82 (.slice A3 (Int.toNat (r1.1.length : Int)) c3) (.int .i64 i1)), .pointer (some (sAddr A3 i1))⟩] [none, none, none, none, some (.pointer (some (sAddr A1 i1))), some (strV (getd ([] : List UInt8) r1.1 i1)), none, none, some (.pointer (some (sAddr A2 i1))), some (strV (getd ([] : List UInt8) r2.1 i1)), some (.bool (((getd ([] : List UInt8) r1.1 i1) == (getd ([] : List UInt8) r2.1 i1)))), some (.pointer (some (sAddr A3 i1)))] [5, 7, 9, 10, 44, 45] [pl 5 (.slice A1 r1.1.length c1), pl 7 (.slice A2 r2.1.length c2), pl 9 (.slice A3 (Int.toNat (r1.1.length : Int)) c3), pl 10 (.int .i64 i1), pl 44 (.bool ((getd ([] : List UInt8) r1.1 i1) == (getd ([] : List UInt8) r2.1 i1))), pl 45 (.pointer (some (sAddr A3 i1)))] hF hS Fol (by kernel_rfl) (by kernel_rfl) (by kernel_rfl) (by kernel_rfl) (by kernel_rfl) ?_ (fun a w hF hS => ?_)
        · exact obs_cons (ob_ix1 (f := strV) (m := r1.1) Und40 hi9 hs9 (hS.at_ 0 rfl).rd rfl (fun _ => hp2)) <| obs_cons (ob_get1 (n := r1.1.length) (m := r1.1) strV ([] : List UInt8) Agg9 (fun _ hS => ⟨_, (hS.at_ 0 rfl).rd⟩) (fun _ hS => rfl) (fun _ => hp2)) <| obs_cons (ob_ix1 (f := strV) (m := r2.1) Und40 hi9 hs9 (hS.at_ 1 rfl).rd rfl (fun _ => hp3)) <| obs_cons (ob_get1 (n := r2.1.length) (m := r2.1) strV ([] : List UInt8) Agg9 (fun _ hS => ⟨_, (hS.at_ 1 rfl).rd⟩) (fun _ hS => rfl) (fun _ => hp3)) <| obs_cons (ob_seql _ _) <| obs_cons (ob_ix1 (f := Value.bool) (m := told1) Und82 hi4 hs4 (hS.at_ 2 rfl).rd ((hS.at_ 2 rfl).len1) (fun _ => hp4)) <| obs_nil
        obtain ⟨w, hrun, hS⟩ := run_set1 (P := Tryd.prog) (t := 4) (x := ((getd ([] : List UInt8) r1.1 i1) == (getd ([] : List UInt8) r2.1 i1))) Value.bool (hS.at_ 2 rfl) hi4 hs4 rfl rfl hp4
        refine at_skip hF (by kernel_rfl) hrun ?_
        have hS : Sep w0 B w (own 9 (.slice A1 r1.1.length c1) ((List.map strV r1.1)) :: own 9 (.slice A2 r2.1.length c2) ((List.map strV r2.1)) :: own 4 (.slice A3 (Int.toNat (r1.1.length : Int)) c3) (vB (told1.set (Int.toNat i1) ((getd ([] : List UInt8) r1.1 i1) == (getd ([] : List UInt8) r2.1 i1)))) :: fs) := hS
        refine at_end [5, 7, 9, 10] [pl 5 (.slice A1 r1.1.length c1), pl 7 (.slice A2 r2.1.length c2), pl 9 (.slice A3 (Int.toNat (r1.1.length : Int)) c3), pl 10 (.int .i64 i1)] hF rfl (by kernel_rfl) (fun hF => ?_)
        refine np_n ?_
        refine block_n ?_
        refine then_n ?_
        exact ⟨hF.weak [5, 7, 9, 10] (by kernel_rfl), hS, hm⟩
    · refine reg [] [] [5, 7, 9, 10, 31] [pl 5 (.slice A1 r1.1.length c1), pl 7 (.slice A2 r2.1.length c2), pl 9 (.slice A3 (Int.toNat (r1.1.length : Int)) c3), pl 10 (.int .i64 i1), pl 31 (.bool (decide (i1 < (r1.1.length : Int))))] hF hS Fol (by kernel_rfl) (by kernel_rfl) (by kernel_rfl) ?_ (fun a w hF hS => ?_)
      · exact obs_nil
      refine cond_ev (t := 31) (b := decide (i1 < (r1.1.length : Int))) hF (by kernel_rfl) (fun hb => ?_) (fun hb => ?_)
      · replace hm := if_t hm hb
        refine wpIn_skip ?_
        refine then_n ?_
        exact ⟨hF.weak [5, 7, 9, 10] (by kernel_rfl), hS, hm⟩
      · replace hm := if_f hm hb
        refine wpIn_exit ?_
        refine then_e (then_e (block_e (then_n ?_)))
        rw [← hφ1] at hm
        replace hm := done_b hm
        unfold gameroomref_HintOf_K1 at hm
        try dsimp only at hm
        have hm : ((gameroomref_HintOf_J1 r1 r2) told1).bind some = some r := hm
        exact ⟨told1, hF.weak [5, 7, 9] (by kernel_rfl), hS, hm⟩

noncomputable def gameroomlaw_WordsHints_J3  (secret1 : List UInt8) (guess1 : List UInt8) (r1 : (List UInt8 × Int)) : Option Bool :=
  ((if (r1.2 == 0) then gameroomref_HintOf_m secret1 guess1 else some ([]))).bind fun r10 => some ((r1.2 == 0) && (r1.1 == r10))

noncomputable def gameroomlaw_WordsHints_J2  (secret1 : List UInt8) (guess1 : List UInt8) (r1 : (List UInt8 × Int)) : Option Bool :=
  (gameroomlaw_letters_m secret1).bind fun r8 => (gameroomlaw_letters_m guess1).bind fun r9 => if (r8 != r9) then (some ((r1.2 == 11) && (r1.1 == ([] : List UInt8)))) else ((gameroomlaw_WordsHints_J3 secret1 guess1 r1))

noncomputable def gameroomlaw_WordsHints_J1  (secret1 : List UInt8) (guess1 : List UInt8) (r1 : (List UInt8 × Int)) : Option Bool :=
  (gameroomref_WordMay_m secret1).bind fun r6 => ((if (!(!r6)) then gameroomref_WordMay_m guess1 else some false)).bind fun r7 => if ((!r6) || (!r7)) then (some ((r1.2 == 14) && (r1.1 == ([] : List UInt8)))) else ((gameroomlaw_WordsHints_J2 secret1 guess1 r1))

noncomputable def gameroomlaw_WordsHints_m  (secret1 : List UInt8) (guess1 : List UInt8) (a1 : List Int) (b1 : List Int) : Option Bool :=
  (words_Hint_m secret1 guess1).bind fun r1 => (gameroomlaw_ints_m a1).bind fun r2 => (gameroomlaw_ints_m b1).bind fun r3 => (words_Codes_m r2 r3).bind fun r4 => if (((a1.length : Int) != (b1.length : Int)) || (decide ((8 : Int) < (a1.length : Int)))) then (if (((r4.2.2 != 11) || (r4.1 != 0)) || (r4.2.1 != 0)) then (some false) else ((gameroomlaw_WordsHints_J1 secret1 guess1 r1))) else ((gameroomref_CodesOf_m a1 b1).bind fun r5 => if (((r4.2.2 != 0) || (r4.1 != r5.1)) || (r4.2.1 != r5.2)) then (some false) else ((gameroomlaw_WordsHints_J1 secret1 guess1 r1)))

set_option maxRecDepth 100000 in
set_option maxHeartbeats 4000000 in
theorem gameroomlaw_WordsHints_w  {secret1 : List UInt8} {guess1 : List UInt8} {A1 : Option Addr} {c1 : Nat} {n1 : Nat} {a1 : List Int} {A2 : Option Addr} {c2 : Nat} {n2 : Nat} {b1 : List Int} {r : Bool} {w0 w : World} {B : Nat} {fs : List HP} [UTab 0 1 w0 B] (hm : gameroomlaw_WordsHints_m secret1 guess1 a1 b1 = some r) (hS : Sep w0 B w (fs)) (hr_a1 : RdF w0 B fs A1 (vI a1)) (_hc_a1 : a1.length ≤ c1) (_hn_a1 : n1 = a1.length) (hr_b1 : RdF w0 B fs A2 (vI b1)) (_hc_b1 : b1.length ≤ c2) (_hn_b1 : n2 = b1.length) :
    Calls Tryd.prog 3 #[strV secret1, strV guess1, .slice A1 n1 c1, .slice A2 n2 c2] w fun e w' => e = .returned (.bool r) ∧ Sep w0 B w' (fs) := by
  obtain ⟨i3, hi3, hz3, hs3, hb3⟩ := info_parts Info3
  obtain rfl := _hn_a1
  obtain rfl := _hn_b1
  unfold gameroomlaw_WordsHints_m at hm
  replace hm := start_b hm
  refine enter (l := [strV secret1, strV guess1, .slice A1 a1.length c1, .slice A2 b1.length c2]) (n := 103) Tryd.func3 rfl rfl (by simp) (fun a hF => ?_)
  refine reg [] [] [0, 1, 2, 3] [pl 0 (strV secret1), pl 1 (strV guess1), pl 2 (.slice A1 a1.length c1), pl 3 (.slice A2 b1.length c2)] hF hS Fol (by kernel_rfl) (by kernel_rfl) (by kernel_rfl) ?_ (fun a w hF hS => ?_)
  · exact obs_nil
  obtain ⟨r1, hr1, hm⟩ := call_b hm
  refine reg [⟨false, [], callFunc 9 #[strV secret1, strV guess1], .tuple #[strV r1.1, .int .i64 r1.2]⟩] [none, none, some (.tuple #[strV r1.1, .int .i64 r1.2]), none, none, none, none, none] [0, 1, 2, 3, 9, 10] [pl 0 (strV secret1), pl 1 (strV guess1), pl 2 (.slice A1 a1.length c1), pl 3 (.slice A2 b1.length c2), pl 9 (strV r1.1), pl 10 (.int .i64 r1.2)] hF hS Fol (by kernel_rfl) (by kernel_rfl) (by kernel_rfl) ?_ (fun a w hF hS => ?_)
  · exact obs_cons (ob_call Tryd.func9 (by kernel_rfl) rfl (fun _ _ hS => words_Hint_w hr1 hS )) <| obs_nil
  refine seqR ?_
  obtain ⟨r2, hr2, hm⟩ := call_b hm
  obtain ⟨r3, hr3, hm⟩ := call_b hm
  obtain ⟨r4, hr4, hm⟩ := call_b hm
  refine at_run 1 [] [] [0, 1, 2, 3, 9, 10, 23] [pl 0 (strV secret1), pl 1 (strV guess1), pl 2 (.slice A1 a1.length c1), pl 3 (.slice A2 b1.length c2), pl 9 (strV r1.1), pl 10 (.int .i64 r1.2), pl 23 (.slice A1 a1.length c1)] hF hS (by kernel_rfl) (by kernel_rfl) ?_ (fun a w hF hS => ?_)
  · exact obs_nil
  refine at_call (f := 11) (args := #[.slice A1 a1.length c1]) (d := 24) hF (by kernel_rfl) (by kernel_rfl) Tryd.func11 (by kernel_rfl) rfl (gameroomlaw_ints_w hr2 hS (fun _ hS => (hr_a1 _ (hS.dropN 0))) _hc_a1 rfl) (fun v a w hR hF => ?_)
  clear hS
  obtain ⟨A3, c3, rfl, hS⟩ := hR
  have hS : Sep w0 B w (own 3 (.slice A3 r2.length c3) (vI r2) :: fs) := hS
  refine at_run 1 [] [] [0, 1, 2, 3, 9, 10, 24, 25] [pl 0 (strV secret1), pl 1 (strV guess1), pl 2 (.slice A1 a1.length c1), pl 3 (.slice A2 b1.length c2), pl 9 (strV r1.1), pl 10 (.int .i64 r1.2), pl 24 (.slice A3 r2.length c3), pl 25 (.slice A2 b1.length c2)] hF hS (by kernel_rfl) (by kernel_rfl) ?_ (fun a w hF hS => ?_)
  · exact obs_nil
  refine at_call (f := 11) (args := #[.slice A2 b1.length c2]) (d := 26) hF (by kernel_rfl) (by kernel_rfl) Tryd.func11 (by kernel_rfl) rfl (gameroomlaw_ints_w hr3 hS (fun _ hS => (hr_b1 _ (hS.dropN 1))) _hc_b1 rfl) (fun v a w hR hF => ?_)
  clear hS
  obtain ⟨A4, c4, rfl, hS⟩ := hR
  have hS : Sep w0 B w (own 3 (.slice A4 r3.length c4) (vI r3) :: own 3 (.slice A3 r2.length c3) (vI r2) :: fs) := hS
  refine at_run 8 [⟨false, [], callFunc 10 #[.slice A3 r2.length c3, .slice A4 r3.length c4], .tuple #[.int .i64 r4.1, .int .i64 r4.2.1, .int .i64 r4.2.2]⟩] [some (.tuple #[.int .i64 r4.1, .int .i64 r4.2.1, .int .i64 r4.2.2]), none, none, none, none, none, none, none] [0, 1, 2, 3, 9, 10, 11, 12, 13] [pl 0 (strV secret1), pl 1 (strV guess1), pl 2 (.slice A1 a1.length c1), pl 3 (.slice A2 b1.length c2), pl 9 (strV r1.1), pl 10 (.int .i64 r1.2), pl 11 (.int .i64 r4.1), pl 12 (.int .i64 r4.2.1), pl 13 (.int .i64 r4.2.2)] hF hS (by kernel_rfl) (by kernel_rfl) ?_ (fun a w hF hS => ?_)
  · exact obs_cons (ob_call Tryd.func10 (by kernel_rfl) rfl (fun _ _ hS => words_Codes_w hr4 hS (fun _ hS => (hS.at_ 1 rfl).rd) ((hS.at_ 1 rfl).cap1) rfl (fun _ hS => (hS.at_ 0 rfl).rd) ((hS.at_ 0 rfl).cap1) rfl)) <| obs_nil
  refine at_end [0, 1, 2, 3, 9, 10, 11, 12, 13] [pl 0 (strV secret1), pl 1 (strV guess1), pl 2 (.slice A1 a1.length c1), pl 3 (.slice A2 b1.length c2), pl 9 (strV r1.1), pl 10 (.int .i64 r1.2), pl 11 (.int .i64 r4.1), pl 12 (.int .i64 r4.2.1), pl 13 (.int .i64 r4.2.2)] hF rfl (by kernel_rfl) (fun hF => ?_)
  refine then_n ?_
  refine seq_cut (fun a w => Fr 103 [pl 0 (strV secret1), pl 1 (strV guess1), pl 9 (strV r1.1), pl 10 (.int .i64 r1.2)] a ∧ Sep w0 B w (fs) ∧ ((gameroomlaw_WordsHints_J1 secret1 guess1 r1)).bind some = some r) ?_ ?_
  · rintro a w ⟨hF, hS, hm⟩
    unfold gameroomlaw_WordsHints_J1 at hm
    refine seq_cut (fun a w => Fr 103 [pl 0 (strV secret1), pl 1 (strV guess1), pl 9 (strV r1.1), pl 10 (.int .i64 r1.2)] a ∧ Sep w0 B w (fs) ∧ ((gameroomlaw_WordsHints_J2 secret1 guess1 r1)).bind some = some r) ?_ ?_
    · rintro a w ⟨hF, hS, hm⟩
      unfold gameroomlaw_WordsHints_J2 at hm
      refine seq_cut (fun a w => Fr 103 [pl 0 (strV secret1), pl 1 (strV guess1), pl 9 (strV r1.1), pl 10 (.int .i64 r1.2)] a ∧ Sep w0 B w (fs) ∧ ((gameroomlaw_WordsHints_J3 secret1 guess1 r1)).bind some = some r) ?_ ?_
      · rintro a w ⟨hF, hS, hm⟩
        unfold gameroomlaw_WordsHints_J3 at hm
        obtain ⟨r10, hr10, hm⟩ := call_b hm
        refine reg [⟨false, [((r1.2 == 0), true)], callFunc 15 #[strV secret1, strV guess1], strV r10⟩, ⟨true, [((r1.2 == 0), true)], vS (do eqGuard .eql 9 (.tmp 97) (.tmp 100) (strV r1.1) (strV r10); binOp .eql 9 (strV r1.1) (strV r10)), .bool ((r1.1 == r10))⟩] [none, none, none, none, none, none, some (strV r10), some (.bool ((r1.1 == r10))), none, none] [8] [pl 8 (.bool ((r1.2 == 0) && (r1.1 == r10)))] hF hS Fol (by kernel_rfl) (by kernel_rfl) (by kernel_rfl) ?_ (fun a w hF hS => ?_)
        · exact obs_cons (ob_call Tryd.func15 (by kernel_rfl) rfl (fun hy _ hS => gameroomref_HintOf_w (ite_some hr10 (by rw [show (r1.2 == 0) = true from hy ((r1.2 == 0), true) (by simp)]; try rfl)) hS )) <| obs_cons (ob_seql _ _) <| obs_nil
        refine wpIn_ret ?_
        have hm : some ((r1.2 == 0) && (r1.1 == r10)) = some r := hm
        obtain rfl := Option.some.inj hm
        exact retV (rs := [.tmp 8]) (vs := [.bool ((r1.2 == 0) && (r1.1 == r10))]) hF rfl (rv_t (by kernel_rfl) <| rv_nil) rfl ⟨rfl, hS⟩
      · obtain ⟨r8, hr8, hm⟩ := call_b hm
        obtain ⟨r9, hr9, hm⟩ := call_b hm
        refine reg [⟨false, [], callFunc 14 #[strV secret1], .int .i64 r8⟩, ⟨false, [], callFunc 14 #[strV guess1], .int .i64 r9⟩] [none, some (.int .i64 r8), none, some (.int .i64 r9), none] [0, 1, 9, 10, 87] [pl 0 (strV secret1), pl 1 (strV guess1), pl 9 (strV r1.1), pl 10 (.int .i64 r1.2), pl 87 (.bool (r8 != r9))] hF hS Fol (by kernel_rfl) (by kernel_rfl) (by kernel_rfl) ?_ (fun a w hF hS => ?_)
        · exact obs_cons (ob_call Tryd.func14 (by kernel_rfl) rfl (fun _ _ hS => gameroomlaw_letters_w hr8 hS )) <| obs_cons (ob_call Tryd.func14 (by kernel_rfl) rfl (fun _ _ hS => gameroomlaw_letters_w hr9 hS )) <| obs_nil
        refine cond_ev (t := 87) (b := (r8 != r9)) hF (by kernel_rfl) (fun hb => ?_) (fun hb => ?_)
        · replace hm := if_t hm hb
          refine reg [⟨true, [((r1.2 == 11), true)], vS (do eqGuard .eql 9 (.tmp 91) (.const (strV ([] : List UInt8))) (strV r1.1) (strV ([] : List UInt8)); binOp .eql 9 (strV r1.1) (strV ([] : List UInt8))), .bool ((r1.1 == ([] : List UInt8)))⟩] [none, none, none, none, some (.bool ((r1.1 == ([] : List UInt8)))), none, none] [8] [pl 8 (.bool ((r1.2 == 11) && (r1.1 == ([] : List UInt8))))] hF hS Fol (by kernel_rfl) (by kernel_rfl) (by kernel_rfl) ?_ (fun a w hF hS => ?_)
          · exact obs_cons (ob_seql _ _) <| obs_nil
          refine wpIn_ret ?_
          refine then_r ?_
          have hm : some ((r1.2 == 11) && (r1.1 == ([] : List UInt8))) = some r := hm
          obtain rfl := Option.some.inj hm
          exact retV (rs := [.tmp 8]) (vs := [.bool ((r1.2 == 11) && (r1.1 == ([] : List UInt8)))]) hF rfl (rv_t (by kernel_rfl) <| rv_nil) rfl ⟨rfl, hS⟩
        · replace hm := if_f hm hb
          refine wpIn_skip ?_
          refine then_n ?_
          exact ⟨hF.weak [0, 1, 9, 10] (by kernel_rfl), hS, hm⟩
    · obtain ⟨r6, hr6, hm⟩ := call_b hm
      obtain ⟨r7, hr7, hm⟩ := call_b hm
      refine reg [⟨false, [], callFunc 13 #[strV secret1], .bool r6⟩, ⟨false, [(!r6, false)], callFunc 13 #[strV guess1], .bool r7⟩] [none, some (.bool r6), none, none, none, some (.bool r7), none, none] [0, 1, 9, 10, 76] [pl 0 (strV secret1), pl 1 (strV guess1), pl 9 (strV r1.1), pl 10 (.int .i64 r1.2), pl 76 (.bool ((!r6) || (!r7)))] hF hS Fol (by kernel_rfl) (by kernel_rfl) (by kernel_rfl) ?_ (fun a w hF hS => ?_)
      · exact obs_cons (ob_call Tryd.func13 (by kernel_rfl) rfl (fun _ _ hS => gameroomref_WordMay_w hr6 hS )) <| obs_cons (ob_call Tryd.func13 (by kernel_rfl) rfl (fun hy _ hS => gameroomref_WordMay_w (ite_some hr7 (by rw [show (!r6) = false from hy (!r6, false) (by simp)]; try rfl)) hS )) <| obs_nil
      refine cond_ev (t := 76) (b := (!r6) || (!r7)) hF (by kernel_rfl) (fun hb => ?_) (fun hb => ?_)
      · replace hm := if_t hm hb
        refine reg [⟨true, [((r1.2 == 14), true)], vS (do eqGuard .eql 9 (.tmp 80) (.const (strV ([] : List UInt8))) (strV r1.1) (strV ([] : List UInt8)); binOp .eql 9 (strV r1.1) (strV ([] : List UInt8))), .bool ((r1.1 == ([] : List UInt8)))⟩] [none, none, none, none, some (.bool ((r1.1 == ([] : List UInt8)))), none, none] [8] [pl 8 (.bool ((r1.2 == 14) && (r1.1 == ([] : List UInt8))))] hF hS Fol (by kernel_rfl) (by kernel_rfl) (by kernel_rfl) ?_ (fun a w hF hS => ?_)
        · exact obs_cons (ob_seql _ _) <| obs_nil
        refine wpIn_ret ?_
        refine then_r ?_
        have hm : some ((r1.2 == 14) && (r1.1 == ([] : List UInt8))) = some r := hm
        obtain rfl := Option.some.inj hm
        exact retV (rs := [.tmp 8]) (vs := [.bool ((r1.2 == 14) && (r1.1 == ([] : List UInt8)))]) hF rfl (rv_t (by kernel_rfl) <| rv_nil) rfl ⟨rfl, hS⟩
      · replace hm := if_f hm hb
        refine wpIn_skip ?_
        refine then_n ?_
        exact ⟨hF.weak [0, 1, 9, 10] (by kernel_rfl), hS, hm⟩
  · refine reg [] [] [0, 1, 2, 3, 9, 10, 11, 12, 13, 40] [pl 0 (strV secret1), pl 1 (strV guess1), pl 2 (.slice A1 a1.length c1), pl 3 (.slice A2 b1.length c2), pl 9 (strV r1.1), pl 10 (.int .i64 r1.2), pl 11 (.int .i64 r4.1), pl 12 (.int .i64 r4.2.1), pl 13 (.int .i64 r4.2.2), pl 40 (.bool (((a1.length : Int) != (b1.length : Int)) || (decide ((8 : Int) < (a1.length : Int)))))] hF hS Fol (by kernel_rfl) (by kernel_rfl) (by kernel_rfl) ?_ (fun a w hF hS => ?_)
    · exact obs_nil
    refine cond_ev (t := 40) (b := ((a1.length : Int) != (b1.length : Int)) || (decide ((8 : Int) < (a1.length : Int)))) hF (by kernel_rfl) (fun hb => ?_) (fun hb => ?_)
    · replace hm := if_t hm hb
      refine reg [] [] [0, 1, 9, 10, 50] [pl 0 (strV secret1), pl 1 (strV guess1), pl 9 (strV r1.1), pl 10 (.int .i64 r1.2), pl 50 (.bool (((r4.2.2 != 11) || (r4.1 != 0)) || (r4.2.1 != 0)))] hF hS Fol (by kernel_rfl) (by kernel_rfl) (by kernel_rfl) ?_ (fun a w hF hS => ?_)
      · exact obs_nil
      refine cond_ev (t := 50) (b := ((r4.2.2 != 11) || (r4.1 != 0)) || (r4.2.1 != 0)) hF (by kernel_rfl) (fun hb => ?_) (fun hb => ?_)
      · replace hm := if_t hm hb
        refine reg [] [] [8] [pl 8 (.bool false)] hF hS Fol (by kernel_rfl) (by kernel_rfl) (by kernel_rfl) ?_ (fun a w hF hS => ?_)
        · exact obs_nil
        refine wpIn_ret ?_
        refine then_r ?_
        have hS := hS.pickN 2 [] (by decide)
        have hm : some false = some r := hm
        obtain rfl := Option.some.inj hm
        exact retV (rs := [.tmp 8]) (vs := [.bool false]) hF rfl (rv_t (by kernel_rfl) <| rv_nil) rfl ⟨rfl, hS⟩
      · replace hm := if_f hm hb
        refine wpIn_skip ?_
        refine then_n ?_
        have hS := hS.pickN 2 [] (by decide)
        exact ⟨hF.weak [0, 1, 9, 10] (by kernel_rfl), hS, hm⟩
    · replace hm := if_f hm hb
      obtain ⟨r5, hr5, hm⟩ := call_b hm
      refine reg [⟨false, [], callFunc 12 #[.slice A1 a1.length c1, .slice A2 b1.length c2], .tuple #[.int .i64 r5.1, .int .i64 r5.2]⟩] [none, none, some (.tuple #[.int .i64 r5.1, .int .i64 r5.2]), none, none, none, none, none] [0, 1, 9, 10, 11, 12, 13, 14, 15] [pl 0 (strV secret1), pl 1 (strV guess1), pl 9 (strV r1.1), pl 10 (.int .i64 r1.2), pl 11 (.int .i64 r4.1), pl 12 (.int .i64 r4.2.1), pl 13 (.int .i64 r4.2.2), pl 14 (.int .i64 r5.1), pl 15 (.int .i64 r5.2)] hF hS Fol (by kernel_rfl) (by kernel_rfl) (by kernel_rfl) ?_ (fun a w hF hS => ?_)
      · exact obs_cons (ob_call Tryd.func12 (by kernel_rfl) rfl (fun _ _ hS => gameroomref_CodesOf_w hr5 hS (fun _ hS => (hr_a1 _ (hS.dropN 2))) _hc_a1 rfl (fun _ hS => (hr_b1 _ (hS.dropN 2))) _hc_b1 rfl)) <| obs_nil
      refine reg [] [] [0, 1, 9, 10, 68] [pl 0 (strV secret1), pl 1 (strV guess1), pl 9 (strV r1.1), pl 10 (.int .i64 r1.2), pl 68 (.bool (((r4.2.2 != 0) || (r4.1 != r5.1)) || (r4.2.1 != r5.2)))] hF hS Fol (by kernel_rfl) (by kernel_rfl) (by kernel_rfl) ?_ (fun a w hF hS => ?_)
      · exact obs_nil
      refine cond_ev (t := 68) (b := ((r4.2.2 != 0) || (r4.1 != r5.1)) || (r4.2.1 != r5.2)) hF (by kernel_rfl) (fun hb => ?_) (fun hb => ?_)
      · replace hm := if_t hm hb
        refine reg [] [] [8] [pl 8 (.bool false)] hF hS Fol (by kernel_rfl) (by kernel_rfl) (by kernel_rfl) ?_ (fun a w hF hS => ?_)
        · exact obs_nil
        refine wpIn_ret ?_
        refine then_r ?_
        have hS := hS.pickN 2 [] (by decide)
        have hm : some false = some r := hm
        obtain rfl := Option.some.inj hm
        exact retV (rs := [.tmp 8]) (vs := [.bool false]) hF rfl (rv_t (by kernel_rfl) <| rv_nil) rfl ⟨rfl, hS⟩
      · replace hm := if_f hm hb
        refine wpIn_skip ?_
        refine then_n ?_
        have hS := hS.pickN 2 [] (by decide)
        exact ⟨hF.weak [0, 1, 9, 10] (by kernel_rfl), hS, hm⟩

end Go.Proofs.YtdbdcbejmbpbmaaDoor
