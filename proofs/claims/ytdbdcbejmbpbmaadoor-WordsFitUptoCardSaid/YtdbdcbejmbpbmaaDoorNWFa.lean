/-
  Models and walks, printed by our own program (wip/gen).
-/
import Derived.Test.YtdbdcbejmbpbmaaDoorFB
import Derived.Test.YtdbdcbejmbpbmaaDoorLibD
import Derived.Test.YtdbdcbejmbpbmaaDoorLibBg
import Derived.Test.YtdbdcbejmbpbmaaDoorLibTr
import Derived.Test.YtdbdcbejmbpbmaaDoorSX
import Derived.Test.YtdbdcbejmbpbmaaDoorSIs
import Derived.Test.YtdbdcbejmbpbmaaDoorLibDs
import Derived.Test.YtdbdcbejmbpbmaaDoorLibUv
import Derived.Test.YtdbdcbejmbpbmaaDoorSV
import Derived.Test.YtdbdcbejmbpbmaaDoorLibIr
import Derived.Test.YtdbdcbejmbpbmaaDoorLibSu
import Derived.Test.YtdbdcbejmbpbmaaDoorFM
import Derived.Test.YtdbdcbejmbpbmaaDoorLibSt
import Derived.Test.YtdbdcbejmbpbmaaDoorLibAN
namespace Go.Proofs.YtdbdcbejmbpbmaaDoor
open Go Go.GL Go.RowKit




noncomputable def gameroomlaw_texts_m  (l1 : List (List UInt8)) : Option (List (List UInt8)) :=
  asrt ((0 : Int) + (l1.length : Int) ≤ bigP) <| some ([] ++ l1)

set_option maxRecDepth 100000 in
set_option maxHeartbeats 4000000 in
theorem gameroomlaw_texts_w  {A1 : Option Addr} {c1 : Nat} {n1 : Nat} {l1 : List (List UInt8)} {r : (List (List UInt8))} {w0 w : World} {B : Nat} {fs : List HP} (hm : gameroomlaw_texts_m l1 = some r) (hS : Sep w0 B w (fs)) (hr_l1 : RdF w0 B fs A1 ((List.map strV l1))) (_hc_l1 : l1.length ≤ c1) (_hn_l1 : n1 = l1.length) :
    Calls Tryd.prog 21 #[.slice A1 n1 c1] w fun e w' => ∃ v, e = .returned v ∧ ∃ (A3 : Option Addr) (c3 : Nat), v = .slice A3 r.length c3 ∧ Sep w0 B w' (own 9 (.slice A3 r.length c3) ((List.map strV r)) :: fs) := by
  obtain ⟨i9, hi9, hz9, hs9, hb9⟩ := info_parts Info9
  obtain rfl := _hn_l1
  unfold gameroomlaw_texts_m at hm
  replace hm := start_b hm
  refine enter (l := [.slice A1 l1.length c1]) (n := 5) Tryd.func21 rfl rfl (by simp) (fun a hF => ?_)
  refine reg [] [] [0] [pl 0 (.slice A1 l1.length c1)] hF hS Fol (by kernel_rfl) (by kernel_rfl) (by kernel_rfl) ?_ (fun a w hF hS => ?_)
  · exact obs_nil
  refine seqR ?_
  obtain ⟨hp1, hm⟩ := asrt_b hm
  refine at_run 1 [] [] [3] [pl 3 (.slice A1 l1.length c1)] hF hS (by kernel_rfl) (by kernel_rfl) ?_ (fun a w hF hS => ?_)
  · exact obs_nil
  have hS : Sep w0 B w (own 9 (.slice none 0 0) ((List.map strV ([] : List (List UInt8)))) :: fs) := hS.nil 9
  obtain ⟨A2, c2, w, hrun, hS⟩ := run_appG (P := Tryd.prog) (t := 40) (m := ([] : List (List UInt8))) (ys := l1) (A2 := A1) (m2 := l1.length) (c2 := c1) strV ([] : List UInt8) 8796093022208 (hS.at_ 0 rfl) (hr_l1 _ (hS.dropN 1)) rfl 40 Und40 hi9 hz9 hs9 (by rw [hb9]; decide) (by decide) rfl (fun _ => rfl) hp1
  have hS : Sep w0 B w (own 9 (.slice A2 (([] ++ l1).length) c2) ((List.map strV ([] ++ l1))) :: fs) := hS
  refine at_do (d := 4) hF (by kernel_rfl) (by kernel_rfl) hrun (fun a hF => ?_)
  refine at_run 1 [] [] [2] [pl 2 (.slice A2 (([] ++ l1).length) c2)] hF hS (by kernel_rfl) (by kernel_rfl) ?_ (fun a w hF hS => ?_)
  · exact obs_nil
  refine at_end [2] [pl 2 (.slice A2 (([] ++ l1).length) c2)] hF rfl (by kernel_rfl) (fun hF => ?_)
  refine then_n ?_
  refine wpIn_ret ?_
  have hm : some ([] ++ l1) = some r := hm
  obtain rfl := Option.some.inj hm
  exact retV (rs := [.tmp 2]) (vs := [.slice A2 (([] ++ l1).length) c2]) hF rfl (rv_t (by kernel_rfl) <| rv_nil) rfl ⟨_, rfl, A2, c2, rfl, hS⟩

noncomputable def utf8_RuneCountInString_J2  (s1 : List UInt8) (n1 : Int) (z1 : Int) : Option (St (Int × Int) Int) :=
  some (.next ((w64 (n1 + 1)), (z1 + swid s1 z1)))

noncomputable def utf8_RuneCountInString_J1  (n2 : Int) : Option Int :=
  some n2

noncomputable def utf8_RuneCountInString_K1  : Int → Option Int :=
  fun (x : Int) => match x with | n2 => utf8_RuneCountInString_J1 n2

noncomputable def utf8_RuneCountInString_L1  (s1 : List UInt8) : (Int × Int) → Option (St (Int × Int) Int) :=
  fun (x : (Int × Int)) => match x with | (n1, z1) => if (decide (z1 < (s1.length : Int))) then ((utf8_RuneCountInString_J2 s1 n1 z1)) else (some (.done n1))

noncomputable def utf8_RuneCountInString_m  (s1 : List UInt8) : Option Int :=
  (loop (utf8_RuneCountInString_L1 s1) (0, (0 : Int))).bind utf8_RuneCountInString_K1

set_option maxRecDepth 100000 in
set_option maxHeartbeats 4000000 in
theorem utf8_RuneCountInString_w  {s1 : List UInt8} {r : Int} {w0 w : World} {B : Nat} {fs : List HP} (hm : utf8_RuneCountInString_m s1 = some r) (hS : Sep w0 B w (fs)) :
    Calls Tryd.prog 65 #[strV s1] w fun e w' => e = .returned (.int .i64 r) ∧ Sep w0 B w' (fs) := by
  unfold utf8_RuneCountInString_m at hm
  replace hm := start_b hm
  refine enter (l := [strV s1]) (n := 10) Tryd.func65 rfl rfl (by simp) (fun a hF => ?_)
  refine reg [] [] [0, 2] [pl 0 (strV s1), pl 2 (.int .i64 0)] hF hS Fol (by kernel_rfl) (by kernel_rfl) (by kernel_rfl) ?_ (fun a w hF hS => ?_)
  · exact obs_nil
  refine seq_cut (fun a w => ∃ (n2 : Int), Fr 10 [pl 2 (.int .i64 n2)] a ∧ Sep w0 B w (fs) ∧ (utf8_RuneCountInString_J1 n2).bind some = some r) ?_ ?_
  · rintro a w ⟨n2, hF, hS, hm⟩
    unfold utf8_RuneCountInString_J1 at hm
    refine reg [] [] [2] [pl 2 (.int .i64 n2)] hF hS Fol (by kernel_rfl) (by kernel_rfl) (by kernel_rfl) ?_ (fun a w hF hS => ?_)
    · exact obs_nil
    refine wpIn_ret ?_
    have hm : some n2 = some r := hm
    obtain rfl := Option.some.inj hm
    exact retV (rs := [.tmp 2]) (vs := [.int .i64 n2]) hF rfl (rv_t (by kernel_rfl) <| rv_nil) rfl ⟨rfl, hS⟩
  · refine seqR ?_
    refine at_run 1 [] [] [2, 3] [pl 2 (.int .i64 0), pl 3 (strV s1)] hF hS (by kernel_rfl) (by kernel_rfl) ?_ (fun a w hF hS => ?_)
    · exact obs_nil
    refine at_do (d := 4) (s := vS (Instr.range 9 (strV s1))) (v := .pointer (some ⟨w.heap.size, 0, none⟩)) (w' := w.alloc (.stringIter ⟨(s1).toArray⟩ 0)) hF (by kernel_rfl) (by kernel_rfl) (run_rangeS (s := s1) (by kernel_rfl)) (fun a hF => ?_)
    have hS : Sep w0 B (w.alloc (.stringIter ⟨(s1).toArray⟩ 0)) (iterH w.heap.size s1 0 :: (fs)) := hS.iterNew _
    generalize w.heap.size = g1 at hF hS
    generalize w.alloc (.stringIter ⟨(s1).toArray⟩ 0) = w at hS ⊢
    refine at_end [2, 4] [pl 2 (.int .i64 0), pl 4 (.pointer (some ⟨g1, 0, none⟩))] hF rfl (by kernel_rfl) (fun hF => ?_)
    refine then_n ?_
    refine wpIn_block ?_
    refine wp_loop_model (S := (Int × Int)) (R := Int) (utf8_RuneCountInString_L1 s1) (fun x => (utf8_RuneCountInString_K1 x).bind some) r (fun (x : (Int × Int)) a w => Fr 10 [pl 2 (.int .i64 x.1), pl 4 (.pointer (some ⟨g1, 0, none⟩))] a ∧ Sep w0 B w (iterH g1 s1 x.2 :: fs)) (assoc_b hm) ⟨hF.weak [2, 4] (by kernel_rfl), hS⟩ ?_
    clear hF hS hm
    rintro nn1 ⟨n1, z1⟩ a w ⟨hF, hS⟩ hm
    generalize hφ1 : stK (utf8_RuneCountInString_L1 s1) nn1 (fun x => (utf8_RuneCountInString_K1 x).bind some) = φ1 at hm
    unfold utf8_RuneCountInString_L1 at hm
    dsimp only at hF hS hm
    refine seqR ?_
    rcases Bool.eq_false_or_eq_true (decide (z1 < (s1.length : Int))) with hg1 | hg1
    · replace hm := if_t hm hg1
      obtain ⟨w, hrun, hS⟩ := run_nextT (P := Tryd.prog) (ty := 0) hg1 (hS.at_ 0 rfl)
      refine at_do (d := 5) hF (by kernel_rfl) (by kernel_rfl) hrun (fun a hF => ?_)
      have hS : Sep w0 B w (iterH g1 s1 (z1 + swid s1 z1) :: fs) := hS
      refine at_run 1 [] [] [2, 4, 6] [pl 2 (.int .i64 n1), pl 4 (.pointer (some ⟨g1, 0, none⟩)), pl 6 (.bool true)] hF hS (by kernel_rfl) (by kernel_rfl) ?_ (fun a w hF hS => ?_)
      · exact obs_nil
      refine at_end [2, 4, 6] [pl 2 (.int .i64 n1), pl 4 (.pointer (some ⟨g1, 0, none⟩)), pl 6 (.bool true)] hF rfl (by kernel_rfl) (fun hF => ?_)
      refine then_n ?_
      refine seq_cut (fun a w => Fr 10 [pl 2 (.int .i64 n1), pl 4 (.pointer (some ⟨g1, 0, none⟩))] a ∧ Sep w0 B w (iterH g1 s1 (z1 + swid s1 z1) :: fs) ∧ ((utf8_RuneCountInString_J2 s1 n1 z1)).bind φ1 = some r) ?_ ?_
      · rintro a w ⟨hF, hS, hm⟩
        unfold utf8_RuneCountInString_J2 at hm
        refine wpIn_block ?_
        refine reg1 [] [] [2, 4] [pl 2 (.int .i64 (w64 (n1 + 1))), pl 4 (.pointer (some ⟨g1, 0, none⟩))] hF hS Fol (by kernel_rfl) (by kernel_rfl) (by kernel_rfl) ?_ (fun a w hF hS => ?_)
        · exact obs_nil
        refine block_n ?_
        refine then_n ?_
        rw [← hφ1] at hm
        exact ⟨((w64 (n1 + 1)), (z1 + swid s1 z1)), ⟨hF.weak [2, 4] (by kernel_rfl), hS⟩, hm⟩
      · refine cond_ev (t := 6) (b := true) hF (by kernel_rfl) (fun hb => ?_) (fun hb => ?_)
        · refine wpIn_skip ?_
          refine then_n ?_
          exact ⟨hF.weak [2, 4] (by kernel_rfl), hS, hm⟩
        · exact absurd hb (by decide)
    · replace hm := if_f hm hg1
      refine at_do (d := 5) hF (by kernel_rfl) (by kernel_rfl) (run_nextF (P := Tryd.prog) (ty := 0) hg1 (hS.at_ 0 rfl)) (fun a hF => ?_)
      refine at_run 1 [] [] [2, 4, 6] [pl 2 (.int .i64 n1), pl 4 (.pointer (some ⟨g1, 0, none⟩)), pl 6 (.bool false)] hF hS (by kernel_rfl) (by kernel_rfl) ?_ (fun a w hF hS => ?_)
      · exact obs_nil
      refine at_end [2, 4, 6] [pl 2 (.int .i64 n1), pl 4 (.pointer (some ⟨g1, 0, none⟩)), pl 6 (.bool false)] hF rfl (by kernel_rfl) (fun hF => ?_)
      refine then_n ?_
      refine seq_cut (fun _ _ => False) (fun _ _ h => h.elim) ?_
      refine cond_ev (t := 6) (b := false) hF (by kernel_rfl) (fun hb => ?_) (fun hb => ?_)
      · exact absurd hb (by decide)
      · refine wpIn_exit ?_
        refine then_e (then_e (block_e (then_n ?_)))
        have hS := hS.pickN 1 [] (by decide)
        rw [← hφ1] at hm
        replace hm := done_b hm
        unfold utf8_RuneCountInString_K1 at hm
        try dsimp only at hm
        have hm : (utf8_RuneCountInString_J1 n1).bind some = some r := hm
        exact ⟨n1, hF.weak [2] (by kernel_rfl), hS, hm⟩

noncomputable def utf8_ValidString_m (s1 : List UInt8) : Option Bool :=
  asrt ((s1.length : Int) ≤ bigN) <| some (validS s1)

theorem utf8_ValidString_w {s1 : List UInt8} {r : Bool} {w0 w : World} {B : Nat} {fs : List HP} [UTab 0 1 w0 B] (hm : utf8_ValidString_m s1 = some r) (hS : Sep w0 B w (fs)) :
    Calls Tryd.prog 66 #[strV s1] w fun e w' => e = .returned (.bool r) ∧ Sep w0 B w' (fs) := by
  unfold utf8_ValidString_m at hm
  obtain ⟨hb, hm⟩ := asrt_b (start_b hm)
  obtain rfl := Option.some.inj hm
  exact valid_own ValidL (g3 := 0) (g4 := 1) rfl rfl hS hb

noncomputable def words_foreign_m  (c1 : Int) : Option Bool :=
  some (((decide (c1 < 97)) || (decide ((122 : Int) < c1))) && (((decide (c1 < 223)) || (decide ((255 : Int) < c1))) || (c1 == 247)))

set_option maxRecDepth 100000 in
set_option maxHeartbeats 4000000 in
theorem words_foreign_w  {c1 : Int} {r : Bool} {w0 w : World} {B : Nat} {fs : List HP} (hm : words_foreign_m c1 = some r) (hS : Sep w0 B w (fs)) :
    Calls Tryd.prog 69 #[.int .i32 c1] w fun e w' => e = .returned (.bool r) ∧ Sep w0 B w' (fs) := by
  unfold words_foreign_m at hm
  replace hm := start_b hm
  refine enter (l := [.int .i32 c1]) (n := 21) Tryd.func69 rfl rfl (by simp) (fun a hF => ?_)
  refine reg [] [] [0] [pl 0 (.int .i32 c1)] hF hS Fol (by kernel_rfl) (by kernel_rfl) (by kernel_rfl) ?_ (fun a w hF hS => ?_)
  · exact obs_nil
  refine reg [] [] [2] [pl 2 (.bool (((decide (c1 < 97)) || (decide ((122 : Int) < c1))) && (((decide (c1 < 223)) || (decide ((255 : Int) < c1))) || (c1 == 247))))] hF hS Fol (by kernel_rfl) (by kernel_rfl) (by kernel_rfl) ?_ (fun a w hF hS => ?_)
  · exact obs_nil
  refine wpIn_ret ?_
  have hm : some (((decide (c1 < 97)) || (decide ((122 : Int) < c1))) && (((decide (c1 < 223)) || (decide ((255 : Int) < c1))) || (c1 == 247))) = some r := hm
  obtain rfl := Option.some.inj hm
  exact retV (rs := [.tmp 2]) (vs := [.bool (((decide (c1 < 97)) || (decide ((122 : Int) < c1))) && (((decide (c1 < 223)) || (decide ((255 : Int) < c1))) || (c1 == 247)))]) hF rfl (rv_t (by kernel_rfl) <| rv_nil) rfl ⟨rfl, hS⟩

noncomputable def strings_indexFunc_J2  (s1 : List UInt8) (truth1 : Bool) (z1 : Int) : Option (St Int (Fl Unit Int)) :=
  (words_foreign_m (srune s1 z1)).bind fun r1 => if (r1 == truth1) then (some (.done (.ret z1))) else (some (.next (z1 + swid s1 z1)))

noncomputable def strings_indexFunc_J1  : Option Int :=
  some (-1)

noncomputable def strings_indexFunc_K1  : (Fl Unit Int) → Option Int :=
  fun (x : (Fl Unit Int)) => match x with | .go _ => strings_indexFunc_J1 | .ret x => some x

noncomputable def strings_indexFunc_L1  (s1 : List UInt8) (truth1 : Bool) : Int → Option (St Int (Fl Unit Int)) :=
  fun (x : Int) => match x with | z1 => if (decide (z1 < (s1.length : Int))) then ((strings_indexFunc_J2 s1 truth1 z1)) else (some (.done (.go ())))

noncomputable def strings_indexFunc_m  (s1 : List UInt8) (truth1 : Bool) : Option Int :=
  (loop (strings_indexFunc_L1 s1 truth1) (0 : Int)).bind strings_indexFunc_K1

set_option maxRecDepth 100000 in
set_option maxHeartbeats 4000000 in
theorem strings_indexFunc_w  {s1 : List UInt8} {truth1 : Bool} {r : Int} {w0 w : World} {B : Nat} {fs : List HP} (hm : strings_indexFunc_m s1 truth1 = some r) (hS : Sep w0 B w (fs)) :
    Calls Tryd.prog 146 #[strV s1, .func (.func 69) #[] #[], .bool truth1] w fun e w' => e = .returned (.int .i64 r) ∧ Sep w0 B w' (fs) := by
  unfold strings_indexFunc_m at hm
  replace hm := start_b hm
  refine enter (l := [strV s1, .func (.func 69) #[] #[], .bool truth1]) (n := 21) Tryd.func146 rfl rfl (by simp) (fun a hF => ?_)
  refine reg [] [] [0, 1, 2] [pl 0 (strV s1), pl 1 (.func (.func 69) #[] #[]), pl 2 (.bool truth1)] hF hS Fol (by kernel_rfl) (by kernel_rfl) (by kernel_rfl) ?_ (fun a w hF hS => ?_)
  · exact obs_nil
  refine seq_cut (fun a w => Fr 21 [] a ∧ Sep w0 B w (fs) ∧ (strings_indexFunc_J1).bind some = some r) ?_ ?_
  · rintro a w ⟨hF, hS, hm⟩
    unfold strings_indexFunc_J1 at hm
    refine reg [] [] [6] [pl 6 (.int .i64 (-1))] hF hS Fol (by kernel_rfl) (by kernel_rfl) (by kernel_rfl) ?_ (fun a w hF hS => ?_)
    · exact obs_nil
    refine wpIn_ret ?_
    have hm : some (-1) = some r := hm
    obtain rfl := Option.some.inj hm
    exact retV (rs := [.tmp 6]) (vs := [.int .i64 (-1)]) hF rfl (rv_t (by kernel_rfl) <| rv_nil) rfl ⟨rfl, hS⟩
  · refine seqR ?_
    refine at_run 1 [] [] [1, 2, 9] [pl 1 (.func (.func 69) #[] #[]), pl 2 (.bool truth1), pl 9 (strV s1)] hF hS (by kernel_rfl) (by kernel_rfl) ?_ (fun a w hF hS => ?_)
    · exact obs_nil
    refine at_do (d := 10) (s := vS (Instr.range 9 (strV s1))) (v := .pointer (some ⟨w.heap.size, 0, none⟩)) (w' := w.alloc (.stringIter ⟨(s1).toArray⟩ 0)) hF (by kernel_rfl) (by kernel_rfl) (run_rangeS (s := s1) (by kernel_rfl)) (fun a hF => ?_)
    have hS : Sep w0 B (w.alloc (.stringIter ⟨(s1).toArray⟩ 0)) (iterH w.heap.size s1 0 :: (fs)) := hS.iterNew _
    generalize w.heap.size = g1 at hF hS
    generalize w.alloc (.stringIter ⟨(s1).toArray⟩ 0) = w at hS ⊢
    refine at_end [1, 2, 10] [pl 1 (.func (.func 69) #[] #[]), pl 2 (.bool truth1), pl 10 (.pointer (some ⟨g1, 0, none⟩))] hF rfl (by kernel_rfl) (fun hF => ?_)
    refine then_n ?_
    refine wpIn_block ?_
    refine wp_loop_model (S := Int) (R := (Fl Unit Int)) (strings_indexFunc_L1 s1 truth1) (fun x => (strings_indexFunc_K1 x).bind some) r (fun (x : Int) a w => Fr 21 [pl 1 (.func (.func 69) #[] #[]), pl 2 (.bool truth1), pl 10 (.pointer (some ⟨g1, 0, none⟩))] a ∧ Sep w0 B w (iterH g1 s1 x :: fs)) (assoc_b hm) ⟨hF.weak [1, 2, 10] (by kernel_rfl), hS⟩ ?_
    clear hF hS hm
    rintro nn1 z1 a w ⟨hF, hS⟩ hm
    generalize hφ1 : stK (strings_indexFunc_L1 s1 truth1) nn1 (fun x => (strings_indexFunc_K1 x).bind some) = φ1 at hm
    unfold strings_indexFunc_L1 at hm
    dsimp only at hm
    refine seqR ?_
    rcases Bool.eq_false_or_eq_true (decide (z1 < (s1.length : Int))) with hg1 | hg1
    · replace hm := if_t hm hg1
      obtain ⟨w, hrun, hS⟩ := run_nextT (P := Tryd.prog) (ty := 0) hg1 (hS.at_ 0 rfl)
      refine at_do (d := 11) hF (by kernel_rfl) (by kernel_rfl) hrun (fun a hF => ?_)
      have hS : Sep w0 B w (iterH g1 s1 (z1 + swid s1 z1) :: fs) := hS
      refine at_run 1 [] [] [1, 2, 10, 11, 12] [pl 1 (.func (.func 69) #[] #[]), pl 2 (.bool truth1), pl 10 (.pointer (some ⟨g1, 0, none⟩)), pl 11 (.tuple #[.bool true, .int .i64 z1, .int .i32 (srune s1 z1)]), pl 12 (.bool true)] hF hS (by kernel_rfl) (by kernel_rfl) ?_ (fun a w hF hS => ?_)
      · exact obs_nil
      refine at_end [1, 2, 10, 11, 12] [pl 1 (.func (.func 69) #[] #[]), pl 2 (.bool truth1), pl 10 (.pointer (some ⟨g1, 0, none⟩)), pl 11 (.tuple #[.bool true, .int .i64 z1, .int .i32 (srune s1 z1)]), pl 12 (.bool true)] hF rfl (by kernel_rfl) (fun hF => ?_)
      refine then_n ?_
      refine seq_cut (fun a w => Fr 21 [pl 1 (.func (.func 69) #[] #[]), pl 2 (.bool truth1), pl 10 (.pointer (some ⟨g1, 0, none⟩)), pl 11 (.tuple #[.bool true, .int .i64 z1, .int .i32 (srune s1 z1)])] a ∧ Sep w0 B w (iterH g1 s1 (z1 + swid s1 z1) :: fs) ∧ ((strings_indexFunc_J2 s1 truth1 z1)).bind φ1 = some r) ?_ ?_
      · rintro a w ⟨hF, hS, hm⟩
        unfold strings_indexFunc_J2 at hm
        refine wpIn_block ?_
        refine reg [] [] [1, 2, 7, 8, 10] [pl 1 (.func (.func 69) #[] #[]), pl 2 (.bool truth1), pl 7 (.int .i64 z1), pl 8 (.int .i32 (srune s1 z1)), pl 10 (.pointer (some ⟨g1, 0, none⟩))] hF hS Fol (by kernel_rfl) (by kernel_rfl) (by kernel_rfl) ?_ (fun a w hF hS => ?_)
        · exact obs_nil
        obtain ⟨r1, hr1, hm⟩ := call_b hm
        refine reg [⟨false, [], callFunc 69 #[.int .i32 (srune s1 z1)], .bool r1⟩] [none, none, some (.bool r1), none, none] [1, 2, 7, 10, 19] [pl 1 (.func (.func 69) #[] #[]), pl 2 (.bool truth1), pl 7 (.int .i64 z1), pl 10 (.pointer (some ⟨g1, 0, none⟩)), pl 19 (.bool (r1 == truth1))] hF hS Fol (by kernel_rfl) (by kernel_rfl) (by kernel_rfl) ?_ (fun a w hF hS => ?_)
        · exact obs_cons (ob_call Tryd.func69 (by kernel_rfl) rfl (fun _ _ hS => words_foreign_w hr1 hS )) <| obs_nil
        refine cond_ev (t := 19) (b := (r1 == truth1)) hF (by kernel_rfl) (fun hb => ?_) (fun hb => ?_)
        · replace hm := if_t hm hb
          refine reg [] [] [6] [pl 6 (.int .i64 z1)] hF hS Fol (by kernel_rfl) (by kernel_rfl) (by kernel_rfl) ?_ (fun a w hF hS => ?_)
          · exact obs_nil
          refine wpIn_ret ?_
          refine block_r (then_r (block_r (then_r ?_)))
          rw [← hφ1] at hm
          replace hm := done_b hm
          unfold strings_indexFunc_K1 at hm
          try dsimp only at hm
          have hS := hS.pickN 1 [] (by decide)
          have hm : some z1 = some r := hm
          obtain rfl := Option.some.inj hm
          exact retV (rs := [.tmp 6]) (vs := [.int .i64 z1]) hF rfl (rv_t (by kernel_rfl) <| rv_nil) rfl ⟨rfl, hS⟩
        · replace hm := if_f hm hb
          refine wpIn_skip ?_
          refine block_n ?_
          refine then_n ?_
          rw [← hφ1] at hm
          exact ⟨(z1 + swid s1 z1), ⟨hF.weak [1, 2, 10] (by kernel_rfl), hS⟩, hm⟩
      · refine cond_ev (t := 12) (b := true) hF (by kernel_rfl) (fun hb => ?_) (fun hb => ?_)
        · refine wpIn_skip ?_
          refine then_n ?_
          exact ⟨hF.weak [1, 2, 10, 11] (by kernel_rfl), hS, hm⟩
        · exact absurd hb (by decide)
    · replace hm := if_f hm hg1
      refine at_do (d := 11) hF (by kernel_rfl) (by kernel_rfl) (run_nextF (P := Tryd.prog) (ty := 0) hg1 (hS.at_ 0 rfl)) (fun a hF => ?_)
      refine at_run 1 [] [] [1, 2, 10, 11, 12] [pl 1 (.func (.func 69) #[] #[]), pl 2 (.bool truth1), pl 10 (.pointer (some ⟨g1, 0, none⟩)), pl 11 (.tuple #[.bool false]), pl 12 (.bool false)] hF hS (by kernel_rfl) (by kernel_rfl) ?_ (fun a w hF hS => ?_)
      · exact obs_nil
      refine at_end [1, 2, 10, 11, 12] [pl 1 (.func (.func 69) #[] #[]), pl 2 (.bool truth1), pl 10 (.pointer (some ⟨g1, 0, none⟩)), pl 11 (.tuple #[.bool false]), pl 12 (.bool false)] hF rfl (by kernel_rfl) (fun hF => ?_)
      refine then_n ?_
      refine seq_cut (fun _ _ => False) (fun _ _ h => h.elim) ?_
      refine cond_ev (t := 12) (b := false) hF (by kernel_rfl) (fun hb => ?_) (fun hb => ?_)
      · exact absurd hb (by decide)
      · refine wpIn_exit ?_
        refine then_e (then_e (block_e (then_n ?_)))
        have hS := hS.pickN 1 [] (by decide)
        rw [← hφ1] at hm
        replace hm := done_b hm
        unfold strings_indexFunc_K1 at hm
        try dsimp only at hm
        have hm : (strings_indexFunc_J1).bind some = some r := hm
        exact ⟨hF.weak [] (by kernel_rfl), hS, hm⟩

noncomputable def strings_IndexFunc_m  (s1 : List UInt8) : Option Int :=
  (strings_indexFunc_m s1 true).bind fun r1 => some r1

set_option maxRecDepth 100000 in
set_option maxHeartbeats 4000000 in
theorem strings_IndexFunc_w  {s1 : List UInt8} {r : Int} {w0 w : World} {B : Nat} {fs : List HP} (hm : strings_IndexFunc_m s1 = some r) (hS : Sep w0 B w (fs)) :
    Calls Tryd.prog 110 #[strV s1, .func (.func 69) #[] #[]] w fun e w' => e = .returned (.int .i64 r) ∧ Sep w0 B w' (fs) := by
  unfold strings_IndexFunc_m at hm
  replace hm := start_b hm
  refine enter (l := [strV s1, .func (.func 69) #[] #[]]) (n := 8) Tryd.func110 rfl rfl (by simp) (fun a hF => ?_)
  refine reg [] [] [0, 1] [pl 0 (strV s1), pl 1 (.func (.func 69) #[] #[])] hF hS Fol (by kernel_rfl) (by kernel_rfl) (by kernel_rfl) ?_ (fun a w hF hS => ?_)
  · exact obs_nil
  obtain ⟨r1, hr1, hm⟩ := call_b hm
  refine reg [⟨false, [], callFunc 146 #[strV s1, .func (.func 69) #[] #[], .bool true], .int .i64 r1⟩] [none, none, some (.int .i64 r1), none] [4] [pl 4 (.int .i64 r1)] hF hS Fol (by kernel_rfl) (by kernel_rfl) (by kernel_rfl) ?_ (fun a w hF hS => ?_)
  · exact obs_cons (ob_call Tryd.func146 (by kernel_rfl) rfl (fun _ _ hS => strings_indexFunc_w hr1 hS )) <| obs_nil
  refine wpIn_ret ?_
  have hm : some r1 = some r := hm
  obtain rfl := Option.some.inj hm
  exact retV (rs := [.tmp 4]) (vs := [.int .i64 r1]) hF rfl (rv_t (by kernel_rfl) <| rv_nil) rfl ⟨rfl, hS⟩

noncomputable def strings_ContainsFunc_m  (s1 : List UInt8) : Option Bool :=
  (strings_IndexFunc_m s1).bind fun r1 => some (decide ((0 : Int) ≤ r1))

set_option maxRecDepth 100000 in
set_option maxHeartbeats 4000000 in
theorem strings_ContainsFunc_w  {s1 : List UInt8} {r : Bool} {w0 w : World} {B : Nat} {fs : List HP} (hm : strings_ContainsFunc_m s1 = some r) (hS : Sep w0 B w (fs)) :
    Calls Tryd.prog 67 #[strV s1, .func (.func 69) #[] #[]] w fun e w' => e = .returned (.bool r) ∧ Sep w0 B w' (fs) := by
  unfold strings_ContainsFunc_m at hm
  replace hm := start_b hm
  refine enter (l := [strV s1, .func (.func 69) #[] #[]]) (n := 9) Tryd.func67 rfl rfl (by simp) (fun a hF => ?_)
  refine reg [] [] [0, 1] [pl 0 (strV s1), pl 1 (.func (.func 69) #[] #[])] hF hS Fol (by kernel_rfl) (by kernel_rfl) (by kernel_rfl) ?_ (fun a w hF hS => ?_)
  · exact obs_nil
  obtain ⟨r1, hr1, hm⟩ := call_b hm
  refine reg [⟨false, [], callFunc 110 #[strV s1, .func (.func 69) #[] #[]], .int .i64 r1⟩] [none, none, some (.int .i64 r1), none, none] [4] [pl 4 (.bool (decide ((0 : Int) ≤ r1)))] hF hS Fol (by kernel_rfl) (by kernel_rfl) (by kernel_rfl) ?_ (fun a w hF hS => ?_)
  · exact obs_cons (ob_call Tryd.func110 (by kernel_rfl) rfl (fun _ _ hS => strings_IndexFunc_w hr1 hS )) <| obs_nil
  refine wpIn_ret ?_
  have hm : some (decide ((0 : Int) ≤ r1)) = some r := hm
  obtain rfl := Option.some.inj hm
  exact retV (rs := [.tmp 4]) (vs := [.bool (decide ((0 : Int) ≤ r1))]) hF rfl (rv_t (by kernel_rfl) <| rv_nil) rfl ⟨rfl, hS⟩

noncomputable def words_word_m  (s1 : List UInt8) : Option Bool :=
  (utf8_RuneCountInString_m s1).bind fun r1 => ((if ((decide ((1 : Int) ≤ r1)) && (decide (r1 ≤ 8))) then utf8_ValidString_m s1 else some false)).bind fun r2 => ((if (((decide ((1 : Int) ≤ r1)) && (decide (r1 ≤ 8))) && r2) then strings_ContainsFunc_m s1 else some false)).bind fun r3 => some ((((decide ((1 : Int) ≤ r1)) && (decide (r1 ≤ 8))) && r2) && (!r3))

set_option maxRecDepth 100000 in
set_option maxHeartbeats 4000000 in
theorem words_word_w  {s1 : List UInt8} {r : Bool} {w0 w : World} {B : Nat} {fs : List HP} [UTab 0 1 w0 B] (hm : words_word_m s1 = some r) (hS : Sep w0 B w (fs)) :
    Calls Tryd.prog 50 #[strV s1] w fun e w' => e = .returned (.bool r) ∧ Sep w0 B w' (fs) := by
  unfold words_word_m at hm
  replace hm := start_b hm
  refine enter (l := [strV s1]) (n := 21) Tryd.func50 rfl rfl (by simp) (fun a hF => ?_)
  refine reg [] [] [0] [pl 0 (strV s1)] hF hS Fol (by kernel_rfl) (by kernel_rfl) (by kernel_rfl) ?_ (fun a w hF hS => ?_)
  · exact obs_nil
  obtain ⟨r1, hr1, hm⟩ := call_b hm
  refine reg [⟨false, [], callFunc 65 #[strV s1], .int .i64 r1⟩] [none, some (.int .i64 r1), none] [0, 3] [pl 0 (strV s1), pl 3 (.int .i64 r1)] hF hS Fol (by kernel_rfl) (by kernel_rfl) (by kernel_rfl) ?_ (fun a w hF hS => ?_)
  · exact obs_cons (ob_call Tryd.func65 (by kernel_rfl) rfl (fun _ _ hS => utf8_RuneCountInString_w hr1 hS )) <| obs_nil
  obtain ⟨r2, hr2, hm⟩ := call_b hm
  obtain ⟨r3, hr3, hm⟩ := call_b hm
  refine reg [⟨false, [((decide ((1 : Int) ≤ r1)) && (decide (r1 ≤ 8)), true)], callFunc 66 #[strV s1], .bool r2⟩, ⟨false, [(((decide ((1 : Int) ≤ r1)) && (decide (r1 ≤ 8))) && r2, true)], callFunc 67 #[strV s1, .func (.func 69) #[] #[]], .bool r3⟩] [none, none, none, none, none, none, none, none, some (.bool r2), none, none, none, some (.bool r3), none, none, none] [2] [pl 2 (.bool ((((decide ((1 : Int) ≤ r1)) && (decide (r1 ≤ 8))) && r2) && (!r3)))] hF hS Fol (by kernel_rfl) (by kernel_rfl) (by kernel_rfl) ?_ (fun a w hF hS => ?_)
  · exact obs_cons (ob_call Tryd.func66 (by kernel_rfl) rfl (fun hy _ hS => utf8_ValidString_w (ite_some hr2 (by rw [show ((decide ((1 : Int) ≤ r1)) && (decide (r1 ≤ 8))) = true from hy ((decide ((1 : Int) ≤ r1)) && (decide (r1 ≤ 8)), true) (by simp)]; try rfl)) hS )) <| obs_cons (ob_call Tryd.func67 (by kernel_rfl) rfl (fun hy _ hS => strings_ContainsFunc_w (ite_some hr3 (by rw [show (((decide ((1 : Int) ≤ r1)) && (decide (r1 ≤ 8))) && r2) = true from hy (((decide ((1 : Int) ≤ r1)) && (decide (r1 ≤ 8))) && r2, true) (by simp)]; try rfl)) hS )) <| obs_nil
  refine wpIn_ret ?_
  have hm : some ((((decide ((1 : Int) ≤ r1)) && (decide (r1 ≤ 8))) && r2) && (!r3)) = some r := hm
  obtain rfl := Option.some.inj hm
  exact retV (rs := [.tmp 2]) (vs := [.bool ((((decide ((1 : Int) ≤ r1)) && (decide (r1 ≤ 8))) && r2) && (!r3))]) hF rfl (rv_t (by kernel_rfl) <| rv_nil) rfl ⟨rfl, hS⟩

noncomputable def words_check_J6  (z1 : Int) : Option (St Int (Fl Unit Int)) :=
  some (.next (w64 (z1 + 1)))

noncomputable def words_check_J5  (lists1 : List (List UInt8)) (z1 : Int) : Option (St Int (Fl Unit Int)) :=
  asrt (0 ≤ z1 ∧ z1 < (lists1.length : Int)) <| (words_word_m (getd ([] : List UInt8) lists1 z1)).bind fun r1 => if (!r1) then (some (.done (.ret 14))) else ((words_check_J6 z1))

noncomputable def words_check_J11  (z2 : Int) : Option (St Int (Fl Unit Int)) :=
  some (.next (w64 (z2 + 1)))

noncomputable def words_check_J10  (lists2 : List (List UInt8)) (z2 : Int) : Option (St Int (Fl Unit Int)) :=
  asrt (0 ≤ z2 ∧ z2 < (lists2.length : Int)) <| (words_word_m (getd ([] : List UInt8) lists2 z2)).bind fun r2 => if (!r2) then (some (.done (.ret 14))) else ((words_check_J11 z2))

noncomputable def words_check_L2  (lists2 : List (List UInt8)) : Int → Option (St Int (Fl Unit Int)) :=
  fun (x : Int) => match x with | z2 => if (decide (z2 < (lists2.length : Int))) then ((words_check_J10 lists2 z2)) else (some (.done (.go ())))

noncomputable def words_check_J1  : Option Int :=
  some 0

noncomputable def words_check_J8  : Option Int :=
  words_check_J1

noncomputable def words_check_K2  : (Fl Unit Int) → Option Int :=
  fun (x : (Fl Unit Int)) => match x with | .go _ => words_check_J8 | .ret x => some x

noncomputable def words_check_J9  (lists2 : List (List UInt8)) : Option Int :=
  (loop (words_check_L2 lists2) 0).bind words_check_K2

noncomputable def words_check_J7  (lists2 : List (List UInt8)) : Option Int :=
  asrt (0 ≤ (1 : Int) ∧ (1 : Int) < 2) <| if (decide ((60 : Int) < (lists2.length : Int))) then (some 2) else ((words_check_J9 lists2))

noncomputable def words_check_J3  (lists2 : List (List UInt8)) : Option Int :=
  (words_check_J7 lists2)

noncomputable def words_check_K1  (lists2 : List (List UInt8)) : (Fl Unit Int) → Option Int :=
  fun (x : (Fl Unit Int)) => match x with | .go _ => (words_check_J3 lists2) | .ret x => some x

noncomputable def words_check_L1  (lists1 : List (List UInt8)) : Int → Option (St Int (Fl Unit Int)) :=
  fun (x : Int) => match x with | z1 => if (decide (z1 < (lists1.length : Int))) then ((words_check_J5 lists1 z1)) else (some (.done (.go ())))

noncomputable def words_check_J4  (lists1 : List (List UInt8)) (lists2 : List (List UInt8)) : Option Int :=
  (loop (words_check_L1 lists1) 0).bind (words_check_K1 lists2)

noncomputable def words_check_J2  (lists1 : List (List UInt8)) (lists2 : List (List UInt8)) : Option Int :=
  asrt (0 ≤ (0 : Int) ∧ (0 : Int) < 2) <| if (decide ((60 : Int) < (lists1.length : Int))) then (some 2) else ((words_check_J4 lists1 lists2))

noncomputable def words_check_m  (lists1 : List (List UInt8)) (lists2 : List (List UInt8)) : Option Int :=
  (words_check_J2 lists1 lists2)

set_option maxRecDepth 100000 in
set_option maxHeartbeats 4000000 in
theorem words_check_w  {A1 : Option Addr} {A2 : Option Addr} {c1 : Nat} {n1 : Nat} {lists1 : List (List UInt8)} {A3 : Option Addr} {c2 : Nat} {n2 : Nat} {lists2 : List (List UInt8)} {r : Int} {w0 w : World} {B : Nat} {fs : List HP} [UTab 0 1 w0 B] (hm : words_check_m lists1 lists2 = some r) (hS : Sep w0 B w (own 40 (.slice A1 2 2) (List.map (fun v => v) ([.slice A2 n1 c1, .slice A3 n2 c2] : List Value)) :: fs)) (hr_lists1 : RdF w0 B fs A2 ((List.map strV lists1))) (_hc_lists1 : lists1.length ≤ c1) (_hn_lists1 : n1 = lists1.length) (hr_lists2 : RdF w0 B fs A3 ((List.map strV lists2))) (_hc_lists2 : lists2.length ≤ c2) (_hn_lists2 : n2 = lists2.length) :
    Calls Tryd.prog 61 #[.slice A1 2 2] w fun e w' => e = .returned (.int .i64 r) ∧ Sep w0 B w' (own 40 (.slice A1 2 2) (List.map (fun v => v) ([.slice A2 n1 c1, .slice A3 n2 c2] : List Value)) :: fs) := by
  obtain ⟨i9, hi9, hz9, hs9, hb9⟩ := info_parts Info9
  obtain ⟨i40, hi40, hz40, hs40, hb40⟩ := info_parts Info40
  obtain rfl := _hn_lists1
  obtain rfl := _hn_lists2
  unfold words_check_m at hm
  replace hm := start_b hm
  refine enter (l := [.slice A1 2 2]) (n := 27) Tryd.func61 rfl rfl (by simp) (fun a hF => ?_)
  refine reg [] [] [0] [pl 0 (.slice A1 2 2)] hF hS Fol (by kernel_rfl) (by kernel_rfl) (by kernel_rfl) ?_ (fun a w hF hS => ?_)
  · exact obs_nil
  refine seq_cut (fun a w => Fr 27 [] a ∧ Sep w0 B w (own 40 (.slice A1 2 2) (List.map (fun v => v) ([.slice A2 lists1.length c1, .slice A3 lists2.length c2] : List Value)) :: fs) ∧ (words_check_J1).bind some = some r) ?_ ?_
  · rintro a w ⟨hF, hS, hm⟩
    unfold words_check_J1 at hm
    refine reg [] [] [2] [pl 2 (.int .i64 0)] hF hS Fol (by kernel_rfl) (by kernel_rfl) (by kernel_rfl) ?_ (fun a w hF hS => ?_)
    · exact obs_nil
    refine wpIn_ret ?_
    have hm : some 0 = some r := hm
    obtain rfl := Option.some.inj hm
    exact retV (rs := [.tmp 2]) (vs := [.int .i64 0]) hF rfl (rv_t (by kernel_rfl) <| rv_nil) rfl ⟨rfl, hS⟩
  · refine reg [] [] [7, 8, 9] [pl 7 (.slice A1 2 2), pl 8 (.int .i64 2), pl 9 (.int .i64 0)] hF hS Fol (by kernel_rfl) (by kernel_rfl) (by kernel_rfl) ?_ (fun a w hF hS => ?_)
    · exact obs_nil
    refine wpIn_block ?_
    refine loop_rounds 3 ?_
    refine rounds_s (n := 2) ?_
    refine reg [] [] [7, 8, 9, 10] [pl 7 (.slice A1 2 2), pl 8 (.int .i64 2), pl 9 (.int .i64 0), pl 10 (.bool (decide ((0 : Int) < 2)))] hF hS Fol (by kernel_rfl) (by kernel_rfl) (by kernel_rfl) ?_ (fun a w hF hS => ?_)
    · exact obs_nil
    refine seq_cut (fun a w => Fr 27 [pl 7 (.slice A1 2 2), pl 8 (.int .i64 2), pl 9 (.int .i64 0)] a ∧ Sep w0 B w (own 40 (.slice A1 2 2) (List.map (fun v => v) ([.slice A2 lists1.length c1, .slice A3 lists2.length c2] : List Value)) :: fs) ∧ ((words_check_J2 lists1 lists2)).bind some = some r) ?_ ?_
    · rintro a w ⟨hF, hS, hm⟩
      unfold words_check_J2 at hm
      refine seq_cut (fun a w => Fr 27 [pl 7 (.slice A1 2 2), pl 8 (.int .i64 2), pl 9 (.int .i64 0)] a ∧ Sep w0 B w (own 40 (.slice A1 2 2) (List.map (fun v => v) ([.slice A2 lists1.length c1, .slice A3 lists2.length c2] : List Value)) :: fs) ∧ ((words_check_J3 lists2)).bind some = some r) ?_ ?_
      · rintro a w ⟨hF, hS, hm⟩
        unfold words_check_J3 at hm
        refine reg1 [] [] [7, 8, 9] [pl 7 (.slice A1 2 2), pl 8 (.int .i64 2), pl 9 (.int .i64 1)] hF hS Fol (by kernel_rfl) (by kernel_rfl) (by kernel_rfl) ?_ (fun a w hF hS => ?_)
        · exact obs_nil
        refine then_n ?_
        refine rounds_s (n := 1) ?_
        refine reg [] [] [7, 8, 9, 10] [pl 7 (.slice A1 2 2), pl 8 (.int .i64 2), pl 9 (.int .i64 1), pl 10 (.bool (decide ((1 : Int) < 2)))] hF hS Fol (by kernel_rfl) (by kernel_rfl) (by kernel_rfl) ?_ (fun a w hF hS => ?_)
        · exact obs_nil
        refine seq_cut (fun a w => Fr 27 [pl 7 (.slice A1 2 2), pl 8 (.int .i64 2), pl 9 (.int .i64 1)] a ∧ Sep w0 B w (own 40 (.slice A1 2 2) (List.map (fun v => v) ([.slice A2 lists1.length c1, .slice A3 lists2.length c2] : List Value)) :: fs) ∧ ((words_check_J7 lists2)).bind some = some r) ?_ ?_
        · rintro a w ⟨hF, hS, hm⟩
          unfold words_check_J7 at hm
          refine seq_cut (fun a w => Fr 27 [pl 7 (.slice A1 2 2), pl 8 (.int .i64 2), pl 9 (.int .i64 1)] a ∧ Sep w0 B w (own 40 (.slice A1 2 2) (List.map (fun v => v) ([.slice A2 lists1.length c1, .slice A3 lists2.length c2] : List Value)) :: fs) ∧ (words_check_J8).bind some = some r) ?_ ?_
          · rintro a w ⟨hF, hS, hm⟩
            unfold words_check_J8 at hm
            refine reg1 [] [] [7, 8, 9] [pl 7 (.slice A1 2 2), pl 8 (.int .i64 2), pl 9 (.int .i64 2)] hF hS Fol (by kernel_rfl) (by kernel_rfl) (by kernel_rfl) ?_ (fun a w hF hS => ?_)
            · exact obs_nil
            refine then_n ?_
            refine rounds_s (n := 0) ?_
            refine reg [] [] [7, 8, 9, 10] [pl 7 (.slice A1 2 2), pl 8 (.int .i64 2), pl 9 (.int .i64 2), pl 10 (.bool (decide ((2 : Int) < 2)))] hF hS Fol (by kernel_rfl) (by kernel_rfl) (by kernel_rfl) ?_ (fun a w hF hS => ?_)
            · exact obs_nil
            refine seq_cut (fun _ _ => False) (fun _ _ h => h.elim) ?_
            refine cond_ev (t := 10) (b := decide ((2 : Int) < 2)) hF (by kernel_rfl) (fun hb => ?_) (fun hb => ?_)
            · exact absurd hb (by decide)
            · refine wpIn_exit ?_
              refine then_e (then_e (block_e (then_n ?_)))
              exact ⟨hF.weak [] (by kernel_rfl), hS, hm⟩
          · refine wpIn_block ?_
            obtain ⟨hp3, hm⟩ := asrt_b hm
            refine reg [⟨true, [], vS (Instr.indexAt 107 (.slice A1 2 2) (.int .i64 1)), .pointer (some (sAddr A1 1))⟩, ⟨false, [], vS (Instr.loadAt 40 (.pointer (some (sAddr A1 1)))), .slice A3 lists2.length c2⟩] [some (.pointer (some (sAddr A1 1))), some (.slice A3 lists2.length c2), none] [4, 7, 8, 9] [pl 4 (.slice A3 lists2.length c2), pl 7 (.slice A1 2 2), pl 8 (.int .i64 2), pl 9 (.int .i64 1)] hF hS Fol (by kernel_rfl) (by kernel_rfl) (by kernel_rfl) ?_ (fun a w hF hS => ?_)
            · exact obs_cons (ob_ix1 (f := fun v => v) (m := ([.slice A2 lists1.length c1, .slice A3 lists2.length c2] : List Value)) Und107 hi40 hs40 (hS.at_ 0 rfl).rd rfl (fun _ => hp3)) <| obs_cons (ob_get1 (n := 2) (m := ([.slice A2 lists1.length c1, .slice A3 lists2.length c2] : List Value)) (fun v => v) (.slice none 0 0) Agg40 (fun _ hS => ⟨_, (hS.at_ 0 rfl).rd⟩) (fun _ hS => rfl) (fun _ => hp3)) <| obs_nil
            refine seq_cut (fun a w => Fr 27 [pl 4 (.slice A3 lists2.length c2), pl 7 (.slice A1 2 2), pl 8 (.int .i64 2), pl 9 (.int .i64 1)] a ∧ Sep w0 B w (own 40 (.slice A1 2 2) (List.map (fun v => v) ([.slice A2 lists1.length c1, .slice A3 lists2.length c2] : List Value)) :: fs) ∧ ((words_check_J9 lists2)).bind some = some r) ?_ ?_
            · rintro a w ⟨hF, hS, hm⟩
              unfold words_check_J9 at hm
              refine reg [] [] [7, 8, 9, 16, 17, 18] [pl 7 (.slice A1 2 2), pl 8 (.int .i64 2), pl 9 (.int .i64 1), pl 16 (.slice A3 lists2.length c2), pl 17 (.int .i64 (lists2.length : Int)), pl 18 (.int .i64 0)] hF hS Fol (by kernel_rfl) (by kernel_rfl) (by kernel_rfl) ?_ (fun a w hF hS => ?_)
              · exact obs_nil
              refine wpIn_block ?_
              refine wp_loop_model (S := Int) (R := (Fl Unit Int)) (words_check_L2 lists2) (fun x => (words_check_K2 x).bind some) r (fun (x : Int) a w => Fr 27 [pl 7 (.slice A1 2 2), pl 8 (.int .i64 2), pl 9 (.int .i64 1), pl 16 (.slice A3 lists2.length c2), pl 17 (.int .i64 (lists2.length : Int)), pl 18 (.int .i64 x)] a ∧ Sep w0 B w (own 40 (.slice A1 2 2) (List.map (fun v => v) ([.slice A2 lists1.length c1, .slice A3 lists2.length c2] : List Value)) :: fs)) (assoc_b hm) ⟨hF.weak [7, 8, 9, 16, 17, 18] (by kernel_rfl), hS⟩ ?_
              clear hF hS hm
              rintro nn2 z2 a w ⟨hF, hS⟩ hm
              generalize hφ2 : stK (words_check_L2 lists2) nn2 (fun x => (words_check_K2 x).bind some) = φ2 at hm
              unfold words_check_L2 at hm
              dsimp only at hm
              refine reg [] [] [7, 8, 9, 16, 17, 18, 19] [pl 7 (.slice A1 2 2), pl 8 (.int .i64 2), pl 9 (.int .i64 1), pl 16 (.slice A3 lists2.length c2), pl 17 (.int .i64 (lists2.length : Int)), pl 18 (.int .i64 z2), pl 19 (.bool (decide (z2 < (lists2.length : Int))))] hF hS Fol (by kernel_rfl) (by kernel_rfl) (by kernel_rfl) ?_ (fun a w hF hS => ?_)
              · exact obs_nil
              refine seq_cut (fun a w => Fr 27 [pl 7 (.slice A1 2 2), pl 8 (.int .i64 2), pl 9 (.int .i64 1), pl 16 (.slice A3 lists2.length c2), pl 17 (.int .i64 (lists2.length : Int)), pl 18 (.int .i64 z2)] a ∧ Sep w0 B w (own 40 (.slice A1 2 2) (List.map (fun v => v) ([.slice A2 lists1.length c1, .slice A3 lists2.length c2] : List Value)) :: fs) ∧ ((words_check_J10 lists2 z2)).bind φ2 = some r) ?_ ?_
              · rintro a w ⟨hF, hS, hm⟩
                unfold words_check_J10 at hm
                refine seq_cut (fun a w => Fr 27 [pl 7 (.slice A1 2 2), pl 8 (.int .i64 2), pl 9 (.int .i64 1), pl 16 (.slice A3 lists2.length c2), pl 17 (.int .i64 (lists2.length : Int)), pl 18 (.int .i64 z2)] a ∧ Sep w0 B w (own 40 (.slice A1 2 2) (List.map (fun v => v) ([.slice A2 lists1.length c1, .slice A3 lists2.length c2] : List Value)) :: fs) ∧ ((words_check_J11 z2)).bind φ2 = some r) ?_ ?_
                · rintro a w ⟨hF, hS, hm⟩
                  unfold words_check_J11 at hm
                  refine reg1 [] [] [7, 8, 9, 16, 17, 18] [pl 7 (.slice A1 2 2), pl 8 (.int .i64 2), pl 9 (.int .i64 1), pl 16 (.slice A3 lists2.length c2), pl 17 (.int .i64 (lists2.length : Int)), pl 18 (.int .i64 (w64 (z2 + 1)))] hF hS Fol (by kernel_rfl) (by kernel_rfl) (by kernel_rfl) ?_ (fun a w hF hS => ?_)
                  · exact obs_nil
                  refine then_n ?_
                  rw [← hφ2] at hm
                  exact ⟨(w64 (z2 + 1)), ⟨hF.weak [7, 8, 9, 16, 17, 18] (by kernel_rfl), hS⟩, hm⟩
                · refine wpIn_block ?_
                  obtain ⟨hp4, hm⟩ := asrt_b hm
                  refine reg [⟨true, [], vS (Instr.indexAt 40 (.slice A3 lists2.length c2) (.int .i64 z2)), .pointer (some (sAddr A3 z2))⟩, ⟨false, [], vS (Instr.loadAt 9 (.pointer (some (sAddr A3 z2)))), strV (getd ([] : List UInt8) lists2 z2)⟩] [some (.pointer (some (sAddr A3 z2))), some (strV (getd ([] : List UInt8) lists2 z2)), none] [6, 7, 8, 9, 16, 17, 18] [pl 6 (strV (getd ([] : List UInt8) lists2 z2)), pl 7 (.slice A1 2 2), pl 8 (.int .i64 2), pl 9 (.int .i64 1), pl 16 (.slice A3 lists2.length c2), pl 17 (.int .i64 (lists2.length : Int)), pl 18 (.int .i64 z2)] hF hS Fol (by kernel_rfl) (by kernel_rfl) (by kernel_rfl) ?_ (fun a w hF hS => ?_)
                  · exact obs_cons (ob_ix1 (f := strV) (m := lists2) Und40 hi9 hs9 (hr_lists2 _ (hS.dropN 1)) rfl (fun _ => hp4)) <| obs_cons (ob_get1 (n := lists2.length) (m := lists2) strV ([] : List UInt8) Agg9 (fun _ hS => ⟨_, (hr_lists2 _ (hS.dropN 1))⟩) (fun _ hS => rfl) (fun _ => hp4)) <| obs_nil
                  obtain ⟨r2, hr2, hm⟩ := call_b hm
                  refine reg [⟨false, [], callFunc 50 #[strV (getd ([] : List UInt8) lists2 z2)], .bool r2⟩] [none, some (.bool r2), none] [7, 8, 9, 16, 17, 18, 24] [pl 7 (.slice A1 2 2), pl 8 (.int .i64 2), pl 9 (.int .i64 1), pl 16 (.slice A3 lists2.length c2), pl 17 (.int .i64 (lists2.length : Int)), pl 18 (.int .i64 z2), pl 24 (.bool (!r2))] hF hS Fol (by kernel_rfl) (by kernel_rfl) (by kernel_rfl) ?_ (fun a w hF hS => ?_)
                  · exact obs_cons (ob_call Tryd.func50 (by kernel_rfl) rfl (fun _ _ hS => words_word_w hr2 hS )) <| obs_nil
                  refine cond_ev (t := 24) (b := !r2) hF (by kernel_rfl) (fun hb => ?_) (fun hb => ?_)
                  · replace hm := if_t hm hb
                    refine reg [] [] [2] [pl 2 (.int .i64 14)] hF hS Fol (by kernel_rfl) (by kernel_rfl) (by kernel_rfl) ?_ (fun a w hF hS => ?_)
                    · exact obs_nil
                    refine wpIn_ret ?_
                    refine block_r (then_r (then_r (block_r (block_r (then_r (then_r (block_r (then_r ?_))))))))
                    rw [← hφ2] at hm
                    replace hm := done_b hm
                    unfold words_check_K2 at hm
                    try dsimp only at hm
                    have hm : some 14 = some r := hm
                    obtain rfl := Option.some.inj hm
                    exact retV (rs := [.tmp 2]) (vs := [.int .i64 14]) hF rfl (rv_t (by kernel_rfl) <| rv_nil) rfl ⟨rfl, hS⟩
                  · replace hm := if_f hm hb
                    refine wpIn_skip ?_
                    refine block_n ?_
                    refine then_n ?_
                    exact ⟨hF.weak [7, 8, 9, 16, 17, 18] (by kernel_rfl), hS, hm⟩
              · refine cond_ev (t := 19) (b := decide (z2 < (lists2.length : Int))) hF (by kernel_rfl) (fun hb => ?_) (fun hb => ?_)
                · replace hm := if_t hm hb
                  refine wpIn_skip ?_
                  refine then_n ?_
                  exact ⟨hF.weak [7, 8, 9, 16, 17, 18] (by kernel_rfl), hS, hm⟩
                · replace hm := if_f hm hb
                  refine wpIn_exit ?_
                  refine then_e (then_e (block_e (block_n (then_n ?_))))
                  rw [← hφ2] at hm
                  replace hm := done_b hm
                  unfold words_check_K2 at hm
                  try dsimp only at hm
                  have hm : (words_check_J8).bind some = some r := hm
                  exact ⟨hF.weak [7, 8, 9] (by kernel_rfl), hS, hm⟩
            · refine reg [] [] [4, 7, 8, 9, 15] [pl 4 (.slice A3 lists2.length c2), pl 7 (.slice A1 2 2), pl 8 (.int .i64 2), pl 9 (.int .i64 1), pl 15 (.bool (decide ((60 : Int) < (lists2.length : Int))))] hF hS Fol (by kernel_rfl) (by kernel_rfl) (by kernel_rfl) ?_ (fun a w hF hS => ?_)
              · exact obs_nil
              refine cond_ev (t := 15) (b := decide ((60 : Int) < (lists2.length : Int))) hF (by kernel_rfl) (fun hb => ?_) (fun hb => ?_)
              · replace hm := if_t hm hb
                refine reg [] [] [2] [pl 2 (.int .i64 2)] hF hS Fol (by kernel_rfl) (by kernel_rfl) (by kernel_rfl) ?_ (fun a w hF hS => ?_)
                · exact obs_nil
                refine wpIn_ret ?_
                refine then_r (block_r (then_r (then_r (block_r (then_r ?_)))))
                have hm : some 2 = some r := hm
                obtain rfl := Option.some.inj hm
                exact retV (rs := [.tmp 2]) (vs := [.int .i64 2]) hF rfl (rv_t (by kernel_rfl) <| rv_nil) rfl ⟨rfl, hS⟩
              · replace hm := if_f hm hb
                refine wpIn_skip ?_
                refine then_n ?_
                exact ⟨hF.weak [4, 7, 8, 9] (by kernel_rfl), hS, hm⟩
        · refine cond_ev (t := 10) (b := decide ((1 : Int) < 2)) hF (by kernel_rfl) (fun hb => ?_) (fun hb => ?_)
          · refine wpIn_skip ?_
            refine then_n ?_
            exact ⟨hF.weak [7, 8, 9] (by kernel_rfl), hS, hm⟩
          · exact absurd hb (by decide)
      · refine wpIn_block ?_
        obtain ⟨hp1, hm⟩ := asrt_b hm
        refine reg [⟨true, [], vS (Instr.indexAt 107 (.slice A1 2 2) (.int .i64 0)), .pointer (some (sAddr A1 0))⟩, ⟨false, [], vS (Instr.loadAt 40 (.pointer (some (sAddr A1 0)))), .slice A2 lists1.length c1⟩] [some (.pointer (some (sAddr A1 0))), some (.slice A2 lists1.length c1), none] [4, 7, 8, 9] [pl 4 (.slice A2 lists1.length c1), pl 7 (.slice A1 2 2), pl 8 (.int .i64 2), pl 9 (.int .i64 0)] hF hS Fol (by kernel_rfl) (by kernel_rfl) (by kernel_rfl) ?_ (fun a w hF hS => ?_)
        · exact obs_cons (ob_ix1 (f := fun v => v) (m := ([.slice A2 lists1.length c1, .slice A3 lists2.length c2] : List Value)) Und107 hi40 hs40 (hS.at_ 0 rfl).rd rfl (fun _ => hp1)) <| obs_cons (ob_get1 (n := 2) (m := ([.slice A2 lists1.length c1, .slice A3 lists2.length c2] : List Value)) (fun v => v) (.slice none 0 0) Agg40 (fun _ hS => ⟨_, (hS.at_ 0 rfl).rd⟩) (fun _ hS => rfl) (fun _ => hp1)) <| obs_nil
        refine seq_cut (fun a w => Fr 27 [pl 4 (.slice A2 lists1.length c1), pl 7 (.slice A1 2 2), pl 8 (.int .i64 2), pl 9 (.int .i64 0)] a ∧ Sep w0 B w (own 40 (.slice A1 2 2) (List.map (fun v => v) ([.slice A2 lists1.length c1, .slice A3 lists2.length c2] : List Value)) :: fs) ∧ ((words_check_J4 lists1 lists2)).bind some = some r) ?_ ?_
        · rintro a w ⟨hF, hS, hm⟩
          unfold words_check_J4 at hm
          refine reg [] [] [7, 8, 9, 16, 17, 18] [pl 7 (.slice A1 2 2), pl 8 (.int .i64 2), pl 9 (.int .i64 0), pl 16 (.slice A2 lists1.length c1), pl 17 (.int .i64 (lists1.length : Int)), pl 18 (.int .i64 0)] hF hS Fol (by kernel_rfl) (by kernel_rfl) (by kernel_rfl) ?_ (fun a w hF hS => ?_)
          · exact obs_nil
          refine wpIn_block ?_
          refine wp_loop_model (S := Int) (R := (Fl Unit Int)) (words_check_L1 lists1) (fun x => ((words_check_K1 lists2) x).bind some) r (fun (x : Int) a w => Fr 27 [pl 7 (.slice A1 2 2), pl 8 (.int .i64 2), pl 9 (.int .i64 0), pl 16 (.slice A2 lists1.length c1), pl 17 (.int .i64 (lists1.length : Int)), pl 18 (.int .i64 x)] a ∧ Sep w0 B w (own 40 (.slice A1 2 2) (List.map (fun v => v) ([.slice A2 lists1.length c1, .slice A3 lists2.length c2] : List Value)) :: fs)) (assoc_b hm) ⟨hF.weak [7, 8, 9, 16, 17, 18] (by kernel_rfl), hS⟩ ?_
          clear hF hS hm
          rintro nn1 z1 a w ⟨hF, hS⟩ hm
          generalize hφ1 : stK (words_check_L1 lists1) nn1 (fun x => ((words_check_K1 lists2) x).bind some) = φ1 at hm
          unfold words_check_L1 at hm
          dsimp only at hm
          refine reg [] [] [7, 8, 9, 16, 17, 18, 19] [pl 7 (.slice A1 2 2), pl 8 (.int .i64 2), pl 9 (.int .i64 0), pl 16 (.slice A2 lists1.length c1), pl 17 (.int .i64 (lists1.length : Int)), pl 18 (.int .i64 z1), pl 19 (.bool (decide (z1 < (lists1.length : Int))))] hF hS Fol (by kernel_rfl) (by kernel_rfl) (by kernel_rfl) ?_ (fun a w hF hS => ?_)
          · exact obs_nil
          refine seq_cut (fun a w => Fr 27 [pl 7 (.slice A1 2 2), pl 8 (.int .i64 2), pl 9 (.int .i64 0), pl 16 (.slice A2 lists1.length c1), pl 17 (.int .i64 (lists1.length : Int)), pl 18 (.int .i64 z1)] a ∧ Sep w0 B w (own 40 (.slice A1 2 2) (List.map (fun v => v) ([.slice A2 lists1.length c1, .slice A3 lists2.length c2] : List Value)) :: fs) ∧ ((words_check_J5 lists1 z1)).bind φ1 = some r) ?_ ?_
          · rintro a w ⟨hF, hS, hm⟩
            unfold words_check_J5 at hm
            refine seq_cut (fun a w => Fr 27 [pl 7 (.slice A1 2 2), pl 8 (.int .i64 2), pl 9 (.int .i64 0), pl 16 (.slice A2 lists1.length c1), pl 17 (.int .i64 (lists1.length : Int)), pl 18 (.int .i64 z1)] a ∧ Sep w0 B w (own 40 (.slice A1 2 2) (List.map (fun v => v) ([.slice A2 lists1.length c1, .slice A3 lists2.length c2] : List Value)) :: fs) ∧ ((words_check_J6 z1)).bind φ1 = some r) ?_ ?_
            · rintro a w ⟨hF, hS, hm⟩
              unfold words_check_J6 at hm
              refine reg1 [] [] [7, 8, 9, 16, 17, 18] [pl 7 (.slice A1 2 2), pl 8 (.int .i64 2), pl 9 (.int .i64 0), pl 16 (.slice A2 lists1.length c1), pl 17 (.int .i64 (lists1.length : Int)), pl 18 (.int .i64 (w64 (z1 + 1)))] hF hS Fol (by kernel_rfl) (by kernel_rfl) (by kernel_rfl) ?_ (fun a w hF hS => ?_)
              · exact obs_nil
              refine then_n ?_
              rw [← hφ1] at hm
              exact ⟨(w64 (z1 + 1)), ⟨hF.weak [7, 8, 9, 16, 17, 18] (by kernel_rfl), hS⟩, hm⟩
            · refine wpIn_block ?_
              obtain ⟨hp2, hm⟩ := asrt_b hm
              refine reg [⟨true, [], vS (Instr.indexAt 40 (.slice A2 lists1.length c1) (.int .i64 z1)), .pointer (some (sAddr A2 z1))⟩, ⟨false, [], vS (Instr.loadAt 9 (.pointer (some (sAddr A2 z1)))), strV (getd ([] : List UInt8) lists1 z1)⟩] [some (.pointer (some (sAddr A2 z1))), some (strV (getd ([] : List UInt8) lists1 z1)), none] [6, 7, 8, 9, 16, 17, 18] [pl 6 (strV (getd ([] : List UInt8) lists1 z1)), pl 7 (.slice A1 2 2), pl 8 (.int .i64 2), pl 9 (.int .i64 0), pl 16 (.slice A2 lists1.length c1), pl 17 (.int .i64 (lists1.length : Int)), pl 18 (.int .i64 z1)] hF hS Fol (by kernel_rfl) (by kernel_rfl) (by kernel_rfl) ?_ (fun a w hF hS => ?_)
              · exact obs_cons (ob_ix1 (f := strV) (m := lists1) Und40 hi9 hs9 (hr_lists1 _ (hS.dropN 1)) rfl (fun _ => hp2)) <| obs_cons (ob_get1 (n := lists1.length) (m := lists1) strV ([] : List UInt8) Agg9 (fun _ hS => ⟨_, (hr_lists1 _ (hS.dropN 1))⟩) (fun _ hS => rfl) (fun _ => hp2)) <| obs_nil
              obtain ⟨r1, hr1, hm⟩ := call_b hm
              refine reg [⟨false, [], callFunc 50 #[strV (getd ([] : List UInt8) lists1 z1)], .bool r1⟩] [none, some (.bool r1), none] [7, 8, 9, 16, 17, 18, 24] [pl 7 (.slice A1 2 2), pl 8 (.int .i64 2), pl 9 (.int .i64 0), pl 16 (.slice A2 lists1.length c1), pl 17 (.int .i64 (lists1.length : Int)), pl 18 (.int .i64 z1), pl 24 (.bool (!r1))] hF hS Fol (by kernel_rfl) (by kernel_rfl) (by kernel_rfl) ?_ (fun a w hF hS => ?_)
              · exact obs_cons (ob_call Tryd.func50 (by kernel_rfl) rfl (fun _ _ hS => words_word_w hr1 hS )) <| obs_nil
              refine cond_ev (t := 24) (b := !r1) hF (by kernel_rfl) (fun hb => ?_) (fun hb => ?_)
              · replace hm := if_t hm hb
                refine reg [] [] [2] [pl 2 (.int .i64 14)] hF hS Fol (by kernel_rfl) (by kernel_rfl) (by kernel_rfl) ?_ (fun a w hF hS => ?_)
                · exact obs_nil
                refine wpIn_ret ?_
                refine block_r (then_r (then_r (block_r (block_r (then_r (then_r (block_r (then_r ?_))))))))
                rw [← hφ1] at hm
                replace hm := done_b hm
                unfold words_check_K1 at hm
                try dsimp only at hm
                have hm : some 14 = some r := hm
                obtain rfl := Option.some.inj hm
                exact retV (rs := [.tmp 2]) (vs := [.int .i64 14]) hF rfl (rv_t (by kernel_rfl) <| rv_nil) rfl ⟨rfl, hS⟩
              · replace hm := if_f hm hb
                refine wpIn_skip ?_
                refine block_n ?_
                refine then_n ?_
                exact ⟨hF.weak [7, 8, 9, 16, 17, 18] (by kernel_rfl), hS, hm⟩
          · refine cond_ev (t := 19) (b := decide (z1 < (lists1.length : Int))) hF (by kernel_rfl) (fun hb => ?_) (fun hb => ?_)
            · replace hm := if_t hm hb
              refine wpIn_skip ?_
              refine then_n ?_
              exact ⟨hF.weak [7, 8, 9, 16, 17, 18] (by kernel_rfl), hS, hm⟩
            · replace hm := if_f hm hb
              refine wpIn_exit ?_
              refine then_e (then_e (block_e (block_n (then_n ?_))))
              rw [← hφ1] at hm
              replace hm := done_b hm
              unfold words_check_K1 at hm
              try dsimp only at hm
              have hm : ((words_check_J3 lists2)).bind some = some r := hm
              exact ⟨hF.weak [7, 8, 9] (by kernel_rfl), hS, hm⟩
        · refine reg [] [] [4, 7, 8, 9, 15] [pl 4 (.slice A2 lists1.length c1), pl 7 (.slice A1 2 2), pl 8 (.int .i64 2), pl 9 (.int .i64 0), pl 15 (.bool (decide ((60 : Int) < (lists1.length : Int))))] hF hS Fol (by kernel_rfl) (by kernel_rfl) (by kernel_rfl) ?_ (fun a w hF hS => ?_)
          · exact obs_nil
          refine cond_ev (t := 15) (b := decide ((60 : Int) < (lists1.length : Int))) hF (by kernel_rfl) (fun hb => ?_) (fun hb => ?_)
          · replace hm := if_t hm hb
            refine reg [] [] [2] [pl 2 (.int .i64 2)] hF hS Fol (by kernel_rfl) (by kernel_rfl) (by kernel_rfl) ?_ (fun a w hF hS => ?_)
            · exact obs_nil
            refine wpIn_ret ?_
            refine then_r (block_r (then_r (then_r (block_r (then_r ?_)))))
            have hm : some 2 = some r := hm
            obtain rfl := Option.some.inj hm
            exact retV (rs := [.tmp 2]) (vs := [.int .i64 2]) hF rfl (rv_t (by kernel_rfl) <| rv_nil) rfl ⟨rfl, hS⟩
          · replace hm := if_f hm hb
            refine wpIn_skip ?_
            refine then_n ?_
            exact ⟨hF.weak [4, 7, 8, 9] (by kernel_rfl), hS, hm⟩
    · refine cond_ev (t := 10) (b := decide ((0 : Int) < 2)) hF (by kernel_rfl) (fun hb => ?_) (fun hb => ?_)
      · refine wpIn_skip ?_
        refine then_n ?_
        exact ⟨hF.weak [7, 8, 9] (by kernel_rfl), hS, hm⟩
      · exact absurd hb (by decide)

noncomputable def strings_Trim_m (s1 : List UInt8) (cutset1 : List UInt8) : Option (List UInt8) :=
  asrt ((s1.length : Int) ≤ 4194304 ∧ (cutset1.length : Int) ≤ 4194304 ∧ cutset1.all (fun b => decide (b.toNat < 128)) = true) <| some (trimM s1 cutset1)

theorem strings_Trim_w {s1 : List UInt8} {cutset1 : List UInt8} {r : (List UInt8)} {w0 w : World} {B : Nat} {fs : List HP} (hm : strings_Trim_m s1 cutset1 = some r) (hS : Sep w0 B w (fs)) :
    Calls Tryd.prog 76 #[strV s1, strV cutset1] w fun e w' => e = .returned (strV r) ∧ Sep w0 B w' (fs) := by
  unfold strings_Trim_m at hm
  obtain ⟨hb, hm⟩ := asrt_b (start_b hm)
  obtain rfl := Option.some.inj hm
  exact trim_own TrimBL (by kernel_rfl) hS hb

noncomputable def slices_Values_m  (s1 : List (List UInt8)) : Option Unit :=
  some ()

set_option maxRecDepth 100000 in
set_option maxHeartbeats 4000000 in
theorem slices_Values_w  {A1 : Option Addr} {c1 : Nat} {n1 : Nat} {s1 : List (List UInt8)} {r : Unit} {w0 w : World} {B : Nat} {fs : List HP} (hm : slices_Values_m s1 = some r) (hS : Sep w0 B w (fs)) (hr_s1 : RdF w0 B fs A1 ((List.map strV s1))) (_hc_s1 : s1.length ≤ c1) (_hn_s1 : n1 = s1.length) :
    Calls Tryd.prog 106 #[.slice A1 n1 c1] w fun e w' => ∃ v, e = .returned v ∧ ∃ (g2 : Nat), v = .func (.func 144) #[] #[.pointer (some ⟨g2, 0, none⟩)] ∧ Sep w0 B w' (blk g2 40 #[.slice A1 n1 c1] :: fs) := by
  obtain ⟨i9, hi9, hz9, hs9, hb9⟩ := info_parts Info9
  obtain rfl := _hn_s1
  unfold slices_Values_m at hm
  replace hm := start_b hm
  refine enter (l := [.slice A1 s1.length c1]) (n := 4) Tryd.func106 rfl rfl (by simp) (fun a hF => ?_)
  refine seqR ?_
  refine at_do (d := 1) (s := vS (Instr.box 40 (.slice A1 s1.length c1))) (v := .pointer (some ⟨w.heap.size, 0, none⟩)) (w' := w.alloc (.cells #[.slice A1 s1.length c1] 40)) hF (by kernel_rfl) (by kernel_rfl) (by kernel_rfl) (fun a hF => ?_)
  have hS : Sep w0 B (w.alloc (.cells #[.slice A1 s1.length c1] 40)) (blk w.heap.size 40 #[.slice A1 s1.length c1] :: (fs)) := hS.box 40 #[.slice A1 s1.length c1]
  generalize w.heap.size = g1 at hF hS
  generalize w.alloc (.cells #[.slice A1 s1.length c1] 40) = w at hS ⊢
  refine at_run 1 [] [] [1] [pl 1 (.pointer (some ⟨g1, 0, none⟩))] hF hS (by kernel_rfl) (by kernel_rfl) ?_ (fun a w hF hS => ?_)
  · exact obs_nil
  refine at_end [1] [pl 1 (.pointer (some ⟨g1, 0, none⟩))] hF rfl (by kernel_rfl) (fun hF => ?_)
  refine then_n ?_
  refine reg [] [] [2] [pl 2 (.func (.func 144) #[] #[.pointer (some ⟨g1, 0, none⟩)])] hF hS Fol (by kernel_rfl) (by kernel_rfl) (by kernel_rfl) ?_ (fun a w hF hS => ?_)
  · exact obs_nil
  refine wpIn_ret ?_
  have hm : some () = some r := hm
  obtain rfl := Option.some.inj hm
  exact retV (rs := [.tmp 2]) (vs := [.func (.func 144) #[] #[.pointer (some ⟨g1, 0, none⟩)]]) hF rfl (rv_t (by kernel_rfl) <| rv_nil) rfl ⟨_, rfl, g1, rfl, hS⟩

noncomputable def slices_Sorted_m (v1 : List (List UInt8)) : Option (List (List UInt8)) :=
  asrt ((v1.length : Int) ≤ 4194304) <| some (sortT v1)

theorem slices_Sorted_w {g1 : Nat} {A1 : Option Addr} {c1 : Nat} {n1 : Nat} {v1 : List (List UInt8)} {r : (List (List UInt8))} {w0 w : World} {B : Nat} {fs : List HP} (hm : slices_Sorted_m v1 = some r) (hS : Sep w0 B w (blk g1 40 #[.slice A1 n1 c1] :: fs)) (hr_v1 : RdF w0 B fs A1 ((List.map strV v1))) (_hc_v1 : v1.length ≤ c1) (_hn_v1 : n1 = v1.length) :
    Calls Tryd.prog 105 #[.func (.func 144) #[] #[.pointer (some ⟨g1, 0, none⟩)]] w fun e w' => ∃ v, e = .returned v ∧ ∃ (A2 : Option Addr) (c2 : Nat), v = .slice A2 r.length c2 ∧ Sep w0 B w' (blk g1 40 #[.slice A1 n1 c1] :: own 9 (.slice A2 r.length c2) ((List.map strV r)) :: fs) := by
  unfold slices_Sorted_m at hm
  obtain ⟨hb, hm⟩ := asrt_b (start_b hm)
  obtain rfl := Option.some.inj hm
  exact sortedT_own hS hr_v1 _hn_v1 hb

noncomputable def slices_Compact_2_m (s1 : List (List UInt8)) : Option (List (List UInt8)) :=
  asrt ((s1.length : Int) ≤ bigN) <| some (compT s1)

theorem slices_Compact_2_w {A1 : Option Addr} {c1 : Nat} {n1 : Nat} {s1 : List (List UInt8)} {r : (List (List UInt8))} {w0 w : World} {B : Nat} {fs : List HP} (hm : slices_Compact_2_m s1 = some r) (hS : Sep w0 B w (own 9 (.slice A1 n1 c1) ((List.map strV s1)) :: fs)) :
    Calls Tryd.prog 104 #[.slice A1 n1 c1] w fun e w' => ∃ v, e = .returned v ∧ ∃ (A2 : Option Addr) (c2 : Nat), v = .slice A2 r.length c2 ∧ Sep w0 B w' (own 9 (.slice A2 r.length c2) ((List.map strV r)) :: fs) := by
  unfold slices_Compact_2_m at hm
  obtain ⟨hb, hm⟩ := asrt_b (start_b hm)
  obtain rfl := Option.some.inj hm
  exact compactT_own CompactTL hS hb

noncomputable def words_sorted_m  (l1 : List (List UInt8)) : Option (List (List UInt8)) :=
  (slices_Values_m l1).bind fun r1 => (slices_Sorted_m l1).bind fun r2 => (slices_Compact_2_m r2).bind fun r3 => some r3

set_option maxRecDepth 100000 in
set_option maxHeartbeats 4000000 in
theorem words_sorted_w  {A1 : Option Addr} {c1 : Nat} {n1 : Nat} {l1 : List (List UInt8)} {r : (List (List UInt8))} {w0 w : World} {B : Nat} {fs : List HP} (hm : words_sorted_m l1 = some r) (hS : Sep w0 B w (fs)) (hr_l1 : RdF w0 B fs A1 ((List.map strV l1))) (_hc_l1 : l1.length ≤ c1) (_hn_l1 : n1 = l1.length) :
    Calls Tryd.prog 62 #[.slice A1 n1 c1] w fun e w' => ∃ v, e = .returned v ∧ ∃ (A4 : Option Addr) (c4 : Nat), v = .slice A4 r.length c4 ∧ Sep w0 B w' (own 9 (.slice A4 r.length c4) ((List.map strV r)) :: fs) := by
  obtain ⟨i9, hi9, hz9, hs9, hb9⟩ := info_parts Info9
  obtain rfl := _hn_l1
  unfold words_sorted_m at hm
  replace hm := start_b hm
  refine enter (l := [.slice A1 l1.length c1]) (n := 7) Tryd.func62 rfl rfl (by simp) (fun a hF => ?_)
  refine reg [] [] [0] [pl 0 (.slice A1 l1.length c1)] hF hS Fol (by kernel_rfl) (by kernel_rfl) (by kernel_rfl) ?_ (fun a w hF hS => ?_)
  · exact obs_nil
  refine seqR ?_
  obtain ⟨r1, hr1, hm⟩ := call_b hm
  obtain ⟨r2, hr2, hm⟩ := call_b hm
  obtain ⟨r3, hr3, hm⟩ := call_b hm
  refine at_run 1 [] [] [3] [pl 3 (.slice A1 l1.length c1)] hF hS (by kernel_rfl) (by kernel_rfl) ?_ (fun a w hF hS => ?_)
  · exact obs_nil
  refine at_call (f := 106) (args := #[.slice A1 l1.length c1]) (d := 4) hF (by kernel_rfl) (by kernel_rfl) Tryd.func106 (by kernel_rfl) rfl (slices_Values_w hr1 hS (fun _ hS => (hr_l1 _ (hS.dropN 0))) _hc_l1 rfl) (fun v a w hR hF => ?_)
  clear hS
  obtain ⟨g1, rfl, hS⟩ := hR
  have hS : Sep w0 B w (blk g1 40 #[.slice A1 l1.length c1] :: fs) := hS
  refine at_call (f := 105) (args := #[.func (.func 144) #[] #[.pointer (some ⟨g1, 0, none⟩)]]) (d := 5) hF (by kernel_rfl) (by kernel_rfl) Tryd.func105 (by kernel_rfl) rfl (slices_Sorted_w hr2 hS (fun _ hS => (hr_l1 _ (hS.dropN 0))) _hc_l1 rfl) (fun v a w hR hF => ?_)
  clear hS
  obtain ⟨A2, c2, rfl, hS⟩ := hR
  have hS : Sep w0 B w (blk g1 40 #[.slice A1 l1.length c1] :: own 9 (.slice A2 r2.length c2) ((List.map strV r2)) :: fs) := hS
  have hS : Sep w0 B w (own 9 (.slice A2 r2.length c2) ((List.map strV r2)) :: blk g1 40 #[.slice A1 l1.length c1] :: fs) := hS.pickN 2 [1, 0] (by decide)
  refine at_call (f := 104) (args := #[.slice A2 r2.length c2]) (d := 6) hF (by kernel_rfl) (by kernel_rfl) Tryd.func104 (by kernel_rfl) rfl (slices_Compact_2_w hr3 hS ) (fun v a w hR hF => ?_)
  clear hS
  obtain ⟨A3, c3, rfl, hS⟩ := hR
  have hS : Sep w0 B w (own 9 (.slice A3 r3.length c3) ((List.map strV r3)) :: blk g1 40 #[.slice A1 l1.length c1] :: fs) := hS
  refine at_run 1 [] [] [2] [pl 2 (.slice A3 r3.length c3)] hF hS (by kernel_rfl) (by kernel_rfl) ?_ (fun a w hF hS => ?_)
  · exact obs_nil
  refine at_end [2] [pl 2 (.slice A3 r3.length c3)] hF rfl (by kernel_rfl) (fun hF => ?_)
  refine then_n ?_
  refine wpIn_ret ?_
  have hS := hS.pickN 2 [0] (by decide)
  have hm : some r3 = some r := hm
  obtain rfl := Option.some.inj hm
  exact retV (rs := [.tmp 2]) (vs := [.slice A3 r3.length c3]) hF rfl (rv_t (by kernel_rfl) <| rv_nil) rfl ⟨_, rfl, A3, c3, rfl, hS⟩

noncomputable def words_hint_J3  (z1 : Int) (out3 : List Int) (left3 : List (Int × Int)) : Option (St (List Int × List (Int × Int) × Int) (List Int × List (Int × Int))) :=
  some (.next (out3, left3, (w64 (z1 + 1))))

noncomputable def words_hint_J2  (secret1 : List Int) (guess1 : List Int) (out1 : List Int) (left1 : List (Int × Int)) (z1 : Int) : Option (St (List Int × List (Int × Int) × Int) (List Int × List (Int × Int))) :=
  asrt (0 ≤ z1 ∧ z1 < (secret1.length : Int)) <| asrt (0 ≤ z1 ∧ z1 < (((Int.toNat (guess1.length : Int)) : Nat) : Int)) <| asrt (0 ≤ z1 ∧ z1 < (guess1.length : Int)) <| if ((getd (0 : Int) guess1 z1) == (getd (0 : Int) secret1 z1)) then (asrt (0 ≤ z1 ∧ z1 < (((Int.toNat (guess1.length : Int)) : Nat) : Int)) <| (words_hint_J3 z1) ((out1.set (Int.toNat z1) 46).set (Int.toNat z1) 103) left1) else ((words_hint_J3 z1) (out1.set (Int.toNat z1) 46) (mput (getd (0 : Int) secret1 z1) (w64 ((mget (0 : Int) (getd (0 : Int) secret1 z1) left1) + 1)) left1))

noncomputable def words_hint_J6  (z2 : Int) (out6 : List Int) (left5 : List (Int × Int)) : Option (St (List Int × List (Int × Int) × Int) (List Int)) :=
  some (.next (out6, left5, (w64 (z2 + 1))))

noncomputable def words_hint_J7  (guess1 : List Int) (out4 : List Int) (left4 : List (Int × Int)) (z2 : Int) (z3 : Bool) : Option (St (List Int × List (Int × Int) × Int) (List Int)) :=
  if z3 then (asrt (0 ≤ z2 ∧ z2 < (((Int.toNat (guess1.length : Int)) : Nat) : Int)) <| (words_hint_J6 z2) (out4.set (Int.toNat z2) 121) (mput (getd (0 : Int) guess1 z2) (w64 ((mget (0 : Int) (getd (0 : Int) guess1 z2) left4) - 1)) left4)) else ((words_hint_J6 z2) out4 left4)

noncomputable def words_hint_J5  (guess1 : List Int) (out4 : List Int) (left4 : List (Int × Int)) (z2 : Int) : Option (St (List Int × List (Int × Int) × Int) (List Int)) :=
  asrt (0 ≤ z2 ∧ z2 < (guess1.length : Int)) <| asrt (0 ≤ z2 ∧ z2 < (((Int.toNat (guess1.length : Int)) : Nat) : Int)) <| if ((getd (0 : Int) out4 z2) == 46) then ((words_hint_J7 guess1 out4 left4 z2) (((getd (0 : Int) out4 z2) == 46) && (decide ((0 : Int) < (mget (0 : Int) (getd (0 : Int) guess1 z2) left4))))) else ((words_hint_J7 guess1 out4 left4 z2) (((getd (0 : Int) out4 z2) == 46) && (decide ((0 : Int) < 0))))

noncomputable def words_hint_L2  (guess1 : List Int) : (List Int × List (Int × Int) × Int) → Option (St (List Int × List (Int × Int) × Int) (List Int)) :=
  fun (x : (List Int × List (Int × Int) × Int)) => match x with | (out4, left4, z2) => if (decide (z2 < (guess1.length : Int))) then ((words_hint_J5 guess1 out4 left4 z2)) else (some (.done out4))

noncomputable def words_hint_J4  (out5 : List Int) : Option (List UInt8) :=
  some (b8 out5)

noncomputable def words_hint_K2  : (List Int) → Option (List UInt8) :=
  fun (x : (List Int)) => match x with | out5 => words_hint_J4 out5

noncomputable def words_hint_J1  (guess1 : List Int) (out2 : List Int) (left2 : List (Int × Int)) : Option (List UInt8) :=
  (loop (words_hint_L2 guess1) (out2, left2, 0)).bind words_hint_K2

noncomputable def words_hint_K1  (guess1 : List Int) : (List Int × List (Int × Int)) → Option (List UInt8) :=
  fun (x : (List Int × List (Int × Int))) => match x with | (out2, left2) => (words_hint_J1 guess1) out2 left2

noncomputable def words_hint_L1  (secret1 : List Int) (guess1 : List Int) : (List Int × List (Int × Int) × Int) → Option (St (List Int × List (Int × Int) × Int) (List Int × List (Int × Int))) :=
  fun (x : (List Int × List (Int × Int) × Int)) => match x with | (out1, left1, z1) => if (decide (z1 < (secret1.length : Int))) then ((words_hint_J2 secret1 guess1 out1 left1 z1)) else (some (.done (out1, left1)))

noncomputable def words_hint_m  (secret1 : List Int) (guess1 : List Int) : Option (List UInt8) :=
  asrt ((0 : Int) ≤ (guess1.length : Int) ∧ (guess1.length : Int) ≤ bigN) <| (loop (words_hint_L1 secret1 guess1) ((List.replicate (Int.toNat (guess1.length : Int)) (0 : Int)), ([] : List (Int × Int)), 0)).bind (words_hint_K1 guess1)

set_option maxRecDepth 100000 in
set_option maxHeartbeats 4000000 in
theorem words_hint_w  {A1 : Option Addr} {c1 : Nat} {n1 : Nat} {secret1 : List Int} {A2 : Option Addr} {c2 : Nat} {n2 : Nat} {guess1 : List Int} {r : (List UInt8)} {w0 w : World} {B : Nat} {fs : List HP} (hm : words_hint_m secret1 guess1 = some r) (hS : Sep w0 B w (fs)) (hr_secret1 : RdF w0 B fs A1 ((List.map (Value.int .i32) secret1))) (_hc_secret1 : secret1.length ≤ c1) (_hn_secret1 : n1 = secret1.length) (hr_guess1 : RdF w0 B fs A2 ((List.map (Value.int .i32) guess1))) (_hc_guess1 : guess1.length ≤ c2) (_hn_guess1 : n2 = guess1.length) :
    Calls Tryd.prog 51 #[.slice A1 n1 c1, .slice A2 n2 c2] w fun e w' => e = .returned (strV r) ∧ Sep w0 B w' (fs) := by
  obtain ⟨i5, hi5, hz5, hs5, hb5⟩ := info_parts Info5
  obtain ⟨i21, hi21, hz21, hs21, hb21⟩ := info_parts Info21
  obtain rfl := _hn_secret1
  obtain rfl := _hn_guess1
  unfold words_hint_m at hm
  replace hm := start_b hm
  refine enter (l := [.slice A1 secret1.length c1, .slice A2 guess1.length c2]) (n := 67) Tryd.func51 rfl rfl (by simp) (fun a hF => ?_)
  refine reg [] [] [0, 1] [pl 0 (.slice A1 secret1.length c1), pl 1 (.slice A2 guess1.length c2)] hF hS Fol (by kernel_rfl) (by kernel_rfl) (by kernel_rfl) ?_ (fun a w hF hS => ?_)
  · exact obs_nil
  refine seqR ?_
  obtain ⟨hp1, hm⟩ := asrt_b hm
  refine at_run 2 [] [] [0, 1, 12] [pl 0 (.slice A1 secret1.length c1), pl 1 (.slice A2 guess1.length c2), pl 12 (.int .i64 (guess1.length : Int))] hF hS (by kernel_rfl) (by kernel_rfl) ?_ (fun a w hF hS => ?_)
  · exact obs_nil
  obtain ⟨A3, c3, w, hrun, hS⟩ := run_mk1 (P := Tryd.prog) (t := 112) (Value.int .u8) (0 : Int) hS .i64 .i64 Und112 hi5 hz5 hs5 (by omega) rfl hp1
  have hS : Sep w0 B w (own 5 (.slice A3 (Int.toNat (guess1.length : Int)) c3) ((List.map (Value.int .u8) (List.replicate (Int.toNat (guess1.length : Int)) (0 : Int)))) :: fs) := hS
  refine at_do (d := 13) hF (by kernel_rfl) (by kernel_rfl) hrun (fun a hF => ?_)
  refine at_run 1 [] [] [0, 1, 5] [pl 0 (.slice A1 secret1.length c1), pl 1 (.slice A2 guess1.length c2), pl 5 (.slice A3 (Int.toNat (guess1.length : Int)) c3)] hF hS (by kernel_rfl) (by kernel_rfl) ?_ (fun a w hF hS => ?_)
  · exact obs_nil
  refine at_end [0, 1, 5] [pl 0 (.slice A1 secret1.length c1), pl 1 (.slice A2 guess1.length c2), pl 5 (.slice A3 (Int.toNat (guess1.length : Int)) c3)] hF rfl (by kernel_rfl) (fun hF => ?_)
  refine then_n ?_
  refine seqR ?_
  refine at_do (d := 14) (s := vS (Instr.makeMap 99 none)) (v := .map (some w.heap.size)) (w' := w.alloc (.map #[] 0)) hF (by kernel_rfl) (by kernel_rfl) (by kernel_rfl) (fun a hF => ?_)
  have hS : Sep w0 B (w.alloc (.map #[] 0)) (mapH kf21 (Value.int .i64) w.heap.size ([] : List (Int × Int)) :: (own 5 (.slice A3 (Int.toNat (guess1.length : Int)) c3) ((List.map (Value.int .u8) (List.replicate (Int.toNat (guess1.length : Int)) (0 : Int)))) :: fs)) := hS.mapNew _ _
  generalize w.heap.size = g1 at hF hS
  generalize w.alloc (.map #[] 0) = w at hS ⊢
  refine at_run 1 [] [] [0, 1, 5, 6] [pl 0 (.slice A1 secret1.length c1), pl 1 (.slice A2 guess1.length c2), pl 5 (.slice A3 (Int.toNat (guess1.length : Int)) c3), pl 6 (.map (some g1))] hF hS (by kernel_rfl) (by kernel_rfl) ?_ (fun a w hF hS => ?_)
  · exact obs_nil
  refine at_end [0, 1, 5, 6] [pl 0 (.slice A1 secret1.length c1), pl 1 (.slice A2 guess1.length c2), pl 5 (.slice A3 (Int.toNat (guess1.length : Int)) c3), pl 6 (.map (some g1))] hF rfl (by kernel_rfl) (fun hF => ?_)
  refine then_n ?_
  refine seq_cut (fun a w => ∃ (out2 : List Int) (left2 : List (Int × Int)), Fr 67 [pl 1 (.slice A2 guess1.length c2), pl 5 (.slice A3 (Int.toNat (guess1.length : Int)) c3), pl 6 (.map (some g1))] a ∧ Sep w0 B w (own 5 (.slice A3 (Int.toNat (guess1.length : Int)) c3) ((List.map (Value.int .u8) out2)) :: mapH kf21 (Value.int .i64) g1 left2 :: fs) ∧ ((words_hint_J1 guess1) out2 left2).bind some = some r) ?_ ?_
  · rintro a w ⟨out2, left2, hF, hS, hm⟩
    unfold words_hint_J1 at hm
    refine seq_cut (fun a w => ∃ (out5 : List Int), Fr 67 [pl 5 (.slice A3 (Int.toNat (guess1.length : Int)) c3)] a ∧ Sep w0 B w (own 5 (.slice A3 (Int.toNat (guess1.length : Int)) c3) ((List.map (Value.int .u8) out5)) :: fs) ∧ (words_hint_J4 out5).bind some = some r) ?_ ?_
    · rintro a w ⟨out5, hF, hS, hm⟩
      unfold words_hint_J4 at hm
      refine seqR ?_
      refine at_run 1 [] [] [65] [pl 65 (.slice A3 (Int.toNat (guess1.length : Int)) c3)] hF hS (by kernel_rfl) (by kernel_rfl) ?_ (fun a w hF hS => ?_)
      · exact obs_nil
      have hrun := run_strE (P := Tryd.prog) (src := 112) (dst := 9) (e := 5) (m := out5) (c := c3) (by kernel_rfl) (by kernel_rfl) (by kernel_rfl) (hS.at_ 0 rfl).rd ((hS.at_ 0 rfl).len1)
      refine at_do (d := 66) hF (by kernel_rfl) (by kernel_rfl) hrun (fun a hF => ?_)
      refine at_run 1 [] [] [4] [pl 4 (strV (b8 out5))] hF hS (by kernel_rfl) (by kernel_rfl) ?_ (fun a w hF hS => ?_)
      · exact obs_nil
      refine at_end [4] [pl 4 (strV (b8 out5))] hF rfl (by kernel_rfl) (fun hF => ?_)
      refine then_n ?_
      refine wpIn_ret ?_
      have hS := hS.pickN 1 [] (by decide)
      have hm : some (b8 out5) = some r := hm
      obtain rfl := Option.some.inj hm
      exact retV (rs := [.tmp 4]) (vs := [strV (b8 out5)]) hF rfl (rv_t (by kernel_rfl) <| rv_nil) rfl ⟨rfl, hS⟩
    · refine reg [] [] [5, 6, 39, 40, 41] [pl 5 (.slice A3 (Int.toNat (guess1.length : Int)) c3), pl 6 (.map (some g1)), pl 39 (.slice A2 guess1.length c2), pl 40 (.int .i64 (guess1.length : Int)), pl 41 (.int .i64 0)] hF hS Fol (by kernel_rfl) (by kernel_rfl) (by kernel_rfl) ?_ (fun a w hF hS => ?_)
      · exact obs_nil
      refine wpIn_block ?_
      refine wp_loop_model (S := (List Int × List (Int × Int) × Int)) (R := (List Int)) (words_hint_L2 guess1) (fun x => (words_hint_K2 x).bind some) r (fun (x : (List Int × List (Int × Int) × Int)) a w => Fr 67 [pl 5 (.slice A3 (Int.toNat (guess1.length : Int)) c3), pl 6 (.map (some g1)), pl 39 (.slice A2 guess1.length c2), pl 40 (.int .i64 (guess1.length : Int)), pl 41 (.int .i64 x.2.2)] a ∧ Sep w0 B w (own 5 (.slice A3 (Int.toNat (guess1.length : Int)) c3) ((List.map (Value.int .u8) x.1)) :: mapH kf21 (Value.int .i64) g1 x.2.1 :: fs)) (assoc_b hm) ⟨hF.weak [5, 6, 39, 40, 41] (by kernel_rfl), hS⟩ ?_
      clear hF hS hm
      rintro nn2 ⟨out4, left4, z2⟩ a w ⟨hF, hS⟩ hm
      generalize hφ2 : stK (words_hint_L2 guess1) nn2 (fun x => (words_hint_K2 x).bind some) = φ2 at hm
      unfold words_hint_L2 at hm
      dsimp only at hF hS hm
      refine reg [] [] [5, 6, 39, 40, 41, 42] [pl 5 (.slice A3 (Int.toNat (guess1.length : Int)) c3), pl 6 (.map (some g1)), pl 39 (.slice A2 guess1.length c2), pl 40 (.int .i64 (guess1.length : Int)), pl 41 (.int .i64 z2), pl 42 (.bool (decide (z2 < (guess1.length : Int))))] hF hS Fol (by kernel_rfl) (by kernel_rfl) (by kernel_rfl) ?_ (fun a w hF hS => ?_)
      · exact obs_nil
      refine seq_cut (fun a w => Fr 67 [pl 5 (.slice A3 (Int.toNat (guess1.length : Int)) c3), pl 6 (.map (some g1)), pl 39 (.slice A2 guess1.length c2), pl 40 (.int .i64 (guess1.length : Int)), pl 41 (.int .i64 z2)] a ∧ Sep w0 B w (own 5 (.slice A3 (Int.toNat (guess1.length : Int)) c3) ((List.map (Value.int .u8) out4)) :: mapH kf21 (Value.int .i64) g1 left4 :: fs) ∧ ((words_hint_J5 guess1 out4 left4 z2)).bind φ2 = some r) ?_ ?_
      · rintro a w ⟨hF, hS, hm⟩
        unfold words_hint_J5 at hm
        refine seq_cut (fun a w => ∃ (out6 : List Int) (left5 : List (Int × Int)), Fr 67 [pl 5 (.slice A3 (Int.toNat (guess1.length : Int)) c3), pl 6 (.map (some g1)), pl 39 (.slice A2 guess1.length c2), pl 40 (.int .i64 (guess1.length : Int)), pl 41 (.int .i64 z2)] a ∧ Sep w0 B w (own 5 (.slice A3 (Int.toNat (guess1.length : Int)) c3) ((List.map (Value.int .u8) out6)) :: mapH kf21 (Value.int .i64) g1 left5 :: fs) ∧ ((words_hint_J6 z2) out6 left5).bind φ2 = some r) ?_ ?_
        · rintro a w ⟨out6, left5, hF, hS, hm⟩
          unfold words_hint_J6 at hm
          refine reg1 [] [] [5, 6, 39, 40, 41] [pl 5 (.slice A3 (Int.toNat (guess1.length : Int)) c3), pl 6 (.map (some g1)), pl 39 (.slice A2 guess1.length c2), pl 40 (.int .i64 (guess1.length : Int)), pl 41 (.int .i64 (w64 (z2 + 1)))] hF hS Fol (by kernel_rfl) (by kernel_rfl) (by kernel_rfl) ?_ (fun a w hF hS => ?_)
          · exact obs_nil
          refine then_n ?_
          rw [← hφ2] at hm
          exact ⟨(out6, left5, (w64 (z2 + 1))), ⟨hF.weak [5, 6, 39, 40, 41] (by kernel_rfl), hS⟩, hm⟩
        · refine wpIn_block ?_
          obtain ⟨hp6, hm⟩ := asrt_b hm
          refine reg [⟨true, [], vS (Instr.indexAt 79 (.slice A2 guess1.length c2) (.int .i64 z2)), .pointer (some (sAddr A2 z2))⟩, ⟨false, [], vS (Instr.loadAt 21 (.pointer (some (sAddr A2 z2)))), .int .i32 (getd (0 : Int) guess1 z2)⟩] [none, some (.pointer (some (sAddr A2 z2))), some (.int .i32 (getd (0 : Int) guess1 z2)), none, none] [5, 6, 9, 10, 39, 40, 41] [pl 5 (.slice A3 (Int.toNat (guess1.length : Int)) c3), pl 6 (.map (some g1)), pl 9 (.int .i64 z2), pl 10 (.int .i32 (getd (0 : Int) guess1 z2)), pl 39 (.slice A2 guess1.length c2), pl 40 (.int .i64 (guess1.length : Int)), pl 41 (.int .i64 z2)] hF hS Fol (by kernel_rfl) (by kernel_rfl) (by kernel_rfl) ?_ (fun a w hF hS => ?_)
          · exact obs_cons (ob_ix1 (f := (Value.int .i32)) (m := guess1) Und79 hi21 hs21 (hr_guess1 _ (hS.dropN 2)) rfl (fun _ => hp6)) <| obs_cons (ob_get1 (n := guess1.length) (m := guess1) (Value.int .i32) (0 : Int) Agg21 (fun _ hS => ⟨_, (hr_guess1 _ (hS.dropN 2))⟩) (fun _ hS => rfl) (fun _ => hp6)) <| obs_nil
          refine seq_cut (fun a w => ∃ (z3 : Bool), Fr 67 [pl 5 (.slice A3 (Int.toNat (guess1.length : Int)) c3), pl 6 (.map (some g1)), pl 9 (.int .i64 z2), pl 10 (.int .i32 (getd (0 : Int) guess1 z2)), pl 39 (.slice A2 guess1.length c2), pl 40 (.int .i64 (guess1.length : Int)), pl 41 (.int .i64 z2), pl 56 (.bool z3)] a ∧ Sep w0 B w (own 5 (.slice A3 (Int.toNat (guess1.length : Int)) c3) ((List.map (Value.int .u8) out4)) :: mapH kf21 (Value.int .i64) g1 left4 :: fs) ∧ ((words_hint_J7 guess1 out4 left4 z2) z3).bind φ2 = some r) ?_ ?_
          · rintro a w ⟨z3, hF, hS, hm⟩
            unfold words_hint_J7 at hm
            refine cond_ev (t := 56) (b := z3) hF (by kernel_rfl) (fun hb => ?_) (fun hb => ?_)
            · replace hm := if_t hm hb
              refine seqR ?_
              obtain ⟨hp8, hm⟩ := asrt_b hm
              refine at_run 3 [⟨true, [], vS (Instr.indexAt 112 (.slice A3 (Int.toNat (guess1.length : Int)) c3) (.int .i64 z2)), .pointer (some (sAddr A3 z2))⟩] [none, none, some (.pointer (some (sAddr A3 z2)))] [5, 6, 10, 39, 40, 41, 59] [pl 5 (.slice A3 (Int.toNat (guess1.length : Int)) c3), pl 6 (.map (some g1)), pl 10 (.int .i32 (getd (0 : Int) guess1 z2)), pl 39 (.slice A2 guess1.length c2), pl 40 (.int .i64 (guess1.length : Int)), pl 41 (.int .i64 z2), pl 59 (.pointer (some (sAddr A3 z2)))] hF hS (by kernel_rfl) (by kernel_rfl) ?_ (fun a w hF hS => ?_)
              · exact obs_cons (ob_ix1 (f := (Value.int .u8)) (m := out4) Und112 hi5 hs5 (hS.at_ 0 rfl).rd ((hS.at_ 0 rfl).len1) (fun _ => hp8)) <| obs_nil
              obtain ⟨w, hrun, hS⟩ := run_set1 (P := Tryd.prog) (t := 5) (x := 121) (Value.int .u8) (hS.at_ 0 rfl) hi5 hs5 rfl rfl hp8
              refine at_skip hF (by kernel_rfl) hrun ?_
              have hS : Sep w0 B w (own 5 (.slice A3 (Int.toNat (guess1.length : Int)) c3) ((List.map (Value.int .u8) (out4.set (Int.toNat z2) 121))) :: mapH kf21 (Value.int .i64) g1 left4 :: fs) := hS
              refine at_end [5, 6, 10, 39, 40, 41] [pl 5 (.slice A3 (Int.toNat (guess1.length : Int)) c3), pl 6 (.map (some g1)), pl 10 (.int .i32 (getd (0 : Int) guess1 z2)), pl 39 (.slice A2 guess1.length c2), pl 40 (.int .i64 (guess1.length : Int)), pl 41 (.int .i64 z2)] hF rfl (by kernel_rfl) (fun hF => ?_)
              refine then_n ?_
              refine oneR ?_
              refine at_run 4 [⟨false, [], vS (Instr.lookup 99 (.map (some g1)) (.int .i32 (getd (0 : Int) guess1 z2)) false), .int .i64 (mget (0 : Int) (getd (0 : Int) guess1 z2) left4)⟩] [none, none, some (.int .i64 (mget (0 : Int) (getd (0 : Int) guess1 z2) left4)), none] [5, 6, 39, 40, 41, 60, 61, 63] [pl 5 (.slice A3 (Int.toNat (guess1.length : Int)) c3), pl 6 (.map (some g1)), pl 39 (.slice A2 guess1.length c2), pl 40 (.int .i64 (guess1.length : Int)), pl 41 (.int .i64 z2), pl 60 (.map (some g1)), pl 61 (.int .i32 (getd (0 : Int) guess1 z2)), pl 63 (.int .i64 (w64 ((mget (0 : Int) (getd (0 : Int) guess1 z2) left4) - 1)))] hF hS (by kernel_rfl) (by kernel_rfl) ?_ (fun a w hF hS => ?_)
              · exact obs_cons (ob_look (k := (getd (0 : Int) guess1 z2)) (m := left4) MK21 UndM99 (z := (0 : Int)) MZ3 (fun _ hS => ⟨_, _, _, _, hS.at_ 1 rfl⟩)) <| obs_nil
              obtain ⟨w, hrun, hS⟩ := run_mput (P := Tryd.prog) (t := 99) (vf := (Value.int .i64)) MK21 UndM99 (getd (0 : Int) guess1 z2) (w64 ((mget (0 : Int) (getd (0 : Int) guess1 z2) left4) - 1)) (hS.at_ 1 rfl)
              refine at_skip hF (by kernel_rfl) hrun ?_
              have hS : Sep w0 B w (own 5 (.slice A3 (Int.toNat (guess1.length : Int)) c3) ((List.map (Value.int .u8) (out4.set (Int.toNat z2) 121))) :: mapH kf21 (Value.int .i64) g1 (mput (getd (0 : Int) guess1 z2) (w64 ((mget (0 : Int) (getd (0 : Int) guess1 z2) left4) - 1)) left4) :: fs) := hS
              refine at_end [5, 6, 39, 40, 41] [pl 5 (.slice A3 (Int.toNat (guess1.length : Int)) c3), pl 6 (.map (some g1)), pl 39 (.slice A2 guess1.length c2), pl 40 (.int .i64 (guess1.length : Int)), pl 41 (.int .i64 z2)] hF rfl (by kernel_rfl) (fun hF => ?_)
              refine block_n ?_
              refine then_n ?_
              exact ⟨(out4.set (Int.toNat z2) 121), (mput (getd (0 : Int) guess1 z2) (w64 ((mget (0 : Int) (getd (0 : Int) guess1 z2) left4) - 1)) left4), hF.weak [5, 6, 39, 40, 41] (by kernel_rfl), hS, hm⟩
            · replace hm := if_f hm hb
              refine wpIn_skip ?_
              refine block_n ?_
              refine then_n ?_
              exact ⟨out4, left4, hF.weak [5, 6, 39, 40, 41] (by kernel_rfl), hS, hm⟩
          · refine oneR ?_
            obtain ⟨hp7, hm⟩ := asrt_b hm
            refine at_run 8 [⟨true, [], vS (Instr.indexAt 112 (.slice A3 (Int.toNat (guess1.length : Int)) c3) (.int .i64 z2)), .pointer (some (sAddr A3 z2))⟩, ⟨false, [], vS (Instr.loadAt 5 (.pointer (some (sAddr A3 z2)))), .int .u8 (getd (0 : Int) out4 z2)⟩] [none, none, some (.pointer (some (sAddr A3 z2))), some (.int .u8 (getd (0 : Int) out4 z2)), none, none, none, none] [5, 6, 9, 10, 39, 40, 41, 51, 52, 53] [pl 5 (.slice A3 (Int.toNat (guess1.length : Int)) c3), pl 6 (.map (some g1)), pl 9 (.int .i64 z2), pl 10 (.int .i32 (getd (0 : Int) guess1 z2)), pl 39 (.slice A2 guess1.length c2), pl 40 (.int .i64 (guess1.length : Int)), pl 41 (.int .i64 z2), pl 51 (.bool ((getd (0 : Int) out4 z2) == 46)), ⟨52, [(51, true)], .map (some g1)⟩, ⟨53, [(51, true)], .int .i32 (getd (0 : Int) guess1 z2)⟩] hF hS (by kernel_rfl) (by kernel_rfl) ?_ (fun a w hF hS => ?_)
            · exact obs_cons (ob_ix1 (f := (Value.int .u8)) (m := out4) Und112 hi5 hs5 (hS.at_ 0 rfl).rd ((hS.at_ 0 rfl).len1) (fun _ => hp7)) <| obs_cons (ob_get1 (n := (Int.toNat (guess1.length : Int))) (m := out4) (Value.int .u8) (0 : Int) Agg5 (fun _ hS => ⟨_, (hS.at_ 0 rfl).rd⟩) (fun _ hS => ((hS.at_ 0 rfl).len1)) (fun _ => hp7)) <| obs_nil
            rcases Bool.eq_false_or_eq_true ((getd (0 : Int) out4 z2) == 46) with hg1 | hg1
            · replace hm := if_t hm hg1
              refine at_run 3 [⟨false, [(((getd (0 : Int) out4 z2) == 46), true)], vS (Instr.lookup 99 (.map (some g1)) (.int .i32 (getd (0 : Int) guess1 z2)) false), .int .i64 (mget (0 : Int) (getd (0 : Int) guess1 z2) left4)⟩] [some (.int .i64 (mget (0 : Int) (getd (0 : Int) guess1 z2) left4)), none, none] [5, 6, 9, 10, 39, 40, 41, 56] [pl 5 (.slice A3 (Int.toNat (guess1.length : Int)) c3), pl 6 (.map (some g1)), pl 9 (.int .i64 z2), pl 10 (.int .i32 (getd (0 : Int) guess1 z2)), pl 39 (.slice A2 guess1.length c2), pl 40 (.int .i64 (guess1.length : Int)), pl 41 (.int .i64 z2), pl 56 (.bool (((getd (0 : Int) out4 z2) == 46) && (decide ((0 : Int) < (mget (0 : Int) (getd (0 : Int) guess1 z2) left4)))))] hF hS (by kernel_rfl) (by kernel_rfl) ?_ (fun a w hF hS => ?_)
              · exact obs_cons (ob_look (k := (getd (0 : Int) guess1 z2)) (m := left4) MK21 UndM99 (z := (0 : Int)) MZ3 (fun _ hS => ⟨_, _, _, _, hS.at_ 1 rfl⟩)) <| obs_nil
              refine at_end [5, 6, 9, 10, 39, 40, 41, 56] [pl 5 (.slice A3 (Int.toNat (guess1.length : Int)) c3), pl 6 (.map (some g1)), pl 9 (.int .i64 z2), pl 10 (.int .i32 (getd (0 : Int) guess1 z2)), pl 39 (.slice A2 guess1.length c2), pl 40 (.int .i64 (guess1.length : Int)), pl 41 (.int .i64 z2), pl 56 (.bool (((getd (0 : Int) out4 z2) == 46) && (decide ((0 : Int) < (mget (0 : Int) (getd (0 : Int) guess1 z2) left4)))))] hF rfl (by kernel_rfl) (fun hF => ?_)
              refine then_n ?_
              exact ⟨(((getd (0 : Int) out4 z2) == 46) && (decide ((0 : Int) < (mget (0 : Int) (getd (0 : Int) guess1 z2) left4)))), hF.weak [5, 6, 9, 10, 39, 40, 41, 56] (by kernel_rfl), hS, hm⟩
            · replace hm := if_f hm hg1
              refine at_gskip (d := 54) (v := .int .i64 0) (hs := [(((getd (0 : Int) out4 z2) == 46), true)]) (ctx := [(51, true)]) hF (by kernel_rfl) (by kernel_rfl) (fun h => absurd (h (((getd (0 : Int) out4 z2) == 46), true) (by simp)) (by first | exact fun hz => Bool.noConfusion (Eq.trans (Eq.symm hg1) hz) | simp [hg1])) (fun a hF => ?_)
              refine at_run 2 [] [] [5, 6, 9, 10, 39, 40, 41, 56] [pl 5 (.slice A3 (Int.toNat (guess1.length : Int)) c3), pl 6 (.map (some g1)), pl 9 (.int .i64 z2), pl 10 (.int .i32 (getd (0 : Int) guess1 z2)), pl 39 (.slice A2 guess1.length c2), pl 40 (.int .i64 (guess1.length : Int)), pl 41 (.int .i64 z2), pl 56 (.bool (((getd (0 : Int) out4 z2) == 46) && (decide ((0 : Int) < 0))))] hF hS (by kernel_rfl) (by kernel_rfl) ?_ (fun a w hF hS => ?_)
              · exact obs_nil
              refine at_end [5, 6, 9, 10, 39, 40, 41, 56] [pl 5 (.slice A3 (Int.toNat (guess1.length : Int)) c3), pl 6 (.map (some g1)), pl 9 (.int .i64 z2), pl 10 (.int .i32 (getd (0 : Int) guess1 z2)), pl 39 (.slice A2 guess1.length c2), pl 40 (.int .i64 (guess1.length : Int)), pl 41 (.int .i64 z2), pl 56 (.bool (((getd (0 : Int) out4 z2) == 46) && (decide ((0 : Int) < 0))))] hF rfl (by kernel_rfl) (fun hF => ?_)
              refine then_n ?_
              exact ⟨(((getd (0 : Int) out4 z2) == 46) && (decide ((0 : Int) < 0))), hF.weak [5, 6, 9, 10, 39, 40, 41, 56] (by kernel_rfl), hS, hm⟩
      · refine cond_ev (t := 42) (b := decide (z2 < (guess1.length : Int))) hF (by kernel_rfl) (fun hb => ?_) (fun hb => ?_)
        · replace hm := if_t hm hb
          refine wpIn_skip ?_
          refine then_n ?_
          exact ⟨hF.weak [5, 6, 39, 40, 41] (by kernel_rfl), hS, hm⟩
        · replace hm := if_f hm hb
          refine wpIn_exit ?_
          refine then_e (then_e (block_e (then_n ?_)))
          have hS := hS.pickN 2 [0] (by decide)
          rw [← hφ2] at hm
          replace hm := done_b hm
          unfold words_hint_K2 at hm
          try dsimp only at hm
          have hm : (words_hint_J4 out4).bind some = some r := hm
          exact ⟨out4, hF.weak [5] (by kernel_rfl), hS, hm⟩
  · refine reg [] [] [1, 5, 6, 15, 16, 17] [pl 1 (.slice A2 guess1.length c2), pl 5 (.slice A3 (Int.toNat (guess1.length : Int)) c3), pl 6 (.map (some g1)), pl 15 (.slice A1 secret1.length c1), pl 16 (.int .i64 (secret1.length : Int)), pl 17 (.int .i64 0)] hF hS Fol (by kernel_rfl) (by kernel_rfl) (by kernel_rfl) ?_ (fun a w hF hS => ?_)
    · exact obs_nil
    refine wpIn_block ?_
    have hS := hS.pickN 2 [1, 0] (by decide)
    refine wp_loop_model (S := (List Int × List (Int × Int) × Int)) (R := (List Int × List (Int × Int))) (words_hint_L1 secret1 guess1) (fun x => ((words_hint_K1 guess1) x).bind some) r (fun (x : (List Int × List (Int × Int) × Int)) a w => Fr 67 [pl 1 (.slice A2 guess1.length c2), pl 5 (.slice A3 (Int.toNat (guess1.length : Int)) c3), pl 6 (.map (some g1)), pl 15 (.slice A1 secret1.length c1), pl 16 (.int .i64 (secret1.length : Int)), pl 17 (.int .i64 x.2.2)] a ∧ Sep w0 B w (own 5 (.slice A3 (Int.toNat (guess1.length : Int)) c3) ((List.map (Value.int .u8) x.1)) :: mapH kf21 (Value.int .i64) g1 x.2.1 :: fs)) (assoc_b hm) ⟨hF.weak [1, 5, 6, 15, 16, 17] (by kernel_rfl), hS⟩ ?_
    clear hF hS hm
    rintro nn1 ⟨out1, left1, z1⟩ a w ⟨hF, hS⟩ hm
    generalize hφ1 : stK (words_hint_L1 secret1 guess1) nn1 (fun x => ((words_hint_K1 guess1) x).bind some) = φ1 at hm
    unfold words_hint_L1 at hm
    dsimp only at hF hS hm
    refine reg [] [] [1, 5, 6, 15, 16, 17, 18] [pl 1 (.slice A2 guess1.length c2), pl 5 (.slice A3 (Int.toNat (guess1.length : Int)) c3), pl 6 (.map (some g1)), pl 15 (.slice A1 secret1.length c1), pl 16 (.int .i64 (secret1.length : Int)), pl 17 (.int .i64 z1), pl 18 (.bool (decide (z1 < (secret1.length : Int))))] hF hS Fol (by kernel_rfl) (by kernel_rfl) (by kernel_rfl) ?_ (fun a w hF hS => ?_)
    · exact obs_nil
    refine seq_cut (fun a w => Fr 67 [pl 1 (.slice A2 guess1.length c2), pl 5 (.slice A3 (Int.toNat (guess1.length : Int)) c3), pl 6 (.map (some g1)), pl 15 (.slice A1 secret1.length c1), pl 16 (.int .i64 (secret1.length : Int)), pl 17 (.int .i64 z1)] a ∧ Sep w0 B w (own 5 (.slice A3 (Int.toNat (guess1.length : Int)) c3) ((List.map (Value.int .u8) out1)) :: mapH kf21 (Value.int .i64) g1 left1 :: fs) ∧ ((words_hint_J2 secret1 guess1 out1 left1 z1)).bind φ1 = some r) ?_ ?_
    · rintro a w ⟨hF, hS, hm⟩
      unfold words_hint_J2 at hm
      refine seq_cut (fun a w => ∃ (out3 : List Int) (left3 : List (Int × Int)), Fr 67 [pl 1 (.slice A2 guess1.length c2), pl 5 (.slice A3 (Int.toNat (guess1.length : Int)) c3), pl 6 (.map (some g1)), pl 15 (.slice A1 secret1.length c1), pl 16 (.int .i64 (secret1.length : Int)), pl 17 (.int .i64 z1)] a ∧ Sep w0 B w (own 5 (.slice A3 (Int.toNat (guess1.length : Int)) c3) ((List.map (Value.int .u8) out3)) :: mapH kf21 (Value.int .i64) g1 left3 :: fs) ∧ ((words_hint_J3 z1) out3 left3).bind φ1 = some r) ?_ ?_
      · rintro a w ⟨out3, left3, hF, hS, hm⟩
        unfold words_hint_J3 at hm
        refine reg1 [] [] [1, 5, 6, 15, 16, 17] [pl 1 (.slice A2 guess1.length c2), pl 5 (.slice A3 (Int.toNat (guess1.length : Int)) c3), pl 6 (.map (some g1)), pl 15 (.slice A1 secret1.length c1), pl 16 (.int .i64 (secret1.length : Int)), pl 17 (.int .i64 (w64 (z1 + 1)))] hF hS Fol (by kernel_rfl) (by kernel_rfl) (by kernel_rfl) ?_ (fun a w hF hS => ?_)
        · exact obs_nil
        refine then_n ?_
        rw [← hφ1] at hm
        exact ⟨(out3, left3, (w64 (z1 + 1))), ⟨hF.weak [1, 5, 6, 15, 16, 17] (by kernel_rfl), hS⟩, hm⟩
      · refine wpIn_block ?_
        obtain ⟨hp2, hm⟩ := asrt_b hm
        refine reg [⟨true, [], vS (Instr.indexAt 79 (.slice A1 secret1.length c1) (.int .i64 z1)), .pointer (some (sAddr A1 z1))⟩, ⟨false, [], vS (Instr.loadAt 21 (.pointer (some (sAddr A1 z1)))), .int .i32 (getd (0 : Int) secret1 z1)⟩] [none, some (.pointer (some (sAddr A1 z1))), some (.int .i32 (getd (0 : Int) secret1 z1)), none, none] [1, 5, 6, 7, 8, 15, 16, 17] [pl 1 (.slice A2 guess1.length c2), pl 5 (.slice A3 (Int.toNat (guess1.length : Int)) c3), pl 6 (.map (some g1)), pl 7 (.int .i64 z1), pl 8 (.int .i32 (getd (0 : Int) secret1 z1)), pl 15 (.slice A1 secret1.length c1), pl 16 (.int .i64 (secret1.length : Int)), pl 17 (.int .i64 z1)] hF hS Fol (by kernel_rfl) (by kernel_rfl) (by kernel_rfl) ?_ (fun a w hF hS => ?_)
        · exact obs_cons (ob_ix1 (f := (Value.int .i32)) (m := secret1) Und79 hi21 hs21 (hr_secret1 _ (hS.dropN 2)) rfl (fun _ => hp2)) <| obs_cons (ob_get1 (n := secret1.length) (m := secret1) (Value.int .i32) (0 : Int) Agg21 (fun _ hS => ⟨_, (hr_secret1 _ (hS.dropN 2))⟩) (fun _ hS => rfl) (fun _ => hp2)) <| obs_nil
        refine seqR ?_
        obtain ⟨hp3, hm⟩ := asrt_b hm
        refine at_run 3 [⟨true, [], vS (Instr.indexAt 112 (.slice A3 (Int.toNat (guess1.length : Int)) c3) (.int .i64 z1)), .pointer (some (sAddr A3 z1))⟩] [none, none, some (.pointer (some (sAddr A3 z1)))] [1, 5, 6, 7, 8, 15, 16, 17, 24] [pl 1 (.slice A2 guess1.length c2), pl 5 (.slice A3 (Int.toNat (guess1.length : Int)) c3), pl 6 (.map (some g1)), pl 7 (.int .i64 z1), pl 8 (.int .i32 (getd (0 : Int) secret1 z1)), pl 15 (.slice A1 secret1.length c1), pl 16 (.int .i64 (secret1.length : Int)), pl 17 (.int .i64 z1), pl 24 (.pointer (some (sAddr A3 z1)))] hF hS (by kernel_rfl) (by kernel_rfl) ?_ (fun a w hF hS => ?_)
        · exact obs_cons (ob_ix1 (f := (Value.int .u8)) (m := out1) Und112 hi5 hs5 (hS.at_ 0 rfl).rd ((hS.at_ 0 rfl).len1) (fun _ => hp3)) <| obs_nil
        obtain ⟨w, hrun, hS⟩ := run_set1 (P := Tryd.prog) (t := 5) (x := 46) (Value.int .u8) (hS.at_ 0 rfl) hi5 hs5 rfl rfl hp3
        refine at_skip hF (by kernel_rfl) hrun ?_
        have hS : Sep w0 B w (own 5 (.slice A3 (Int.toNat (guess1.length : Int)) c3) ((List.map (Value.int .u8) (out1.set (Int.toNat z1) 46))) :: mapH kf21 (Value.int .i64) g1 left1 :: fs) := hS
        refine at_end [1, 5, 6, 7, 8, 15, 16, 17] [pl 1 (.slice A2 guess1.length c2), pl 5 (.slice A3 (Int.toNat (guess1.length : Int)) c3), pl 6 (.map (some g1)), pl 7 (.int .i64 z1), pl 8 (.int .i32 (getd (0 : Int) secret1 z1)), pl 15 (.slice A1 secret1.length c1), pl 16 (.int .i64 (secret1.length : Int)), pl 17 (.int .i64 z1)] hF rfl (by kernel_rfl) (fun hF => ?_)
        refine then_n ?_
        obtain ⟨hp4, hm⟩ := asrt_b hm
        refine reg [⟨true, [], vS (Instr.indexAt 79 (.slice A2 guess1.length c2) (.int .i64 z1)), .pointer (some (sAddr A2 z1))⟩, ⟨false, [], vS (Instr.loadAt 21 (.pointer (some (sAddr A2 z1)))), .int .i32 (getd (0 : Int) guess1 z1)⟩] [none, none, some (.pointer (some (sAddr A2 z1))), some (.int .i32 (getd (0 : Int) guess1 z1)), none, none] [1, 5, 6, 7, 8, 15, 16, 17, 30] [pl 1 (.slice A2 guess1.length c2), pl 5 (.slice A3 (Int.toNat (guess1.length : Int)) c3), pl 6 (.map (some g1)), pl 7 (.int .i64 z1), pl 8 (.int .i32 (getd (0 : Int) secret1 z1)), pl 15 (.slice A1 secret1.length c1), pl 16 (.int .i64 (secret1.length : Int)), pl 17 (.int .i64 z1), pl 30 (.bool ((getd (0 : Int) guess1 z1) == (getd (0 : Int) secret1 z1)))] hF hS Fol (by kernel_rfl) (by kernel_rfl) (by kernel_rfl) ?_ (fun a w hF hS => ?_)
        · exact obs_cons (ob_ix1 (f := (Value.int .i32)) (m := guess1) Und79 hi21 hs21 (hr_guess1 _ (hS.dropN 2)) rfl (fun _ => hp4)) <| obs_cons (ob_get1 (n := guess1.length) (m := guess1) (Value.int .i32) (0 : Int) Agg21 (fun _ hS => ⟨_, (hr_guess1 _ (hS.dropN 2))⟩) (fun _ hS => rfl) (fun _ => hp4)) <| obs_nil
        refine cond_ev (t := 30) (b := ((getd (0 : Int) guess1 z1) == (getd (0 : Int) secret1 z1))) hF (by kernel_rfl) (fun hb => ?_) (fun hb => ?_)
        · replace hm := if_t hm hb
          refine oneR ?_
          obtain ⟨hp5, hm⟩ := asrt_b hm
          refine at_run 3 [⟨true, [], vS (Instr.indexAt 112 (.slice A3 (Int.toNat (guess1.length : Int)) c3) (.int .i64 z1)), .pointer (some (sAddr A3 z1))⟩] [none, none, some (.pointer (some (sAddr A3 z1)))] [1, 5, 6, 15, 16, 17, 33] [pl 1 (.slice A2 guess1.length c2), pl 5 (.slice A3 (Int.toNat (guess1.length : Int)) c3), pl 6 (.map (some g1)), pl 15 (.slice A1 secret1.length c1), pl 16 (.int .i64 (secret1.length : Int)), pl 17 (.int .i64 z1), pl 33 (.pointer (some (sAddr A3 z1)))] hF hS (by kernel_rfl) (by kernel_rfl) ?_ (fun a w hF hS => ?_)
          · exact obs_cons (ob_ix1 (f := (Value.int .u8)) (m := (out1.set (Int.toNat z1) 46)) Und112 hi5 hs5 (hS.at_ 0 rfl).rd ((hS.at_ 0 rfl).len1) (fun _ => hp5)) <| obs_nil
          obtain ⟨w, hrun, hS⟩ := run_set1 (P := Tryd.prog) (t := 5) (x := 103) (Value.int .u8) (hS.at_ 0 rfl) hi5 hs5 rfl rfl hp5
          refine at_skip hF (by kernel_rfl) hrun ?_
          have hS : Sep w0 B w (own 5 (.slice A3 (Int.toNat (guess1.length : Int)) c3) ((List.map (Value.int .u8) ((out1.set (Int.toNat z1) 46).set (Int.toNat z1) 103))) :: mapH kf21 (Value.int .i64) g1 left1 :: fs) := hS
          refine at_end [1, 5, 6, 15, 16, 17] [pl 1 (.slice A2 guess1.length c2), pl 5 (.slice A3 (Int.toNat (guess1.length : Int)) c3), pl 6 (.map (some g1)), pl 15 (.slice A1 secret1.length c1), pl 16 (.int .i64 (secret1.length : Int)), pl 17 (.int .i64 z1)] hF rfl (by kernel_rfl) (fun hF => ?_)
          refine block_n ?_
          refine then_n ?_
          exact ⟨((out1.set (Int.toNat z1) 46).set (Int.toNat z1) 103), left1, hF.weak [1, 5, 6, 15, 16, 17] (by kernel_rfl), hS, hm⟩
        · replace hm := if_f hm hb
          refine oneR ?_
          refine at_run 4 [⟨false, [], vS (Instr.lookup 99 (.map (some g1)) (.int .i32 (getd (0 : Int) secret1 z1)) false), .int .i64 (mget (0 : Int) (getd (0 : Int) secret1 z1) left1)⟩] [none, none, some (.int .i64 (mget (0 : Int) (getd (0 : Int) secret1 z1) left1)), none] [1, 5, 6, 15, 16, 17, 34, 35, 37] [pl 1 (.slice A2 guess1.length c2), pl 5 (.slice A3 (Int.toNat (guess1.length : Int)) c3), pl 6 (.map (some g1)), pl 15 (.slice A1 secret1.length c1), pl 16 (.int .i64 (secret1.length : Int)), pl 17 (.int .i64 z1), pl 34 (.map (some g1)), pl 35 (.int .i32 (getd (0 : Int) secret1 z1)), pl 37 (.int .i64 (w64 ((mget (0 : Int) (getd (0 : Int) secret1 z1) left1) + 1)))] hF hS (by kernel_rfl) (by kernel_rfl) ?_ (fun a w hF hS => ?_)
          · exact obs_cons (ob_look (k := (getd (0 : Int) secret1 z1)) (m := left1) MK21 UndM99 (z := (0 : Int)) MZ3 (fun _ hS => ⟨_, _, _, _, hS.at_ 1 rfl⟩)) <| obs_nil
          obtain ⟨w, hrun, hS⟩ := run_mput (P := Tryd.prog) (t := 99) (vf := (Value.int .i64)) MK21 UndM99 (getd (0 : Int) secret1 z1) (w64 ((mget (0 : Int) (getd (0 : Int) secret1 z1) left1) + 1)) (hS.at_ 1 rfl)
          refine at_skip hF (by kernel_rfl) hrun ?_
          have hS : Sep w0 B w (own 5 (.slice A3 (Int.toNat (guess1.length : Int)) c3) ((List.map (Value.int .u8) (out1.set (Int.toNat z1) 46))) :: mapH kf21 (Value.int .i64) g1 (mput (getd (0 : Int) secret1 z1) (w64 ((mget (0 : Int) (getd (0 : Int) secret1 z1) left1) + 1)) left1) :: fs) := hS
          refine at_end [1, 5, 6, 15, 16, 17] [pl 1 (.slice A2 guess1.length c2), pl 5 (.slice A3 (Int.toNat (guess1.length : Int)) c3), pl 6 (.map (some g1)), pl 15 (.slice A1 secret1.length c1), pl 16 (.int .i64 (secret1.length : Int)), pl 17 (.int .i64 z1)] hF rfl (by kernel_rfl) (fun hF => ?_)
          refine block_n ?_
          refine then_n ?_
          exact ⟨(out1.set (Int.toNat z1) 46), (mput (getd (0 : Int) secret1 z1) (w64 ((mget (0 : Int) (getd (0 : Int) secret1 z1) left1) + 1)) left1), hF.weak [1, 5, 6, 15, 16, 17] (by kernel_rfl), hS, hm⟩
    · refine cond_ev (t := 18) (b := decide (z1 < (secret1.length : Int))) hF (by kernel_rfl) (fun hb => ?_) (fun hb => ?_)
      · replace hm := if_t hm hb
        refine wpIn_skip ?_
        refine then_n ?_
        exact ⟨hF.weak [1, 5, 6, 15, 16, 17] (by kernel_rfl), hS, hm⟩
      · replace hm := if_f hm hb
        refine wpIn_exit ?_
        refine then_e (then_e (block_e (then_n ?_)))
        rw [← hφ1] at hm
        replace hm := done_b hm
        unfold words_hint_K1 at hm
        try dsimp only at hm
        have hm : ((words_hint_J1 guess1) out1 left1).bind some = some r := hm
        exact ⟨out1, left1, hF.weak [1, 5, 6] (by kernel_rfl), hS, hm⟩

noncomputable def words_Fits_1_J3  (z1 : Int) : Option (St Int (Fl Unit Bool)) :=
  some (.next (w64 (z1 + 1)))

noncomputable def words_Fits_1_J2  (s1 : List UInt8) (p11 : List (List UInt8)) (p21 : List (List UInt8)) (z1 : Int) : Option (St Int (Fl Unit Bool)) :=
  asrt (0 ≤ z1 ∧ z1 < (p11.length : Int)) <| asrt ((((getd ([] : List UInt8) p11 z1).length : Int) ≤ bigN)) <| ((if (!((((runesL s1).length : Nat) : Int) != (((runesL (getd ([] : List UInt8) p11 z1)).length : Nat) : Int))) then words_hint_m (runesL s1) (runesL (getd ([] : List UInt8) p11 z1)) else some ([]))).bind fun r1 => asrt (((((runesL s1).length : Nat) : Int) != (((runesL (getd ([] : List UInt8) p11 z1)).length : Nat) : Int)) = false → 0 ≤ z1 ∧ z1 < (p21.length : Int)) <| if (((((runesL s1).length : Nat) : Int) != (((runesL (getd ([] : List UInt8) p11 z1)).length : Nat) : Int)) || (!(r1 == (getd ([] : List UInt8) p21 z1)))) then (some (.done (.ret true))) else ((words_Fits_1_J3 z1))

noncomputable def words_Fits_1_J1  : Option Bool :=
  some false

noncomputable def words_Fits_1_K1  : (Fl Unit Bool) → Option Bool :=
  fun (x : (Fl Unit Bool)) => match x with | .go _ => words_Fits_1_J1 | .ret x => some x

noncomputable def words_Fits_1_L1  (s1 : List UInt8) (p11 : List (List UInt8)) (p21 : List (List UInt8)) : Int → Option (St Int (Fl Unit Bool)) :=
  fun (x : Int) => match x with | z1 => if (decide (z1 < (p11.length : Int))) then ((words_Fits_1_J2 s1 p11 p21 z1)) else (some (.done (.go ())))

noncomputable def words_Fits_1_m  (s1 : List UInt8) (p11 : List (List UInt8)) (p21 : List (List UInt8)) : Option Bool :=
  asrt (((s1.length : Int) ≤ bigN)) <| (loop (words_Fits_1_L1 s1 p11 p21) 0).bind words_Fits_1_K1

set_option maxRecDepth 100000 in
set_option maxHeartbeats 4000000 in
theorem words_Fits_1_w  {s1 : List UInt8} {g1 : Nat} {A1 : Option Addr} {c1 : Nat} {n1 : Nat} {p11 : List (List UInt8)} {g2 : Nat} {A2 : Option Addr} {c2 : Nat} {n2 : Nat} {p21 : List (List UInt8)} {r : Bool} {w0 w : World} {B : Nat} {fs : List HP} (hm : words_Fits_1_m s1 p11 p21 = some r) (hS : Sep w0 B w (blk g1 40 #[.slice A1 n1 c1] :: blk g2 40 #[.slice A2 n2 c2] :: fs)) (hr_p11 : RdF w0 B fs A1 ((List.map strV p11))) (_hc_p11 : p11.length ≤ c1) (_hn_p11 : n1 = p11.length) (hr_p21 : RdF w0 B fs A2 ((List.map strV p21))) (_hc_p21 : p21.length ≤ c2) (_hn_p21 : n2 = p21.length) :
    Calls Tryd.prog 77 #[strV s1, .pointer (some ⟨g1, 0, none⟩), .pointer (some ⟨g2, 0, none⟩)] w fun e w' => e = .returned (.bool r) ∧ Sep w0 B w' (blk g1 40 #[.slice A1 n1 c1] :: blk g2 40 #[.slice A2 n2 c2] :: fs) := by
  obtain ⟨i9, hi9, hz9, hs9, hb9⟩ := info_parts Info9
  obtain ⟨i21, hi21, hz21, hs21, hb21⟩ := info_parts Info21
  obtain rfl := _hn_p11
  obtain rfl := _hn_p21
  unfold words_Fits_1_m at hm
  replace hm := start_b hm
  refine enter (l := [strV s1, .pointer (some ⟨g1, 0, none⟩), .pointer (some ⟨g2, 0, none⟩)]) (n := 36) Tryd.func77 rfl rfl (by simp) (fun a hF => ?_)
  refine reg [] [] [0, 1, 2] [pl 0 (strV s1), pl 1 (.pointer (some ⟨g1, 0, none⟩)), pl 2 (.pointer (some ⟨g2, 0, none⟩))] hF hS Fol (by kernel_rfl) (by kernel_rfl) (by kernel_rfl) ?_ (fun a w hF hS => ?_)
  · exact obs_nil
  refine seqR ?_
  obtain ⟨hp1, hm⟩ := asrt_b hm
  refine at_run 1 [] [] [1, 2, 9] [pl 1 (.pointer (some ⟨g1, 0, none⟩)), pl 2 (.pointer (some ⟨g2, 0, none⟩)), pl 9 (strV s1)] hF hS (by kernel_rfl) (by kernel_rfl) ?_ (fun a w hF hS => ?_)
  · exact obs_nil
  obtain ⟨A3, c3, w, hrun, hS⟩ := run_runesS (P := Tryd.prog) (src := 9) (dst := 79) (e := 21) (by kernel_rfl) (by kernel_rfl) (by kernel_rfl) s1 hp1 hS
  refine at_do (d := 10) hF (by kernel_rfl) (by kernel_rfl) hrun (fun a hF => ?_)
  have hS : Sep w0 B w (own 21 (.slice A3 ((runesL s1).length) c3) ((List.map (Value.int .i32) (runesL s1))) :: blk g1 40 #[.slice A1 p11.length c1] :: blk g2 40 #[.slice A2 p21.length c2] :: fs) := hS
  refine at_run 1 [] [] [1, 2, 5] [pl 1 (.pointer (some ⟨g1, 0, none⟩)), pl 2 (.pointer (some ⟨g2, 0, none⟩)), pl 5 (.slice A3 ((runesL s1).length) c3)] hF hS (by kernel_rfl) (by kernel_rfl) ?_ (fun a w hF hS => ?_)
  · exact obs_nil
  refine at_end [1, 2, 5] [pl 1 (.pointer (some ⟨g1, 0, none⟩)), pl 2 (.pointer (some ⟨g2, 0, none⟩)), pl 5 (.slice A3 ((runesL s1).length) c3)] hF rfl (by kernel_rfl) (fun hF => ?_)
  refine then_n ?_
  refine seq_cut (fun a w => Fr 36 [] a ∧ Sep w0 B w (blk g1 40 #[.slice A1 p11.length c1] :: blk g2 40 #[.slice A2 p21.length c2] :: fs) ∧ (words_Fits_1_J1).bind some = some r) ?_ ?_
  · rintro a w ⟨hF, hS, hm⟩
    unfold words_Fits_1_J1 at hm
    refine reg [] [] [4] [pl 4 (.bool false)] hF hS Fol (by kernel_rfl) (by kernel_rfl) (by kernel_rfl) ?_ (fun a w hF hS => ?_)
    · exact obs_nil
    refine wpIn_ret ?_
    have hm : some false = some r := hm
    obtain rfl := Option.some.inj hm
    exact retV (rs := [.tmp 4]) (vs := [.bool false]) hF rfl (rv_t (by kernel_rfl) <| rv_nil) rfl ⟨rfl, hS⟩
  · refine reg [⟨false, [], vS (Instr.loadAt 40 (.pointer (some ⟨g1, 0, none⟩))), .slice A1 p11.length c1⟩] [some (.slice A1 p11.length c1), none, none] [2, 5, 11, 12, 13] [pl 2 (.pointer (some ⟨g2, 0, none⟩)), pl 5 (.slice A3 ((runesL s1).length) c3), pl 11 (.slice A1 p11.length c1), pl 12 (.int .i64 (p11.length : Int)), pl 13 (.int .i64 0)] hF hS Fol (by kernel_rfl) (by kernel_rfl) (by kernel_rfl) ?_ (fun a w hF hS => ?_)
    · exact obs_cons (ob_load Agg40 (fun _ _ hS => (hS.at_ 1 rfl).cell rfl)) <| obs_nil
    refine wpIn_block ?_
    have hS := hS.pickN 3 [2, 0, 1] (by decide)
    refine wp_loop_model (S := Int) (R := (Fl Unit Bool)) (words_Fits_1_L1 s1 p11 p21) (fun x => (words_Fits_1_K1 x).bind some) r (fun (x : Int) a w => Fr 36 [pl 2 (.pointer (some ⟨g2, 0, none⟩)), pl 5 (.slice A3 ((runesL s1).length) c3), pl 11 (.slice A1 p11.length c1), pl 12 (.int .i64 (p11.length : Int)), pl 13 (.int .i64 x)] a ∧ Sep w0 B w (blk g2 40 #[.slice A2 p21.length c2] :: own 21 (.slice A3 ((runesL s1).length) c3) ((List.map (Value.int .i32) (runesL s1))) :: blk g1 40 #[.slice A1 p11.length c1] :: fs)) (assoc_b hm) ⟨hF.weak [2, 5, 11, 12, 13] (by kernel_rfl), hS⟩ ?_
    clear hF hS hm
    rintro nn1 z1 a w ⟨hF, hS⟩ hm
    generalize hφ1 : stK (words_Fits_1_L1 s1 p11 p21) nn1 (fun x => (words_Fits_1_K1 x).bind some) = φ1 at hm
    unfold words_Fits_1_L1 at hm
    dsimp only at hm
    refine reg [] [] [2, 5, 11, 12, 13, 14] [pl 2 (.pointer (some ⟨g2, 0, none⟩)), pl 5 (.slice A3 ((runesL s1).length) c3), pl 11 (.slice A1 p11.length c1), pl 12 (.int .i64 (p11.length : Int)), pl 13 (.int .i64 z1), pl 14 (.bool (decide (z1 < (p11.length : Int))))] hF hS Fol (by kernel_rfl) (by kernel_rfl) (by kernel_rfl) ?_ (fun a w hF hS => ?_)
    · exact obs_nil
    refine seq_cut (fun a w => Fr 36 [pl 2 (.pointer (some ⟨g2, 0, none⟩)), pl 5 (.slice A3 ((runesL s1).length) c3), pl 11 (.slice A1 p11.length c1), pl 12 (.int .i64 (p11.length : Int)), pl 13 (.int .i64 z1)] a ∧ Sep w0 B w (blk g2 40 #[.slice A2 p21.length c2] :: own 21 (.slice A3 ((runesL s1).length) c3) ((List.map (Value.int .i32) (runesL s1))) :: blk g1 40 #[.slice A1 p11.length c1] :: fs) ∧ ((words_Fits_1_J2 s1 p11 p21 z1)).bind φ1 = some r) ?_ ?_
    · rintro a w ⟨hF, hS, hm⟩
      unfold words_Fits_1_J2 at hm
      refine seq_cut (fun a w => Fr 36 [pl 2 (.pointer (some ⟨g2, 0, none⟩)), pl 5 (.slice A3 ((runesL s1).length) c3), pl 11 (.slice A1 p11.length c1), pl 12 (.int .i64 (p11.length : Int)), pl 13 (.int .i64 z1)] a ∧ Sep w0 B w (blk g2 40 #[.slice A2 p21.length c2] :: own 21 (.slice A3 ((runesL s1).length) c3) ((List.map (Value.int .i32) (runesL s1))) :: blk g1 40 #[.slice A1 p11.length c1] :: fs) ∧ ((words_Fits_1_J3 z1)).bind φ1 = some r) ?_ ?_
      · rintro a w ⟨hF, hS, hm⟩
        unfold words_Fits_1_J3 at hm
        refine reg1 [] [] [2, 5, 11, 12, 13] [pl 2 (.pointer (some ⟨g2, 0, none⟩)), pl 5 (.slice A3 ((runesL s1).length) c3), pl 11 (.slice A1 p11.length c1), pl 12 (.int .i64 (p11.length : Int)), pl 13 (.int .i64 (w64 (z1 + 1)))] hF hS Fol (by kernel_rfl) (by kernel_rfl) (by kernel_rfl) ?_ (fun a w hF hS => ?_)
        · exact obs_nil
        refine then_n ?_
        rw [← hφ1] at hm
        exact ⟨(w64 (z1 + 1)), ⟨hF.weak [2, 5, 11, 12, 13] (by kernel_rfl), hS⟩, hm⟩
      · refine wpIn_block ?_
        obtain ⟨hp2, hm⟩ := asrt_b hm
        refine reg [⟨true, [], vS (Instr.indexAt 40 (.slice A1 p11.length c1) (.int .i64 z1)), .pointer (some (sAddr A1 z1))⟩, ⟨false, [], vS (Instr.loadAt 9 (.pointer (some (sAddr A1 z1)))), strV (getd ([] : List UInt8) p11 z1)⟩] [none, some (.pointer (some (sAddr A1 z1))), some (strV (getd ([] : List UInt8) p11 z1)), none, none] [2, 5, 6, 7, 11, 12, 13] [pl 2 (.pointer (some ⟨g2, 0, none⟩)), pl 5 (.slice A3 ((runesL s1).length) c3), pl 6 (.int .i64 z1), pl 7 (strV (getd ([] : List UInt8) p11 z1)), pl 11 (.slice A1 p11.length c1), pl 12 (.int .i64 (p11.length : Int)), pl 13 (.int .i64 z1)] hF hS Fol (by kernel_rfl) (by kernel_rfl) (by kernel_rfl) ?_ (fun a w hF hS => ?_)
        · exact obs_cons (ob_ix1 (f := strV) (m := p11) Und40 hi9 hs9 (hr_p11 _ (hS.dropN 3)) rfl (fun _ => hp2)) <| obs_cons (ob_get1 (n := p11.length) (m := p11) strV ([] : List UInt8) Agg9 (fun _ hS => ⟨_, (hr_p11 _ (hS.dropN 3))⟩) (fun _ hS => rfl) (fun _ => hp2)) <| obs_nil
        refine seqR ?_
        obtain ⟨hp3, hm⟩ := asrt_b hm
        refine at_run 1 [] [] [2, 5, 6, 11, 12, 13, 18] [pl 2 (.pointer (some ⟨g2, 0, none⟩)), pl 5 (.slice A3 ((runesL s1).length) c3), pl 6 (.int .i64 z1), pl 11 (.slice A1 p11.length c1), pl 12 (.int .i64 (p11.length : Int)), pl 13 (.int .i64 z1), pl 18 (strV (getd ([] : List UInt8) p11 z1))] hF hS (by kernel_rfl) (by kernel_rfl) ?_ (fun a w hF hS => ?_)
        · exact obs_nil
        obtain ⟨A4, c4, w, hrun, hS⟩ := run_runesS (P := Tryd.prog) (src := 9) (dst := 79) (e := 21) (by kernel_rfl) (by kernel_rfl) (by kernel_rfl) (getd ([] : List UInt8) p11 z1) hp3 hS
        refine at_do (d := 19) hF (by kernel_rfl) (by kernel_rfl) hrun (fun a hF => ?_)
        have hS : Sep w0 B w (own 21 (.slice A4 ((runesL (getd ([] : List UInt8) p11 z1)).length) c4) ((List.map (Value.int .i32) (runesL (getd ([] : List UInt8) p11 z1)))) :: blk g2 40 #[.slice A2 p21.length c2] :: own 21 (.slice A3 ((runesL s1).length) c3) ((List.map (Value.int .i32) (runesL s1))) :: blk g1 40 #[.slice A1 p11.length c1] :: fs) := hS
        refine at_run 1 [] [] [2, 5, 6, 8, 11, 12, 13] [pl 2 (.pointer (some ⟨g2, 0, none⟩)), pl 5 (.slice A3 ((runesL s1).length) c3), pl 6 (.int .i64 z1), pl 8 (.slice A4 ((runesL (getd ([] : List UInt8) p11 z1)).length) c4), pl 11 (.slice A1 p11.length c1), pl 12 (.int .i64 (p11.length : Int)), pl 13 (.int .i64 z1)] hF hS (by kernel_rfl) (by kernel_rfl) ?_ (fun a w hF hS => ?_)
        · exact obs_nil
        refine at_end [2, 5, 6, 8, 11, 12, 13] [pl 2 (.pointer (some ⟨g2, 0, none⟩)), pl 5 (.slice A3 ((runesL s1).length) c3), pl 6 (.int .i64 z1), pl 8 (.slice A4 ((runesL (getd ([] : List UInt8) p11 z1)).length) c4), pl 11 (.slice A1 p11.length c1), pl 12 (.int .i64 (p11.length : Int)), pl 13 (.int .i64 z1)] hF rfl (by kernel_rfl) (fun hF => ?_)
        refine then_n ?_
        obtain ⟨r1, hr1, hm⟩ := call_b hm
        obtain ⟨hp4, hm⟩ := asrt_b hm
        refine reg [⟨false, [(((((runesL s1).length : Nat) : Int) != (((runesL (getd ([] : List UInt8) p11 z1)).length : Nat) : Int)), false)], callFunc 51 #[.slice A3 ((runesL s1).length) c3, .slice A4 ((runesL (getd ([] : List UInt8) p11 z1)).length) c4], strV r1⟩, ⟨false, [(((((runesL s1).length : Nat) : Int) != (((runesL (getd ([] : List UInt8) p11 z1)).length : Nat) : Int)), false)], vS (Instr.loadAt 40 (.pointer (some ⟨g2, 0, none⟩))), .slice A2 p21.length c2⟩, ⟨true, [(((((runesL s1).length : Nat) : Int) != (((runesL (getd ([] : List UInt8) p11 z1)).length : Nat) : Int)), false)], vS (Instr.indexAt 40 (.slice A2 p21.length c2) (.int .i64 z1)), .pointer (some (sAddr A2 z1))⟩, ⟨false, [(((((runesL s1).length : Nat) : Int) != (((runesL (getd ([] : List UInt8) p11 z1)).length : Nat) : Int)), false)], vS (Instr.loadAt 9 (.pointer (some (sAddr A2 z1)))), strV (getd ([] : List UInt8) p21 z1)⟩, ⟨true, [(((((runesL s1).length : Nat) : Int) != (((runesL (getd ([] : List UInt8) p11 z1)).length : Nat) : Int)), false)], vS (do eqGuard .neq 9 (.tmp 28) (.tmp 32) (strV r1) (strV (getd ([] : List UInt8) p21 z1)); binOp .neq 9 (strV r1) (strV (getd ([] : List UInt8) p21 z1))), .bool (!(r1 == (getd ([] : List UInt8) p21 z1)))⟩] [none, none, none, none, none, none, none, none, some (strV r1), some (.slice A2 p21.length c2), none, some (.pointer (some (sAddr A2 z1))), some (strV (getd ([] : List UInt8) p21 z1)), some (.bool (!(r1 == (getd ([] : List UInt8) p21 z1)))), none] [2, 5, 11, 12, 13, 34] [pl 2 (.pointer (some ⟨g2, 0, none⟩)), pl 5 (.slice A3 ((runesL s1).length) c3), pl 11 (.slice A1 p11.length c1), pl 12 (.int .i64 (p11.length : Int)), pl 13 (.int .i64 z1), pl 34 (.bool (((((runesL s1).length : Nat) : Int) != (((runesL (getd ([] : List UInt8) p11 z1)).length : Nat) : Int)) || (!(r1 == (getd ([] : List UInt8) p21 z1)))))] hF hS Fol (by kernel_rfl) (by kernel_rfl) (by kernel_rfl) ?_ (fun a w hF hS => ?_)
        · exact obs_cons (ob_call Tryd.func51 (by kernel_rfl) rfl (fun hy _ hS => words_hint_w (ite_some hr1 (by rw [show ((((runesL s1).length : Nat) : Int) != (((runesL (getd ([] : List UInt8) p11 z1)).length : Nat) : Int)) = false from hy (((((runesL s1).length : Nat) : Int) != (((runesL (getd ([] : List UInt8) p11 z1)).length : Nat) : Int)), false) (by simp)]; try rfl)) hS (fun _ hS => (hS.at_ 2 rfl).rd) ((hS.at_ 2 rfl).cap1) rfl (fun _ hS => (hS.at_ 0 rfl).rd) ((hS.at_ 0 rfl).cap1) rfl)) <| obs_cons (ob_load Agg40 (fun _ _ hS => (hS.at_ 1 rfl).cell rfl)) <| obs_cons (ob_ix1 (f := strV) (m := p21) Und40 hi9 hs9 (hr_p21 _ (hS.dropN 4)) rfl (fun hy => hp4 (hy (((((runesL s1).length : Nat) : Int) != (((runesL (getd ([] : List UInt8) p11 z1)).length : Nat) : Int)), false) (by simp)))) <| obs_cons (ob_get1 (n := p21.length) (m := p21) strV ([] : List UInt8) Agg9 (fun _ hS => ⟨_, (hr_p21 _ (hS.dropN 4))⟩) (fun _ hS => rfl) (fun hy => hp4 (hy (((((runesL s1).length : Nat) : Int) != (((runesL (getd ([] : List UInt8) p11 z1)).length : Nat) : Int)), false) (by simp)))) <| obs_cons (ob_sneq _ _) <| obs_nil
        refine cond_ev (t := 34) (b := ((((runesL s1).length : Nat) : Int) != (((runesL (getd ([] : List UInt8) p11 z1)).length : Nat) : Int)) || (!(r1 == (getd ([] : List UInt8) p21 z1)))) hF (by kernel_rfl) (fun hb => ?_) (fun hb => ?_)
        · replace hm := if_t hm hb
          refine reg [] [] [4] [pl 4 (.bool true)] hF hS Fol (by kernel_rfl) (by kernel_rfl) (by kernel_rfl) ?_ (fun a w hF hS => ?_)
          · exact obs_nil
          refine wpIn_ret ?_
          refine block_r (then_r (then_r (block_r (then_r ?_))))
          rw [← hφ1] at hm
          replace hm := done_b hm
          unfold words_Fits_1_K1 at hm
          try dsimp only at hm
          have hS := hS.pickN 4 [3, 1] (by decide)
          have hm : some true = some r := hm
          obtain rfl := Option.some.inj hm
          exact retV (rs := [.tmp 4]) (vs := [.bool true]) hF rfl (rv_t (by kernel_rfl) <| rv_nil) rfl ⟨rfl, hS⟩
        · replace hm := if_f hm hb
          refine wpIn_skip ?_
          refine block_n ?_
          refine then_n ?_
          have hS := hS.pickN 4 [1, 2, 3] (by decide)
          exact ⟨hF.weak [2, 5, 11, 12, 13] (by kernel_rfl), hS, hm⟩
    · refine cond_ev (t := 14) (b := decide (z1 < (p11.length : Int))) hF (by kernel_rfl) (fun hb => ?_) (fun hb => ?_)
      · replace hm := if_t hm hb
        refine wpIn_skip ?_
        refine then_n ?_
        exact ⟨hF.weak [2, 5, 11, 12, 13] (by kernel_rfl), hS, hm⟩
      · replace hm := if_f hm hb
        refine wpIn_exit ?_
        refine then_e (then_e (block_e (then_n ?_)))
        have hS := hS.pickN 3 [2, 0] (by decide)
        rw [← hφ1] at hm
        replace hm := done_b hm
        unfold words_Fits_1_K1 at hm
        try dsimp only at hm
        have hm : (words_Fits_1_J1).bind some = some r := hm
        exact ⟨hF.weak [] (by kernel_rfl), hS, hm⟩

noncomputable def slices_IndexFunc_J3  (z1 : Int) : Option (St Int (Fl Unit Int)) :=
  some (.next (w64 (z1 + 1)))

noncomputable def slices_IndexFunc_J2  (s1 : List (List UInt8)) (v1 : List (List UInt8)) (v2 : List (List UInt8)) (z1 : Int) : Option (St Int (Fl Unit Int)) :=
  asrt (0 ≤ z1 ∧ z1 < (s1.length : Int)) <| (words_Fits_1_m (getd ([] : List UInt8) s1 z1) v1 v2).bind fun r1 => if r1 then (some (.done (.ret z1))) else ((slices_IndexFunc_J3 z1))

noncomputable def slices_IndexFunc_J1  : Option Int :=
  some (-1)

noncomputable def slices_IndexFunc_K1  : (Fl Unit Int) → Option Int :=
  fun (x : (Fl Unit Int)) => match x with | .go _ => slices_IndexFunc_J1 | .ret x => some x

noncomputable def slices_IndexFunc_L1  (s1 : List (List UInt8)) (v1 : List (List UInt8)) (v2 : List (List UInt8)) : Int → Option (St Int (Fl Unit Int)) :=
  fun (x : Int) => match x with | z1 => if (decide (z1 < (s1.length : Int))) then ((slices_IndexFunc_J2 s1 v1 v2 z1)) else (some (.done (.go ())))

noncomputable def slices_IndexFunc_m  (s1 : List (List UInt8)) (v1 : List (List UInt8)) (v2 : List (List UInt8)) : Option Int :=
  (loop (slices_IndexFunc_L1 s1 v1 v2) 0).bind slices_IndexFunc_K1

set_option maxRecDepth 100000 in
set_option maxHeartbeats 4000000 in
theorem slices_IndexFunc_w  {A1 : Option Addr} {c1 : Nat} {n1 : Nat} {s1 : List (List UInt8)} {g1 : Nat} {A2 : Option Addr} {c2 : Nat} {n2 : Nat} {v1 : List (List UInt8)} {g2 : Nat} {A3 : Option Addr} {c3 : Nat} {n3 : Nat} {v2 : List (List UInt8)} {r : Int} {w0 w : World} {B : Nat} {fs : List HP} (hm : slices_IndexFunc_m s1 v1 v2 = some r) (hS : Sep w0 B w (blk g1 40 #[.slice A2 n2 c2] :: blk g2 40 #[.slice A3 n3 c3] :: fs)) (hr_s1 : RdF w0 B fs A1 ((List.map strV s1))) (_hc_s1 : s1.length ≤ c1) (_hn_s1 : n1 = s1.length) (hr_v1 : RdF w0 B fs A2 ((List.map strV v1))) (_hc_v1 : v1.length ≤ c2) (_hn_v1 : n2 = v1.length) (hr_v2 : RdF w0 B fs A3 ((List.map strV v2))) (_hc_v2 : v2.length ≤ c3) (_hn_v2 : n3 = v2.length) :
    Calls Tryd.prog 111 #[.slice A1 n1 c1, .func (.func 77) #[] #[.pointer (some ⟨g1, 0, none⟩), .pointer (some ⟨g2, 0, none⟩)]] w fun e w' => e = .returned (.int .i64 r) ∧ Sep w0 B w' (blk g1 40 #[.slice A2 n2 c2] :: blk g2 40 #[.slice A3 n3 c3] :: fs) := by
  obtain ⟨i9, hi9, hz9, hs9, hb9⟩ := info_parts Info9
  obtain rfl := _hn_s1
  obtain rfl := _hn_v1
  obtain rfl := _hn_v2
  unfold slices_IndexFunc_m at hm
  replace hm := start_b hm
  refine enter (l := [.slice A1 s1.length c1, .func (.func 77) #[] #[.pointer (some ⟨g1, 0, none⟩), .pointer (some ⟨g2, 0, none⟩)]]) (n := 19) Tryd.func111 rfl rfl (by simp) (fun a hF => ?_)
  refine reg [] [] [0, 1] [pl 0 (.slice A1 s1.length c1), pl 1 (.func (.func 77) #[] #[.pointer (some ⟨g1, 0, none⟩), .pointer (some ⟨g2, 0, none⟩)])] hF hS Fol (by kernel_rfl) (by kernel_rfl) (by kernel_rfl) ?_ (fun a w hF hS => ?_)
  · exact obs_nil
  refine seq_cut (fun a w => Fr 19 [] a ∧ Sep w0 B w (blk g1 40 #[.slice A2 v1.length c2] :: blk g2 40 #[.slice A3 v2.length c3] :: fs) ∧ (slices_IndexFunc_J1).bind some = some r) ?_ ?_
  · rintro a w ⟨hF, hS, hm⟩
    unfold slices_IndexFunc_J1 at hm
    refine reg [] [] [4] [pl 4 (.int .i64 (-1))] hF hS Fol (by kernel_rfl) (by kernel_rfl) (by kernel_rfl) ?_ (fun a w hF hS => ?_)
    · exact obs_nil
    refine wpIn_ret ?_
    have hm : some (-1) = some r := hm
    obtain rfl := Option.some.inj hm
    exact retV (rs := [.tmp 4]) (vs := [.int .i64 (-1)]) hF rfl (rv_t (by kernel_rfl) <| rv_nil) rfl ⟨rfl, hS⟩
  · refine reg [] [] [0, 1, 7, 8] [pl 0 (.slice A1 s1.length c1), pl 1 (.func (.func 77) #[] #[.pointer (some ⟨g1, 0, none⟩), .pointer (some ⟨g2, 0, none⟩)]), pl 7 (.int .i64 (s1.length : Int)), pl 8 (.int .i64 0)] hF hS Fol (by kernel_rfl) (by kernel_rfl) (by kernel_rfl) ?_ (fun a w hF hS => ?_)
    · exact obs_nil
    refine wpIn_block ?_
    refine wp_loop_model (S := Int) (R := (Fl Unit Int)) (slices_IndexFunc_L1 s1 v1 v2) (fun x => (slices_IndexFunc_K1 x).bind some) r (fun (x : Int) a w => Fr 19 [pl 0 (.slice A1 s1.length c1), pl 1 (.func (.func 77) #[] #[.pointer (some ⟨g1, 0, none⟩), .pointer (some ⟨g2, 0, none⟩)]), pl 7 (.int .i64 (s1.length : Int)), pl 8 (.int .i64 x)] a ∧ Sep w0 B w (blk g1 40 #[.slice A2 v1.length c2] :: blk g2 40 #[.slice A3 v2.length c3] :: fs)) (assoc_b hm) ⟨hF.weak [0, 1, 7, 8] (by kernel_rfl), hS⟩ ?_
    clear hF hS hm
    rintro nn1 z1 a w ⟨hF, hS⟩ hm
    generalize hφ1 : stK (slices_IndexFunc_L1 s1 v1 v2) nn1 (fun x => (slices_IndexFunc_K1 x).bind some) = φ1 at hm
    unfold slices_IndexFunc_L1 at hm
    dsimp only at hm
    refine reg [] [] [0, 1, 7, 8, 9] [pl 0 (.slice A1 s1.length c1), pl 1 (.func (.func 77) #[] #[.pointer (some ⟨g1, 0, none⟩), .pointer (some ⟨g2, 0, none⟩)]), pl 7 (.int .i64 (s1.length : Int)), pl 8 (.int .i64 z1), pl 9 (.bool (decide (z1 < (s1.length : Int))))] hF hS Fol (by kernel_rfl) (by kernel_rfl) (by kernel_rfl) ?_ (fun a w hF hS => ?_)
    · exact obs_nil
    refine seq_cut (fun a w => Fr 19 [pl 0 (.slice A1 s1.length c1), pl 1 (.func (.func 77) #[] #[.pointer (some ⟨g1, 0, none⟩), .pointer (some ⟨g2, 0, none⟩)]), pl 7 (.int .i64 (s1.length : Int)), pl 8 (.int .i64 z1)] a ∧ Sep w0 B w (blk g1 40 #[.slice A2 v1.length c2] :: blk g2 40 #[.slice A3 v2.length c3] :: fs) ∧ ((slices_IndexFunc_J2 s1 v1 v2 z1)).bind φ1 = some r) ?_ ?_
    · rintro a w ⟨hF, hS, hm⟩
      unfold slices_IndexFunc_J2 at hm
      refine seq_cut (fun a w => Fr 19 [pl 0 (.slice A1 s1.length c1), pl 1 (.func (.func 77) #[] #[.pointer (some ⟨g1, 0, none⟩), .pointer (some ⟨g2, 0, none⟩)]), pl 7 (.int .i64 (s1.length : Int)), pl 8 (.int .i64 z1)] a ∧ Sep w0 B w (blk g1 40 #[.slice A2 v1.length c2] :: blk g2 40 #[.slice A3 v2.length c3] :: fs) ∧ ((slices_IndexFunc_J3 z1)).bind φ1 = some r) ?_ ?_
      · rintro a w ⟨hF, hS, hm⟩
        unfold slices_IndexFunc_J3 at hm
        refine reg1 [] [] [0, 1, 7, 8] [pl 0 (.slice A1 s1.length c1), pl 1 (.func (.func 77) #[] #[.pointer (some ⟨g1, 0, none⟩), .pointer (some ⟨g2, 0, none⟩)]), pl 7 (.int .i64 (s1.length : Int)), pl 8 (.int .i64 (w64 (z1 + 1)))] hF hS Fol (by kernel_rfl) (by kernel_rfl) (by kernel_rfl) ?_ (fun a w hF hS => ?_)
        · exact obs_nil
        refine then_n ?_
        rw [← hφ1] at hm
        exact ⟨(w64 (z1 + 1)), ⟨hF.weak [0, 1, 7, 8] (by kernel_rfl), hS⟩, hm⟩
      · refine wpIn_block ?_
        refine reg [] [] [0, 1, 5, 7, 8] [pl 0 (.slice A1 s1.length c1), pl 1 (.func (.func 77) #[] #[.pointer (some ⟨g1, 0, none⟩), .pointer (some ⟨g2, 0, none⟩)]), pl 5 (.int .i64 z1), pl 7 (.int .i64 (s1.length : Int)), pl 8 (.int .i64 z1)] hF hS Fol (by kernel_rfl) (by kernel_rfl) (by kernel_rfl) ?_ (fun a w hF hS => ?_)
        · exact obs_nil
        obtain ⟨hp1, hm⟩ := asrt_b hm
        obtain ⟨r1, hr1, hm⟩ := call_b hm
        refine reg [⟨true, [], vS (Instr.indexAt 40 (.slice A1 s1.length c1) (.int .i64 z1)), .pointer (some (sAddr A1 z1))⟩, ⟨false, [], vS (Instr.loadAt 9 (.pointer (some (sAddr A1 z1)))), strV (getd ([] : List UInt8) s1 z1)⟩, ⟨false, [], callFunc 77 #[strV (getd ([] : List UInt8) s1 z1), .pointer (some ⟨g1, 0, none⟩), .pointer (some ⟨g2, 0, none⟩)], .bool r1⟩] [none, none, none, some (.pointer (some (sAddr A1 z1))), some (strV (getd ([] : List UInt8) s1 z1)), some (.bool r1)] [0, 1, 5, 7, 8, 16] [pl 0 (.slice A1 s1.length c1), pl 1 (.func (.func 77) #[] #[.pointer (some ⟨g1, 0, none⟩), .pointer (some ⟨g2, 0, none⟩)]), pl 5 (.int .i64 z1), pl 7 (.int .i64 (s1.length : Int)), pl 8 (.int .i64 z1), pl 16 (.bool r1)] hF hS Fol (by kernel_rfl) (by kernel_rfl) (by kernel_rfl) ?_ (fun a w hF hS => ?_)
        · exact obs_cons (ob_ix1 (f := strV) (m := s1) Und40 hi9 hs9 (hr_s1 _ (hS.dropN 2)) rfl (fun _ => hp1)) <| obs_cons (ob_get1 (n := s1.length) (m := s1) strV ([] : List UInt8) Agg9 (fun _ hS => ⟨_, (hr_s1 _ (hS.dropN 2))⟩) (fun _ hS => rfl) (fun _ => hp1)) <| obs_cons (ob_call Tryd.func77 (by kernel_rfl) rfl (fun _ _ hS => words_Fits_1_w hr1 hS (fun _ hS => (hr_v1 _ (hS.dropN 0))) _hc_v1 rfl (fun _ hS => (hr_v2 _ (hS.dropN 0))) _hc_v2 rfl)) <| obs_nil
        refine cond_ev (t := 16) (b := r1) hF (by kernel_rfl) (fun hb => ?_) (fun hb => ?_)
        · replace hm := if_t hm hb
          refine reg [] [] [4] [pl 4 (.int .i64 z1)] hF hS Fol (by kernel_rfl) (by kernel_rfl) (by kernel_rfl) ?_ (fun a w hF hS => ?_)
          · exact obs_nil
          refine wpIn_ret ?_
          refine block_r (then_r (then_r (block_r (then_r ?_))))
          rw [← hφ1] at hm
          replace hm := done_b hm
          unfold slices_IndexFunc_K1 at hm
          try dsimp only at hm
          have hm : some z1 = some r := hm
          obtain rfl := Option.some.inj hm
          exact retV (rs := [.tmp 4]) (vs := [.int .i64 z1]) hF rfl (rv_t (by kernel_rfl) <| rv_nil) rfl ⟨rfl, hS⟩
        · replace hm := if_f hm hb
          refine wpIn_skip ?_
          refine block_n ?_
          refine then_n ?_
          exact ⟨hF.weak [0, 1, 7, 8] (by kernel_rfl), hS, hm⟩
    · refine cond_ev (t := 9) (b := decide (z1 < (s1.length : Int))) hF (by kernel_rfl) (fun hb => ?_) (fun hb => ?_)
      · replace hm := if_t hm hb
        refine wpIn_skip ?_
        refine then_n ?_
        exact ⟨hF.weak [0, 1, 7, 8] (by kernel_rfl), hS, hm⟩
      · replace hm := if_f hm hb
        refine wpIn_exit ?_
        refine then_e (then_e (block_e (then_n ?_)))
        rw [← hφ1] at hm
        replace hm := done_b hm
        unfold slices_IndexFunc_K1 at hm
        try dsimp only at hm
        have hm : (slices_IndexFunc_J1).bind some = some r := hm
        exact ⟨hF.weak [] (by kernel_rfl), hS, hm⟩

noncomputable def slices_DeleteFunc_2_J4  (j1 : Int) (s5 : List (List UInt8)) (i3 : Int) : Option (St (List (List UInt8) × Int × Int) (List (List UInt8) × Int)) :=
  some (.next (s5, i3, (w64 (j1 + 1))))

noncomputable def slices_DeleteFunc_2_J3  (s1 : List (List UInt8)) (v1 : List (List UInt8)) (v2 : List (List UInt8)) (s3 : List (List UInt8)) (i1 : Int) (j1 : Int) : Option (St (List (List UInt8) × Int × Int) (List (List UInt8) × Int)) :=
  asrt (0 ≤ j1 ∧ j1 < (s1.length : Int)) <| (words_Fits_1_m (getd ([] : List UInt8) s3 j1) v1 v2).bind fun r2 => if (!r2) then (asrt (0 ≤ i1 ∧ i1 < (s1.length : Int)) <| (slices_DeleteFunc_2_J4 j1) (s3.set (Int.toNat i1) (getd ([] : List UInt8) s3 j1)) (w64 (i1 + 1))) else ((slices_DeleteFunc_2_J4 j1) s3 i1)

noncomputable def slices_DeleteFunc_2_J2  (s1 : List (List UInt8)) (s4 : List (List UInt8)) (i2 : Int) : Option (Int × List (List UInt8)) :=
  asrt (0 ≤ i2 ∧ i2 ≤ (s1.length : Int) ∧ (s1.length : Int) ≤ (s1.length : Int)) <| asrt (0 ≤ (0 : Int) ∧ (0 : Int) ≤ i2 ∧ i2 ≤ (s1.length : Int)) <| some (i2, (putL s4 (Int.toNat i2) (List.replicate ((cut s4 i2 (s1.length : Int)).length) ([] : List UInt8))))

noncomputable def slices_DeleteFunc_2_K1  (s1 : List (List UInt8)) : (List (List UInt8) × Int) → Option (Int × List (List UInt8)) :=
  fun (x : (List (List UInt8) × Int)) => match x with | (s4, i2) => (slices_DeleteFunc_2_J2 s1) s4 i2

noncomputable def slices_DeleteFunc_2_L1  (s1 : List (List UInt8)) (v1 : List (List UInt8)) (v2 : List (List UInt8)) : (List (List UInt8) × Int × Int) → Option (St (List (List UInt8) × Int × Int) (List (List UInt8) × Int)) :=
  fun (x : (List (List UInt8) × Int × Int)) => match x with | (s3, i1, j1) => if (decide (j1 < (s1.length : Int))) then ((slices_DeleteFunc_2_J3 s1 v1 v2 s3 i1 j1)) else (some (.done (s3, i1)))

noncomputable def slices_DeleteFunc_2_J1  (s1 : List (List UInt8)) (v1 : List (List UInt8)) (v2 : List (List UInt8)) (r1 : Int) : Option (Int × List (List UInt8)) :=
  (loop (slices_DeleteFunc_2_L1 s1 v1 v2) (s1, r1, (w64 (r1 + 1)))).bind (slices_DeleteFunc_2_K1 s1)

noncomputable def slices_DeleteFunc_2_m  (s1 : List (List UInt8)) (v1 : List (List UInt8)) (v2 : List (List UInt8)) : Option (Int × List (List UInt8)) :=
  (slices_IndexFunc_m s1 v1 v2).bind fun r1 => if (r1 == (-1)) then (some ((s1.length : Int), s1)) else ((slices_DeleteFunc_2_J1 s1 v1 v2 r1))

set_option maxRecDepth 100000 in
set_option maxHeartbeats 4000000 in
theorem slices_DeleteFunc_2_w  {A1 : Option Addr} {c1 : Nat} {n1 : Nat} {s1 : List (List UInt8)} {g1 : Nat} {A2 : Option Addr} {c2 : Nat} {n2 : Nat} {v1 : List (List UInt8)} {g2 : Nat} {A3 : Option Addr} {c3 : Nat} {n3 : Nat} {v2 : List (List UInt8)} {r : (Int × List (List UInt8))} {w0 w : World} {B : Nat} {fs : List HP} (hm : slices_DeleteFunc_2_m s1 v1 v2 = some r) (hS : Sep w0 B w (own 9 (.slice A1 n1 c1) ((List.map strV s1)) :: blk g1 40 #[.slice A2 n2 c2] :: blk g2 40 #[.slice A3 n3 c3] :: fs)) (hr_v1 : RdF w0 B fs A2 ((List.map strV v1))) (_hc_v1 : v1.length ≤ c2) (_hn_v1 : n2 = v1.length) (hr_v2 : RdF w0 B fs A3 ((List.map strV v2))) (_hc_v2 : v2.length ≤ c3) (_hn_v2 : n3 = v2.length) :
    Calls Tryd.prog 70 #[.slice A1 n1 c1, .func (.func 77) #[] #[.pointer (some ⟨g1, 0, none⟩), .pointer (some ⟨g2, 0, none⟩)]] w fun e w' => ∃ v, e = .returned v ∧ v = .slice (cutAddr A1 c1 (0 : Int)) ((cut r.2 (0 : Int) r.1).length) (c1 - Int.toNat (0 : Int)) ∧ (0 ≤ (0 : Int) ∧ (0 : Int) ≤ r.1 ∧ r.1 ≤ (r.2.length : Int)) ∧ Sep w0 B w' (own 9 (.slice A1 n1 c1) ((List.map strV r.2)) :: blk g1 40 #[.slice A2 n2 c2] :: blk g2 40 #[.slice A3 n3 c3] :: fs) := by
  obtain ⟨i9, hi9, hz9, hs9, hb9⟩ := info_parts Info9
  obtain rfl := (hS.at_ 0 rfl).len1
  obtain rfl := _hn_v1
  obtain rfl := _hn_v2
  unfold slices_DeleteFunc_2_m at hm
  replace hm := start_b hm
  refine enter (l := [.slice A1 s1.length c1, .func (.func 77) #[] #[.pointer (some ⟨g1, 0, none⟩), .pointer (some ⟨g2, 0, none⟩)]]) (n := 42) Tryd.func70 rfl rfl (by simp) (fun a hF => ?_)
  refine reg [] [] [0, 1] [pl 0 (.slice A1 s1.length c1), pl 1 (.func (.func 77) #[] #[.pointer (some ⟨g1, 0, none⟩), .pointer (some ⟨g2, 0, none⟩)])] hF hS Fol (by kernel_rfl) (by kernel_rfl) (by kernel_rfl) ?_ (fun a w hF hS => ?_)
  · exact obs_nil
  obtain ⟨r1, hr1, hm⟩ := call_b hm
  refine reg [⟨false, [], callFunc 111 #[.slice A1 s1.length c1, .func (.func 77) #[] #[.pointer (some ⟨g1, 0, none⟩), .pointer (some ⟨g2, 0, none⟩)]], .int .i64 r1⟩] [none, none, some (.int .i64 r1), none] [0, 1, 5] [pl 0 (.slice A1 s1.length c1), pl 1 (.func (.func 77) #[] #[.pointer (some ⟨g1, 0, none⟩), .pointer (some ⟨g2, 0, none⟩)]), pl 5 (.int .i64 r1)] hF hS Fol (by kernel_rfl) (by kernel_rfl) (by kernel_rfl) ?_ (fun a w hF hS => ?_)
  · exact obs_cons (ob_call Tryd.func111 (by kernel_rfl) rfl (fun _ _ hS => quiet_pick hS 3 [1, 2, 0] (by decide) [2, 0, 1] (by decide) (qs := (blk g1 40 #[.slice A2 v1.length c2] :: blk g2 40 #[.slice A3 v2.length c3] :: own 9 (.slice A1 s1.length c1) ((List.map strV s1)) :: fs)) rfl (fun hS => slices_IndexFunc_w hr1 hS (fun _ hS => (hS.at_ 0 rfl).rd) (((hS.dropN 2).at_ 0 rfl).cap1) rfl (fun _ hS => (hr_v1 _ (hS.dropN 1))) _hc_v1 rfl (fun _ hS => (hr_v2 _ (hS.dropN 1))) _hc_v2 rfl) 3 rfl)) <| obs_nil
  refine seq_cut (fun a w => Fr 42 [pl 0 (.slice A1 s1.length c1), pl 1 (.func (.func 77) #[] #[.pointer (some ⟨g1, 0, none⟩), .pointer (some ⟨g2, 0, none⟩)]), pl 5 (.int .i64 r1)] a ∧ Sep w0 B w (own 9 (.slice A1 s1.length c1) ((List.map strV s1)) :: blk g1 40 #[.slice A2 v1.length c2] :: blk g2 40 #[.slice A3 v2.length c3] :: fs) ∧ ((slices_DeleteFunc_2_J1 s1 v1 v2 r1)).bind some = some r) ?_ ?_
  · rintro a w ⟨hF, hS, hm⟩
    unfold slices_DeleteFunc_2_J1 at hm
    refine seq_cut (fun a w => ∃ (s4 : List (List UInt8)) (i2 : Int), Fr 42 [pl 0 (.slice A1 s1.length c1), pl 5 (.int .i64 i2)] a ∧ Sep w0 B w (own 9 (.slice A1 s1.length c1) ((List.map strV s4)) :: blk g1 40 #[.slice A2 v1.length c2] :: blk g2 40 #[.slice A3 v2.length c3] :: fs) ∧ ((slices_DeleteFunc_2_J2 s1) s4 i2).bind some = some r) ?_ ?_
    · rintro a w ⟨s4, i2, hF, hS, hm⟩
      unfold slices_DeleteFunc_2_J2 at hm
      refine seqR ?_
      obtain ⟨hp3, hm⟩ := asrt_b hm
      have hb1 := cutb (n := s1.length) ((hS.at_ 0 rfl).len1) hp3
      refine at_run 3 [⟨true, [], vS (Instr.sliceAt 40 (.slice A1 s1.length c1) (some (.int .i64 i2)) none none), .slice (cutAddr A1 c1 i2) ((cut s4 i2 (s1.length : Int)).length) (c1 - Int.toNat i2)⟩] [none, none, some (.slice (cutAddr A1 c1 i2) ((cut s4 i2 (s1.length : Int)).length) (c1 - Int.toNat i2))] [0, 5, 38] [pl 0 (.slice A1 s1.length c1), pl 5 (.int .i64 i2), pl 38 (.slice (cutAddr A1 c1 i2) ((cut s4 i2 (s1.length : Int)).length) (c1 - Int.toNat i2))] hF hS (by kernel_rfl) (by kernel_rfl) ?_ (fun a w hF hS => ?_)
      · exact obs_cons (ob_cutn (l := s4) (k := .i64) (k' := .i64) Und40 hi9 hs9 ((hS.at_ 0 rfl).len1) (.inl rfl) (.inr ⟨rfl, rfl⟩) (fun _ => hb1) ((hS.at_ 0 rfl).cap1)) <| obs_nil
      obtain ⟨w, hrun, hS⟩ := run_clearCT (P := Tryd.prog) (t := 40) (ty := 0) (dc := (c1 - Int.toNat i2)) (hS.at_ 0 rfl) Und40 hi9 hz9 hb1
      refine at_skipV hF (by kernel_rfl) hrun ?_
      have hS : Sep w0 B w (own 9 (.slice A1 s1.length c1) ((List.map strV (putL s4 (Int.toNat i2) (List.replicate ((cut s4 i2 (s1.length : Int)).length) ([] : List UInt8))))) :: blk g1 40 #[.slice A2 v1.length c2] :: blk g2 40 #[.slice A3 v2.length c3] :: fs) := hS
      refine at_end [0, 5] [pl 0 (.slice A1 s1.length c1), pl 5 (.int .i64 i2)] hF rfl (by kernel_rfl) (fun hF => ?_)
      refine then_n ?_
      obtain ⟨hp4, hm⟩ := asrt_b hm
      have hb2 := cutb (n := s1.length) ((hS.at_ 0 rfl).len1) hp4
      refine reg [⟨true, [], vS (Instr.sliceAt 40 (.slice A1 s1.length c1) none (some (.int .i64 i2)) none), .slice (cutAddr A1 c1 (0 : Int)) ((cut (putL s4 (Int.toNat i2) (List.replicate ((cut s4 i2 (s1.length : Int)).length) ([] : List UInt8))) (0 : Int) i2).length) (c1 - Int.toNat (0 : Int))⟩] [none, none, some (.slice (cutAddr A1 c1 (0 : Int)) ((cut (putL s4 (Int.toNat i2) (List.replicate ((cut s4 i2 (s1.length : Int)).length) ([] : List UInt8))) (0 : Int) i2).length) (c1 - Int.toNat (0 : Int))), none] [4] [pl 4 (.slice (cutAddr A1 c1 (0 : Int)) ((cut (putL s4 (Int.toNat i2) (List.replicate ((cut s4 i2 (s1.length : Int)).length) ([] : List UInt8))) (0 : Int) i2).length) (c1 - Int.toNat (0 : Int)))] hF hS Fol (by kernel_rfl) (by kernel_rfl) (by kernel_rfl) ?_ (fun a w hF hS => ?_)
      · exact obs_cons (ob_cutn (l := (putL s4 (Int.toNat i2) (List.replicate ((cut s4 i2 (s1.length : Int)).length) ([] : List UInt8)))) (k := .i64) (k' := .i64) Und40 hi9 hs9 ((hS.at_ 0 rfl).len1) (.inr ⟨rfl, rfl⟩) (.inl rfl) (fun _ => hb2) ((hS.at_ 0 rfl).cap1)) <| obs_nil
      refine wpIn_ret ?_
      have hm : some (i2, (putL s4 (Int.toNat i2) (List.replicate ((cut s4 i2 (s1.length : Int)).length) ([] : List UInt8)))) = some r := hm
      obtain rfl := Option.some.inj hm
      exact retV (rs := [.tmp 4]) (vs := [.slice (cutAddr A1 c1 (0 : Int)) ((cut (putL s4 (Int.toNat i2) (List.replicate ((cut s4 i2 (s1.length : Int)).length) ([] : List UInt8))) (0 : Int) i2).length) (c1 - Int.toNat (0 : Int))]) hF rfl (rv_t (by kernel_rfl) <| rv_nil) rfl ⟨_, rfl, rfl, hb2, hS⟩
    · refine reg [] [] [0, 1, 5, 6] [pl 0 (.slice A1 s1.length c1), pl 1 (.func (.func 77) #[] #[.pointer (some ⟨g1, 0, none⟩), .pointer (some ⟨g2, 0, none⟩)]), pl 5 (.int .i64 r1), pl 6 (.int .i64 (w64 (r1 + 1)))] hF hS Fol (by kernel_rfl) (by kernel_rfl) (by kernel_rfl) ?_ (fun a w hF hS => ?_)
      · exact obs_nil
      refine wpIn_block ?_
      refine wp_loop_model (S := (List (List UInt8) × Int × Int)) (R := (List (List UInt8) × Int)) (slices_DeleteFunc_2_L1 s1 v1 v2) (fun x => ((slices_DeleteFunc_2_K1 s1) x).bind some) r (fun (x : (List (List UInt8) × Int × Int)) a w => Fr 42 [pl 0 (.slice A1 s1.length c1), pl 1 (.func (.func 77) #[] #[.pointer (some ⟨g1, 0, none⟩), .pointer (some ⟨g2, 0, none⟩)]), pl 5 (.int .i64 x.2.1), pl 6 (.int .i64 x.2.2)] a ∧ Sep w0 B w (own 9 (.slice A1 s1.length c1) ((List.map strV x.1)) :: blk g1 40 #[.slice A2 v1.length c2] :: blk g2 40 #[.slice A3 v2.length c3] :: fs)) (assoc_b hm) ⟨hF.weak [0, 1, 5, 6] (by kernel_rfl), hS⟩ ?_
      clear hF hS hm
      rintro nn1 ⟨s3, i1, j1⟩ a w ⟨hF, hS⟩ hm
      generalize hφ1 : stK (slices_DeleteFunc_2_L1 s1 v1 v2) nn1 (fun x => ((slices_DeleteFunc_2_K1 s1) x).bind some) = φ1 at hm
      unfold slices_DeleteFunc_2_L1 at hm
      dsimp only at hF hS hm
      refine seq_cut (fun a w => Fr 42 [pl 0 (.slice A1 s1.length c1), pl 1 (.func (.func 77) #[] #[.pointer (some ⟨g1, 0, none⟩), .pointer (some ⟨g2, 0, none⟩)]), pl 5 (.int .i64 i1), pl 6 (.int .i64 j1)] a ∧ Sep w0 B w (own 9 (.slice A1 s1.length c1) ((List.map strV s3)) :: blk g1 40 #[.slice A2 v1.length c2] :: blk g2 40 #[.slice A3 v2.length c3] :: fs) ∧ ((slices_DeleteFunc_2_J3 s1 v1 v2 s3 i1 j1)).bind φ1 = some r) ?_ ?_
      · rintro a w ⟨hF, hS, hm⟩
        unfold slices_DeleteFunc_2_J3 at hm
        refine seq_cut (fun a w => ∃ (s5 : List (List UInt8)) (i3 : Int), Fr 42 [pl 0 (.slice A1 s1.length c1), pl 1 (.func (.func 77) #[] #[.pointer (some ⟨g1, 0, none⟩), .pointer (some ⟨g2, 0, none⟩)]), pl 5 (.int .i64 i3), pl 6 (.int .i64 j1)] a ∧ Sep w0 B w (own 9 (.slice A1 s1.length c1) ((List.map strV s5)) :: blk g1 40 #[.slice A2 v1.length c2] :: blk g2 40 #[.slice A3 v2.length c3] :: fs) ∧ ((slices_DeleteFunc_2_J4 j1) s5 i3).bind φ1 = some r) ?_ ?_
        · rintro a w ⟨s5, i3, hF, hS, hm⟩
          unfold slices_DeleteFunc_2_J4 at hm
          refine reg1 [] [] [0, 1, 5, 6] [pl 0 (.slice A1 s1.length c1), pl 1 (.func (.func 77) #[] #[.pointer (some ⟨g1, 0, none⟩), .pointer (some ⟨g2, 0, none⟩)]), pl 5 (.int .i64 i3), pl 6 (.int .i64 (w64 (j1 + 1)))] hF hS Fol (by kernel_rfl) (by kernel_rfl) (by kernel_rfl) ?_ (fun a w hF hS => ?_)
          · exact obs_nil
          refine then_n ?_
          rw [← hφ1] at hm
          exact ⟨(s5, i3, (w64 (j1 + 1))), ⟨hF.weak [0, 1, 5, 6] (by kernel_rfl), hS⟩, hm⟩
        · refine wpIn_block ?_
          obtain ⟨hp1, hm⟩ := asrt_b hm
          refine reg [⟨true, [], vS (Instr.indexAt 40 (.slice A1 s1.length c1) (.int .i64 j1)), .pointer (some (sAddr A1 j1))⟩, ⟨false, [], vS (Instr.loadAt 9 (.pointer (some (sAddr A1 j1)))), strV (getd ([] : List UInt8) s3 j1)⟩] [none, none, some (.pointer (some (sAddr A1 j1))), some (strV (getd ([] : List UInt8) s3 j1)), none] [0, 1, 5, 6, 7] [pl 0 (.slice A1 s1.length c1), pl 1 (.func (.func 77) #[] #[.pointer (some ⟨g1, 0, none⟩), .pointer (some ⟨g2, 0, none⟩)]), pl 5 (.int .i64 i1), pl 6 (.int .i64 j1), pl 7 (strV (getd ([] : List UInt8) s3 j1))] hF hS Fol (by kernel_rfl) (by kernel_rfl) (by kernel_rfl) ?_ (fun a w hF hS => ?_)
          · exact obs_cons (ob_ix1 (f := strV) (m := s3) Und40 hi9 hs9 (hS.at_ 0 rfl).rd ((hS.at_ 0 rfl).len1) (fun _ => hp1)) <| obs_cons (ob_get1 (n := s1.length) (m := s3) strV ([] : List UInt8) Agg9 (fun _ hS => ⟨_, (hS.at_ 0 rfl).rd⟩) (fun _ hS => ((hS.at_ 0 rfl).len1)) (fun _ => hp1)) <| obs_nil
          obtain ⟨r2, hr2, hm⟩ := call_b hm
          refine reg [⟨false, [], callFunc 77 #[strV (getd ([] : List UInt8) s3 j1), .pointer (some ⟨g1, 0, none⟩), .pointer (some ⟨g2, 0, none⟩)], .bool r2⟩] [none, none, some (.bool r2), none] [0, 1, 5, 6, 7, 29] [pl 0 (.slice A1 s1.length c1), pl 1 (.func (.func 77) #[] #[.pointer (some ⟨g1, 0, none⟩), .pointer (some ⟨g2, 0, none⟩)]), pl 5 (.int .i64 i1), pl 6 (.int .i64 j1), pl 7 (strV (getd ([] : List UInt8) s3 j1)), pl 29 (.bool (!r2))] hF hS Fol (by kernel_rfl) (by kernel_rfl) (by kernel_rfl) ?_ (fun a w hF hS => ?_)
          · exact obs_cons (ob_call Tryd.func77 (by kernel_rfl) rfl (fun _ _ hS => quiet_pick hS 3 [1, 2, 0] (by decide) [2, 0, 1] (by decide) (qs := (blk g1 40 #[.slice A2 v1.length c2] :: blk g2 40 #[.slice A3 v2.length c3] :: own 9 (.slice A1 s1.length c1) ((List.map strV s3)) :: fs)) rfl (fun hS => words_Fits_1_w hr2 hS (fun _ hS => (hr_v1 _ (hS.dropN 1))) _hc_v1 rfl (fun _ hS => (hr_v2 _ (hS.dropN 1))) _hc_v2 rfl) 3 rfl)) <| obs_nil
          refine cond_ev (t := 29) (b := !r2) hF (by kernel_rfl) (fun hb => ?_) (fun hb => ?_)
          · replace hm := if_t hm hb
            refine seqR ?_
            obtain ⟨hp2, hm⟩ := asrt_b hm
            refine at_run 4 [⟨true, [], vS (Instr.indexAt 40 (.slice A1 s1.length c1) (.int .i64 i1)), .pointer (some (sAddr A1 i1))⟩] [none, none, none, some (.pointer (some (sAddr A1 i1)))] [0, 1, 5, 6, 32, 33] [pl 0 (.slice A1 s1.length c1), pl 1 (.func (.func 77) #[] #[.pointer (some ⟨g1, 0, none⟩), .pointer (some ⟨g2, 0, none⟩)]), pl 5 (.int .i64 i1), pl 6 (.int .i64 j1), pl 32 (strV (getd ([] : List UInt8) s3 j1)), pl 33 (.pointer (some (sAddr A1 i1)))] hF hS (by kernel_rfl) (by kernel_rfl) ?_ (fun a w hF hS => ?_)
            · exact obs_cons (ob_ix1 (f := strV) (m := s3) Und40 hi9 hs9 (hS.at_ 0 rfl).rd ((hS.at_ 0 rfl).len1) (fun _ => hp2)) <| obs_nil
            obtain ⟨w, hrun, hS⟩ := run_set1 (P := Tryd.prog) (t := 9) (x := (getd ([] : List UInt8) s3 j1)) strV (hS.at_ 0 rfl) hi9 hs9 rfl rfl hp2
            refine at_skip hF (by kernel_rfl) hrun ?_
            have hS : Sep w0 B w (own 9 (.slice A1 s1.length c1) ((List.map strV (s3.set (Int.toNat i1) (getd ([] : List UInt8) s3 j1)))) :: blk g1 40 #[.slice A2 v1.length c2] :: blk g2 40 #[.slice A3 v2.length c3] :: fs) := hS
            refine at_end [0, 1, 5, 6] [pl 0 (.slice A1 s1.length c1), pl 1 (.func (.func 77) #[] #[.pointer (some ⟨g1, 0, none⟩), .pointer (some ⟨g2, 0, none⟩)]), pl 5 (.int .i64 i1), pl 6 (.int .i64 j1)] hF rfl (by kernel_rfl) (fun hF => ?_)
            refine then_n ?_
            refine reg1 [] [] [0, 1, 5, 6] [pl 0 (.slice A1 s1.length c1), pl 1 (.func (.func 77) #[] #[.pointer (some ⟨g1, 0, none⟩), .pointer (some ⟨g2, 0, none⟩)]), pl 5 (.int .i64 (w64 (i1 + 1))), pl 6 (.int .i64 j1)] hF hS Fol (by kernel_rfl) (by kernel_rfl) (by kernel_rfl) ?_ (fun a w hF hS => ?_)
            · exact obs_nil
            refine block_n ?_
            refine then_n ?_
            exact ⟨(s3.set (Int.toNat i1) (getd ([] : List UInt8) s3 j1)), (w64 (i1 + 1)), hF.weak [0, 1, 5, 6] (by kernel_rfl), hS, hm⟩
          · replace hm := if_f hm hb
            refine wpIn_skip ?_
            refine block_n ?_
            refine then_n ?_
            exact ⟨s3, i1, hF.weak [0, 1, 5, 6] (by kernel_rfl), hS, hm⟩
      · refine reg [] [] [0, 1, 5, 6, 19] [pl 0 (.slice A1 s1.length c1), pl 1 (.func (.func 77) #[] #[.pointer (some ⟨g1, 0, none⟩), .pointer (some ⟨g2, 0, none⟩)]), pl 5 (.int .i64 i1), pl 6 (.int .i64 j1), pl 19 (.bool (decide (j1 < (s1.length : Int))))] hF hS Fol (by kernel_rfl) (by kernel_rfl) (by kernel_rfl) ?_ (fun a w hF hS => ?_)
        · exact obs_nil
        refine cond_ev (t := 19) (b := decide (j1 < (s1.length : Int))) hF (by kernel_rfl) (fun hb => ?_) (fun hb => ?_)
        · replace hm := if_t hm hb
          refine wpIn_skip ?_
          refine then_n ?_
          exact ⟨hF.weak [0, 1, 5, 6] (by kernel_rfl), hS, hm⟩
        · replace hm := if_f hm hb
          refine wpIn_exit ?_
          refine then_e (then_e (block_e (then_n ?_)))
          rw [← hφ1] at hm
          replace hm := done_b hm
          unfold slices_DeleteFunc_2_K1 at hm
          try dsimp only at hm
          have hm : ((slices_DeleteFunc_2_J2 s1) s3 i1).bind some = some r := hm
          exact ⟨s3, i1, hF.weak [0, 5] (by kernel_rfl), hS, hm⟩
  · refine reg [] [] [0, 1, 5, 12] [pl 0 (.slice A1 s1.length c1), pl 1 (.func (.func 77) #[] #[.pointer (some ⟨g1, 0, none⟩), .pointer (some ⟨g2, 0, none⟩)]), pl 5 (.int .i64 r1), pl 12 (.bool (r1 == (-1)))] hF hS Fol (by kernel_rfl) (by kernel_rfl) (by kernel_rfl) ?_ (fun a w hF hS => ?_)
    · exact obs_nil
    refine cond_ev (t := 12) (b := (r1 == (-1))) hF (by kernel_rfl) (fun hb => ?_) (fun hb => ?_)
    · replace hm := if_t hm hb
      refine reg [] [] [4] [pl 4 (.slice A1 s1.length c1)] hF hS Fol (by kernel_rfl) (by kernel_rfl) (by kernel_rfl) ?_ (fun a w hF hS => ?_)
      · exact obs_nil
      refine wpIn_ret ?_
      refine then_r ?_
      have hn1 : s1.length = s1.length := rfl
      have hF := hF.cast (t := 4) (v := .slice A1 s1.length c1) (v' := .slice (cutAddr A1 c1 (0 : Int)) (cut s1 (0 : Int) (s1.length : Int)).length (c1 - Int.toNat (0 : Int))) rfl rfl (cut_whole hn1)
      have hm : some ((s1.length : Int), s1) = some r := hm
      obtain rfl := Option.some.inj hm
      exact retV (rs := [.tmp 4]) (vs := [.slice (cutAddr A1 c1 (0 : Int)) ((cut s1 (0 : Int) (s1.length : Int)).length) (c1 - Int.toNat (0 : Int))]) hF rfl (rv_t (by kernel_rfl) <| rv_nil) rfl ⟨_, rfl, rfl, (cut_all hn1), hS⟩
    · replace hm := if_f hm hb
      refine wpIn_skip ?_
      refine then_n ?_
      exact ⟨hF.weak [0, 1, 5] (by kernel_rfl), hS, hm⟩

noncomputable def words_Fits_J5  (z1 : Int) : Option (St Int (Fl Unit (List (List UInt8) × Int))) :=
  some (.next (w64 (z1 + 1)))

noncomputable def words_Fits_J4  (guesses1 : List (List UInt8)) (hints1 : List (List UInt8)) (z1 : Int) : Option (St Int (Fl Unit (List (List UInt8) × Int))) :=
  asrt (0 ≤ z1 ∧ z1 < (hints1.length : Int)) <| (strings_Trim_m (getd ([] : List UInt8) hints1 z1) ([103, 121, 46] : List UInt8)).bind fun r2 => asrt ((!(r2 == ([] : List UInt8))) = false → 0 ≤ z1 ∧ z1 < (guesses1.length : Int)) <| ((if (!(!(r2 == ([] : List UInt8)))) then utf8_RuneCountInString_m (getd ([] : List UInt8) guesses1 z1) else some 0)).bind fun r3 => if ((!(r2 == ([] : List UInt8))) || (((getd ([] : List UInt8) hints1 z1).length : Int) != r3)) then (some (.done (.ret (([] : List (List UInt8)), 1)))) else ((words_Fits_J5 z1))

noncomputable def words_Fits_J3  (l1 : List (List UInt8)) (guesses1 : List (List UInt8)) (hints1 : List (List UInt8)) : Option (List (List UInt8) × Int) :=
  (words_sorted_m l1).bind fun r4 => (slices_DeleteFunc_2_m r4 guesses1 hints1).bind fun r5 => some ((cut r5.2 (0 : Int) r5.1), 0)

noncomputable def words_Fits_K1  (l1 : List (List UInt8)) (guesses1 : List (List UInt8)) (hints1 : List (List UInt8)) : (Fl Unit (List (List UInt8) × Int)) → Option (List (List UInt8) × Int) :=
  fun (x : (Fl Unit (List (List UInt8) × Int))) => match x with | .go _ => (words_Fits_J3 l1 guesses1 hints1) | .ret x => some x

noncomputable def words_Fits_L1  (guesses1 : List (List UInt8)) (hints1 : List (List UInt8)) : Int → Option (St Int (Fl Unit (List (List UInt8) × Int))) :=
  fun (x : Int) => match x with | z1 => if (decide (z1 < (hints1.length : Int))) then ((words_Fits_J4 guesses1 hints1 z1)) else (some (.done (.go ())))

noncomputable def words_Fits_J2  (l1 : List (List UInt8)) (guesses1 : List (List UInt8)) (hints1 : List (List UInt8)) : Option (List (List UInt8) × Int) :=
  (loop (words_Fits_L1 guesses1 hints1) 0).bind (words_Fits_K1 l1 guesses1 hints1)

noncomputable def words_Fits_J1  (l1 : List (List UInt8)) (guesses1 : List (List UInt8)) (hints1 : List (List UInt8)) : Option (List (List UInt8) × Int) :=
  if ((guesses1.length : Int) != (hints1.length : Int)) then (some (([] : List (List UInt8)), 11)) else ((words_Fits_J2 l1 guesses1 hints1))

noncomputable def words_Fits_m  (l1 : List (List UInt8)) (guesses1 : List (List UInt8)) (hints1 : List (List UInt8)) : Option (List (List UInt8) × Int) :=
  (words_check_m l1 guesses1).bind fun r1 => if (r1 != 0) then (some (([] : List (List UInt8)), r1)) else ((words_Fits_J1 l1 guesses1 hints1))

set_option maxRecDepth 100000 in
set_option maxHeartbeats 4000000 in
theorem words_Fits_w  {A1 : Option Addr} {c1 : Nat} {n1 : Nat} {l1 : List (List UInt8)} {A2 : Option Addr} {c2 : Nat} {n2 : Nat} {guesses1 : List (List UInt8)} {A3 : Option Addr} {c3 : Nat} {n3 : Nat} {hints1 : List (List UInt8)} {r : (List (List UInt8) × Int)} {w0 w : World} {B : Nat} {fs : List HP} [UTab 0 1 w0 B] (hm : words_Fits_m l1 guesses1 hints1 = some r) (hS : Sep w0 B w (fs)) (hr_l1 : RdF w0 B fs A1 ((List.map strV l1))) (_hc_l1 : l1.length ≤ c1) (_hn_l1 : n1 = l1.length) (hr_guesses1 : RdF w0 B fs A2 ((List.map strV guesses1))) (_hc_guesses1 : guesses1.length ≤ c2) (_hn_guesses1 : n2 = guesses1.length) (hr_hints1 : RdF w0 B fs A3 ((List.map strV hints1))) (_hc_hints1 : hints1.length ≤ c3) (_hn_hints1 : n3 = hints1.length) :
    Calls Tryd.prog 31 #[.slice A1 n1 c1, .slice A2 n2 c2, .slice A3 n3 c3] w fun e w' => ∃ v, e = .returned v ∧ ∃ (A5 : Option Addr) (c5 : Nat), v = .tuple #[.slice A5 r.1.length c5, .int .i64 r.2] ∧ Sep w0 B w' (own 9 (.slice A5 r.1.length c5) ((List.map strV r.1)) :: fs) := by
  obtain ⟨i9, hi9, hz9, hs9, hb9⟩ := info_parts Info9
  obtain ⟨i40, hi40, hz40, hs40, hb40⟩ := info_parts Info40
  obtain rfl := _hn_l1
  obtain rfl := _hn_guesses1
  obtain rfl := _hn_hints1
  unfold words_Fits_m at hm
  replace hm := start_b hm
  refine enter (l := [.slice A1 l1.length c1, .slice A2 guesses1.length c2, .slice A3 hints1.length c3]) (n := 48) Tryd.func31 rfl rfl (by simp) (fun a hF => ?_)
  refine seqR ?_
  refine at_do (d := 4) (s := vS (Instr.box 40 (.slice A2 guesses1.length c2))) (v := .pointer (some ⟨w.heap.size, 0, none⟩)) (w' := w.alloc (.cells #[.slice A2 guesses1.length c2] 40)) hF (by kernel_rfl) (by kernel_rfl) (by kernel_rfl) (fun a hF => ?_)
  have hS : Sep w0 B (w.alloc (.cells #[.slice A2 guesses1.length c2] 40)) (blk w.heap.size 40 #[.slice A2 guesses1.length c2] :: (fs)) := hS.box 40 #[.slice A2 guesses1.length c2]
  generalize w.heap.size = g1 at hF hS
  generalize w.alloc (.cells #[.slice A2 guesses1.length c2] 40) = w at hS ⊢
  refine at_do (d := 5) (s := vS (Instr.box 40 (.slice A3 hints1.length c3))) (v := .pointer (some ⟨w.heap.size, 0, none⟩)) (w' := w.alloc (.cells #[.slice A3 hints1.length c3] 40)) hF (by kernel_rfl) (by kernel_rfl) (by kernel_rfl) (fun a hF => ?_)
  have hS : Sep w0 B (w.alloc (.cells #[.slice A3 hints1.length c3] 40)) (blk w.heap.size 40 #[.slice A3 hints1.length c3] :: (blk g1 40 #[.slice A2 guesses1.length c2] :: fs)) := hS.box 40 #[.slice A3 hints1.length c3]
  generalize w.heap.size = g2 at hF hS
  generalize w.alloc (.cells #[.slice A3 hints1.length c3] 40) = w at hS ⊢
  refine at_run 2 [] [] [0, 4, 5] [pl 0 (.slice A1 l1.length c1), pl 4 (.pointer (some ⟨g1, 0, none⟩)), pl 5 (.pointer (some ⟨g2, 0, none⟩))] hF hS (by kernel_rfl) (by kernel_rfl) ?_ (fun a w hF hS => ?_)
  · exact obs_nil
  refine at_end [0, 4, 5] [pl 0 (.slice A1 l1.length c1), pl 4 (.pointer (some ⟨g1, 0, none⟩)), pl 5 (.pointer (some ⟨g2, 0, none⟩))] hF rfl (by kernel_rfl) (fun hF => ?_)
  refine then_n ?_
  refine seq_cut (fun a w => Fr 48 [pl 0 (.slice A1 l1.length c1), pl 4 (.pointer (some ⟨g1, 0, none⟩)), pl 5 (.pointer (some ⟨g2, 0, none⟩))] a ∧ Sep w0 B w (blk g1 40 #[.slice A2 guesses1.length c2] :: blk g2 40 #[.slice A3 hints1.length c3] :: fs) ∧ ((words_Fits_J1 l1 guesses1 hints1)).bind some = some r) ?_ ?_
  · rintro a w ⟨hF, hS, hm⟩
    unfold words_Fits_J1 at hm
    refine seq_cut (fun a w => Fr 48 [pl 0 (.slice A1 l1.length c1), pl 4 (.pointer (some ⟨g1, 0, none⟩)), pl 5 (.pointer (some ⟨g2, 0, none⟩))] a ∧ Sep w0 B w (blk g1 40 #[.slice A2 guesses1.length c2] :: blk g2 40 #[.slice A3 hints1.length c3] :: fs) ∧ ((words_Fits_J2 l1 guesses1 hints1)).bind some = some r) ?_ ?_
    · rintro a w ⟨hF, hS, hm⟩
      unfold words_Fits_J2 at hm
      refine seq_cut (fun a w => Fr 48 [pl 0 (.slice A1 l1.length c1), pl 4 (.pointer (some ⟨g1, 0, none⟩)), pl 5 (.pointer (some ⟨g2, 0, none⟩))] a ∧ Sep w0 B w (blk g1 40 #[.slice A2 guesses1.length c2] :: blk g2 40 #[.slice A3 hints1.length c3] :: fs) ∧ ((words_Fits_J3 l1 guesses1 hints1)).bind some = some r) ?_ ?_
      · rintro a w ⟨hF, hS, hm⟩
        unfold words_Fits_J3 at hm
        refine seqR ?_
        obtain ⟨r4, hr4, hm⟩ := call_b hm
        obtain ⟨r5, hr5, hm⟩ := call_b hm
        refine at_run 1 [] [] [4, 5, 44] [pl 4 (.pointer (some ⟨g1, 0, none⟩)), pl 5 (.pointer (some ⟨g2, 0, none⟩)), pl 44 (.slice A1 l1.length c1)] hF hS (by kernel_rfl) (by kernel_rfl) ?_ (fun a w hF hS => ?_)
        · exact obs_nil
        refine at_call (f := 62) (args := #[.slice A1 l1.length c1]) (d := 45) hF (by kernel_rfl) (by kernel_rfl) Tryd.func62 (by kernel_rfl) rfl (words_sorted_w hr4 hS (fun _ hS => (hr_l1 _ (hS.dropN 2))) _hc_l1 rfl) (fun v a w hR hF => ?_)
        clear hS
        obtain ⟨A4, c4, rfl, hS⟩ := hR
        have hS : Sep w0 B w (own 9 (.slice A4 r4.length c4) ((List.map strV r4)) :: blk g1 40 #[.slice A2 guesses1.length c2] :: blk g2 40 #[.slice A3 hints1.length c3] :: fs) := hS
        refine at_run 1 [] [] [45, 46] [pl 45 (.slice A4 r4.length c4), pl 46 (.func (.func 77) #[] #[.pointer (some ⟨g1, 0, none⟩), .pointer (some ⟨g2, 0, none⟩)])] hF hS (by kernel_rfl) (by kernel_rfl) ?_ (fun a w hF hS => ?_)
        · exact obs_nil
        refine at_call (f := 70) (args := #[.slice A4 r4.length c4, .func (.func 77) #[] #[.pointer (some ⟨g1, 0, none⟩), .pointer (some ⟨g2, 0, none⟩)]]) (d := 47) hF (by kernel_rfl) (by kernel_rfl) Tryd.func70 (by kernel_rfl) rfl (slices_DeleteFunc_2_w hr5 hS (fun _ hS => (hr_guesses1 _ (hS.dropN 0))) _hc_guesses1 rfl (fun _ hS => (hr_hints1 _ (hS.dropN 0))) _hc_hints1 rfl) (fun v a w hR hF => ?_)
        clear hS
        obtain ⟨rfl, hb1, hS⟩ := hR
        have hS : Sep w0 B w (own 9 (.slice A4 r4.length c4) ((List.map strV r5.2)) :: blk g1 40 #[.slice A2 guesses1.length c2] :: blk g2 40 #[.slice A3 hints1.length c3] :: fs) := hS
        refine at_run 2 [] [] [6, 7] [pl 6 (.slice (cutAddr A4 c4 (0 : Int)) ((cut r5.2 (0 : Int) r5.1).length) (c4 - Int.toNat (0 : Int))), pl 7 (.int .i64 0)] hF hS (by kernel_rfl) (by kernel_rfl) ?_ (fun a w hF hS => ?_)
        · exact obs_nil
        refine at_end [6, 7] [pl 6 (.slice (cutAddr A4 c4 (0 : Int)) ((cut r5.2 (0 : Int) r5.1).length) (c4 - Int.toNat (0 : Int))), pl 7 (.int .i64 0)] hF rfl (by kernel_rfl) (fun hF => ?_)
        refine then_n ?_
        refine wpIn_ret ?_
        have hS : Sep w0 B w (own 9 (.slice (cutAddr A4 c4 (0 : Int)) ((cut r5.2 (0 : Int) r5.1).length) (c4 - Int.toNat (0 : Int))) ((List.map strV (cut r5.2 (0 : Int) r5.1))) :: blk g1 40 #[.slice A2 guesses1.length c2] :: blk g2 40 #[.slice A3 hints1.length c3] :: fs) := (hS.at_ 0 rfl).prefixN rfl hb1
        have hS := hS.pickN 3 [0] (by decide)
        have hm : some ((cut r5.2 (0 : Int) r5.1), 0) = some r := hm
        obtain rfl := Option.some.inj hm
        exact retV (rs := [.tmp 6, .tmp 7]) (vs := [.slice (cutAddr A4 c4 (0 : Int)) ((cut r5.2 (0 : Int) r5.1).length) (c4 - Int.toNat (0 : Int)), .int .i64 0]) hF rfl (rv_t (by kernel_rfl) <| rv_t (by kernel_rfl) <| rv_nil) rfl ⟨_, rfl, (cutAddr A4 c4 (0 : Int)), (c4 - Int.toNat (0 : Int)), rfl, hS⟩
      · refine reg [⟨false, [], vS (Instr.loadAt 40 (.pointer (some ⟨g2, 0, none⟩))), .slice A3 hints1.length c3⟩] [some (.slice A3 hints1.length c3), none, none] [0, 4, 5, 23, 24, 25] [pl 0 (.slice A1 l1.length c1), pl 4 (.pointer (some ⟨g1, 0, none⟩)), pl 5 (.pointer (some ⟨g2, 0, none⟩)), pl 23 (.slice A3 hints1.length c3), pl 24 (.int .i64 (hints1.length : Int)), pl 25 (.int .i64 0)] hF hS Fol (by kernel_rfl) (by kernel_rfl) (by kernel_rfl) ?_ (fun a w hF hS => ?_)
        · exact obs_cons (ob_load Agg40 (fun _ _ hS => (hS.at_ 1 rfl).cell rfl)) <| obs_nil
        refine wpIn_block ?_
        refine wp_loop_model (S := Int) (R := (Fl Unit (List (List UInt8) × Int))) (words_Fits_L1 guesses1 hints1) (fun x => ((words_Fits_K1 l1 guesses1 hints1) x).bind some) r (fun (x : Int) a w => Fr 48 [pl 0 (.slice A1 l1.length c1), pl 4 (.pointer (some ⟨g1, 0, none⟩)), pl 5 (.pointer (some ⟨g2, 0, none⟩)), pl 23 (.slice A3 hints1.length c3), pl 24 (.int .i64 (hints1.length : Int)), pl 25 (.int .i64 x)] a ∧ Sep w0 B w (blk g1 40 #[.slice A2 guesses1.length c2] :: blk g2 40 #[.slice A3 hints1.length c3] :: fs)) (assoc_b hm) ⟨hF.weak [0, 4, 5, 23, 24, 25] (by kernel_rfl), hS⟩ ?_
        clear hF hS hm
        rintro nn1 z1 a w ⟨hF, hS⟩ hm
        generalize hφ1 : stK (words_Fits_L1 guesses1 hints1) nn1 (fun x => ((words_Fits_K1 l1 guesses1 hints1) x).bind some) = φ1 at hm
        unfold words_Fits_L1 at hm
        dsimp only at hm
        refine reg [] [] [0, 4, 5, 23, 24, 25, 26] [pl 0 (.slice A1 l1.length c1), pl 4 (.pointer (some ⟨g1, 0, none⟩)), pl 5 (.pointer (some ⟨g2, 0, none⟩)), pl 23 (.slice A3 hints1.length c3), pl 24 (.int .i64 (hints1.length : Int)), pl 25 (.int .i64 z1), pl 26 (.bool (decide (z1 < (hints1.length : Int))))] hF hS Fol (by kernel_rfl) (by kernel_rfl) (by kernel_rfl) ?_ (fun a w hF hS => ?_)
        · exact obs_nil
        refine seq_cut (fun a w => Fr 48 [pl 0 (.slice A1 l1.length c1), pl 4 (.pointer (some ⟨g1, 0, none⟩)), pl 5 (.pointer (some ⟨g2, 0, none⟩)), pl 23 (.slice A3 hints1.length c3), pl 24 (.int .i64 (hints1.length : Int)), pl 25 (.int .i64 z1)] a ∧ Sep w0 B w (blk g1 40 #[.slice A2 guesses1.length c2] :: blk g2 40 #[.slice A3 hints1.length c3] :: fs) ∧ ((words_Fits_J4 guesses1 hints1 z1)).bind φ1 = some r) ?_ ?_
        · rintro a w ⟨hF, hS, hm⟩
          unfold words_Fits_J4 at hm
          refine seq_cut (fun a w => Fr 48 [pl 0 (.slice A1 l1.length c1), pl 4 (.pointer (some ⟨g1, 0, none⟩)), pl 5 (.pointer (some ⟨g2, 0, none⟩)), pl 23 (.slice A3 hints1.length c3), pl 24 (.int .i64 (hints1.length : Int)), pl 25 (.int .i64 z1)] a ∧ Sep w0 B w (blk g1 40 #[.slice A2 guesses1.length c2] :: blk g2 40 #[.slice A3 hints1.length c3] :: fs) ∧ ((words_Fits_J5 z1)).bind φ1 = some r) ?_ ?_
          · rintro a w ⟨hF, hS, hm⟩
            unfold words_Fits_J5 at hm
            refine reg1 [] [] [0, 4, 5, 23, 24, 25] [pl 0 (.slice A1 l1.length c1), pl 4 (.pointer (some ⟨g1, 0, none⟩)), pl 5 (.pointer (some ⟨g2, 0, none⟩)), pl 23 (.slice A3 hints1.length c3), pl 24 (.int .i64 (hints1.length : Int)), pl 25 (.int .i64 (w64 (z1 + 1)))] hF hS Fol (by kernel_rfl) (by kernel_rfl) (by kernel_rfl) ?_ (fun a w hF hS => ?_)
            · exact obs_nil
            refine then_n ?_
            rw [← hφ1] at hm
            exact ⟨(w64 (z1 + 1)), ⟨hF.weak [0, 4, 5, 23, 24, 25] (by kernel_rfl), hS⟩, hm⟩
          · refine wpIn_block ?_
            obtain ⟨hp1, hm⟩ := asrt_b hm
            refine reg [⟨true, [], vS (Instr.indexAt 40 (.slice A3 hints1.length c3) (.int .i64 z1)), .pointer (some (sAddr A3 z1))⟩, ⟨false, [], vS (Instr.loadAt 9 (.pointer (some (sAddr A3 z1)))), strV (getd ([] : List UInt8) hints1 z1)⟩] [none, some (.pointer (some (sAddr A3 z1))), some (strV (getd ([] : List UInt8) hints1 z1)), none, none] [0, 4, 5, 9, 10, 23, 24, 25] [pl 0 (.slice A1 l1.length c1), pl 4 (.pointer (some ⟨g1, 0, none⟩)), pl 5 (.pointer (some ⟨g2, 0, none⟩)), pl 9 (.int .i64 z1), pl 10 (strV (getd ([] : List UInt8) hints1 z1)), pl 23 (.slice A3 hints1.length c3), pl 24 (.int .i64 (hints1.length : Int)), pl 25 (.int .i64 z1)] hF hS Fol (by kernel_rfl) (by kernel_rfl) (by kernel_rfl) ?_ (fun a w hF hS => ?_)
            · exact obs_cons (ob_ix1 (f := strV) (m := hints1) Und40 hi9 hs9 (hr_hints1 _ (hS.dropN 2)) rfl (fun _ => hp1)) <| obs_cons (ob_get1 (n := hints1.length) (m := hints1) strV ([] : List UInt8) Agg9 (fun _ hS => ⟨_, (hr_hints1 _ (hS.dropN 2))⟩) (fun _ hS => rfl) (fun _ => hp1)) <| obs_nil
            obtain ⟨r2, hr2, hm⟩ := call_b hm
            obtain ⟨hp2, hm⟩ := asrt_b hm
            obtain ⟨r3, hr3, hm⟩ := call_b hm
            refine reg [⟨false, [], callFunc 76 #[strV (getd ([] : List UInt8) hints1 z1), strV ([103, 121, 46] : List UInt8)], strV r2⟩, ⟨true, [], vS (do eqGuard .neq 9 (.tmp 31) (.const (strV ([] : List UInt8))) (strV r2) (strV ([] : List UInt8)); binOp .neq 9 (strV r2) (strV ([] : List UInt8))), .bool (!(r2 == ([] : List UInt8)))⟩, ⟨true, [(!(r2 == ([] : List UInt8)), false)], vS (Builtin.len_ #[9] 3 #[strV (getd ([] : List UInt8) hints1 z1)]), .int .i64 ((getd ([] : List UInt8) hints1 z1).length : Int)⟩, ⟨false, [(!(r2 == ([] : List UInt8)), false)], vS (Instr.loadAt 40 (.pointer (some ⟨g1, 0, none⟩))), .slice A2 guesses1.length c2⟩, ⟨true, [(!(r2 == ([] : List UInt8)), false)], vS (Instr.indexAt 40 (.slice A2 guesses1.length c2) (.int .i64 z1)), .pointer (some (sAddr A2 z1))⟩, ⟨false, [(!(r2 == ([] : List UInt8)), false)], vS (Instr.loadAt 9 (.pointer (some (sAddr A2 z1)))), strV (getd ([] : List UInt8) guesses1 z1)⟩, ⟨false, [(!(r2 == ([] : List UInt8)), false)], callFunc 65 #[strV (getd ([] : List UInt8) guesses1 z1)], .int .i64 r3⟩] [none, some (strV r2), some (.bool (!(r2 == ([] : List UInt8)))), none, none, some (.int .i64 ((getd ([] : List UInt8) hints1 z1).length : Int)), some (.slice A2 guesses1.length c2), none, some (.pointer (some (sAddr A2 z1))), some (strV (getd ([] : List UInt8) guesses1 z1)), some (.int .i64 r3), none, none] [0, 4, 5, 23, 24, 25, 42] [pl 0 (.slice A1 l1.length c1), pl 4 (.pointer (some ⟨g1, 0, none⟩)), pl 5 (.pointer (some ⟨g2, 0, none⟩)), pl 23 (.slice A3 hints1.length c3), pl 24 (.int .i64 (hints1.length : Int)), pl 25 (.int .i64 z1), pl 42 (.bool ((!(r2 == ([] : List UInt8))) || (((getd ([] : List UInt8) hints1 z1).length : Int) != r3)))] hF hS Fol (by kernel_rfl) (by kernel_rfl) (by kernel_rfl) ?_ (fun a w hF hS => ?_)
            · exact obs_cons (ob_call Tryd.func76 (by kernel_rfl) rfl (fun _ _ hS => strings_Trim_w hr2 hS )) <| obs_cons (ob_sneq _ _) <| obs_cons (ob_slen (s := getd ([] : List UInt8) hints1 z1) (by kernel_rfl) 3) <| obs_cons (ob_load Agg40 (fun _ _ hS => (hS.at_ 0 rfl).cell rfl)) <| obs_cons (ob_ix1 (f := strV) (m := guesses1) Und40 hi9 hs9 (hr_guesses1 _ (hS.dropN 2)) rfl (fun hy => hp2 (hy (!(r2 == ([] : List UInt8)), false) (by simp)))) <| obs_cons (ob_get1 (n := guesses1.length) (m := guesses1) strV ([] : List UInt8) Agg9 (fun _ hS => ⟨_, (hr_guesses1 _ (hS.dropN 2))⟩) (fun _ hS => rfl) (fun hy => hp2 (hy (!(r2 == ([] : List UInt8)), false) (by simp)))) <| obs_cons (ob_call Tryd.func65 (by kernel_rfl) rfl (fun hy _ hS => utf8_RuneCountInString_w (ite_some hr3 (by rw [show (!(r2 == ([] : List UInt8))) = false from hy (!(r2 == ([] : List UInt8)), false) (by simp)]; try rfl)) hS )) <| obs_nil
            refine cond_ev (t := 42) (b := (!(r2 == ([] : List UInt8))) || (((getd ([] : List UInt8) hints1 z1).length : Int) != r3)) hF (by kernel_rfl) (fun hb => ?_) (fun hb => ?_)
            · replace hm := if_t hm hb
              refine reg [] [] [6, 7] [pl 6 (.slice none 0 0), pl 7 (.int .i64 1)] hF hS Fol (by kernel_rfl) (by kernel_rfl) (by kernel_rfl) ?_ (fun a w hF hS => ?_)
              · exact obs_nil
              refine wpIn_ret ?_
              refine block_r (then_r (then_r (block_r (then_r ?_))))
              rw [← hφ1] at hm
              replace hm := done_b hm
              unfold words_Fits_K1 at hm
              try dsimp only at hm
              have hS : Sep w0 B w (own 9 (.slice none 0 0) ((List.map strV ([] : List (List UInt8)))) :: blk g1 40 #[.slice A2 guesses1.length c2] :: blk g2 40 #[.slice A3 hints1.length c3] :: fs) := hS.nil 9
              have hl3 := (hS.at_ 0 rfl).len1
              have hS := (hS.at_ 0 rfl).reN hl3
              have hS : Sep w0 B w (own 9 (.slice none (([] : List (List UInt8)).length) 0) ((List.map strV ([] : List (List UInt8)))) :: blk g1 40 #[.slice A2 guesses1.length c2] :: blk g2 40 #[.slice A3 hints1.length c3] :: fs) := hS
              have hS := hS.pickN 3 [0] (by decide)
              have hm : some (([] : List (List UInt8)), 1) = some r := hm
              obtain rfl := Option.some.inj hm
              exact retV (rs := [.tmp 6, .tmp 7]) (vs := [.slice none (([] : List (List UInt8)).length) 0, .int .i64 1]) hF rfl (rv_t (by kernel_rfl) <| rv_t (by kernel_rfl) <| rv_nil) rfl ⟨_, rfl, none, 0, rfl, hS⟩
            · replace hm := if_f hm hb
              refine wpIn_skip ?_
              refine block_n ?_
              refine then_n ?_
              exact ⟨hF.weak [0, 4, 5, 23, 24, 25] (by kernel_rfl), hS, hm⟩
        · refine cond_ev (t := 26) (b := decide (z1 < (hints1.length : Int))) hF (by kernel_rfl) (fun hb => ?_) (fun hb => ?_)
          · replace hm := if_t hm hb
            refine wpIn_skip ?_
            refine then_n ?_
            exact ⟨hF.weak [0, 4, 5, 23, 24, 25] (by kernel_rfl), hS, hm⟩
          · replace hm := if_f hm hb
            refine wpIn_exit ?_
            refine then_e (then_e (block_e (then_n ?_)))
            rw [← hφ1] at hm
            replace hm := done_b hm
            unfold words_Fits_K1 at hm
            try dsimp only at hm
            have hm : ((words_Fits_J3 l1 guesses1 hints1)).bind some = some r := hm
            exact ⟨hF.weak [0, 4, 5] (by kernel_rfl), hS, hm⟩
    · refine reg [⟨false, [], vS (Instr.loadAt 40 (.pointer (some ⟨g1, 0, none⟩))), .slice A2 guesses1.length c2⟩, ⟨false, [], vS (Instr.loadAt 40 (.pointer (some ⟨g2, 0, none⟩))), .slice A3 hints1.length c3⟩] [some (.slice A2 guesses1.length c2), none, some (.slice A3 hints1.length c3), none, none] [0, 4, 5, 22] [pl 0 (.slice A1 l1.length c1), pl 4 (.pointer (some ⟨g1, 0, none⟩)), pl 5 (.pointer (some ⟨g2, 0, none⟩)), pl 22 (.bool ((guesses1.length : Int) != (hints1.length : Int)))] hF hS Fol (by kernel_rfl) (by kernel_rfl) (by kernel_rfl) ?_ (fun a w hF hS => ?_)
      · exact obs_cons (ob_load Agg40 (fun _ _ hS => (hS.at_ 0 rfl).cell rfl)) <| obs_cons (ob_load Agg40 (fun _ _ hS => (hS.at_ 1 rfl).cell rfl)) <| obs_nil
      refine cond_ev (t := 22) (b := ((guesses1.length : Int) != (hints1.length : Int))) hF (by kernel_rfl) (fun hb => ?_) (fun hb => ?_)
      · replace hm := if_t hm hb
        refine reg [] [] [6, 7] [pl 6 (.slice none 0 0), pl 7 (.int .i64 11)] hF hS Fol (by kernel_rfl) (by kernel_rfl) (by kernel_rfl) ?_ (fun a w hF hS => ?_)
        · exact obs_nil
        refine wpIn_ret ?_
        refine then_r ?_
        have hS : Sep w0 B w (own 9 (.slice none 0 0) ((List.map strV ([] : List (List UInt8)))) :: blk g1 40 #[.slice A2 guesses1.length c2] :: blk g2 40 #[.slice A3 hints1.length c3] :: fs) := hS.nil 9
        have hl2 := (hS.at_ 0 rfl).len1
        have hS := (hS.at_ 0 rfl).reN hl2
        have hS : Sep w0 B w (own 9 (.slice none (([] : List (List UInt8)).length) 0) ((List.map strV ([] : List (List UInt8)))) :: blk g1 40 #[.slice A2 guesses1.length c2] :: blk g2 40 #[.slice A3 hints1.length c3] :: fs) := hS
        have hS := hS.pickN 3 [0] (by decide)
        have hm : some (([] : List (List UInt8)), 11) = some r := hm
        obtain rfl := Option.some.inj hm
        exact retV (rs := [.tmp 6, .tmp 7]) (vs := [.slice none (([] : List (List UInt8)).length) 0, .int .i64 11]) hF rfl (rv_t (by kernel_rfl) <| rv_t (by kernel_rfl) <| rv_nil) rfl ⟨_, rfl, none, 0, rfl, hS⟩
      · replace hm := if_f hm hb
        refine wpIn_skip ?_
        refine then_n ?_
        exact ⟨hF.weak [0, 4, 5] (by kernel_rfl), hS, hm⟩
  · refine seqR ?_
    obtain ⟨r1, hr1, hm⟩ := call_b hm
    refine at_run 2 [⟨false, [], vS (Instr.loadAt 40 (.pointer (some ⟨g1, 0, none⟩))), .slice A2 guesses1.length c2⟩] [none, some (.slice A2 guesses1.length c2)] [0, 4, 5, 11, 12] [pl 0 (.slice A1 l1.length c1), pl 4 (.pointer (some ⟨g1, 0, none⟩)), pl 5 (.pointer (some ⟨g2, 0, none⟩)), pl 11 (.slice A1 l1.length c1), pl 12 (.slice A2 guesses1.length c2)] hF hS (by kernel_rfl) (by kernel_rfl) ?_ (fun a w hF hS => ?_)
    · exact obs_cons (ob_load Agg40 (fun _ _ hS => (hS.at_ 1 rfl).cell rfl)) <| obs_nil
    refine at_do (d := 13) (s := vS (Instr.buildSlice 107 2 #[(0, .slice A1 l1.length c1), (1, .slice A2 guesses1.length c2)])) (v := .slice (some ⟨w.heap.size, 0, none⟩) 2 2) (w' := w.alloc (.cells #[.slice A1 l1.length c1, .slice A2 guesses1.length c2] 40)) hF (by kernel_rfl) (by kernel_rfl) (by kernel_rfl) (fun a hF => ?_)
    have hS : Sep w0 B (w.alloc (.cells #[.slice A1 l1.length c1, .slice A2 guesses1.length c2] 40)) (own 40 (.slice (some (⟨w.heap.size, 0, none⟩ : Addr)) 2 2) (List.map (fun v => v) ([.slice A1 l1.length c1, .slice A2 guesses1.length c2] : List Value)) :: (blk g2 40 #[.slice A3 hints1.length c3] :: blk g1 40 #[.slice A2 guesses1.length c2] :: fs)) := hS.lit 40 #[.slice A1 l1.length c1, .slice A2 guesses1.length c2] 2 rfl (by omega)
    generalize (some (⟨w.heap.size, 0, none⟩ : Addr)) = g3 at hF hS
    generalize w.alloc (.cells #[.slice A1 l1.length c1, .slice A2 guesses1.length c2] 40) = w at hS ⊢
    refine at_run 2 [⟨false, [], callFunc 61 #[.slice g3 2 2], .int .i64 r1⟩] [some (.int .i64 r1), none] [0, 4, 5, 8] [pl 0 (.slice A1 l1.length c1), pl 4 (.pointer (some ⟨g1, 0, none⟩)), pl 5 (.pointer (some ⟨g2, 0, none⟩)), pl 8 (.int .i64 r1)] hF hS (by kernel_rfl) (by kernel_rfl) ?_ (fun a w hF hS => ?_)
    · exact obs_cons (ob_call Tryd.func61 (by kernel_rfl) rfl (fun _ _ hS => words_check_w hr1 hS (fun _ hS => (hr_l1 _ (hS.dropN 2))) _hc_l1 rfl (fun _ hS => (hr_guesses1 _ (hS.dropN 2))) _hc_guesses1 rfl)) <| obs_nil
    refine at_end [0, 4, 5, 8] [pl 0 (.slice A1 l1.length c1), pl 4 (.pointer (some ⟨g1, 0, none⟩)), pl 5 (.pointer (some ⟨g2, 0, none⟩)), pl 8 (.int .i64 r1)] hF rfl (by kernel_rfl) (fun hF => ?_)
    refine then_n ?_
    refine reg [] [] [0, 4, 5, 8, 16] [pl 0 (.slice A1 l1.length c1), pl 4 (.pointer (some ⟨g1, 0, none⟩)), pl 5 (.pointer (some ⟨g2, 0, none⟩)), pl 8 (.int .i64 r1), pl 16 (.bool (r1 != 0))] hF hS Fol (by kernel_rfl) (by kernel_rfl) (by kernel_rfl) ?_ (fun a w hF hS => ?_)
    · exact obs_nil
    refine cond_ev (t := 16) (b := (r1 != 0)) hF (by kernel_rfl) (fun hb => ?_) (fun hb => ?_)
    · replace hm := if_t hm hb
      refine reg [] [] [6, 7] [pl 6 (.slice none 0 0), pl 7 (.int .i64 r1)] hF hS Fol (by kernel_rfl) (by kernel_rfl) (by kernel_rfl) ?_ (fun a w hF hS => ?_)
      · exact obs_nil
      refine wpIn_ret ?_
      refine then_r ?_
      have hS : Sep w0 B w (own 9 (.slice none 0 0) ((List.map strV ([] : List (List UInt8)))) :: own 40 (.slice g3 2 2) (List.map (fun v => v) ([.slice A1 l1.length c1, .slice A2 guesses1.length c2] : List Value)) :: blk g2 40 #[.slice A3 hints1.length c3] :: blk g1 40 #[.slice A2 guesses1.length c2] :: fs) := hS.nil 9
      have hl1 := (hS.at_ 0 rfl).len1
      have hS := (hS.at_ 0 rfl).reN hl1
      have hS : Sep w0 B w (own 9 (.slice none (([] : List (List UInt8)).length) 0) ((List.map strV ([] : List (List UInt8)))) :: own 40 (.slice g3 2 2) (List.map (fun v => v) ([.slice A1 l1.length c1, .slice A2 guesses1.length c2] : List Value)) :: blk g2 40 #[.slice A3 hints1.length c3] :: blk g1 40 #[.slice A2 guesses1.length c2] :: fs) := hS
      have hS := hS.pickN 4 [0] (by decide)
      have hm : some (([] : List (List UInt8)), r1) = some r := hm
      obtain rfl := Option.some.inj hm
      exact retV (rs := [.tmp 6, .tmp 7]) (vs := [.slice none (([] : List (List UInt8)).length) 0, .int .i64 r1]) hF rfl (rv_t (by kernel_rfl) <| rv_t (by kernel_rfl) <| rv_nil) rfl ⟨_, rfl, none, 0, rfl, hS⟩
    · replace hm := if_f hm hb
      refine wpIn_skip ?_
      refine then_n ?_
      have hS := hS.pickN 3 [2, 1] (by decide)
      exact ⟨hF.weak [0, 4, 5] (by kernel_rfl), hS, hm⟩

noncomputable def gameroomref_within_m  (n1 : Int) (low1 : Int) (high1 : Int) : Option Bool :=
  some ((decide (low1 ≤ n1)) && (decide (n1 ≤ high1)))

set_option maxRecDepth 100000 in
set_option maxHeartbeats 4000000 in
theorem gameroomref_within_w  {n1 : Int} {low1 : Int} {high1 : Int} {r : Bool} {w0 w : World} {B : Nat} {fs : List HP} (hm : gameroomref_within_m n1 low1 high1 = some r) (hS : Sep w0 B w (fs)) :
    Calls Tryd.prog 53 #[.int .i64 n1, .int .i64 low1, .int .i64 high1] w fun e w' => e = .returned (.bool r) ∧ Sep w0 B w' (fs) := by
  unfold gameroomref_within_m at hm
  replace hm := start_b hm
  refine enter (l := [.int .i64 n1, .int .i64 low1, .int .i64 high1]) (n := 15) Tryd.func53 rfl rfl (by simp) (fun a hF => ?_)
  refine reg [] [] [0, 1, 2] [pl 0 (.int .i64 n1), pl 1 (.int .i64 low1), pl 2 (.int .i64 high1)] hF hS Fol (by kernel_rfl) (by kernel_rfl) (by kernel_rfl) ?_ (fun a w hF hS => ?_)
  · exact obs_nil
  refine reg [] [] [6] [pl 6 (.bool ((decide (low1 ≤ n1)) && (decide (n1 ≤ high1))))] hF hS Fol (by kernel_rfl) (by kernel_rfl) (by kernel_rfl) ?_ (fun a w hF hS => ?_)
  · exact obs_nil
  refine wpIn_ret ?_
  have hm : some ((decide (low1 ≤ n1)) && (decide (n1 ≤ high1))) = some r := hm
  obtain rfl := Option.some.inj hm
  exact retV (rs := [.tmp 6]) (vs := [.bool ((decide (low1 ≤ n1)) && (decide (n1 ≤ high1)))]) hF rfl (rv_t (by kernel_rfl) <| rv_nil) rfl ⟨rfl, hS⟩

noncomputable def gameroomref_lettersOf_J4  : Option (St (List (List UInt8) × Int) (Fl (List (List UInt8)) (List (List UInt8) × Bool))) :=
  some (.done (.ret (([] : List (List UInt8)), false)))

noncomputable def gameroomref_lettersOf_J3  (s1 : List UInt8) (l1 : List (List UInt8)) (i1 : Int) : Option (St (List (List UInt8) × Int) (Fl (List (List UInt8)) (List (List UInt8) × Bool))) :=
  asrt ((decide ((w64 (i1 + 1)) < (s1.length : Int))) = true → 0 ≤ i1 ∧ i1 < (s1.length : Int)) <| asrt (((decide ((w64 (i1 + 1)) < (s1.length : Int))) && ((getU s1 i1) == 195)) = true → 0 ≤ (w64 (i1 + 1)) ∧ (w64 (i1 + 1)) < (s1.length : Int)) <| ((if ((decide ((w64 (i1 + 1)) < (s1.length : Int))) && ((getU s1 i1) == 195)) then gameroomref_within_m (w64 (getU s1 (w64 (i1 + 1)))) 159 191 else some false)).bind fun r2 => asrt ((((decide ((w64 (i1 + 1)) < (s1.length : Int))) && ((getU s1 i1) == 195)) && r2) = true → 0 ≤ (w64 (i1 + 1)) ∧ (w64 (i1 + 1)) < (s1.length : Int)) <| if ((((decide ((w64 (i1 + 1)) < (s1.length : Int))) && ((getU s1 i1) == 195)) && r2) && ((getU s1 (w64 (i1 + 1))) != 183)) then (asrt (0 ≤ i1 ∧ i1 ≤ (w64 (i1 + 2)) ∧ (w64 (i1 + 2)) ≤ (s1.length : Int)) <| asrt ((l1.length : Int) + 1 ≤ bigP) <| some (.next ((l1 ++ ([(cut s1 i1 (w64 (i1 + 2)))] : List (List UInt8))), (w64 (i1 + 2))))) else (gameroomref_lettersOf_J4)

noncomputable def gameroomref_lettersOf_J2  (s1 : List UInt8) (any1 : Bool) (l1 : List (List UInt8)) (i1 : Int) : Option (St (List (List UInt8) × Int) (Fl (List (List UInt8)) (List (List UInt8) × Bool))) :=
  asrt (0 ≤ i1 ∧ i1 < (s1.length : Int)) <| (gameroomref_within_m (w64 (getU s1 i1)) 97 122).bind fun r1 => asrt (any1 = true → r1 = false → 0 ≤ i1 ∧ i1 < (s1.length : Int)) <| if (r1 || (any1 && ((getU s1 i1) == 63))) then (asrt (0 ≤ i1 ∧ i1 ≤ (w64 (i1 + 1)) ∧ (w64 (i1 + 1)) ≤ (s1.length : Int)) <| asrt ((l1.length : Int) + 1 ≤ bigP) <| some (.next ((l1 ++ ([(cut s1 i1 (w64 (i1 + 1)))] : List (List UInt8))), (w64 (i1 + 1))))) else ((gameroomref_lettersOf_J3 s1 l1 i1))

noncomputable def gameroomref_lettersOf_J1  (l2 : List (List UInt8)) : Option (List (List UInt8) × Bool) :=
  some (l2, true)

noncomputable def gameroomref_lettersOf_K1  : (Fl (List (List UInt8)) (List (List UInt8) × Bool)) → Option (List (List UInt8) × Bool) :=
  fun (x : (Fl (List (List UInt8)) (List (List UInt8) × Bool))) => match x with | .go l2 => gameroomref_lettersOf_J1 l2 | .ret x => some x

noncomputable def gameroomref_lettersOf_L1  (s1 : List UInt8) (any1 : Bool) : (List (List UInt8) × Int) → Option (St (List (List UInt8) × Int) (Fl (List (List UInt8)) (List (List UInt8) × Bool))) :=
  fun (x : (List (List UInt8) × Int)) => match x with | (l1, i1) => if (decide (i1 < (s1.length : Int))) then ((gameroomref_lettersOf_J2 s1 any1 l1 i1)) else (some (.done (.go l1)))

noncomputable def gameroomref_lettersOf_m  (s1 : List UInt8) (any1 : Bool) : Option (List (List UInt8) × Bool) :=
  (loop (gameroomref_lettersOf_L1 s1 any1) (([] : List (List UInt8)), 0)).bind gameroomref_lettersOf_K1

set_option maxRecDepth 100000 in
set_option maxHeartbeats 4000000 in
theorem gameroomref_lettersOf_w  {s1 : List UInt8} {any1 : Bool} {r : (List (List UInt8) × Bool)} {w0 w : World} {B : Nat} {fs : List HP} (hm : gameroomref_lettersOf_m s1 any1 = some r) (hS : Sep w0 B w (fs)) :
    Calls Tryd.prog 52 #[strV s1, .bool any1] w fun e w' => ∃ v, e = .returned v ∧ ∃ (A5 : Option Addr) (c5 : Nat), v = .tuple #[.slice A5 r.1.length c5, .bool r.2] ∧ Sep w0 B w' (own 9 (.slice A5 r.1.length c5) ((List.map strV r.1)) :: fs) := by
  obtain ⟨i9, hi9, hz9, hs9, hb9⟩ := info_parts Info9
  unfold gameroomref_lettersOf_m at hm
  replace hm := start_b hm
  refine enter (l := [strV s1, .bool any1]) (n := 73) Tryd.func52 rfl rfl (by simp) (fun a hF => ?_)
  refine reg [] [] [0, 1] [pl 0 (strV s1), pl 1 (.bool any1)] hF hS Fol (by kernel_rfl) (by kernel_rfl) (by kernel_rfl) ?_ (fun a w hF hS => ?_)
  · exact obs_nil
  refine reg [] [] [0, 1, 6] [pl 0 (strV s1), pl 1 (.bool any1), pl 6 (.slice none 0 0)] hF hS Fol (by kernel_rfl) (by kernel_rfl) (by kernel_rfl) ?_ (fun a w hF hS => ?_)
  · exact obs_nil
  refine seq_cut (fun a w => ∃ (l2 : List (List UInt8)) (A2 : Option Addr) (c2 : Nat), Fr 73 [pl 6 (.slice A2 l2.length c2)] a ∧ Sep w0 B w (own 9 (.slice A2 l2.length c2) ((List.map strV l2)) :: fs) ∧ (gameroomref_lettersOf_J1 l2).bind some = some r) ?_ ?_
  · rintro a w ⟨l2, A2, c2, hF, hS, hm⟩
    unfold gameroomref_lettersOf_J1 at hm
    refine reg [] [] [4, 5] [pl 4 (.slice A2 l2.length c2), pl 5 (.bool true)] hF hS Fol (by kernel_rfl) (by kernel_rfl) (by kernel_rfl) ?_ (fun a w hF hS => ?_)
    · exact obs_nil
    refine wpIn_ret ?_
    have hm : some (l2, true) = some r := hm
    obtain rfl := Option.some.inj hm
    exact retV (rs := [.tmp 4, .tmp 5]) (vs := [.slice A2 l2.length c2, .bool true]) hF rfl (rv_t (by kernel_rfl) <| rv_t (by kernel_rfl) <| rv_nil) rfl ⟨_, rfl, A2, c2, rfl, hS⟩
  · refine reg [] [] [0, 1, 6, 7] [pl 0 (strV s1), pl 1 (.bool any1), pl 6 (.slice none 0 0), pl 7 (.int .i64 0)] hF hS Fol (by kernel_rfl) (by kernel_rfl) (by kernel_rfl) ?_ (fun a w hF hS => ?_)
    · exact obs_nil
    refine wpIn_block ?_
    have hS : Sep w0 B w (own 9 (.slice none 0 0) ((List.map strV ([] : List (List UInt8)))) :: fs) := hS.nil 9
    have hl1 := (hS.at_ 0 rfl).len1
    have hS := (hS.at_ 0 rfl).reN hl1
    have hS : Sep w0 B w (own 9 (.slice none (([] : List (List UInt8)).length) 0) ((List.map strV ([] : List (List UInt8)))) :: fs) := hS
    have hF := hF.cast (t := 6) (v := .slice none 0 0) (v' := .slice none (([] : List (List UInt8)).length) 0) rfl rfl (congrArg (fun k => Value.slice none k 0) hl1)
    refine wp_loop_model (S := (List (List UInt8) × Int)) (R := (Fl (List (List UInt8)) (List (List UInt8) × Bool))) (gameroomref_lettersOf_L1 s1 any1) (fun x => (gameroomref_lettersOf_K1 x).bind some) r (fun (x : (List (List UInt8) × Int)) a w => ∃ (A1 : Option Addr) (c1 : Nat), Fr 73 [pl 0 (strV s1), pl 1 (.bool any1), pl 6 (.slice A1 x.1.length c1), pl 7 (.int .i64 x.2)] a ∧ Sep w0 B w (own 9 (.slice A1 x.1.length c1) ((List.map strV x.1)) :: fs)) (assoc_b hm) ⟨none, 0, hF.weak [0, 1, 6, 7] (by kernel_rfl), hS⟩ ?_
    clear hF hS hm
    rintro nn1 ⟨l1, i1⟩ a w ⟨A1, c1, hF, hS⟩ hm
    generalize hφ1 : stK (gameroomref_lettersOf_L1 s1 any1) nn1 (fun x => (gameroomref_lettersOf_K1 x).bind some) = φ1 at hm
    unfold gameroomref_lettersOf_L1 at hm
    dsimp only at hF hS hm
    refine seq_cut (fun a w => Fr 73 [pl 0 (strV s1), pl 1 (.bool any1), pl 6 (.slice A1 l1.length c1), pl 7 (.int .i64 i1)] a ∧ Sep w0 B w (own 9 (.slice A1 l1.length c1) ((List.map strV l1)) :: fs) ∧ ((gameroomref_lettersOf_J2 s1 any1 l1 i1)).bind φ1 = some r) ?_ ?_
    · rintro a w ⟨hF, hS, hm⟩
      unfold gameroomref_lettersOf_J2 at hm
      refine wpIn_block ?_
      refine seq_cut (fun a w => Fr 73 [pl 0 (strV s1), pl 1 (.bool any1), pl 6 (.slice A1 l1.length c1), pl 7 (.int .i64 i1)] a ∧ Sep w0 B w (own 9 (.slice A1 l1.length c1) ((List.map strV l1)) :: fs) ∧ ((gameroomref_lettersOf_J3 s1 l1 i1)).bind φ1 = some r) ?_ ?_
      · rintro a w ⟨hF, hS, hm⟩
        unfold gameroomref_lettersOf_J3 at hm
        refine seq_cut (fun a w => Fr 73 [] a ∧ Sep w0 B w (fs) ∧ (gameroomref_lettersOf_J4).bind φ1 = some r) ?_ ?_
        · rintro a w ⟨hF, hS, hm⟩
          unfold gameroomref_lettersOf_J4 at hm
          refine reg [] [] [4, 5] [pl 4 (.slice none 0 0), pl 5 (.bool false)] hF hS Fol (by kernel_rfl) (by kernel_rfl) (by kernel_rfl) ?_ (fun a w hF hS => ?_)
          · exact obs_nil
          refine wpIn_ret ?_
          refine block_r (then_r (block_r (then_r ?_)))
          rw [← hφ1] at hm
          replace hm := done_b hm
          unfold gameroomref_lettersOf_K1 at hm
          try dsimp only at hm
          have hS : Sep w0 B w (own 9 (.slice none 0 0) ((List.map strV ([] : List (List UInt8)))) :: fs) := hS.nil 9
          have hl2 := (hS.at_ 0 rfl).len1
          have hS := (hS.at_ 0 rfl).reN hl2
          have hS : Sep w0 B w (own 9 (.slice none (([] : List (List UInt8)).length) 0) ((List.map strV ([] : List (List UInt8)))) :: fs) := hS
          have hm : some (([] : List (List UInt8)), false) = some r := hm
          obtain rfl := Option.some.inj hm
          exact retV (rs := [.tmp 4, .tmp 5]) (vs := [.slice none (([] : List (List UInt8)).length) 0, .bool false]) hF rfl (rv_t (by kernel_rfl) <| rv_t (by kernel_rfl) <| rv_nil) rfl ⟨_, rfl, none, 0, rfl, hS⟩
        · obtain ⟨hp5, hm⟩ := asrt_b hm
          obtain ⟨hp6, hm⟩ := asrt_b hm
          obtain ⟨r2, hr2, hm⟩ := call_b hm
          obtain ⟨hp7, hm⟩ := asrt_b hm
          refine reg [⟨true, [], vS (Builtin.len_ #[9] 3 #[strV s1]), .int .i64 (s1.length : Int)⟩, ⟨true, [(decide ((w64 (i1 + 1)) < (s1.length : Int)), true)], vS (Instr.index 9 (strV s1) (.int .i64 i1)), .int .u8 (getU s1 i1)⟩, ⟨true, [((decide ((w64 (i1 + 1)) < (s1.length : Int))) && ((getU s1 i1) == 195), true)], vS (Instr.index 9 (strV s1) (.int .i64 (w64 (i1 + 1)))), .int .u8 (getU s1 (w64 (i1 + 1)))⟩, ⟨false, [((decide ((w64 (i1 + 1)) < (s1.length : Int))) && ((getU s1 i1) == 195), true)], callFunc 53 #[.int .i64 (w64 (getU s1 (w64 (i1 + 1)))), .int .i64 159, .int .i64 191], .bool r2⟩, ⟨true, [(((decide ((w64 (i1 + 1)) < (s1.length : Int))) && ((getU s1 i1) == 195)) && r2, true)], vS (Instr.index 9 (strV s1) (.int .i64 (w64 (i1 + 1)))), .int .u8 (getU s1 (w64 (i1 + 1)))⟩] [none, none, none, some (.int .i64 (s1.length : Int)), none, none, none, none, some (.int .u8 (getU s1 i1)), none, none, none, none, none, none, some (.int .u8 (getU s1 (w64 (i1 + 1)))), none, some (.bool r2), none, none, none, none, none, some (.int .u8 (getU s1 (w64 (i1 + 1)))), none, none] [0, 1, 6, 7, 61] [pl 0 (strV s1), pl 1 (.bool any1), pl 6 (.slice A1 l1.length c1), pl 7 (.int .i64 i1), pl 61 (.bool ((((decide ((w64 (i1 + 1)) < (s1.length : Int))) && ((getU s1 i1) == 195)) && r2) && ((getU s1 (w64 (i1 + 1))) != 183)))] hF hS Fol (by kernel_rfl) (by kernel_rfl) (by kernel_rfl) ?_ (fun a w hF hS => ?_)
          · exact obs_cons (ob_slen (s := s1) (by kernel_rfl) 3) <| obs_cons (ob_sidx (s := s1) (by kernel_rfl) (fun hy => hp5 (hy (decide ((w64 (i1 + 1)) < (s1.length : Int)), true) (by simp)))) <| obs_cons (ob_sidx (s := s1) (by kernel_rfl) (fun hy => hp6 (hy ((decide ((w64 (i1 + 1)) < (s1.length : Int))) && ((getU s1 i1) == 195), true) (by simp)))) <| obs_cons (ob_call Tryd.func53 (by kernel_rfl) rfl (fun hy _ hS => gameroomref_within_w (ite_some hr2 (by rw [show ((decide ((w64 (i1 + 1)) < (s1.length : Int))) && ((getU s1 i1) == 195)) = true from hy ((decide ((w64 (i1 + 1)) < (s1.length : Int))) && ((getU s1 i1) == 195), true) (by simp)]; try rfl)) hS )) <| obs_cons (ob_sidx (s := s1) (by kernel_rfl) (fun hy => hp7 (hy (((decide ((w64 (i1 + 1)) < (s1.length : Int))) && ((getU s1 i1) == 195)) && r2, true) (by simp)))) <| obs_nil
          refine cond_ev (t := 61) (b := (((decide ((w64 (i1 + 1)) < (s1.length : Int))) && ((getU s1 i1) == 195)) && r2) && ((getU s1 (w64 (i1 + 1))) != 183)) hF (by kernel_rfl) (fun hb => ?_) (fun hb => ?_)
          · replace hm := if_t hm hb
            refine seqR ?_
            obtain ⟨hp8, hm⟩ := asrt_b hm
            obtain ⟨hp9, hm⟩ := asrt_b hm
            refine at_run 6 [⟨true, [], vS (Instr.sliceAt 9 (strV s1) (some (.int .i64 i1)) (some (.int .i64 (w64 (i1 + 2)))) none), strV (cut s1 i1 (w64 (i1 + 2)))⟩] [none, none, none, none, none, some (strV (cut s1 i1 (w64 (i1 + 2))))] [0, 1, 7, 62, 67] [pl 0 (strV s1), pl 1 (.bool any1), pl 7 (.int .i64 i1), pl 62 (.slice A1 l1.length c1), pl 67 (strV (cut s1 i1 (w64 (i1 + 2))))] hF hS (by kernel_rfl) (by kernel_rfl) ?_ (fun a w hF hS => ?_)
            · exact obs_cons (ob_scut (s := s1) (k := .i64) (k' := .i64) (by kernel_rfl) (.inl rfl) (.inl rfl) (fun _ => hp8)) <| obs_nil
            refine at_do (d := 68) (s := vS (Instr.buildSlice 40 1 #[(0, strV (cut s1 i1 (w64 (i1 + 2))))])) (v := .slice (some ⟨w.heap.size, 0, none⟩) 1 1) (w' := w.alloc (.cells #[strV (cut s1 i1 (w64 (i1 + 2)))] 9)) hF (by kernel_rfl) (by kernel_rfl) (by kernel_rfl) (fun a hF => ?_)
            have hS : Sep w0 B (w.alloc (.cells #[strV (cut s1 i1 (w64 (i1 + 2)))] 9)) (own 9 (.slice (some (⟨w.heap.size, 0, none⟩ : Addr)) 1 1) ((List.map strV ([(cut s1 i1 (w64 (i1 + 2)))] : List (List UInt8)))) :: (own 9 (.slice A1 l1.length c1) ((List.map strV l1)) :: fs)) := hS.lit 9 #[strV (cut s1 i1 (w64 (i1 + 2)))] 1 rfl (by omega)
            generalize (some (⟨w.heap.size, 0, none⟩ : Addr)) = g2 at hF hS
            generalize w.alloc (.cells #[strV (cut s1 i1 (w64 (i1 + 2)))] 9) = w at hS ⊢
            obtain ⟨A4, c4, w, hrun, hS⟩ := run_appG (P := Tryd.prog) (t := 40) (m := l1) (ys := ([(cut s1 i1 (w64 (i1 + 2)))] : List (List UInt8))) (A2 := g2) (m2 := 1) (c2 := 1) strV ([] : List UInt8) 8796093022208 (hS.at_ 1 rfl) (hS.at_ 0 rfl).rd ((hS.at_ 0 rfl).len1) 40 Und40 hi9 hz9 hs9 (by rw [hb9]; decide) (by decide) rfl (fun _ => rfl) hp9
            have hS : Sep w0 B w (own 9 (.slice g2 1 1) ((List.map strV ([(cut s1 i1 (w64 (i1 + 2)))] : List (List UInt8)))) :: own 9 (.slice A4 ((l1 ++ ([(cut s1 i1 (w64 (i1 + 2)))] : List (List UInt8))).length) c4) ((List.map strV (l1 ++ ([(cut s1 i1 (w64 (i1 + 2)))] : List (List UInt8))))) :: fs) := hS
            refine at_do (d := 69) hF (by kernel_rfl) (by kernel_rfl) hrun (fun a hF => ?_)
            refine at_run 1 [] [] [0, 1, 6, 7] [pl 0 (strV s1), pl 1 (.bool any1), pl 6 (.slice A4 ((l1 ++ ([(cut s1 i1 (w64 (i1 + 2)))] : List (List UInt8))).length) c4), pl 7 (.int .i64 i1)] hF hS (by kernel_rfl) (by kernel_rfl) ?_ (fun a w hF hS => ?_)
            · exact obs_nil
            refine at_end [0, 1, 6, 7] [pl 0 (strV s1), pl 1 (.bool any1), pl 6 (.slice A4 ((l1 ++ ([(cut s1 i1 (w64 (i1 + 2)))] : List (List UInt8))).length) c4), pl 7 (.int .i64 i1)] hF rfl (by kernel_rfl) (fun hF => ?_)
            refine then_n ?_
            refine reg [] [] [0, 1, 6, 7] [pl 0 (strV s1), pl 1 (.bool any1), pl 6 (.slice A4 ((l1 ++ ([(cut s1 i1 (w64 (i1 + 2)))] : List (List UInt8))).length) c4), pl 7 (.int .i64 (w64 (i1 + 2)))] hF hS Fol (by kernel_rfl) (by kernel_rfl) (by kernel_rfl) ?_ (fun a w hF hS => ?_)
            · exact obs_nil
            refine wpIn_exit ?_
            refine then_e (block_e (then_n ?_))
            have hS := hS.pickN 2 [1] (by decide)
            rw [← hφ1] at hm
            exact ⟨((l1 ++ ([(cut s1 i1 (w64 (i1 + 2)))] : List (List UInt8))), (w64 (i1 + 2))), ⟨A4, c4, hF.weak [0, 1, 6, 7] (by kernel_rfl), hS⟩, hm⟩
          · replace hm := if_f hm hb
            refine wpIn_skip ?_
            refine then_n ?_
            have hS := hS.pickN 1 [] (by decide)
            exact ⟨hF.weak [] (by kernel_rfl), hS, hm⟩
      · obtain ⟨hp1, hm⟩ := asrt_b hm
        obtain ⟨r1, hr1, hm⟩ := call_b hm
        obtain ⟨hp2, hm⟩ := asrt_b hm
        refine reg [⟨true, [], vS (Instr.index 9 (strV s1) (.int .i64 i1)), .int .u8 (getU s1 i1)⟩, ⟨false, [], callFunc 53 #[.int .i64 (w64 (getU s1 i1)), .int .i64 97, .int .i64 122], .bool r1⟩, ⟨true, [(any1, true), (r1, false)], vS (Instr.index 9 (strV s1) (.int .i64 i1)), .int .u8 (getU s1 i1)⟩] [none, none, some (.int .u8 (getU s1 i1)), none, some (.bool r1), none, none, none, none, none, some (.int .u8 (getU s1 i1)), none, none, none] [0, 1, 6, 7, 25] [pl 0 (strV s1), pl 1 (.bool any1), pl 6 (.slice A1 l1.length c1), pl 7 (.int .i64 i1), pl 25 (.bool (r1 || (any1 && ((getU s1 i1) == 63))))] hF hS Fol (by kernel_rfl) (by kernel_rfl) (by kernel_rfl) ?_ (fun a w hF hS => ?_)
        · exact obs_cons (ob_sidx (s := s1) (by kernel_rfl) (fun _ => hp1)) <| obs_cons (ob_call Tryd.func53 (by kernel_rfl) rfl (fun _ _ hS => gameroomref_within_w hr1 hS )) <| obs_cons (ob_sidx (s := s1) (by kernel_rfl) (fun hy => hp2 (hy (any1, true) (by simp)) (hy (r1, false) (by simp)))) <| obs_nil
        refine cond_ev (t := 25) (b := r1 || (any1 && ((getU s1 i1) == 63))) hF (by kernel_rfl) (fun hb => ?_) (fun hb => ?_)
        · replace hm := if_t hm hb
          refine seqR ?_
          obtain ⟨hp3, hm⟩ := asrt_b hm
          obtain ⟨hp4, hm⟩ := asrt_b hm
          refine at_run 6 [⟨true, [], vS (Instr.sliceAt 9 (strV s1) (some (.int .i64 i1)) (some (.int .i64 (w64 (i1 + 1)))) none), strV (cut s1 i1 (w64 (i1 + 1)))⟩] [none, none, none, none, none, some (strV (cut s1 i1 (w64 (i1 + 1))))] [0, 1, 7, 26, 31] [pl 0 (strV s1), pl 1 (.bool any1), pl 7 (.int .i64 i1), pl 26 (.slice A1 l1.length c1), pl 31 (strV (cut s1 i1 (w64 (i1 + 1))))] hF hS (by kernel_rfl) (by kernel_rfl) ?_ (fun a w hF hS => ?_)
          · exact obs_cons (ob_scut (s := s1) (k := .i64) (k' := .i64) (by kernel_rfl) (.inl rfl) (.inl rfl) (fun _ => hp3)) <| obs_nil
          refine at_do (d := 32) (s := vS (Instr.buildSlice 40 1 #[(0, strV (cut s1 i1 (w64 (i1 + 1))))])) (v := .slice (some ⟨w.heap.size, 0, none⟩) 1 1) (w' := w.alloc (.cells #[strV (cut s1 i1 (w64 (i1 + 1)))] 9)) hF (by kernel_rfl) (by kernel_rfl) (by kernel_rfl) (fun a hF => ?_)
          have hS : Sep w0 B (w.alloc (.cells #[strV (cut s1 i1 (w64 (i1 + 1)))] 9)) (own 9 (.slice (some (⟨w.heap.size, 0, none⟩ : Addr)) 1 1) ((List.map strV ([(cut s1 i1 (w64 (i1 + 1)))] : List (List UInt8)))) :: (own 9 (.slice A1 l1.length c1) ((List.map strV l1)) :: fs)) := hS.lit 9 #[strV (cut s1 i1 (w64 (i1 + 1)))] 1 rfl (by omega)
          generalize (some (⟨w.heap.size, 0, none⟩ : Addr)) = g1 at hF hS
          generalize w.alloc (.cells #[strV (cut s1 i1 (w64 (i1 + 1)))] 9) = w at hS ⊢
          obtain ⟨A3, c3, w, hrun, hS⟩ := run_appG (P := Tryd.prog) (t := 40) (m := l1) (ys := ([(cut s1 i1 (w64 (i1 + 1)))] : List (List UInt8))) (A2 := g1) (m2 := 1) (c2 := 1) strV ([] : List UInt8) 8796093022208 (hS.at_ 1 rfl) (hS.at_ 0 rfl).rd ((hS.at_ 0 rfl).len1) 40 Und40 hi9 hz9 hs9 (by rw [hb9]; decide) (by decide) rfl (fun _ => rfl) hp4
          have hS : Sep w0 B w (own 9 (.slice g1 1 1) ((List.map strV ([(cut s1 i1 (w64 (i1 + 1)))] : List (List UInt8)))) :: own 9 (.slice A3 ((l1 ++ ([(cut s1 i1 (w64 (i1 + 1)))] : List (List UInt8))).length) c3) ((List.map strV (l1 ++ ([(cut s1 i1 (w64 (i1 + 1)))] : List (List UInt8))))) :: fs) := hS
          refine at_do (d := 33) hF (by kernel_rfl) (by kernel_rfl) hrun (fun a hF => ?_)
          refine at_run 1 [] [] [0, 1, 6, 7] [pl 0 (strV s1), pl 1 (.bool any1), pl 6 (.slice A3 ((l1 ++ ([(cut s1 i1 (w64 (i1 + 1)))] : List (List UInt8))).length) c3), pl 7 (.int .i64 i1)] hF hS (by kernel_rfl) (by kernel_rfl) ?_ (fun a w hF hS => ?_)
          · exact obs_nil
          refine at_end [0, 1, 6, 7] [pl 0 (strV s1), pl 1 (.bool any1), pl 6 (.slice A3 ((l1 ++ ([(cut s1 i1 (w64 (i1 + 1)))] : List (List UInt8))).length) c3), pl 7 (.int .i64 i1)] hF rfl (by kernel_rfl) (fun hF => ?_)
          refine then_n ?_
          refine reg [] [] [0, 1, 6, 7] [pl 0 (strV s1), pl 1 (.bool any1), pl 6 (.slice A3 ((l1 ++ ([(cut s1 i1 (w64 (i1 + 1)))] : List (List UInt8))).length) c3), pl 7 (.int .i64 (w64 (i1 + 1)))] hF hS Fol (by kernel_rfl) (by kernel_rfl) (by kernel_rfl) ?_ (fun a w hF hS => ?_)
          · exact obs_nil
          refine wpIn_exit ?_
          refine then_e (block_e (then_n ?_))
          have hS := hS.pickN 2 [1] (by decide)
          rw [← hφ1] at hm
          exact ⟨((l1 ++ ([(cut s1 i1 (w64 (i1 + 1)))] : List (List UInt8))), (w64 (i1 + 1))), ⟨A3, c3, hF.weak [0, 1, 6, 7] (by kernel_rfl), hS⟩, hm⟩
        · replace hm := if_f hm hb
          refine wpIn_skip ?_
          refine then_n ?_
          exact ⟨hF.weak [0, 1, 6, 7] (by kernel_rfl), hS, hm⟩
    · refine reg [⟨true, [], vS (Builtin.len_ #[9] 3 #[strV s1]), .int .i64 (s1.length : Int)⟩] [none, none, some (.int .i64 (s1.length : Int)), none] [0, 1, 6, 7, 11] [pl 0 (strV s1), pl 1 (.bool any1), pl 6 (.slice A1 l1.length c1), pl 7 (.int .i64 i1), pl 11 (.bool (decide (i1 < (s1.length : Int))))] hF hS Fol (by kernel_rfl) (by kernel_rfl) (by kernel_rfl) ?_ (fun a w hF hS => ?_)
      · exact obs_cons (ob_slen (s := s1) (by kernel_rfl) 3) <| obs_nil
      refine cond_ev (t := 11) (b := decide (i1 < (s1.length : Int))) hF (by kernel_rfl) (fun hb => ?_) (fun hb => ?_)
      · replace hm := if_t hm hb
        refine wpIn_skip ?_
        refine then_n ?_
        exact ⟨hF.weak [0, 1, 6, 7] (by kernel_rfl), hS, hm⟩
      · replace hm := if_f hm hb
        refine wpIn_exit ?_
        refine then_e (then_e (block_e (then_n ?_)))
        rw [← hφ1] at hm
        replace hm := done_b hm
        unfold gameroomref_lettersOf_K1 at hm
        try dsimp only at hm
        have hm : (gameroomref_lettersOf_J1 l1).bind some = some r := hm
        exact ⟨l1, A1, c1, hF.weak [6] (by kernel_rfl), hS, hm⟩

noncomputable def gameroomref_WordMay_m  (s1 : List UInt8) : Option Bool :=
  (gameroomref_lettersOf_m s1 false).bind fun r1 => ((if r1.2 then gameroomref_within_m (r1.1.length : Int) 1 8 else some false)).bind fun r2 => some (r1.2 && r2)

set_option maxRecDepth 100000 in
set_option maxHeartbeats 4000000 in
theorem gameroomref_WordMay_w  {s1 : List UInt8} {r : Bool} {w0 w : World} {B : Nat} {fs : List HP} (hm : gameroomref_WordMay_m s1 = some r) (hS : Sep w0 B w (fs)) :
    Calls Tryd.prog 13 #[strV s1] w fun e w' => e = .returned (.bool r) ∧ Sep w0 B w' (fs) := by
  unfold gameroomref_WordMay_m at hm
  replace hm := start_b hm
  refine enter (l := [strV s1]) (n := 16) Tryd.func13 rfl rfl (by simp) (fun a hF => ?_)
  refine reg [] [] [0] [pl 0 (strV s1)] hF hS Fol (by kernel_rfl) (by kernel_rfl) (by kernel_rfl) ?_ (fun a w hF hS => ?_)
  · exact obs_nil
  refine seqR ?_
  obtain ⟨r1, hr1, hm⟩ := call_b hm
  refine at_run 1 [] [] [6] [pl 6 (strV s1)] hF hS (by kernel_rfl) (by kernel_rfl) ?_ (fun a w hF hS => ?_)
  · exact obs_nil
  refine at_call (f := 52) (args := #[strV s1, .bool false]) (d := 7) hF (by kernel_rfl) (by kernel_rfl) Tryd.func52 (by kernel_rfl) rfl (gameroomref_lettersOf_w hr1 hS ) (fun v a w hR hF => ?_)
  clear hS
  obtain ⟨A1, c1, rfl, hS⟩ := hR
  have hS : Sep w0 B w (own 9 (.slice A1 r1.1.length c1) ((List.map strV r1.1)) :: fs) := hS
  refine at_run 5 [] [] [3, 4] [pl 3 (.slice A1 r1.1.length c1), pl 4 (.bool r1.2)] hF hS (by kernel_rfl) (by kernel_rfl) ?_ (fun a w hF hS => ?_)
  · exact obs_nil
  refine at_end [3, 4] [pl 3 (.slice A1 r1.1.length c1), pl 4 (.bool r1.2)] hF rfl (by kernel_rfl) (fun hF => ?_)
  refine then_n ?_
  obtain ⟨r2, hr2, hm⟩ := call_b hm
  refine reg [⟨false, [(r1.2, true)], callFunc 53 #[.int .i64 (r1.1.length : Int), .int .i64 1, .int .i64 8], .bool r2⟩] [none, none, none, none, some (.bool r2), none, none] [2] [pl 2 (.bool (r1.2 && r2))] hF hS Fol (by kernel_rfl) (by kernel_rfl) (by kernel_rfl) ?_ (fun a w hF hS => ?_)
  · exact obs_cons (ob_call Tryd.func53 (by kernel_rfl) rfl (fun hy _ hS => gameroomref_within_w (ite_some hr2 (by rw [show r1.2 = true from hy (r1.2, true) (by simp)]; try rfl)) hS )) <| obs_nil
  refine wpIn_ret ?_
  have hS := hS.pickN 1 [] (by decide)
  have hm : some (r1.2 && r2) = some r := hm
  obtain rfl := Option.some.inj hm
  exact retV (rs := [.tmp 2]) (vs := [.bool (r1.2 && r2)]) hF rfl (rv_t (by kernel_rfl) <| rv_nil) rfl ⟨rfl, hS⟩

noncomputable def gameroomref_WordsMay_J4  (i1 : Int) : Option (St Int (Fl Unit Int)) :=
  some (.next (w64 (i1 + 1)))

noncomputable def gameroomref_WordsMay_J3  (l1 : List (List UInt8)) (i1 : Int) : Option (St Int (Fl Unit Int)) :=
  asrt (0 ≤ i1 ∧ i1 < (l1.length : Int)) <| (gameroomref_WordMay_m (getd ([] : List UInt8) l1 i1)).bind fun r1 => if (!r1) then (some (.done (.ret 14))) else ((gameroomref_WordsMay_J4 i1))

noncomputable def gameroomref_WordsMay_J2  : Option Int :=
  some 0

noncomputable def gameroomref_WordsMay_K1  : (Fl Unit Int) → Option Int :=
  fun (x : (Fl Unit Int)) => match x with | .go _ => gameroomref_WordsMay_J2 | .ret x => some x

noncomputable def gameroomref_WordsMay_L1  (l1 : List (List UInt8)) : Int → Option (St Int (Fl Unit Int)) :=
  fun (x : Int) => match x with | i1 => if (decide (i1 < (l1.length : Int))) then ((gameroomref_WordsMay_J3 l1 i1)) else (some (.done (.go ())))

noncomputable def gameroomref_WordsMay_J1  (l1 : List (List UInt8)) : Option Int :=
  (loop (gameroomref_WordsMay_L1 l1) 0).bind gameroomref_WordsMay_K1

noncomputable def gameroomref_WordsMay_m  (l1 : List (List UInt8)) : Option Int :=
  if (decide ((60 : Int) < (l1.length : Int))) then (some 2) else ((gameroomref_WordsMay_J1 l1))

set_option maxRecDepth 100000 in
set_option maxHeartbeats 4000000 in
theorem gameroomref_WordsMay_w  {A1 : Option Addr} {c1 : Nat} {n1 : Nat} {l1 : List (List UInt8)} {r : Int} {w0 w : World} {B : Nat} {fs : List HP} (hm : gameroomref_WordsMay_m l1 = some r) (hS : Sep w0 B w (fs)) (hr_l1 : RdF w0 B fs A1 ((List.map strV l1))) (_hc_l1 : l1.length ≤ c1) (_hn_l1 : n1 = l1.length) :
    Calls Tryd.prog 25 #[.slice A1 n1 c1] w fun e w' => e = .returned (.int .i64 r) ∧ Sep w0 B w' (fs) := by
  obtain ⟨i9, hi9, hz9, hs9, hb9⟩ := info_parts Info9
  obtain rfl := _hn_l1
  unfold gameroomref_WordsMay_m at hm
  replace hm := start_b hm
  refine enter (l := [.slice A1 l1.length c1]) (n := 19) Tryd.func25 rfl rfl (by simp) (fun a hF => ?_)
  refine reg [] [] [0] [pl 0 (.slice A1 l1.length c1)] hF hS Fol (by kernel_rfl) (by kernel_rfl) (by kernel_rfl) ?_ (fun a w hF hS => ?_)
  · exact obs_nil
  refine seq_cut (fun a w => Fr 19 [pl 0 (.slice A1 l1.length c1)] a ∧ Sep w0 B w (fs) ∧ ((gameroomref_WordsMay_J1 l1)).bind some = some r) ?_ ?_
  · rintro a w ⟨hF, hS, hm⟩
    unfold gameroomref_WordsMay_J1 at hm
    refine seq_cut (fun a w => Fr 19 [] a ∧ Sep w0 B w (fs) ∧ (gameroomref_WordsMay_J2).bind some = some r) ?_ ?_
    · rintro a w ⟨hF, hS, hm⟩
      unfold gameroomref_WordsMay_J2 at hm
      refine reg [] [] [2] [pl 2 (.int .i64 0)] hF hS Fol (by kernel_rfl) (by kernel_rfl) (by kernel_rfl) ?_ (fun a w hF hS => ?_)
      · exact obs_nil
      refine wpIn_ret ?_
      have hm : some 0 = some r := hm
      obtain rfl := Option.some.inj hm
      exact retV (rs := [.tmp 2]) (vs := [.int .i64 0]) hF rfl (rv_t (by kernel_rfl) <| rv_nil) rfl ⟨rfl, hS⟩
    · refine reg [] [] [0, 3] [pl 0 (.slice A1 l1.length c1), pl 3 (.int .i64 0)] hF hS Fol (by kernel_rfl) (by kernel_rfl) (by kernel_rfl) ?_ (fun a w hF hS => ?_)
      · exact obs_nil
      refine wpIn_block ?_
      refine wp_loop_model (S := Int) (R := (Fl Unit Int)) (gameroomref_WordsMay_L1 l1) (fun x => (gameroomref_WordsMay_K1 x).bind some) r (fun (x : Int) a w => Fr 19 [pl 0 (.slice A1 l1.length c1), pl 3 (.int .i64 x)] a ∧ Sep w0 B w (fs)) (assoc_b hm) ⟨hF.weak [0, 3] (by kernel_rfl), hS⟩ ?_
      clear hF hS hm
      rintro nn1 i1 a w ⟨hF, hS⟩ hm
      generalize hφ1 : stK (gameroomref_WordsMay_L1 l1) nn1 (fun x => (gameroomref_WordsMay_K1 x).bind some) = φ1 at hm
      unfold gameroomref_WordsMay_L1 at hm
      dsimp only at hm
      refine seq_cut (fun a w => Fr 19 [pl 0 (.slice A1 l1.length c1), pl 3 (.int .i64 i1)] a ∧ Sep w0 B w (fs) ∧ ((gameroomref_WordsMay_J3 l1 i1)).bind φ1 = some r) ?_ ?_
      · rintro a w ⟨hF, hS, hm⟩
        unfold gameroomref_WordsMay_J3 at hm
        refine seq_cut (fun a w => Fr 19 [pl 0 (.slice A1 l1.length c1), pl 3 (.int .i64 i1)] a ∧ Sep w0 B w (fs) ∧ ((gameroomref_WordsMay_J4 i1)).bind φ1 = some r) ?_ ?_
        · rintro a w ⟨hF, hS, hm⟩
          unfold gameroomref_WordsMay_J4 at hm
          refine reg1 [] [] [0, 3] [pl 0 (.slice A1 l1.length c1), pl 3 (.int .i64 (w64 (i1 + 1)))] hF hS Fol (by kernel_rfl) (by kernel_rfl) (by kernel_rfl) ?_ (fun a w hF hS => ?_)
          · exact obs_nil
          refine then_n ?_
          rw [← hφ1] at hm
          exact ⟨(w64 (i1 + 1)), ⟨hF.weak [0, 3] (by kernel_rfl), hS⟩, hm⟩
        · refine wpIn_block ?_
          obtain ⟨hp1, hm⟩ := asrt_b hm
          obtain ⟨r1, hr1, hm⟩ := call_b hm
          refine reg [⟨true, [], vS (Instr.indexAt 40 (.slice A1 l1.length c1) (.int .i64 i1)), .pointer (some (sAddr A1 i1))⟩, ⟨false, [], vS (Instr.loadAt 9 (.pointer (some (sAddr A1 i1)))), strV (getd ([] : List UInt8) l1 i1)⟩, ⟨false, [], callFunc 13 #[strV (getd ([] : List UInt8) l1 i1)], .bool r1⟩] [none, none, some (.pointer (some (sAddr A1 i1))), some (strV (getd ([] : List UInt8) l1 i1)), some (.bool r1), none] [0, 3, 18] [pl 0 (.slice A1 l1.length c1), pl 3 (.int .i64 i1), pl 18 (.bool (!r1))] hF hS Fol (by kernel_rfl) (by kernel_rfl) (by kernel_rfl) ?_ (fun a w hF hS => ?_)
          · exact obs_cons (ob_ix1 (f := strV) (m := l1) Und40 hi9 hs9 (hr_l1 _ (hS.dropN 0)) rfl (fun _ => hp1)) <| obs_cons (ob_get1 (n := l1.length) (m := l1) strV ([] : List UInt8) Agg9 (fun _ hS => ⟨_, (hr_l1 _ (hS.dropN 0))⟩) (fun _ hS => rfl) (fun _ => hp1)) <| obs_cons (ob_call Tryd.func13 (by kernel_rfl) rfl (fun _ _ hS => gameroomref_WordMay_w hr1 hS )) <| obs_nil
          refine cond_ev (t := 18) (b := !r1) hF (by kernel_rfl) (fun hb => ?_) (fun hb => ?_)
          · replace hm := if_t hm hb
            refine reg [] [] [2] [pl 2 (.int .i64 14)] hF hS Fol (by kernel_rfl) (by kernel_rfl) (by kernel_rfl) ?_ (fun a w hF hS => ?_)
            · exact obs_nil
            refine wpIn_ret ?_
            refine block_r (then_r (then_r (block_r (then_r ?_))))
            rw [← hφ1] at hm
            replace hm := done_b hm
            unfold gameroomref_WordsMay_K1 at hm
            try dsimp only at hm
            have hm : some 14 = some r := hm
            obtain rfl := Option.some.inj hm
            exact retV (rs := [.tmp 2]) (vs := [.int .i64 14]) hF rfl (rv_t (by kernel_rfl) <| rv_nil) rfl ⟨rfl, hS⟩
          · replace hm := if_f hm hb
            refine wpIn_skip ?_
            refine block_n ?_
            refine then_n ?_
            exact ⟨hF.weak [0, 3] (by kernel_rfl), hS, hm⟩
      · refine reg [] [] [0, 3, 10] [pl 0 (.slice A1 l1.length c1), pl 3 (.int .i64 i1), pl 10 (.bool (decide (i1 < (l1.length : Int))))] hF hS Fol (by kernel_rfl) (by kernel_rfl) (by kernel_rfl) ?_ (fun a w hF hS => ?_)
        · exact obs_nil
        refine cond_ev (t := 10) (b := decide (i1 < (l1.length : Int))) hF (by kernel_rfl) (fun hb => ?_) (fun hb => ?_)
        · replace hm := if_t hm hb
          refine wpIn_skip ?_
          refine then_n ?_
          exact ⟨hF.weak [0, 3] (by kernel_rfl), hS, hm⟩
        · replace hm := if_f hm hb
          refine wpIn_exit ?_
          refine then_e (then_e (block_e (then_n ?_)))
          rw [← hφ1] at hm
          replace hm := done_b hm
          unfold gameroomref_WordsMay_K1 at hm
          try dsimp only at hm
          have hm : (gameroomref_WordsMay_J2).bind some = some r := hm
          exact ⟨hF.weak [] (by kernel_rfl), hS, hm⟩
  · refine reg [] [] [0, 6] [pl 0 (.slice A1 l1.length c1), pl 6 (.bool (decide ((60 : Int) < (l1.length : Int))))] hF hS Fol (by kernel_rfl) (by kernel_rfl) (by kernel_rfl) ?_ (fun a w hF hS => ?_)
    · exact obs_nil
    refine cond_ev (t := 6) (b := decide ((60 : Int) < (l1.length : Int))) hF (by kernel_rfl) (fun hb => ?_) (fun hb => ?_)
    · replace hm := if_t hm hb
      refine reg [] [] [2] [pl 2 (.int .i64 2)] hF hS Fol (by kernel_rfl) (by kernel_rfl) (by kernel_rfl) ?_ (fun a w hF hS => ?_)
      · exact obs_nil
      refine wpIn_ret ?_
      refine then_r ?_
      have hm : some 2 = some r := hm
      obtain rfl := Option.some.inj hm
      exact retV (rs := [.tmp 2]) (vs := [.int .i64 2]) hF rfl (rv_t (by kernel_rfl) <| rv_nil) rfl ⟨rfl, hS⟩
    · replace hm := if_f hm hb
      refine wpIn_skip ?_
      refine then_n ?_
      exact ⟨hF.weak [0] (by kernel_rfl), hS, hm⟩

noncomputable def gameroomref_FitsMay_J7  (k1 : Int) : Option (St Int (Fl Unit Int)) :=
  some (.next (w64 (k1 + 1)))

noncomputable def gameroomref_FitsMay_J6  (hints1 : List (List UInt8)) (i1 : Int) (k1 : Int) : Option (St Int (Fl Unit Int)) :=
  asrt (0 ≤ i1 ∧ i1 < (hints1.length : Int)) <| asrt (0 ≤ k1 ∧ k1 < ((getd ([] : List UInt8) hints1 i1).length : Int)) <| asrt (((getU (getd ([] : List UInt8) hints1 i1) k1) != 103) = true → 0 ≤ i1 ∧ i1 < (hints1.length : Int)) <| asrt (((getU (getd ([] : List UInt8) hints1 i1) k1) != 103) = true → 0 ≤ k1 ∧ k1 < ((getd ([] : List UInt8) hints1 i1).length : Int)) <| asrt ((((getU (getd ([] : List UInt8) hints1 i1) k1) != 103) && ((getU (getd ([] : List UInt8) hints1 i1) k1) != 121)) = true → 0 ≤ i1 ∧ i1 < (hints1.length : Int)) <| asrt ((((getU (getd ([] : List UInt8) hints1 i1) k1) != 103) && ((getU (getd ([] : List UInt8) hints1 i1) k1) != 121)) = true → 0 ≤ k1 ∧ k1 < ((getd ([] : List UInt8) hints1 i1).length : Int)) <| if ((((getU (getd ([] : List UInt8) hints1 i1) k1) != 103) && ((getU (getd ([] : List UInt8) hints1 i1) k1) != 121)) && ((getU (getd ([] : List UInt8) hints1 i1) k1) != 46)) then (some (.done (.ret 1))) else ((gameroomref_FitsMay_J7 k1))

noncomputable def gameroomref_FitsMay_J4  (i1 : Int) : Option (St Int (Fl Unit Int)) :=
  some (.next (w64 (i1 + 1)))

noncomputable def gameroomref_FitsMay_K2  (i1 : Int) : (Fl Unit Int) → Option (St Int (Fl Unit Int)) :=
  fun (x : (Fl Unit Int)) => match x with | .go _ => (gameroomref_FitsMay_J4 i1) | .ret x => some (.done (.ret x))

noncomputable def gameroomref_FitsMay_L2  (hints1 : List (List UInt8)) (i1 : Int) : Int → Option (St Int (Fl Unit Int)) :=
  fun (x : Int) => match x with | k1 => asrt (0 ≤ i1 ∧ i1 < (hints1.length : Int)) <| if (decide (k1 < ((getd ([] : List UInt8) hints1 i1).length : Int))) then ((gameroomref_FitsMay_J6 hints1 i1 k1)) else (some (.done (.go ())))

noncomputable def gameroomref_FitsMay_J5  (hints1 : List (List UInt8)) (i1 : Int) : Option (St Int (Fl Unit Int)) :=
  (loop (gameroomref_FitsMay_L2 hints1 i1) 0).bind (gameroomref_FitsMay_K2 i1)

noncomputable def gameroomref_FitsMay_J3  (guesses1 : List (List UInt8)) (hints1 : List (List UInt8)) (i1 : Int) : Option (St Int (Fl Unit Int)) :=
  asrt (0 ≤ i1 ∧ i1 < (guesses1.length : Int)) <| (gameroomref_lettersOf_m (getd ([] : List UInt8) guesses1 i1) false).bind fun r1 => asrt (0 ≤ i1 ∧ i1 < (hints1.length : Int)) <| if ((r1.1.length : Int) != ((getd ([] : List UInt8) hints1 i1).length : Int)) then (some (.done (.ret 1))) else ((gameroomref_FitsMay_J5 hints1 i1))

noncomputable def gameroomref_FitsMay_J2  : Option Int :=
  some 0

noncomputable def gameroomref_FitsMay_K1  : (Fl Unit Int) → Option Int :=
  fun (x : (Fl Unit Int)) => match x with | .go _ => gameroomref_FitsMay_J2 | .ret x => some x

noncomputable def gameroomref_FitsMay_L1  (guesses1 : List (List UInt8)) (hints1 : List (List UInt8)) : Int → Option (St Int (Fl Unit Int)) :=
  fun (x : Int) => match x with | i1 => if (decide (i1 < (hints1.length : Int))) then ((gameroomref_FitsMay_J3 guesses1 hints1 i1)) else (some (.done (.go ())))

noncomputable def gameroomref_FitsMay_J1  (guesses1 : List (List UInt8)) (hints1 : List (List UInt8)) : Option Int :=
  (loop (gameroomref_FitsMay_L1 guesses1 hints1) 0).bind gameroomref_FitsMay_K1

noncomputable def gameroomref_FitsMay_m  (guesses1 : List (List UInt8)) (hints1 : List (List UInt8)) : Option Int :=
  if ((guesses1.length : Int) != (hints1.length : Int)) then (some 11) else ((gameroomref_FitsMay_J1 guesses1 hints1))

set_option maxRecDepth 100000 in
set_option maxHeartbeats 4000000 in
theorem gameroomref_FitsMay_w  {A1 : Option Addr} {c1 : Nat} {n1 : Nat} {guesses1 : List (List UInt8)} {A2 : Option Addr} {c2 : Nat} {n2 : Nat} {hints1 : List (List UInt8)} {r : Int} {w0 w : World} {B : Nat} {fs : List HP} (hm : gameroomref_FitsMay_m guesses1 hints1 = some r) (hS : Sep w0 B w (fs)) (hr_guesses1 : RdF w0 B fs A1 ((List.map strV guesses1))) (_hc_guesses1 : guesses1.length ≤ c1) (_hn_guesses1 : n1 = guesses1.length) (hr_hints1 : RdF w0 B fs A2 ((List.map strV hints1))) (_hc_hints1 : hints1.length ≤ c2) (_hn_hints1 : n2 = hints1.length) :
    Calls Tryd.prog 32 #[.slice A1 n1 c1, .slice A2 n2 c2] w fun e w' => e = .returned (.int .i64 r) ∧ Sep w0 B w' (fs) := by
  obtain ⟨i9, hi9, hz9, hs9, hb9⟩ := info_parts Info9
  obtain rfl := _hn_guesses1
  obtain rfl := _hn_hints1
  unfold gameroomref_FitsMay_m at hm
  replace hm := start_b hm
  refine enter (l := [.slice A1 guesses1.length c1, .slice A2 hints1.length c2]) (n := 70) Tryd.func32 rfl rfl (by simp) (fun a hF => ?_)
  refine reg [] [] [0, 1] [pl 0 (.slice A1 guesses1.length c1), pl 1 (.slice A2 hints1.length c2)] hF hS Fol (by kernel_rfl) (by kernel_rfl) (by kernel_rfl) ?_ (fun a w hF hS => ?_)
  · exact obs_nil
  refine seq_cut (fun a w => Fr 70 [pl 0 (.slice A1 guesses1.length c1), pl 1 (.slice A2 hints1.length c2)] a ∧ Sep w0 B w (fs) ∧ ((gameroomref_FitsMay_J1 guesses1 hints1)).bind some = some r) ?_ ?_
  · rintro a w ⟨hF, hS, hm⟩
    unfold gameroomref_FitsMay_J1 at hm
    refine seq_cut (fun a w => Fr 70 [] a ∧ Sep w0 B w (fs) ∧ (gameroomref_FitsMay_J2).bind some = some r) ?_ ?_
    · rintro a w ⟨hF, hS, hm⟩
      unfold gameroomref_FitsMay_J2 at hm
      refine reg [] [] [4] [pl 4 (.int .i64 0)] hF hS Fol (by kernel_rfl) (by kernel_rfl) (by kernel_rfl) ?_ (fun a w hF hS => ?_)
      · exact obs_nil
      refine wpIn_ret ?_
      have hm : some 0 = some r := hm
      obtain rfl := Option.some.inj hm
      exact retV (rs := [.tmp 4]) (vs := [.int .i64 0]) hF rfl (rv_t (by kernel_rfl) <| rv_nil) rfl ⟨rfl, hS⟩
    · refine reg [] [] [0, 1, 5] [pl 0 (.slice A1 guesses1.length c1), pl 1 (.slice A2 hints1.length c2), pl 5 (.int .i64 0)] hF hS Fol (by kernel_rfl) (by kernel_rfl) (by kernel_rfl) ?_ (fun a w hF hS => ?_)
      · exact obs_nil
      refine wpIn_block ?_
      refine wp_loop_model (S := Int) (R := (Fl Unit Int)) (gameroomref_FitsMay_L1 guesses1 hints1) (fun x => (gameroomref_FitsMay_K1 x).bind some) r (fun (x : Int) a w => Fr 70 [pl 0 (.slice A1 guesses1.length c1), pl 1 (.slice A2 hints1.length c2), pl 5 (.int .i64 x)] a ∧ Sep w0 B w (fs)) (assoc_b hm) ⟨hF.weak [0, 1, 5] (by kernel_rfl), hS⟩ ?_
      clear hF hS hm
      rintro nn1 i1 a w ⟨hF, hS⟩ hm
      generalize hφ1 : stK (gameroomref_FitsMay_L1 guesses1 hints1) nn1 (fun x => (gameroomref_FitsMay_K1 x).bind some) = φ1 at hm
      unfold gameroomref_FitsMay_L1 at hm
      dsimp only at hm
      refine seq_cut (fun a w => Fr 70 [pl 0 (.slice A1 guesses1.length c1), pl 1 (.slice A2 hints1.length c2), pl 5 (.int .i64 i1)] a ∧ Sep w0 B w (fs) ∧ ((gameroomref_FitsMay_J3 guesses1 hints1 i1)).bind φ1 = some r) ?_ ?_
      · rintro a w ⟨hF, hS, hm⟩
        unfold gameroomref_FitsMay_J3 at hm
        refine seq_cut (fun a w => Fr 70 [pl 0 (.slice A1 guesses1.length c1), pl 1 (.slice A2 hints1.length c2), pl 5 (.int .i64 i1)] a ∧ Sep w0 B w (fs) ∧ ((gameroomref_FitsMay_J4 i1)).bind φ1 = some r) ?_ ?_
        · rintro a w ⟨hF, hS, hm⟩
          unfold gameroomref_FitsMay_J4 at hm
          refine reg1 [] [] [0, 1, 5] [pl 0 (.slice A1 guesses1.length c1), pl 1 (.slice A2 hints1.length c2), pl 5 (.int .i64 (w64 (i1 + 1)))] hF hS Fol (by kernel_rfl) (by kernel_rfl) (by kernel_rfl) ?_ (fun a w hF hS => ?_)
          · exact obs_nil
          refine then_n ?_
          rw [← hφ1] at hm
          exact ⟨(w64 (i1 + 1)), ⟨hF.weak [0, 1, 5] (by kernel_rfl), hS⟩, hm⟩
        · refine wpIn_block ?_
          refine seqR ?_
          obtain ⟨hp1, hm⟩ := asrt_b hm
          obtain ⟨r1, hr1, hm⟩ := call_b hm
          refine at_run 4 [⟨true, [], vS (Instr.indexAt 40 (.slice A1 guesses1.length c1) (.int .i64 i1)), .pointer (some (sAddr A1 i1))⟩, ⟨false, [], vS (Instr.loadAt 9 (.pointer (some (sAddr A1 i1)))), strV (getd ([] : List UInt8) guesses1 i1)⟩] [none, none, some (.pointer (some (sAddr A1 i1))), some (strV (getd ([] : List UInt8) guesses1 i1))] [0, 1, 5, 24] [pl 0 (.slice A1 guesses1.length c1), pl 1 (.slice A2 hints1.length c2), pl 5 (.int .i64 i1), pl 24 (strV (getd ([] : List UInt8) guesses1 i1))] hF hS (by kernel_rfl) (by kernel_rfl) ?_ (fun a w hF hS => ?_)
          · exact obs_cons (ob_ix1 (f := strV) (m := guesses1) Und40 hi9 hs9 (hr_guesses1 _ (hS.dropN 0)) rfl (fun _ => hp1)) <| obs_cons (ob_get1 (n := guesses1.length) (m := guesses1) strV ([] : List UInt8) Agg9 (fun _ hS => ⟨_, (hr_guesses1 _ (hS.dropN 0))⟩) (fun _ hS => rfl) (fun _ => hp1)) <| obs_nil
          refine at_call (f := 52) (args := #[strV (getd ([] : List UInt8) guesses1 i1), .bool false]) (d := 25) hF (by kernel_rfl) (by kernel_rfl) Tryd.func52 (by kernel_rfl) rfl (gameroomref_lettersOf_w hr1 hS ) (fun v a w hR hF => ?_)
          clear hS
          obtain ⟨A3, c3, rfl, hS⟩ := hR
          have hS : Sep w0 B w (own 9 (.slice A3 r1.1.length c3) ((List.map strV r1.1)) :: fs) := hS
          refine at_run 5 [] [] [0, 1, 5, 6] [pl 0 (.slice A1 guesses1.length c1), pl 1 (.slice A2 hints1.length c2), pl 5 (.int .i64 i1), pl 6 (.slice A3 r1.1.length c3)] hF hS (by kernel_rfl) (by kernel_rfl) ?_ (fun a w hF hS => ?_)
          · exact obs_nil
          refine at_end [0, 1, 5, 6] [pl 0 (.slice A1 guesses1.length c1), pl 1 (.slice A2 hints1.length c2), pl 5 (.int .i64 i1), pl 6 (.slice A3 r1.1.length c3)] hF rfl (by kernel_rfl) (fun hF => ?_)
          refine then_n ?_
          refine seq_cut (fun a w => Fr 70 [pl 0 (.slice A1 guesses1.length c1), pl 1 (.slice A2 hints1.length c2), pl 5 (.int .i64 i1)] a ∧ Sep w0 B w (fs) ∧ ((gameroomref_FitsMay_J5 hints1 i1)).bind φ1 = some r) ?_ ?_
          · rintro a w ⟨hF, hS, hm⟩
            unfold gameroomref_FitsMay_J5 at hm
            refine reg [] [] [0, 1, 5, 8] [pl 0 (.slice A1 guesses1.length c1), pl 1 (.slice A2 hints1.length c2), pl 5 (.int .i64 i1), pl 8 (.int .i64 0)] hF hS Fol (by kernel_rfl) (by kernel_rfl) (by kernel_rfl) ?_ (fun a w hF hS => ?_)
            · exact obs_nil
            refine wpIn_block ?_
            refine wp_loop_model (S := Int) (R := (Fl Unit Int)) (gameroomref_FitsMay_L2 hints1 i1) (fun x => ((gameroomref_FitsMay_K2 i1) x).bind φ1) r (fun (x : Int) a w => Fr 70 [pl 0 (.slice A1 guesses1.length c1), pl 1 (.slice A2 hints1.length c2), pl 5 (.int .i64 i1), pl 8 (.int .i64 x)] a ∧ Sep w0 B w (fs)) (assoc_b hm) ⟨hF.weak [0, 1, 5, 8] (by kernel_rfl), hS⟩ ?_
            clear hF hS hm
            rintro nn2 k1 a w ⟨hF, hS⟩ hm
            generalize hφ2 : stK (gameroomref_FitsMay_L2 hints1 i1) nn2 (fun x => ((gameroomref_FitsMay_K2 i1) x).bind φ1) = φ2 at hm
            unfold gameroomref_FitsMay_L2 at hm
            dsimp only at hm
            refine seq_cut (fun a w => Fr 70 [pl 0 (.slice A1 guesses1.length c1), pl 1 (.slice A2 hints1.length c2), pl 5 (.int .i64 i1), pl 8 (.int .i64 k1)] a ∧ Sep w0 B w (fs) ∧ ((gameroomref_FitsMay_J6 hints1 i1 k1)).bind φ2 = some r) ?_ ?_
            · rintro a w ⟨hF, hS, hm⟩
              unfold gameroomref_FitsMay_J6 at hm
              refine seq_cut (fun a w => Fr 70 [pl 0 (.slice A1 guesses1.length c1), pl 1 (.slice A2 hints1.length c2), pl 5 (.int .i64 i1), pl 8 (.int .i64 k1)] a ∧ Sep w0 B w (fs) ∧ ((gameroomref_FitsMay_J7 k1)).bind φ2 = some r) ?_ ?_
              · rintro a w ⟨hF, hS, hm⟩
                unfold gameroomref_FitsMay_J7 at hm
                refine reg1 [] [] [0, 1, 5, 8] [pl 0 (.slice A1 guesses1.length c1), pl 1 (.slice A2 hints1.length c2), pl 5 (.int .i64 i1), pl 8 (.int .i64 (w64 (k1 + 1)))] hF hS Fol (by kernel_rfl) (by kernel_rfl) (by kernel_rfl) ?_ (fun a w hF hS => ?_)
                · exact obs_nil
                refine then_n ?_
                rw [← hφ2] at hm
                exact ⟨(w64 (k1 + 1)), ⟨hF.weak [0, 1, 5, 8] (by kernel_rfl), hS⟩, hm⟩
              · refine wpIn_block ?_
                obtain ⟨hp4, hm⟩ := asrt_b hm
                obtain ⟨hp5, hm⟩ := asrt_b hm
                obtain ⟨hp6, hm⟩ := asrt_b hm
                obtain ⟨hp7, hm⟩ := asrt_b hm
                obtain ⟨hp8, hm⟩ := asrt_b hm
                obtain ⟨hp9, hm⟩ := asrt_b hm
                refine reg [⟨true, [], vS (Instr.indexAt 40 (.slice A2 hints1.length c2) (.int .i64 i1)), .pointer (some (sAddr A2 i1))⟩, ⟨false, [], vS (Instr.loadAt 9 (.pointer (some (sAddr A2 i1)))), strV (getd ([] : List UInt8) hints1 i1)⟩, ⟨true, [], vS (Instr.index 9 (strV (getd ([] : List UInt8) hints1 i1)) (.int .i64 k1)), .int .u8 (getU (getd ([] : List UInt8) hints1 i1) k1)⟩, ⟨true, [(((getU (getd ([] : List UInt8) hints1 i1) k1) != 103), true)], vS (Instr.indexAt 40 (.slice A2 hints1.length c2) (.int .i64 i1)), .pointer (some (sAddr A2 i1))⟩, ⟨false, [(((getU (getd ([] : List UInt8) hints1 i1) k1) != 103), true)], vS (Instr.loadAt 9 (.pointer (some (sAddr A2 i1)))), strV (getd ([] : List UInt8) hints1 i1)⟩, ⟨true, [(((getU (getd ([] : List UInt8) hints1 i1) k1) != 103), true)], vS (Instr.index 9 (strV (getd ([] : List UInt8) hints1 i1)) (.int .i64 k1)), .int .u8 (getU (getd ([] : List UInt8) hints1 i1) k1)⟩, ⟨true, [(((getU (getd ([] : List UInt8) hints1 i1) k1) != 103) && ((getU (getd ([] : List UInt8) hints1 i1) k1) != 121), true)], vS (Instr.indexAt 40 (.slice A2 hints1.length c2) (.int .i64 i1)), .pointer (some (sAddr A2 i1))⟩, ⟨false, [(((getU (getd ([] : List UInt8) hints1 i1) k1) != 103) && ((getU (getd ([] : List UInt8) hints1 i1) k1) != 121), true)], vS (Instr.loadAt 9 (.pointer (some (sAddr A2 i1)))), strV (getd ([] : List UInt8) hints1 i1)⟩, ⟨true, [(((getU (getd ([] : List UInt8) hints1 i1) k1) != 103) && ((getU (getd ([] : List UInt8) hints1 i1) k1) != 121), true)], vS (Instr.index 9 (strV (getd ([] : List UInt8) hints1 i1)) (.int .i64 k1)), .int .u8 (getU (getd ([] : List UInt8) hints1 i1) k1)⟩] [none, none, some (.pointer (some (sAddr A2 i1))), some (strV (getd ([] : List UInt8) hints1 i1)), none, some (.int .u8 (getU (getd ([] : List UInt8) hints1 i1) k1)), none, none, none, none, some (.pointer (some (sAddr A2 i1))), some (strV (getd ([] : List UInt8) hints1 i1)), none, some (.int .u8 (getU (getd ([] : List UInt8) hints1 i1) k1)), none, none, none, none, none, some (.pointer (some (sAddr A2 i1))), some (strV (getd ([] : List UInt8) hints1 i1)), none, some (.int .u8 (getU (getd ([] : List UInt8) hints1 i1) k1)), none, none] [0, 1, 5, 8, 69] [pl 0 (.slice A1 guesses1.length c1), pl 1 (.slice A2 hints1.length c2), pl 5 (.int .i64 i1), pl 8 (.int .i64 k1), pl 69 (.bool ((((getU (getd ([] : List UInt8) hints1 i1) k1) != 103) && ((getU (getd ([] : List UInt8) hints1 i1) k1) != 121)) && ((getU (getd ([] : List UInt8) hints1 i1) k1) != 46)))] hF hS Fol (by kernel_rfl) (by kernel_rfl) (by kernel_rfl) ?_ (fun a w hF hS => ?_)
                · exact obs_cons (ob_ix1 (f := strV) (m := hints1) Und40 hi9 hs9 (hr_hints1 _ (hS.dropN 0)) rfl (fun _ => hp4)) <| obs_cons (ob_get1 (n := hints1.length) (m := hints1) strV ([] : List UInt8) Agg9 (fun _ hS => ⟨_, (hr_hints1 _ (hS.dropN 0))⟩) (fun _ hS => rfl) (fun _ => hp4)) <| obs_cons (ob_sidx (s := getd ([] : List UInt8) hints1 i1) (by kernel_rfl) (fun _ => hp5)) <| obs_cons (ob_ix1 (f := strV) (m := hints1) Und40 hi9 hs9 (hr_hints1 _ (hS.dropN 0)) rfl (fun hy => hp6 (hy (((getU (getd ([] : List UInt8) hints1 i1) k1) != 103), true) (by simp)))) <| obs_cons (ob_get1 (n := hints1.length) (m := hints1) strV ([] : List UInt8) Agg9 (fun _ hS => ⟨_, (hr_hints1 _ (hS.dropN 0))⟩) (fun _ hS => rfl) (fun hy => hp6 (hy (((getU (getd ([] : List UInt8) hints1 i1) k1) != 103), true) (by simp)))) <| obs_cons (ob_sidx (s := getd ([] : List UInt8) hints1 i1) (by kernel_rfl) (fun hy => hp7 (hy (((getU (getd ([] : List UInt8) hints1 i1) k1) != 103), true) (by simp)))) <| obs_cons (ob_ix1 (f := strV) (m := hints1) Und40 hi9 hs9 (hr_hints1 _ (hS.dropN 0)) rfl (fun hy => hp8 (hy (((getU (getd ([] : List UInt8) hints1 i1) k1) != 103) && ((getU (getd ([] : List UInt8) hints1 i1) k1) != 121), true) (by simp)))) <| obs_cons (ob_get1 (n := hints1.length) (m := hints1) strV ([] : List UInt8) Agg9 (fun _ hS => ⟨_, (hr_hints1 _ (hS.dropN 0))⟩) (fun _ hS => rfl) (fun hy => hp8 (hy (((getU (getd ([] : List UInt8) hints1 i1) k1) != 103) && ((getU (getd ([] : List UInt8) hints1 i1) k1) != 121), true) (by simp)))) <| obs_cons (ob_sidx (s := getd ([] : List UInt8) hints1 i1) (by kernel_rfl) (fun hy => hp9 (hy (((getU (getd ([] : List UInt8) hints1 i1) k1) != 103) && ((getU (getd ([] : List UInt8) hints1 i1) k1) != 121), true) (by simp)))) <| obs_nil
                refine cond_ev (t := 69) (b := (((getU (getd ([] : List UInt8) hints1 i1) k1) != 103) && ((getU (getd ([] : List UInt8) hints1 i1) k1) != 121)) && ((getU (getd ([] : List UInt8) hints1 i1) k1) != 46)) hF (by kernel_rfl) (fun hb => ?_) (fun hb => ?_)
                · replace hm := if_t hm hb
                  refine reg [] [] [4] [pl 4 (.int .i64 1)] hF hS Fol (by kernel_rfl) (by kernel_rfl) (by kernel_rfl) ?_ (fun a w hF hS => ?_)
                  · exact obs_nil
                  refine wpIn_ret ?_
                  refine block_r (then_r (then_r (block_r (block_r (then_r (then_r (block_r (then_r ?_))))))))
                  rw [← hφ2] at hm
                  replace hm := done_b hm
                  unfold gameroomref_FitsMay_K2 at hm
                  try dsimp only at hm
                  rw [← hφ1] at hm
                  replace hm := done_b hm
                  unfold gameroomref_FitsMay_K1 at hm
                  try dsimp only at hm
                  have hm : some 1 = some r := hm
                  obtain rfl := Option.some.inj hm
                  exact retV (rs := [.tmp 4]) (vs := [.int .i64 1]) hF rfl (rv_t (by kernel_rfl) <| rv_nil) rfl ⟨rfl, hS⟩
                · replace hm := if_f hm hb
                  refine wpIn_skip ?_
                  refine block_n ?_
                  refine then_n ?_
                  exact ⟨hF.weak [0, 1, 5, 8] (by kernel_rfl), hS, hm⟩
            · obtain ⟨hp3, hm⟩ := asrt_b hm
              refine reg [⟨true, [], vS (Instr.indexAt 40 (.slice A2 hints1.length c2) (.int .i64 i1)), .pointer (some (sAddr A2 i1))⟩, ⟨false, [], vS (Instr.loadAt 9 (.pointer (some (sAddr A2 i1)))), strV (getd ([] : List UInt8) hints1 i1)⟩, ⟨true, [], vS (Builtin.len_ #[9] 3 #[strV (getd ([] : List UInt8) hints1 i1)]), .int .i64 ((getd ([] : List UInt8) hints1 i1).length : Int)⟩] [none, none, none, some (.pointer (some (sAddr A2 i1))), some (strV (getd ([] : List UInt8) hints1 i1)), some (.int .i64 ((getd ([] : List UInt8) hints1 i1).length : Int)), none] [0, 1, 5, 8, 42] [pl 0 (.slice A1 guesses1.length c1), pl 1 (.slice A2 hints1.length c2), pl 5 (.int .i64 i1), pl 8 (.int .i64 k1), pl 42 (.bool (decide (k1 < ((getd ([] : List UInt8) hints1 i1).length : Int))))] hF hS Fol (by kernel_rfl) (by kernel_rfl) (by kernel_rfl) ?_ (fun a w hF hS => ?_)
              · exact obs_cons (ob_ix1 (f := strV) (m := hints1) Und40 hi9 hs9 (hr_hints1 _ (hS.dropN 0)) rfl (fun _ => hp3)) <| obs_cons (ob_get1 (n := hints1.length) (m := hints1) strV ([] : List UInt8) Agg9 (fun _ hS => ⟨_, (hr_hints1 _ (hS.dropN 0))⟩) (fun _ hS => rfl) (fun _ => hp3)) <| obs_cons (ob_slen (s := getd ([] : List UInt8) hints1 i1) (by kernel_rfl) 3) <| obs_nil
              refine cond_ev (t := 42) (b := decide (k1 < ((getd ([] : List UInt8) hints1 i1).length : Int))) hF (by kernel_rfl) (fun hb => ?_) (fun hb => ?_)
              · replace hm := if_t hm hb
                refine wpIn_skip ?_
                refine then_n ?_
                exact ⟨hF.weak [0, 1, 5, 8] (by kernel_rfl), hS, hm⟩
              · replace hm := if_f hm hb
                refine wpIn_exit ?_
                refine then_e (then_e (block_e (block_n (then_n ?_))))
                rw [← hφ2] at hm
                replace hm := done_b hm
                unfold gameroomref_FitsMay_K2 at hm
                try dsimp only at hm
                have hm : ((gameroomref_FitsMay_J4 i1)).bind φ1 = some r := hm
                exact ⟨hF.weak [0, 1, 5] (by kernel_rfl), hS, hm⟩
          · obtain ⟨hp2, hm⟩ := asrt_b hm
            refine reg [⟨true, [], vS (Instr.indexAt 40 (.slice A2 hints1.length c2) (.int .i64 i1)), .pointer (some (sAddr A2 i1))⟩, ⟨false, [], vS (Instr.loadAt 9 (.pointer (some (sAddr A2 i1)))), strV (getd ([] : List UInt8) hints1 i1)⟩, ⟨true, [], vS (Builtin.len_ #[9] 3 #[strV (getd ([] : List UInt8) hints1 i1)]), .int .i64 ((getd ([] : List UInt8) hints1 i1).length : Int)⟩] [none, none, none, none, some (.pointer (some (sAddr A2 i1))), some (strV (getd ([] : List UInt8) hints1 i1)), some (.int .i64 ((getd ([] : List UInt8) hints1 i1).length : Int)), none] [0, 1, 5, 35] [pl 0 (.slice A1 guesses1.length c1), pl 1 (.slice A2 hints1.length c2), pl 5 (.int .i64 i1), pl 35 (.bool ((r1.1.length : Int) != ((getd ([] : List UInt8) hints1 i1).length : Int)))] hF hS Fol (by kernel_rfl) (by kernel_rfl) (by kernel_rfl) ?_ (fun a w hF hS => ?_)
            · exact obs_cons (ob_ix1 (f := strV) (m := hints1) Und40 hi9 hs9 (hr_hints1 _ (hS.dropN 1)) rfl (fun _ => hp2)) <| obs_cons (ob_get1 (n := hints1.length) (m := hints1) strV ([] : List UInt8) Agg9 (fun _ hS => ⟨_, (hr_hints1 _ (hS.dropN 1))⟩) (fun _ hS => rfl) (fun _ => hp2)) <| obs_cons (ob_slen (s := getd ([] : List UInt8) hints1 i1) (by kernel_rfl) 3) <| obs_nil
            refine cond_ev (t := 35) (b := ((r1.1.length : Int) != ((getd ([] : List UInt8) hints1 i1).length : Int))) hF (by kernel_rfl) (fun hb => ?_) (fun hb => ?_)
            · replace hm := if_t hm hb
              refine reg [] [] [4] [pl 4 (.int .i64 1)] hF hS Fol (by kernel_rfl) (by kernel_rfl) (by kernel_rfl) ?_ (fun a w hF hS => ?_)
              · exact obs_nil
              refine wpIn_ret ?_
              refine then_r (block_r (then_r (then_r (block_r (then_r ?_)))))
              rw [← hφ1] at hm
              replace hm := done_b hm
              unfold gameroomref_FitsMay_K1 at hm
              try dsimp only at hm
              have hS := hS.pickN 1 [] (by decide)
              have hm : some 1 = some r := hm
              obtain rfl := Option.some.inj hm
              exact retV (rs := [.tmp 4]) (vs := [.int .i64 1]) hF rfl (rv_t (by kernel_rfl) <| rv_nil) rfl ⟨rfl, hS⟩
            · replace hm := if_f hm hb
              refine wpIn_skip ?_
              refine then_n ?_
              have hS := hS.pickN 1 [] (by decide)
              exact ⟨hF.weak [0, 1, 5] (by kernel_rfl), hS, hm⟩
      · refine reg [] [] [0, 1, 5, 17] [pl 0 (.slice A1 guesses1.length c1), pl 1 (.slice A2 hints1.length c2), pl 5 (.int .i64 i1), pl 17 (.bool (decide (i1 < (hints1.length : Int))))] hF hS Fol (by kernel_rfl) (by kernel_rfl) (by kernel_rfl) ?_ (fun a w hF hS => ?_)
        · exact obs_nil
        refine cond_ev (t := 17) (b := decide (i1 < (hints1.length : Int))) hF (by kernel_rfl) (fun hb => ?_) (fun hb => ?_)
        · replace hm := if_t hm hb
          refine wpIn_skip ?_
          refine then_n ?_
          exact ⟨hF.weak [0, 1, 5] (by kernel_rfl), hS, hm⟩
        · replace hm := if_f hm hb
          refine wpIn_exit ?_
          refine then_e (then_e (block_e (then_n ?_)))
          rw [← hφ1] at hm
          replace hm := done_b hm
          unfold gameroomref_FitsMay_K1 at hm
          try dsimp only at hm
          have hm : (gameroomref_FitsMay_J2).bind some = some r := hm
          exact ⟨hF.weak [] (by kernel_rfl), hS, hm⟩
  · refine reg [] [] [0, 1, 13] [pl 0 (.slice A1 guesses1.length c1), pl 1 (.slice A2 hints1.length c2), pl 13 (.bool ((guesses1.length : Int) != (hints1.length : Int)))] hF hS Fol (by kernel_rfl) (by kernel_rfl) (by kernel_rfl) ?_ (fun a w hF hS => ?_)
    · exact obs_nil
    refine cond_ev (t := 13) (b := ((guesses1.length : Int) != (hints1.length : Int))) hF (by kernel_rfl) (fun hb => ?_) (fun hb => ?_)
    · replace hm := if_t hm hb
      refine reg [] [] [4] [pl 4 (.int .i64 11)] hF hS Fol (by kernel_rfl) (by kernel_rfl) (by kernel_rfl) ?_ (fun a w hF hS => ?_)
      · exact obs_nil
      refine wpIn_ret ?_
      refine then_r ?_
      have hm : some 11 = some r := hm
      obtain rfl := Option.some.inj hm
      exact retV (rs := [.tmp 4]) (vs := [.int .i64 11]) hF rfl (rv_t (by kernel_rfl) <| rv_nil) rfl ⟨rfl, hS⟩
    · replace hm := if_f hm hb
      refine wpIn_skip ?_
      refine then_n ?_
      exact ⟨hF.weak [0, 1] (by kernel_rfl), hS, hm⟩

noncomputable def gameroomref_SortedWords_J5  (k1 : Int) : Option (St Int Int) :=
  some (.next (w64 (k1 + 1)))

noncomputable def gameroomref_SortedWords_J3  (i1 : Int) (out3 : List (List UInt8)) : Option (St (List (List UInt8) × Int) (List (List UInt8))) :=
  some (.next (out3, (w64 (i1 + 1))))

noncomputable def gameroomref_SortedWords_J6  (l1 : List (List UInt8)) (out1 : List (List UInt8)) (i1 : Int) (k2 : Int) : Option (St (List (List UInt8) × Int) (List (List UInt8))) :=
  asrt (0 ≤ (0 : Int) ∧ (0 : Int) ≤ k2 ∧ k2 ≤ (out1.length : Int)) <| asrt ((0 : Int) + (((cut out1 (0 : Int) k2).length : Nat) : Int) ≤ bigP) <| asrt (0 ≤ i1 ∧ i1 < (l1.length : Int)) <| asrt (((([] ++ (cut out1 (0 : Int) k2)).length : Nat) : Int) + 1 ≤ bigP) <| asrt (0 ≤ k2 ∧ k2 ≤ (out1.length : Int) ∧ (out1.length : Int) ≤ (out1.length : Int)) <| asrt ((((([] ++ (cut out1 (0 : Int) k2)) ++ ([getd ([] : List UInt8) l1 i1] : List (List UInt8))).length : Nat) : Int) + (((cut out1 k2 (out1.length : Int)).length : Nat) : Int) ≤ bigP) <| (gameroomref_SortedWords_J3 i1) ((([] ++ (cut out1 (0 : Int) k2)) ++ ([getd ([] : List UInt8) l1 i1] : List (List UInt8))) ++ (cut out1 k2 (out1.length : Int)))

noncomputable def gameroomref_SortedWords_J4  (l1 : List (List UInt8)) (out1 : List (List UInt8)) (i1 : Int) (k2 : Int) : Option (St (List (List UInt8) × Int) (List (List UInt8))) :=
  asrt ((decide (k2 < (out1.length : Int))) = true → 0 ≤ k2 ∧ k2 < (out1.length : Int)) <| asrt ((decide (k2 < (out1.length : Int))) = true → 0 ≤ i1 ∧ i1 < (l1.length : Int)) <| if ((decide (k2 < (out1.length : Int))) && ((getd ([] : List UInt8) out1 k2) == (getd ([] : List UInt8) l1 i1))) then ((gameroomref_SortedWords_J3 i1) out1) else ((gameroomref_SortedWords_J6 l1 out1 i1 k2))

noncomputable def gameroomref_SortedWords_K2  (l1 : List (List UInt8)) (out1 : List (List UInt8)) (i1 : Int) : Int → Option (St (List (List UInt8) × Int) (List (List UInt8))) :=
  fun (x : Int) => match x with | k2 => (gameroomref_SortedWords_J4 l1 out1 i1) k2

noncomputable def gameroomref_SortedWords_L2  (l1 : List (List UInt8)) (out1 : List (List UInt8)) (i1 : Int) : Int → Option (St Int Int) :=
  fun (x : Int) => match x with | k1 => asrt ((decide (k1 < (out1.length : Int))) = true → 0 ≤ k1 ∧ k1 < (out1.length : Int)) <| asrt ((decide (k1 < (out1.length : Int))) = true → 0 ≤ i1 ∧ i1 < (l1.length : Int)) <| if ((decide (k1 < (out1.length : Int))) && (Op.bytesLess (getd ([] : List UInt8) out1 k1) (getd ([] : List UInt8) l1 i1))) then ((gameroomref_SortedWords_J5 k1)) else (some (.done k1))

noncomputable def gameroomref_SortedWords_J2  (l1 : List (List UInt8)) (out1 : List (List UInt8)) (i1 : Int) : Option (St (List (List UInt8) × Int) (List (List UInt8))) :=
  (loop (gameroomref_SortedWords_L2 l1 out1 i1) 0).bind (gameroomref_SortedWords_K2 l1 out1 i1)

noncomputable def gameroomref_SortedWords_J1  (out2 : List (List UInt8)) : Option (List (List UInt8)) :=
  some out2

noncomputable def gameroomref_SortedWords_K1  : (List (List UInt8)) → Option (List (List UInt8)) :=
  fun (x : (List (List UInt8))) => match x with | out2 => gameroomref_SortedWords_J1 out2

noncomputable def gameroomref_SortedWords_L1  (l1 : List (List UInt8)) : (List (List UInt8) × Int) → Option (St (List (List UInt8) × Int) (List (List UInt8))) :=
  fun (x : (List (List UInt8) × Int)) => match x with | (out1, i1) => if (decide (i1 < (l1.length : Int))) then ((gameroomref_SortedWords_J2 l1 out1 i1)) else (some (.done out1))
end Go.Proofs.YtdbdcbejmbpbmaaDoor
