/-
  Models and walks, printed by our own program (wip/gen).
-/
import Derived.Test.YtnplejebgbdfpaaFA
namespace Go.Proofs.Ytnplejebgbdfpaa
open Go Go.GL Go.RowKit


noncomputable def gameroomlaw_sameInts_J2 : Option Bool :=
  some true

noncomputable def gameroomlaw_sameInts_K1 : (Fl Unit Bool) → Option Bool :=
  fun (x : (Fl Unit Bool)) => match x with | .go () => gameroomlaw_sameInts_J2 | .ret x => some x

noncomputable def gameroomlaw_sameInts_J4 (i1 : Int) : Option (St Int (Fl Unit Bool)) :=
  some (.next (w64 (i1 + 1)))

noncomputable def gameroomlaw_sameInts_J3 (a1 : List Int) (b1 : List Int) (i1 : Int) : Option (St Int (Fl Unit Bool)) :=
  asrt (0 ≤ i1 ∧ i1 < (a1.length : Int)) <| asrt (0 ≤ i1 ∧ i1 < (b1.length : Int)) <| if ((geti a1 i1) != (geti b1 i1)) then (some (.done (.ret false))) else ((gameroomlaw_sameInts_J4 i1))

noncomputable def gameroomlaw_sameInts_L1 (a1 : List Int) (b1 : List Int) : Int → Option (St Int (Fl Unit Bool)) :=
  fun (x : Int) => match x with | i1 => if (decide (i1 < (a1.length : Int))) then ((gameroomlaw_sameInts_J3 a1 b1 i1)) else (some (.done (.go ())))

noncomputable def gameroomlaw_sameInts_J1 (a1 : List Int) (b1 : List Int) : Option Bool :=
  (loop (gameroomlaw_sameInts_L1 a1 b1) 0).bind gameroomlaw_sameInts_K1

noncomputable def gameroomlaw_sameInts_m (a1 : List Int) (b1 : List Int) : Option Bool :=
  if ((a1.length : Int) != (b1.length : Int)) then (some false) else ((gameroomlaw_sameInts_J1 a1 b1))

set_option maxRecDepth 100000 in
set_option maxHeartbeats 4000000 in
theorem gameroomlaw_sameInts_w {A1 : Option Addr} {c1 : Nat} {a1 : List Int} {A2 : Option Addr} {c2 : Nat} {b1 : List Int} {r : Bool} {w0 : World} (hm : gameroomlaw_sameInts_m a1 b1 = some r) (hr_a1 : Rd w0 w0.heap.size A1 (vI a1)) (_hc_a1 : a1.length ≤ c1) (hr_b1 : Rd w0 w0.heap.size A2 (vI b1)) (_hc_b1 : b1.length ≤ c2) :
    Calls Try.prog 17 #[.slice A1 a1.length c1, .slice A2 b1.length c2] w0 fun e w' => e = .returned (.bool r) ∧ Sep w0 w0.heap.size w' [] := by
  obtain ⟨i3, hi3, hz3, hs3, hb3⟩ := info_parts Info3
  unfold gameroomlaw_sameInts_m at hm
  replace hm := start_b hm
  refine enterS (l := [.slice A1 a1.length c1, .slice A2 b1.length c2]) (n := 26) Try.func17 rfl rfl (by simp) (fun a w hF hS => ?_)
  refine reg [] [] [0, 1] [pl 0 (.slice A1 a1.length c1), pl 1 (.slice A2 b1.length c2)] hF hS Fol (by kernel_rfl) (by kernel_rfl) (by kernel_rfl) ?_ (fun a w hF hS => ?_)
  · exact obs_nil
  refine seq_cut (fun a w => Fr 26 [pl 0 (.slice A1 a1.length c1), pl 1 (.slice A2 b1.length c2)] a ∧ Sep w0 w0.heap.size w [] ∧ ((gameroomlaw_sameInts_J1 a1 b1)).bind some = some r) ?_ ?_
  · rintro a w ⟨hF, hS, hm⟩
    unfold gameroomlaw_sameInts_J1 at hm
    refine seq_cut (fun a w => Fr 26 [] a ∧ Sep w0 w0.heap.size w [] ∧ (gameroomlaw_sameInts_J2).bind some = some r) ?_ ?_
    · rintro a w ⟨hF, hS, hm⟩
      unfold gameroomlaw_sameInts_J2 at hm
      refine reg [] [] [4] [pl 4 (.bool true)] hF hS Fol (by kernel_rfl) (by kernel_rfl) (by kernel_rfl) ?_ (fun a w hF hS => ?_)
      · exact obs_nil
      refine wp_ret ?_
      have hm : some true = some r := hm
      obtain rfl := Option.some.inj hm
      exact ret1 (t := 4) (v := .bool true) hF rfl (by kernel_rfl) ⟨rfl, hS⟩
    · refine reg [] [] [0, 1, 5] [pl 0 (.slice A1 a1.length c1), pl 1 (.slice A2 b1.length c2), pl 5 (.int .i64 0)] hF hS Fol (by kernel_rfl) (by kernel_rfl) (by kernel_rfl) ?_ (fun a w hF hS => ?_)
      · exact obs_nil
      refine wp_block ?_
      refine wp_loop_model (S := Int) (R := (Fl Unit Bool)) (gameroomlaw_sameInts_L1 a1 b1) (fun x => (gameroomlaw_sameInts_K1 x).bind some) r (fun (x : Int) a w => Fr 26 [pl 0 (.slice A1 a1.length c1), pl 1 (.slice A2 b1.length c2), pl 5 (.int .i64 x)] a ∧ Sep w0 w0.heap.size w []) (assoc_b hm) ⟨hF.weak [0, 1, 5] (by kernel_rfl), hS⟩ ?_
      clear hF hS hm
      rintro nn1 i1 a w ⟨hF, hS⟩ hm
      generalize hφ1 : stK (gameroomlaw_sameInts_L1 a1 b1) nn1 (fun x => (gameroomlaw_sameInts_K1 x).bind some) = φ1 at hm
      unfold gameroomlaw_sameInts_L1 at hm
      dsimp only at hm
      refine seq_cut (fun a w => Fr 26 [pl 0 (.slice A1 a1.length c1), pl 1 (.slice A2 b1.length c2), pl 5 (.int .i64 i1)] a ∧ Sep w0 w0.heap.size w [] ∧ ((gameroomlaw_sameInts_J3 a1 b1 i1)).bind φ1 = some r) ?_ ?_
      · rintro a w ⟨hF, hS, hm⟩
        unfold gameroomlaw_sameInts_J3 at hm
        refine seq_cut (fun a w => Fr 26 [pl 0 (.slice A1 a1.length c1), pl 1 (.slice A2 b1.length c2), pl 5 (.int .i64 i1)] a ∧ Sep w0 w0.heap.size w [] ∧ ((gameroomlaw_sameInts_J4 i1)).bind φ1 = some r) ?_ ?_
        · rintro a w ⟨hF, hS, hm⟩
          unfold gameroomlaw_sameInts_J4 at hm
          refine reg1 [] [] [0, 1, 5] [pl 0 (.slice A1 a1.length c1), pl 1 (.slice A2 b1.length c2), pl 5 (.int .i64 (w64 (i1 + 1)))] hF hS Fol (by kernel_rfl) (by kernel_rfl) (by kernel_rfl) ?_ (fun a w hF hS => ?_)
          · exact obs_nil
          refine then_n ?_
          rw [← hφ1] at hm
          exact ⟨(w64 (i1 + 1)), ⟨hF.weak [0, 1, 5] (by kernel_rfl), hS⟩, hm⟩
        · refine wp_block ?_
          obtain ⟨hp1, hm⟩ := asrt_b hm
          obtain ⟨hp2, hm⟩ := asrt_b hm
          refine reg [⟨true, [], vS (Instr.indexAt 22 (.slice A1 a1.length c1) (.int .i64 i1)), .pointer (some (sAddr A1 i1))⟩, ⟨false, [], vS (Instr.loadAt 3 (.pointer (some (sAddr A1 i1)))), .int .i64 (geti a1 i1)⟩, ⟨true, [], vS (Instr.indexAt 22 (.slice A2 b1.length c2) (.int .i64 i1)), .pointer (some (sAddr A2 i1))⟩, ⟨false, [], vS (Instr.loadAt 3 (.pointer (some (sAddr A2 i1)))), .int .i64 (geti b1 i1)⟩] [none, none, some (.pointer (some (sAddr A1 i1))), some (.int .i64 (geti a1 i1)), none, none, some (.pointer (some (sAddr A2 i1))), some (.int .i64 (geti b1 i1)), none] [0, 1, 5, 25] [pl 0 (.slice A1 a1.length c1), pl 1 (.slice A2 b1.length c2), pl 5 (.int .i64 i1), pl 25 (.bool ((geti a1 i1) != (geti b1 i1)))] hF hS Fol (by kernel_rfl) (by kernel_rfl) (by kernel_rfl) ?_ (fun a w hF hS => ?_)
          · exact obs_cons (ob_ixI Und22 hi3 hs3 (hr_a1.sep hS) (fun _ => hp1)) <| obs_cons (ob_geti Agg3 (fun _ hS => ⟨_, (hr_a1.sep hS)⟩) (fun _ => hp1)) <| obs_cons (ob_ixI Und22 hi3 hs3 (hr_b1.sep hS) (fun _ => hp2)) <| obs_cons (ob_geti Agg3 (fun _ hS => ⟨_, (hr_b1.sep hS)⟩) (fun _ => hp2)) <| obs_nil
          refine cond_ev (t := 25) (b := ((geti a1 i1) != (geti b1 i1))) hF (by kernel_rfl) (fun hb => ?_) (fun hb => ?_)
          · replace hm := if_t hm hb
            refine reg [] [] [4] [pl 4 (.bool false)] hF hS Fol (by kernel_rfl) (by kernel_rfl) (by kernel_rfl) ?_ (fun a w hF hS => ?_)
            · exact obs_nil
            refine wp_ret ?_
            refine block_r (then_r (then_r (block_r (then_r ?_))))
            rw [← hφ1] at hm
            have hm : some false = some r := hm
            obtain rfl := Option.some.inj hm
            exact ret1 (t := 4) (v := .bool false) hF rfl (by kernel_rfl) ⟨rfl, hS⟩
          · replace hm := if_f hm hb
            refine wp_skip ?_
            refine block_n ?_
            refine then_n ?_
            exact ⟨hF.weak [0, 1, 5] (by kernel_rfl), hS, hm⟩
      · refine reg [] [] [0, 1, 5, 14] [pl 0 (.slice A1 a1.length c1), pl 1 (.slice A2 b1.length c2), pl 5 (.int .i64 i1), pl 14 (.bool (decide (i1 < (a1.length : Int))))] hF hS Fol (by kernel_rfl) (by kernel_rfl) (by kernel_rfl) ?_ (fun a w hF hS => ?_)
        · exact obs_nil
        refine cond_ev (t := 14) (b := decide (i1 < (a1.length : Int))) hF (by kernel_rfl) (fun hb => ?_) (fun hb => ?_)
        · replace hm := if_t hm hb
          refine wp_skip ?_
          refine then_n ?_
          exact ⟨hF.weak [0, 1, 5] (by kernel_rfl), hS, hm⟩
        · replace hm := if_f hm hb
          refine wp_exit ?_
          refine then_e (then_e (block_e (then_n ?_)))
          rw [← hφ1] at hm
          have hm : (gameroomlaw_sameInts_J2).bind some = some r := hm
          exact ⟨hF.weak [] (by kernel_rfl), hS, hm⟩
  · refine reg [] [] [0, 1, 10] [pl 0 (.slice A1 a1.length c1), pl 1 (.slice A2 b1.length c2), pl 10 (.bool ((a1.length : Int) != (b1.length : Int)))] hF hS Fol (by kernel_rfl) (by kernel_rfl) (by kernel_rfl) ?_ (fun a w hF hS => ?_)
    · exact obs_nil
    refine cond_ev (t := 10) (b := ((a1.length : Int) != (b1.length : Int))) hF (by kernel_rfl) (fun hb => ?_) (fun hb => ?_)
    · replace hm := if_t hm hb
      refine reg [] [] [4] [pl 4 (.bool false)] hF hS Fol (by kernel_rfl) (by kernel_rfl) (by kernel_rfl) ?_ (fun a w hF hS => ?_)
      · exact obs_nil
      refine wp_ret ?_
      refine then_r ?_
      have hm : some false = some r := hm
      obtain rfl := Option.some.inj hm
      exact ret1 (t := 4) (v := .bool false) hF rfl (by kernel_rfl) ⟨rfl, hS⟩
    · replace hm := if_f hm hb
      refine wp_skip ?_
      refine then_n ?_
      exact ⟨hF.weak [0, 1] (by kernel_rfl), hS, hm⟩

noncomputable def gameroomlaw_ints_m (l1 : List Int) : Option (List Int) :=
  asrt ((([] : List Int).length : Int) + l1.length ≤ bigN) <| some ([] ++ l1)

def gameroomlaw_ints_post (r : (List Int)) (v : Value) (w0 w' : World) : Prop := ∃ (A0 : Option Addr) (c0 : Nat), v = .slice A0 r.length c0 ∧ Sep w0 w0.heap.size w' [own 3 (.slice A0 r.length c0) (vI r)]

set_option maxRecDepth 100000 in
set_option maxHeartbeats 4000000 in
theorem gameroomlaw_ints_w {A1 : Option Addr} {c1 : Nat} {l1 : List Int} {r : (List Int)} {w0 : World} (hm : gameroomlaw_ints_m l1 = some r) (hr_l1 : Rd w0 w0.heap.size A1 (vI l1)) (_hc_l1 : l1.length ≤ c1) :
    Calls Try.prog 16 #[.slice A1 l1.length c1] w0 fun e w' => ∃ v, e = .returned v ∧ gameroomlaw_ints_post r v w0 w' := by
  obtain ⟨i3, hi3, hz3, hs3, hb3⟩ := info_parts Info3
  unfold gameroomlaw_ints_m at hm
  replace hm := start_b hm
  refine enterS (l := [.slice A1 l1.length c1]) (n := 5) Try.func16 rfl rfl (by simp) (fun a w hF hS => ?_)
  refine reg [] [] [0] [pl 0 (.slice A1 l1.length c1)] hF hS Fol (by kernel_rfl) (by kernel_rfl) (by kernel_rfl) ?_ (fun a w hF hS => ?_)
  · exact obs_nil
  obtain ⟨hp1, hm⟩ := asrt_b hm
  refine seqR ?_
  refine at_run 1 [] [] [3] [pl 3 (.slice A1 l1.length c1)] hF hS (by kernel_rfl) (by kernel_rfl) ?_ (fun a w hF hS => ?_)
  · exact obs_nil
  have hS := hS.nil 3
  obtain ⟨A2, c2, w, hrun, hS⟩ := run_appI (P := Try.prog) (t := 22) (xs := ([] : List Int)) (ys := l1) (m := l1.length) (c := c1) (hS.at_ 0 rfl) (hr_l1.sep hS) (by rfl) 22 Und22 hi3 hz3 hs3 hb3 hp1
  have hS : Sep w0 w0.heap.size w [own 3 (.slice A2 ([] ++ l1).length c2) (vI ([] ++ l1))] := hS
  refine at_do (d := 4) hF (by kernel_rfl) (by kernel_rfl) hrun (fun a hF => ?_)
  refine at_run 1 [] [] [2] [pl 2 (.slice A2 ([] ++ l1).length c2)] hF hS (by kernel_rfl) (by kernel_rfl) ?_ (fun a w hF hS => ?_)
  · exact obs_nil
  refine at_end [2] [pl 2 (.slice A2 ([] ++ l1).length c2)] hF rfl (by kernel_rfl) (fun hF => ?_)
  refine then_n ?_
  refine wp_ret ?_
  have hm : some ([] ++ l1) = some r := hm
  obtain rfl := Option.some.inj hm
  exact ret1 (t := 2) (v := .slice A2 ([] ++ l1).length c2) hF rfl (by kernel_rfl) ⟨_, rfl, A2, c2, rfl, hS⟩

noncomputable def slices_Clone_J1 (s1 : List Int) : Option (List Int) :=
  asrt ((([] : List Int).length : Int) + s1.length ≤ bigN) <| some (([] : List Int) ++ s1)

noncomputable def slices_Clone_m (s1 : List Int) : Option (List Int) :=
  (slices_Clone_J1 s1)

def slices_Clone_post (r : (List Int)) (v : Value) (w0 w' : World) : Prop := ∃ (A0 : Option Addr) (c0 : Nat), v = .slice A0 r.length c0 ∧ Sep w0 w0.heap.size w' [own 3 (.slice A0 r.length c0) (vI r)]

set_option maxRecDepth 100000 in
set_option maxHeartbeats 4000000 in
theorem slices_Clone_w {A1 : Option Addr} {c1 : Nat} {s1 : List Int} {r : (List Int)} {w0 : World} (hm : slices_Clone_m s1 = some r) (hr_s1 : Rd w0 w0.heap.size A1 (vI s1)) (_hc_s1 : s1.length ≤ c1) :
    Calls Try.prog 54 #[.slice A1 s1.length c1] w0 fun e w' => ∃ v, e = .returned v ∧ slices_Clone_post r v w0 w' := by
  obtain ⟨i3, hi3, hz3, hs3, hb3⟩ := info_parts Info3
  unfold slices_Clone_m at hm
  replace hm := start_b hm
  refine enterS (l := [.slice A1 s1.length c1]) (n := 8) Try.func54 rfl rfl (by simp) (fun a w hF hS => ?_)
  refine reg [] [] [0] [pl 0 (.slice A1 s1.length c1)] hF hS Fol (by kernel_rfl) (by kernel_rfl) (by kernel_rfl) ?_ (fun a w hF hS => ?_)
  · exact obs_nil
  refine seq_cut (fun a w => Fr 8 [pl 0 (.slice A1 s1.length c1)] a ∧ Sep w0 w0.heap.size w [] ∧ ((slices_Clone_J1 s1)).bind some = some r) ?_ ?_
  · rintro a w ⟨hF, hS, hm⟩
    unfold slices_Clone_J1 at hm
    obtain ⟨hp1, hm⟩ := asrt_b hm
    refine seqR ?_
    refine at_do (d := 5) (s := vS (Instr.buildSlice 22 0 #[])) (v := .slice (some ⟨w.heap.size, 0, none⟩) 0 0) (w' := w.alloc (.cells #[] 3)) hF (by kernel_rfl) (by kernel_rfl) (by kernel_rfl) (fun a hF => ?_)
    have hS : Sep w0 w0.heap.size (w.alloc (.cells #[] 3)) (own 3 (.slice (some (⟨w.heap.size, 0, none⟩ : Addr)) ([] : List Int).length 0) (vI ([] : List Int)) :: []) := hS.lit 3 #[] 0 rfl (by omega)
    generalize (some (⟨w.heap.size, 0, none⟩ : Addr)) = g1 at hF hS
    generalize w.alloc (.cells #[] 3) = w at hS ⊢
    refine at_run 1 [] [] [5, 6] [pl 5 (.slice g1 ([] : List Int).length 0), pl 6 (.slice A1 s1.length c1)] hF hS (by kernel_rfl) (by kernel_rfl) ?_ (fun a w hF hS => ?_)
    · exact obs_nil
    obtain ⟨A2, c2, w, hrun, hS⟩ := run_appI (P := Try.prog) (t := 22) (xs := ([] : List Int)) (ys := s1) (m := s1.length) (c := c1) (hS.at_ 0 rfl) (hr_s1.sep hS) (by rfl) 22 Und22 hi3 hz3 hs3 hb3 hp1
    have hS : Sep w0 w0.heap.size w [own 3 (.slice A2 (([] : List Int) ++ s1).length c2) (vI (([] : List Int) ++ s1))] := hS
    refine at_do (d := 7) hF (by kernel_rfl) (by kernel_rfl) hrun (fun a hF => ?_)
    refine at_run 1 [] [] [2] [pl 2 (.slice A2 (([] : List Int) ++ s1).length c2)] hF hS (by kernel_rfl) (by kernel_rfl) ?_ (fun a w hF hS => ?_)
    · exact obs_nil
    refine at_end [2] [pl 2 (.slice A2 (([] : List Int) ++ s1).length c2)] hF rfl (by kernel_rfl) (fun hF => ?_)
    refine then_n ?_
    refine wp_ret ?_
    have hm : some (([] : List Int) ++ s1) = some r := hm
    obtain rfl := Option.some.inj hm
    exact ret1 (t := 2) (v := .slice A2 (([] : List Int) ++ s1).length c2) hF rfl (by kernel_rfl) ⟨_, rfl, A2, c2, rfl, hS⟩
  · refine reg [⟨true, [], vS (binOp .eql 22 (.slice A1 s1.length c1) (.slice none 0 0)), .bool A1.isNone⟩] [none, some (.bool A1.isNone)] [0, 4] [pl 0 (.slice A1 s1.length c1), pl 4 (.bool A1.isNone)] hF hS Fol (by kernel_rfl) (by kernel_rfl) (by kernel_rfl) ?_ (fun a w hF hS => ?_)
    · exact obs_cons (ob_isnil Und22 rfl) <| obs_nil
    refine cond_ev (t := 4) (b := A1.isNone) hF (by kernel_rfl) (fun hb => ?_) (fun hb => ?_)
    · have hA9 := Option.isNone_iff_eq_none.1 hb
      have hnil9 : s1 = [] := by have h9 := (hr_s1.sep hS); rw [hA9] at h9; exact h9.none_nil
      have hm : (some ([] : List Int)).bind some = some r := by rw [hnil9] at hm; simpa [asrt, bigN, slices_Clone_J1] using hm
      refine reg [] [] [2] [pl 2 (.slice none 0 0)] hF hS Fol (by kernel_rfl) (by kernel_rfl) (by kernel_rfl) ?_ (fun a w hF hS => ?_)
      · exact obs_nil
      refine wp_ret ?_
      refine then_r ?_
      have hS := hS.nil 3
      have hm : some ([] : List Int) = some r := hm
      obtain rfl := Option.some.inj hm
      exact ret1 (t := 2) (v := .slice none 0 0) hF rfl (by kernel_rfl) ⟨_, rfl, none, 0, rfl, hS⟩
    · refine wp_skip ?_
      refine then_n ?_
      exact ⟨hF.weak [0] (by kernel_rfl), hS, hm⟩

noncomputable def slices_Grow_nil_J2 (s2 : List Int) : Option (List Int) :=
  some s2

noncomputable def slices_Grow_nil_J1 (n1 : Int) : Option (List Int) :=
  if (decide ((0 : Int) < (w64 (n1 - (w64 (0 - (([] : List Int).length : Int))))))) then (asrt (0 ≤ (w64 (n1 - (w64 (0 - (([] : List Int).length : Int))))) ∧ (w64 (n1 - (w64 (0 - (([] : List Int).length : Int))))) ≤ bigN) <| asrt (0 ≤ (0 : Int) ∧ (0 : Int) ≤ (([] : List Int).length : Int) ∧ (([] : List Int).length : Int) ≤ ((List.replicate (Int.toNat (w64 (n1 - (w64 (0 - (([] : List Int).length : Int)))))) (0 : Int)).length : Int)) <| slices_Grow_nil_J2 (cut (List.replicate (Int.toNat (w64 (n1 - (w64 (0 - (([] : List Int).length : Int)))))) (0 : Int)) (0 : Int) (([] : List Int).length : Int))) else (slices_Grow_nil_J2 ([] : List Int))

noncomputable def slices_Grow_nil_m (n1 : Int) : Option (List Int) :=
  if (decide (n1 < 0)) then none else ((slices_Grow_nil_J1 n1))

def slices_Grow_nil_post (r : (List Int)) (v : Value) (w0 w' : World) : Prop := ∃ (A0 : Option Addr) (c0 : Nat), v = .slice A0 r.length c0 ∧ Sep w0 w0.heap.size w' [own 3 (.slice A0 r.length c0) (vI r)]

set_option maxRecDepth 100000 in
set_option maxHeartbeats 4000000 in
theorem slices_Grow_nil_w {n1 : Int} {r : (List Int)} {w0 : World} (hm : slices_Grow_nil_m n1 = some r) :
    Calls Try.prog 93 #[.slice none 0 0, .int .i64 n1] w0 fun e w' => ∃ v, e = .returned v ∧ slices_Grow_nil_post r v w0 w' := by
  obtain ⟨i3, hi3, hz3, hs3, hb3⟩ := info_parts Info3
  unfold slices_Grow_nil_m at hm
  replace hm := start_b hm
  refine enterS (l := [.slice none 0 0, .int .i64 n1]) (n := 27) Try.func93 rfl rfl (by simp) (fun a w hF hS => ?_)
  refine reg [] [] [0, 1] [pl 0 (.slice none 0 0), pl 1 (.int .i64 n1)] hF hS Fol (by kernel_rfl) (by kernel_rfl) (by kernel_rfl) ?_ (fun a w hF hS => ?_)
  · exact obs_nil
  refine seq_cut (fun a w => Fr 27 [pl 0 (.slice none 0 0), pl 1 (.int .i64 n1)] a ∧ Sep w0 w0.heap.size w [] ∧ ((slices_Grow_nil_J1 n1)).bind some = some r) ?_ ?_
  · rintro a w ⟨hF, hS, hm⟩
    unfold slices_Grow_nil_J1 at hm
    refine seq_cut (fun a w => ∃ (s2 : List Int) (A1 : Option Addr) (c1 : Nat), Fr 27 [pl 0 (.slice A1 s2.length c1)] a ∧ Sep w0 w0.heap.size w [own 3 (.slice A1 s2.length c1) (vI s2)] ∧ (slices_Grow_nil_J2 s2).bind some = some r) ?_ ?_
    · rintro a w ⟨s2, A1, c1, hF, hS, hm⟩
      unfold slices_Grow_nil_J2 at hm
      refine reg [] [] [4] [pl 4 (.slice A1 s2.length c1)] hF hS Fol (by kernel_rfl) (by kernel_rfl) (by kernel_rfl) ?_ (fun a w hF hS => ?_)
      · exact obs_nil
      refine wp_ret ?_
      have hm : some s2 = some r := hm
      obtain rfl := Option.some.inj hm
      exact ret1 (t := 4) (v := .slice A1 s2.length c1) hF rfl (by kernel_rfl) ⟨_, rfl, A1, c1, rfl, hS⟩
    · refine reg [] [] [0, 1] [pl 0 (.slice none 0 0), pl 1 (.int .i64 (w64 (n1 - (w64 (0 - (([] : List Int).length : Int))))))] hF hS Fol (by kernel_rfl) (by kernel_rfl) (by kernel_rfl) ?_ (fun a w hF hS => ?_)
      · exact obs_nil
      refine reg [] [] [0, 1, 16] [pl 0 (.slice none 0 0), pl 1 (.int .i64 (w64 (n1 - (w64 (0 - (([] : List Int).length : Int)))))), pl 16 (.bool (decide ((0 : Int) < (w64 (n1 - (w64 (0 - (([] : List Int).length : Int))))))))] hF hS Fol (by kernel_rfl) (by kernel_rfl) (by kernel_rfl) ?_ (fun a w hF hS => ?_)
      · exact obs_nil
      refine cond_ev (t := 16) (b := decide ((0 : Int) < (w64 (n1 - (w64 (0 - (([] : List Int).length : Int))))))) hF (by kernel_rfl) (fun hb => ?_) (fun hb => ?_)
      · replace hm := if_t hm hb
        obtain ⟨hp1, hm⟩ := asrt_b hm
        obtain ⟨hp2, hm⟩ := asrt_b hm
        refine oneR ?_
        refine at_run 5 [⟨true, [], vS (Instr.sliceAt 22 (.slice none 0 0) none (some (.int .i64 0)) none), .slice none 0 0⟩] [none, none, none, some (.slice none 0 0), none] [0, 20, 21] [pl 0 (.slice none 0 0), pl 20 (.slice none 0 0), pl 21 (.int .i64 (w64 (n1 - (w64 (0 - (([] : List Int).length : Int))))))] hF hS (by kernel_rfl) (by kernel_rfl) ?_ (fun a w hF hS => ?_)
        · exact obs_cons (ob_cut (k := .i64) (k' := .i64) (A := none) (l := ([] : List Int)) (c := 0) (lo := 0) (hi := 0) Und22 hi3 hs3 (.inr ⟨rfl, rfl⟩) (.inl rfl) (fun _ => by simp) (Nat.le_refl _)) <| obs_nil
        obtain ⟨A2, c2, w, hrun, hS⟩ := run_app0I (P := Try.prog) (t := 22) (tx := 3) (ty := 22) hS Und22 Try.underlying3 hi3 hz3 hs3 hb3 hp1
        refine at_do (d := 22) hF (by kernel_rfl) (by kernel_rfl) hrun (fun a hF => ?_)
        refine at_run 4 [⟨true, [], vS (Instr.sliceAt 22 (.slice A2 (List.replicate (Int.toNat (w64 (n1 - (w64 (0 - (([] : List Int).length : Int)))))) (0 : Int)).length c2) none (some (.int .i64 (([] : List Int).length : Int))) none), .slice (cutAddr A2 c2 (0 : Int)) (cut (List.replicate (Int.toNat (w64 (n1 - (w64 (0 - (([] : List Int).length : Int)))))) (0 : Int)) (0 : Int) (([] : List Int).length : Int)).length (c2 - Int.toNat (0 : Int))⟩] [none, none, some (.slice (cutAddr A2 c2 (0 : Int)) (cut (List.replicate (Int.toNat (w64 (n1 - (w64 (0 - (([] : List Int).length : Int)))))) (0 : Int)) (0 : Int) (([] : List Int).length : Int)).length (c2 - Int.toNat (0 : Int))), none] [0] [pl 0 (.slice (cutAddr A2 c2 (0 : Int)) (cut (List.replicate (Int.toNat (w64 (n1 - (w64 (0 - (([] : List Int).length : Int)))))) (0 : Int)) (0 : Int) (([] : List Int).length : Int)).length (c2 - Int.toNat (0 : Int)))] hF hS (by kernel_rfl) (by kernel_rfl) ?_ (fun a w hF hS => ?_)
        · exact obs_cons (ob_cut (k := .i64) (k' := .i64) Und22 hi3 hs3 (.inr ⟨rfl, rfl⟩) (.inl rfl) (fun _ => hp2) (hS.at_ 0 rfl).cap) <| obs_nil
        refine at_end [0] [pl 0 (.slice (cutAddr A2 c2 (0 : Int)) (cut (List.replicate (Int.toNat (w64 (n1 - (w64 (0 - (([] : List Int).length : Int)))))) (0 : Int)) (0 : Int) (([] : List Int).length : Int)).length (c2 - Int.toNat (0 : Int)))] hF rfl (by kernel_rfl) (fun hF => ?_)
        refine then_n ?_
        have hS := (hS.at_ 0 rfl).prefixI rfl hp2
        have hS : Sep w0 w0.heap.size w [own 3 (.slice (cutAddr A2 c2 (0 : Int)) (cut (List.replicate (Int.toNat (w64 (n1 - (w64 (0 - (([] : List Int).length : Int)))))) (0 : Int)) (0 : Int) (([] : List Int).length : Int)).length (c2 - Int.toNat (0 : Int))) (vI (cut (List.replicate (Int.toNat (w64 (n1 - (w64 (0 - (([] : List Int).length : Int)))))) (0 : Int)) (0 : Int) (([] : List Int).length : Int)))] := hS
        exact ⟨(cut (List.replicate (Int.toNat (w64 (n1 - (w64 (0 - (([] : List Int).length : Int)))))) (0 : Int)) (0 : Int) (([] : List Int).length : Int)), (cutAddr A2 c2 (0 : Int)), (c2 - Int.toNat (0 : Int)), hF.weak [0] (by kernel_rfl), hS, hm⟩
      · replace hm := if_f hm hb
        refine wp_skip ?_
        refine then_n ?_
        have hS := hS.nil 3
        exact ⟨([] : List Int), none, 0, hF.weak [0] (by kernel_rfl), hS, hm⟩
  · refine reg [] [] [0, 1, 6] [pl 0 (.slice none 0 0), pl 1 (.int .i64 n1), pl 6 (.bool (decide (n1 < 0)))] hF hS Fol (by kernel_rfl) (by kernel_rfl) (by kernel_rfl) ?_ (fun a w hF hS => ?_)
    · exact obs_nil
    refine cond_ev (t := 6) (b := decide (n1 < 0)) hF (by kernel_rfl) (fun hb => ?_) (fun hb => ?_)
    · replace hm := if_t hm hb
      simp at hm
    · replace hm := if_f hm hb
      refine wp_skip ?_
      refine then_n ?_
      exact ⟨hF.weak [0, 1] (by kernel_rfl), hS, hm⟩

noncomputable def slices_Concat_J6 (z2 : Int) (newslice3 : List Int) : Option (St (List Int × Int) (List Int)) :=
  some (.next (newslice3, (w64 (z2 + 1))))

noncomputable def slices_Concat_J5 (slices1 : List (List Int)) (newslice2 : List Int) (z2 : Int) : Option (St (List Int × Int) (List Int)) :=
  asrt (0 ≤ z2 ∧ z2 < (slices1.length : Int)) <| asrt ((newslice2.length : Int) + (geti2 slices1 z2).length ≤ bigN) <| (slices_Concat_J6 z2) (newslice2 ++ (geti2 slices1 z2))

noncomputable def slices_Concat_L2 (slices1 : List (List Int)) : (List Int × Int) → Option (St (List Int × Int) (List Int)) :=
  fun (x : (List Int × Int)) => match x with | (newslice2, z2) => if (decide (z2 < (slices1.length : Int))) then ((slices_Concat_J5 slices1 newslice2 z2)) else (some (.done newslice2))

noncomputable def slices_Concat_J4 (newslice1 : List Int) : Option (List Int) :=
  some newslice1

noncomputable def slices_Concat_K2 : (List Int) → Option (List Int) :=
  fun (x : (List Int)) => match x with | newslice1 => slices_Concat_J4 newslice1

noncomputable def slices_Concat_J1 (slices1 : List (List Int)) (size1 : Int) : Option (List Int) :=
  (slices_Grow_nil_m size1).bind fun r1 => (loop (slices_Concat_L2 slices1) (r1, 0)).bind slices_Concat_K2

noncomputable def slices_Concat_K1 (slices1 : List (List Int)) : Int → Option (List Int) :=
  fun (x : Int) => match x with | size1 => (slices_Concat_J1 slices1) size1

noncomputable def slices_Concat_J3 (z1 : Int) (size3 : Int) : Option (St (Int × Int) Int) :=
  some (.next (size3, (w64 (z1 + 1))))

noncomputable def slices_Concat_J2 (slices1 : List (List Int)) (size2 : Int) (z1 : Int) : Option (St (Int × Int) Int) :=
  asrt (0 ≤ z1 ∧ z1 < (slices1.length : Int)) <| if (decide ((w64 (size2 + ((geti2 slices1 z1).length : Int))) < 0)) then none else ((slices_Concat_J3 z1) (w64 (size2 + ((geti2 slices1 z1).length : Int))))

noncomputable def slices_Concat_L1 (slices1 : List (List Int)) : (Int × Int) → Option (St (Int × Int) Int) :=
  fun (x : (Int × Int)) => match x with | (size2, z1) => if (decide (z1 < (slices1.length : Int))) then ((slices_Concat_J2 slices1 size2 z1)) else (some (.done size2))

noncomputable def slices_Concat_m (slices1 : List (List Int)) : Option (List Int) :=
  (loop (slices_Concat_L1 slices1) (0, 0)).bind (slices_Concat_K1 slices1)

def slices_Concat_post (r : (List Int)) (v : Value) (w0 w' : World) : Prop := ∃ (A0 : Option Addr) (c0 : Nat), v = .slice A0 r.length c0 ∧ Sep w0 w0.heap.size w' [own 3 (.slice A0 r.length c0) (vI r)]

set_option maxRecDepth 100000 in
set_option maxHeartbeats 4000000 in
theorem slices_Concat_w {A1 : Option Addr} {c1 : Nat} {hd1 : List Hd} {slices1 : List (List Int)} {r : (List Int)} {w0 : World} (hm : slices_Concat_m slices1 = some r) (hr_slices1 : RdRows w0 w0.heap.size A1 hd1 slices1) (_hc_slices1 : slices1.length ≤ c1) :
    Calls Try.prog 74 #[.slice A1 slices1.length c1] w0 fun e w' => ∃ v, e = .returned v ∧ slices_Concat_post r v w0 w' := by
  obtain ⟨i3, hi3, hz3, hs3, hb3⟩ := info_parts Info3
  obtain ⟨i22, hi22, hz22, hs22, hb22⟩ := info_parts Info22
  unfold slices_Concat_m at hm
  replace hm := start_b hm
  refine enterS (l := [.slice A1 slices1.length c1]) (n := 36) Try.func74 rfl rfl (by simp) (fun a w hF hS => ?_)
  refine reg [] [] [0] [pl 0 (.slice A1 slices1.length c1)] hF hS Fol (by kernel_rfl) (by kernel_rfl) (by kernel_rfl) ?_ (fun a w hF hS => ?_)
  · exact obs_nil
  refine reg [] [] [0, 3] [pl 0 (.slice A1 slices1.length c1), pl 3 (.int .i64 0)] hF hS Fol (by kernel_rfl) (by kernel_rfl) (by kernel_rfl) ?_ (fun a w hF hS => ?_)
  · exact obs_nil
  refine seq_cut (fun a w => ∃ (size1 : Int), Fr 36 [pl 0 (.slice A1 slices1.length c1), pl 3 (.int .i64 size1)] a ∧ Sep w0 w0.heap.size w [] ∧ ((slices_Concat_J1 slices1) size1).bind some = some r) ?_ ?_
  · rintro a w ⟨size1, hF, hS, hm⟩
    unfold slices_Concat_J1 at hm
    obtain ⟨r1, hr1, hm⟩ := call_b hm
    refine seqR ?_
    refine at_run 1 [] [] [0, 23] [pl 0 (.slice A1 slices1.length c1), pl 23 (.int .i64 size1)] hF hS (by kernel_rfl) (by kernel_rfl) ?_ (fun a w hF hS => ?_)
    · exact obs_nil
    refine at_call (f := 93) (args := #[.slice none 0 0, .int .i64 size1]) (d := 24) hF (by kernel_rfl) (by kernel_rfl) Try.func93 (by kernel_rfl) rfl (slices_Grow_nil_w hr1 ) (fun v a w hR hF => ?_)
    obtain ⟨A2, c2, rfl, hS'⟩ := hR
    have hS : Sep w0 w0.heap.size w [own 3 (.slice A2 r1.length c2) (vI r1)] := hS.merge hS'
    refine at_run 1 [] [] [0, 6] [pl 0 (.slice A1 slices1.length c1), pl 6 (.slice A2 r1.length c2)] hF hS (by kernel_rfl) (by kernel_rfl) ?_ (fun a w hF hS => ?_)
    · exact obs_nil
    refine at_end [0, 6] [pl 0 (.slice A1 slices1.length c1), pl 6 (.slice A2 r1.length c2)] hF rfl (by kernel_rfl) (fun hF => ?_)
    refine then_n ?_
    refine seq_cut (fun a w => ∃ (newslice1 : List Int) (A3 : Option Addr) (c3 : Nat), Fr 36 [pl 6 (.slice A3 newslice1.length c3)] a ∧ Sep w0 w0.heap.size w [own 3 (.slice A3 newslice1.length c3) (vI newslice1)] ∧ (slices_Concat_J4 newslice1).bind some = some r) ?_ ?_
    · rintro a w ⟨newslice1, A3, c3, hF, hS, hm⟩
      unfold slices_Concat_J4 at hm
      refine reg [] [] [2] [pl 2 (.slice A3 newslice1.length c3)] hF hS Fol (by kernel_rfl) (by kernel_rfl) (by kernel_rfl) ?_ (fun a w hF hS => ?_)
      · exact obs_nil
      refine wp_ret ?_
      have hm : some newslice1 = some r := hm
      obtain rfl := Option.some.inj hm
      exact ret1 (t := 2) (v := .slice A3 newslice1.length c3) hF rfl (by kernel_rfl) ⟨_, rfl, A3, c3, rfl, hS⟩
    · refine reg [] [] [6, 25, 26, 27] [pl 6 (.slice A2 r1.length c2), pl 25 (.slice A1 slices1.length c1), pl 26 (.int .i64 (slices1.length : Int)), pl 27 (.int .i64 0)] hF hS Fol (by kernel_rfl) (by kernel_rfl) (by kernel_rfl) ?_ (fun a w hF hS => ?_)
      · exact obs_nil
      refine wp_block ?_
      refine wp_loop_model (S := (List Int × Int)) (R := (List Int)) (slices_Concat_L2 slices1) (fun x => (slices_Concat_K2 x).bind some) r (fun (x : (List Int × Int)) a w => ∃ (A4 : Option Addr) (c4 : Nat), Fr 36 [pl 6 (.slice A4 x.1.length c4), pl 25 (.slice A1 slices1.length c1), pl 26 (.int .i64 (slices1.length : Int)), pl 27 (.int .i64 x.2)] a ∧ Sep w0 w0.heap.size w [own 3 (.slice A4 x.1.length c4) (vI x.1)]) (assoc_b hm) ⟨A2, c2, hF.weak [6, 25, 26, 27] (by kernel_rfl), hS⟩ ?_
      clear hF hS hm
      rintro nn2 ⟨newslice2, z2⟩ a w ⟨A4, c4, hF, hS⟩ hm
      generalize hφ2 : stK (slices_Concat_L2 slices1) nn2 (fun x => (slices_Concat_K2 x).bind some) = φ2 at hm
      unfold slices_Concat_L2 at hm
      dsimp only at hF hS hm
      refine reg [] [] [6, 25, 26, 27, 28] [pl 6 (.slice A4 newslice2.length c4), pl 25 (.slice A1 slices1.length c1), pl 26 (.int .i64 (slices1.length : Int)), pl 27 (.int .i64 z2), pl 28 (.bool (decide (z2 < (slices1.length : Int))))] hF hS Fol (by kernel_rfl) (by kernel_rfl) (by kernel_rfl) ?_ (fun a w hF hS => ?_)
      · exact obs_nil
      refine seq_cut (fun a w => Fr 36 [pl 6 (.slice A4 newslice2.length c4), pl 25 (.slice A1 slices1.length c1), pl 26 (.int .i64 (slices1.length : Int)), pl 27 (.int .i64 z2)] a ∧ Sep w0 w0.heap.size w [own 3 (.slice A4 newslice2.length c4) (vI newslice2)] ∧ ((slices_Concat_J5 slices1 newslice2 z2)).bind φ2 = some r) ?_ ?_
      · rintro a w ⟨hF, hS, hm⟩
        unfold slices_Concat_J5 at hm
        refine seq_cut (fun a w => ∃ (newslice3 : List Int) (A5 : Option Addr) (c5 : Nat), Fr 36 [pl 6 (.slice A5 newslice3.length c5), pl 25 (.slice A1 slices1.length c1), pl 26 (.int .i64 (slices1.length : Int)), pl 27 (.int .i64 z2)] a ∧ Sep w0 w0.heap.size w [own 3 (.slice A5 newslice3.length c5) (vI newslice3)] ∧ ((slices_Concat_J6 z2) newslice3).bind φ2 = some r) ?_ ?_
        · rintro a w ⟨newslice3, A5, c5, hF, hS, hm⟩
          unfold slices_Concat_J6 at hm
          refine reg1 [] [] [6, 25, 26, 27] [pl 6 (.slice A5 newslice3.length c5), pl 25 (.slice A1 slices1.length c1), pl 26 (.int .i64 (slices1.length : Int)), pl 27 (.int .i64 (w64 (z2 + 1)))] hF hS Fol (by kernel_rfl) (by kernel_rfl) (by kernel_rfl) ?_ (fun a w hF hS => ?_)
          · exact obs_nil
          refine then_n ?_
          rw [← hφ2] at hm
          exact ⟨(newslice3, (w64 (z2 + 1))), ⟨A5, c5, hF.weak [6, 25, 26, 27] (by kernel_rfl), hS⟩, hm⟩
        · refine wp_block ?_
          obtain ⟨hp2, hm⟩ := asrt_b hm
          refine reg [⟨true, [], vS (Instr.indexAt 23 (.slice A1 slices1.length c1) (.int .i64 z2)), .pointer (some (sAddr A1 z2))⟩, ⟨false, [], vS (Instr.loadAt 22 (.pointer (some (sAddr A1 z2)))), .slice (hdA hd1 z2) (geti2 slices1 z2).length (hdC hd1 z2)⟩] [some (.pointer (some (sAddr A1 z2))), some (.slice (hdA hd1 z2) (geti2 slices1 z2).length (hdC hd1 z2)), none] [6, 8, 25, 26, 27] [pl 6 (.slice A4 newslice2.length c4), pl 8 (.slice (hdA hd1 z2) (geti2 slices1 z2).length (hdC hd1 z2)), pl 25 (.slice A1 slices1.length c1), pl 26 (.int .i64 (slices1.length : Int)), pl 27 (.int .i64 z2)] hF hS Fol (by kernel_rfl) (by kernel_rfl) (by kernel_rfl) ?_ (fun a w hF hS => ?_)
          · exact obs_cons (ob_ixR Und23 hi22 hs22 (hr_slices1.sep hS) (fun _ => hp2)) <| obs_cons (ob_getR Agg22 (fun _ hS => ⟨_, (hr_slices1.sep hS)⟩) (fun _ => hp2)) <| obs_nil
          obtain ⟨hp3, hm⟩ := asrt_b hm
          refine oneR ?_
          refine at_run 2 [] [] [25, 26, 27, 31, 32] [pl 25 (.slice A1 slices1.length c1), pl 26 (.int .i64 (slices1.length : Int)), pl 27 (.int .i64 z2), pl 31 (.slice A4 newslice2.length c4), pl 32 (.slice (hdA hd1 z2) (geti2 slices1 z2).length (hdC hd1 z2))] hF hS (by kernel_rfl) (by kernel_rfl) ?_ (fun a w hF hS => ?_)
          · exact obs_nil
          obtain ⟨A6, c6, w, hrun, hS⟩ := run_appI (P := Try.prog) (t := 22) (xs := newslice2) (ys := (geti2 slices1 z2)) (m := (geti2 slices1 z2).length) (c := (hdC hd1 z2)) (hS.at_ 0 rfl) ((hr_slices1.sep hS).row _ hp2).1 (by rfl) 22 Und22 hi3 hz3 hs3 hb3 hp3
          have hS : Sep w0 w0.heap.size w [own 3 (.slice A6 (newslice2 ++ (geti2 slices1 z2)).length c6) (vI (newslice2 ++ (geti2 slices1 z2)))] := hS
          refine at_do (d := 33) hF (by kernel_rfl) (by kernel_rfl) hrun (fun a hF => ?_)
          refine at_run 1 [] [] [6, 25, 26, 27] [pl 6 (.slice A6 (newslice2 ++ (geti2 slices1 z2)).length c6), pl 25 (.slice A1 slices1.length c1), pl 26 (.int .i64 (slices1.length : Int)), pl 27 (.int .i64 z2)] hF hS (by kernel_rfl) (by kernel_rfl) ?_ (fun a w hF hS => ?_)
          · exact obs_nil
          refine at_end [6, 25, 26, 27] [pl 6 (.slice A6 (newslice2 ++ (geti2 slices1 z2)).length c6), pl 25 (.slice A1 slices1.length c1), pl 26 (.int .i64 (slices1.length : Int)), pl 27 (.int .i64 z2)] hF rfl (by kernel_rfl) (fun hF => ?_)
          refine block_n ?_
          refine then_n ?_
          exact ⟨(newslice2 ++ (geti2 slices1 z2)), A6, c6, hF.weak [6, 25, 26, 27] (by kernel_rfl), hS, hm⟩
      · refine cond_ev (t := 28) (b := decide (z2 < (slices1.length : Int))) hF (by kernel_rfl) (fun hb => ?_) (fun hb => ?_)
        · replace hm := if_t hm hb
          refine wp_skip ?_
          refine then_n ?_
          exact ⟨hF.weak [6, 25, 26, 27] (by kernel_rfl), hS, hm⟩
        · replace hm := if_f hm hb
          refine wp_exit ?_
          refine then_e (then_e (block_e (then_n ?_)))
          rw [← hφ2] at hm
          have hm : (slices_Concat_J4 newslice2).bind some = some r := hm
          exact ⟨newslice2, A4, c4, hF.weak [6] (by kernel_rfl), hS, hm⟩
  · refine reg [] [] [0, 3, 9, 10, 11] [pl 0 (.slice A1 slices1.length c1), pl 3 (.int .i64 0), pl 9 (.slice A1 slices1.length c1), pl 10 (.int .i64 (slices1.length : Int)), pl 11 (.int .i64 0)] hF hS Fol (by kernel_rfl) (by kernel_rfl) (by kernel_rfl) ?_ (fun a w hF hS => ?_)
    · exact obs_nil
    refine wp_block ?_
    refine wp_loop_model (S := (Int × Int)) (R := Int) (slices_Concat_L1 slices1) (fun x => ((slices_Concat_K1 slices1) x).bind some) r (fun (x : (Int × Int)) a w => Fr 36 [pl 0 (.slice A1 slices1.length c1), pl 3 (.int .i64 x.1), pl 9 (.slice A1 slices1.length c1), pl 10 (.int .i64 (slices1.length : Int)), pl 11 (.int .i64 x.2)] a ∧ Sep w0 w0.heap.size w []) (assoc_b hm) ⟨hF.weak [0, 3, 9, 10, 11] (by kernel_rfl), hS⟩ ?_
    clear hF hS hm
    rintro nn1 ⟨size2, z1⟩ a w ⟨hF, hS⟩ hm
    generalize hφ1 : stK (slices_Concat_L1 slices1) nn1 (fun x => ((slices_Concat_K1 slices1) x).bind some) = φ1 at hm
    unfold slices_Concat_L1 at hm
    dsimp only at hF hS hm
    refine reg [] [] [0, 3, 9, 10, 11, 12] [pl 0 (.slice A1 slices1.length c1), pl 3 (.int .i64 size2), pl 9 (.slice A1 slices1.length c1), pl 10 (.int .i64 (slices1.length : Int)), pl 11 (.int .i64 z1), pl 12 (.bool (decide (z1 < (slices1.length : Int))))] hF hS Fol (by kernel_rfl) (by kernel_rfl) (by kernel_rfl) ?_ (fun a w hF hS => ?_)
    · exact obs_nil
    refine seq_cut (fun a w => Fr 36 [pl 0 (.slice A1 slices1.length c1), pl 3 (.int .i64 size2), pl 9 (.slice A1 slices1.length c1), pl 10 (.int .i64 (slices1.length : Int)), pl 11 (.int .i64 z1)] a ∧ Sep w0 w0.heap.size w [] ∧ ((slices_Concat_J2 slices1 size2 z1)).bind φ1 = some r) ?_ ?_
    · rintro a w ⟨hF, hS, hm⟩
      unfold slices_Concat_J2 at hm
      refine seq_cut (fun a w => ∃ (size3 : Int), Fr 36 [pl 0 (.slice A1 slices1.length c1), pl 3 (.int .i64 size3), pl 9 (.slice A1 slices1.length c1), pl 10 (.int .i64 (slices1.length : Int)), pl 11 (.int .i64 z1)] a ∧ Sep w0 w0.heap.size w [] ∧ ((slices_Concat_J3 z1) size3).bind φ1 = some r) ?_ ?_
      · rintro a w ⟨size3, hF, hS, hm⟩
        unfold slices_Concat_J3 at hm
        refine reg1 [] [] [0, 3, 9, 10, 11] [pl 0 (.slice A1 slices1.length c1), pl 3 (.int .i64 size3), pl 9 (.slice A1 slices1.length c1), pl 10 (.int .i64 (slices1.length : Int)), pl 11 (.int .i64 (w64 (z1 + 1)))] hF hS Fol (by kernel_rfl) (by kernel_rfl) (by kernel_rfl) ?_ (fun a w hF hS => ?_)
        · exact obs_nil
        refine then_n ?_
        rw [← hφ1] at hm
        exact ⟨(size3, (w64 (z1 + 1))), ⟨hF.weak [0, 3, 9, 10, 11] (by kernel_rfl), hS⟩, hm⟩
      · refine wp_block ?_
        obtain ⟨hp1, hm⟩ := asrt_b hm
        refine reg [⟨true, [], vS (Instr.indexAt 23 (.slice A1 slices1.length c1) (.int .i64 z1)), .pointer (some (sAddr A1 z1))⟩, ⟨false, [], vS (Instr.loadAt 22 (.pointer (some (sAddr A1 z1)))), .slice (hdA hd1 z1) (geti2 slices1 z1).length (hdC hd1 z1)⟩] [some (.pointer (some (sAddr A1 z1))), some (.slice (hdA hd1 z1) (geti2 slices1 z1).length (hdC hd1 z1)), none] [0, 3, 5, 9, 10, 11] [pl 0 (.slice A1 slices1.length c1), pl 3 (.int .i64 size2), pl 5 (.slice (hdA hd1 z1) (geti2 slices1 z1).length (hdC hd1 z1)), pl 9 (.slice A1 slices1.length c1), pl 10 (.int .i64 (slices1.length : Int)), pl 11 (.int .i64 z1)] hF hS Fol (by kernel_rfl) (by kernel_rfl) (by kernel_rfl) ?_ (fun a w hF hS => ?_)
        · exact obs_cons (ob_ixR Und23 hi22 hs22 (hr_slices1.sep hS) (fun _ => hp1)) <| obs_cons (ob_getR Agg22 (fun _ hS => ⟨_, (hr_slices1.sep hS)⟩) (fun _ => hp1)) <| obs_nil
        refine reg [] [] [0, 3, 9, 10, 11] [pl 0 (.slice A1 slices1.length c1), pl 3 (.int .i64 (w64 (size2 + ((geti2 slices1 z1).length : Int)))), pl 9 (.slice A1 slices1.length c1), pl 10 (.int .i64 (slices1.length : Int)), pl 11 (.int .i64 z1)] hF hS Fol (by kernel_rfl) (by kernel_rfl) (by kernel_rfl) ?_ (fun a w hF hS => ?_)
        · exact obs_nil
        refine reg [] [] [0, 3, 9, 10, 11, 20] [pl 0 (.slice A1 slices1.length c1), pl 3 (.int .i64 (w64 (size2 + ((geti2 slices1 z1).length : Int)))), pl 9 (.slice A1 slices1.length c1), pl 10 (.int .i64 (slices1.length : Int)), pl 11 (.int .i64 z1), pl 20 (.bool (decide ((w64 (size2 + ((geti2 slices1 z1).length : Int))) < 0)))] hF hS Fol (by kernel_rfl) (by kernel_rfl) (by kernel_rfl) ?_ (fun a w hF hS => ?_)
        · exact obs_nil
        refine cond_ev (t := 20) (b := decide ((w64 (size2 + ((geti2 slices1 z1).length : Int))) < 0)) hF (by kernel_rfl) (fun hb => ?_) (fun hb => ?_)
        · replace hm := if_t hm hb
          simp at hm
        · replace hm := if_f hm hb
          refine wp_skip ?_
          refine block_n ?_
          refine then_n ?_
          exact ⟨(w64 (size2 + ((geti2 slices1 z1).length : Int))), hF.weak [0, 3, 9, 10, 11] (by kernel_rfl), hS, hm⟩
    · refine cond_ev (t := 12) (b := decide (z1 < (slices1.length : Int))) hF (by kernel_rfl) (fun hb => ?_) (fun hb => ?_)
      · replace hm := if_t hm hb
        refine wp_skip ?_
        refine then_n ?_
        exact ⟨hF.weak [0, 3, 9, 10, 11] (by kernel_rfl), hS, hm⟩
      · replace hm := if_f hm hb
        refine wp_exit ?_
        refine then_e (then_e (block_e (then_n ?_)))
        rw [← hφ1] at hm
        have hm : ((slices_Concat_J1 slices1) size2).bind some = some r := hm
        exact ⟨size2, hF.weak [0, 3] (by kernel_rfl), hS, hm⟩

noncomputable def slices_Equal_J2 : Option Bool :=
  some true

noncomputable def slices_Equal_K1 : (Fl Unit Bool) → Option Bool :=
  fun (x : (Fl Unit Bool)) => match x with | .go () => slices_Equal_J2 | .ret x => some x

noncomputable def slices_Equal_J4 (z1 : Int) : Option (St Int (Fl Unit Bool)) :=
  some (.next (w64 (z1 + 1)))

noncomputable def slices_Equal_J3 (s11 : List Int) (s21 : List Int) (z1 : Int) : Option (St Int (Fl Unit Bool)) :=
  asrt (0 ≤ z1 ∧ z1 < (s11.length : Int)) <| asrt (0 ≤ z1 ∧ z1 < (s21.length : Int)) <| if ((geti s11 z1) != (geti s21 z1)) then (some (.done (.ret false))) else ((slices_Equal_J4 z1))

noncomputable def slices_Equal_L1 (s11 : List Int) (s21 : List Int) : Int → Option (St Int (Fl Unit Bool)) :=
  fun (x : Int) => match x with | z1 => if (decide (z1 < (s11.length : Int))) then ((slices_Equal_J3 s11 s21 z1)) else (some (.done (.go ())))

noncomputable def slices_Equal_J1 (s11 : List Int) (s21 : List Int) : Option Bool :=
  (loop (slices_Equal_L1 s11 s21) 0).bind slices_Equal_K1

noncomputable def slices_Equal_m (s11 : List Int) (s21 : List Int) : Option Bool :=
  if ((s11.length : Int) != (s21.length : Int)) then (some false) else ((slices_Equal_J1 s11 s21))

set_option maxRecDepth 100000 in
set_option maxHeartbeats 4000000 in
theorem slices_Equal_w {A1 : Option Addr} {c1 : Nat} {s11 : List Int} {A2 : Option Addr} {c2 : Nat} {s21 : List Int} {r : Bool} {w0 : World} (hm : slices_Equal_m s11 s21 = some r) (hr_s11 : Rd w0 w0.heap.size A1 (vI s11)) (_hc_s11 : s11.length ≤ c1) (hr_s21 : Rd w0 w0.heap.size A2 (vI s21)) (_hc_s21 : s21.length ≤ c2) :
    Calls Try.prog 63 #[.slice A1 s11.length c1, .slice A2 s21.length c2] w0 fun e w' => e = .returned (.bool r) ∧ Sep w0 w0.heap.size w' [] := by
  obtain ⟨i3, hi3, hz3, hs3, hb3⟩ := info_parts Info3
  unfold slices_Equal_m at hm
  replace hm := start_b hm
  refine enterS (l := [.slice A1 s11.length c1, .slice A2 s21.length c2]) (n := 26) Try.func63 rfl rfl (by simp) (fun a w hF hS => ?_)
  refine reg [] [] [0, 1] [pl 0 (.slice A1 s11.length c1), pl 1 (.slice A2 s21.length c2)] hF hS Fol (by kernel_rfl) (by kernel_rfl) (by kernel_rfl) ?_ (fun a w hF hS => ?_)
  · exact obs_nil
  refine seq_cut (fun a w => Fr 26 [pl 0 (.slice A1 s11.length c1), pl 1 (.slice A2 s21.length c2)] a ∧ Sep w0 w0.heap.size w [] ∧ ((slices_Equal_J1 s11 s21)).bind some = some r) ?_ ?_
  · rintro a w ⟨hF, hS, hm⟩
    unfold slices_Equal_J1 at hm
    refine seq_cut (fun a w => Fr 26 [] a ∧ Sep w0 w0.heap.size w [] ∧ (slices_Equal_J2).bind some = some r) ?_ ?_
    · rintro a w ⟨hF, hS, hm⟩
      unfold slices_Equal_J2 at hm
      refine reg [] [] [4] [pl 4 (.bool true)] hF hS Fol (by kernel_rfl) (by kernel_rfl) (by kernel_rfl) ?_ (fun a w hF hS => ?_)
      · exact obs_nil
      refine wp_ret ?_
      have hm : some true = some r := hm
      obtain rfl := Option.some.inj hm
      exact ret1 (t := 4) (v := .bool true) hF rfl (by kernel_rfl) ⟨rfl, hS⟩
    · refine reg [] [] [0, 1, 12, 13] [pl 0 (.slice A1 s11.length c1), pl 1 (.slice A2 s21.length c2), pl 12 (.int .i64 (s11.length : Int)), pl 13 (.int .i64 0)] hF hS Fol (by kernel_rfl) (by kernel_rfl) (by kernel_rfl) ?_ (fun a w hF hS => ?_)
      · exact obs_nil
      refine wp_block ?_
      refine wp_loop_model (S := Int) (R := (Fl Unit Bool)) (slices_Equal_L1 s11 s21) (fun x => (slices_Equal_K1 x).bind some) r (fun (x : Int) a w => Fr 26 [pl 0 (.slice A1 s11.length c1), pl 1 (.slice A2 s21.length c2), pl 12 (.int .i64 (s11.length : Int)), pl 13 (.int .i64 x)] a ∧ Sep w0 w0.heap.size w []) (assoc_b hm) ⟨hF.weak [0, 1, 12, 13] (by kernel_rfl), hS⟩ ?_
      clear hF hS hm
      rintro nn1 z1 a w ⟨hF, hS⟩ hm
      generalize hφ1 : stK (slices_Equal_L1 s11 s21) nn1 (fun x => (slices_Equal_K1 x).bind some) = φ1 at hm
      unfold slices_Equal_L1 at hm
      dsimp only at hm
      refine reg [] [] [0, 1, 12, 13, 14] [pl 0 (.slice A1 s11.length c1), pl 1 (.slice A2 s21.length c2), pl 12 (.int .i64 (s11.length : Int)), pl 13 (.int .i64 z1), pl 14 (.bool (decide (z1 < (s11.length : Int))))] hF hS Fol (by kernel_rfl) (by kernel_rfl) (by kernel_rfl) ?_ (fun a w hF hS => ?_)
      · exact obs_nil
      refine seq_cut (fun a w => Fr 26 [pl 0 (.slice A1 s11.length c1), pl 1 (.slice A2 s21.length c2), pl 12 (.int .i64 (s11.length : Int)), pl 13 (.int .i64 z1)] a ∧ Sep w0 w0.heap.size w [] ∧ ((slices_Equal_J3 s11 s21 z1)).bind φ1 = some r) ?_ ?_
      · rintro a w ⟨hF, hS, hm⟩
        unfold slices_Equal_J3 at hm
        refine seq_cut (fun a w => Fr 26 [pl 0 (.slice A1 s11.length c1), pl 1 (.slice A2 s21.length c2), pl 12 (.int .i64 (s11.length : Int)), pl 13 (.int .i64 z1)] a ∧ Sep w0 w0.heap.size w [] ∧ ((slices_Equal_J4 z1)).bind φ1 = some r) ?_ ?_
        · rintro a w ⟨hF, hS, hm⟩
          unfold slices_Equal_J4 at hm
          refine reg1 [] [] [0, 1, 12, 13] [pl 0 (.slice A1 s11.length c1), pl 1 (.slice A2 s21.length c2), pl 12 (.int .i64 (s11.length : Int)), pl 13 (.int .i64 (w64 (z1 + 1)))] hF hS Fol (by kernel_rfl) (by kernel_rfl) (by kernel_rfl) ?_ (fun a w hF hS => ?_)
          · exact obs_nil
          refine then_n ?_
          rw [← hφ1] at hm
          exact ⟨(w64 (z1 + 1)), ⟨hF.weak [0, 1, 12, 13] (by kernel_rfl), hS⟩, hm⟩
        · refine wp_block ?_
          refine reg [] [] [0, 1, 5, 12, 13] [pl 0 (.slice A1 s11.length c1), pl 1 (.slice A2 s21.length c2), pl 5 (.int .i64 z1), pl 12 (.int .i64 (s11.length : Int)), pl 13 (.int .i64 z1)] hF hS Fol (by kernel_rfl) (by kernel_rfl) (by kernel_rfl) ?_ (fun a w hF hS => ?_)
          · exact obs_nil
          obtain ⟨hp1, hm⟩ := asrt_b hm
          obtain ⟨hp2, hm⟩ := asrt_b hm
          refine reg [⟨true, [], vS (Instr.indexAt 22 (.slice A1 s11.length c1) (.int .i64 z1)), .pointer (some (sAddr A1 z1))⟩, ⟨false, [], vS (Instr.loadAt 3 (.pointer (some (sAddr A1 z1)))), .int .i64 (geti s11 z1)⟩, ⟨true, [], vS (Instr.indexAt 22 (.slice A2 s21.length c2) (.int .i64 z1)), .pointer (some (sAddr A2 z1))⟩, ⟨false, [], vS (Instr.loadAt 3 (.pointer (some (sAddr A2 z1)))), .int .i64 (geti s21 z1)⟩] [none, none, some (.pointer (some (sAddr A1 z1))), some (.int .i64 (geti s11 z1)), none, none, some (.pointer (some (sAddr A2 z1))), some (.int .i64 (geti s21 z1)), none] [0, 1, 12, 13, 24] [pl 0 (.slice A1 s11.length c1), pl 1 (.slice A2 s21.length c2), pl 12 (.int .i64 (s11.length : Int)), pl 13 (.int .i64 z1), pl 24 (.bool ((geti s11 z1) != (geti s21 z1)))] hF hS Fol (by kernel_rfl) (by kernel_rfl) (by kernel_rfl) ?_ (fun a w hF hS => ?_)
          · exact obs_cons (ob_ixI Und22 hi3 hs3 (hr_s11.sep hS) (fun _ => hp1)) <| obs_cons (ob_geti Agg3 (fun _ hS => ⟨_, (hr_s11.sep hS)⟩) (fun _ => hp1)) <| obs_cons (ob_ixI Und22 hi3 hs3 (hr_s21.sep hS) (fun _ => hp2)) <| obs_cons (ob_geti Agg3 (fun _ hS => ⟨_, (hr_s21.sep hS)⟩) (fun _ => hp2)) <| obs_nil
          refine cond_ev (t := 24) (b := ((geti s11 z1) != (geti s21 z1))) hF (by kernel_rfl) (fun hb => ?_) (fun hb => ?_)
          · replace hm := if_t hm hb
            refine reg [] [] [4] [pl 4 (.bool false)] hF hS Fol (by kernel_rfl) (by kernel_rfl) (by kernel_rfl) ?_ (fun a w hF hS => ?_)
            · exact obs_nil
            refine wp_ret ?_
            refine block_r (then_r (then_r (block_r (then_r ?_))))
            rw [← hφ1] at hm
            have hm : some false = some r := hm
            obtain rfl := Option.some.inj hm
            exact ret1 (t := 4) (v := .bool false) hF rfl (by kernel_rfl) ⟨rfl, hS⟩
          · replace hm := if_f hm hb
            refine wp_skip ?_
            refine block_n ?_
            refine then_n ?_
            exact ⟨hF.weak [0, 1, 12, 13] (by kernel_rfl), hS, hm⟩
      · refine cond_ev (t := 14) (b := decide (z1 < (s11.length : Int))) hF (by kernel_rfl) (fun hb => ?_) (fun hb => ?_)
        · replace hm := if_t hm hb
          refine wp_skip ?_
          refine then_n ?_
          exact ⟨hF.weak [0, 1, 12, 13] (by kernel_rfl), hS, hm⟩
        · replace hm := if_f hm hb
          refine wp_exit ?_
          refine then_e (then_e (block_e (then_n ?_)))
          rw [← hφ1] at hm
          have hm : (slices_Equal_J2).bind some = some r := hm
          exact ⟨hF.weak [] (by kernel_rfl), hS, hm⟩
  · refine reg [] [] [0, 1, 10] [pl 0 (.slice A1 s11.length c1), pl 1 (.slice A2 s21.length c2), pl 10 (.bool ((s11.length : Int) != (s21.length : Int)))] hF hS Fol (by kernel_rfl) (by kernel_rfl) (by kernel_rfl) ?_ (fun a w hF hS => ?_)
    · exact obs_nil
    refine cond_ev (t := 10) (b := ((s11.length : Int) != (s21.length : Int))) hF (by kernel_rfl) (fun hb => ?_) (fun hb => ?_)
    · replace hm := if_t hm hb
      refine reg [] [] [4] [pl 4 (.bool false)] hF hS Fol (by kernel_rfl) (by kernel_rfl) (by kernel_rfl) ?_ (fun a w hF hS => ?_)
      · exact obs_nil
      refine wp_ret ?_
      refine then_r ?_
      have hm : some false = some r := hm
      obtain rfl := Option.some.inj hm
      exact ret1 (t := 4) (v := .bool false) hF rfl (by kernel_rfl) ⟨rfl, hS⟩
    · replace hm := if_f hm hb
      refine wp_skip ?_
      refine then_n ?_
      exact ⟨hF.weak [0, 1] (by kernel_rfl), hS, hm⟩

end Go.Proofs.Ytnplejebgbdfpaa
