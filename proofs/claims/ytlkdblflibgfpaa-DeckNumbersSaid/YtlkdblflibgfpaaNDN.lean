/-
  Models and walks, printed by our own program (wip/gen).
-/
import Derived.Test.YtlkdblflibgfpaaFB
import Derived.Test.YtlkdblflibgfpaaSI
import Derived.Test.YtlkdblflibgfpaaSD
namespace Go.Proofs.Ytlkdblflibgfpaa
open Go Go.GL Go.RowKit


noncomputable def gameroomlaw_ints_m (l1 : List Int) : Option (List Int) :=
  asrt ((0 : Int) + (l1.length : Int) ≤ bigN) <| some ([] ++ l1)

set_option maxRecDepth 100000 in
set_option maxHeartbeats 4000000 in
theorem gameroomlaw_ints_w {A1 : Option Addr} {c1 : Nat} {n1 : Nat} {l1 : List Int} {r : (List Int)} {w0 w : World} {B : Nat} {fs : List HP} (hm : gameroomlaw_ints_m l1 = some r) (hS : Sep w0 B w (fs)) (hr_l1 : RdF w0 B fs A1 (vI l1)) (_hc_l1 : l1.length ≤ c1) (_hn_l1 : n1 = l1.length) :
    Calls Try.prog 16 #[.slice A1 n1 c1] w fun e w' => ∃ v, e = .returned v ∧ ∃ (A3 : Option Addr) (c3 : Nat), v = .slice A3 r.length c3 ∧ Sep w0 B w' (own 3 (.slice A3 r.length c3) (vI r) :: fs) := by
  obtain ⟨i3, hi3, hz3, hs3, hb3⟩ := info_parts Info3
  obtain rfl := _hn_l1
  unfold gameroomlaw_ints_m at hm
  replace hm := start_b hm
  refine enter (l := [.slice A1 l1.length c1]) (n := 5) Try.func16 rfl rfl (by simp) (fun a hF => ?_)
  refine reg [] [] [0] [pl 0 (.slice A1 l1.length c1)] hF hS Fol (by kernel_rfl) (by kernel_rfl) (by kernel_rfl) ?_ (fun a w hF hS => ?_)
  · exact obs_nil
  refine seqR ?_
  obtain ⟨hp1, hm⟩ := asrt_b hm
  refine at_run 1 [] [] [3] [pl 3 (.slice A1 l1.length c1)] hF hS (by kernel_rfl) (by kernel_rfl) ?_ (fun a w hF hS => ?_)
  · exact obs_nil
  have hS : Sep w0 B w (own 3 (.slice none 0 0) (vI ([] : List Int)) :: fs) := hS.nil 3
  obtain ⟨A2, c2, w, hrun, hS⟩ := run_app1 (P := Try.prog) (t := 22) (m := ([] : List Int)) (ys := l1) (A2 := A1) (m2 := l1.length) (c2 := c1) (Value.int .i64) (0 : Int) (hS.at_ 0 rfl) (hr_l1 _ (hS.dropN 1)) rfl 22 Und22 hi3 hz3 hs3 (by omega) rfl (fun _ => rfl) hp1
  have hS : Sep w0 B w (own 3 (.slice A2 (([] ++ l1).length) c2) (vI ([] ++ l1)) :: fs) := hS
  refine at_do (d := 4) hF (by kernel_rfl) (by kernel_rfl) hrun (fun a hF => ?_)
  refine at_run 1 [] [] [2] [pl 2 (.slice A2 (([] ++ l1).length) c2)] hF hS (by kernel_rfl) (by kernel_rfl) ?_ (fun a w hF hS => ?_)
  · exact obs_nil
  refine at_end [2] [pl 2 (.slice A2 (([] ++ l1).length) c2)] hF rfl (by kernel_rfl) (fun hF => ?_)
  refine then_n ?_
  refine wp_ret ?_
  have hm : some ([] ++ l1) = some r := hm
  obtain rfl := Option.some.inj hm
  exact retV (rs := [.tmp 2]) (vs := [.slice A2 (([] ++ l1).length) c2]) hF rfl (rv_t (by kernel_rfl) <| rv_nil) rfl ⟨_, rfl, A2, c2, rfl, hS⟩

noncomputable def slices_Values_m (s1 : List Int) : Option Unit :=
  some ()

set_option maxRecDepth 100000 in
set_option maxHeartbeats 4000000 in
theorem slices_Values_w {A1 : Option Addr} {c1 : Nat} {n1 : Nat} {s1 : List Int} {r : Unit} {w0 w : World} {B : Nat} {fs : List HP} (hm : slices_Values_m s1 = some r) (hS : Sep w0 B w (fs)) (hr_s1 : RdF w0 B fs A1 (vI s1)) (_hc_s1 : s1.length ≤ c1) (_hn_s1 : n1 = s1.length) :
    Calls Try.prog 109 #[.slice A1 n1 c1] w fun e w' => ∃ v, e = .returned v ∧ ∃ (g2 : Nat), v = .func (.func 175) #[] #[.pointer (some ⟨g2, 0, none⟩)] ∧ Sep w0 B w' (blk g2 22 #[.slice A1 n1 c1] :: fs) := by
  obtain ⟨i3, hi3, hz3, hs3, hb3⟩ := info_parts Info3
  obtain rfl := _hn_s1
  unfold slices_Values_m at hm
  replace hm := start_b hm
  refine enter (l := [.slice A1 s1.length c1]) (n := 4) Try.func109 rfl rfl (by simp) (fun a hF => ?_)
  refine seqR ?_
  refine at_do (d := 1) (s := vS (Instr.box 22 (.slice A1 s1.length c1))) (v := .pointer (some ⟨w.heap.size, 0, none⟩)) (w' := w.alloc (.cells #[.slice A1 s1.length c1] 22)) hF (by kernel_rfl) (by kernel_rfl) (by kernel_rfl) (fun a hF => ?_)
  have hS : Sep w0 B (w.alloc (.cells #[.slice A1 s1.length c1] 22)) (blk w.heap.size 22 #[.slice A1 s1.length c1] :: (fs)) := hS.box 22 #[.slice A1 s1.length c1]
  generalize w.heap.size = g1 at hF hS
  generalize w.alloc (.cells #[.slice A1 s1.length c1] 22) = w at hS ⊢
  refine at_run 1 [] [] [1] [pl 1 (.pointer (some ⟨g1, 0, none⟩))] hF hS (by kernel_rfl) (by kernel_rfl) ?_ (fun a w hF hS => ?_)
  · exact obs_nil
  refine at_end [1] [pl 1 (.pointer (some ⟨g1, 0, none⟩))] hF rfl (by kernel_rfl) (fun hF => ?_)
  refine then_n ?_
  refine reg [] [] [2] [pl 2 (.func (.func 175) #[] #[.pointer (some ⟨g1, 0, none⟩)])] hF hS Fol (by kernel_rfl) (by kernel_rfl) (by kernel_rfl) ?_ (fun a w hF hS => ?_)
  · exact obs_nil
  refine wp_ret ?_
  have hm : some () = some r := hm
  obtain rfl := Option.some.inj hm
  exact retV (rs := [.tmp 2]) (vs := [.func (.func 175) #[] #[.pointer (some ⟨g1, 0, none⟩)]]) hF rfl (rv_t (by kernel_rfl) <| rv_nil) rfl ⟨_, rfl, g1, rfl, hS⟩

noncomputable def slices_Sorted_m (v1 : List Int) : Option (List Int) :=
  asrt ((v1.length : Int) + 512 ≤ bigN) <| some (sortI v1)

theorem slices_Sorted_w {g1 : Nat} {A1 : Option Addr} {c1 : Nat} {n1 : Nat} {v1 : List Int} {r : (List Int)} {w0 w : World} {B : Nat} {fs : List HP} (hm : slices_Sorted_m v1 = some r) (hS : Sep w0 B w (blk g1 22 #[.slice A1 n1 c1] :: fs)) (hr_v1 : RdF w0 B fs A1 (vI v1)) (_hc_v1 : v1.length ≤ c1) (_hn_v1 : n1 = v1.length) :
    Calls Try.prog 108 #[.func (.func 175) #[] #[.pointer (some ⟨g1, 0, none⟩)]] w fun e w' => ∃ v, e = .returned v ∧ ∃ (A2 : Option Addr) (c2 : Nat), v = .slice A2 r.length c2 ∧ Sep w0 B w' (blk g1 22 #[.slice A1 n1 c1] :: own 3 (.slice A2 r.length c2) (vI r) :: fs) := by
  unfold slices_Sorted_m at hm
  obtain ⟨hb, hm⟩ := asrt_b (start_b hm)
  obtain rfl := Option.some.inj hm
  exact sorted_own hS hr_v1 _hn_v1 hb

noncomputable def deck_sorted_J3 (l1 : List Int) (z1 : Int) : Option (St (List Int × Int) (List Int)) :=
  some (.next ((l1.set (Int.toNat z1) z1), (w64 (z1 + 1))))

noncomputable def deck_sorted_J2 (n1 : Int) (l1 : List Int) (z1 : Int) : Option (St (List Int × Int) (List Int)) :=
  asrt (0 ≤ z1 ∧ z1 < (((Int.toNat n1) : Nat) : Int)) <| (deck_sorted_J3 l1 z1)

noncomputable def deck_sorted_J1 (l2 : List Int) : Option (List Int) :=
  some l2

noncomputable def deck_sorted_K1 : (List Int) → Option (List Int) :=
  fun (x : (List Int)) => match x with | l2 => deck_sorted_J1 l2

noncomputable def deck_sorted_L1 (n1 : Int) : (List Int × Int) → Option (St (List Int × Int) (List Int)) :=
  fun (x : (List Int × Int)) => match x with | (l1, z1) => if (decide (z1 < (((Int.toNat n1) : Nat) : Int))) then ((deck_sorted_J2 n1 l1 z1)) else (some (.done l1))

noncomputable def deck_sorted_m (n1 : Int) : Option (List Int) :=
  asrt ((0 : Int) ≤ n1 ∧ n1 ≤ bigN) <| (loop (deck_sorted_L1 n1) ((List.replicate (Int.toNat n1) (0 : Int)), 0)).bind deck_sorted_K1

set_option maxRecDepth 100000 in
set_option maxHeartbeats 4000000 in
theorem deck_sorted_w {n1 : Int} {r : (List Int)} {w0 w : World} {B : Nat} {fs : List HP} (hm : deck_sorted_m n1 = some r) (hS : Sep w0 B w (fs)) :
    Calls Try.prog 84 #[.int .i64 n1] w fun e w' => ∃ v, e = .returned v ∧ ∃ (A2 : Option Addr) (c2 : Nat), v = .slice A2 r.length c2 ∧ Sep w0 B w' (own 3 (.slice A2 r.length c2) (vI r) :: fs) := by
  obtain ⟨i3, hi3, hz3, hs3, hb3⟩ := info_parts Info3
  unfold deck_sorted_m at hm
  replace hm := start_b hm
  refine enter (l := [.int .i64 n1]) (n := 18) Try.func84 rfl rfl (by simp) (fun a hF => ?_)
  refine reg [] [] [0] [pl 0 (.int .i64 n1)] hF hS Fol (by kernel_rfl) (by kernel_rfl) (by kernel_rfl) ?_ (fun a w hF hS => ?_)
  · exact obs_nil
  refine seqR ?_
  obtain ⟨hp1, hm⟩ := asrt_b hm
  refine at_run 1 [] [] [5] [pl 5 (.int .i64 n1)] hF hS (by kernel_rfl) (by kernel_rfl) ?_ (fun a w hF hS => ?_)
  · exact obs_nil
  obtain ⟨A1, c1, w, hrun, hS⟩ := run_mk1 (P := Try.prog) (t := 22) (Value.int .i64) (0 : Int) hS .i64 .i64 Und22 hi3 hz3 hs3 (by omega) rfl hp1
  have hS : Sep w0 B w (own 3 (.slice A1 (Int.toNat n1) c1) (vI (List.replicate (Int.toNat n1) (0 : Int))) :: fs) := hS
  refine at_do (d := 6) hF (by kernel_rfl) (by kernel_rfl) hrun (fun a hF => ?_)
  refine at_run 1 [] [] [3] [pl 3 (.slice A1 (Int.toNat n1) c1)] hF hS (by kernel_rfl) (by kernel_rfl) ?_ (fun a w hF hS => ?_)
  · exact obs_nil
  refine at_end [3] [pl 3 (.slice A1 (Int.toNat n1) c1)] hF rfl (by kernel_rfl) (fun hF => ?_)
  refine then_n ?_
  refine seq_cut (fun a w => ∃ (l2 : List Int), Fr 18 [pl 3 (.slice A1 (Int.toNat n1) c1)] a ∧ Sep w0 B w (own 3 (.slice A1 (Int.toNat n1) c1) (vI l2) :: fs) ∧ (deck_sorted_J1 l2).bind some = some r) ?_ ?_
  · rintro a w ⟨l2, hF, hS, hm⟩
    unfold deck_sorted_J1 at hm
    refine reg [] [] [2] [pl 2 (.slice A1 (Int.toNat n1) c1)] hF hS Fol (by kernel_rfl) (by kernel_rfl) (by kernel_rfl) ?_ (fun a w hF hS => ?_)
    · exact obs_nil
    refine wp_ret ?_
    have hl1 := (hS.at_ 0 rfl).len1
    have hS := (hS.at_ 0 rfl).reN hl1
    have hS : Sep w0 B w (own 3 (.slice A1 l2.length c1) (vI l2) :: fs) := hS
    have hF := hF.cast (t := 2) (v := .slice A1 (Int.toNat n1) c1) (v' := .slice A1 l2.length c1) rfl rfl (congrArg (fun k => Value.slice A1 k c1) hl1)
    have hm : some l2 = some r := hm
    obtain rfl := Option.some.inj hm
    exact retV (rs := [.tmp 2]) (vs := [.slice A1 l2.length c1]) hF rfl (rv_t (by kernel_rfl) <| rv_nil) rfl ⟨_, rfl, A1, c1, rfl, hS⟩
  · refine reg [] [] [3, 8, 9] [pl 3 (.slice A1 (Int.toNat n1) c1), pl 8 (.int .i64 (((Int.toNat n1) : Nat) : Int)), pl 9 (.int .i64 0)] hF hS Fol (by kernel_rfl) (by kernel_rfl) (by kernel_rfl) ?_ (fun a w hF hS => ?_)
    · exact obs_nil
    refine wp_block ?_
    refine wp_loop_model (S := (List Int × Int)) (R := (List Int)) (deck_sorted_L1 n1) (fun x => (deck_sorted_K1 x).bind some) r (fun (x : (List Int × Int)) a w => Fr 18 [pl 3 (.slice A1 (Int.toNat n1) c1), pl 8 (.int .i64 (((Int.toNat n1) : Nat) : Int)), pl 9 (.int .i64 x.2)] a ∧ Sep w0 B w (own 3 (.slice A1 (Int.toNat n1) c1) (vI x.1) :: fs)) (assoc_b hm) ⟨hF.weak [3, 8, 9] (by kernel_rfl), hS⟩ ?_
    clear hF hS hm
    rintro nn1 ⟨l1, z1⟩ a w ⟨hF, hS⟩ hm
    generalize hφ1 : stK (deck_sorted_L1 n1) nn1 (fun x => (deck_sorted_K1 x).bind some) = φ1 at hm
    unfold deck_sorted_L1 at hm
    dsimp only at hF hS hm
    refine reg [] [] [3, 8, 9, 10] [pl 3 (.slice A1 (Int.toNat n1) c1), pl 8 (.int .i64 (((Int.toNat n1) : Nat) : Int)), pl 9 (.int .i64 z1), pl 10 (.bool (decide (z1 < (((Int.toNat n1) : Nat) : Int))))] hF hS Fol (by kernel_rfl) (by kernel_rfl) (by kernel_rfl) ?_ (fun a w hF hS => ?_)
    · exact obs_nil
    refine seq_cut (fun a w => Fr 18 [pl 3 (.slice A1 (Int.toNat n1) c1), pl 8 (.int .i64 (((Int.toNat n1) : Nat) : Int)), pl 9 (.int .i64 z1)] a ∧ Sep w0 B w (own 3 (.slice A1 (Int.toNat n1) c1) (vI l1) :: fs) ∧ ((deck_sorted_J2 n1 l1 z1)).bind φ1 = some r) ?_ ?_
    · rintro a w ⟨hF, hS, hm⟩
      unfold deck_sorted_J2 at hm
      refine seq_cut (fun a w => Fr 18 [pl 3 (.slice A1 (Int.toNat n1) c1), pl 8 (.int .i64 (((Int.toNat n1) : Nat) : Int)), pl 9 (.int .i64 z1)] a ∧ Sep w0 B w (own 3 (.slice A1 (Int.toNat n1) c1) (vI (l1.set (Int.toNat z1) z1)) :: fs) ∧ ((deck_sorted_J3 l1 z1)).bind φ1 = some r) ?_ ?_
      · rintro a w ⟨hF, hS, hm⟩
        unfold deck_sorted_J3 at hm
        refine reg1 [] [] [3, 8, 9] [pl 3 (.slice A1 (Int.toNat n1) c1), pl 8 (.int .i64 (((Int.toNat n1) : Nat) : Int)), pl 9 (.int .i64 (w64 (z1 + 1)))] hF hS Fol (by kernel_rfl) (by kernel_rfl) (by kernel_rfl) ?_ (fun a w hF hS => ?_)
        · exact obs_nil
        refine then_n ?_
        rw [← hφ1] at hm
        exact ⟨((l1.set (Int.toNat z1) z1), (w64 (z1 + 1))), ⟨hF.weak [3, 8, 9] (by kernel_rfl), hS⟩, hm⟩
      · refine wp_block ?_
        refine reg [] [] [3, 4, 8, 9] [pl 3 (.slice A1 (Int.toNat n1) c1), pl 4 (.int .i64 z1), pl 8 (.int .i64 (((Int.toNat n1) : Nat) : Int)), pl 9 (.int .i64 z1)] hF hS Fol (by kernel_rfl) (by kernel_rfl) (by kernel_rfl) ?_ (fun a w hF hS => ?_)
        · exact obs_nil
        refine oneR ?_
        obtain ⟨hp2, hm⟩ := asrt_b hm
        refine at_run 4 [⟨true, [], vS (Instr.indexAt 22 (.slice A1 (Int.toNat n1) c1) (.int .i64 z1)), .pointer (some (sAddr A1 z1))⟩] [none, none, none, some (.pointer (some (sAddr A1 z1)))] [3, 8, 9, 14, 15] [pl 3 (.slice A1 (Int.toNat n1) c1), pl 8 (.int .i64 (((Int.toNat n1) : Nat) : Int)), pl 9 (.int .i64 z1), pl 14 (.int .i64 z1), pl 15 (.pointer (some (sAddr A1 z1)))] hF hS (by kernel_rfl) (by kernel_rfl) ?_ (fun a w hF hS => ?_)
        · exact obs_cons (ob_ix1 (f := (Value.int .i64)) (m := l1) Und22 hi3 hs3 (hS.at_ 0 rfl).rd ((hS.at_ 0 rfl).len1) (fun _ => hp2)) <| obs_nil
        obtain ⟨w, hrun, hS⟩ := run_set1 (P := Try.prog) (t := 3) (x := z1) (Value.int .i64) (hS.at_ 0 rfl) hi3 hs3 rfl rfl hp2
        refine at_skip hF (by kernel_rfl) hrun ?_
        have hS : Sep w0 B w (own 3 (.slice A1 (Int.toNat n1) c1) (vI (l1.set (Int.toNat z1) z1)) :: fs) := hS
        refine at_end [3, 8, 9] [pl 3 (.slice A1 (Int.toNat n1) c1), pl 8 (.int .i64 (((Int.toNat n1) : Nat) : Int)), pl 9 (.int .i64 z1)] hF rfl (by kernel_rfl) (fun hF => ?_)
        refine block_n ?_
        refine then_n ?_
        exact ⟨hF.weak [3, 8, 9] (by kernel_rfl), hS, hm⟩
    · refine cond_ev (t := 10) (b := decide (z1 < (((Int.toNat n1) : Nat) : Int))) hF (by kernel_rfl) (fun hb => ?_) (fun hb => ?_)
      · replace hm := if_t hm hb
        refine wp_skip ?_
        refine then_n ?_
        exact ⟨hF.weak [3, 8, 9] (by kernel_rfl), hS, hm⟩
      · replace hm := if_f hm hb
        refine wp_exit ?_
        refine then_e (then_e (block_e (then_n ?_)))
        rw [← hφ1] at hm
        replace hm := done_b hm
        unfold deck_sorted_K1 at hm
        try dsimp only at hm
        have hm : (deck_sorted_J1 l1).bind some = some r := hm
        exact ⟨l1, hF.weak [3] (by kernel_rfl), hS, hm⟩

noncomputable def slices_Equal_J4 (z1 : Int) : Option (St Int (Fl Unit Bool)) :=
  some (.next (w64 (z1 + 1)))

noncomputable def slices_Equal_J3 (s11 : List Int) (s21 : List Int) (z1 : Int) : Option (St Int (Fl Unit Bool)) :=
  asrt (0 ≤ z1 ∧ z1 < (s11.length : Int)) <| asrt (0 ≤ z1 ∧ z1 < (s21.length : Int)) <| if ((geti s11 z1) != (geti s21 z1)) then (some (.done (.ret false))) else ((slices_Equal_J4 z1))

noncomputable def slices_Equal_J2 : Option Bool :=
  some true

noncomputable def slices_Equal_K1 : (Fl Unit Bool) → Option Bool :=
  fun (x : (Fl Unit Bool)) => match x with | .go _ => slices_Equal_J2 | .ret x => some x

noncomputable def slices_Equal_L1 (s11 : List Int) (s21 : List Int) : Int → Option (St Int (Fl Unit Bool)) :=
  fun (x : Int) => match x with | z1 => if (decide (z1 < (s11.length : Int))) then ((slices_Equal_J3 s11 s21 z1)) else (some (.done (.go ())))

noncomputable def slices_Equal_J1 (s11 : List Int) (s21 : List Int) : Option Bool :=
  (loop (slices_Equal_L1 s11 s21) 0).bind slices_Equal_K1

noncomputable def slices_Equal_m (s11 : List Int) (s21 : List Int) : Option Bool :=
  if ((s11.length : Int) != (s21.length : Int)) then (some false) else ((slices_Equal_J1 s11 s21))

set_option maxRecDepth 100000 in
set_option maxHeartbeats 4000000 in
theorem slices_Equal_w {A1 : Option Addr} {c1 : Nat} {n1 : Nat} {s11 : List Int} {A2 : Option Addr} {c2 : Nat} {n2 : Nat} {s21 : List Int} {r : Bool} {w0 w : World} {B : Nat} {fs : List HP} (hm : slices_Equal_m s11 s21 = some r) (hS : Sep w0 B w (fs)) (hr_s11 : RdF w0 B fs A1 (vI s11)) (_hc_s11 : s11.length ≤ c1) (_hn_s11 : n1 = s11.length) (hr_s21 : RdF w0 B fs A2 (vI s21)) (_hc_s21 : s21.length ≤ c2) (_hn_s21 : n2 = s21.length) :
    Calls Try.prog 164 #[.slice A1 n1 c1, .slice A2 n2 c2] w fun e w' => e = .returned (.bool r) ∧ Sep w0 B w' (fs) := by
  obtain ⟨i3, hi3, hz3, hs3, hb3⟩ := info_parts Info3
  obtain rfl := _hn_s11
  obtain rfl := _hn_s21
  unfold slices_Equal_m at hm
  replace hm := start_b hm
  refine enter (l := [.slice A1 s11.length c1, .slice A2 s21.length c2]) (n := 26) Try.func164 rfl rfl (by simp) (fun a hF => ?_)
  refine reg [] [] [0, 1] [pl 0 (.slice A1 s11.length c1), pl 1 (.slice A2 s21.length c2)] hF hS Fol (by kernel_rfl) (by kernel_rfl) (by kernel_rfl) ?_ (fun a w hF hS => ?_)
  · exact obs_nil
  refine seq_cut (fun a w => Fr 26 [pl 0 (.slice A1 s11.length c1), pl 1 (.slice A2 s21.length c2)] a ∧ Sep w0 B w (fs) ∧ ((slices_Equal_J1 s11 s21)).bind some = some r) ?_ ?_
  · rintro a w ⟨hF, hS, hm⟩
    unfold slices_Equal_J1 at hm
    refine seq_cut (fun a w => Fr 26 [] a ∧ Sep w0 B w (fs) ∧ (slices_Equal_J2).bind some = some r) ?_ ?_
    · rintro a w ⟨hF, hS, hm⟩
      unfold slices_Equal_J2 at hm
      refine reg [] [] [4] [pl 4 (.bool true)] hF hS Fol (by kernel_rfl) (by kernel_rfl) (by kernel_rfl) ?_ (fun a w hF hS => ?_)
      · exact obs_nil
      refine wp_ret ?_
      have hm : some true = some r := hm
      obtain rfl := Option.some.inj hm
      exact retV (rs := [.tmp 4]) (vs := [.bool true]) hF rfl (rv_t (by kernel_rfl) <| rv_nil) rfl ⟨rfl, hS⟩
    · refine reg [] [] [0, 1, 12, 13] [pl 0 (.slice A1 s11.length c1), pl 1 (.slice A2 s21.length c2), pl 12 (.int .i64 (s11.length : Int)), pl 13 (.int .i64 0)] hF hS Fol (by kernel_rfl) (by kernel_rfl) (by kernel_rfl) ?_ (fun a w hF hS => ?_)
      · exact obs_nil
      refine wp_block ?_
      refine wp_loop_model (S := Int) (R := (Fl Unit Bool)) (slices_Equal_L1 s11 s21) (fun x => (slices_Equal_K1 x).bind some) r (fun (x : Int) a w => Fr 26 [pl 0 (.slice A1 s11.length c1), pl 1 (.slice A2 s21.length c2), pl 12 (.int .i64 (s11.length : Int)), pl 13 (.int .i64 x)] a ∧ Sep w0 B w (fs)) (assoc_b hm) ⟨hF.weak [0, 1, 12, 13] (by kernel_rfl), hS⟩ ?_
      clear hF hS hm
      rintro nn1 z1 a w ⟨hF, hS⟩ hm
      generalize hφ1 : stK (slices_Equal_L1 s11 s21) nn1 (fun x => (slices_Equal_K1 x).bind some) = φ1 at hm
      unfold slices_Equal_L1 at hm
      dsimp only at hm
      refine reg [] [] [0, 1, 12, 13, 14] [pl 0 (.slice A1 s11.length c1), pl 1 (.slice A2 s21.length c2), pl 12 (.int .i64 (s11.length : Int)), pl 13 (.int .i64 z1), pl 14 (.bool (decide (z1 < (s11.length : Int))))] hF hS Fol (by kernel_rfl) (by kernel_rfl) (by kernel_rfl) ?_ (fun a w hF hS => ?_)
      · exact obs_nil
      refine seq_cut (fun a w => Fr 26 [pl 0 (.slice A1 s11.length c1), pl 1 (.slice A2 s21.length c2), pl 12 (.int .i64 (s11.length : Int)), pl 13 (.int .i64 z1)] a ∧ Sep w0 B w (fs) ∧ ((slices_Equal_J3 s11 s21 z1)).bind φ1 = some r) ?_ ?_
      · rintro a w ⟨hF, hS, hm⟩
        unfold slices_Equal_J3 at hm
        refine seq_cut (fun a w => Fr 26 [pl 0 (.slice A1 s11.length c1), pl 1 (.slice A2 s21.length c2), pl 12 (.int .i64 (s11.length : Int)), pl 13 (.int .i64 z1)] a ∧ Sep w0 B w (fs) ∧ ((slices_Equal_J4 z1)).bind φ1 = some r) ?_ ?_
        · rintro a w ⟨hF, hS, hm⟩
          unfold slices_Equal_J4 at hm
          refine reg1 [] [] [0, 1, 12, 13] [pl 0 (.slice A1 s11.length c1), pl 1 (.slice A2 s21.length c2), pl 12 (.int .i64 (s11.length : Int)), pl 13 (.int .i64 (w64 (z1 + 1)))] hF hS Fol (by kernel_rfl) (by kernel_rfl) (by kernel_rfl) ?_ (fun a w hF hS => ?_)
          · exact obs_nil
          refine then_n ?_
          rw [← hφ1] at hm
          exact ⟨(w64 (z1 + 1)), ⟨hF.weak [0, 1, 12, 13] (by kernel_rfl), hS⟩, hm⟩
        · refine wp_block ?_
          refine reg [] [] [0, 1, 5, 12, 13] [pl 0 (.slice A1 s11.length c1), pl 1 (.slice A2 s21.length c2), pl 5 (.int .i64 z1), pl 12 (.int .i64 (s11.length : Int)), pl 13 (.int .i64 z1)] hF hS Fol (by kernel_rfl) (by kernel_rfl) (by kernel_rfl) ?_ (fun a w hF hS => ?_)
          · exact obs_nil
          obtain ⟨hp1, hm⟩ := asrt_b hm
          obtain ⟨hp2, hm⟩ := asrt_b hm
          refine reg [⟨true, [], vS (Instr.indexAt 22 (.slice A1 s11.length c1) (.int .i64 z1)), .pointer (some (sAddr A1 z1))⟩, ⟨false, [], vS (Instr.loadAt 3 (.pointer (some (sAddr A1 z1)))), .int .i64 (geti s11 z1)⟩, ⟨true, [], vS (Instr.indexAt 22 (.slice A2 s21.length c2) (.int .i64 z1)), .pointer (some (sAddr A2 z1))⟩, ⟨false, [], vS (Instr.loadAt 3 (.pointer (some (sAddr A2 z1)))), .int .i64 (geti s21 z1)⟩] [none, none, some (.pointer (some (sAddr A1 z1))), some (.int .i64 (geti s11 z1)), none, none, some (.pointer (some (sAddr A2 z1))), some (.int .i64 (geti s21 z1)), none] [0, 1, 12, 13, 24] [pl 0 (.slice A1 s11.length c1), pl 1 (.slice A2 s21.length c2), pl 12 (.int .i64 (s11.length : Int)), pl 13 (.int .i64 z1), pl 24 (.bool ((geti s11 z1) != (geti s21 z1)))] hF hS Fol (by kernel_rfl) (by kernel_rfl) (by kernel_rfl) ?_ (fun a w hF hS => ?_)
          · exact obs_cons (ob_ix1 (f := (Value.int .i64)) (m := s11) Und22 hi3 hs3 (hr_s11 _ (hS.dropN 0)) rfl (fun _ => hp1)) <| obs_cons (ob_get1 (n := s11.length) (m := s11) (Value.int .i64) (0 : Int) Agg3 (fun _ hS => ⟨_, (hr_s11 _ (hS.dropN 0))⟩) (fun _ hS => rfl) (fun _ => hp1)) <| obs_cons (ob_ix1 (f := (Value.int .i64)) (m := s21) Und22 hi3 hs3 (hr_s21 _ (hS.dropN 0)) rfl (fun _ => hp2)) <| obs_cons (ob_get1 (n := s21.length) (m := s21) (Value.int .i64) (0 : Int) Agg3 (fun _ hS => ⟨_, (hr_s21 _ (hS.dropN 0))⟩) (fun _ hS => rfl) (fun _ => hp2)) <| obs_nil
          refine cond_ev (t := 24) (b := ((geti s11 z1) != (geti s21 z1))) hF (by kernel_rfl) (fun hb => ?_) (fun hb => ?_)
          · replace hm := if_t hm hb
            refine reg [] [] [4] [pl 4 (.bool false)] hF hS Fol (by kernel_rfl) (by kernel_rfl) (by kernel_rfl) ?_ (fun a w hF hS => ?_)
            · exact obs_nil
            refine wp_ret ?_
            refine block_r (then_r (then_r (block_r (then_r ?_))))
            rw [← hφ1] at hm
            replace hm := done_b hm
            unfold slices_Equal_K1 at hm
            try dsimp only at hm
            have hm : some false = some r := hm
            obtain rfl := Option.some.inj hm
            exact retV (rs := [.tmp 4]) (vs := [.bool false]) hF rfl (rv_t (by kernel_rfl) <| rv_nil) rfl ⟨rfl, hS⟩
          · replace hm := if_f hm hb
            refine wp_skip ?_
            refine block_n ?_
            refine then_n ?_
            exact ⟨hF.weak [0, 1, 12, 13] (by kernel_rfl), hS, hm⟩
      · refine cond_ev (t := 14) (b := decide (z1 < (s11.length : Int))) hF (by kernel_rfl) (fun hb => ?_) (fun hb => ?_)
        · replace hm := if_t hm hb
          refine wp_skip ?_
          refine then_n ?_
          exact ⟨hF.weak [0, 1, 12, 13] (by kernel_rfl), hS, hm⟩
        · replace hm := if_f hm hb
          refine wp_exit ?_
          refine then_e (then_e (block_e (then_n ?_)))
          rw [← hφ1] at hm
          replace hm := done_b hm
          unfold slices_Equal_K1 at hm
          try dsimp only at hm
          have hm : (slices_Equal_J2).bind some = some r := hm
          exact ⟨hF.weak [] (by kernel_rfl), hS, hm⟩
  · refine reg [] [] [0, 1, 10] [pl 0 (.slice A1 s11.length c1), pl 1 (.slice A2 s21.length c2), pl 10 (.bool ((s11.length : Int) != (s21.length : Int)))] hF hS Fol (by kernel_rfl) (by kernel_rfl) (by kernel_rfl) ?_ (fun a w hF hS => ?_)
    · exact obs_nil
    refine cond_ev (t := 10) (b := ((s11.length : Int) != (s21.length : Int))) hF (by kernel_rfl) (fun hb => ?_) (fun hb => ?_)
    · replace hm := if_t hm hb
      refine reg [] [] [4] [pl 4 (.bool false)] hF hS Fol (by kernel_rfl) (by kernel_rfl) (by kernel_rfl) ?_ (fun a w hF hS => ?_)
      · exact obs_nil
      refine wp_ret ?_
      refine then_r ?_
      have hm : some false = some r := hm
      obtain rfl := Option.some.inj hm
      exact retV (rs := [.tmp 4]) (vs := [.bool false]) hF rfl (rv_t (by kernel_rfl) <| rv_nil) rfl ⟨rfl, hS⟩
    · replace hm := if_f hm hb
      refine wp_skip ?_
      refine then_n ?_
      exact ⟨hF.weak [0, 1] (by kernel_rfl), hS, hm⟩

noncomputable def deck_order_m (l1 : List Int) : Option Bool :=
  (slices_Values_m l1).bind fun r1 => (slices_Sorted_m l1).bind fun r2 => (deck_sorted_m (l1.length : Int)).bind fun r3 => (slices_Equal_m r2 r3).bind fun r4 => some r4

set_option maxRecDepth 100000 in
set_option maxHeartbeats 4000000 in
theorem deck_order_w {A1 : Option Addr} {c1 : Nat} {n1 : Nat} {l1 : List Int} {r : Bool} {w0 w : World} {B : Nat} {fs : List HP} (hm : deck_order_m l1 = some r) (hS : Sep w0 B w (fs)) (hr_l1 : RdF w0 B fs A1 (vI l1)) (_hc_l1 : l1.length ≤ c1) (_hn_l1 : n1 = l1.length) :
    Calls Try.prog 83 #[.slice A1 n1 c1] w fun e w' => e = .returned (.bool r) ∧ Sep w0 B w' (fs) := by
  obtain ⟨i3, hi3, hz3, hs3, hb3⟩ := info_parts Info3
  obtain rfl := _hn_l1
  unfold deck_order_m at hm
  replace hm := start_b hm
  refine enter (l := [.slice A1 l1.length c1]) (n := 12) Try.func83 rfl rfl (by simp) (fun a hF => ?_)
  refine reg [] [] [0] [pl 0 (.slice A1 l1.length c1)] hF hS Fol (by kernel_rfl) (by kernel_rfl) (by kernel_rfl) ?_ (fun a w hF hS => ?_)
  · exact obs_nil
  refine seqR ?_
  obtain ⟨r1, hr1, hm⟩ := call_b hm
  obtain ⟨r2, hr2, hm⟩ := call_b hm
  refine at_run 1 [] [] [0, 4] [pl 0 (.slice A1 l1.length c1), pl 4 (.slice A1 l1.length c1)] hF hS (by kernel_rfl) (by kernel_rfl) ?_ (fun a w hF hS => ?_)
  · exact obs_nil
  refine at_call (f := 109) (args := #[.slice A1 l1.length c1]) (d := 5) hF (by kernel_rfl) (by kernel_rfl) Try.func109 (by kernel_rfl) rfl (slices_Values_w hr1 hS (fun _ hS => (hr_l1 _ (hS.dropN 0))) _hc_l1 rfl) (fun v a w hR hF => ?_)
  clear hS
  obtain ⟨g1, rfl, hS⟩ := hR
  have hS : Sep w0 B w (blk g1 22 #[.slice A1 l1.length c1] :: fs) := hS
  refine at_call (f := 108) (args := #[.func (.func 175) #[] #[.pointer (some ⟨g1, 0, none⟩)]]) (d := 6) hF (by kernel_rfl) (by kernel_rfl) Try.func108 (by kernel_rfl) rfl (slices_Sorted_w hr2 hS (fun _ hS => (hr_l1 _ (hS.dropN 0))) _hc_l1 rfl) (fun v a w hR hF => ?_)
  clear hS
  obtain ⟨A2, c2, rfl, hS⟩ := hR
  have hS : Sep w0 B w (blk g1 22 #[.slice A1 l1.length c1] :: own 3 (.slice A2 r2.length c2) (vI r2) :: fs) := hS
  refine at_run 1 [] [] [0, 3] [pl 0 (.slice A1 l1.length c1), pl 3 (.slice A2 r2.length c2)] hF hS (by kernel_rfl) (by kernel_rfl) ?_ (fun a w hF hS => ?_)
  · exact obs_nil
  refine at_end [0, 3] [pl 0 (.slice A1 l1.length c1), pl 3 (.slice A2 r2.length c2)] hF rfl (by kernel_rfl) (fun hF => ?_)
  refine then_n ?_
  refine seqR ?_
  obtain ⟨r3, hr3, hm⟩ := call_b hm
  obtain ⟨r4, hr4, hm⟩ := call_b hm
  refine at_run 3 [] [] [7, 9] [pl 7 (.slice A2 r2.length c2), pl 9 (.int .i64 (l1.length : Int))] hF hS (by kernel_rfl) (by kernel_rfl) ?_ (fun a w hF hS => ?_)
  · exact obs_nil
  refine at_call (f := 84) (args := #[.int .i64 (l1.length : Int)]) (d := 10) hF (by kernel_rfl) (by kernel_rfl) Try.func84 (by kernel_rfl) rfl (deck_sorted_w hr3 hS ) (fun v a w hR hF => ?_)
  clear hS
  obtain ⟨A3, c3, rfl, hS⟩ := hR
  have hS : Sep w0 B w (own 3 (.slice A3 r3.length c3) (vI r3) :: blk g1 22 #[.slice A1 l1.length c1] :: own 3 (.slice A2 r2.length c2) (vI r2) :: fs) := hS
  refine at_run 2 [⟨false, [], callFunc 164 #[.slice A2 r2.length c2, .slice A3 r3.length c3], .bool r4⟩] [some (.bool r4), none] [2] [pl 2 (.bool r4)] hF hS (by kernel_rfl) (by kernel_rfl) ?_ (fun a w hF hS => ?_)
  · exact obs_cons (ob_call Try.func164 (by kernel_rfl) rfl (fun _ _ hS => slices_Equal_w hr4 hS (fun _ hS => (hS.at_ 2 rfl).rd) ((hS.at_ 2 rfl).cap1) rfl (fun _ hS => (hS.at_ 0 rfl).rd) ((hS.at_ 0 rfl).cap1) rfl)) <| obs_nil
  refine at_end [2] [pl 2 (.bool r4)] hF rfl (by kernel_rfl) (fun hF => ?_)
  refine then_n ?_
  refine wp_ret ?_
  have hS := hS.pickN 3 [] (by decide)
  have hm : some r4 = some r := hm
  obtain rfl := Option.some.inj hm
  exact retV (rs := [.tmp 2]) (vs := [.bool r4]) hF rfl (rv_t (by kernel_rfl) <| rv_nil) rfl ⟨rfl, hS⟩

noncomputable def deck_Sign_J7 (l1 : List Int) (sign3 : Int) (seen2 : List Bool) (k1 : Int) : Option (St (Int × List Bool × Int) (Int × List Bool)) :=
  asrt (0 ≤ k1 ∧ k1 < (l1.length : Int)) <| some (.next ((w64 (0 - sign3)), (seen2.set (Int.toNat k1) true), (geti l1 k1)))

noncomputable def deck_Sign_J6 (l1 : List Int) (sign3 : Int) (seen2 : List Bool) (k1 : Int) : Option (St (Int × List Bool × Int) (Int × List Bool)) :=
  asrt (0 ≤ k1 ∧ k1 < (((Int.toNat (l1.length : Int)) : Nat) : Int)) <| (deck_Sign_J7 l1 sign3 seen2 k1)

noncomputable def deck_Sign_J4 (z1 : Int) (sign5 : Int) (seen4 : List Bool) : Option (St (Int × List Bool × Int) Int) :=
  some (.next (sign5, seen4, (w64 (z1 + 1))))

noncomputable def deck_Sign_J5 (l1 : List Int) (z1 : Int) (sign4 : Int) (seen3 : List Bool) : Option (St (Int × List Bool × Int) Int) :=
  asrt (0 ≤ z1 ∧ z1 < (((Int.toNat (l1.length : Int)) : Nat) : Int)) <| (deck_Sign_J4 z1) sign4 (seen3.set (Int.toNat z1) true)

noncomputable def deck_Sign_K2 (l1 : List Int) (z1 : Int) : (Int × List Bool) → Option (St (Int × List Bool × Int) Int) :=
  fun (x : (Int × List Bool)) => match x with | (sign4, seen3) => (deck_Sign_J5 l1 z1) sign4 seen3

noncomputable def deck_Sign_L2 (l1 : List Int) (z1 : Int) : (Int × List Bool × Int) → Option (St (Int × List Bool × Int) (Int × List Bool)) :=
  fun (x : (Int × List Bool × Int)) => match x with | (sign3, seen2, k1) => asrt (0 ≤ z1 ∧ z1 < (((Int.toNat (l1.length : Int)) : Nat) : Int)) <| if ((!(getb seen2 z1)) && (k1 != z1)) then ((deck_Sign_J6 l1 sign3 seen2 k1)) else (some (.done (sign3, seen2)))

noncomputable def deck_Sign_J3 (l1 : List Int) (sign1 : Int) (seen1 : List Bool) (z1 : Int) : Option (St (Int × List Bool × Int) Int) :=
  asrt (0 ≤ z1 ∧ z1 < (l1.length : Int)) <| (loop (deck_Sign_L2 l1 z1) (sign1, seen1, (geti l1 z1))).bind (deck_Sign_K2 l1 z1)

noncomputable def deck_Sign_J2 (sign2 : Int) : Option (Int × Int) :=
  some (sign2, 0)

noncomputable def deck_Sign_K1 : Int → Option (Int × Int) :=
  fun (x : Int) => match x with | sign2 => deck_Sign_J2 sign2

noncomputable def deck_Sign_L1 (l1 : List Int) : (Int × List Bool × Int) → Option (St (Int × List Bool × Int) Int) :=
  fun (x : (Int × List Bool × Int)) => match x with | (sign1, seen1, z1) => if (decide (z1 < (l1.length : Int))) then ((deck_Sign_J3 l1 sign1 seen1 z1)) else (some (.done sign1))

noncomputable def deck_Sign_J1 (l1 : List Int) : Option (Int × Int) :=
  asrt ((0 : Int) ≤ (l1.length : Int) ∧ (l1.length : Int) ≤ bigN) <| (loop (deck_Sign_L1 l1) (1, (List.replicate (Int.toNat (l1.length : Int)) false), 0)).bind deck_Sign_K1

noncomputable def deck_Sign_m (l1 : List Int) : Option (Int × Int) :=
  if (decide ((104 : Int) < (l1.length : Int))) then (some (0, 2)) else ((deck_order_m l1).bind fun r1 => if (!r1) then (some (0, 1)) else ((deck_Sign_J1 l1)))

set_option maxRecDepth 100000 in
set_option maxHeartbeats 4000000 in
theorem deck_Sign_w {A1 : Option Addr} {c1 : Nat} {n1 : Nat} {l1 : List Int} {r : (Int × Int)} {w0 w : World} {B : Nat} {fs : List HP} (hm : deck_Sign_m l1 = some r) (hS : Sep w0 B w (fs)) (hr_l1 : RdF w0 B fs A1 (vI l1)) (_hc_l1 : l1.length ≤ c1) (_hn_l1 : n1 = l1.length) :
    Calls Try.prog 15 #[.slice A1 n1 c1] w fun e w' => e = .returned (.tuple #[.int .i64 r.1, .int .i64 r.2]) ∧ Sep w0 B w' (fs) := by
  obtain ⟨i3, hi3, hz3, hs3, hb3⟩ := info_parts Info3
  obtain ⟨i4, hi4, hz4, hs4, hb4⟩ := info_parts Info4
  obtain rfl := _hn_l1
  unfold deck_Sign_m at hm
  replace hm := start_b hm
  refine enter (l := [.slice A1 l1.length c1]) (n := 52) Try.func15 rfl rfl (by simp) (fun a hF => ?_)
  refine reg [] [] [0] [pl 0 (.slice A1 l1.length c1)] hF hS Fol (by kernel_rfl) (by kernel_rfl) (by kernel_rfl) ?_ (fun a w hF hS => ?_)
  · exact obs_nil
  refine seq_cut (fun a w => Fr 52 [pl 0 (.slice A1 l1.length c1)] a ∧ Sep w0 B w (fs) ∧ ((deck_Sign_J1 l1)).bind some = some r) ?_ ?_
  · rintro a w ⟨hF, hS, hm⟩
    unfold deck_Sign_J1 at hm
    refine reg [] [] [0, 4] [pl 0 (.slice A1 l1.length c1), pl 4 (.int .i64 1)] hF hS Fol (by kernel_rfl) (by kernel_rfl) (by kernel_rfl) ?_ (fun a w hF hS => ?_)
    · exact obs_nil
    refine seqR ?_
    obtain ⟨hp1, hm⟩ := asrt_b hm
    refine at_run 2 [] [] [0, 4, 17] [pl 0 (.slice A1 l1.length c1), pl 4 (.int .i64 1), pl 17 (.int .i64 (l1.length : Int))] hF hS (by kernel_rfl) (by kernel_rfl) ?_ (fun a w hF hS => ?_)
    · exact obs_nil
    obtain ⟨A2, c2, w, hrun, hS⟩ := run_mk1 (P := Try.prog) (t := 117) Value.bool false hS .i64 .i64 Und117 hi4 hz4 hs4 (by omega) rfl hp1
    have hS : Sep w0 B w (own 4 (.slice A2 (Int.toNat (l1.length : Int)) c2) (vB (List.replicate (Int.toNat (l1.length : Int)) false)) :: fs) := hS
    refine at_do (d := 18) hF (by kernel_rfl) (by kernel_rfl) hrun (fun a hF => ?_)
    refine at_run 1 [] [] [0, 4, 5] [pl 0 (.slice A1 l1.length c1), pl 4 (.int .i64 1), pl 5 (.slice A2 (Int.toNat (l1.length : Int)) c2)] hF hS (by kernel_rfl) (by kernel_rfl) ?_ (fun a w hF hS => ?_)
    · exact obs_nil
    refine at_end [0, 4, 5] [pl 0 (.slice A1 l1.length c1), pl 4 (.int .i64 1), pl 5 (.slice A2 (Int.toNat (l1.length : Int)) c2)] hF rfl (by kernel_rfl) (fun hF => ?_)
    refine then_n ?_
    refine seq_cut (fun a w => ∃ (sign2 : Int), Fr 52 [pl 4 (.int .i64 sign2)] a ∧ Sep w0 B w (fs) ∧ (deck_Sign_J2 sign2).bind some = some r) ?_ ?_
    · rintro a w ⟨sign2, hF, hS, hm⟩
      unfold deck_Sign_J2 at hm
      refine reg [] [] [2, 3] [pl 2 (.int .i64 sign2), pl 3 (.int .i64 0)] hF hS Fol (by kernel_rfl) (by kernel_rfl) (by kernel_rfl) ?_ (fun a w hF hS => ?_)
      · exact obs_nil
      refine wp_ret ?_
      have hm : some (sign2, 0) = some r := hm
      obtain rfl := Option.some.inj hm
      exact retV (rs := [.tmp 2, .tmp 3]) (vs := [.int .i64 sign2, .int .i64 0]) hF rfl (rv_t (by kernel_rfl) <| rv_t (by kernel_rfl) <| rv_nil) rfl ⟨rfl, hS⟩
    · refine reg [] [] [0, 4, 5, 20, 21] [pl 0 (.slice A1 l1.length c1), pl 4 (.int .i64 1), pl 5 (.slice A2 (Int.toNat (l1.length : Int)) c2), pl 20 (.int .i64 (l1.length : Int)), pl 21 (.int .i64 0)] hF hS Fol (by kernel_rfl) (by kernel_rfl) (by kernel_rfl) ?_ (fun a w hF hS => ?_)
      · exact obs_nil
      refine wp_block ?_
      refine wp_loop_model (S := (Int × List Bool × Int)) (R := Int) (deck_Sign_L1 l1) (fun x => (deck_Sign_K1 x).bind some) r (fun (x : (Int × List Bool × Int)) a w => Fr 52 [pl 0 (.slice A1 l1.length c1), pl 4 (.int .i64 x.1), pl 5 (.slice A2 (Int.toNat (l1.length : Int)) c2), pl 20 (.int .i64 (l1.length : Int)), pl 21 (.int .i64 x.2.2)] a ∧ Sep w0 B w (own 4 (.slice A2 (Int.toNat (l1.length : Int)) c2) (vB x.2.1) :: fs)) (assoc_b hm) ⟨hF.weak [0, 4, 5, 20, 21] (by kernel_rfl), hS⟩ ?_
      clear hF hS hm
      rintro nn1 ⟨sign1, seen1, z1⟩ a w ⟨hF, hS⟩ hm
      generalize hφ1 : stK (deck_Sign_L1 l1) nn1 (fun x => (deck_Sign_K1 x).bind some) = φ1 at hm
      unfold deck_Sign_L1 at hm
      dsimp only at hF hS hm
      refine reg [] [] [0, 4, 5, 20, 21, 22] [pl 0 (.slice A1 l1.length c1), pl 4 (.int .i64 sign1), pl 5 (.slice A2 (Int.toNat (l1.length : Int)) c2), pl 20 (.int .i64 (l1.length : Int)), pl 21 (.int .i64 z1), pl 22 (.bool (decide (z1 < (l1.length : Int))))] hF hS Fol (by kernel_rfl) (by kernel_rfl) (by kernel_rfl) ?_ (fun a w hF hS => ?_)
      · exact obs_nil
      refine seq_cut (fun a w => Fr 52 [pl 0 (.slice A1 l1.length c1), pl 4 (.int .i64 sign1), pl 5 (.slice A2 (Int.toNat (l1.length : Int)) c2), pl 20 (.int .i64 (l1.length : Int)), pl 21 (.int .i64 z1)] a ∧ Sep w0 B w (own 4 (.slice A2 (Int.toNat (l1.length : Int)) c2) (vB seen1) :: fs) ∧ ((deck_Sign_J3 l1 sign1 seen1 z1)).bind φ1 = some r) ?_ ?_
      · rintro a w ⟨hF, hS, hm⟩
        unfold deck_Sign_J3 at hm
        refine seq_cut (fun a w => ∃ (sign5 : Int) (seen4 : List Bool), Fr 52 [pl 0 (.slice A1 l1.length c1), pl 4 (.int .i64 sign5), pl 5 (.slice A2 (Int.toNat (l1.length : Int)) c2), pl 20 (.int .i64 (l1.length : Int)), pl 21 (.int .i64 z1)] a ∧ Sep w0 B w (own 4 (.slice A2 (Int.toNat (l1.length : Int)) c2) (vB seen4) :: fs) ∧ ((deck_Sign_J4 z1) sign5 seen4).bind φ1 = some r) ?_ ?_
        · rintro a w ⟨sign5, seen4, hF, hS, hm⟩
          unfold deck_Sign_J4 at hm
          refine reg1 [] [] [0, 4, 5, 20, 21] [pl 0 (.slice A1 l1.length c1), pl 4 (.int .i64 sign5), pl 5 (.slice A2 (Int.toNat (l1.length : Int)) c2), pl 20 (.int .i64 (l1.length : Int)), pl 21 (.int .i64 (w64 (z1 + 1)))] hF hS Fol (by kernel_rfl) (by kernel_rfl) (by kernel_rfl) ?_ (fun a w hF hS => ?_)
          · exact obs_nil
          refine then_n ?_
          rw [← hφ1] at hm
          exact ⟨(sign5, seen4, (w64 (z1 + 1))), ⟨hF.weak [0, 4, 5, 20, 21] (by kernel_rfl), hS⟩, hm⟩
        · refine wp_block ?_
          refine reg [] [] [0, 4, 5, 6, 20, 21] [pl 0 (.slice A1 l1.length c1), pl 4 (.int .i64 sign1), pl 5 (.slice A2 (Int.toNat (l1.length : Int)) c2), pl 6 (.int .i64 z1), pl 20 (.int .i64 (l1.length : Int)), pl 21 (.int .i64 z1)] hF hS Fol (by kernel_rfl) (by kernel_rfl) (by kernel_rfl) ?_ (fun a w hF hS => ?_)
          · exact obs_nil
          refine seq_cut (fun a w => ∃ (sign4 : Int) (seen3 : List Bool), Fr 52 [pl 0 (.slice A1 l1.length c1), pl 4 (.int .i64 sign4), pl 5 (.slice A2 (Int.toNat (l1.length : Int)) c2), pl 6 (.int .i64 z1), pl 20 (.int .i64 (l1.length : Int)), pl 21 (.int .i64 z1)] a ∧ Sep w0 B w (own 4 (.slice A2 (Int.toNat (l1.length : Int)) c2) (vB seen3) :: fs) ∧ ((deck_Sign_J5 l1 z1) sign4 seen3).bind φ1 = some r) ?_ ?_
          · rintro a w ⟨sign4, seen3, hF, hS, hm⟩
            unfold deck_Sign_J5 at hm
            refine oneR ?_
            obtain ⟨hp6, hm⟩ := asrt_b hm
            refine at_run 3 [⟨true, [], vS (Instr.indexAt 117 (.slice A2 (Int.toNat (l1.length : Int)) c2) (.int .i64 z1)), .pointer (some (sAddr A2 z1))⟩] [none, none, some (.pointer (some (sAddr A2 z1)))] [0, 4, 5, 20, 21, 49] [pl 0 (.slice A1 l1.length c1), pl 4 (.int .i64 sign4), pl 5 (.slice A2 (Int.toNat (l1.length : Int)) c2), pl 20 (.int .i64 (l1.length : Int)), pl 21 (.int .i64 z1), pl 49 (.pointer (some (sAddr A2 z1)))] hF hS (by kernel_rfl) (by kernel_rfl) ?_ (fun a w hF hS => ?_)
            · exact obs_cons (ob_ix1 (f := Value.bool) (m := seen3) Und117 hi4 hs4 (hS.at_ 0 rfl).rd ((hS.at_ 0 rfl).len1) (fun _ => hp6)) <| obs_nil
            obtain ⟨w, hrun, hS⟩ := run_set1 (P := Try.prog) (t := 4) (x := true) Value.bool (hS.at_ 0 rfl) hi4 hs4 rfl rfl hp6
            refine at_skip hF (by kernel_rfl) hrun ?_
            have hS : Sep w0 B w (own 4 (.slice A2 (Int.toNat (l1.length : Int)) c2) (vB (seen3.set (Int.toNat z1) true)) :: fs) := hS
            refine at_end [0, 4, 5, 20, 21] [pl 0 (.slice A1 l1.length c1), pl 4 (.int .i64 sign4), pl 5 (.slice A2 (Int.toNat (l1.length : Int)) c2), pl 20 (.int .i64 (l1.length : Int)), pl 21 (.int .i64 z1)] hF rfl (by kernel_rfl) (fun hF => ?_)
            refine block_n ?_
            refine then_n ?_
            exact ⟨sign4, (seen3.set (Int.toNat z1) true), hF.weak [0, 4, 5, 20, 21] (by kernel_rfl), hS, hm⟩
          · obtain ⟨hp2, hm⟩ := asrt_b hm
            refine reg [⟨true, [], vS (Instr.indexAt 22 (.slice A1 l1.length c1) (.int .i64 z1)), .pointer (some (sAddr A1 z1))⟩, ⟨false, [], vS (Instr.loadAt 3 (.pointer (some (sAddr A1 z1)))), .int .i64 (geti l1 z1)⟩] [none, none, some (.pointer (some (sAddr A1 z1))), some (.int .i64 (geti l1 z1)), none] [0, 4, 5, 6, 7, 20, 21] [pl 0 (.slice A1 l1.length c1), pl 4 (.int .i64 sign1), pl 5 (.slice A2 (Int.toNat (l1.length : Int)) c2), pl 6 (.int .i64 z1), pl 7 (.int .i64 (geti l1 z1)), pl 20 (.int .i64 (l1.length : Int)), pl 21 (.int .i64 z1)] hF hS Fol (by kernel_rfl) (by kernel_rfl) (by kernel_rfl) ?_ (fun a w hF hS => ?_)
            · exact obs_cons (ob_ix1 (f := (Value.int .i64)) (m := l1) Und22 hi3 hs3 (hr_l1 _ (hS.dropN 1)) rfl (fun _ => hp2)) <| obs_cons (ob_get1 (n := l1.length) (m := l1) (Value.int .i64) (0 : Int) Agg3 (fun _ hS => ⟨_, (hr_l1 _ (hS.dropN 1))⟩) (fun _ hS => rfl) (fun _ => hp2)) <| obs_nil
            refine wp_block ?_
            refine wp_loop_model (S := (Int × List Bool × Int)) (R := (Int × List Bool)) (deck_Sign_L2 l1 z1) (fun x => ((deck_Sign_K2 l1 z1) x).bind φ1) r (fun (x : (Int × List Bool × Int)) a w => Fr 52 [pl 0 (.slice A1 l1.length c1), pl 4 (.int .i64 x.1), pl 5 (.slice A2 (Int.toNat (l1.length : Int)) c2), pl 6 (.int .i64 z1), pl 7 (.int .i64 x.2.2), pl 20 (.int .i64 (l1.length : Int)), pl 21 (.int .i64 z1)] a ∧ Sep w0 B w (own 4 (.slice A2 (Int.toNat (l1.length : Int)) c2) (vB x.2.1) :: fs)) (assoc_b hm) ⟨hF.weak [0, 4, 5, 6, 7, 20, 21] (by kernel_rfl), hS⟩ ?_
            clear hF hS hm
            rintro nn2 ⟨sign3, seen2, k1⟩ a w ⟨hF, hS⟩ hm
            generalize hφ2 : stK (deck_Sign_L2 l1 z1) nn2 (fun x => ((deck_Sign_K2 l1 z1) x).bind φ1) = φ2 at hm
            unfold deck_Sign_L2 at hm
            dsimp only at hF hS hm
            refine seq_cut (fun a w => Fr 52 [pl 0 (.slice A1 l1.length c1), pl 4 (.int .i64 sign3), pl 5 (.slice A2 (Int.toNat (l1.length : Int)) c2), pl 6 (.int .i64 z1), pl 7 (.int .i64 k1), pl 20 (.int .i64 (l1.length : Int)), pl 21 (.int .i64 z1)] a ∧ Sep w0 B w (own 4 (.slice A2 (Int.toNat (l1.length : Int)) c2) (vB seen2) :: fs) ∧ ((deck_Sign_J6 l1 sign3 seen2 k1)).bind φ2 = some r) ?_ ?_
            · rintro a w ⟨hF, hS, hm⟩
              unfold deck_Sign_J6 at hm
              refine seq_cut (fun a w => Fr 52 [pl 0 (.slice A1 l1.length c1), pl 4 (.int .i64 (w64 (0 - sign3))), pl 5 (.slice A2 (Int.toNat (l1.length : Int)) c2), pl 6 (.int .i64 z1), pl 7 (.int .i64 k1), pl 20 (.int .i64 (l1.length : Int)), pl 21 (.int .i64 z1)] a ∧ Sep w0 B w (own 4 (.slice A2 (Int.toNat (l1.length : Int)) c2) (vB (seen2.set (Int.toNat k1) true)) :: fs) ∧ ((deck_Sign_J7 l1 sign3 seen2 k1)).bind φ2 = some r) ?_ ?_
              · rintro a w ⟨hF, hS, hm⟩
                unfold deck_Sign_J7 at hm
                obtain ⟨hp5, hm⟩ := asrt_b hm
                refine reg1 [⟨true, [], vS (Instr.indexAt 22 (.slice A1 l1.length c1) (.int .i64 k1)), .pointer (some (sAddr A1 k1))⟩, ⟨false, [], vS (Instr.loadAt 3 (.pointer (some (sAddr A1 k1)))), .int .i64 (geti l1 k1)⟩] [none, none, some (.pointer (some (sAddr A1 k1))), some (.int .i64 (geti l1 k1)), none] [0, 4, 5, 6, 7, 20, 21] [pl 0 (.slice A1 l1.length c1), pl 4 (.int .i64 (w64 (0 - sign3))), pl 5 (.slice A2 (Int.toNat (l1.length : Int)) c2), pl 6 (.int .i64 z1), pl 7 (.int .i64 (geti l1 k1)), pl 20 (.int .i64 (l1.length : Int)), pl 21 (.int .i64 z1)] hF hS Fol (by kernel_rfl) (by kernel_rfl) (by kernel_rfl) ?_ (fun a w hF hS => ?_)
                · exact obs_cons (ob_ix1 (f := (Value.int .i64)) (m := l1) Und22 hi3 hs3 (hr_l1 _ (hS.dropN 1)) rfl (fun _ => hp5)) <| obs_cons (ob_get1 (n := l1.length) (m := l1) (Value.int .i64) (0 : Int) Agg3 (fun _ hS => ⟨_, (hr_l1 _ (hS.dropN 1))⟩) (fun _ hS => rfl) (fun _ => hp5)) <| obs_nil
                refine then_n ?_
                rw [← hφ2] at hm
                exact ⟨((w64 (0 - sign3)), (seen2.set (Int.toNat k1) true), (geti l1 k1)), ⟨hF.weak [0, 4, 5, 6, 7, 20, 21] (by kernel_rfl), hS⟩, hm⟩
              · refine wp_block ?_
                refine seqR ?_
                obtain ⟨hp4, hm⟩ := asrt_b hm
                refine at_run 3 [⟨true, [], vS (Instr.indexAt 117 (.slice A2 (Int.toNat (l1.length : Int)) c2) (.int .i64 k1)), .pointer (some (sAddr A2 k1))⟩] [none, none, some (.pointer (some (sAddr A2 k1)))] [0, 4, 5, 6, 7, 20, 21, 44] [pl 0 (.slice A1 l1.length c1), pl 4 (.int .i64 sign3), pl 5 (.slice A2 (Int.toNat (l1.length : Int)) c2), pl 6 (.int .i64 z1), pl 7 (.int .i64 k1), pl 20 (.int .i64 (l1.length : Int)), pl 21 (.int .i64 z1), pl 44 (.pointer (some (sAddr A2 k1)))] hF hS (by kernel_rfl) (by kernel_rfl) ?_ (fun a w hF hS => ?_)
                · exact obs_cons (ob_ix1 (f := Value.bool) (m := seen2) Und117 hi4 hs4 (hS.at_ 0 rfl).rd ((hS.at_ 0 rfl).len1) (fun _ => hp4)) <| obs_nil
                obtain ⟨w, hrun, hS⟩ := run_set1 (P := Try.prog) (t := 4) (x := true) Value.bool (hS.at_ 0 rfl) hi4 hs4 rfl rfl hp4
                refine at_skip hF (by kernel_rfl) hrun ?_
                have hS : Sep w0 B w (own 4 (.slice A2 (Int.toNat (l1.length : Int)) c2) (vB (seen2.set (Int.toNat k1) true)) :: fs) := hS
                refine at_end [0, 4, 5, 6, 7, 20, 21] [pl 0 (.slice A1 l1.length c1), pl 4 (.int .i64 sign3), pl 5 (.slice A2 (Int.toNat (l1.length : Int)) c2), pl 6 (.int .i64 z1), pl 7 (.int .i64 k1), pl 20 (.int .i64 (l1.length : Int)), pl 21 (.int .i64 z1)] hF rfl (by kernel_rfl) (fun hF => ?_)
                refine then_n ?_
                refine reg1 [] [] [0, 4, 5, 6, 7, 20, 21] [pl 0 (.slice A1 l1.length c1), pl 4 (.int .i64 (w64 (0 - sign3))), pl 5 (.slice A2 (Int.toNat (l1.length : Int)) c2), pl 6 (.int .i64 z1), pl 7 (.int .i64 k1), pl 20 (.int .i64 (l1.length : Int)), pl 21 (.int .i64 z1)] hF hS Fol (by kernel_rfl) (by kernel_rfl) (by kernel_rfl) ?_ (fun a w hF hS => ?_)
                · exact obs_nil
                refine block_n ?_
                refine then_n ?_
                exact ⟨hF.weak [0, 4, 5, 6, 7, 20, 21] (by kernel_rfl), hS, hm⟩
            · obtain ⟨hp3, hm⟩ := asrt_b hm
              refine reg [⟨true, [], vS (Instr.indexAt 117 (.slice A2 (Int.toNat (l1.length : Int)) c2) (.int .i64 z1)), .pointer (some (sAddr A2 z1))⟩, ⟨false, [], vS (Instr.loadAt 4 (.pointer (some (sAddr A2 z1)))), .bool (getb seen2 z1)⟩] [none, none, some (.pointer (some (sAddr A2 z1))), some (.bool (getb seen2 z1)), none, none, none, none, none, none] [0, 4, 5, 6, 7, 20, 21, 37] [pl 0 (.slice A1 l1.length c1), pl 4 (.int .i64 sign3), pl 5 (.slice A2 (Int.toNat (l1.length : Int)) c2), pl 6 (.int .i64 z1), pl 7 (.int .i64 k1), pl 20 (.int .i64 (l1.length : Int)), pl 21 (.int .i64 z1), pl 37 (.bool ((!(getb seen2 z1)) && (k1 != z1)))] hF hS Fol (by kernel_rfl) (by kernel_rfl) (by kernel_rfl) ?_ (fun a w hF hS => ?_)
              · exact obs_cons (ob_ix1 (f := Value.bool) (m := seen2) Und117 hi4 hs4 (hS.at_ 0 rfl).rd ((hS.at_ 0 rfl).len1) (fun _ => hp3)) <| obs_cons (ob_get1 (n := (Int.toNat (l1.length : Int))) (m := seen2) Value.bool false Agg4 (fun _ hS => ⟨_, (hS.at_ 0 rfl).rd⟩) (fun _ hS => ((hS.at_ 0 rfl).len1)) (fun _ => hp3)) <| obs_nil
              refine cond_ev (t := 37) (b := (!(getb seen2 z1)) && (k1 != z1)) hF (by kernel_rfl) (fun hb => ?_) (fun hb => ?_)
              · replace hm := if_t hm hb
                refine wp_skip ?_
                refine then_n ?_
                exact ⟨hF.weak [0, 4, 5, 6, 7, 20, 21] (by kernel_rfl), hS, hm⟩
              · replace hm := if_f hm hb
                refine wp_exit ?_
                refine then_e (then_e (block_e (then_n ?_)))
                rw [← hφ2] at hm
                replace hm := done_b hm
                unfold deck_Sign_K2 at hm
                try dsimp only at hm
                have hm : ((deck_Sign_J5 l1 z1) sign3 seen2).bind φ1 = some r := hm
                exact ⟨sign3, seen2, hF.weak [0, 4, 5, 6, 20, 21] (by kernel_rfl), hS, hm⟩
      · refine cond_ev (t := 22) (b := decide (z1 < (l1.length : Int))) hF (by kernel_rfl) (fun hb => ?_) (fun hb => ?_)
        · replace hm := if_t hm hb
          refine wp_skip ?_
          refine then_n ?_
          exact ⟨hF.weak [0, 4, 5, 20, 21] (by kernel_rfl), hS, hm⟩
        · replace hm := if_f hm hb
          refine wp_exit ?_
          refine then_e (then_e (block_e (then_n ?_)))
          have hS := hS.pickN 1 [] (by decide)
          rw [← hφ1] at hm
          replace hm := done_b hm
          unfold deck_Sign_K1 at hm
          try dsimp only at hm
          have hm : (deck_Sign_J2 sign1).bind some = some r := hm
          exact ⟨sign1, hF.weak [4] (by kernel_rfl), hS, hm⟩
  · refine wp_block ?_
    refine reg [] [] [0, 8] [pl 0 (.slice A1 l1.length c1), pl 8 (.bool (decide ((104 : Int) < (l1.length : Int))))] hF hS Fol (by kernel_rfl) (by kernel_rfl) (by kernel_rfl) ?_ (fun a w hF hS => ?_)
    · exact obs_nil
    refine cond_ev (t := 8) (b := decide ((104 : Int) < (l1.length : Int))) hF (by kernel_rfl) (fun hb => ?_) (fun hb => ?_)
    · replace hm := if_t hm hb
      refine reg [] [] [2, 3] [pl 2 (.int .i64 0), pl 3 (.int .i64 2)] hF hS Fol (by kernel_rfl) (by kernel_rfl) (by kernel_rfl) ?_ (fun a w hF hS => ?_)
      · exact obs_nil
      refine wp_ret ?_
      refine block_r (then_r ?_)
      have hm : some (0, 2) = some r := hm
      obtain rfl := Option.some.inj hm
      exact retV (rs := [.tmp 2, .tmp 3]) (vs := [.int .i64 0, .int .i64 2]) hF rfl (rv_t (by kernel_rfl) <| rv_t (by kernel_rfl) <| rv_nil) rfl ⟨rfl, hS⟩
    · replace hm := if_f hm hb
      obtain ⟨r1, hr1, hm⟩ := call_b hm
      refine reg [⟨false, [], callFunc 83 #[.slice A1 l1.length c1], .bool r1⟩] [none, some (.bool r1), none, none] [0, 12] [pl 0 (.slice A1 l1.length c1), pl 12 (.bool (!r1))] hF hS Fol (by kernel_rfl) (by kernel_rfl) (by kernel_rfl) ?_ (fun a w hF hS => ?_)
      · exact obs_cons (ob_call Try.func83 (by kernel_rfl) rfl (fun _ _ hS => deck_order_w hr1 hS (fun _ hS => (hr_l1 _ (hS.dropN 0))) _hc_l1 rfl)) <| obs_nil
      refine cond_ev (t := 12) (b := !r1) hF (by kernel_rfl) (fun hb => ?_) (fun hb => ?_)
      · replace hm := if_t hm hb
        refine reg [] [] [2, 3] [pl 2 (.int .i64 0), pl 3 (.int .i64 1)] hF hS Fol (by kernel_rfl) (by kernel_rfl) (by kernel_rfl) ?_ (fun a w hF hS => ?_)
        · exact obs_nil
        refine wp_ret ?_
        refine block_r (then_r ?_)
        have hm : some (0, 1) = some r := hm
        obtain rfl := Option.some.inj hm
        exact retV (rs := [.tmp 2, .tmp 3]) (vs := [.int .i64 0, .int .i64 1]) hF rfl (rv_t (by kernel_rfl) <| rv_t (by kernel_rfl) <| rv_nil) rfl ⟨rfl, hS⟩
      · replace hm := if_f hm hb
        refine wp_skip ?_
        refine block_n ?_
        refine then_n ?_
        exact ⟨hF.weak [0] (by kernel_rfl), hS, hm⟩

noncomputable def slices_Index_J3 (z1 : Int) : Option (St Int (Fl Unit Int)) :=
  some (.next (w64 (z1 + 1)))

noncomputable def slices_Index_J2 (s1 : List Int) (v1 : Int) (z1 : Int) : Option (St Int (Fl Unit Int)) :=
  asrt (0 ≤ z1 ∧ z1 < (s1.length : Int)) <| if (v1 == (geti s1 z1)) then (some (.done (.ret z1))) else ((slices_Index_J3 z1))

noncomputable def slices_Index_J1 : Option Int :=
  some (-1)

noncomputable def slices_Index_K1 : (Fl Unit Int) → Option Int :=
  fun (x : (Fl Unit Int)) => match x with | .go _ => slices_Index_J1 | .ret x => some x

noncomputable def slices_Index_L1 (s1 : List Int) (v1 : Int) : Int → Option (St Int (Fl Unit Int)) :=
  fun (x : Int) => match x with | z1 => if (decide (z1 < (s1.length : Int))) then ((slices_Index_J2 s1 v1 z1)) else (some (.done (.go ())))

noncomputable def slices_Index_m (s1 : List Int) (v1 : Int) : Option Int :=
  (loop (slices_Index_L1 s1 v1) 0).bind slices_Index_K1

set_option maxRecDepth 100000 in
set_option maxHeartbeats 4000000 in
theorem slices_Index_w {A1 : Option Addr} {c1 : Nat} {n1 : Nat} {s1 : List Int} {v1 : Int} {r : Int} {w0 w : World} {B : Nat} {fs : List HP} (hm : slices_Index_m s1 v1 = some r) (hS : Sep w0 B w (fs)) (hr_s1 : RdF w0 B fs A1 (vI s1)) (_hc_s1 : s1.length ≤ c1) (_hn_s1 : n1 = s1.length) :
    Calls Try.prog 85 #[.slice A1 n1 c1, .int .i64 v1] w fun e w' => e = .returned (.int .i64 r) ∧ Sep w0 B w' (fs) := by
  obtain ⟨i3, hi3, hz3, hs3, hb3⟩ := info_parts Info3
  obtain rfl := _hn_s1
  unfold slices_Index_m at hm
  replace hm := start_b hm
  refine enter (l := [.slice A1 s1.length c1, .int .i64 v1]) (n := 19) Try.func85 rfl rfl (by simp) (fun a hF => ?_)
  refine reg [] [] [0, 1] [pl 0 (.slice A1 s1.length c1), pl 1 (.int .i64 v1)] hF hS Fol (by kernel_rfl) (by kernel_rfl) (by kernel_rfl) ?_ (fun a w hF hS => ?_)
  · exact obs_nil
  refine seq_cut (fun a w => Fr 19 [] a ∧ Sep w0 B w (fs) ∧ (slices_Index_J1).bind some = some r) ?_ ?_
  · rintro a w ⟨hF, hS, hm⟩
    unfold slices_Index_J1 at hm
    refine reg [] [] [4] [pl 4 (.int .i64 (-1))] hF hS Fol (by kernel_rfl) (by kernel_rfl) (by kernel_rfl) ?_ (fun a w hF hS => ?_)
    · exact obs_nil
    refine wp_ret ?_
    have hm : some (-1) = some r := hm
    obtain rfl := Option.some.inj hm
    exact retV (rs := [.tmp 4]) (vs := [.int .i64 (-1)]) hF rfl (rv_t (by kernel_rfl) <| rv_nil) rfl ⟨rfl, hS⟩
  · refine reg [] [] [0, 1, 7, 8] [pl 0 (.slice A1 s1.length c1), pl 1 (.int .i64 v1), pl 7 (.int .i64 (s1.length : Int)), pl 8 (.int .i64 0)] hF hS Fol (by kernel_rfl) (by kernel_rfl) (by kernel_rfl) ?_ (fun a w hF hS => ?_)
    · exact obs_nil
    refine wp_block ?_
    refine wp_loop_model (S := Int) (R := (Fl Unit Int)) (slices_Index_L1 s1 v1) (fun x => (slices_Index_K1 x).bind some) r (fun (x : Int) a w => Fr 19 [pl 0 (.slice A1 s1.length c1), pl 1 (.int .i64 v1), pl 7 (.int .i64 (s1.length : Int)), pl 8 (.int .i64 x)] a ∧ Sep w0 B w (fs)) (assoc_b hm) ⟨hF.weak [0, 1, 7, 8] (by kernel_rfl), hS⟩ ?_
    clear hF hS hm
    rintro nn1 z1 a w ⟨hF, hS⟩ hm
    generalize hφ1 : stK (slices_Index_L1 s1 v1) nn1 (fun x => (slices_Index_K1 x).bind some) = φ1 at hm
    unfold slices_Index_L1 at hm
    dsimp only at hm
    refine reg [] [] [0, 1, 7, 8, 9] [pl 0 (.slice A1 s1.length c1), pl 1 (.int .i64 v1), pl 7 (.int .i64 (s1.length : Int)), pl 8 (.int .i64 z1), pl 9 (.bool (decide (z1 < (s1.length : Int))))] hF hS Fol (by kernel_rfl) (by kernel_rfl) (by kernel_rfl) ?_ (fun a w hF hS => ?_)
    · exact obs_nil
    refine seq_cut (fun a w => Fr 19 [pl 0 (.slice A1 s1.length c1), pl 1 (.int .i64 v1), pl 7 (.int .i64 (s1.length : Int)), pl 8 (.int .i64 z1)] a ∧ Sep w0 B w (fs) ∧ ((slices_Index_J2 s1 v1 z1)).bind φ1 = some r) ?_ ?_
    · rintro a w ⟨hF, hS, hm⟩
      unfold slices_Index_J2 at hm
      refine seq_cut (fun a w => Fr 19 [pl 0 (.slice A1 s1.length c1), pl 1 (.int .i64 v1), pl 7 (.int .i64 (s1.length : Int)), pl 8 (.int .i64 z1)] a ∧ Sep w0 B w (fs) ∧ ((slices_Index_J3 z1)).bind φ1 = some r) ?_ ?_
      · rintro a w ⟨hF, hS, hm⟩
        unfold slices_Index_J3 at hm
        refine reg1 [] [] [0, 1, 7, 8] [pl 0 (.slice A1 s1.length c1), pl 1 (.int .i64 v1), pl 7 (.int .i64 (s1.length : Int)), pl 8 (.int .i64 (w64 (z1 + 1)))] hF hS Fol (by kernel_rfl) (by kernel_rfl) (by kernel_rfl) ?_ (fun a w hF hS => ?_)
        · exact obs_nil
        refine then_n ?_
        rw [← hφ1] at hm
        exact ⟨(w64 (z1 + 1)), ⟨hF.weak [0, 1, 7, 8] (by kernel_rfl), hS⟩, hm⟩
      · refine wp_block ?_
        refine reg [] [] [0, 1, 5, 7, 8] [pl 0 (.slice A1 s1.length c1), pl 1 (.int .i64 v1), pl 5 (.int .i64 z1), pl 7 (.int .i64 (s1.length : Int)), pl 8 (.int .i64 z1)] hF hS Fol (by kernel_rfl) (by kernel_rfl) (by kernel_rfl) ?_ (fun a w hF hS => ?_)
        · exact obs_nil
        obtain ⟨hp1, hm⟩ := asrt_b hm
        refine reg [⟨true, [], vS (Instr.indexAt 22 (.slice A1 s1.length c1) (.int .i64 z1)), .pointer (some (sAddr A1 z1))⟩, ⟨false, [], vS (Instr.loadAt 3 (.pointer (some (sAddr A1 z1)))), .int .i64 (geti s1 z1)⟩] [none, none, none, some (.pointer (some (sAddr A1 z1))), some (.int .i64 (geti s1 z1)), none] [0, 1, 5, 7, 8, 16] [pl 0 (.slice A1 s1.length c1), pl 1 (.int .i64 v1), pl 5 (.int .i64 z1), pl 7 (.int .i64 (s1.length : Int)), pl 8 (.int .i64 z1), pl 16 (.bool (v1 == (geti s1 z1)))] hF hS Fol (by kernel_rfl) (by kernel_rfl) (by kernel_rfl) ?_ (fun a w hF hS => ?_)
        · exact obs_cons (ob_ix1 (f := (Value.int .i64)) (m := s1) Und22 hi3 hs3 (hr_s1 _ (hS.dropN 0)) rfl (fun _ => hp1)) <| obs_cons (ob_get1 (n := s1.length) (m := s1) (Value.int .i64) (0 : Int) Agg3 (fun _ hS => ⟨_, (hr_s1 _ (hS.dropN 0))⟩) (fun _ hS => rfl) (fun _ => hp1)) <| obs_nil
        refine cond_ev (t := 16) (b := (v1 == (geti s1 z1))) hF (by kernel_rfl) (fun hb => ?_) (fun hb => ?_)
        · replace hm := if_t hm hb
          refine reg [] [] [4] [pl 4 (.int .i64 z1)] hF hS Fol (by kernel_rfl) (by kernel_rfl) (by kernel_rfl) ?_ (fun a w hF hS => ?_)
          · exact obs_nil
          refine wp_ret ?_
          refine block_r (then_r (then_r (block_r (then_r ?_))))
          rw [← hφ1] at hm
          replace hm := done_b hm
          unfold slices_Index_K1 at hm
          try dsimp only at hm
          have hm : some z1 = some r := hm
          obtain rfl := Option.some.inj hm
          exact retV (rs := [.tmp 4]) (vs := [.int .i64 z1]) hF rfl (rv_t (by kernel_rfl) <| rv_nil) rfl ⟨rfl, hS⟩
        · replace hm := if_f hm hb
          refine wp_skip ?_
          refine block_n ?_
          refine then_n ?_
          exact ⟨hF.weak [0, 1, 7, 8] (by kernel_rfl), hS, hm⟩
    · refine cond_ev (t := 9) (b := decide (z1 < (s1.length : Int))) hF (by kernel_rfl) (fun hb => ?_) (fun hb => ?_)
      · replace hm := if_t hm hb
        refine wp_skip ?_
        refine then_n ?_
        exact ⟨hF.weak [0, 1, 7, 8] (by kernel_rfl), hS, hm⟩
      · replace hm := if_f hm hb
        refine wp_exit ?_
        refine then_e (then_e (block_e (then_n ?_)))
        rw [← hφ1] at hm
        replace hm := done_b hm
        unfold slices_Index_K1 at hm
        try dsimp only at hm
        have hm : (slices_Index_J1).bind some = some r := hm
        exact ⟨hF.weak [] (by kernel_rfl), hS, hm⟩

noncomputable def slices_Delete_2_m (s1 : List Int) (i1 : Int) (j1 : Int) : Option (List Int) :=
  asrt (0 ≤ i1 ∧ i1 ≤ j1 ∧ j1 ≤ (s1.length : Int)) <| some (delI s1 i1 j1)

theorem slices_Delete_2_w {A1 : Option Addr} {c1 : Nat} {n1 : Nat} {s1 : List Int} {i1 : Int} {j1 : Int} {r : (List Int)} {w0 w : World} {B : Nat} {fs : List HP} (hm : slices_Delete_2_m s1 i1 j1 = some r) (hS : Sep w0 B w (own 3 (.slice A1 n1 c1) (vI s1) :: fs)) :
    Calls Try.prog 86 #[.slice A1 n1 c1, .int .i64 i1, .int .i64 j1] w fun e w' => ∃ v, e = .returned v ∧ ∃ (A2 : Option Addr) (c2 : Nat), v = .slice A2 r.length c2 ∧ Sep w0 B w' (own 3 (.slice A2 r.length c2) (vI r) :: fs) := by
  unfold slices_Delete_2_m at hm
  obtain ⟨hb, hm⟩ := asrt_b (start_b hm)
  obtain rfl := Option.some.inj hm
  exact delete_own DeleteL hS hb

noncomputable def deck_Number_J4 (z1 : Int) (left2 : List Int) (k3 : Int) : Option (St (List Int × Int × Int) Int) :=
  some (.next (left2, k3, (w64 (z1 + 1))))

noncomputable def deck_Number_J3 (l1 : List Int) (left1 : List Int) (k1 : Int) (z1 : Int) : Option (St (List Int × Int × Int) Int) :=
  asrt (0 ≤ z1 ∧ z1 < (l1.length : Int)) <| (slices_Index_m left1 (geti l1 z1)).bind fun r3 => (slices_Delete_2_m left1 r3 (w64 (r3 + 1))).bind fun r4 => (deck_Number_J4 z1) r4 (w64 ((w64 (k1 * (left1.length : Int))) + r3))

noncomputable def deck_Number_J2 (k2 : Int) : Option (Int × Int) :=
  some (k2, 0)

noncomputable def deck_Number_K1 : Int → Option (Int × Int) :=
  fun (x : Int) => match x with | k2 => deck_Number_J2 k2

noncomputable def deck_Number_L1 (l1 : List Int) : (List Int × Int × Int) → Option (St (List Int × Int × Int) Int) :=
  fun (x : (List Int × Int × Int)) => match x with | (left1, k1, z1) => if (decide (z1 < (l1.length : Int))) then ((deck_Number_J3 l1 left1 k1 z1)) else (some (.done k1))

noncomputable def deck_Number_J1 (l1 : List Int) : Option (Int × Int) :=
  (deck_sorted_m (l1.length : Int)).bind fun r2 => (loop (deck_Number_L1 l1) (r2, 0, 0)).bind deck_Number_K1

noncomputable def deck_Number_m (l1 : List Int) : Option (Int × Int) :=
  if (decide ((12 : Int) < (l1.length : Int))) then (some (0, 2)) else ((deck_order_m l1).bind fun r1 => if (!r1) then (some (0, 1)) else ((deck_Number_J1 l1)))

set_option maxRecDepth 100000 in
set_option maxHeartbeats 4000000 in
theorem deck_Number_w {A1 : Option Addr} {c1 : Nat} {n1 : Nat} {l1 : List Int} {r : (Int × Int)} {w0 w : World} {B : Nat} {fs : List HP} (hm : deck_Number_m l1 = some r) (hS : Sep w0 B w (fs)) (hr_l1 : RdF w0 B fs A1 (vI l1)) (_hc_l1 : l1.length ≤ c1) (_hn_l1 : n1 = l1.length) :
    Calls Try.prog 17 #[.slice A1 n1 c1] w fun e w' => e = .returned (.tuple #[.int .i64 r.1, .int .i64 r.2]) ∧ Sep w0 B w' (fs) := by
  obtain ⟨i3, hi3, hz3, hs3, hb3⟩ := info_parts Info3
  obtain rfl := _hn_l1
  unfold deck_Number_m at hm
  replace hm := start_b hm
  refine enter (l := [.slice A1 l1.length c1]) (n := 42) Try.func17 rfl rfl (by simp) (fun a hF => ?_)
  refine reg [] [] [0] [pl 0 (.slice A1 l1.length c1)] hF hS Fol (by kernel_rfl) (by kernel_rfl) (by kernel_rfl) ?_ (fun a w hF hS => ?_)
  · exact obs_nil
  refine seq_cut (fun a w => Fr 42 [pl 0 (.slice A1 l1.length c1)] a ∧ Sep w0 B w (fs) ∧ ((deck_Number_J1 l1)).bind some = some r) ?_ ?_
  · rintro a w ⟨hF, hS, hm⟩
    unfold deck_Number_J1 at hm
    refine seqR ?_
    obtain ⟨r2, hr2, hm⟩ := call_b hm
    refine at_run 2 [] [] [0, 18] [pl 0 (.slice A1 l1.length c1), pl 18 (.int .i64 (l1.length : Int))] hF hS (by kernel_rfl) (by kernel_rfl) ?_ (fun a w hF hS => ?_)
    · exact obs_nil
    refine at_call (f := 84) (args := #[.int .i64 (l1.length : Int)]) (d := 19) hF (by kernel_rfl) (by kernel_rfl) Try.func84 (by kernel_rfl) rfl (deck_sorted_w hr2 hS ) (fun v a w hR hF => ?_)
    clear hS
    obtain ⟨A2, c2, rfl, hS⟩ := hR
    have hS : Sep w0 B w (own 3 (.slice A2 r2.length c2) (vI r2) :: fs) := hS
    refine at_run 1 [] [] [0, 4] [pl 0 (.slice A1 l1.length c1), pl 4 (.slice A2 r2.length c2)] hF hS (by kernel_rfl) (by kernel_rfl) ?_ (fun a w hF hS => ?_)
    · exact obs_nil
    refine at_end [0, 4] [pl 0 (.slice A1 l1.length c1), pl 4 (.slice A2 r2.length c2)] hF rfl (by kernel_rfl) (fun hF => ?_)
    refine then_n ?_
    refine reg [] [] [0, 4, 5] [pl 0 (.slice A1 l1.length c1), pl 4 (.slice A2 r2.length c2), pl 5 (.int .i64 0)] hF hS Fol (by kernel_rfl) (by kernel_rfl) (by kernel_rfl) ?_ (fun a w hF hS => ?_)
    · exact obs_nil
    refine seq_cut (fun a w => ∃ (k2 : Int), Fr 42 [pl 5 (.int .i64 k2)] a ∧ Sep w0 B w (fs) ∧ (deck_Number_J2 k2).bind some = some r) ?_ ?_
    · rintro a w ⟨k2, hF, hS, hm⟩
      unfold deck_Number_J2 at hm
      refine reg [] [] [2, 3] [pl 2 (.int .i64 k2), pl 3 (.int .i64 0)] hF hS Fol (by kernel_rfl) (by kernel_rfl) (by kernel_rfl) ?_ (fun a w hF hS => ?_)
      · exact obs_nil
      refine wp_ret ?_
      have hm : some (k2, 0) = some r := hm
      obtain rfl := Option.some.inj hm
      exact retV (rs := [.tmp 2, .tmp 3]) (vs := [.int .i64 k2, .int .i64 0]) hF rfl (rv_t (by kernel_rfl) <| rv_t (by kernel_rfl) <| rv_nil) rfl ⟨rfl, hS⟩
    · refine reg [] [] [4, 5, 20, 21, 22] [pl 4 (.slice A2 r2.length c2), pl 5 (.int .i64 0), pl 20 (.slice A1 l1.length c1), pl 21 (.int .i64 (l1.length : Int)), pl 22 (.int .i64 0)] hF hS Fol (by kernel_rfl) (by kernel_rfl) (by kernel_rfl) ?_ (fun a w hF hS => ?_)
      · exact obs_nil
      refine wp_block ?_
      refine wp_loop_model (S := (List Int × Int × Int)) (R := Int) (deck_Number_L1 l1) (fun x => (deck_Number_K1 x).bind some) r (fun (x : (List Int × Int × Int)) a w => ∃ (A3 : Option Addr) (c3 : Nat), Fr 42 [pl 4 (.slice A3 x.1.length c3), pl 5 (.int .i64 x.2.1), pl 20 (.slice A1 l1.length c1), pl 21 (.int .i64 (l1.length : Int)), pl 22 (.int .i64 x.2.2)] a ∧ Sep w0 B w (own 3 (.slice A3 x.1.length c3) (vI x.1) :: fs)) (assoc_b hm) ⟨A2, c2, hF.weak [4, 5, 20, 21, 22] (by kernel_rfl), hS⟩ ?_
      clear hF hS hm
      rintro nn1 ⟨left1, k1, z1⟩ a w ⟨A3, c3, hF, hS⟩ hm
      generalize hφ1 : stK (deck_Number_L1 l1) nn1 (fun x => (deck_Number_K1 x).bind some) = φ1 at hm
      unfold deck_Number_L1 at hm
      dsimp only at hF hS hm
      refine reg [] [] [4, 5, 20, 21, 22, 23] [pl 4 (.slice A3 left1.length c3), pl 5 (.int .i64 k1), pl 20 (.slice A1 l1.length c1), pl 21 (.int .i64 (l1.length : Int)), pl 22 (.int .i64 z1), pl 23 (.bool (decide (z1 < (l1.length : Int))))] hF hS Fol (by kernel_rfl) (by kernel_rfl) (by kernel_rfl) ?_ (fun a w hF hS => ?_)
      · exact obs_nil
      refine seq_cut (fun a w => Fr 42 [pl 4 (.slice A3 left1.length c3), pl 5 (.int .i64 k1), pl 20 (.slice A1 l1.length c1), pl 21 (.int .i64 (l1.length : Int)), pl 22 (.int .i64 z1)] a ∧ Sep w0 B w (own 3 (.slice A3 left1.length c3) (vI left1) :: fs) ∧ ((deck_Number_J3 l1 left1 k1 z1)).bind φ1 = some r) ?_ ?_
      · rintro a w ⟨hF, hS, hm⟩
        unfold deck_Number_J3 at hm
        refine seq_cut (fun a w => ∃ (left2 : List Int) (k3 : Int) (A5 : Option Addr) (c5 : Nat), Fr 42 [pl 4 (.slice A5 left2.length c5), pl 5 (.int .i64 k3), pl 20 (.slice A1 l1.length c1), pl 21 (.int .i64 (l1.length : Int)), pl 22 (.int .i64 z1)] a ∧ Sep w0 B w (own 3 (.slice A5 left2.length c5) (vI left2) :: fs) ∧ ((deck_Number_J4 z1) left2 k3).bind φ1 = some r) ?_ ?_
        · rintro a w ⟨left2, k3, A5, c5, hF, hS, hm⟩
          unfold deck_Number_J4 at hm
          refine reg1 [] [] [4, 5, 20, 21, 22] [pl 4 (.slice A5 left2.length c5), pl 5 (.int .i64 k3), pl 20 (.slice A1 l1.length c1), pl 21 (.int .i64 (l1.length : Int)), pl 22 (.int .i64 (w64 (z1 + 1)))] hF hS Fol (by kernel_rfl) (by kernel_rfl) (by kernel_rfl) ?_ (fun a w hF hS => ?_)
          · exact obs_nil
          refine then_n ?_
          rw [← hφ1] at hm
          exact ⟨(left2, k3, (w64 (z1 + 1))), ⟨A5, c5, hF.weak [4, 5, 20, 21, 22] (by kernel_rfl), hS⟩, hm⟩
        · refine wp_block ?_
          obtain ⟨hp1, hm⟩ := asrt_b hm
          refine reg [⟨true, [], vS (Instr.indexAt 22 (.slice A1 l1.length c1) (.int .i64 z1)), .pointer (some (sAddr A1 z1))⟩, ⟨false, [], vS (Instr.loadAt 3 (.pointer (some (sAddr A1 z1)))), .int .i64 (geti l1 z1)⟩] [some (.pointer (some (sAddr A1 z1))), some (.int .i64 (geti l1 z1)), none] [4, 5, 7, 20, 21, 22] [pl 4 (.slice A3 left1.length c3), pl 5 (.int .i64 k1), pl 7 (.int .i64 (geti l1 z1)), pl 20 (.slice A1 l1.length c1), pl 21 (.int .i64 (l1.length : Int)), pl 22 (.int .i64 z1)] hF hS Fol (by kernel_rfl) (by kernel_rfl) (by kernel_rfl) ?_ (fun a w hF hS => ?_)
          · exact obs_cons (ob_ix1 (f := (Value.int .i64)) (m := l1) Und22 hi3 hs3 (hr_l1 _ (hS.dropN 1)) rfl (fun _ => hp1)) <| obs_cons (ob_get1 (n := l1.length) (m := l1) (Value.int .i64) (0 : Int) Agg3 (fun _ hS => ⟨_, (hr_l1 _ (hS.dropN 1))⟩) (fun _ hS => rfl) (fun _ => hp1)) <| obs_nil
          obtain ⟨r3, hr3, hm⟩ := call_b hm
          refine reg [⟨false, [], callFunc 85 #[.slice A3 left1.length c3, .int .i64 (geti l1 z1)], .int .i64 r3⟩] [none, none, some (.int .i64 r3), none] [4, 5, 8, 20, 21, 22] [pl 4 (.slice A3 left1.length c3), pl 5 (.int .i64 k1), pl 8 (.int .i64 r3), pl 20 (.slice A1 l1.length c1), pl 21 (.int .i64 (l1.length : Int)), pl 22 (.int .i64 z1)] hF hS Fol (by kernel_rfl) (by kernel_rfl) (by kernel_rfl) ?_ (fun a w hF hS => ?_)
          · exact obs_cons (ob_call Try.func85 (by kernel_rfl) rfl (fun _ _ hS => slices_Index_w hr3 hS (fun _ hS => (hS.at_ 0 rfl).rd) ((hS.at_ 0 rfl).cap1) rfl)) <| obs_nil
          refine reg [] [] [4, 5, 8, 20, 21, 22] [pl 4 (.slice A3 left1.length c3), pl 5 (.int .i64 (w64 ((w64 (k1 * (left1.length : Int))) + r3))), pl 8 (.int .i64 r3), pl 20 (.slice A1 l1.length c1), pl 21 (.int .i64 (l1.length : Int)), pl 22 (.int .i64 z1)] hF hS Fol (by kernel_rfl) (by kernel_rfl) (by kernel_rfl) ?_ (fun a w hF hS => ?_)
          · exact obs_nil
          refine oneR ?_
          obtain ⟨r4, hr4, hm⟩ := call_b hm
          refine at_run 4 [] [] [5, 20, 21, 22, 35, 36, 38] [pl 5 (.int .i64 (w64 ((w64 (k1 * (left1.length : Int))) + r3))), pl 20 (.slice A1 l1.length c1), pl 21 (.int .i64 (l1.length : Int)), pl 22 (.int .i64 z1), pl 35 (.slice A3 left1.length c3), pl 36 (.int .i64 r3), pl 38 (.int .i64 (w64 (r3 + 1)))] hF hS (by kernel_rfl) (by kernel_rfl) ?_ (fun a w hF hS => ?_)
          · exact obs_nil
          refine at_call (f := 86) (args := #[.slice A3 left1.length c3, .int .i64 r3, .int .i64 (w64 (r3 + 1))]) (d := 39) hF (by kernel_rfl) (by kernel_rfl) Try.func86 (by kernel_rfl) rfl (slices_Delete_2_w hr4 hS ) (fun v a w hR hF => ?_)
          clear hS
          obtain ⟨A4, c4, rfl, hS⟩ := hR
          have hS : Sep w0 B w (own 3 (.slice A4 r4.length c4) (vI r4) :: fs) := hS
          refine at_run 1 [] [] [4, 5, 20, 21, 22] [pl 4 (.slice A4 r4.length c4), pl 5 (.int .i64 (w64 ((w64 (k1 * (left1.length : Int))) + r3))), pl 20 (.slice A1 l1.length c1), pl 21 (.int .i64 (l1.length : Int)), pl 22 (.int .i64 z1)] hF hS (by kernel_rfl) (by kernel_rfl) ?_ (fun a w hF hS => ?_)
          · exact obs_nil
          refine at_end [4, 5, 20, 21, 22] [pl 4 (.slice A4 r4.length c4), pl 5 (.int .i64 (w64 ((w64 (k1 * (left1.length : Int))) + r3))), pl 20 (.slice A1 l1.length c1), pl 21 (.int .i64 (l1.length : Int)), pl 22 (.int .i64 z1)] hF rfl (by kernel_rfl) (fun hF => ?_)
          refine block_n ?_
          refine then_n ?_
          exact ⟨r4, (w64 ((w64 (k1 * (left1.length : Int))) + r3)), A4, c4, hF.weak [4, 5, 20, 21, 22] (by kernel_rfl), hS, hm⟩
      · refine cond_ev (t := 23) (b := decide (z1 < (l1.length : Int))) hF (by kernel_rfl) (fun hb => ?_) (fun hb => ?_)
        · replace hm := if_t hm hb
          refine wp_skip ?_
          refine then_n ?_
          exact ⟨hF.weak [4, 5, 20, 21, 22] (by kernel_rfl), hS, hm⟩
        · replace hm := if_f hm hb
          refine wp_exit ?_
          refine then_e (then_e (block_e (then_n ?_)))
          have hS := hS.pickN 1 [] (by decide)
          rw [← hφ1] at hm
          replace hm := done_b hm
          unfold deck_Number_K1 at hm
          try dsimp only at hm
          have hm : (deck_Number_J2 k1).bind some = some r := hm
          exact ⟨k1, hF.weak [5] (by kernel_rfl), hS, hm⟩
  · refine wp_block ?_
    refine reg [] [] [0, 9] [pl 0 (.slice A1 l1.length c1), pl 9 (.bool (decide ((12 : Int) < (l1.length : Int))))] hF hS Fol (by kernel_rfl) (by kernel_rfl) (by kernel_rfl) ?_ (fun a w hF hS => ?_)
    · exact obs_nil
    refine cond_ev (t := 9) (b := decide ((12 : Int) < (l1.length : Int))) hF (by kernel_rfl) (fun hb => ?_) (fun hb => ?_)
    · replace hm := if_t hm hb
      refine reg [] [] [2, 3] [pl 2 (.int .i64 0), pl 3 (.int .i64 2)] hF hS Fol (by kernel_rfl) (by kernel_rfl) (by kernel_rfl) ?_ (fun a w hF hS => ?_)
      · exact obs_nil
      refine wp_ret ?_
      refine block_r (then_r ?_)
      have hm : some (0, 2) = some r := hm
      obtain rfl := Option.some.inj hm
      exact retV (rs := [.tmp 2, .tmp 3]) (vs := [.int .i64 0, .int .i64 2]) hF rfl (rv_t (by kernel_rfl) <| rv_t (by kernel_rfl) <| rv_nil) rfl ⟨rfl, hS⟩
    · replace hm := if_f hm hb
      obtain ⟨r1, hr1, hm⟩ := call_b hm
      refine reg [⟨false, [], callFunc 83 #[.slice A1 l1.length c1], .bool r1⟩] [none, some (.bool r1), none, none] [0, 13] [pl 0 (.slice A1 l1.length c1), pl 13 (.bool (!r1))] hF hS Fol (by kernel_rfl) (by kernel_rfl) (by kernel_rfl) ?_ (fun a w hF hS => ?_)
      · exact obs_cons (ob_call Try.func83 (by kernel_rfl) rfl (fun _ _ hS => deck_order_w hr1 hS (fun _ hS => (hr_l1 _ (hS.dropN 0))) _hc_l1 rfl)) <| obs_nil
      refine cond_ev (t := 13) (b := !r1) hF (by kernel_rfl) (fun hb => ?_) (fun hb => ?_)
      · replace hm := if_t hm hb
        refine reg [] [] [2, 3] [pl 2 (.int .i64 0), pl 3 (.int .i64 1)] hF hS Fol (by kernel_rfl) (by kernel_rfl) (by kernel_rfl) ?_ (fun a w hF hS => ?_)
        · exact obs_nil
        refine wp_ret ?_
        refine block_r (then_r ?_)
        have hm : some (0, 1) = some r := hm
        obtain rfl := Option.some.inj hm
        exact retV (rs := [.tmp 2, .tmp 3]) (vs := [.int .i64 0, .int .i64 1]) hF rfl (rv_t (by kernel_rfl) <| rv_t (by kernel_rfl) <| rv_nil) rfl ⟨rfl, hS⟩
      · replace hm := if_f hm hb
        refine wp_skip ?_
        refine block_n ?_
        refine then_n ?_
        exact ⟨hF.weak [0] (by kernel_rfl), hS, hm⟩

noncomputable def deck_Nth_J4 (all1 : Int) (i1 : Int) : Option (St (Int × Int) Int) :=
  some (.next ((w64 (all1 * i1)), (w64 (i1 + 1))))

noncomputable def deck_Nth_J3 (all1 : Int) (i1 : Int) : Option (St (Int × Int) Int) :=
  (deck_Nth_J4 all1 i1)

noncomputable def deck_Nth_J8 (k2 : Int) (all3 : Int) (m1 : Int) (left2 : List Int) (l3 : List Int) : Option (St (Int × Int × List Int × List Int × Int) (List Int)) :=
  some (.next ((Int.tmod k2 (w64 (Int.tdiv all3 m1))), (w64 (Int.tdiv all3 m1)), left2, l3, (w64 (m1 - 1))))

noncomputable def deck_Nth_J7 (k2 : Int) (all3 : Int) (left1 : List Int) (l1 : List Int) (m1 : Int) : Option (St (Int × Int × List Int × List Int × Int) (List Int)) :=
  asrt (m1 ≠ (0 : Int)) <| asrt ((w64 (Int.tdiv all3 m1)) ≠ (0 : Int)) <| asrt ((w64 (Int.tdiv all3 m1)) ≠ (0 : Int)) <| asrt (0 ≤ (w64 (Int.tdiv k2 (w64 (Int.tdiv all3 m1)))) ∧ (w64 (Int.tdiv k2 (w64 (Int.tdiv all3 m1)))) < (left1.length : Int)) <| asrt ((l1.length : Int) + 1 ≤ bigN) <| (slices_Delete_2_m left1 (w64 (Int.tdiv k2 (w64 (Int.tdiv all3 m1)))) (w64 ((w64 (Int.tdiv k2 (w64 (Int.tdiv all3 m1)))) + 1))).bind fun r2 => (deck_Nth_J8 k2 all3 m1) r2 (l1 ++ ([geti left1 (w64 (Int.tdiv k2 (w64 (Int.tdiv all3 m1))))] : List Int))

noncomputable def deck_Nth_L2 : (Int × Int × List Int × List Int × Int) → Option (St (Int × Int × List Int × List Int × Int) (List Int)) :=
  fun (x : (Int × Int × List Int × List Int × Int)) => match x with | (k2, all3, left1, l1, m1) => if (decide ((0 : Int) < m1)) then ((deck_Nth_J7 k2 all3 left1 l1 m1)) else (some (.done l1))

noncomputable def deck_Nth_J6 (l2 : List Int) : Option (List Int × Int) :=
  some (l2, 0)

noncomputable def deck_Nth_K2 : (List Int) → Option (List Int × Int) :=
  fun (x : (List Int)) => match x with | l2 => deck_Nth_J6 l2

noncomputable def deck_Nth_J5 (n1 : Int) (k1 : Int) (all2 : Int) : Option (List Int × Int) :=
  (deck_sorted_m n1).bind fun r1 => (loop deck_Nth_L2 (k1, all2, r1, ([] : List Int), n1)).bind deck_Nth_K2

noncomputable def deck_Nth_J2 (n1 : Int) (k1 : Int) (all2 : Int) : Option (List Int × Int) :=
  if ((decide (k1 < 0)) || (decide (all2 ≤ k1))) then (some (([] : List Int), 3)) else ((deck_Nth_J5 n1 k1 all2))

noncomputable def deck_Nth_K1 (n1 : Int) (k1 : Int) : Int → Option (List Int × Int) :=
  fun (x : Int) => match x with | all2 => (deck_Nth_J2 n1 k1) all2

noncomputable def deck_Nth_L1 (n1 : Int) : (Int × Int) → Option (St (Int × Int) Int) :=
  fun (x : (Int × Int)) => match x with | (all1, i1) => if (decide (i1 ≤ n1)) then ((deck_Nth_J3 all1 i1)) else (some (.done all1))

noncomputable def deck_Nth_J1 (n1 : Int) (k1 : Int) : Option (List Int × Int) :=
  (loop (deck_Nth_L1 n1) (1, 2)).bind (deck_Nth_K1 n1 k1)

noncomputable def deck_Nth_m (n1 : Int) (k1 : Int) : Option (List Int × Int) :=
  if ((decide (n1 < 0)) || (decide ((12 : Int) < n1))) then (some (([] : List Int), 2)) else ((deck_Nth_J1 n1 k1))

set_option maxRecDepth 100000 in
set_option maxHeartbeats 4000000 in
theorem deck_Nth_w {n1 : Int} {k1 : Int} {r : (List Int × Int)} {w0 w : World} {B : Nat} {fs : List HP} (hm : deck_Nth_m n1 k1 = some r) (hS : Sep w0 B w (fs)) :
    Calls Try.prog 18 #[.int .i64 n1, .int .i64 k1] w fun e w' => ∃ v, e = .returned v ∧ ∃ (A9 : Option Addr) (c9 : Nat), v = .tuple #[.slice A9 r.1.length c9, .int .i64 r.2] ∧ Sep w0 B w' (own 3 (.slice A9 r.1.length c9) (vI r.1) :: fs) := by
  obtain ⟨i3, hi3, hz3, hs3, hb3⟩ := info_parts Info3
  unfold deck_Nth_m at hm
  replace hm := start_b hm
  refine enter (l := [.int .i64 n1, .int .i64 k1]) (n := 62) Try.func18 rfl rfl (by simp) (fun a hF => ?_)
  refine reg [] [] [0, 1] [pl 0 (.int .i64 n1), pl 1 (.int .i64 k1)] hF hS Fol (by kernel_rfl) (by kernel_rfl) (by kernel_rfl) ?_ (fun a w hF hS => ?_)
  · exact obs_nil
  refine seq_cut (fun a w => Fr 62 [pl 0 (.int .i64 n1), pl 1 (.int .i64 k1)] a ∧ Sep w0 B w (fs) ∧ ((deck_Nth_J1 n1 k1)).bind some = some r) ?_ ?_
  · rintro a w ⟨hF, hS, hm⟩
    unfold deck_Nth_J1 at hm
    refine reg [] [] [0, 1, 6] [pl 0 (.int .i64 n1), pl 1 (.int .i64 k1), pl 6 (.int .i64 1)] hF hS Fol (by kernel_rfl) (by kernel_rfl) (by kernel_rfl) ?_ (fun a w hF hS => ?_)
    · exact obs_nil
    refine seq_cut (fun a w => ∃ (all2 : Int), Fr 62 [pl 0 (.int .i64 n1), pl 1 (.int .i64 k1), pl 6 (.int .i64 all2)] a ∧ Sep w0 B w (fs) ∧ ((deck_Nth_J2 n1 k1) all2).bind some = some r) ?_ ?_
    · rintro a w ⟨all2, hF, hS, hm⟩
      unfold deck_Nth_J2 at hm
      refine seq_cut (fun a w => Fr 62 [pl 0 (.int .i64 n1), pl 1 (.int .i64 k1), pl 6 (.int .i64 all2)] a ∧ Sep w0 B w (fs) ∧ ((deck_Nth_J5 n1 k1 all2)).bind some = some r) ?_ ?_
      · rintro a w ⟨hF, hS, hm⟩
        unfold deck_Nth_J5 at hm
        refine seqR ?_
        obtain ⟨r1, hr1, hm⟩ := call_b hm
        refine at_run 1 [] [] [0, 1, 6, 33] [pl 0 (.int .i64 n1), pl 1 (.int .i64 k1), pl 6 (.int .i64 all2), pl 33 (.int .i64 n1)] hF hS (by kernel_rfl) (by kernel_rfl) ?_ (fun a w hF hS => ?_)
        · exact obs_nil
        refine at_call (f := 84) (args := #[.int .i64 n1]) (d := 34) hF (by kernel_rfl) (by kernel_rfl) Try.func84 (by kernel_rfl) rfl (deck_sorted_w hr1 hS ) (fun v a w hR hF => ?_)
        clear hS
        obtain ⟨A1, c1, rfl, hS⟩ := hR
        have hS : Sep w0 B w (own 3 (.slice A1 r1.length c1) (vI r1) :: fs) := hS
        refine at_run 1 [] [] [0, 1, 6, 8] [pl 0 (.int .i64 n1), pl 1 (.int .i64 k1), pl 6 (.int .i64 all2), pl 8 (.slice A1 r1.length c1)] hF hS (by kernel_rfl) (by kernel_rfl) ?_ (fun a w hF hS => ?_)
        · exact obs_nil
        refine at_end [0, 1, 6, 8] [pl 0 (.int .i64 n1), pl 1 (.int .i64 k1), pl 6 (.int .i64 all2), pl 8 (.slice A1 r1.length c1)] hF rfl (by kernel_rfl) (fun hF => ?_)
        refine then_n ?_
        refine reg [] [] [0, 1, 6, 8, 9] [pl 0 (.int .i64 n1), pl 1 (.int .i64 k1), pl 6 (.int .i64 all2), pl 8 (.slice A1 r1.length c1), pl 9 (.slice none 0 0)] hF hS Fol (by kernel_rfl) (by kernel_rfl) (by kernel_rfl) ?_ (fun a w hF hS => ?_)
        · exact obs_nil
        refine seq_cut (fun a w => ∃ (l2 : List Int) (A4 : Option Addr) (c4 : Nat), Fr 62 [pl 9 (.slice A4 l2.length c4)] a ∧ Sep w0 B w (own 3 (.slice A4 l2.length c4) (vI l2) :: fs) ∧ (deck_Nth_J6 l2).bind some = some r) ?_ ?_
        · rintro a w ⟨l2, A4, c4, hF, hS, hm⟩
          unfold deck_Nth_J6 at hm
          refine reg [] [] [4, 5] [pl 4 (.slice A4 l2.length c4), pl 5 (.int .i64 0)] hF hS Fol (by kernel_rfl) (by kernel_rfl) (by kernel_rfl) ?_ (fun a w hF hS => ?_)
          · exact obs_nil
          refine wp_ret ?_
          have hm : some (l2, 0) = some r := hm
          obtain rfl := Option.some.inj hm
          exact retV (rs := [.tmp 4, .tmp 5]) (vs := [.slice A4 l2.length c4, .int .i64 0]) hF rfl (rv_t (by kernel_rfl) <| rv_t (by kernel_rfl) <| rv_nil) rfl ⟨_, rfl, A4, c4, rfl, hS⟩
        · refine reg [] [] [1, 6, 8, 9, 10] [pl 1 (.int .i64 k1), pl 6 (.int .i64 all2), pl 8 (.slice A1 r1.length c1), pl 9 (.slice none 0 0), pl 10 (.int .i64 n1)] hF hS Fol (by kernel_rfl) (by kernel_rfl) (by kernel_rfl) ?_ (fun a w hF hS => ?_)
          · exact obs_nil
          refine wp_block ?_
          have hS : Sep w0 B w (own 3 (.slice none 0 0) (vI ([] : List Int)) :: own 3 (.slice A1 r1.length c1) (vI r1) :: fs) := hS.nil 3
          have hl3 := (hS.at_ 0 rfl).len1
          have hS := (hS.at_ 0 rfl).reN hl3
          have hS : Sep w0 B w (own 3 (.slice none (([] : List Int).length) 0) (vI ([] : List Int)) :: own 3 (.slice A1 r1.length c1) (vI r1) :: fs) := hS
          have hF := hF.cast (t := 9) (v := .slice none 0 0) (v' := .slice none (([] : List Int).length) 0) rfl rfl (congrArg (fun k => Value.slice none k 0) hl3)
          have hS := hS.pickN 2 [1, 0] (by decide)
          refine wp_loop_model (S := (Int × Int × List Int × List Int × Int)) (R := (List Int)) deck_Nth_L2 (fun x => (deck_Nth_K2 x).bind some) r (fun (x : (Int × Int × List Int × List Int × Int)) a w => ∃ (A2 : Option Addr) (c2 : Nat) (A3 : Option Addr) (c3 : Nat), Fr 62 [pl 1 (.int .i64 x.1), pl 6 (.int .i64 x.2.1), pl 8 (.slice A2 x.2.2.1.length c2), pl 9 (.slice A3 x.2.2.2.1.length c3), pl 10 (.int .i64 x.2.2.2.2)] a ∧ Sep w0 B w (own 3 (.slice A2 x.2.2.1.length c2) (vI x.2.2.1) :: own 3 (.slice A3 x.2.2.2.1.length c3) (vI x.2.2.2.1) :: fs)) (assoc_b hm) ⟨A1, c1, none, 0, hF.weak [1, 6, 8, 9, 10] (by kernel_rfl), hS⟩ ?_
          clear hF hS hm
          rintro nn2 ⟨k2, all3, left1, l1, m1⟩ a w ⟨A2, c2, A3, c3, hF, hS⟩ hm
          generalize hφ2 : stK deck_Nth_L2 nn2 (fun x => (deck_Nth_K2 x).bind some) = φ2 at hm
          unfold deck_Nth_L2 at hm
          dsimp only at hF hS hm
          refine seq_cut (fun a w => Fr 62 [pl 1 (.int .i64 k2), pl 6 (.int .i64 all3), pl 8 (.slice A2 left1.length c2), pl 9 (.slice A3 l1.length c3), pl 10 (.int .i64 m1)] a ∧ Sep w0 B w (own 3 (.slice A2 left1.length c2) (vI left1) :: own 3 (.slice A3 l1.length c3) (vI l1) :: fs) ∧ ((deck_Nth_J7 k2 all3 left1 l1 m1)).bind φ2 = some r) ?_ ?_
          · rintro a w ⟨hF, hS, hm⟩
            unfold deck_Nth_J7 at hm
            refine seq_cut (fun a w => ∃ (left2 : List Int) (l3 : List Int) (A7 : Option Addr) (c7 : Nat) (A8 : Option Addr) (c8 : Nat), Fr 62 [pl 1 (.int .i64 (Int.tmod k2 (w64 (Int.tdiv all3 m1)))), pl 6 (.int .i64 (w64 (Int.tdiv all3 m1))), pl 8 (.slice A7 left2.length c7), pl 9 (.slice A8 l3.length c8), pl 10 (.int .i64 m1)] a ∧ Sep w0 B w (own 3 (.slice A7 left2.length c7) (vI left2) :: own 3 (.slice A8 l3.length c8) (vI l3) :: fs) ∧ ((deck_Nth_J8 k2 all3 m1) left2 l3).bind φ2 = some r) ?_ ?_
            · rintro a w ⟨left2, l3, A7, c7, A8, c8, hF, hS, hm⟩
              unfold deck_Nth_J8 at hm
              refine reg1 [] [] [1, 6, 8, 9, 10] [pl 1 (.int .i64 (Int.tmod k2 (w64 (Int.tdiv all3 m1)))), pl 6 (.int .i64 (w64 (Int.tdiv all3 m1))), pl 8 (.slice A7 left2.length c7), pl 9 (.slice A8 l3.length c8), pl 10 (.int .i64 (w64 (m1 - 1)))] hF hS Fol (by kernel_rfl) (by kernel_rfl) (by kernel_rfl) ?_ (fun a w hF hS => ?_)
              · exact obs_nil
              refine then_n ?_
              rw [← hφ2] at hm
              exact ⟨((Int.tmod k2 (w64 (Int.tdiv all3 m1))), (w64 (Int.tdiv all3 m1)), left2, l3, (w64 (m1 - 1))), ⟨A7, c7, A8, c8, hF.weak [1, 6, 8, 9, 10] (by kernel_rfl), hS⟩, hm⟩
            · refine wp_block ?_
              obtain ⟨hp1, hm⟩ := asrt_b hm
              refine reg [⟨true, [], vS (Op.intDiv .quo .i64 all3 m1), .int .i64 (w64 (Int.tdiv all3 m1))⟩] [none, none, some (.int .i64 (w64 (Int.tdiv all3 m1))), none] [1, 6, 8, 9, 10] [pl 1 (.int .i64 k2), pl 6 (.int .i64 (w64 (Int.tdiv all3 m1))), pl 8 (.slice A2 left1.length c2), pl 9 (.slice A3 l1.length c3), pl 10 (.int .i64 m1)] hF hS Fol (by kernel_rfl) (by kernel_rfl) (by kernel_rfl) ?_ (fun a w hF hS => ?_)
              · exact obs_cons (ob_quo rfl (fun _ => hp1)) <| obs_nil
              obtain ⟨hp2, hm⟩ := asrt_b hm
              refine reg [⟨true, [], vS (Op.intDiv .quo .i64 k2 (w64 (Int.tdiv all3 m1))), .int .i64 (w64 (Int.tdiv k2 (w64 (Int.tdiv all3 m1))))⟩] [none, none, some (.int .i64 (w64 (Int.tdiv k2 (w64 (Int.tdiv all3 m1))))), none] [1, 6, 8, 9, 10, 11] [pl 1 (.int .i64 k2), pl 6 (.int .i64 (w64 (Int.tdiv all3 m1))), pl 8 (.slice A2 left1.length c2), pl 9 (.slice A3 l1.length c3), pl 10 (.int .i64 m1), pl 11 (.int .i64 (w64 (Int.tdiv k2 (w64 (Int.tdiv all3 m1)))))] hF hS Fol (by kernel_rfl) (by kernel_rfl) (by kernel_rfl) ?_ (fun a w hF hS => ?_)
              · exact obs_cons (ob_quo rfl (fun _ => hp2)) <| obs_nil
              obtain ⟨hp3, hm⟩ := asrt_b hm
              refine reg [⟨true, [], vS (Op.intDiv .rem .i64 k2 (w64 (Int.tdiv all3 m1))), .int .i64 (Int.tmod k2 (w64 (Int.tdiv all3 m1)))⟩] [none, none, some (.int .i64 (Int.tmod k2 (w64 (Int.tdiv all3 m1)))), none] [1, 6, 8, 9, 10, 11] [pl 1 (.int .i64 (Int.tmod k2 (w64 (Int.tdiv all3 m1)))), pl 6 (.int .i64 (w64 (Int.tdiv all3 m1))), pl 8 (.slice A2 left1.length c2), pl 9 (.slice A3 l1.length c3), pl 10 (.int .i64 m1), pl 11 (.int .i64 (w64 (Int.tdiv k2 (w64 (Int.tdiv all3 m1)))))] hF hS Fol (by kernel_rfl) (by kernel_rfl) (by kernel_rfl) ?_ (fun a w hF hS => ?_)
              · exact obs_cons (ob_rem rfl (fun _ => hp3)) <| obs_nil
              refine seqR ?_
              obtain ⟨hp4, hm⟩ := asrt_b hm
              obtain ⟨hp5, hm⟩ := asrt_b hm
              refine at_run 5 [⟨true, [], vS (Instr.indexAt 22 (.slice A2 left1.length c2) (.int .i64 (w64 (Int.tdiv k2 (w64 (Int.tdiv all3 m1)))))), .pointer (some (sAddr A2 (w64 (Int.tdiv k2 (w64 (Int.tdiv all3 m1))))))⟩, ⟨false, [], vS (Instr.loadAt 3 (.pointer (some (sAddr A2 (w64 (Int.tdiv k2 (w64 (Int.tdiv all3 m1)))))))), .int .i64 (geti left1 (w64 (Int.tdiv k2 (w64 (Int.tdiv all3 m1)))))⟩] [none, none, none, some (.pointer (some (sAddr A2 (w64 (Int.tdiv k2 (w64 (Int.tdiv all3 m1))))))), some (.int .i64 (geti left1 (w64 (Int.tdiv k2 (w64 (Int.tdiv all3 m1))))))] [1, 6, 8, 10, 11, 49, 53] [pl 1 (.int .i64 (Int.tmod k2 (w64 (Int.tdiv all3 m1)))), pl 6 (.int .i64 (w64 (Int.tdiv all3 m1))), pl 8 (.slice A2 left1.length c2), pl 10 (.int .i64 m1), pl 11 (.int .i64 (w64 (Int.tdiv k2 (w64 (Int.tdiv all3 m1))))), pl 49 (.slice A3 l1.length c3), pl 53 (.int .i64 (geti left1 (w64 (Int.tdiv k2 (w64 (Int.tdiv all3 m1))))))] hF hS (by kernel_rfl) (by kernel_rfl) ?_ (fun a w hF hS => ?_)
              · exact obs_cons (ob_ix1 (f := (Value.int .i64)) (m := left1) Und22 hi3 hs3 (hS.at_ 0 rfl).rd rfl (fun _ => hp4)) <| obs_cons (ob_get1 (n := left1.length) (m := left1) (Value.int .i64) (0 : Int) Agg3 (fun _ hS => ⟨_, (hS.at_ 0 rfl).rd⟩) (fun _ hS => rfl) (fun _ => hp4)) <| obs_nil
              refine at_do (d := 54) (s := vS (Instr.buildSlice 22 1 #[(0, .int .i64 (geti left1 (w64 (Int.tdiv k2 (w64 (Int.tdiv all3 m1))))))])) (v := .slice (some ⟨w.heap.size, 0, none⟩) 1 1) (w' := w.alloc (.cells #[.int .i64 (geti left1 (w64 (Int.tdiv k2 (w64 (Int.tdiv all3 m1)))))] 3)) hF (by kernel_rfl) (by kernel_rfl) (by kernel_rfl) (fun a hF => ?_)
              have hS : Sep w0 B (w.alloc (.cells #[.int .i64 (geti left1 (w64 (Int.tdiv k2 (w64 (Int.tdiv all3 m1)))))] 3)) (own 3 (.slice (some (⟨w.heap.size, 0, none⟩ : Addr)) 1 1) (vI ([geti left1 (w64 (Int.tdiv k2 (w64 (Int.tdiv all3 m1))))] : List Int)) :: (own 3 (.slice A2 left1.length c2) (vI left1) :: own 3 (.slice A3 l1.length c3) (vI l1) :: fs)) := hS.lit 3 #[.int .i64 (geti left1 (w64 (Int.tdiv k2 (w64 (Int.tdiv all3 m1)))))] 1 rfl (by omega)
              generalize (some (⟨w.heap.size, 0, none⟩ : Addr)) = g1 at hF hS
              generalize w.alloc (.cells #[.int .i64 (geti left1 (w64 (Int.tdiv k2 (w64 (Int.tdiv all3 m1)))))] 3) = w at hS ⊢
              obtain ⟨A5, c5, w, hrun, hS⟩ := run_app1 (P := Try.prog) (t := 22) (m := l1) (ys := ([geti left1 (w64 (Int.tdiv k2 (w64 (Int.tdiv all3 m1))))] : List Int)) (A2 := g1) (m2 := 1) (c2 := 1) (Value.int .i64) (0 : Int) (hS.at_ 2 rfl) (hS.at_ 0 rfl).rd ((hS.at_ 0 rfl).len1) 22 Und22 hi3 hz3 hs3 (by omega) rfl (fun _ => rfl) hp5
              have hS : Sep w0 B w (own 3 (.slice g1 1 1) (vI ([geti left1 (w64 (Int.tdiv k2 (w64 (Int.tdiv all3 m1))))] : List Int)) :: own 3 (.slice A2 left1.length c2) (vI left1) :: own 3 (.slice A5 ((l1 ++ ([geti left1 (w64 (Int.tdiv k2 (w64 (Int.tdiv all3 m1))))] : List Int)).length) c5) (vI (l1 ++ ([geti left1 (w64 (Int.tdiv k2 (w64 (Int.tdiv all3 m1))))] : List Int))) :: fs) := hS
              refine at_do (d := 55) hF (by kernel_rfl) (by kernel_rfl) hrun (fun a hF => ?_)
              refine at_run 1 [] [] [1, 6, 8, 9, 10, 11] [pl 1 (.int .i64 (Int.tmod k2 (w64 (Int.tdiv all3 m1)))), pl 6 (.int .i64 (w64 (Int.tdiv all3 m1))), pl 8 (.slice A2 left1.length c2), pl 9 (.slice A5 ((l1 ++ ([geti left1 (w64 (Int.tdiv k2 (w64 (Int.tdiv all3 m1))))] : List Int)).length) c5), pl 10 (.int .i64 m1), pl 11 (.int .i64 (w64 (Int.tdiv k2 (w64 (Int.tdiv all3 m1)))))] hF hS (by kernel_rfl) (by kernel_rfl) ?_ (fun a w hF hS => ?_)
              · exact obs_nil
              refine at_end [1, 6, 8, 9, 10, 11] [pl 1 (.int .i64 (Int.tmod k2 (w64 (Int.tdiv all3 m1)))), pl 6 (.int .i64 (w64 (Int.tdiv all3 m1))), pl 8 (.slice A2 left1.length c2), pl 9 (.slice A5 ((l1 ++ ([geti left1 (w64 (Int.tdiv k2 (w64 (Int.tdiv all3 m1))))] : List Int)).length) c5), pl 10 (.int .i64 m1), pl 11 (.int .i64 (w64 (Int.tdiv k2 (w64 (Int.tdiv all3 m1)))))] hF rfl (by kernel_rfl) (fun hF => ?_)
              refine then_n ?_
              refine oneR ?_
              obtain ⟨r2, hr2, hm⟩ := call_b hm
              refine at_run 4 [] [] [1, 6, 9, 10, 56, 57, 59] [pl 1 (.int .i64 (Int.tmod k2 (w64 (Int.tdiv all3 m1)))), pl 6 (.int .i64 (w64 (Int.tdiv all3 m1))), pl 9 (.slice A5 ((l1 ++ ([geti left1 (w64 (Int.tdiv k2 (w64 (Int.tdiv all3 m1))))] : List Int)).length) c5), pl 10 (.int .i64 m1), pl 56 (.slice A2 left1.length c2), pl 57 (.int .i64 (w64 (Int.tdiv k2 (w64 (Int.tdiv all3 m1))))), pl 59 (.int .i64 (w64 ((w64 (Int.tdiv k2 (w64 (Int.tdiv all3 m1)))) + 1)))] hF hS (by kernel_rfl) (by kernel_rfl) ?_ (fun a w hF hS => ?_)
              · exact obs_nil
              have hS : Sep w0 B w (own 3 (.slice A2 left1.length c2) (vI left1) :: own 3 (.slice g1 1 1) (vI ([geti left1 (w64 (Int.tdiv k2 (w64 (Int.tdiv all3 m1))))] : List Int)) :: own 3 (.slice A5 ((l1 ++ ([geti left1 (w64 (Int.tdiv k2 (w64 (Int.tdiv all3 m1))))] : List Int)).length) c5) (vI (l1 ++ ([geti left1 (w64 (Int.tdiv k2 (w64 (Int.tdiv all3 m1))))] : List Int))) :: fs) := hS.pickN 3 [1, 0, 2] (by decide)
              refine at_call (f := 86) (args := #[.slice A2 left1.length c2, .int .i64 (w64 (Int.tdiv k2 (w64 (Int.tdiv all3 m1)))), .int .i64 (w64 ((w64 (Int.tdiv k2 (w64 (Int.tdiv all3 m1)))) + 1))]) (d := 60) hF (by kernel_rfl) (by kernel_rfl) Try.func86 (by kernel_rfl) rfl (slices_Delete_2_w hr2 hS ) (fun v a w hR hF => ?_)
              clear hS
              obtain ⟨A6, c6, rfl, hS⟩ := hR
              have hS : Sep w0 B w (own 3 (.slice A6 r2.length c6) (vI r2) :: own 3 (.slice g1 1 1) (vI ([geti left1 (w64 (Int.tdiv k2 (w64 (Int.tdiv all3 m1))))] : List Int)) :: own 3 (.slice A5 ((l1 ++ ([geti left1 (w64 (Int.tdiv k2 (w64 (Int.tdiv all3 m1))))] : List Int)).length) c5) (vI (l1 ++ ([geti left1 (w64 (Int.tdiv k2 (w64 (Int.tdiv all3 m1))))] : List Int))) :: fs) := hS
              refine at_run 1 [] [] [1, 6, 8, 9, 10] [pl 1 (.int .i64 (Int.tmod k2 (w64 (Int.tdiv all3 m1)))), pl 6 (.int .i64 (w64 (Int.tdiv all3 m1))), pl 8 (.slice A6 r2.length c6), pl 9 (.slice A5 ((l1 ++ ([geti left1 (w64 (Int.tdiv k2 (w64 (Int.tdiv all3 m1))))] : List Int)).length) c5), pl 10 (.int .i64 m1)] hF hS (by kernel_rfl) (by kernel_rfl) ?_ (fun a w hF hS => ?_)
              · exact obs_nil
              refine at_end [1, 6, 8, 9, 10] [pl 1 (.int .i64 (Int.tmod k2 (w64 (Int.tdiv all3 m1)))), pl 6 (.int .i64 (w64 (Int.tdiv all3 m1))), pl 8 (.slice A6 r2.length c6), pl 9 (.slice A5 ((l1 ++ ([geti left1 (w64 (Int.tdiv k2 (w64 (Int.tdiv all3 m1))))] : List Int)).length) c5), pl 10 (.int .i64 m1)] hF rfl (by kernel_rfl) (fun hF => ?_)
              refine block_n ?_
              refine then_n ?_
              have hS := hS.pickN 3 [0, 2] (by decide)
              exact ⟨r2, (l1 ++ ([geti left1 (w64 (Int.tdiv k2 (w64 (Int.tdiv all3 m1))))] : List Int)), A6, c6, A5, c5, hF.weak [1, 6, 8, 9, 10] (by kernel_rfl), hS, hm⟩
          · refine reg [] [] [1, 6, 8, 9, 10, 37] [pl 1 (.int .i64 k2), pl 6 (.int .i64 all3), pl 8 (.slice A2 left1.length c2), pl 9 (.slice A3 l1.length c3), pl 10 (.int .i64 m1), pl 37 (.bool (decide ((0 : Int) < m1)))] hF hS Fol (by kernel_rfl) (by kernel_rfl) (by kernel_rfl) ?_ (fun a w hF hS => ?_)
            · exact obs_nil
            refine cond_ev (t := 37) (b := decide ((0 : Int) < m1)) hF (by kernel_rfl) (fun hb => ?_) (fun hb => ?_)
            · replace hm := if_t hm hb
              refine wp_skip ?_
              refine then_n ?_
              exact ⟨hF.weak [1, 6, 8, 9, 10] (by kernel_rfl), hS, hm⟩
            · replace hm := if_f hm hb
              refine wp_exit ?_
              refine then_e (then_e (block_e (then_n ?_)))
              have hS := hS.pickN 2 [1] (by decide)
              rw [← hφ2] at hm
              replace hm := done_b hm
              unfold deck_Nth_K2 at hm
              try dsimp only at hm
              have hm : (deck_Nth_J6 l1).bind some = some r := hm
              exact ⟨l1, A3, c3, hF.weak [9] (by kernel_rfl), hS, hm⟩
      · refine reg [] [] [0, 1, 6, 32] [pl 0 (.int .i64 n1), pl 1 (.int .i64 k1), pl 6 (.int .i64 all2), pl 32 (.bool ((decide (k1 < 0)) || (decide (all2 ≤ k1))))] hF hS Fol (by kernel_rfl) (by kernel_rfl) (by kernel_rfl) ?_ (fun a w hF hS => ?_)
        · exact obs_nil
        refine cond_ev (t := 32) (b := (decide (k1 < 0)) || (decide (all2 ≤ k1))) hF (by kernel_rfl) (fun hb => ?_) (fun hb => ?_)
        · replace hm := if_t hm hb
          refine reg [] [] [4, 5] [pl 4 (.slice none 0 0), pl 5 (.int .i64 3)] hF hS Fol (by kernel_rfl) (by kernel_rfl) (by kernel_rfl) ?_ (fun a w hF hS => ?_)
          · exact obs_nil
          refine wp_ret ?_
          refine then_r ?_
          have hS : Sep w0 B w (own 3 (.slice none 0 0) (vI ([] : List Int)) :: fs) := hS.nil 3
          have hl2 := (hS.at_ 0 rfl).len1
          have hS := (hS.at_ 0 rfl).reN hl2
          have hS : Sep w0 B w (own 3 (.slice none (([] : List Int).length) 0) (vI ([] : List Int)) :: fs) := hS
          have hm : some (([] : List Int), 3) = some r := hm
          obtain rfl := Option.some.inj hm
          exact retV (rs := [.tmp 4, .tmp 5]) (vs := [.slice none (([] : List Int).length) 0, .int .i64 3]) hF rfl (rv_t (by kernel_rfl) <| rv_t (by kernel_rfl) <| rv_nil) rfl ⟨_, rfl, none, 0, rfl, hS⟩
        · replace hm := if_f hm hb
          refine wp_skip ?_
          refine then_n ?_
          exact ⟨hF.weak [0, 1, 6] (by kernel_rfl), hS, hm⟩
    · refine reg [] [] [0, 1, 6, 7] [pl 0 (.int .i64 n1), pl 1 (.int .i64 k1), pl 6 (.int .i64 1), pl 7 (.int .i64 2)] hF hS Fol (by kernel_rfl) (by kernel_rfl) (by kernel_rfl) ?_ (fun a w hF hS => ?_)
      · exact obs_nil
      refine wp_block ?_
      refine wp_loop_model (S := (Int × Int)) (R := Int) (deck_Nth_L1 n1) (fun x => ((deck_Nth_K1 n1 k1) x).bind some) r (fun (x : (Int × Int)) a w => Fr 62 [pl 0 (.int .i64 n1), pl 1 (.int .i64 k1), pl 6 (.int .i64 x.1), pl 7 (.int .i64 x.2)] a ∧ Sep w0 B w (fs)) (assoc_b hm) ⟨hF.weak [0, 1, 6, 7] (by kernel_rfl), hS⟩ ?_
      clear hF hS hm
      rintro nn1 ⟨all1, i1⟩ a w ⟨hF, hS⟩ hm
      generalize hφ1 : stK (deck_Nth_L1 n1) nn1 (fun x => ((deck_Nth_K1 n1 k1) x).bind some) = φ1 at hm
      unfold deck_Nth_L1 at hm
      dsimp only at hF hS hm
      refine seq_cut (fun a w => Fr 62 [pl 0 (.int .i64 n1), pl 1 (.int .i64 k1), pl 6 (.int .i64 all1), pl 7 (.int .i64 i1)] a ∧ Sep w0 B w (fs) ∧ ((deck_Nth_J3 all1 i1)).bind φ1 = some r) ?_ ?_
      · rintro a w ⟨hF, hS, hm⟩
        unfold deck_Nth_J3 at hm
        refine seq_cut (fun a w => Fr 62 [pl 0 (.int .i64 n1), pl 1 (.int .i64 k1), pl 6 (.int .i64 (w64 (all1 * i1))), pl 7 (.int .i64 i1)] a ∧ Sep w0 B w (fs) ∧ ((deck_Nth_J4 all1 i1)).bind φ1 = some r) ?_ ?_
        · rintro a w ⟨hF, hS, hm⟩
          unfold deck_Nth_J4 at hm
          refine reg1 [] [] [0, 1, 6, 7] [pl 0 (.int .i64 n1), pl 1 (.int .i64 k1), pl 6 (.int .i64 (w64 (all1 * i1))), pl 7 (.int .i64 (w64 (i1 + 1)))] hF hS Fol (by kernel_rfl) (by kernel_rfl) (by kernel_rfl) ?_ (fun a w hF hS => ?_)
          · exact obs_nil
          refine then_n ?_
          rw [← hφ1] at hm
          exact ⟨((w64 (all1 * i1)), (w64 (i1 + 1))), ⟨hF.weak [0, 1, 6, 7] (by kernel_rfl), hS⟩, hm⟩
        · refine wp_block ?_
          refine reg1 [] [] [0, 1, 6, 7] [pl 0 (.int .i64 n1), pl 1 (.int .i64 k1), pl 6 (.int .i64 (w64 (all1 * i1))), pl 7 (.int .i64 i1)] hF hS Fol (by kernel_rfl) (by kernel_rfl) (by kernel_rfl) ?_ (fun a w hF hS => ?_)
          · exact obs_nil
          refine block_n ?_
          refine then_n ?_
          exact ⟨hF.weak [0, 1, 6, 7] (by kernel_rfl), hS, hm⟩
      · refine reg [] [] [0, 1, 6, 7, 20] [pl 0 (.int .i64 n1), pl 1 (.int .i64 k1), pl 6 (.int .i64 all1), pl 7 (.int .i64 i1), pl 20 (.bool (decide (i1 ≤ n1)))] hF hS Fol (by kernel_rfl) (by kernel_rfl) (by kernel_rfl) ?_ (fun a w hF hS => ?_)
        · exact obs_nil
        refine cond_ev (t := 20) (b := decide (i1 ≤ n1)) hF (by kernel_rfl) (fun hb => ?_) (fun hb => ?_)
        · replace hm := if_t hm hb
          refine wp_skip ?_
          refine then_n ?_
          exact ⟨hF.weak [0, 1, 6, 7] (by kernel_rfl), hS, hm⟩
        · replace hm := if_f hm hb
          refine wp_exit ?_
          refine then_e (then_e (block_e (then_n ?_)))
          rw [← hφ1] at hm
          replace hm := done_b hm
          unfold deck_Nth_K1 at hm
          try dsimp only at hm
          have hm : ((deck_Nth_J2 n1 k1) all1).bind some = some r := hm
          exact ⟨all1, hF.weak [0, 1, 6] (by kernel_rfl), hS, hm⟩
  · refine reg [] [] [0, 1, 17] [pl 0 (.int .i64 n1), pl 1 (.int .i64 k1), pl 17 (.bool ((decide (n1 < 0)) || (decide ((12 : Int) < n1))))] hF hS Fol (by kernel_rfl) (by kernel_rfl) (by kernel_rfl) ?_ (fun a w hF hS => ?_)
    · exact obs_nil
    refine cond_ev (t := 17) (b := (decide (n1 < 0)) || (decide ((12 : Int) < n1))) hF (by kernel_rfl) (fun hb => ?_) (fun hb => ?_)
    · replace hm := if_t hm hb
      refine reg [] [] [4, 5] [pl 4 (.slice none 0 0), pl 5 (.int .i64 2)] hF hS Fol (by kernel_rfl) (by kernel_rfl) (by kernel_rfl) ?_ (fun a w hF hS => ?_)
      · exact obs_nil
      refine wp_ret ?_
      refine then_r ?_
      have hS : Sep w0 B w (own 3 (.slice none 0 0) (vI ([] : List Int)) :: fs) := hS.nil 3
      have hl1 := (hS.at_ 0 rfl).len1
      have hS := (hS.at_ 0 rfl).reN hl1
      have hS : Sep w0 B w (own 3 (.slice none (([] : List Int).length) 0) (vI ([] : List Int)) :: fs) := hS
      have hm : some (([] : List Int), 2) = some r := hm
      obtain rfl := Option.some.inj hm
      exact retV (rs := [.tmp 4, .tmp 5]) (vs := [.slice none (([] : List Int).length) 0, .int .i64 2]) hF rfl (rv_t (by kernel_rfl) <| rv_t (by kernel_rfl) <| rv_nil) rfl ⟨_, rfl, none, 0, rfl, hS⟩
    · replace hm := if_f hm hb
      refine wp_skip ?_
      refine then_n ?_
      exact ⟨hF.weak [0, 1] (by kernel_rfl), hS, hm⟩

noncomputable def gameroomref_at_J3 (i1 : Int) : Option (St Int (Fl Unit Int)) :=
  some (.next (w64 (i1 + 1)))

noncomputable def gameroomref_at_J2 (l1 : List Int) (n2 : Int) (i1 : Int) : Option (St Int (Fl Unit Int)) :=
  asrt (0 ≤ i1 ∧ i1 < (l1.length : Int)) <| if ((geti l1 i1) == n2) then (some (.done (.ret i1))) else ((gameroomref_at_J3 i1))

noncomputable def gameroomref_at_J1 : Option Int :=
  some (-1)

noncomputable def gameroomref_at_K1 : (Fl Unit Int) → Option Int :=
  fun (x : (Fl Unit Int)) => match x with | .go _ => gameroomref_at_J1 | .ret x => some x

noncomputable def gameroomref_at_L1 (l1 : List Int) (n2 : Int) : Int → Option (St Int (Fl Unit Int)) :=
  fun (x : Int) => match x with | i1 => if (decide (i1 < (l1.length : Int))) then ((gameroomref_at_J2 l1 n2 i1)) else (some (.done (.go ())))

noncomputable def gameroomref_at_m (l1 : List Int) (n2 : Int) : Option Int :=
  (loop (gameroomref_at_L1 l1 n2) 0).bind gameroomref_at_K1

set_option maxRecDepth 100000 in
set_option maxHeartbeats 4000000 in
theorem gameroomref_at_w {A1 : Option Addr} {c1 : Nat} {n1 : Nat} {l1 : List Int} {n2 : Int} {r : Int} {w0 w : World} {B : Nat} {fs : List HP} (hm : gameroomref_at_m l1 n2 = some r) (hS : Sep w0 B w (fs)) (hr_l1 : RdF w0 B fs A1 (vI l1)) (_hc_l1 : l1.length ≤ c1) (_hn_l1 : n1 = l1.length) :
    Calls Try.prog 87 #[.slice A1 n1 c1, .int .i64 n2] w fun e w' => e = .returned (.int .i64 r) ∧ Sep w0 B w' (fs) := by
  obtain ⟨i3, hi3, hz3, hs3, hb3⟩ := info_parts Info3
  obtain rfl := _hn_l1
  unfold gameroomref_at_m at hm
  replace hm := start_b hm
  refine enter (l := [.slice A1 l1.length c1, .int .i64 n2]) (n := 19) Try.func87 rfl rfl (by simp) (fun a hF => ?_)
  refine reg [] [] [0, 1] [pl 0 (.slice A1 l1.length c1), pl 1 (.int .i64 n2)] hF hS Fol (by kernel_rfl) (by kernel_rfl) (by kernel_rfl) ?_ (fun a w hF hS => ?_)
  · exact obs_nil
  refine seq_cut (fun a w => Fr 19 [] a ∧ Sep w0 B w (fs) ∧ (gameroomref_at_J1).bind some = some r) ?_ ?_
  · rintro a w ⟨hF, hS, hm⟩
    unfold gameroomref_at_J1 at hm
    refine reg [] [] [4] [pl 4 (.int .i64 (-1))] hF hS Fol (by kernel_rfl) (by kernel_rfl) (by kernel_rfl) ?_ (fun a w hF hS => ?_)
    · exact obs_nil
    refine wp_ret ?_
    have hm : some (-1) = some r := hm
    obtain rfl := Option.some.inj hm
    exact retV (rs := [.tmp 4]) (vs := [.int .i64 (-1)]) hF rfl (rv_t (by kernel_rfl) <| rv_nil) rfl ⟨rfl, hS⟩
  · refine reg [] [] [0, 1, 5] [pl 0 (.slice A1 l1.length c1), pl 1 (.int .i64 n2), pl 5 (.int .i64 0)] hF hS Fol (by kernel_rfl) (by kernel_rfl) (by kernel_rfl) ?_ (fun a w hF hS => ?_)
    · exact obs_nil
    refine wp_block ?_
    refine wp_loop_model (S := Int) (R := (Fl Unit Int)) (gameroomref_at_L1 l1 n2) (fun x => (gameroomref_at_K1 x).bind some) r (fun (x : Int) a w => Fr 19 [pl 0 (.slice A1 l1.length c1), pl 1 (.int .i64 n2), pl 5 (.int .i64 x)] a ∧ Sep w0 B w (fs)) (assoc_b hm) ⟨hF.weak [0, 1, 5] (by kernel_rfl), hS⟩ ?_
    clear hF hS hm
    rintro nn1 i1 a w ⟨hF, hS⟩ hm
    generalize hφ1 : stK (gameroomref_at_L1 l1 n2) nn1 (fun x => (gameroomref_at_K1 x).bind some) = φ1 at hm
    unfold gameroomref_at_L1 at hm
    dsimp only at hm
    refine seq_cut (fun a w => Fr 19 [pl 0 (.slice A1 l1.length c1), pl 1 (.int .i64 n2), pl 5 (.int .i64 i1)] a ∧ Sep w0 B w (fs) ∧ ((gameroomref_at_J2 l1 n2 i1)).bind φ1 = some r) ?_ ?_
    · rintro a w ⟨hF, hS, hm⟩
      unfold gameroomref_at_J2 at hm
      refine seq_cut (fun a w => Fr 19 [pl 0 (.slice A1 l1.length c1), pl 1 (.int .i64 n2), pl 5 (.int .i64 i1)] a ∧ Sep w0 B w (fs) ∧ ((gameroomref_at_J3 i1)).bind φ1 = some r) ?_ ?_
      · rintro a w ⟨hF, hS, hm⟩
        unfold gameroomref_at_J3 at hm
        refine reg1 [] [] [0, 1, 5] [pl 0 (.slice A1 l1.length c1), pl 1 (.int .i64 n2), pl 5 (.int .i64 (w64 (i1 + 1)))] hF hS Fol (by kernel_rfl) (by kernel_rfl) (by kernel_rfl) ?_ (fun a w hF hS => ?_)
        · exact obs_nil
        refine then_n ?_
        rw [← hφ1] at hm
        exact ⟨(w64 (i1 + 1)), ⟨hF.weak [0, 1, 5] (by kernel_rfl), hS⟩, hm⟩
      · refine wp_block ?_
        obtain ⟨hp1, hm⟩ := asrt_b hm
        refine reg [⟨true, [], vS (Instr.indexAt 22 (.slice A1 l1.length c1) (.int .i64 i1)), .pointer (some (sAddr A1 i1))⟩, ⟨false, [], vS (Instr.loadAt 3 (.pointer (some (sAddr A1 i1)))), .int .i64 (geti l1 i1)⟩] [none, none, some (.pointer (some (sAddr A1 i1))), some (.int .i64 (geti l1 i1)), none, none] [0, 1, 5, 17] [pl 0 (.slice A1 l1.length c1), pl 1 (.int .i64 n2), pl 5 (.int .i64 i1), pl 17 (.bool ((geti l1 i1) == n2))] hF hS Fol (by kernel_rfl) (by kernel_rfl) (by kernel_rfl) ?_ (fun a w hF hS => ?_)
        · exact obs_cons (ob_ix1 (f := (Value.int .i64)) (m := l1) Und22 hi3 hs3 (hr_l1 _ (hS.dropN 0)) rfl (fun _ => hp1)) <| obs_cons (ob_get1 (n := l1.length) (m := l1) (Value.int .i64) (0 : Int) Agg3 (fun _ hS => ⟨_, (hr_l1 _ (hS.dropN 0))⟩) (fun _ hS => rfl) (fun _ => hp1)) <| obs_nil
        refine cond_ev (t := 17) (b := ((geti l1 i1) == n2)) hF (by kernel_rfl) (fun hb => ?_) (fun hb => ?_)
        · replace hm := if_t hm hb
          refine reg [] [] [4] [pl 4 (.int .i64 i1)] hF hS Fol (by kernel_rfl) (by kernel_rfl) (by kernel_rfl) ?_ (fun a w hF hS => ?_)
          · exact obs_nil
          refine wp_ret ?_
          refine block_r (then_r (then_r (block_r (then_r ?_))))
          rw [← hφ1] at hm
          replace hm := done_b hm
          unfold gameroomref_at_K1 at hm
          try dsimp only at hm
          have hm : some i1 = some r := hm
          obtain rfl := Option.some.inj hm
          exact retV (rs := [.tmp 4]) (vs := [.int .i64 i1]) hF rfl (rv_t (by kernel_rfl) <| rv_nil) rfl ⟨rfl, hS⟩
        · replace hm := if_f hm hb
          refine wp_skip ?_
          refine block_n ?_
          refine then_n ?_
          exact ⟨hF.weak [0, 1, 5] (by kernel_rfl), hS, hm⟩
    · refine reg [] [] [0, 1, 5, 9] [pl 0 (.slice A1 l1.length c1), pl 1 (.int .i64 n2), pl 5 (.int .i64 i1), pl 9 (.bool (decide (i1 < (l1.length : Int))))] hF hS Fol (by kernel_rfl) (by kernel_rfl) (by kernel_rfl) ?_ (fun a w hF hS => ?_)
      · exact obs_nil
      refine cond_ev (t := 9) (b := decide (i1 < (l1.length : Int))) hF (by kernel_rfl) (fun hb => ?_) (fun hb => ?_)
      · replace hm := if_t hm hb
        refine wp_skip ?_
        refine then_n ?_
        exact ⟨hF.weak [0, 1, 5] (by kernel_rfl), hS, hm⟩
      · replace hm := if_f hm hb
        refine wp_exit ?_
        refine then_e (then_e (block_e (then_n ?_)))
        rw [← hφ1] at hm
        replace hm := done_b hm
        unfold gameroomref_at_K1 at hm
        try dsimp only at hm
        have hm : (gameroomref_at_J1).bind some = some r := hm
        exact ⟨hF.weak [] (by kernel_rfl), hS, hm⟩

noncomputable def gameroomref_OrderIs_J3 (i1 : Int) : Option (St Int (Fl Unit Bool)) :=
  some (.next (w64 (i1 + 1)))

noncomputable def gameroomref_OrderIs_J2 (l1 : List Int) (i1 : Int) : Option (St Int (Fl Unit Bool)) :=
  (gameroomref_at_m l1 i1).bind fun r1 => if (decide (r1 < 0)) then (some (.done (.ret false))) else ((gameroomref_OrderIs_J3 i1))

noncomputable def gameroomref_OrderIs_J1 : Option Bool :=
  some true

noncomputable def gameroomref_OrderIs_K1 : (Fl Unit Bool) → Option Bool :=
  fun (x : (Fl Unit Bool)) => match x with | .go _ => gameroomref_OrderIs_J1 | .ret x => some x

noncomputable def gameroomref_OrderIs_L1 (l1 : List Int) : Int → Option (St Int (Fl Unit Bool)) :=
  fun (x : Int) => match x with | i1 => if (decide (i1 < (l1.length : Int))) then ((gameroomref_OrderIs_J2 l1 i1)) else (some (.done (.go ())))

noncomputable def gameroomref_OrderIs_m (l1 : List Int) : Option Bool :=
  (loop (gameroomref_OrderIs_L1 l1) 0).bind gameroomref_OrderIs_K1

set_option maxRecDepth 100000 in
set_option maxHeartbeats 4000000 in
theorem gameroomref_OrderIs_w {A1 : Option Addr} {c1 : Nat} {n1 : Nat} {l1 : List Int} {r : Bool} {w0 w : World} {B : Nat} {fs : List HP} (hm : gameroomref_OrderIs_m l1 = some r) (hS : Sep w0 B w (fs)) (hr_l1 : RdF w0 B fs A1 (vI l1)) (_hc_l1 : l1.length ≤ c1) (_hn_l1 : n1 = l1.length) :
    Calls Try.prog 19 #[.slice A1 n1 c1] w fun e w' => e = .returned (.bool r) ∧ Sep w0 B w' (fs) := by
  obtain ⟨i3, hi3, hz3, hs3, hb3⟩ := info_parts Info3
  obtain rfl := _hn_l1
  unfold gameroomref_OrderIs_m at hm
  replace hm := start_b hm
  refine enter (l := [.slice A1 l1.length c1]) (n := 14) Try.func19 rfl rfl (by simp) (fun a hF => ?_)
  refine reg [] [] [0] [pl 0 (.slice A1 l1.length c1)] hF hS Fol (by kernel_rfl) (by kernel_rfl) (by kernel_rfl) ?_ (fun a w hF hS => ?_)
  · exact obs_nil
  refine seq_cut (fun a w => Fr 14 [] a ∧ Sep w0 B w (fs) ∧ (gameroomref_OrderIs_J1).bind some = some r) ?_ ?_
  · rintro a w ⟨hF, hS, hm⟩
    unfold gameroomref_OrderIs_J1 at hm
    refine reg [] [] [2] [pl 2 (.bool true)] hF hS Fol (by kernel_rfl) (by kernel_rfl) (by kernel_rfl) ?_ (fun a w hF hS => ?_)
    · exact obs_nil
    refine wp_ret ?_
    have hm : some true = some r := hm
    obtain rfl := Option.some.inj hm
    exact retV (rs := [.tmp 2]) (vs := [.bool true]) hF rfl (rv_t (by kernel_rfl) <| rv_nil) rfl ⟨rfl, hS⟩
  · refine reg [] [] [0, 3] [pl 0 (.slice A1 l1.length c1), pl 3 (.int .i64 0)] hF hS Fol (by kernel_rfl) (by kernel_rfl) (by kernel_rfl) ?_ (fun a w hF hS => ?_)
    · exact obs_nil
    refine wp_block ?_
    refine wp_loop_model (S := Int) (R := (Fl Unit Bool)) (gameroomref_OrderIs_L1 l1) (fun x => (gameroomref_OrderIs_K1 x).bind some) r (fun (x : Int) a w => Fr 14 [pl 0 (.slice A1 l1.length c1), pl 3 (.int .i64 x)] a ∧ Sep w0 B w (fs)) (assoc_b hm) ⟨hF.weak [0, 3] (by kernel_rfl), hS⟩ ?_
    clear hF hS hm
    rintro nn1 i1 a w ⟨hF, hS⟩ hm
    generalize hφ1 : stK (gameroomref_OrderIs_L1 l1) nn1 (fun x => (gameroomref_OrderIs_K1 x).bind some) = φ1 at hm
    unfold gameroomref_OrderIs_L1 at hm
    dsimp only at hm
    refine seq_cut (fun a w => Fr 14 [pl 0 (.slice A1 l1.length c1), pl 3 (.int .i64 i1)] a ∧ Sep w0 B w (fs) ∧ ((gameroomref_OrderIs_J2 l1 i1)).bind φ1 = some r) ?_ ?_
    · rintro a w ⟨hF, hS, hm⟩
      unfold gameroomref_OrderIs_J2 at hm
      refine seq_cut (fun a w => Fr 14 [pl 0 (.slice A1 l1.length c1), pl 3 (.int .i64 i1)] a ∧ Sep w0 B w (fs) ∧ ((gameroomref_OrderIs_J3 i1)).bind φ1 = some r) ?_ ?_
      · rintro a w ⟨hF, hS, hm⟩
        unfold gameroomref_OrderIs_J3 at hm
        refine reg1 [] [] [0, 3] [pl 0 (.slice A1 l1.length c1), pl 3 (.int .i64 (w64 (i1 + 1)))] hF hS Fol (by kernel_rfl) (by kernel_rfl) (by kernel_rfl) ?_ (fun a w hF hS => ?_)
        · exact obs_nil
        refine then_n ?_
        rw [← hφ1] at hm
        exact ⟨(w64 (i1 + 1)), ⟨hF.weak [0, 3] (by kernel_rfl), hS⟩, hm⟩
      · refine wp_block ?_
        obtain ⟨r1, hr1, hm⟩ := call_b hm
        refine reg [⟨false, [], callFunc 87 #[.slice A1 l1.length c1, .int .i64 i1], .int .i64 r1⟩] [none, none, some (.int .i64 r1), none] [0, 3, 13] [pl 0 (.slice A1 l1.length c1), pl 3 (.int .i64 i1), pl 13 (.bool (decide (r1 < 0)))] hF hS Fol (by kernel_rfl) (by kernel_rfl) (by kernel_rfl) ?_ (fun a w hF hS => ?_)
        · exact obs_cons (ob_call Try.func87 (by kernel_rfl) rfl (fun _ _ hS => gameroomref_at_w hr1 hS (fun _ hS => (hr_l1 _ (hS.dropN 0))) _hc_l1 rfl)) <| obs_nil
        refine cond_ev (t := 13) (b := decide (r1 < 0)) hF (by kernel_rfl) (fun hb => ?_) (fun hb => ?_)
        · replace hm := if_t hm hb
          refine reg [] [] [2] [pl 2 (.bool false)] hF hS Fol (by kernel_rfl) (by kernel_rfl) (by kernel_rfl) ?_ (fun a w hF hS => ?_)
          · exact obs_nil
          refine wp_ret ?_
          refine block_r (then_r (then_r (block_r (then_r ?_))))
          rw [← hφ1] at hm
          replace hm := done_b hm
          unfold gameroomref_OrderIs_K1 at hm
          try dsimp only at hm
          have hm : some false = some r := hm
          obtain rfl := Option.some.inj hm
          exact retV (rs := [.tmp 2]) (vs := [.bool false]) hF rfl (rv_t (by kernel_rfl) <| rv_nil) rfl ⟨rfl, hS⟩
        · replace hm := if_f hm hb
          refine wp_skip ?_
          refine block_n ?_
          refine then_n ?_
          exact ⟨hF.weak [0, 3] (by kernel_rfl), hS, hm⟩
    · refine reg [] [] [0, 3, 7] [pl 0 (.slice A1 l1.length c1), pl 3 (.int .i64 i1), pl 7 (.bool (decide (i1 < (l1.length : Int))))] hF hS Fol (by kernel_rfl) (by kernel_rfl) (by kernel_rfl) ?_ (fun a w hF hS => ?_)
      · exact obs_nil
      refine cond_ev (t := 7) (b := decide (i1 < (l1.length : Int))) hF (by kernel_rfl) (fun hb => ?_) (fun hb => ?_)
      · replace hm := if_t hm hb
        refine wp_skip ?_
        refine then_n ?_
        exact ⟨hF.weak [0, 3] (by kernel_rfl), hS, hm⟩
      · replace hm := if_f hm hb
        refine wp_exit ?_
        refine then_e (then_e (block_e (then_n ?_)))
        rw [← hφ1] at hm
        replace hm := done_b hm
        unfold gameroomref_OrderIs_K1 at hm
        try dsimp only at hm
        have hm : (gameroomref_OrderIs_J1).bind some = some r := hm
        exact ⟨hF.weak [] (by kernel_rfl), hS, hm⟩

noncomputable def gameroomref_SignOf_J5 (k1 : Int) (s5 : Int) : Option (St (Int × Int) Int) :=
  some (.next (s5, (w64 (k1 + 1))))

noncomputable def gameroomref_SignOf_J4 (l1 : List Int) (i1 : Int) (s3 : Int) (k1 : Int) : Option (St (Int × Int) Int) :=
  asrt (0 ≤ k1 ∧ k1 < (l1.length : Int)) <| asrt (0 ≤ i1 ∧ i1 < (l1.length : Int)) <| if (decide ((geti l1 i1) < (geti l1 k1))) then ((gameroomref_SignOf_J5 k1) (w64 (0 - s3))) else ((gameroomref_SignOf_J5 k1) s3)

noncomputable def gameroomref_SignOf_J3 (i1 : Int) (s4 : Int) : Option (St (Int × Int) Int) :=
  some (.next (s4, (w64 (i1 + 1))))

noncomputable def gameroomref_SignOf_K2 (i1 : Int) : Int → Option (St (Int × Int) Int) :=
  fun (x : Int) => match x with | s4 => (gameroomref_SignOf_J3 i1) s4

noncomputable def gameroomref_SignOf_L2 (l1 : List Int) (i1 : Int) : (Int × Int) → Option (St (Int × Int) Int) :=
  fun (x : (Int × Int)) => match x with | (s3, k1) => if (decide (k1 < i1)) then ((gameroomref_SignOf_J4 l1 i1 s3 k1)) else (some (.done s3))

noncomputable def gameroomref_SignOf_J2 (l1 : List Int) (s1 : Int) (i1 : Int) : Option (St (Int × Int) Int) :=
  (loop (gameroomref_SignOf_L2 l1 i1) (s1, 0)).bind (gameroomref_SignOf_K2 i1)

noncomputable def gameroomref_SignOf_J1 (s2 : Int) : Option Int :=
  some s2

noncomputable def gameroomref_SignOf_K1 : Int → Option Int :=
  fun (x : Int) => match x with | s2 => gameroomref_SignOf_J1 s2

noncomputable def gameroomref_SignOf_L1 (l1 : List Int) : (Int × Int) → Option (St (Int × Int) Int) :=
  fun (x : (Int × Int)) => match x with | (s1, i1) => if (decide (i1 < (l1.length : Int))) then ((gameroomref_SignOf_J2 l1 s1 i1)) else (some (.done s1))

noncomputable def gameroomref_SignOf_m (l1 : List Int) : Option Int :=
  (loop (gameroomref_SignOf_L1 l1) (1, 0)).bind gameroomref_SignOf_K1

set_option maxRecDepth 100000 in
set_option maxHeartbeats 4000000 in
theorem gameroomref_SignOf_w {A1 : Option Addr} {c1 : Nat} {n1 : Nat} {l1 : List Int} {r : Int} {w0 w : World} {B : Nat} {fs : List HP} (hm : gameroomref_SignOf_m l1 = some r) (hS : Sep w0 B w (fs)) (hr_l1 : RdF w0 B fs A1 (vI l1)) (_hc_l1 : l1.length ≤ c1) (_hn_l1 : n1 = l1.length) :
    Calls Try.prog 20 #[.slice A1 n1 c1] w fun e w' => e = .returned (.int .i64 r) ∧ Sep w0 B w' (fs) := by
  obtain ⟨i3, hi3, hz3, hs3, hb3⟩ := info_parts Info3
  obtain rfl := _hn_l1
  unfold gameroomref_SignOf_m at hm
  replace hm := start_b hm
  refine enter (l := [.slice A1 l1.length c1]) (n := 29) Try.func20 rfl rfl (by simp) (fun a hF => ?_)
  refine reg [] [] [0] [pl 0 (.slice A1 l1.length c1)] hF hS Fol (by kernel_rfl) (by kernel_rfl) (by kernel_rfl) ?_ (fun a w hF hS => ?_)
  · exact obs_nil
  refine reg [] [] [0, 3] [pl 0 (.slice A1 l1.length c1), pl 3 (.int .i64 1)] hF hS Fol (by kernel_rfl) (by kernel_rfl) (by kernel_rfl) ?_ (fun a w hF hS => ?_)
  · exact obs_nil
  refine seq_cut (fun a w => ∃ (s2 : Int), Fr 29 [pl 3 (.int .i64 s2)] a ∧ Sep w0 B w (fs) ∧ (gameroomref_SignOf_J1 s2).bind some = some r) ?_ ?_
  · rintro a w ⟨s2, hF, hS, hm⟩
    unfold gameroomref_SignOf_J1 at hm
    refine reg [] [] [2] [pl 2 (.int .i64 s2)] hF hS Fol (by kernel_rfl) (by kernel_rfl) (by kernel_rfl) ?_ (fun a w hF hS => ?_)
    · exact obs_nil
    refine wp_ret ?_
    have hm : some s2 = some r := hm
    obtain rfl := Option.some.inj hm
    exact retV (rs := [.tmp 2]) (vs := [.int .i64 s2]) hF rfl (rv_t (by kernel_rfl) <| rv_nil) rfl ⟨rfl, hS⟩
  · refine reg [] [] [0, 3, 4] [pl 0 (.slice A1 l1.length c1), pl 3 (.int .i64 1), pl 4 (.int .i64 0)] hF hS Fol (by kernel_rfl) (by kernel_rfl) (by kernel_rfl) ?_ (fun a w hF hS => ?_)
    · exact obs_nil
    refine wp_block ?_
    refine wp_loop_model (S := (Int × Int)) (R := Int) (gameroomref_SignOf_L1 l1) (fun x => (gameroomref_SignOf_K1 x).bind some) r (fun (x : (Int × Int)) a w => Fr 29 [pl 0 (.slice A1 l1.length c1), pl 3 (.int .i64 x.1), pl 4 (.int .i64 x.2)] a ∧ Sep w0 B w (fs)) (assoc_b hm) ⟨hF.weak [0, 3, 4] (by kernel_rfl), hS⟩ ?_
    clear hF hS hm
    rintro nn1 ⟨s1, i1⟩ a w ⟨hF, hS⟩ hm
    generalize hφ1 : stK (gameroomref_SignOf_L1 l1) nn1 (fun x => (gameroomref_SignOf_K1 x).bind some) = φ1 at hm
    unfold gameroomref_SignOf_L1 at hm
    dsimp only at hF hS hm
    refine seq_cut (fun a w => Fr 29 [pl 0 (.slice A1 l1.length c1), pl 3 (.int .i64 s1), pl 4 (.int .i64 i1)] a ∧ Sep w0 B w (fs) ∧ ((gameroomref_SignOf_J2 l1 s1 i1)).bind φ1 = some r) ?_ ?_
    · rintro a w ⟨hF, hS, hm⟩
      unfold gameroomref_SignOf_J2 at hm
      refine seq_cut (fun a w => ∃ (s4 : Int), Fr 29 [pl 0 (.slice A1 l1.length c1), pl 3 (.int .i64 s4), pl 4 (.int .i64 i1)] a ∧ Sep w0 B w (fs) ∧ ((gameroomref_SignOf_J3 i1) s4).bind φ1 = some r) ?_ ?_
      · rintro a w ⟨s4, hF, hS, hm⟩
        unfold gameroomref_SignOf_J3 at hm
        refine reg1 [] [] [0, 3, 4] [pl 0 (.slice A1 l1.length c1), pl 3 (.int .i64 s4), pl 4 (.int .i64 (w64 (i1 + 1)))] hF hS Fol (by kernel_rfl) (by kernel_rfl) (by kernel_rfl) ?_ (fun a w hF hS => ?_)
        · exact obs_nil
        refine then_n ?_
        rw [← hφ1] at hm
        exact ⟨(s4, (w64 (i1 + 1))), ⟨hF.weak [0, 3, 4] (by kernel_rfl), hS⟩, hm⟩
      · refine wp_block ?_
        refine reg [] [] [0, 3, 4, 5] [pl 0 (.slice A1 l1.length c1), pl 3 (.int .i64 s1), pl 4 (.int .i64 i1), pl 5 (.int .i64 0)] hF hS Fol (by kernel_rfl) (by kernel_rfl) (by kernel_rfl) ?_ (fun a w hF hS => ?_)
        · exact obs_nil
        refine wp_block ?_
        refine wp_loop_model (S := (Int × Int)) (R := Int) (gameroomref_SignOf_L2 l1 i1) (fun x => ((gameroomref_SignOf_K2 i1) x).bind φ1) r (fun (x : (Int × Int)) a w => Fr 29 [pl 0 (.slice A1 l1.length c1), pl 3 (.int .i64 x.1), pl 4 (.int .i64 i1), pl 5 (.int .i64 x.2)] a ∧ Sep w0 B w (fs)) (assoc_b hm) ⟨hF.weak [0, 3, 4, 5] (by kernel_rfl), hS⟩ ?_
        clear hF hS hm
        rintro nn2 ⟨s3, k1⟩ a w ⟨hF, hS⟩ hm
        generalize hφ2 : stK (gameroomref_SignOf_L2 l1 i1) nn2 (fun x => ((gameroomref_SignOf_K2 i1) x).bind φ1) = φ2 at hm
        unfold gameroomref_SignOf_L2 at hm
        dsimp only at hF hS hm
        refine seq_cut (fun a w => Fr 29 [pl 0 (.slice A1 l1.length c1), pl 3 (.int .i64 s3), pl 4 (.int .i64 i1), pl 5 (.int .i64 k1)] a ∧ Sep w0 B w (fs) ∧ ((gameroomref_SignOf_J4 l1 i1 s3 k1)).bind φ2 = some r) ?_ ?_
        · rintro a w ⟨hF, hS, hm⟩
          unfold gameroomref_SignOf_J4 at hm
          refine seq_cut (fun a w => ∃ (s5 : Int), Fr 29 [pl 0 (.slice A1 l1.length c1), pl 3 (.int .i64 s5), pl 4 (.int .i64 i1), pl 5 (.int .i64 k1)] a ∧ Sep w0 B w (fs) ∧ ((gameroomref_SignOf_J5 k1) s5).bind φ2 = some r) ?_ ?_
          · rintro a w ⟨s5, hF, hS, hm⟩
            unfold gameroomref_SignOf_J5 at hm
            refine reg1 [] [] [0, 3, 4, 5] [pl 0 (.slice A1 l1.length c1), pl 3 (.int .i64 s5), pl 4 (.int .i64 i1), pl 5 (.int .i64 (w64 (k1 + 1)))] hF hS Fol (by kernel_rfl) (by kernel_rfl) (by kernel_rfl) ?_ (fun a w hF hS => ?_)
            · exact obs_nil
            refine then_n ?_
            rw [← hφ2] at hm
            exact ⟨(s5, (w64 (k1 + 1))), ⟨hF.weak [0, 3, 4, 5] (by kernel_rfl), hS⟩, hm⟩
          · refine wp_block ?_
            obtain ⟨hp1, hm⟩ := asrt_b hm
            obtain ⟨hp2, hm⟩ := asrt_b hm
            refine reg [⟨true, [], vS (Instr.indexAt 22 (.slice A1 l1.length c1) (.int .i64 k1)), .pointer (some (sAddr A1 k1))⟩, ⟨false, [], vS (Instr.loadAt 3 (.pointer (some (sAddr A1 k1)))), .int .i64 (geti l1 k1)⟩, ⟨true, [], vS (Instr.indexAt 22 (.slice A1 l1.length c1) (.int .i64 i1)), .pointer (some (sAddr A1 i1))⟩, ⟨false, [], vS (Instr.loadAt 3 (.pointer (some (sAddr A1 i1)))), .int .i64 (geti l1 i1)⟩] [none, none, some (.pointer (some (sAddr A1 k1))), some (.int .i64 (geti l1 k1)), none, none, some (.pointer (some (sAddr A1 i1))), some (.int .i64 (geti l1 i1)), none] [0, 3, 4, 5, 25] [pl 0 (.slice A1 l1.length c1), pl 3 (.int .i64 s3), pl 4 (.int .i64 i1), pl 5 (.int .i64 k1), pl 25 (.bool (decide ((geti l1 i1) < (geti l1 k1))))] hF hS Fol (by kernel_rfl) (by kernel_rfl) (by kernel_rfl) ?_ (fun a w hF hS => ?_)
            · exact obs_cons (ob_ix1 (f := (Value.int .i64)) (m := l1) Und22 hi3 hs3 (hr_l1 _ (hS.dropN 0)) rfl (fun _ => hp1)) <| obs_cons (ob_get1 (n := l1.length) (m := l1) (Value.int .i64) (0 : Int) Agg3 (fun _ hS => ⟨_, (hr_l1 _ (hS.dropN 0))⟩) (fun _ hS => rfl) (fun _ => hp1)) <| obs_cons (ob_ix1 (f := (Value.int .i64)) (m := l1) Und22 hi3 hs3 (hr_l1 _ (hS.dropN 0)) rfl (fun _ => hp2)) <| obs_cons (ob_get1 (n := l1.length) (m := l1) (Value.int .i64) (0 : Int) Agg3 (fun _ hS => ⟨_, (hr_l1 _ (hS.dropN 0))⟩) (fun _ hS => rfl) (fun _ => hp2)) <| obs_nil
            refine cond_ev (t := 25) (b := decide ((geti l1 i1) < (geti l1 k1))) hF (by kernel_rfl) (fun hb => ?_) (fun hb => ?_)
            · replace hm := if_t hm hb
              refine reg1 [] [] [0, 3, 4, 5] [pl 0 (.slice A1 l1.length c1), pl 3 (.int .i64 (w64 (0 - s3))), pl 4 (.int .i64 i1), pl 5 (.int .i64 k1)] hF hS Fol (by kernel_rfl) (by kernel_rfl) (by kernel_rfl) ?_ (fun a w hF hS => ?_)
              · exact obs_nil
              refine block_n ?_
              refine then_n ?_
              exact ⟨(w64 (0 - s3)), hF.weak [0, 3, 4, 5] (by kernel_rfl), hS, hm⟩
            · replace hm := if_f hm hb
              refine wp_skip ?_
              refine block_n ?_
              refine then_n ?_
              exact ⟨s3, hF.weak [0, 3, 4, 5] (by kernel_rfl), hS, hm⟩
        · refine reg [] [] [0, 3, 4, 5, 14] [pl 0 (.slice A1 l1.length c1), pl 3 (.int .i64 s3), pl 4 (.int .i64 i1), pl 5 (.int .i64 k1), pl 14 (.bool (decide (k1 < i1)))] hF hS Fol (by kernel_rfl) (by kernel_rfl) (by kernel_rfl) ?_ (fun a w hF hS => ?_)
          · exact obs_nil
          refine cond_ev (t := 14) (b := decide (k1 < i1)) hF (by kernel_rfl) (fun hb => ?_) (fun hb => ?_)
          · replace hm := if_t hm hb
            refine wp_skip ?_
            refine then_n ?_
            exact ⟨hF.weak [0, 3, 4, 5] (by kernel_rfl), hS, hm⟩
          · replace hm := if_f hm hb
            refine wp_exit ?_
            refine then_e (then_e (block_e (block_n (then_n ?_))))
            rw [← hφ2] at hm
            replace hm := done_b hm
            unfold gameroomref_SignOf_K2 at hm
            try dsimp only at hm
            have hm : ((gameroomref_SignOf_J3 i1) s3).bind φ1 = some r := hm
            exact ⟨s3, hF.weak [0, 3, 4] (by kernel_rfl), hS, hm⟩
    · refine reg [] [] [0, 3, 4, 9] [pl 0 (.slice A1 l1.length c1), pl 3 (.int .i64 s1), pl 4 (.int .i64 i1), pl 9 (.bool (decide (i1 < (l1.length : Int))))] hF hS Fol (by kernel_rfl) (by kernel_rfl) (by kernel_rfl) ?_ (fun a w hF hS => ?_)
      · exact obs_nil
      refine cond_ev (t := 9) (b := decide (i1 < (l1.length : Int))) hF (by kernel_rfl) (fun hb => ?_) (fun hb => ?_)
      · replace hm := if_t hm hb
        refine wp_skip ?_
        refine then_n ?_
        exact ⟨hF.weak [0, 3, 4] (by kernel_rfl), hS, hm⟩
      · replace hm := if_f hm hb
        refine wp_exit ?_
        refine then_e (then_e (block_e (then_n ?_)))
        rw [← hφ1] at hm
        replace hm := done_b hm
        unfold gameroomref_SignOf_K1 at hm
        try dsimp only at hm
        have hm : (gameroomref_SignOf_J1 s1).bind some = some r := hm
        exact ⟨s1, hF.weak [3] (by kernel_rfl), hS, hm⟩

noncomputable def gameroomref_factorial_J3 (f1 : Int) (i1 : Int) : Option (St (Int × Int) Int) :=
  some (.next ((w64 (f1 * i1)), (w64 (i1 + 1))))

noncomputable def gameroomref_factorial_J2 (f1 : Int) (i1 : Int) : Option (St (Int × Int) Int) :=
  (gameroomref_factorial_J3 f1 i1)

noncomputable def gameroomref_factorial_J1 (f2 : Int) : Option Int :=
  some f2

noncomputable def gameroomref_factorial_K1 : Int → Option Int :=
  fun (x : Int) => match x with | f2 => gameroomref_factorial_J1 f2

noncomputable def gameroomref_factorial_L1 (n1 : Int) : (Int × Int) → Option (St (Int × Int) Int) :=
  fun (x : (Int × Int)) => match x with | (f1, i1) => if (decide (i1 ≤ n1)) then ((gameroomref_factorial_J2 f1 i1)) else (some (.done f1))

noncomputable def gameroomref_factorial_m (n1 : Int) : Option Int :=
  (loop (gameroomref_factorial_L1 n1) (1, 2)).bind gameroomref_factorial_K1

set_option maxRecDepth 100000 in
set_option maxHeartbeats 4000000 in
theorem gameroomref_factorial_w {n1 : Int} {r : Int} {w0 w : World} {B : Nat} {fs : List HP} (hm : gameroomref_factorial_m n1 = some r) (hS : Sep w0 B w (fs)) :
    Calls Try.prog 88 #[.int .i64 n1] w fun e w' => e = .returned (.int .i64 r) ∧ Sep w0 B w' (fs) := by
  unfold gameroomref_factorial_m at hm
  replace hm := start_b hm
  refine enter (l := [.int .i64 n1]) (n := 14) Try.func88 rfl rfl (by simp) (fun a hF => ?_)
  refine reg [] [] [0] [pl 0 (.int .i64 n1)] hF hS Fol (by kernel_rfl) (by kernel_rfl) (by kernel_rfl) ?_ (fun a w hF hS => ?_)
  · exact obs_nil
  refine reg [] [] [0, 3] [pl 0 (.int .i64 n1), pl 3 (.int .i64 1)] hF hS Fol (by kernel_rfl) (by kernel_rfl) (by kernel_rfl) ?_ (fun a w hF hS => ?_)
  · exact obs_nil
  refine seq_cut (fun a w => ∃ (f2 : Int), Fr 14 [pl 3 (.int .i64 f2)] a ∧ Sep w0 B w (fs) ∧ (gameroomref_factorial_J1 f2).bind some = some r) ?_ ?_
  · rintro a w ⟨f2, hF, hS, hm⟩
    unfold gameroomref_factorial_J1 at hm
    refine reg [] [] [2] [pl 2 (.int .i64 f2)] hF hS Fol (by kernel_rfl) (by kernel_rfl) (by kernel_rfl) ?_ (fun a w hF hS => ?_)
    · exact obs_nil
    refine wp_ret ?_
    have hm : some f2 = some r := hm
    obtain rfl := Option.some.inj hm
    exact retV (rs := [.tmp 2]) (vs := [.int .i64 f2]) hF rfl (rv_t (by kernel_rfl) <| rv_nil) rfl ⟨rfl, hS⟩
  · refine reg [] [] [0, 3, 4] [pl 0 (.int .i64 n1), pl 3 (.int .i64 1), pl 4 (.int .i64 2)] hF hS Fol (by kernel_rfl) (by kernel_rfl) (by kernel_rfl) ?_ (fun a w hF hS => ?_)
    · exact obs_nil
    refine wp_block ?_
    refine wp_loop_model (S := (Int × Int)) (R := Int) (gameroomref_factorial_L1 n1) (fun x => (gameroomref_factorial_K1 x).bind some) r (fun (x : (Int × Int)) a w => Fr 14 [pl 0 (.int .i64 n1), pl 3 (.int .i64 x.1), pl 4 (.int .i64 x.2)] a ∧ Sep w0 B w (fs)) (assoc_b hm) ⟨hF.weak [0, 3, 4] (by kernel_rfl), hS⟩ ?_
    clear hF hS hm
    rintro nn1 ⟨f1, i1⟩ a w ⟨hF, hS⟩ hm
    generalize hφ1 : stK (gameroomref_factorial_L1 n1) nn1 (fun x => (gameroomref_factorial_K1 x).bind some) = φ1 at hm
    unfold gameroomref_factorial_L1 at hm
    dsimp only at hF hS hm
    refine seq_cut (fun a w => Fr 14 [pl 0 (.int .i64 n1), pl 3 (.int .i64 f1), pl 4 (.int .i64 i1)] a ∧ Sep w0 B w (fs) ∧ ((gameroomref_factorial_J2 f1 i1)).bind φ1 = some r) ?_ ?_
    · rintro a w ⟨hF, hS, hm⟩
      unfold gameroomref_factorial_J2 at hm
      refine seq_cut (fun a w => Fr 14 [pl 0 (.int .i64 n1), pl 3 (.int .i64 (w64 (f1 * i1))), pl 4 (.int .i64 i1)] a ∧ Sep w0 B w (fs) ∧ ((gameroomref_factorial_J3 f1 i1)).bind φ1 = some r) ?_ ?_
      · rintro a w ⟨hF, hS, hm⟩
        unfold gameroomref_factorial_J3 at hm
        refine reg1 [] [] [0, 3, 4] [pl 0 (.int .i64 n1), pl 3 (.int .i64 (w64 (f1 * i1))), pl 4 (.int .i64 (w64 (i1 + 1)))] hF hS Fol (by kernel_rfl) (by kernel_rfl) (by kernel_rfl) ?_ (fun a w hF hS => ?_)
        · exact obs_nil
        refine then_n ?_
        rw [← hφ1] at hm
        exact ⟨((w64 (f1 * i1)), (w64 (i1 + 1))), ⟨hF.weak [0, 3, 4] (by kernel_rfl), hS⟩, hm⟩
      · refine wp_block ?_
        refine reg1 [] [] [0, 3, 4] [pl 0 (.int .i64 n1), pl 3 (.int .i64 (w64 (f1 * i1))), pl 4 (.int .i64 i1)] hF hS Fol (by kernel_rfl) (by kernel_rfl) (by kernel_rfl) ?_ (fun a w hF hS => ?_)
        · exact obs_nil
        refine block_n ?_
        refine then_n ?_
        exact ⟨hF.weak [0, 3, 4] (by kernel_rfl), hS, hm⟩
    · refine reg [] [] [0, 3, 4, 7] [pl 0 (.int .i64 n1), pl 3 (.int .i64 f1), pl 4 (.int .i64 i1), pl 7 (.bool (decide (i1 ≤ n1)))] hF hS Fol (by kernel_rfl) (by kernel_rfl) (by kernel_rfl) ?_ (fun a w hF hS => ?_)
      · exact obs_nil
      refine cond_ev (t := 7) (b := decide (i1 ≤ n1)) hF (by kernel_rfl) (fun hb => ?_) (fun hb => ?_)
      · replace hm := if_t hm hb
        refine wp_skip ?_
        refine then_n ?_
        exact ⟨hF.weak [0, 3, 4] (by kernel_rfl), hS, hm⟩
      · replace hm := if_f hm hb
        refine wp_exit ?_
        refine then_e (then_e (block_e (then_n ?_)))
        rw [← hφ1] at hm
        replace hm := done_b hm
        unfold gameroomref_factorial_K1 at hm
        try dsimp only at hm
        have hm : (gameroomref_factorial_J1 f1).bind some = some r := hm
        exact ⟨f1, hF.weak [3] (by kernel_rfl), hS, hm⟩

noncomputable def gameroomref_NumberOf_J6 (j1 : Int) (less3 : Int) : Option (St (Int × Int) Int) :=
  some (.next (less3, (w64 (j1 + 1))))

noncomputable def gameroomref_NumberOf_J5 (l1 : List Int) (i1 : Int) (less1 : Int) (j1 : Int) : Option (St (Int × Int) Int) :=
  asrt (0 ≤ j1 ∧ j1 < (l1.length : Int)) <| asrt (0 ≤ i1 ∧ i1 < (l1.length : Int)) <| if (decide ((geti l1 j1) < (geti l1 i1))) then ((gameroomref_NumberOf_J6 j1) (w64 (less1 + 1))) else ((gameroomref_NumberOf_J6 j1) less1)

noncomputable def gameroomref_NumberOf_J3 (i1 : Int) (k3 : Int) : Option (St (Int × Int) Int) :=
  some (.next (k3, (w64 (i1 + 1))))

noncomputable def gameroomref_NumberOf_J4 (l1 : List Int) (k1 : Int) (i1 : Int) (less2 : Int) : Option (St (Int × Int) Int) :=
  (gameroomref_factorial_m (w64 ((w64 ((l1.length : Int) - 1)) - i1))).bind fun r1 => (gameroomref_NumberOf_J3 i1) (w64 (k1 + (w64 (less2 * r1))))

noncomputable def gameroomref_NumberOf_K2 (l1 : List Int) (k1 : Int) (i1 : Int) : Int → Option (St (Int × Int) Int) :=
  fun (x : Int) => match x with | less2 => (gameroomref_NumberOf_J4 l1 k1 i1) less2

noncomputable def gameroomref_NumberOf_L2 (l1 : List Int) (i1 : Int) : (Int × Int) → Option (St (Int × Int) Int) :=
  fun (x : (Int × Int)) => match x with | (less1, j1) => if (decide (j1 < (l1.length : Int))) then ((gameroomref_NumberOf_J5 l1 i1 less1 j1)) else (some (.done less1))

noncomputable def gameroomref_NumberOf_J2 (l1 : List Int) (k1 : Int) (i1 : Int) : Option (St (Int × Int) Int) :=
  (loop (gameroomref_NumberOf_L2 l1 i1) (0, (w64 (i1 + 1)))).bind (gameroomref_NumberOf_K2 l1 k1 i1)

noncomputable def gameroomref_NumberOf_J1 (k2 : Int) : Option Int :=
  some k2

noncomputable def gameroomref_NumberOf_K1 : Int → Option Int :=
  fun (x : Int) => match x with | k2 => gameroomref_NumberOf_J1 k2

noncomputable def gameroomref_NumberOf_L1 (l1 : List Int) : (Int × Int) → Option (St (Int × Int) Int) :=
  fun (x : (Int × Int)) => match x with | (k1, i1) => if (decide (i1 < (l1.length : Int))) then ((gameroomref_NumberOf_J2 l1 k1 i1)) else (some (.done k1))

noncomputable def gameroomref_NumberOf_m (l1 : List Int) : Option Int :=
  (loop (gameroomref_NumberOf_L1 l1) (0, 0)).bind gameroomref_NumberOf_K1

set_option maxRecDepth 100000 in
set_option maxHeartbeats 4000000 in
theorem gameroomref_NumberOf_w {A1 : Option Addr} {c1 : Nat} {n1 : Nat} {l1 : List Int} {r : Int} {w0 w : World} {B : Nat} {fs : List HP} (hm : gameroomref_NumberOf_m l1 = some r) (hS : Sep w0 B w (fs)) (hr_l1 : RdF w0 B fs A1 (vI l1)) (_hc_l1 : l1.length ≤ c1) (_hn_l1 : n1 = l1.length) :
    Calls Try.prog 21 #[.slice A1 n1 c1] w fun e w' => e = .returned (.int .i64 r) ∧ Sep w0 B w' (fs) := by
  obtain ⟨i3, hi3, hz3, hs3, hb3⟩ := info_parts Info3
  obtain rfl := _hn_l1
  unfold gameroomref_NumberOf_m at hm
  replace hm := start_b hm
  refine enter (l := [.slice A1 l1.length c1]) (n := 43) Try.func21 rfl rfl (by simp) (fun a hF => ?_)
  refine reg [] [] [0] [pl 0 (.slice A1 l1.length c1)] hF hS Fol (by kernel_rfl) (by kernel_rfl) (by kernel_rfl) ?_ (fun a w hF hS => ?_)
  · exact obs_nil
  refine reg [] [] [0, 3] [pl 0 (.slice A1 l1.length c1), pl 3 (.int .i64 0)] hF hS Fol (by kernel_rfl) (by kernel_rfl) (by kernel_rfl) ?_ (fun a w hF hS => ?_)
  · exact obs_nil
  refine seq_cut (fun a w => ∃ (k2 : Int), Fr 43 [pl 3 (.int .i64 k2)] a ∧ Sep w0 B w (fs) ∧ (gameroomref_NumberOf_J1 k2).bind some = some r) ?_ ?_
  · rintro a w ⟨k2, hF, hS, hm⟩
    unfold gameroomref_NumberOf_J1 at hm
    refine reg [] [] [2] [pl 2 (.int .i64 k2)] hF hS Fol (by kernel_rfl) (by kernel_rfl) (by kernel_rfl) ?_ (fun a w hF hS => ?_)
    · exact obs_nil
    refine wp_ret ?_
    have hm : some k2 = some r := hm
    obtain rfl := Option.some.inj hm
    exact retV (rs := [.tmp 2]) (vs := [.int .i64 k2]) hF rfl (rv_t (by kernel_rfl) <| rv_nil) rfl ⟨rfl, hS⟩
  · refine reg [] [] [0, 3, 4] [pl 0 (.slice A1 l1.length c1), pl 3 (.int .i64 0), pl 4 (.int .i64 0)] hF hS Fol (by kernel_rfl) (by kernel_rfl) (by kernel_rfl) ?_ (fun a w hF hS => ?_)
    · exact obs_nil
    refine wp_block ?_
    refine wp_loop_model (S := (Int × Int)) (R := Int) (gameroomref_NumberOf_L1 l1) (fun x => (gameroomref_NumberOf_K1 x).bind some) r (fun (x : (Int × Int)) a w => Fr 43 [pl 0 (.slice A1 l1.length c1), pl 3 (.int .i64 x.1), pl 4 (.int .i64 x.2)] a ∧ Sep w0 B w (fs)) (assoc_b hm) ⟨hF.weak [0, 3, 4] (by kernel_rfl), hS⟩ ?_
    clear hF hS hm
    rintro nn1 ⟨k1, i1⟩ a w ⟨hF, hS⟩ hm
    generalize hφ1 : stK (gameroomref_NumberOf_L1 l1) nn1 (fun x => (gameroomref_NumberOf_K1 x).bind some) = φ1 at hm
    unfold gameroomref_NumberOf_L1 at hm
    dsimp only at hF hS hm
    refine seq_cut (fun a w => Fr 43 [pl 0 (.slice A1 l1.length c1), pl 3 (.int .i64 k1), pl 4 (.int .i64 i1)] a ∧ Sep w0 B w (fs) ∧ ((gameroomref_NumberOf_J2 l1 k1 i1)).bind φ1 = some r) ?_ ?_
    · rintro a w ⟨hF, hS, hm⟩
      unfold gameroomref_NumberOf_J2 at hm
      refine seq_cut (fun a w => ∃ (k3 : Int), Fr 43 [pl 0 (.slice A1 l1.length c1), pl 3 (.int .i64 k3), pl 4 (.int .i64 i1)] a ∧ Sep w0 B w (fs) ∧ ((gameroomref_NumberOf_J3 i1) k3).bind φ1 = some r) ?_ ?_
      · rintro a w ⟨k3, hF, hS, hm⟩
        unfold gameroomref_NumberOf_J3 at hm
        refine reg1 [] [] [0, 3, 4] [pl 0 (.slice A1 l1.length c1), pl 3 (.int .i64 k3), pl 4 (.int .i64 (w64 (i1 + 1)))] hF hS Fol (by kernel_rfl) (by kernel_rfl) (by kernel_rfl) ?_ (fun a w hF hS => ?_)
        · exact obs_nil
        refine then_n ?_
        rw [← hφ1] at hm
        exact ⟨(k3, (w64 (i1 + 1))), ⟨hF.weak [0, 3, 4] (by kernel_rfl), hS⟩, hm⟩
      · refine wp_block ?_
        refine reg [] [] [0, 3, 4, 5] [pl 0 (.slice A1 l1.length c1), pl 3 (.int .i64 k1), pl 4 (.int .i64 i1), pl 5 (.int .i64 0)] hF hS Fol (by kernel_rfl) (by kernel_rfl) (by kernel_rfl) ?_ (fun a w hF hS => ?_)
        · exact obs_nil
        refine seq_cut (fun a w => ∃ (less2 : Int), Fr 43 [pl 0 (.slice A1 l1.length c1), pl 3 (.int .i64 k1), pl 4 (.int .i64 i1), pl 5 (.int .i64 less2)] a ∧ Sep w0 B w (fs) ∧ ((gameroomref_NumberOf_J4 l1 k1 i1) less2).bind φ1 = some r) ?_ ?_
        · rintro a w ⟨less2, hF, hS, hm⟩
          unfold gameroomref_NumberOf_J4 at hm
          obtain ⟨r1, hr1, hm⟩ := call_b hm
          refine reg1 [⟨false, [], callFunc 88 #[.int .i64 (w64 ((w64 ((l1.length : Int) - 1)) - i1))], .int .i64 r1⟩] [none, none, none, none, none, none, none, some (.int .i64 r1), none, none, none] [0, 3, 4] [pl 0 (.slice A1 l1.length c1), pl 3 (.int .i64 (w64 (k1 + (w64 (less2 * r1))))), pl 4 (.int .i64 i1)] hF hS Fol (by kernel_rfl) (by kernel_rfl) (by kernel_rfl) ?_ (fun a w hF hS => ?_)
          · exact obs_cons (ob_call Try.func88 (by kernel_rfl) rfl (fun _ _ hS => gameroomref_factorial_w hr1 hS )) <| obs_nil
          refine block_n ?_
          refine then_n ?_
          exact ⟨(w64 (k1 + (w64 (less2 * r1)))), hF.weak [0, 3, 4] (by kernel_rfl), hS, hm⟩
        · refine reg [] [] [0, 3, 4, 5, 6] [pl 0 (.slice A1 l1.length c1), pl 3 (.int .i64 k1), pl 4 (.int .i64 i1), pl 5 (.int .i64 0), pl 6 (.int .i64 (w64 (i1 + 1)))] hF hS Fol (by kernel_rfl) (by kernel_rfl) (by kernel_rfl) ?_ (fun a w hF hS => ?_)
          · exact obs_nil
          refine wp_block ?_
          refine wp_loop_model (S := (Int × Int)) (R := Int) (gameroomref_NumberOf_L2 l1 i1) (fun x => ((gameroomref_NumberOf_K2 l1 k1 i1) x).bind φ1) r (fun (x : (Int × Int)) a w => Fr 43 [pl 0 (.slice A1 l1.length c1), pl 3 (.int .i64 k1), pl 4 (.int .i64 i1), pl 5 (.int .i64 x.1), pl 6 (.int .i64 x.2)] a ∧ Sep w0 B w (fs)) (assoc_b hm) ⟨hF.weak [0, 3, 4, 5, 6] (by kernel_rfl), hS⟩ ?_
          clear hF hS hm
          rintro nn2 ⟨less1, j1⟩ a w ⟨hF, hS⟩ hm
          generalize hφ2 : stK (gameroomref_NumberOf_L2 l1 i1) nn2 (fun x => ((gameroomref_NumberOf_K2 l1 k1 i1) x).bind φ1) = φ2 at hm
          unfold gameroomref_NumberOf_L2 at hm
          dsimp only at hF hS hm
          refine seq_cut (fun a w => Fr 43 [pl 0 (.slice A1 l1.length c1), pl 3 (.int .i64 k1), pl 4 (.int .i64 i1), pl 5 (.int .i64 less1), pl 6 (.int .i64 j1)] a ∧ Sep w0 B w (fs) ∧ ((gameroomref_NumberOf_J5 l1 i1 less1 j1)).bind φ2 = some r) ?_ ?_
          · rintro a w ⟨hF, hS, hm⟩
            unfold gameroomref_NumberOf_J5 at hm
            refine seq_cut (fun a w => ∃ (less3 : Int), Fr 43 [pl 0 (.slice A1 l1.length c1), pl 3 (.int .i64 k1), pl 4 (.int .i64 i1), pl 5 (.int .i64 less3), pl 6 (.int .i64 j1)] a ∧ Sep w0 B w (fs) ∧ ((gameroomref_NumberOf_J6 j1) less3).bind φ2 = some r) ?_ ?_
            · rintro a w ⟨less3, hF, hS, hm⟩
              unfold gameroomref_NumberOf_J6 at hm
              refine reg1 [] [] [0, 3, 4, 5, 6] [pl 0 (.slice A1 l1.length c1), pl 3 (.int .i64 k1), pl 4 (.int .i64 i1), pl 5 (.int .i64 less3), pl 6 (.int .i64 (w64 (j1 + 1)))] hF hS Fol (by kernel_rfl) (by kernel_rfl) (by kernel_rfl) ?_ (fun a w hF hS => ?_)
              · exact obs_nil
              refine then_n ?_
              rw [← hφ2] at hm
              exact ⟨(less3, (w64 (j1 + 1))), ⟨hF.weak [0, 3, 4, 5, 6] (by kernel_rfl), hS⟩, hm⟩
            · refine wp_block ?_
              obtain ⟨hp1, hm⟩ := asrt_b hm
              obtain ⟨hp2, hm⟩ := asrt_b hm
              refine reg [⟨true, [], vS (Instr.indexAt 22 (.slice A1 l1.length c1) (.int .i64 j1)), .pointer (some (sAddr A1 j1))⟩, ⟨false, [], vS (Instr.loadAt 3 (.pointer (some (sAddr A1 j1)))), .int .i64 (geti l1 j1)⟩, ⟨true, [], vS (Instr.indexAt 22 (.slice A1 l1.length c1) (.int .i64 i1)), .pointer (some (sAddr A1 i1))⟩, ⟨false, [], vS (Instr.loadAt 3 (.pointer (some (sAddr A1 i1)))), .int .i64 (geti l1 i1)⟩] [none, none, some (.pointer (some (sAddr A1 j1))), some (.int .i64 (geti l1 j1)), none, none, some (.pointer (some (sAddr A1 i1))), some (.int .i64 (geti l1 i1)), none] [0, 3, 4, 5, 6, 29] [pl 0 (.slice A1 l1.length c1), pl 3 (.int .i64 k1), pl 4 (.int .i64 i1), pl 5 (.int .i64 less1), pl 6 (.int .i64 j1), pl 29 (.bool (decide ((geti l1 j1) < (geti l1 i1))))] hF hS Fol (by kernel_rfl) (by kernel_rfl) (by kernel_rfl) ?_ (fun a w hF hS => ?_)
              · exact obs_cons (ob_ix1 (f := (Value.int .i64)) (m := l1) Und22 hi3 hs3 (hr_l1 _ (hS.dropN 0)) rfl (fun _ => hp1)) <| obs_cons (ob_get1 (n := l1.length) (m := l1) (Value.int .i64) (0 : Int) Agg3 (fun _ hS => ⟨_, (hr_l1 _ (hS.dropN 0))⟩) (fun _ hS => rfl) (fun _ => hp1)) <| obs_cons (ob_ix1 (f := (Value.int .i64)) (m := l1) Und22 hi3 hs3 (hr_l1 _ (hS.dropN 0)) rfl (fun _ => hp2)) <| obs_cons (ob_get1 (n := l1.length) (m := l1) (Value.int .i64) (0 : Int) Agg3 (fun _ hS => ⟨_, (hr_l1 _ (hS.dropN 0))⟩) (fun _ hS => rfl) (fun _ => hp2)) <| obs_nil
              refine cond_ev (t := 29) (b := decide ((geti l1 j1) < (geti l1 i1))) hF (by kernel_rfl) (fun hb => ?_) (fun hb => ?_)
              · replace hm := if_t hm hb
                refine reg1 [] [] [0, 3, 4, 5, 6] [pl 0 (.slice A1 l1.length c1), pl 3 (.int .i64 k1), pl 4 (.int .i64 i1), pl 5 (.int .i64 (w64 (less1 + 1))), pl 6 (.int .i64 j1)] hF hS Fol (by kernel_rfl) (by kernel_rfl) (by kernel_rfl) ?_ (fun a w hF hS => ?_)
                · exact obs_nil
                refine block_n ?_
                refine then_n ?_
                exact ⟨(w64 (less1 + 1)), hF.weak [0, 3, 4, 5, 6] (by kernel_rfl), hS, hm⟩
              · replace hm := if_f hm hb
                refine wp_skip ?_
                refine block_n ?_
                refine then_n ?_
                exact ⟨less1, hF.weak [0, 3, 4, 5, 6] (by kernel_rfl), hS, hm⟩
          · refine reg [] [] [0, 3, 4, 5, 6, 18] [pl 0 (.slice A1 l1.length c1), pl 3 (.int .i64 k1), pl 4 (.int .i64 i1), pl 5 (.int .i64 less1), pl 6 (.int .i64 j1), pl 18 (.bool (decide (j1 < (l1.length : Int))))] hF hS Fol (by kernel_rfl) (by kernel_rfl) (by kernel_rfl) ?_ (fun a w hF hS => ?_)
            · exact obs_nil
            refine cond_ev (t := 18) (b := decide (j1 < (l1.length : Int))) hF (by kernel_rfl) (fun hb => ?_) (fun hb => ?_)
            · replace hm := if_t hm hb
              refine wp_skip ?_
              refine then_n ?_
              exact ⟨hF.weak [0, 3, 4, 5, 6] (by kernel_rfl), hS, hm⟩
            · replace hm := if_f hm hb
              refine wp_exit ?_
              refine then_e (then_e (block_e (then_n ?_)))
              rw [← hφ2] at hm
              replace hm := done_b hm
              unfold gameroomref_NumberOf_K2 at hm
              try dsimp only at hm
              have hm : ((gameroomref_NumberOf_J4 l1 k1 i1) less1).bind φ1 = some r := hm
              exact ⟨less1, hF.weak [0, 3, 4, 5] (by kernel_rfl), hS, hm⟩
    · refine reg [] [] [0, 3, 4, 10] [pl 0 (.slice A1 l1.length c1), pl 3 (.int .i64 k1), pl 4 (.int .i64 i1), pl 10 (.bool (decide (i1 < (l1.length : Int))))] hF hS Fol (by kernel_rfl) (by kernel_rfl) (by kernel_rfl) ?_ (fun a w hF hS => ?_)
      · exact obs_nil
      refine cond_ev (t := 10) (b := decide (i1 < (l1.length : Int))) hF (by kernel_rfl) (fun hb => ?_) (fun hb => ?_)
      · replace hm := if_t hm hb
        refine wp_skip ?_
        refine then_n ?_
        exact ⟨hF.weak [0, 3, 4] (by kernel_rfl), hS, hm⟩
      · replace hm := if_f hm hb
        refine wp_exit ?_
        refine then_e (then_e (block_e (then_n ?_)))
        rw [← hφ1] at hm
        replace hm := done_b hm
        unfold gameroomref_NumberOf_K1 at hm
        try dsimp only at hm
        have hm : (gameroomref_NumberOf_J1 k1).bind some = some r := hm
        exact ⟨k1, hF.weak [3] (by kernel_rfl), hS, hm⟩

noncomputable def gameroomref_NthOf_J4 (x1 : Int) (skip2 : Int) : Option (St (Int × Int) (Int × List Int)) :=
  some (.next (skip2, (w64 (x1 + 1))))

noncomputable def gameroomref_NthOf_J6 (skip1 : Int) (x1 : Int) : Option (St (Int × Int) (Int × List Int)) :=
  (gameroomref_NthOf_J4 x1) (w64 (skip1 - 1))

noncomputable def gameroomref_NthOf_J5 (k2 : Int) (l1 : List Int) (r1 : Int) (skip1 : Int) (x1 : Int) : Option (St (Int × Int) (Int × List Int)) :=
  if (skip1 == 0) then (asrt ((l1.length : Int) + 1 ≤ bigN) <| some (.done ((Int.tmod k2 r1), (l1 ++ ([x1] : List Int))))) else ((gameroomref_NthOf_J6 skip1 x1))

noncomputable def gameroomref_NthOf_J3 (k2 : Int) (l1 : List Int) (r1 : Int) (skip1 : Int) (x1 : Int) : Option (St (Int × Int) (Int × List Int)) :=
  (gameroomref_at_m l1 x1).bind fun r2 => if (decide ((0 : Int) ≤ r2)) then ((gameroomref_NthOf_J4 x1) skip1) else ((gameroomref_NthOf_J5 k2 l1 r1 skip1 x1))

noncomputable def gameroomref_NthOf_K2 : (Int × List Int) → Option (St (Int × List Int) (List Int)) :=
  fun (x : (Int × List Int)) => match x with | (k2, l1) => some (.next (k2, l1))

noncomputable def gameroomref_NthOf_L2 (n1 : Int) (k2 : Int) (l1 : List Int) (r1 : Int) : (Int × Int) → Option (St (Int × Int) (Int × List Int)) :=
  fun (x : (Int × Int)) => match x with | (skip1, x1) => if (decide (x1 < n1)) then ((gameroomref_NthOf_J3 k2 l1 r1 skip1 x1)) else (some (.done ((Int.tmod k2 r1), l1)))

noncomputable def gameroomref_NthOf_J2 (n1 : Int) (k2 : Int) (l1 : List Int) : Option (St (Int × List Int) (List Int)) :=
  (gameroomref_factorial_m (w64 ((w64 (n1 - 1)) - (l1.length : Int)))).bind fun r1 => asrt (r1 ≠ (0 : Int)) <| asrt (r1 ≠ (0 : Int)) <| (loop (gameroomref_NthOf_L2 n1 k2 l1 r1) ((w64 (Int.tdiv k2 r1)), 0)).bind gameroomref_NthOf_K2

noncomputable def gameroomref_NthOf_J1 (l2 : List Int) : Option (List Int) :=
  some l2

noncomputable def gameroomref_NthOf_K1 : (List Int) → Option (List Int) :=
  fun (x : (List Int)) => match x with | l2 => gameroomref_NthOf_J1 l2

noncomputable def gameroomref_NthOf_L1 (n1 : Int) : (Int × List Int) → Option (St (Int × List Int) (List Int)) :=
  fun (x : (Int × List Int)) => match x with | (k2, l1) => if (decide ((l1.length : Int) < n1)) then ((gameroomref_NthOf_J2 n1 k2 l1)) else (some (.done l1))

noncomputable def gameroomref_NthOf_m (n1 : Int) (k1 : Int) : Option (List Int) :=
  (loop (gameroomref_NthOf_L1 n1) (k1, ([] : List Int))).bind gameroomref_NthOf_K1

set_option maxRecDepth 100000 in
set_option maxHeartbeats 4000000 in
theorem gameroomref_NthOf_w {n1 : Int} {k1 : Int} {r : (List Int)} {w0 w : World} {B : Nat} {fs : List HP} (hm : gameroomref_NthOf_m n1 k1 = some r) (hS : Sep w0 B w (fs)) :
    Calls Try.prog 23 #[.int .i64 n1, .int .i64 k1] w fun e w' => ∃ v, e = .returned v ∧ ∃ (A4 : Option Addr) (c4 : Nat), v = .slice A4 r.length c4 ∧ Sep w0 B w' (own 3 (.slice A4 r.length c4) (vI r) :: fs) := by
  obtain ⟨i3, hi3, hz3, hs3, hb3⟩ := info_parts Info3
  unfold gameroomref_NthOf_m at hm
  replace hm := start_b hm
  refine enter (l := [.int .i64 n1, .int .i64 k1]) (n := 43) Try.func23 rfl rfl (by simp) (fun a hF => ?_)
  refine reg [] [] [0, 1] [pl 0 (.int .i64 n1), pl 1 (.int .i64 k1)] hF hS Fol (by kernel_rfl) (by kernel_rfl) (by kernel_rfl) ?_ (fun a w hF hS => ?_)
  · exact obs_nil
  refine reg [] [] [0, 1, 5] [pl 0 (.int .i64 n1), pl 1 (.int .i64 k1), pl 5 (.slice none 0 0)] hF hS Fol (by kernel_rfl) (by kernel_rfl) (by kernel_rfl) ?_ (fun a w hF hS => ?_)
  · exact obs_nil
  refine seq_cut (fun a w => ∃ (l2 : List Int) (A2 : Option Addr) (c2 : Nat), Fr 43 [pl 5 (.slice A2 l2.length c2)] a ∧ Sep w0 B w (own 3 (.slice A2 l2.length c2) (vI l2) :: fs) ∧ (gameroomref_NthOf_J1 l2).bind some = some r) ?_ ?_
  · rintro a w ⟨l2, A2, c2, hF, hS, hm⟩
    unfold gameroomref_NthOf_J1 at hm
    refine reg [] [] [4] [pl 4 (.slice A2 l2.length c2)] hF hS Fol (by kernel_rfl) (by kernel_rfl) (by kernel_rfl) ?_ (fun a w hF hS => ?_)
    · exact obs_nil
    refine wp_ret ?_
    have hm : some l2 = some r := hm
    obtain rfl := Option.some.inj hm
    exact retV (rs := [.tmp 4]) (vs := [.slice A2 l2.length c2]) hF rfl (rv_t (by kernel_rfl) <| rv_nil) rfl ⟨_, rfl, A2, c2, rfl, hS⟩
  · refine wp_block ?_
    have hS : Sep w0 B w (own 3 (.slice none 0 0) (vI ([] : List Int)) :: fs) := hS.nil 3
    have hl1 := (hS.at_ 0 rfl).len1
    have hS := (hS.at_ 0 rfl).reN hl1
    have hS : Sep w0 B w (own 3 (.slice none (([] : List Int).length) 0) (vI ([] : List Int)) :: fs) := hS
    have hF := hF.cast (t := 5) (v := .slice none 0 0) (v' := .slice none (([] : List Int).length) 0) rfl rfl (congrArg (fun k => Value.slice none k 0) hl1)
    refine wp_loop_model (S := (Int × List Int)) (R := (List Int)) (gameroomref_NthOf_L1 n1) (fun x => (gameroomref_NthOf_K1 x).bind some) r (fun (x : (Int × List Int)) a w => ∃ (A1 : Option Addr) (c1 : Nat), Fr 43 [pl 0 (.int .i64 n1), pl 1 (.int .i64 x.1), pl 5 (.slice A1 x.2.length c1)] a ∧ Sep w0 B w (own 3 (.slice A1 x.2.length c1) (vI x.2) :: fs)) (assoc_b hm) ⟨none, 0, hF.weak [0, 1, 5] (by kernel_rfl), hS⟩ ?_
    clear hF hS hm
    rintro nn1 ⟨k2, l1⟩ a w ⟨A1, c1, hF, hS⟩ hm
    generalize hφ1 : stK (gameroomref_NthOf_L1 n1) nn1 (fun x => (gameroomref_NthOf_K1 x).bind some) = φ1 at hm
    unfold gameroomref_NthOf_L1 at hm
    dsimp only at hF hS hm
    refine seq_cut (fun a w => Fr 43 [pl 0 (.int .i64 n1), pl 1 (.int .i64 k2), pl 5 (.slice A1 l1.length c1)] a ∧ Sep w0 B w (own 3 (.slice A1 l1.length c1) (vI l1) :: fs) ∧ ((gameroomref_NthOf_J2 n1 k2 l1)).bind φ1 = some r) ?_ ?_
    · rintro a w ⟨hF, hS, hm⟩
      unfold gameroomref_NthOf_J2 at hm
      refine wp_block ?_
      obtain ⟨r1, hr1, hm⟩ := call_b hm
      refine reg [⟨false, [], callFunc 88 #[.int .i64 (w64 ((w64 (n1 - 1)) - (l1.length : Int)))], .int .i64 r1⟩] [none, none, none, none, none, some (.int .i64 r1), none] [0, 1, 5, 6] [pl 0 (.int .i64 n1), pl 1 (.int .i64 k2), pl 5 (.slice A1 l1.length c1), pl 6 (.int .i64 r1)] hF hS Fol (by kernel_rfl) (by kernel_rfl) (by kernel_rfl) ?_ (fun a w hF hS => ?_)
      · exact obs_cons (ob_call Try.func88 (by kernel_rfl) rfl (fun _ _ hS => gameroomref_factorial_w hr1 hS )) <| obs_nil
      obtain ⟨hp1, hm⟩ := asrt_b hm
      refine reg [⟨true, [], vS (Op.intDiv .quo .i64 k2 r1), .int .i64 (w64 (Int.tdiv k2 r1))⟩] [none, none, some (.int .i64 (w64 (Int.tdiv k2 r1))), none] [0, 1, 5, 6, 7] [pl 0 (.int .i64 n1), pl 1 (.int .i64 k2), pl 5 (.slice A1 l1.length c1), pl 6 (.int .i64 r1), pl 7 (.int .i64 (w64 (Int.tdiv k2 r1)))] hF hS Fol (by kernel_rfl) (by kernel_rfl) (by kernel_rfl) ?_ (fun a w hF hS => ?_)
      · exact obs_cons (ob_quo rfl (fun _ => hp1)) <| obs_nil
      obtain ⟨hp2, hm⟩ := asrt_b hm
      refine reg [⟨true, [], vS (Op.intDiv .rem .i64 k2 r1), .int .i64 (Int.tmod k2 r1)⟩] [none, none, some (.int .i64 (Int.tmod k2 r1)), none] [0, 1, 5, 7] [pl 0 (.int .i64 n1), pl 1 (.int .i64 (Int.tmod k2 r1)), pl 5 (.slice A1 l1.length c1), pl 7 (.int .i64 (w64 (Int.tdiv k2 r1)))] hF hS Fol (by kernel_rfl) (by kernel_rfl) (by kernel_rfl) ?_ (fun a w hF hS => ?_)
      · exact obs_cons (ob_rem rfl (fun _ => hp2)) <| obs_nil
      refine reg [] [] [0, 1, 5, 7, 8] [pl 0 (.int .i64 n1), pl 1 (.int .i64 (Int.tmod k2 r1)), pl 5 (.slice A1 l1.length c1), pl 7 (.int .i64 (w64 (Int.tdiv k2 r1))), pl 8 (.int .i64 0)] hF hS Fol (by kernel_rfl) (by kernel_rfl) (by kernel_rfl) ?_ (fun a w hF hS => ?_)
      · exact obs_nil
      refine wp_block ?_
      refine wp_loop_model (S := (Int × Int)) (R := (Int × List Int)) (gameroomref_NthOf_L2 n1 k2 l1 r1) (fun x => (gameroomref_NthOf_K2 x).bind φ1) r (fun (x : (Int × Int)) a w => Fr 43 [pl 0 (.int .i64 n1), pl 1 (.int .i64 (Int.tmod k2 r1)), pl 5 (.slice A1 l1.length c1), pl 7 (.int .i64 x.1), pl 8 (.int .i64 x.2)] a ∧ Sep w0 B w (own 3 (.slice A1 l1.length c1) (vI l1) :: fs)) (assoc_b hm) ⟨hF.weak [0, 1, 5, 7, 8] (by kernel_rfl), hS⟩ ?_
      clear hF hS hm
      rintro nn2 ⟨skip1, x1⟩ a w ⟨hF, hS⟩ hm
      generalize hφ2 : stK (gameroomref_NthOf_L2 n1 k2 l1 r1) nn2 (fun x => (gameroomref_NthOf_K2 x).bind φ1) = φ2 at hm
      unfold gameroomref_NthOf_L2 at hm
      dsimp only at hF hS hm
      refine seq_cut (fun a w => Fr 43 [pl 0 (.int .i64 n1), pl 1 (.int .i64 (Int.tmod k2 r1)), pl 5 (.slice A1 l1.length c1), pl 7 (.int .i64 skip1), pl 8 (.int .i64 x1)] a ∧ Sep w0 B w (own 3 (.slice A1 l1.length c1) (vI l1) :: fs) ∧ ((gameroomref_NthOf_J3 k2 l1 r1 skip1 x1)).bind φ2 = some r) ?_ ?_
      · rintro a w ⟨hF, hS, hm⟩
        unfold gameroomref_NthOf_J3 at hm
        refine seq_cut (fun a w => ∃ (skip2 : Int), Fr 43 [pl 0 (.int .i64 n1), pl 1 (.int .i64 (Int.tmod k2 r1)), pl 5 (.slice A1 l1.length c1), pl 7 (.int .i64 skip2), pl 8 (.int .i64 x1)] a ∧ Sep w0 B w (own 3 (.slice A1 l1.length c1) (vI l1) :: fs) ∧ ((gameroomref_NthOf_J4 x1) skip2).bind φ2 = some r) ?_ ?_
        · rintro a w ⟨skip2, hF, hS, hm⟩
          unfold gameroomref_NthOf_J4 at hm
          refine reg1 [] [] [0, 1, 5, 7, 8] [pl 0 (.int .i64 n1), pl 1 (.int .i64 (Int.tmod k2 r1)), pl 5 (.slice A1 l1.length c1), pl 7 (.int .i64 skip2), pl 8 (.int .i64 (w64 (x1 + 1)))] hF hS Fol (by kernel_rfl) (by kernel_rfl) (by kernel_rfl) ?_ (fun a w hF hS => ?_)
          · exact obs_nil
          refine then_n ?_
          rw [← hφ2] at hm
          exact ⟨(skip2, (w64 (x1 + 1))), ⟨hF.weak [0, 1, 5, 7, 8] (by kernel_rfl), hS⟩, hm⟩
        · refine wp_block ?_
          refine seq_cut (fun a w => Fr 43 [pl 0 (.int .i64 n1), pl 1 (.int .i64 (Int.tmod k2 r1)), pl 5 (.slice A1 l1.length c1), pl 7 (.int .i64 skip1), pl 8 (.int .i64 x1)] a ∧ Sep w0 B w (own 3 (.slice A1 l1.length c1) (vI l1) :: fs) ∧ ((gameroomref_NthOf_J5 k2 l1 r1 skip1 x1)).bind φ2 = some r) ?_ ?_
          · rintro a w ⟨hF, hS, hm⟩
            unfold gameroomref_NthOf_J5 at hm
            refine seq_cut (fun a w => Fr 43 [pl 0 (.int .i64 n1), pl 1 (.int .i64 (Int.tmod k2 r1)), pl 5 (.slice A1 l1.length c1), pl 7 (.int .i64 skip1), pl 8 (.int .i64 x1)] a ∧ Sep w0 B w (own 3 (.slice A1 l1.length c1) (vI l1) :: fs) ∧ ((gameroomref_NthOf_J6 skip1 x1)).bind φ2 = some r) ?_ ?_
            · rintro a w ⟨hF, hS, hm⟩
              unfold gameroomref_NthOf_J6 at hm
              refine reg1 [] [] [0, 1, 5, 7, 8] [pl 0 (.int .i64 n1), pl 1 (.int .i64 (Int.tmod k2 r1)), pl 5 (.slice A1 l1.length c1), pl 7 (.int .i64 (w64 (skip1 - 1))), pl 8 (.int .i64 x1)] hF hS Fol (by kernel_rfl) (by kernel_rfl) (by kernel_rfl) ?_ (fun a w hF hS => ?_)
              · exact obs_nil
              refine block_n ?_
              refine then_n ?_
              exact ⟨(w64 (skip1 - 1)), hF.weak [0, 1, 5, 7, 8] (by kernel_rfl), hS, hm⟩
            · refine reg [] [] [0, 1, 5, 7, 8, 35] [pl 0 (.int .i64 n1), pl 1 (.int .i64 (Int.tmod k2 r1)), pl 5 (.slice A1 l1.length c1), pl 7 (.int .i64 skip1), pl 8 (.int .i64 x1), pl 35 (.bool (skip1 == 0))] hF hS Fol (by kernel_rfl) (by kernel_rfl) (by kernel_rfl) ?_ (fun a w hF hS => ?_)
              · exact obs_nil
              refine cond_ev (t := 35) (b := (skip1 == 0)) hF (by kernel_rfl) (fun hb => ?_) (fun hb => ?_)
              · replace hm := if_t hm hb
                refine seqR ?_
                obtain ⟨hp3, hm⟩ := asrt_b hm
                refine at_run 2 [] [] [0, 1, 36, 37] [pl 0 (.int .i64 n1), pl 1 (.int .i64 (Int.tmod k2 r1)), pl 36 (.slice A1 l1.length c1), pl 37 (.int .i64 x1)] hF hS (by kernel_rfl) (by kernel_rfl) ?_ (fun a w hF hS => ?_)
                · exact obs_nil
                refine at_do (d := 38) (s := vS (Instr.buildSlice 22 1 #[(0, .int .i64 x1)])) (v := .slice (some ⟨w.heap.size, 0, none⟩) 1 1) (w' := w.alloc (.cells #[.int .i64 x1] 3)) hF (by kernel_rfl) (by kernel_rfl) (by kernel_rfl) (fun a hF => ?_)
                have hS : Sep w0 B (w.alloc (.cells #[.int .i64 x1] 3)) (own 3 (.slice (some (⟨w.heap.size, 0, none⟩ : Addr)) 1 1) (vI ([x1] : List Int)) :: (own 3 (.slice A1 l1.length c1) (vI l1) :: fs)) := hS.lit 3 #[.int .i64 x1] 1 rfl (by omega)
                generalize (some (⟨w.heap.size, 0, none⟩ : Addr)) = g1 at hF hS
                generalize w.alloc (.cells #[.int .i64 x1] 3) = w at hS ⊢
                obtain ⟨A3, c3, w, hrun, hS⟩ := run_app1 (P := Try.prog) (t := 22) (m := l1) (ys := ([x1] : List Int)) (A2 := g1) (m2 := 1) (c2 := 1) (Value.int .i64) (0 : Int) (hS.at_ 1 rfl) (hS.at_ 0 rfl).rd ((hS.at_ 0 rfl).len1) 22 Und22 hi3 hz3 hs3 (by omega) rfl (fun _ => rfl) hp3
                have hS : Sep w0 B w (own 3 (.slice g1 1 1) (vI ([x1] : List Int)) :: own 3 (.slice A3 ((l1 ++ ([x1] : List Int)).length) c3) (vI (l1 ++ ([x1] : List Int))) :: fs) := hS
                refine at_do (d := 39) hF (by kernel_rfl) (by kernel_rfl) hrun (fun a hF => ?_)
                refine at_run 1 [] [] [0, 1, 5] [pl 0 (.int .i64 n1), pl 1 (.int .i64 (Int.tmod k2 r1)), pl 5 (.slice A3 ((l1 ++ ([x1] : List Int)).length) c3)] hF hS (by kernel_rfl) (by kernel_rfl) ?_ (fun a w hF hS => ?_)
                · exact obs_nil
                refine at_end [0, 1, 5] [pl 0 (.int .i64 n1), pl 1 (.int .i64 (Int.tmod k2 r1)), pl 5 (.slice A3 ((l1 ++ ([x1] : List Int)).length) c3)] hF rfl (by kernel_rfl) (fun hF => ?_)
                refine then_n ?_
                refine wp_exit ?_
                refine then_e (block_o rfl (then_e (then_e (block_e (block_n (then_n ?_))))))
                have hS := hS.pickN 2 [1] (by decide)
                rw [← hφ2] at hm
                replace hm := done_b hm
                unfold gameroomref_NthOf_K2 at hm
                try dsimp only at hm
                have hm : (some (.next ((Int.tmod k2 r1), (l1 ++ ([x1] : List Int))))).bind φ1 = some r := hm
                rw [← hφ1] at hm
                exact ⟨((Int.tmod k2 r1), (l1 ++ ([x1] : List Int))), ⟨A3, c3, hF.weak [0, 1, 5] (by kernel_rfl), hS⟩, hm⟩
              · replace hm := if_f hm hb
                refine wp_skip ?_
                refine then_n ?_
                exact ⟨hF.weak [0, 1, 5, 7, 8] (by kernel_rfl), hS, hm⟩
          · obtain ⟨r2, hr2, hm⟩ := call_b hm
            refine reg [⟨false, [], callFunc 87 #[.slice A1 l1.length c1, .int .i64 x1], .int .i64 r2⟩] [none, none, some (.int .i64 r2), none] [0, 1, 5, 7, 8, 33] [pl 0 (.int .i64 n1), pl 1 (.int .i64 (Int.tmod k2 r1)), pl 5 (.slice A1 l1.length c1), pl 7 (.int .i64 skip1), pl 8 (.int .i64 x1), pl 33 (.bool (decide ((0 : Int) ≤ r2)))] hF hS Fol (by kernel_rfl) (by kernel_rfl) (by kernel_rfl) ?_ (fun a w hF hS => ?_)
            · exact obs_cons (ob_call Try.func87 (by kernel_rfl) rfl (fun _ _ hS => gameroomref_at_w hr2 hS (fun _ hS => (hS.at_ 0 rfl).rd) ((hS.at_ 0 rfl).cap1) rfl)) <| obs_nil
            refine cond_ev (t := 33) (b := decide ((0 : Int) ≤ r2)) hF (by kernel_rfl) (fun hb => ?_) (fun hb => ?_)
            · replace hm := if_t hm hb
              refine wp_exit ?_
              refine then_e (block_e (then_n ?_))
              exact ⟨skip1, hF.weak [0, 1, 5, 7, 8] (by kernel_rfl), hS, hm⟩
            · replace hm := if_f hm hb
              refine wp_skip ?_
              refine then_n ?_
              exact ⟨hF.weak [0, 1, 5, 7, 8] (by kernel_rfl), hS, hm⟩
      · refine reg [] [] [0, 1, 5, 7, 8, 27] [pl 0 (.int .i64 n1), pl 1 (.int .i64 (Int.tmod k2 r1)), pl 5 (.slice A1 l1.length c1), pl 7 (.int .i64 skip1), pl 8 (.int .i64 x1), pl 27 (.bool (decide (x1 < n1)))] hF hS Fol (by kernel_rfl) (by kernel_rfl) (by kernel_rfl) ?_ (fun a w hF hS => ?_)
        · exact obs_nil
        refine cond_ev (t := 27) (b := decide (x1 < n1)) hF (by kernel_rfl) (fun hb => ?_) (fun hb => ?_)
        · replace hm := if_t hm hb
          refine wp_skip ?_
          refine then_n ?_
          exact ⟨hF.weak [0, 1, 5, 7, 8] (by kernel_rfl), hS, hm⟩
        · replace hm := if_f hm hb
          refine wp_exit ?_
          refine then_e (then_e (block_e (block_n (then_n ?_))))
          rw [← hφ2] at hm
          replace hm := done_b hm
          unfold gameroomref_NthOf_K2 at hm
          try dsimp only at hm
          have hm : (some (.next ((Int.tmod k2 r1), l1))).bind φ1 = some r := hm
          rw [← hφ1] at hm
          exact ⟨((Int.tmod k2 r1), l1), ⟨A1, c1, hF.weak [0, 1, 5] (by kernel_rfl), hS⟩, hm⟩
    · refine reg [] [] [0, 1, 5, 12] [pl 0 (.int .i64 n1), pl 1 (.int .i64 k2), pl 5 (.slice A1 l1.length c1), pl 12 (.bool (decide ((l1.length : Int) < n1)))] hF hS Fol (by kernel_rfl) (by kernel_rfl) (by kernel_rfl) ?_ (fun a w hF hS => ?_)
      · exact obs_nil
      refine cond_ev (t := 12) (b := decide ((l1.length : Int) < n1)) hF (by kernel_rfl) (fun hb => ?_) (fun hb => ?_)
      · replace hm := if_t hm hb
        refine wp_skip ?_
        refine then_n ?_
        exact ⟨hF.weak [0, 1, 5] (by kernel_rfl), hS, hm⟩
      · replace hm := if_f hm hb
        refine wp_exit ?_
        refine then_e (then_e (block_e (then_n ?_)))
        rw [← hφ1] at hm
        replace hm := done_b hm
        unfold gameroomref_NthOf_K1 at hm
        try dsimp only at hm
        have hm : (gameroomref_NthOf_J1 l1).bind some = some r := hm
        exact ⟨l1, A1, c1, hF.weak [5] (by kernel_rfl), hS, hm⟩

noncomputable def gameroomlaw_sameInts_J4 (i1 : Int) : Option (St Int (Fl Unit Bool)) :=
  some (.next (w64 (i1 + 1)))

noncomputable def gameroomlaw_sameInts_J3 (a1 : List Int) (b1 : List Int) (i1 : Int) : Option (St Int (Fl Unit Bool)) :=
  asrt (0 ≤ i1 ∧ i1 < (a1.length : Int)) <| asrt (0 ≤ i1 ∧ i1 < (b1.length : Int)) <| if ((geti a1 i1) != (geti b1 i1)) then (some (.done (.ret false))) else ((gameroomlaw_sameInts_J4 i1))

noncomputable def gameroomlaw_sameInts_J2 : Option Bool :=
  some true

noncomputable def gameroomlaw_sameInts_K1 : (Fl Unit Bool) → Option Bool :=
  fun (x : (Fl Unit Bool)) => match x with | .go _ => gameroomlaw_sameInts_J2 | .ret x => some x

noncomputable def gameroomlaw_sameInts_L1 (a1 : List Int) (b1 : List Int) : Int → Option (St Int (Fl Unit Bool)) :=
  fun (x : Int) => match x with | i1 => if (decide (i1 < (a1.length : Int))) then ((gameroomlaw_sameInts_J3 a1 b1 i1)) else (some (.done (.go ())))

noncomputable def gameroomlaw_sameInts_J1 (a1 : List Int) (b1 : List Int) : Option Bool :=
  (loop (gameroomlaw_sameInts_L1 a1 b1) 0).bind gameroomlaw_sameInts_K1

noncomputable def gameroomlaw_sameInts_m (a1 : List Int) (b1 : List Int) : Option Bool :=
  if ((a1.length : Int) != (b1.length : Int)) then (some false) else ((gameroomlaw_sameInts_J1 a1 b1))

set_option maxRecDepth 100000 in
set_option maxHeartbeats 4000000 in
theorem gameroomlaw_sameInts_w {A1 : Option Addr} {c1 : Nat} {n1 : Nat} {a1 : List Int} {A2 : Option Addr} {c2 : Nat} {n2 : Nat} {b1 : List Int} {r : Bool} {w0 w : World} {B : Nat} {fs : List HP} (hm : gameroomlaw_sameInts_m a1 b1 = some r) (hS : Sep w0 B w (fs)) (hr_a1 : RdF w0 B fs A1 (vI a1)) (_hc_a1 : a1.length ≤ c1) (_hn_a1 : n1 = a1.length) (hr_b1 : RdF w0 B fs A2 (vI b1)) (_hc_b1 : b1.length ≤ c2) (_hn_b1 : n2 = b1.length) :
    Calls Try.prog 22 #[.slice A1 n1 c1, .slice A2 n2 c2] w fun e w' => e = .returned (.bool r) ∧ Sep w0 B w' (fs) := by
  obtain ⟨i3, hi3, hz3, hs3, hb3⟩ := info_parts Info3
  obtain rfl := _hn_a1
  obtain rfl := _hn_b1
  unfold gameroomlaw_sameInts_m at hm
  replace hm := start_b hm
  refine enter (l := [.slice A1 a1.length c1, .slice A2 b1.length c2]) (n := 26) Try.func22 rfl rfl (by simp) (fun a hF => ?_)
  refine reg [] [] [0, 1] [pl 0 (.slice A1 a1.length c1), pl 1 (.slice A2 b1.length c2)] hF hS Fol (by kernel_rfl) (by kernel_rfl) (by kernel_rfl) ?_ (fun a w hF hS => ?_)
  · exact obs_nil
  refine seq_cut (fun a w => Fr 26 [pl 0 (.slice A1 a1.length c1), pl 1 (.slice A2 b1.length c2)] a ∧ Sep w0 B w (fs) ∧ ((gameroomlaw_sameInts_J1 a1 b1)).bind some = some r) ?_ ?_
  · rintro a w ⟨hF, hS, hm⟩
    unfold gameroomlaw_sameInts_J1 at hm
    refine seq_cut (fun a w => Fr 26 [] a ∧ Sep w0 B w (fs) ∧ (gameroomlaw_sameInts_J2).bind some = some r) ?_ ?_
    · rintro a w ⟨hF, hS, hm⟩
      unfold gameroomlaw_sameInts_J2 at hm
      refine reg [] [] [4] [pl 4 (.bool true)] hF hS Fol (by kernel_rfl) (by kernel_rfl) (by kernel_rfl) ?_ (fun a w hF hS => ?_)
      · exact obs_nil
      refine wp_ret ?_
      have hm : some true = some r := hm
      obtain rfl := Option.some.inj hm
      exact retV (rs := [.tmp 4]) (vs := [.bool true]) hF rfl (rv_t (by kernel_rfl) <| rv_nil) rfl ⟨rfl, hS⟩
    · refine reg [] [] [0, 1, 5] [pl 0 (.slice A1 a1.length c1), pl 1 (.slice A2 b1.length c2), pl 5 (.int .i64 0)] hF hS Fol (by kernel_rfl) (by kernel_rfl) (by kernel_rfl) ?_ (fun a w hF hS => ?_)
      · exact obs_nil
      refine wp_block ?_
      refine wp_loop_model (S := Int) (R := (Fl Unit Bool)) (gameroomlaw_sameInts_L1 a1 b1) (fun x => (gameroomlaw_sameInts_K1 x).bind some) r (fun (x : Int) a w => Fr 26 [pl 0 (.slice A1 a1.length c1), pl 1 (.slice A2 b1.length c2), pl 5 (.int .i64 x)] a ∧ Sep w0 B w (fs)) (assoc_b hm) ⟨hF.weak [0, 1, 5] (by kernel_rfl), hS⟩ ?_
      clear hF hS hm
      rintro nn1 i1 a w ⟨hF, hS⟩ hm
      generalize hφ1 : stK (gameroomlaw_sameInts_L1 a1 b1) nn1 (fun x => (gameroomlaw_sameInts_K1 x).bind some) = φ1 at hm
      unfold gameroomlaw_sameInts_L1 at hm
      dsimp only at hm
      refine seq_cut (fun a w => Fr 26 [pl 0 (.slice A1 a1.length c1), pl 1 (.slice A2 b1.length c2), pl 5 (.int .i64 i1)] a ∧ Sep w0 B w (fs) ∧ ((gameroomlaw_sameInts_J3 a1 b1 i1)).bind φ1 = some r) ?_ ?_
      · rintro a w ⟨hF, hS, hm⟩
        unfold gameroomlaw_sameInts_J3 at hm
        refine seq_cut (fun a w => Fr 26 [pl 0 (.slice A1 a1.length c1), pl 1 (.slice A2 b1.length c2), pl 5 (.int .i64 i1)] a ∧ Sep w0 B w (fs) ∧ ((gameroomlaw_sameInts_J4 i1)).bind φ1 = some r) ?_ ?_
        · rintro a w ⟨hF, hS, hm⟩
          unfold gameroomlaw_sameInts_J4 at hm
          refine reg1 [] [] [0, 1, 5] [pl 0 (.slice A1 a1.length c1), pl 1 (.slice A2 b1.length c2), pl 5 (.int .i64 (w64 (i1 + 1)))] hF hS Fol (by kernel_rfl) (by kernel_rfl) (by kernel_rfl) ?_ (fun a w hF hS => ?_)
          · exact obs_nil
          refine then_n ?_
          rw [← hφ1] at hm
          exact ⟨(w64 (i1 + 1)), ⟨hF.weak [0, 1, 5] (by kernel_rfl), hS⟩, hm⟩
        · refine wp_block ?_
          obtain ⟨hp1, hm⟩ := asrt_b hm
          obtain ⟨hp2, hm⟩ := asrt_b hm
          refine reg [⟨true, [], vS (Instr.indexAt 22 (.slice A1 a1.length c1) (.int .i64 i1)), .pointer (some (sAddr A1 i1))⟩, ⟨false, [], vS (Instr.loadAt 3 (.pointer (some (sAddr A1 i1)))), .int .i64 (geti a1 i1)⟩, ⟨true, [], vS (Instr.indexAt 22 (.slice A2 b1.length c2) (.int .i64 i1)), .pointer (some (sAddr A2 i1))⟩, ⟨false, [], vS (Instr.loadAt 3 (.pointer (some (sAddr A2 i1)))), .int .i64 (geti b1 i1)⟩] [none, none, some (.pointer (some (sAddr A1 i1))), some (.int .i64 (geti a1 i1)), none, none, some (.pointer (some (sAddr A2 i1))), some (.int .i64 (geti b1 i1)), none] [0, 1, 5, 25] [pl 0 (.slice A1 a1.length c1), pl 1 (.slice A2 b1.length c2), pl 5 (.int .i64 i1), pl 25 (.bool ((geti a1 i1) != (geti b1 i1)))] hF hS Fol (by kernel_rfl) (by kernel_rfl) (by kernel_rfl) ?_ (fun a w hF hS => ?_)
          · exact obs_cons (ob_ix1 (f := (Value.int .i64)) (m := a1) Und22 hi3 hs3 (hr_a1 _ (hS.dropN 0)) rfl (fun _ => hp1)) <| obs_cons (ob_get1 (n := a1.length) (m := a1) (Value.int .i64) (0 : Int) Agg3 (fun _ hS => ⟨_, (hr_a1 _ (hS.dropN 0))⟩) (fun _ hS => rfl) (fun _ => hp1)) <| obs_cons (ob_ix1 (f := (Value.int .i64)) (m := b1) Und22 hi3 hs3 (hr_b1 _ (hS.dropN 0)) rfl (fun _ => hp2)) <| obs_cons (ob_get1 (n := b1.length) (m := b1) (Value.int .i64) (0 : Int) Agg3 (fun _ hS => ⟨_, (hr_b1 _ (hS.dropN 0))⟩) (fun _ hS => rfl) (fun _ => hp2)) <| obs_nil
          refine cond_ev (t := 25) (b := ((geti a1 i1) != (geti b1 i1))) hF (by kernel_rfl) (fun hb => ?_) (fun hb => ?_)
          · replace hm := if_t hm hb
            refine reg [] [] [4] [pl 4 (.bool false)] hF hS Fol (by kernel_rfl) (by kernel_rfl) (by kernel_rfl) ?_ (fun a w hF hS => ?_)
            · exact obs_nil
            refine wp_ret ?_
            refine block_r (then_r (then_r (block_r (then_r ?_))))
            rw [← hφ1] at hm
            replace hm := done_b hm
            unfold gameroomlaw_sameInts_K1 at hm
            try dsimp only at hm
            have hm : some false = some r := hm
            obtain rfl := Option.some.inj hm
            exact retV (rs := [.tmp 4]) (vs := [.bool false]) hF rfl (rv_t (by kernel_rfl) <| rv_nil) rfl ⟨rfl, hS⟩
          · replace hm := if_f hm hb
            refine wp_skip ?_
            refine block_n ?_
            refine then_n ?_
            exact ⟨hF.weak [0, 1, 5] (by kernel_rfl), hS, hm⟩
      · refine reg [] [] [0, 1, 5, 14] [pl 0 (.slice A1 a1.length c1), pl 1 (.slice A2 b1.length c2), pl 5 (.int .i64 i1), pl 14 (.bool (decide (i1 < (a1.length : Int))))] hF hS Fol (by kernel_rfl) (by kernel_rfl) (by kernel_rfl) ?_ (fun a w hF hS => ?_)
        · exact obs_nil
        refine cond_ev (t := 14) (b := decide (i1 < (a1.length : Int))) hF (by kernel_rfl) (fun hb => ?_) (fun hb => ?_)
        · replace hm := if_t hm hb
          refine wp_skip ?_
          refine then_n ?_
          exact ⟨hF.weak [0, 1, 5] (by kernel_rfl), hS, hm⟩
        · replace hm := if_f hm hb
          refine wp_exit ?_
          refine then_e (then_e (block_e (then_n ?_)))
          rw [← hφ1] at hm
          replace hm := done_b hm
          unfold gameroomlaw_sameInts_K1 at hm
          try dsimp only at hm
          have hm : (gameroomlaw_sameInts_J2).bind some = some r := hm
          exact ⟨hF.weak [] (by kernel_rfl), hS, hm⟩
  · refine reg [] [] [0, 1, 10] [pl 0 (.slice A1 a1.length c1), pl 1 (.slice A2 b1.length c2), pl 10 (.bool ((a1.length : Int) != (b1.length : Int)))] hF hS Fol (by kernel_rfl) (by kernel_rfl) (by kernel_rfl) ?_ (fun a w hF hS => ?_)
    · exact obs_nil
    refine cond_ev (t := 10) (b := ((a1.length : Int) != (b1.length : Int))) hF (by kernel_rfl) (fun hb => ?_) (fun hb => ?_)
    · replace hm := if_t hm hb
      refine reg [] [] [4] [pl 4 (.bool false)] hF hS Fol (by kernel_rfl) (by kernel_rfl) (by kernel_rfl) ?_ (fun a w hF hS => ?_)
      · exact obs_nil
      refine wp_ret ?_
      refine then_r ?_
      have hm : some false = some r := hm
      obtain rfl := Option.some.inj hm
      exact retV (rs := [.tmp 4]) (vs := [.bool false]) hF rfl (rv_t (by kernel_rfl) <| rv_nil) rfl ⟨rfl, hS⟩
    · replace hm := if_f hm hb
      refine wp_skip ?_
      refine then_n ?_
      exact ⟨hF.weak [0, 1] (by kernel_rfl), hS, hm⟩

noncomputable def gameroomlaw_DeckNumbers_J6 (all1 : Int) (i1 : Int) : Option (St (Int × Int) Int) :=
  some (.next ((w64 (all1 * i1)), (w64 (i1 + 1))))

noncomputable def gameroomlaw_DeckNumbers_J5 (all1 : Int) (i1 : Int) : Option (St (Int × Int) Int) :=
  (gameroomlaw_DeckNumbers_J6 all1 i1)

noncomputable def gameroomlaw_DeckNumbers_J8 (z1 : Bool) : Option Bool :=
  some z1

noncomputable def gameroomlaw_DeckNumbers_J7 (n2 : Int) (k1 : Int) (r5 : (List Int × Int)) : Option Bool :=
  if (r5.2 == 0) then ((gameroomref_NthOf_m n2 k1).bind fun r10 => ((if (r5.2 == 0) then gameroomlaw_sameInts_m r5.1 r10 else some false)).bind fun r11 => gameroomlaw_DeckNumbers_J8 ((r5.2 == 0) && r11)) else (((if (r5.2 == 0) then gameroomlaw_sameInts_m r5.1 ([] : List Int) else some false)).bind fun r12 => gameroomlaw_DeckNumbers_J8 ((r5.2 == 0) && r12))

noncomputable def gameroomlaw_DeckNumbers_J4 (n2 : Int) (k1 : Int) (r5 : (List Int × Int)) (all2 : Int) : Option Bool :=
  if ((decide (k1 < 0)) || (decide (all2 ≤ k1))) then (some ((r5.2 == 3) && ((r5.1.length : Int) == 0))) else ((gameroomlaw_DeckNumbers_J7 n2 k1 r5))

noncomputable def gameroomlaw_DeckNumbers_K1 (n2 : Int) (k1 : Int) (r5 : (List Int × Int)) : Int → Option Bool :=
  fun (x : Int) => match x with | all2 => (gameroomlaw_DeckNumbers_J4 n2 k1 r5) all2

noncomputable def gameroomlaw_DeckNumbers_L1 (n2 : Int) : (Int × Int) → Option (St (Int × Int) Int) :=
  fun (x : (Int × Int)) => match x with | (all1, i1) => if (decide (i1 ≤ n2)) then ((gameroomlaw_DeckNumbers_J5 all1 i1)) else (some (.done all1))

noncomputable def gameroomlaw_DeckNumbers_J3 (n2 : Int) (k1 : Int) (r5 : (List Int × Int)) : Option Bool :=
  (loop (gameroomlaw_DeckNumbers_L1 n2) (1, 2)).bind (gameroomlaw_DeckNumbers_K1 n2 k1 r5)

noncomputable def gameroomlaw_DeckNumbers_J2 (n2 : Int) (k1 : Int) (r5 : (List Int × Int)) : Option Bool :=
  if ((decide (n2 < 0)) || (decide ((12 : Int) < n2))) then (some ((r5.2 == 2) && ((r5.1.length : Int) == 0))) else ((gameroomlaw_DeckNumbers_J3 n2 k1 r5))

noncomputable def gameroomlaw_DeckNumbers_J1 (l1 : List Int) (n2 : Int) (k1 : Int) (r4 : (Int × Int)) (r5 : (List Int × Int)) : Option Bool :=
  if (decide ((12 : Int) < (l1.length : Int))) then (if ((r4.2 != 2) || (r4.1 != 0)) then (some false) else ((gameroomlaw_DeckNumbers_J2 n2 k1 r5))) else ((gameroomref_OrderIs_m l1).bind fun r8 => if (!r8) then (if ((r4.2 != 1) || (r4.1 != 0)) then (some false) else ((gameroomlaw_DeckNumbers_J2 n2 k1 r5))) else (((if (!(r4.2 != 0)) then gameroomref_NumberOf_m l1 else some 0)).bind fun r9 => if ((r4.2 != 0) || (r4.1 != r9)) then (some false) else ((gameroomlaw_DeckNumbers_J2 n2 k1 r5))))

noncomputable def gameroomlaw_DeckNumbers_m (l1 : List Int) (n2 : Int) (k1 : Int) : Option Bool :=
  (gameroomlaw_ints_m l1).bind fun r1 => (deck_Sign_m r1).bind fun r2 => (gameroomlaw_ints_m l1).bind fun r3 => (deck_Number_m r3).bind fun r4 => (deck_Nth_m n2 k1).bind fun r5 => if (decide ((104 : Int) < (l1.length : Int))) then (if ((r2.2 != 2) || (r2.1 != 0)) then (some false) else ((gameroomlaw_DeckNumbers_J1 l1 n2 k1 r4 r5))) else ((gameroomref_OrderIs_m l1).bind fun r6 => if (!r6) then (if ((r2.2 != 1) || (r2.1 != 0)) then (some false) else ((gameroomlaw_DeckNumbers_J1 l1 n2 k1 r4 r5))) else (((if (!(r2.2 != 0)) then gameroomref_SignOf_m l1 else some 0)).bind fun r7 => if ((r2.2 != 0) || (r2.1 != r7)) then (some false) else ((gameroomlaw_DeckNumbers_J1 l1 n2 k1 r4 r5))))

set_option maxRecDepth 100000 in
set_option maxHeartbeats 4000000 in
theorem gameroomlaw_DeckNumbers_w {A1 : Option Addr} {c1 : Nat} {n1 : Nat} {l1 : List Int} {n2 : Int} {k1 : Int} {r : Bool} {w0 w : World} {B : Nat} {fs : List HP} (hm : gameroomlaw_DeckNumbers_m l1 n2 k1 = some r) (hS : Sep w0 B w (fs)) (hr_l1 : RdF w0 B fs A1 (vI l1)) (_hc_l1 : l1.length ≤ c1) (_hn_l1 : n1 = l1.length) :
    Calls Try.prog 3 #[.slice A1 n1 c1, .int .i64 n2, .int .i64 k1] w fun e w' => e = .returned (.bool r) ∧ Sep w0 B w' (fs) := by
  obtain ⟨i3, hi3, hz3, hs3, hb3⟩ := info_parts Info3
  obtain rfl := _hn_l1
  unfold gameroomlaw_DeckNumbers_m at hm
  replace hm := start_b hm
  refine enter (l := [.slice A1 l1.length c1, .int .i64 n2, .int .i64 k1]) (n := 129) Try.func3 rfl rfl (by simp) (fun a hF => ?_)
  refine reg [] [] [0, 1, 2] [pl 0 (.slice A1 l1.length c1), pl 1 (.int .i64 n2), pl 2 (.int .i64 k1)] hF hS Fol (by kernel_rfl) (by kernel_rfl) (by kernel_rfl) ?_ (fun a w hF hS => ?_)
  · exact obs_nil
  refine seqR ?_
  obtain ⟨r1, hr1, hm⟩ := call_b hm
  obtain ⟨r2, hr2, hm⟩ := call_b hm
  refine at_run 1 [] [] [0, 1, 2, 16] [pl 0 (.slice A1 l1.length c1), pl 1 (.int .i64 n2), pl 2 (.int .i64 k1), pl 16 (.slice A1 l1.length c1)] hF hS (by kernel_rfl) (by kernel_rfl) ?_ (fun a w hF hS => ?_)
  · exact obs_nil
  refine at_call (f := 16) (args := #[.slice A1 l1.length c1]) (d := 17) hF (by kernel_rfl) (by kernel_rfl) Try.func16 (by kernel_rfl) rfl (gameroomlaw_ints_w hr1 hS (fun _ hS => (hr_l1 _ (hS.dropN 0))) _hc_l1 rfl) (fun v a w hR hF => ?_)
  clear hS
  obtain ⟨A2, c2, rfl, hS⟩ := hR
  have hS : Sep w0 B w (own 3 (.slice A2 r1.length c2) (vI r1) :: fs) := hS
  refine at_run 6 [⟨false, [], callFunc 15 #[.slice A2 r1.length c2], .tuple #[.int .i64 r2.1, .int .i64 r2.2]⟩] [some (.tuple #[.int .i64 r2.1, .int .i64 r2.2]), none, none, none, none, none] [0, 1, 2, 7, 8] [pl 0 (.slice A1 l1.length c1), pl 1 (.int .i64 n2), pl 2 (.int .i64 k1), pl 7 (.int .i64 r2.1), pl 8 (.int .i64 r2.2)] hF hS (by kernel_rfl) (by kernel_rfl) ?_ (fun a w hF hS => ?_)
  · exact obs_cons (ob_call Try.func15 (by kernel_rfl) rfl (fun _ _ hS => deck_Sign_w hr2 hS (fun _ hS => (hS.at_ 0 rfl).rd) ((hS.at_ 0 rfl).cap1) rfl)) <| obs_nil
  refine at_end [0, 1, 2, 7, 8] [pl 0 (.slice A1 l1.length c1), pl 1 (.int .i64 n2), pl 2 (.int .i64 k1), pl 7 (.int .i64 r2.1), pl 8 (.int .i64 r2.2)] hF rfl (by kernel_rfl) (fun hF => ?_)
  refine then_n ?_
  refine seqR ?_
  obtain ⟨r3, hr3, hm⟩ := call_b hm
  obtain ⟨r4, hr4, hm⟩ := call_b hm
  refine at_run 1 [] [] [0, 1, 2, 7, 8, 22] [pl 0 (.slice A1 l1.length c1), pl 1 (.int .i64 n2), pl 2 (.int .i64 k1), pl 7 (.int .i64 r2.1), pl 8 (.int .i64 r2.2), pl 22 (.slice A1 l1.length c1)] hF hS (by kernel_rfl) (by kernel_rfl) ?_ (fun a w hF hS => ?_)
  · exact obs_nil
  refine at_call (f := 16) (args := #[.slice A1 l1.length c1]) (d := 23) hF (by kernel_rfl) (by kernel_rfl) Try.func16 (by kernel_rfl) rfl (gameroomlaw_ints_w hr3 hS (fun _ hS => (hr_l1 _ (hS.dropN 1))) _hc_l1 rfl) (fun v a w hR hF => ?_)
  clear hS
  obtain ⟨A3, c3, rfl, hS⟩ := hR
  have hS : Sep w0 B w (own 3 (.slice A3 r3.length c3) (vI r3) :: own 3 (.slice A2 r1.length c2) (vI r1) :: fs) := hS
  refine at_run 6 [⟨false, [], callFunc 17 #[.slice A3 r3.length c3], .tuple #[.int .i64 r4.1, .int .i64 r4.2]⟩] [some (.tuple #[.int .i64 r4.1, .int .i64 r4.2]), none, none, none, none, none] [0, 1, 2, 7, 8, 9, 10] [pl 0 (.slice A1 l1.length c1), pl 1 (.int .i64 n2), pl 2 (.int .i64 k1), pl 7 (.int .i64 r2.1), pl 8 (.int .i64 r2.2), pl 9 (.int .i64 r4.1), pl 10 (.int .i64 r4.2)] hF hS (by kernel_rfl) (by kernel_rfl) ?_ (fun a w hF hS => ?_)
  · exact obs_cons (ob_call Try.func17 (by kernel_rfl) rfl (fun _ _ hS => deck_Number_w hr4 hS (fun _ hS => (hS.at_ 0 rfl).rd) ((hS.at_ 0 rfl).cap1) rfl)) <| obs_nil
  refine at_end [0, 1, 2, 7, 8, 9, 10] [pl 0 (.slice A1 l1.length c1), pl 1 (.int .i64 n2), pl 2 (.int .i64 k1), pl 7 (.int .i64 r2.1), pl 8 (.int .i64 r2.2), pl 9 (.int .i64 r4.1), pl 10 (.int .i64 r4.2)] hF rfl (by kernel_rfl) (fun hF => ?_)
  refine then_n ?_
  refine seqR ?_
  obtain ⟨r5, hr5, hm⟩ := call_b hm
  refine at_run 2 [] [] [0, 1, 2, 7, 8, 9, 10, 28, 29] [pl 0 (.slice A1 l1.length c1), pl 1 (.int .i64 n2), pl 2 (.int .i64 k1), pl 7 (.int .i64 r2.1), pl 8 (.int .i64 r2.2), pl 9 (.int .i64 r4.1), pl 10 (.int .i64 r4.2), pl 28 (.int .i64 n2), pl 29 (.int .i64 k1)] hF hS (by kernel_rfl) (by kernel_rfl) ?_ (fun a w hF hS => ?_)
  · exact obs_nil
  refine at_call (f := 18) (args := #[.int .i64 n2, .int .i64 k1]) (d := 30) hF (by kernel_rfl) (by kernel_rfl) Try.func18 (by kernel_rfl) rfl (deck_Nth_w hr5 hS ) (fun v a w hR hF => ?_)
  clear hS
  obtain ⟨A4, c4, rfl, hS⟩ := hR
  have hS : Sep w0 B w (own 3 (.slice A4 r5.1.length c4) (vI r5.1) :: own 3 (.slice A3 r3.length c3) (vI r3) :: own 3 (.slice A2 r1.length c2) (vI r1) :: fs) := hS
  refine at_run 5 [] [] [0, 1, 2, 7, 8, 9, 10, 11, 12] [pl 0 (.slice A1 l1.length c1), pl 1 (.int .i64 n2), pl 2 (.int .i64 k1), pl 7 (.int .i64 r2.1), pl 8 (.int .i64 r2.2), pl 9 (.int .i64 r4.1), pl 10 (.int .i64 r4.2), pl 11 (.slice A4 r5.1.length c4), pl 12 (.int .i64 r5.2)] hF hS (by kernel_rfl) (by kernel_rfl) ?_ (fun a w hF hS => ?_)
  · exact obs_nil
  refine at_end [0, 1, 2, 7, 8, 9, 10, 11, 12] [pl 0 (.slice A1 l1.length c1), pl 1 (.int .i64 n2), pl 2 (.int .i64 k1), pl 7 (.int .i64 r2.1), pl 8 (.int .i64 r2.2), pl 9 (.int .i64 r4.1), pl 10 (.int .i64 r4.2), pl 11 (.slice A4 r5.1.length c4), pl 12 (.int .i64 r5.2)] hF rfl (by kernel_rfl) (fun hF => ?_)
  refine then_n ?_
  refine seq_cut (fun a w => Fr 129 [pl 0 (.slice A1 l1.length c1), pl 1 (.int .i64 n2), pl 2 (.int .i64 k1), pl 9 (.int .i64 r4.1), pl 10 (.int .i64 r4.2), pl 11 (.slice A4 r5.1.length c4), pl 12 (.int .i64 r5.2)] a ∧ Sep w0 B w (own 3 (.slice A4 r5.1.length c4) (vI r5.1) :: fs) ∧ ((gameroomlaw_DeckNumbers_J1 l1 n2 k1 r4 r5)).bind some = some r) ?_ ?_
  · rintro a w ⟨hF, hS, hm⟩
    unfold gameroomlaw_DeckNumbers_J1 at hm
    refine seq_cut (fun a w => Fr 129 [pl 1 (.int .i64 n2), pl 2 (.int .i64 k1), pl 11 (.slice A4 r5.1.length c4), pl 12 (.int .i64 r5.2)] a ∧ Sep w0 B w (own 3 (.slice A4 r5.1.length c4) (vI r5.1) :: fs) ∧ ((gameroomlaw_DeckNumbers_J2 n2 k1 r5)).bind some = some r) ?_ ?_
    · rintro a w ⟨hF, hS, hm⟩
      unfold gameroomlaw_DeckNumbers_J2 at hm
      refine seq_cut (fun a w => Fr 129 [pl 1 (.int .i64 n2), pl 2 (.int .i64 k1), pl 11 (.slice A4 r5.1.length c4), pl 12 (.int .i64 r5.2)] a ∧ Sep w0 B w (own 3 (.slice A4 r5.1.length c4) (vI r5.1) :: fs) ∧ ((gameroomlaw_DeckNumbers_J3 n2 k1 r5)).bind some = some r) ?_ ?_
      · rintro a w ⟨hF, hS, hm⟩
        unfold gameroomlaw_DeckNumbers_J3 at hm
        refine reg [] [] [1, 2, 11, 12, 13] [pl 1 (.int .i64 n2), pl 2 (.int .i64 k1), pl 11 (.slice A4 r5.1.length c4), pl 12 (.int .i64 r5.2), pl 13 (.int .i64 1)] hF hS Fol (by kernel_rfl) (by kernel_rfl) (by kernel_rfl) ?_ (fun a w hF hS => ?_)
        · exact obs_nil
        refine seq_cut (fun a w => ∃ (all2 : Int), Fr 129 [pl 1 (.int .i64 n2), pl 2 (.int .i64 k1), pl 11 (.slice A4 r5.1.length c4), pl 12 (.int .i64 r5.2), pl 13 (.int .i64 all2)] a ∧ Sep w0 B w (own 3 (.slice A4 r5.1.length c4) (vI r5.1) :: fs) ∧ ((gameroomlaw_DeckNumbers_J4 n2 k1 r5) all2).bind some = some r) ?_ ?_
        · rintro a w ⟨all2, hF, hS, hm⟩
          unfold gameroomlaw_DeckNumbers_J4 at hm
          refine seq_cut (fun a w => Fr 129 [pl 1 (.int .i64 n2), pl 2 (.int .i64 k1), pl 11 (.slice A4 r5.1.length c4), pl 12 (.int .i64 r5.2)] a ∧ Sep w0 B w (own 3 (.slice A4 r5.1.length c4) (vI r5.1) :: fs) ∧ ((gameroomlaw_DeckNumbers_J7 n2 k1 r5)).bind some = some r) ?_ ?_
          · rintro a w ⟨hF, hS, hm⟩
            unfold gameroomlaw_DeckNumbers_J7 at hm
            refine seq_cut (fun a w => ∃ (z1 : Bool), Fr 129 [pl 6 (.bool z1)] a ∧ Sep w0 B w (fs) ∧ (gameroomlaw_DeckNumbers_J8 z1).bind some = some r) ?_ ?_
            · rintro a w ⟨z1, hF, hS, hm⟩
              unfold gameroomlaw_DeckNumbers_J8 at hm
              refine wp_ret ?_
              have hm : some z1 = some r := hm
              obtain rfl := Option.some.inj hm
              exact retV (rs := [.tmp 6]) (vs := [.bool z1]) hF rfl (rv_t (by kernel_rfl) <| rv_nil) rfl ⟨rfl, hS⟩
            · refine oneR ?_
              refine at_run 6 [] [] [122, 123, 124, 125] [pl 122 (.bool (r5.2 == 0)), ⟨123, [(122, true)], .slice A4 r5.1.length c4⟩, ⟨124, [(122, true)], .int .i64 n2⟩, ⟨125, [(122, true)], .int .i64 k1⟩] hF hS (by kernel_rfl) (by kernel_rfl) ?_ (fun a w hF hS => ?_)
              · exact obs_nil
              rcases Bool.eq_false_or_eq_true (r5.2 == 0) with hg1 | hg1
              · replace hm := if_t hm hg1
                obtain ⟨r10, hr10, hm⟩ := call_b hm
                obtain ⟨r11, hr11, hm⟩ := call_b hm
                refine at_gcall (hs := [((r5.2 == 0), true)]) (fun y hy => by simp only [List.mem_cons, List.not_mem_nil, or_false] at hy; subst hy; first | exact hg1) (f := 23) (args := #[.int .i64 n2, .int .i64 k1]) (d := 126) hF (by kernel_rfl) (by kernel_rfl) Try.func23 (by kernel_rfl) rfl (gameroomref_NthOf_w hr10 hS ) (fun v a w hR hF => ?_)
                clear hS
                obtain ⟨A5, c5, rfl, hS⟩ := hR
                have hS : Sep w0 B w (own 3 (.slice A5 r10.length c5) (vI r10) :: own 3 (.slice A4 r5.1.length c4) (vI r5.1) :: fs) := hS
                refine at_run 3 [⟨false, [((r5.2 == 0), true)], callFunc 22 #[.slice A4 r5.1.length c4, .slice A5 r10.length c5], .bool r11⟩] [some (.bool r11), none, none] [6] [pl 6 (.bool ((r5.2 == 0) && r11))] hF hS (by kernel_rfl) (by kernel_rfl) ?_ (fun a w hF hS => ?_)
                · exact obs_cons (ob_call Try.func22 (by kernel_rfl) rfl (fun hy _ hS => gameroomlaw_sameInts_w (ite_some hr11 (by rw [show (r5.2 == 0) = true from hy ((r5.2 == 0), true) (by simp)]; try rfl)) hS (fun _ hS => (hS.at_ 1 rfl).rd) ((hS.at_ 1 rfl).cap1) rfl (fun _ hS => (hS.at_ 0 rfl).rd) ((hS.at_ 0 rfl).cap1) rfl)) <| obs_nil
                refine at_end [6] [pl 6 (.bool ((r5.2 == 0) && r11))] hF rfl (by kernel_rfl) (fun hF => ?_)
                refine then_n ?_
                have hS := hS.pickN 2 [] (by decide)
                exact ⟨((r5.2 == 0) && r11), hF.weak [6] (by kernel_rfl), hS, hm⟩
              · replace hm := if_f hm hg1
                obtain ⟨r12, hr12, hm⟩ := call_b hm
                refine at_gskip (d := 126) (v := .slice none 0 0) (hs := [((r5.2 == 0), true)]) (ctx := [(122, true)]) hF (by kernel_rfl) (by kernel_rfl) (fun h => absurd (h ((r5.2 == 0), true) (by simp)) (by simp [hg1])) (fun a hF => ?_)
                refine at_run 3 [⟨false, [((r5.2 == 0), true)], callFunc 22 #[.slice A4 r5.1.length c4, .slice none 0 0], .bool r12⟩] [some (.bool r12), none, none] [6] [pl 6 (.bool ((r5.2 == 0) && r12))] hF hS (by kernel_rfl) (by kernel_rfl) ?_ (fun a w hF hS => ?_)
                · exact obs_cons (Ob.vac (fun h => absurd (h ((r5.2 == 0), true) (by simp)) (by simp [hg1]))) <| obs_nil
                refine at_end [6] [pl 6 (.bool ((r5.2 == 0) && r12))] hF rfl (by kernel_rfl) (fun hF => ?_)
                refine then_n ?_
                have hS := hS.pickN 1 [] (by decide)
                exact ⟨((r5.2 == 0) && r12), hF.weak [6] (by kernel_rfl), hS, hm⟩
          · refine reg [] [] [1, 2, 11, 12, 112] [pl 1 (.int .i64 n2), pl 2 (.int .i64 k1), pl 11 (.slice A4 r5.1.length c4), pl 12 (.int .i64 r5.2), pl 112 (.bool ((decide (k1 < 0)) || (decide (all2 ≤ k1))))] hF hS Fol (by kernel_rfl) (by kernel_rfl) (by kernel_rfl) ?_ (fun a w hF hS => ?_)
            · exact obs_nil
            refine cond_ev (t := 112) (b := (decide (k1 < 0)) || (decide (all2 ≤ k1))) hF (by kernel_rfl) (fun hb => ?_) (fun hb => ?_)
            · replace hm := if_t hm hb
              refine reg [] [] [6] [pl 6 (.bool ((r5.2 == 3) && ((r5.1.length : Int) == 0)))] hF hS Fol (by kernel_rfl) (by kernel_rfl) (by kernel_rfl) ?_ (fun a w hF hS => ?_)
              · exact obs_nil
              refine wp_ret ?_
              refine then_r ?_
              have hS := hS.pickN 1 [] (by decide)
              have hm : some ((r5.2 == 3) && ((r5.1.length : Int) == 0)) = some r := hm
              obtain rfl := Option.some.inj hm
              exact retV (rs := [.tmp 6]) (vs := [.bool ((r5.2 == 3) && ((r5.1.length : Int) == 0))]) hF rfl (rv_t (by kernel_rfl) <| rv_nil) rfl ⟨rfl, hS⟩
            · replace hm := if_f hm hb
              refine wp_skip ?_
              refine then_n ?_
              exact ⟨hF.weak [1, 2, 11, 12] (by kernel_rfl), hS, hm⟩
        · refine reg [] [] [1, 2, 11, 12, 13, 14] [pl 1 (.int .i64 n2), pl 2 (.int .i64 k1), pl 11 (.slice A4 r5.1.length c4), pl 12 (.int .i64 r5.2), pl 13 (.int .i64 1), pl 14 (.int .i64 2)] hF hS Fol (by kernel_rfl) (by kernel_rfl) (by kernel_rfl) ?_ (fun a w hF hS => ?_)
          · exact obs_nil
          refine wp_block ?_
          refine wp_loop_model (S := (Int × Int)) (R := Int) (gameroomlaw_DeckNumbers_L1 n2) (fun x => ((gameroomlaw_DeckNumbers_K1 n2 k1 r5) x).bind some) r (fun (x : (Int × Int)) a w => Fr 129 [pl 1 (.int .i64 n2), pl 2 (.int .i64 k1), pl 11 (.slice A4 r5.1.length c4), pl 12 (.int .i64 r5.2), pl 13 (.int .i64 x.1), pl 14 (.int .i64 x.2)] a ∧ Sep w0 B w (own 3 (.slice A4 r5.1.length c4) (vI r5.1) :: fs)) (assoc_b hm) ⟨hF.weak [1, 2, 11, 12, 13, 14] (by kernel_rfl), hS⟩ ?_
          clear hF hS hm
          rintro nn1 ⟨all1, i1⟩ a w ⟨hF, hS⟩ hm
          generalize hφ1 : stK (gameroomlaw_DeckNumbers_L1 n2) nn1 (fun x => ((gameroomlaw_DeckNumbers_K1 n2 k1 r5) x).bind some) = φ1 at hm
          unfold gameroomlaw_DeckNumbers_L1 at hm
          dsimp only at hF hS hm
          refine seq_cut (fun a w => Fr 129 [pl 1 (.int .i64 n2), pl 2 (.int .i64 k1), pl 11 (.slice A4 r5.1.length c4), pl 12 (.int .i64 r5.2), pl 13 (.int .i64 all1), pl 14 (.int .i64 i1)] a ∧ Sep w0 B w (own 3 (.slice A4 r5.1.length c4) (vI r5.1) :: fs) ∧ ((gameroomlaw_DeckNumbers_J5 all1 i1)).bind φ1 = some r) ?_ ?_
          · rintro a w ⟨hF, hS, hm⟩
            unfold gameroomlaw_DeckNumbers_J5 at hm
            refine seq_cut (fun a w => Fr 129 [pl 1 (.int .i64 n2), pl 2 (.int .i64 k1), pl 11 (.slice A4 r5.1.length c4), pl 12 (.int .i64 r5.2), pl 13 (.int .i64 (w64 (all1 * i1))), pl 14 (.int .i64 i1)] a ∧ Sep w0 B w (own 3 (.slice A4 r5.1.length c4) (vI r5.1) :: fs) ∧ ((gameroomlaw_DeckNumbers_J6 all1 i1)).bind φ1 = some r) ?_ ?_
            · rintro a w ⟨hF, hS, hm⟩
              unfold gameroomlaw_DeckNumbers_J6 at hm
              refine reg1 [] [] [1, 2, 11, 12, 13, 14] [pl 1 (.int .i64 n2), pl 2 (.int .i64 k1), pl 11 (.slice A4 r5.1.length c4), pl 12 (.int .i64 r5.2), pl 13 (.int .i64 (w64 (all1 * i1))), pl 14 (.int .i64 (w64 (i1 + 1)))] hF hS Fol (by kernel_rfl) (by kernel_rfl) (by kernel_rfl) ?_ (fun a w hF hS => ?_)
              · exact obs_nil
              refine then_n ?_
              rw [← hφ1] at hm
              exact ⟨((w64 (all1 * i1)), (w64 (i1 + 1))), ⟨hF.weak [1, 2, 11, 12, 13, 14] (by kernel_rfl), hS⟩, hm⟩
            · refine wp_block ?_
              refine reg1 [] [] [1, 2, 11, 12, 13, 14] [pl 1 (.int .i64 n2), pl 2 (.int .i64 k1), pl 11 (.slice A4 r5.1.length c4), pl 12 (.int .i64 r5.2), pl 13 (.int .i64 (w64 (all1 * i1))), pl 14 (.int .i64 i1)] hF hS Fol (by kernel_rfl) (by kernel_rfl) (by kernel_rfl) ?_ (fun a w hF hS => ?_)
              · exact obs_nil
              refine block_n ?_
              refine then_n ?_
              exact ⟨hF.weak [1, 2, 11, 12, 13, 14] (by kernel_rfl), hS, hm⟩
          · refine reg [] [] [1, 2, 11, 12, 13, 14, 100] [pl 1 (.int .i64 n2), pl 2 (.int .i64 k1), pl 11 (.slice A4 r5.1.length c4), pl 12 (.int .i64 r5.2), pl 13 (.int .i64 all1), pl 14 (.int .i64 i1), pl 100 (.bool (decide (i1 ≤ n2)))] hF hS Fol (by kernel_rfl) (by kernel_rfl) (by kernel_rfl) ?_ (fun a w hF hS => ?_)
            · exact obs_nil
            refine cond_ev (t := 100) (b := decide (i1 ≤ n2)) hF (by kernel_rfl) (fun hb => ?_) (fun hb => ?_)
            · replace hm := if_t hm hb
              refine wp_skip ?_
              refine then_n ?_
              exact ⟨hF.weak [1, 2, 11, 12, 13, 14] (by kernel_rfl), hS, hm⟩
            · replace hm := if_f hm hb
              refine wp_exit ?_
              refine then_e (then_e (block_e (then_n ?_)))
              rw [← hφ1] at hm
              replace hm := done_b hm
              unfold gameroomlaw_DeckNumbers_K1 at hm
              try dsimp only at hm
              have hm : ((gameroomlaw_DeckNumbers_J4 n2 k1 r5) all1).bind some = some r := hm
              exact ⟨all1, hF.weak [1, 2, 11, 12, 13] (by kernel_rfl), hS, hm⟩
      · refine reg [] [] [1, 2, 11, 12, 90] [pl 1 (.int .i64 n2), pl 2 (.int .i64 k1), pl 11 (.slice A4 r5.1.length c4), pl 12 (.int .i64 r5.2), pl 90 (.bool ((decide (n2 < 0)) || (decide ((12 : Int) < n2))))] hF hS Fol (by kernel_rfl) (by kernel_rfl) (by kernel_rfl) ?_ (fun a w hF hS => ?_)
        · exact obs_nil
        refine cond_ev (t := 90) (b := (decide (n2 < 0)) || (decide ((12 : Int) < n2))) hF (by kernel_rfl) (fun hb => ?_) (fun hb => ?_)
        · replace hm := if_t hm hb
          refine reg [] [] [6] [pl 6 (.bool ((r5.2 == 2) && ((r5.1.length : Int) == 0)))] hF hS Fol (by kernel_rfl) (by kernel_rfl) (by kernel_rfl) ?_ (fun a w hF hS => ?_)
          · exact obs_nil
          refine wp_ret ?_
          refine then_r ?_
          have hS := hS.pickN 1 [] (by decide)
          have hm : some ((r5.2 == 2) && ((r5.1.length : Int) == 0)) = some r := hm
          obtain rfl := Option.some.inj hm
          exact retV (rs := [.tmp 6]) (vs := [.bool ((r5.2 == 2) && ((r5.1.length : Int) == 0))]) hF rfl (rv_t (by kernel_rfl) <| rv_nil) rfl ⟨rfl, hS⟩
        · replace hm := if_f hm hb
          refine wp_skip ?_
          refine then_n ?_
          exact ⟨hF.weak [1, 2, 11, 12] (by kernel_rfl), hS, hm⟩
    · refine reg [] [] [0, 1, 2, 9, 10, 11, 12, 61] [pl 0 (.slice A1 l1.length c1), pl 1 (.int .i64 n2), pl 2 (.int .i64 k1), pl 9 (.int .i64 r4.1), pl 10 (.int .i64 r4.2), pl 11 (.slice A4 r5.1.length c4), pl 12 (.int .i64 r5.2), pl 61 (.bool (decide ((12 : Int) < (l1.length : Int))))] hF hS Fol (by kernel_rfl) (by kernel_rfl) (by kernel_rfl) ?_ (fun a w hF hS => ?_)
      · exact obs_nil
      refine cond_ev (t := 61) (b := decide ((12 : Int) < (l1.length : Int))) hF (by kernel_rfl) (fun hb => ?_) (fun hb => ?_)
      · replace hm := if_t hm hb
        refine reg [] [] [1, 2, 11, 12, 67] [pl 1 (.int .i64 n2), pl 2 (.int .i64 k1), pl 11 (.slice A4 r5.1.length c4), pl 12 (.int .i64 r5.2), pl 67 (.bool ((r4.2 != 2) || (r4.1 != 0)))] hF hS Fol (by kernel_rfl) (by kernel_rfl) (by kernel_rfl) ?_ (fun a w hF hS => ?_)
        · exact obs_nil
        refine cond_ev (t := 67) (b := (r4.2 != 2) || (r4.1 != 0)) hF (by kernel_rfl) (fun hb => ?_) (fun hb => ?_)
        · replace hm := if_t hm hb
          refine reg [] [] [6] [pl 6 (.bool false)] hF hS Fol (by kernel_rfl) (by kernel_rfl) (by kernel_rfl) ?_ (fun a w hF hS => ?_)
          · exact obs_nil
          refine wp_ret ?_
          refine then_r ?_
          have hS := hS.pickN 1 [] (by decide)
          have hm : some false = some r := hm
          obtain rfl := Option.some.inj hm
          exact retV (rs := [.tmp 6]) (vs := [.bool false]) hF rfl (rv_t (by kernel_rfl) <| rv_nil) rfl ⟨rfl, hS⟩
        · replace hm := if_f hm hb
          refine wp_skip ?_
          refine then_n ?_
          exact ⟨hF.weak [1, 2, 11, 12] (by kernel_rfl), hS, hm⟩
      · replace hm := if_f hm hb
        obtain ⟨r8, hr8, hm⟩ := call_b hm
        refine reg [⟨false, [], callFunc 19 #[.slice A1 l1.length c1], .bool r8⟩] [none, some (.bool r8), none] [0, 1, 2, 9, 10, 11, 12, 70] [pl 0 (.slice A1 l1.length c1), pl 1 (.int .i64 n2), pl 2 (.int .i64 k1), pl 9 (.int .i64 r4.1), pl 10 (.int .i64 r4.2), pl 11 (.slice A4 r5.1.length c4), pl 12 (.int .i64 r5.2), pl 70 (.bool (!r8))] hF hS Fol (by kernel_rfl) (by kernel_rfl) (by kernel_rfl) ?_ (fun a w hF hS => ?_)
        · exact obs_cons (ob_call Try.func19 (by kernel_rfl) rfl (fun _ _ hS => gameroomref_OrderIs_w hr8 hS (fun _ hS => (hr_l1 _ (hS.dropN 1))) _hc_l1 rfl)) <| obs_nil
        refine cond_ev (t := 70) (b := !r8) hF (by kernel_rfl) (fun hb => ?_) (fun hb => ?_)
        · replace hm := if_t hm hb
          refine reg [] [] [1, 2, 11, 12, 76] [pl 1 (.int .i64 n2), pl 2 (.int .i64 k1), pl 11 (.slice A4 r5.1.length c4), pl 12 (.int .i64 r5.2), pl 76 (.bool ((r4.2 != 1) || (r4.1 != 0)))] hF hS Fol (by kernel_rfl) (by kernel_rfl) (by kernel_rfl) ?_ (fun a w hF hS => ?_)
          · exact obs_nil
          refine cond_ev (t := 76) (b := (r4.2 != 1) || (r4.1 != 0)) hF (by kernel_rfl) (fun hb => ?_) (fun hb => ?_)
          · replace hm := if_t hm hb
            refine reg [] [] [6] [pl 6 (.bool false)] hF hS Fol (by kernel_rfl) (by kernel_rfl) (by kernel_rfl) ?_ (fun a w hF hS => ?_)
            · exact obs_nil
            refine wp_ret ?_
            refine then_r ?_
            have hS := hS.pickN 1 [] (by decide)
            have hm : some false = some r := hm
            obtain rfl := Option.some.inj hm
            exact retV (rs := [.tmp 6]) (vs := [.bool false]) hF rfl (rv_t (by kernel_rfl) <| rv_nil) rfl ⟨rfl, hS⟩
          · replace hm := if_f hm hb
            refine wp_skip ?_
            refine then_n ?_
            exact ⟨hF.weak [1, 2, 11, 12] (by kernel_rfl), hS, hm⟩
        · replace hm := if_f hm hb
          obtain ⟨r9, hr9, hm⟩ := call_b hm
          refine reg [⟨false, [((r4.2 != 0), false)], callFunc 21 #[.slice A1 l1.length c1], .int .i64 r9⟩] [none, none, none, none, none, some (.int .i64 r9), none, none] [1, 2, 11, 12, 84] [pl 1 (.int .i64 n2), pl 2 (.int .i64 k1), pl 11 (.slice A4 r5.1.length c4), pl 12 (.int .i64 r5.2), pl 84 (.bool ((r4.2 != 0) || (r4.1 != r9)))] hF hS Fol (by kernel_rfl) (by kernel_rfl) (by kernel_rfl) ?_ (fun a w hF hS => ?_)
          · exact obs_cons (ob_call Try.func21 (by kernel_rfl) rfl (fun hy _ hS => gameroomref_NumberOf_w (ite_some hr9 (by rw [show (r4.2 != 0) = false from hy ((r4.2 != 0), false) (by simp)]; try rfl)) hS (fun _ hS => (hr_l1 _ (hS.dropN 1))) _hc_l1 rfl)) <| obs_nil
          refine cond_ev (t := 84) (b := (r4.2 != 0) || (r4.1 != r9)) hF (by kernel_rfl) (fun hb => ?_) (fun hb => ?_)
          · replace hm := if_t hm hb
            refine reg [] [] [6] [pl 6 (.bool false)] hF hS Fol (by kernel_rfl) (by kernel_rfl) (by kernel_rfl) ?_ (fun a w hF hS => ?_)
            · exact obs_nil
            refine wp_ret ?_
            refine then_r ?_
            have hS := hS.pickN 1 [] (by decide)
            have hm : some false = some r := hm
            obtain rfl := Option.some.inj hm
            exact retV (rs := [.tmp 6]) (vs := [.bool false]) hF rfl (rv_t (by kernel_rfl) <| rv_nil) rfl ⟨rfl, hS⟩
          · replace hm := if_f hm hb
            refine wp_skip ?_
            refine then_n ?_
            exact ⟨hF.weak [1, 2, 11, 12] (by kernel_rfl), hS, hm⟩
  · refine reg [] [] [0, 1, 2, 7, 8, 9, 10, 11, 12, 35] [pl 0 (.slice A1 l1.length c1), pl 1 (.int .i64 n2), pl 2 (.int .i64 k1), pl 7 (.int .i64 r2.1), pl 8 (.int .i64 r2.2), pl 9 (.int .i64 r4.1), pl 10 (.int .i64 r4.2), pl 11 (.slice A4 r5.1.length c4), pl 12 (.int .i64 r5.2), pl 35 (.bool (decide ((104 : Int) < (l1.length : Int))))] hF hS Fol (by kernel_rfl) (by kernel_rfl) (by kernel_rfl) ?_ (fun a w hF hS => ?_)
    · exact obs_nil
    refine cond_ev (t := 35) (b := decide ((104 : Int) < (l1.length : Int))) hF (by kernel_rfl) (fun hb => ?_) (fun hb => ?_)
    · replace hm := if_t hm hb
      refine reg [] [] [0, 1, 2, 9, 10, 11, 12, 41] [pl 0 (.slice A1 l1.length c1), pl 1 (.int .i64 n2), pl 2 (.int .i64 k1), pl 9 (.int .i64 r4.1), pl 10 (.int .i64 r4.2), pl 11 (.slice A4 r5.1.length c4), pl 12 (.int .i64 r5.2), pl 41 (.bool ((r2.2 != 2) || (r2.1 != 0)))] hF hS Fol (by kernel_rfl) (by kernel_rfl) (by kernel_rfl) ?_ (fun a w hF hS => ?_)
      · exact obs_nil
      refine cond_ev (t := 41) (b := (r2.2 != 2) || (r2.1 != 0)) hF (by kernel_rfl) (fun hb => ?_) (fun hb => ?_)
      · replace hm := if_t hm hb
        refine reg [] [] [6] [pl 6 (.bool false)] hF hS Fol (by kernel_rfl) (by kernel_rfl) (by kernel_rfl) ?_ (fun a w hF hS => ?_)
        · exact obs_nil
        refine wp_ret ?_
        refine then_r ?_
        have hS := hS.pickN 3 [] (by decide)
        have hm : some false = some r := hm
        obtain rfl := Option.some.inj hm
        exact retV (rs := [.tmp 6]) (vs := [.bool false]) hF rfl (rv_t (by kernel_rfl) <| rv_nil) rfl ⟨rfl, hS⟩
      · replace hm := if_f hm hb
        refine wp_skip ?_
        refine then_n ?_
        have hS := hS.pickN 3 [0] (by decide)
        exact ⟨hF.weak [0, 1, 2, 9, 10, 11, 12] (by kernel_rfl), hS, hm⟩
    · replace hm := if_f hm hb
      obtain ⟨r6, hr6, hm⟩ := call_b hm
      refine reg [⟨false, [], callFunc 19 #[.slice A1 l1.length c1], .bool r6⟩] [none, some (.bool r6), none] [0, 1, 2, 7, 8, 9, 10, 11, 12, 44] [pl 0 (.slice A1 l1.length c1), pl 1 (.int .i64 n2), pl 2 (.int .i64 k1), pl 7 (.int .i64 r2.1), pl 8 (.int .i64 r2.2), pl 9 (.int .i64 r4.1), pl 10 (.int .i64 r4.2), pl 11 (.slice A4 r5.1.length c4), pl 12 (.int .i64 r5.2), pl 44 (.bool (!r6))] hF hS Fol (by kernel_rfl) (by kernel_rfl) (by kernel_rfl) ?_ (fun a w hF hS => ?_)
      · exact obs_cons (ob_call Try.func19 (by kernel_rfl) rfl (fun _ _ hS => gameroomref_OrderIs_w hr6 hS (fun _ hS => (hr_l1 _ (hS.dropN 3))) _hc_l1 rfl)) <| obs_nil
      refine cond_ev (t := 44) (b := !r6) hF (by kernel_rfl) (fun hb => ?_) (fun hb => ?_)
      · replace hm := if_t hm hb
        refine reg [] [] [0, 1, 2, 9, 10, 11, 12, 50] [pl 0 (.slice A1 l1.length c1), pl 1 (.int .i64 n2), pl 2 (.int .i64 k1), pl 9 (.int .i64 r4.1), pl 10 (.int .i64 r4.2), pl 11 (.slice A4 r5.1.length c4), pl 12 (.int .i64 r5.2), pl 50 (.bool ((r2.2 != 1) || (r2.1 != 0)))] hF hS Fol (by kernel_rfl) (by kernel_rfl) (by kernel_rfl) ?_ (fun a w hF hS => ?_)
        · exact obs_nil
        refine cond_ev (t := 50) (b := (r2.2 != 1) || (r2.1 != 0)) hF (by kernel_rfl) (fun hb => ?_) (fun hb => ?_)
        · replace hm := if_t hm hb
          refine reg [] [] [6] [pl 6 (.bool false)] hF hS Fol (by kernel_rfl) (by kernel_rfl) (by kernel_rfl) ?_ (fun a w hF hS => ?_)
          · exact obs_nil
          refine wp_ret ?_
          refine then_r ?_
          have hS := hS.pickN 3 [] (by decide)
          have hm : some false = some r := hm
          obtain rfl := Option.some.inj hm
          exact retV (rs := [.tmp 6]) (vs := [.bool false]) hF rfl (rv_t (by kernel_rfl) <| rv_nil) rfl ⟨rfl, hS⟩
        · replace hm := if_f hm hb
          refine wp_skip ?_
          refine then_n ?_
          have hS := hS.pickN 3 [0] (by decide)
          exact ⟨hF.weak [0, 1, 2, 9, 10, 11, 12] (by kernel_rfl), hS, hm⟩
      · replace hm := if_f hm hb
        obtain ⟨r7, hr7, hm⟩ := call_b hm
        refine reg [⟨false, [((r2.2 != 0), false)], callFunc 20 #[.slice A1 l1.length c1], .int .i64 r7⟩] [none, none, none, none, none, some (.int .i64 r7), none, none] [0, 1, 2, 9, 10, 11, 12, 58] [pl 0 (.slice A1 l1.length c1), pl 1 (.int .i64 n2), pl 2 (.int .i64 k1), pl 9 (.int .i64 r4.1), pl 10 (.int .i64 r4.2), pl 11 (.slice A4 r5.1.length c4), pl 12 (.int .i64 r5.2), pl 58 (.bool ((r2.2 != 0) || (r2.1 != r7)))] hF hS Fol (by kernel_rfl) (by kernel_rfl) (by kernel_rfl) ?_ (fun a w hF hS => ?_)
        · exact obs_cons (ob_call Try.func20 (by kernel_rfl) rfl (fun hy _ hS => gameroomref_SignOf_w (ite_some hr7 (by rw [show (r2.2 != 0) = false from hy ((r2.2 != 0), false) (by simp)]; try rfl)) hS (fun _ hS => (hr_l1 _ (hS.dropN 3))) _hc_l1 rfl)) <| obs_nil
        refine cond_ev (t := 58) (b := (r2.2 != 0) || (r2.1 != r7)) hF (by kernel_rfl) (fun hb => ?_) (fun hb => ?_)
        · replace hm := if_t hm hb
          refine reg [] [] [6] [pl 6 (.bool false)] hF hS Fol (by kernel_rfl) (by kernel_rfl) (by kernel_rfl) ?_ (fun a w hF hS => ?_)
          · exact obs_nil
          refine wp_ret ?_
          refine then_r ?_
          have hS := hS.pickN 3 [] (by decide)
          have hm : some false = some r := hm
          obtain rfl := Option.some.inj hm
          exact retV (rs := [.tmp 6]) (vs := [.bool false]) hF rfl (rv_t (by kernel_rfl) <| rv_nil) rfl ⟨rfl, hS⟩
        · replace hm := if_f hm hb
          refine wp_skip ?_
          refine then_n ?_
          have hS := hS.pickN 3 [0] (by decide)
          exact ⟨hF.weak [0, 1, 2, 9, 10, 11, 12] (by kernel_rfl), hS, hm⟩

end Go.Proofs.Ytlkdblflibgfpaa
