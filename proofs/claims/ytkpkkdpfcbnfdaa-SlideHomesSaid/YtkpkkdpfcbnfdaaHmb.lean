/-
  Models and walks, printed by our own program (wip/gen).
-/
import Derived.Test.YtkpkkdpfcbnfdaaFB
import Derived.Test.YtkpkkdpfcbnfdaaLibJ
import Derived.Test.YtkpkkdpfcbnfdaaLibD
import Derived.Test.YtkpkkdpfcbnfdaaFE
import Derived.Test.YtkpkkdpfcbnfdaaLibPl
import Derived.Test.YtkpkkdpfcbnfdaaFM
import Derived.Test.YtkpkkdpfcbnfdaaLibG
import Derived.Test.YtkpkkdpfcbnfdaaSI
import Derived.Test.YtkpkkdpfcbnfdaaHma
namespace Go.Proofs.Ytkpkkdpfcbnfdaa
open Go Go.GL Go.RowKit

noncomputable def slide_Count_1_m  (ring1 : List (Int × Int × List Int × Int)) (p11 : List ((Int × Int × Int × Int × Int × Int) × Int)) (p21 : Int) (p31 : Int) : Option (Bool × Int × Int) :=
  if (p21 == 0) then ((slide_Count_1_J1 p21) (ring1.length : Int)) else ((slide_Count_1_J1 p21) p31)

set_option maxRecDepth 100000 in
set_option maxHeartbeats 4000000 in
theorem slide_Count_1_w  {A1 : Option Addr} {c1 : Nat} {n1 : Nat} {raw1 : List (Nat × Hd3)} {ring1 : List (Int × Int × List Int × Int)} {pg1 : HP} {g1 : Nat} {p11 : List ((Int × Int × Int × Int × Int × Int) × Int)} {g2 : Nat} {p21 : Int} {g3 : Nat} {p31 : Int} {r : (Bool × Int × Int)} {w0 w : World} {B : Nat} {fs : List HP} (hm : slide_Count_1_m ring1 p11 p21 p31 = some r) (hS : Sep w0 B w (pg1 :: mapH kf98 (Value.int .i64) g1 p11 :: blk g2 3 #[.int .i64 p21] :: blk g3 3 #[.int .i64 p31] :: fs)) (hr_ring1 : PoolE encP100 Rel100 pg1 A1 raw1 ring1) (_hc_ring1 : ring1.length ≤ c1) (_hn_ring1 : n1 = ring1.length) :
    Calls Try.prog 59 #[.slice A1 n1 c1, .map (some g1), .pointer (some ⟨g2, 0, none⟩), .pointer (some ⟨g3, 0, none⟩)] w fun e w' => ∃ v, e = .returned v ∧ v = .bool r.1 ∧ (PoolLe pg1 pg1) ∧ Sep w0 B w' (pg1 :: mapH kf98 (Value.int .i64) g1 p11 :: blk g2 3 #[.int .i64 r.2.1] :: blk g3 3 #[.int .i64 r.2.2] :: fs) := by
  obtain ⟨i3, hi3, hz3, hs3, hb3⟩ := info_parts Info3
  obtain rfl := _hn_ring1
  unfold slide_Count_1_m at hm
  replace hm := start_b hm
  refine enter (l := [.slice A1 ring1.length c1, .map (some g1), .pointer (some ⟨g2, 0, none⟩), .pointer (some ⟨g3, 0, none⟩)]) (n := 15) Try.func59 rfl rfl (by simp) (fun a hF => ?_)
  refine reg [] [] [0, 2, 3] [pl 0 (.slice A1 ring1.length c1), pl 2 (.pointer (some ⟨g2, 0, none⟩)), pl 3 (.pointer (some ⟨g3, 0, none⟩))] hF hS Fol (by kernel_rfl) (by kernel_rfl) (by kernel_rfl) ?_ (fun a w hF hS => ?_)
  · exact obs_nil
  refine seq_cut (fun a w => ∃ (p33 : Int), Fr 15 [pl 2 (.pointer (some ⟨g2, 0, none⟩))] a ∧ Sep w0 B w (blk g2 3 #[.int .i64 p21] :: pg1 :: mapH kf98 (Value.int .i64) g1 p11 :: blk g3 3 #[.int .i64 p33] :: fs) ∧ ((slide_Count_1_J1 p21) p33).bind some = some r) ?_ ?_
  · rintro a w ⟨p33, hF, hS, hm⟩
    unfold slide_Count_1_J1 at hm
    refine seqR ?_
    refine at_run 2 [⟨false, [], vS (Instr.loadAt 3 (.pointer (some ⟨g2, 0, none⟩))), .int .i64 p21⟩] [some (.int .i64 p21), none] [2, 12] [pl 2 (.pointer (some ⟨g2, 0, none⟩)), pl 12 (.int .i64 (w64 (p21 - 1)))] hF hS (by kernel_rfl) (by kernel_rfl) ?_ (fun a w hF hS => ?_)
    · exact obs_cons (ob_load Agg3 (fun _ _ hS => (hS.at_ 0 rfl).cell rfl)) <| obs_nil
    obtain ⟨w, hrun, hS⟩ := run_put (P := Try.prog) (t := 3) (u := .int .i64 (w64 (p21 - 1))) (i := 0) (hS.at_ 0 rfl) hi3 hs3 rfl (Nat.lt_of_lt_of_eq (Nat.lt_of_succ_le (Nat.le_of_ble_eq_true (by kernel_rfl))) rfl)
    refine at_skip hF (by kernel_rfl) hrun ?_
    have hS : Sep w0 B w (blk g2 3 #[.int .i64 (w64 (p21 - 1))] :: pg1 :: mapH kf98 (Value.int .i64) g1 p11 :: blk g3 3 #[.int .i64 p33] :: fs) := hS
    refine at_end [2] [pl 2 (.pointer (some ⟨g2, 0, none⟩))] hF rfl (by kernel_rfl) (fun hF => ?_)
    refine then_n ?_
    refine reg [⟨false, [], vS (Instr.loadAt 3 (.pointer (some ⟨g2, 0, none⟩))), .int .i64 (w64 (p21 - 1))⟩] [some (.int .i64 (w64 (p21 - 1))), none, none] [6] [pl 6 (.bool (decide ((0 : Int) ≤ (w64 (p21 - 1)))))] hF hS Fol (by kernel_rfl) (by kernel_rfl) (by kernel_rfl) ?_ (fun a w hF hS => ?_)
    · exact obs_cons (ob_load Agg3 (fun _ _ hS => (hS.at_ 0 rfl).cell rfl)) <| obs_nil
    refine wpIn_ret ?_
    have hS := hS.pickN 4 [1, 2, 0, 3] (by decide)
    have hm : some ((decide ((0 : Int) ≤ (w64 (p21 - 1)))), (w64 (p21 - 1)), p33) = some r := hm
    obtain rfl := Option.some.inj hm
    exact retV (rs := [.tmp 6]) (vs := [.bool (decide ((0 : Int) ≤ (w64 (p21 - 1))))]) hF rfl (rv_t (by kernel_rfl) <| rv_nil) rfl ⟨_, rfl, rfl, (PoolLe.refl _), hS⟩
  · refine reg [⟨false, [], vS (Instr.loadAt 3 (.pointer (some ⟨g2, 0, none⟩))), .int .i64 p21⟩] [some (.int .i64 p21), none] [0, 2, 3, 8] [pl 0 (.slice A1 ring1.length c1), pl 2 (.pointer (some ⟨g2, 0, none⟩)), pl 3 (.pointer (some ⟨g3, 0, none⟩)), pl 8 (.bool (p21 == 0))] hF hS Fol (by kernel_rfl) (by kernel_rfl) (by kernel_rfl) ?_ (fun a w hF hS => ?_)
    · exact obs_cons (ob_load Agg3 (fun _ _ hS => (hS.at_ 2 rfl).cell rfl)) <| obs_nil
    refine cond_ev (t := 8) (b := (p21 == 0)) hF (by kernel_rfl) (fun hb => ?_) (fun hb => ?_)
    · replace hm := if_t hm hb
      refine oneR ?_
      refine at_run 2 [] [] [2, 3, 10] [pl 2 (.pointer (some ⟨g2, 0, none⟩)), pl 3 (.pointer (some ⟨g3, 0, none⟩)), pl 10 (.int .i64 (ring1.length : Int))] hF hS (by kernel_rfl) (by kernel_rfl) ?_ (fun a w hF hS => ?_)
      · exact obs_nil
      obtain ⟨w, hrun, hS⟩ := run_put (P := Try.prog) (t := 3) (u := .int .i64 (ring1.length : Int)) (i := 0) (hS.at_ 3 rfl) hi3 hs3 rfl (Nat.lt_of_lt_of_eq (Nat.lt_of_succ_le (Nat.le_of_ble_eq_true (by kernel_rfl))) rfl)
      refine at_skip hF (by kernel_rfl) hrun ?_
      have hS : Sep w0 B w (pg1 :: mapH kf98 (Value.int .i64) g1 p11 :: blk g2 3 #[.int .i64 p21] :: blk g3 3 #[.int .i64 (ring1.length : Int)] :: fs) := hS
      refine at_end [2] [pl 2 (.pointer (some ⟨g2, 0, none⟩))] hF rfl (by kernel_rfl) (fun hF => ?_)
      refine then_n ?_
      have hS := hS.pickN 4 [2, 0, 1, 3] (by decide)
      exact ⟨(ring1.length : Int), hF.weak [2] (by kernel_rfl), hS, hm⟩
    · replace hm := if_f hm hb
      refine wpIn_skip ?_
      refine then_n ?_
      have hS := hS.pickN 4 [2, 0, 1, 3] (by decide)
      exact ⟨p31, hF.weak [2] (by kernel_rfl), hS, hm⟩

noncomputable def slide_rings_2_J8  (z5 : Int) (came6 : List ((Int × Int × Int × Int × Int × Int) × Int)) (next5 : List (Int × Int × List Int × Int)) (z7 : List (Int × Int × List Int × Int)) : Option (St (List ((Int × Int × Int × Int × Int × Int) × Int) × List (Int × Int × List Int × Int) × List (Int × Int × List Int × Int) × Int) (List ((Int × Int × Int × Int × Int × Int) × Int) × List (Int × Int × List Int × Int) × List (Int × Int × List Int × Int))) :=
  some (.next (came6, next5, z7, (w64 (z5 + 1))))

noncomputable def slide_rings_2_J9  (z2 : List (Int × Int × List Int × Int)) (z3 : Int) (came4 : List ((Int × Int × Int × Int × Int × Int) × Int)) (next3 : List (Int × Int × List Int × Int)) (z4 : List (Int × Int × List Int × Int)) (z5 : Int) (u1 : List Int) (u2 : Int) : Option (St (List ((Int × Int × Int × Int × Int × Int) × Int) × List (Int × Int × List Int × Int) × List (Int × Int × List Int × Int) × Int) (List ((Int × Int × Int × Int × Int × Int) × Int) × List (Int × Int × List Int × Int) × List (Int × Int × List Int × Int))) :=
  (slide_nameOf_m u1).bind fun r6 => if (!(mhas (geti r6 0, geti r6 1, geti r6 2, geti r6 3, geti r6 4, geti r6 5) came4)) then ((slide_nameOf_m u1).bind fun r7 => asrt ((next3.length : Int) + 1 ≤ bigK) <| (slide_rings_2_J8 z5) (mput (geti r7 0, geti r7 1, geti r7 2, geti r7 3, geti r7 4, geti r7 5) z5 came4) (next3 ++ ([((getd zP100 z2 z3).1, (getd zP100 z2 z3).2.1, u1, u2)] : List (Int × Int × List Int × Int))) z4) else ((slide_rings_2_J8 z5) came4 next3 z4)

noncomputable def slide_rings_2_J7  (z2 : List (Int × Int × List Int × Int)) (z3 : Int) (came4 : List ((Int × Int × Int × Int × Int × Int) × Int)) (next3 : List (Int × Int × List Int × Int)) (z4 : List (Int × Int × List Int × Int)) (z5 : Int) : Option (St (List ((Int × Int × Int × Int × Int × Int) × Int) × List (Int × Int × List Int × Int) × List (Int × Int × List Int × Int) × Int) (List ((Int × Int × Int × Int × Int × Int) × Int) × List (Int × Int × List Int × Int) × List (Int × Int × List Int × Int))) :=
  (slices_Clone_m ((getd zP100 z2 z3).2.2.1)).bind fun r4 => (slide_tray_move_m ((getd zP100 z2 z3).1) ((getd zP100 z2 z3).2.1) r4 ((getd zP100 z2 z3).2.2.2) z5).bind fun r5 => if (!r5.1) then ((slide_rings_2_J8 z5) came4 next3 z4) else ((slide_rings_2_J9 z2 z3 came4 next3 z4 z5) r5.2.1 r5.2.2)

noncomputable def slide_rings_2_L3  (z2 : List (Int × Int × List Int × Int)) (z3 : Int) : (List ((Int × Int × Int × Int × Int × Int) × Int) × List (Int × Int × List Int × Int) × List (Int × Int × List Int × Int) × Int) → Option (St (List ((Int × Int × Int × Int × Int × Int) × Int) × List (Int × Int × List Int × Int) × List (Int × Int × List Int × Int) × Int) (List ((Int × Int × Int × Int × Int × Int) × Int) × List (Int × Int × List Int × Int) × List (Int × Int × List Int × Int))) :=
  fun (x : (List ((Int × Int × Int × Int × Int × Int) × Int) × List (Int × Int × List Int × Int) × List (Int × Int × List Int × Int) × Int)) => match x with | (came4, next3, z4, z5) => if (decide (z5 < 4)) then ((slide_rings_2_J7 z2 z3 came4 next3 z4 z5)) else (some (.done (came4, next3, z4)))

noncomputable def slide_rings_2_J6  (z3 : Int) (came5 : List ((Int × Int × Int × Int × Int × Int) × Int)) (next4 : List (Int × Int × List Int × Int)) (z6 : List (Int × Int × List Int × Int)) : Option (St (List ((Int × Int × Int × Int × Int × Int) × Int) × List (Int × Int × List Int × Int) × List (Int × Int × List Int × Int) × Int) (List ((Int × Int × Int × Int × Int × Int) × Int) × List (Int × Int × List Int × Int))) :=
  some (.next (came5, next4, z6, (w64 (z3 + 1))))

noncomputable def slide_rings_2_K3  (z3 : Int) : (List ((Int × Int × Int × Int × Int × Int) × Int) × List (Int × Int × List Int × Int) × List (Int × Int × List Int × Int)) → Option (St (List ((Int × Int × Int × Int × Int × Int) × Int) × List (Int × Int × List Int × Int) × List (Int × Int × List Int × Int) × Int) (List ((Int × Int × Int × Int × Int × Int) × Int) × List (Int × Int × List Int × Int))) :=
  fun (x : (List ((Int × Int × Int × Int × Int × Int) × Int) × List (Int × Int × List Int × Int) × List (Int × Int × List Int × Int))) => match x with | (came5, next4, z6) => (slide_rings_2_J6 z3) came5 next4 z6

noncomputable def slide_rings_2_J5  (came2 : List ((Int × Int × Int × Int × Int × Int) × Int)) (next1 : List (Int × Int × List Int × Int)) (z2 : List (Int × Int × List Int × Int)) (z3 : Int) : Option (St (List ((Int × Int × Int × Int × Int × Int) × Int) × List (Int × Int × List Int × Int) × List (Int × Int × List Int × Int) × Int) (List ((Int × Int × Int × Int × Int × Int) × Int) × List (Int × Int × List Int × Int))) :=
  asrt (0 ≤ z3 ∧ z3 < (z2.length : Int)) <| (loop (slide_rings_2_L3 z2 z3) (came2, next1, z2, 0)).bind (slide_rings_2_K3 z3)

noncomputable def slide_rings_2_L2  (ring1 : List (Int × Int × List Int × Int)) : (List ((Int × Int × Int × Int × Int × Int) × Int) × List (Int × Int × List Int × Int) × List (Int × Int × List Int × Int) × Int) → Option (St (List ((Int × Int × Int × Int × Int × Int) × Int) × List (Int × Int × List Int × Int) × List (Int × Int × List Int × Int) × Int) (List ((Int × Int × Int × Int × Int × Int) × Int) × List (Int × Int × List Int × Int))) :=
  fun (x : (List ((Int × Int × Int × Int × Int × Int) × Int) × List (Int × Int × List Int × Int) × List (Int × Int × List Int × Int) × Int)) => match x with | (came2, next1, z2, z3) => if (decide (z3 < (ring1.length : Int))) then ((slide_rings_2_J5 came2 next1 z2 z3)) else (some (.done (came2, next1)))

noncomputable def slide_rings_2_J4  (tell5 : Int) (tell6 : Int) (came3 : List ((Int × Int × Int × Int × Int × Int) × Int)) (next2 : List (Int × Int × List Int × Int)) : Option (St (Int × Int × List ((Int × Int × Int × Int × Int × Int) × Int) × List (Int × Int × List Int × Int)) (Int × Int)) :=
  some (.next (tell5, tell6, came3, next2))

noncomputable def slide_rings_2_K2  (tell5 : Int) (tell6 : Int) : (List ((Int × Int × Int × Int × Int × Int) × Int) × List (Int × Int × List Int × Int)) → Option (St (Int × Int × List ((Int × Int × Int × Int × Int × Int) × Int) × List (Int × Int × List Int × Int)) (Int × Int)) :=
  fun (x : (List ((Int × Int × Int × Int × Int × Int) × Int) × List (Int × Int × List Int × Int))) => match x with | (came3, next2) => (slide_rings_2_J4 tell5 tell6) came3 next2

noncomputable def slide_rings_2_J2  (came1 : List ((Int × Int × Int × Int × Int × Int) × Int)) (ring1 : List (Int × Int × List Int × Int)) (tell5 : Int) (tell6 : Int) : Option (St (Int × Int × List ((Int × Int × Int × Int × Int × Int) × Int) × List (Int × Int × List Int × Int)) (Int × Int)) :=
  (loop (slide_rings_2_L2 ring1) (came1, ([] : List (Int × Int × List Int × Int)), ring1, 0)).bind (slide_rings_2_K2 tell5 tell6)

noncomputable def slide_rings_2_J3  (came1 : List ((Int × Int × Int × Int × Int × Int) × Int)) (ring1 : List (Int × Int × List Int × Int)) (tell3 : Int) (tell4 : Int) (z1 : Bool) : Option (St (Int × Int × List ((Int × Int × Int × Int × Int × Int) × Int) × List (Int × Int × List Int × Int)) (Int × Int)) :=
  if z1 then ((slide_rings_2_J2 came1 ring1) tell3 tell4) else (some (.done (tell3, tell4)))

noncomputable def slide_rings_2_J1  (v5 : Int) (v6 : Int) : Option (Int × Int) :=
  some (v5, v6)

noncomputable def slide_rings_2_K1  : (Int × Int) → Option (Int × Int) :=
  fun (x : (Int × Int)) => match x with | (v5, v6) => slide_rings_2_J1 v5 v6

noncomputable def slide_rings_2_L1  : (Int × Int × List ((Int × Int × Int × Int × Int × Int) × Int) × List (Int × Int × List Int × Int)) → Option (St (Int × Int × List ((Int × Int × Int × Int × Int × Int) × Int) × List (Int × Int × List Int × Int)) (Int × Int)) :=
  fun (x : (Int × Int × List ((Int × Int × Int × Int × Int × Int) × Int) × List (Int × Int × List Int × Int))) => match x with | (tell1, tell2, came1, ring1) => if (decide ((0 : Int) < (ring1.length : Int))) then ((slide_Count_1_m ring1 came1 tell1 tell2).bind fun r3 => (slide_rings_2_J3 came1 ring1) r3.2.1 r3.2.2 ((decide ((0 : Int) < (ring1.length : Int))) && r3.1)) else ((slide_rings_2_J3 came1 ring1) tell1 tell2 ((decide ((0 : Int) < (ring1.length : Int))) && false))

noncomputable def slide_rings_2_m  (g1 : Int) (g2 : Int) (g3 : List Int) (v1 : Int) (v2 : Int) : Option (Int × Int) :=
  (slide_nameOf_m g3).bind fun r1 => (slide_newTray_m g1 g2 g3).bind fun r2 => (loop slide_rings_2_L1 (v1, v2, (mput (geti r1 0, geti r1 1, geti r1 2, geti r1 3, geti r1 4, geti r1 5) (-1) ([] : List ((Int × Int × Int × Int × Int × Int) × Int))), ([r2] : List (Int × Int × List Int × Int)))).bind slide_rings_2_K1

set_option maxRecDepth 100000 in
set_option maxHeartbeats 4000000 in
theorem slide_rings_2_w  {g1 : Int} {g2 : Int} {A1 : Option Addr} {c1 : Nat} {n1 : Nat} {g3 : List Int} {g4 : Nat} {v1 : Int} {g5 : Nat} {v2 : Int} {r : (Int × Int)} {w0 w : World} {B : Nat} {fs : List HP} (hm : slide_rings_2_m g1 g2 g3 v1 v2 = some r) (hS : Sep w0 B w (blk g4 3 #[.int .i64 v1] :: blk g5 3 #[.int .i64 v2] :: fs)) (hr_g3 : RdF w0 B fs A1 (vI g3)) (_hc_g3 : g3.length ≤ c1) (_hn_g3 : n1 = g3.length) :
    Calls Try.prog 52 #[.agg #[.int .i64 g1, .int .i64 g2, .slice A1 n1 c1], .func (.func 59) #[] #[.pointer (some ⟨g4, 0, none⟩), .pointer (some ⟨g5, 0, none⟩)]] w fun e w' => ∃ v, e = .returned v ∧ v = .tuple #[] ∧ Sep w0 B w' (blk g4 3 #[.int .i64 r.1] :: blk g5 3 #[.int .i64 r.2] :: fs) := by
  obtain ⟨i3, hi3, hz3, hs3, hb3⟩ := info_parts Info3
  obtain ⟨i22, hi22, hz22, hs22, hb22⟩ := info_parts Info22
  obtain ⟨i100, hi100, hz100, hs100, hb100⟩ := info_parts Info100
  obtain rfl := _hn_g3
  unfold slide_rings_2_m at hm
  replace hm := start_b hm
  refine enter (l := [.agg #[.int .i64 g1, .int .i64 g2, .slice A1 g3.length c1], .func (.func 59) #[] #[.pointer (some ⟨g4, 0, none⟩), .pointer (some ⟨g5, 0, none⟩)]]) (n := 91) Try.func52 rfl rfl (by simp) (fun a hF => ?_)
  refine end_cut (fun a w => ∃ (v5 : Int) (v6 : Int), Fr 91 [] a ∧ Sep w0 B w (blk g4 3 #[.int .i64 v5] :: blk g5 3 #[.int .i64 v6] :: fs) ∧ (slide_rings_2_J1 v5 v6).bind some = some r) ?_ ?_
  · rintro a w ⟨v5, v6, hF, hS, hm⟩
    unfold slide_rings_2_J1 at hm
    have hm : some (v5, v6) = some r := hm
    obtain rfl := Option.some.inj hm
    exact endV (rs := []) (vs := []) hF rfl (rv_nil) rfl ⟨_, rfl, rfl, hS⟩ rfl
  · refine seqR ?_
    refine at_do (d := 2) (s := vS (Instr.box 32 (.agg #[.int .i64 g1, .int .i64 g2, .slice A1 g3.length c1]))) (v := .pointer (some ⟨w.heap.size, 0, none⟩)) (w' := w.alloc (.cells #[.int .i64 g1, .int .i64 g2, .slice A1 g3.length c1] 32)) hF (by kernel_rfl) (by kernel_rfl) (by kernel_rfl) (fun a hF => ?_)
    have hS : Sep w0 B (w.alloc (.cells #[.int .i64 g1, .int .i64 g2, .slice A1 g3.length c1] 32)) (blk w.heap.size 32 #[.int .i64 g1, .int .i64 g2, .slice A1 g3.length c1] :: (blk g4 3 #[.int .i64 v1] :: blk g5 3 #[.int .i64 v2] :: fs)) := hS.box 32 #[.int .i64 g1, .int .i64 g2, .slice A1 g3.length c1]
    generalize w.heap.size = g6 at hF hS
    generalize w.alloc (.cells #[.int .i64 g1, .int .i64 g2, .slice A1 g3.length c1] 32) = w at hS ⊢
    refine at_end [1, 2] [pl 1 (.func (.func 59) #[] #[.pointer (some ⟨g4, 0, none⟩), .pointer (some ⟨g5, 0, none⟩)]), pl 2 (.pointer (some ⟨g6, 0, none⟩))] hF rfl (by kernel_rfl) (fun hF => ?_)
    refine then_n ?_
    refine seqR ?_
    obtain ⟨r1, hr1, hm⟩ := call_b hm
    refine at_do (d := 13) (s := vS (Instr.makeMap 95 none)) (v := .map (some w.heap.size)) (w' := w.alloc (.map #[] 0)) hF (by kernel_rfl) (by kernel_rfl) (by kernel_rfl) (fun a hF => ?_)
    have hS : Sep w0 B (w.alloc (.map #[] 0)) (mapH kf98 (Value.int .i64) w.heap.size ([] : List ((Int × Int × Int × Int × Int × Int) × Int)) :: (blk g6 32 #[.int .i64 g1, .int .i64 g2, .slice A1 g3.length c1] :: blk g4 3 #[.int .i64 v1] :: blk g5 3 #[.int .i64 v2] :: fs)) := hS.mapNew _ _
    generalize w.heap.size = g7 at hF hS
    generalize w.alloc (.map #[] 0) = w at hS ⊢
    refine at_run 3 [⟨false, [], vS (Instr.loadAt 22 (.pointer (some ⟨g6, 2, none⟩))), .slice A1 g3.length c1⟩, ⟨false, [], callFunc 55 #[.slice A1 g3.length c1], .agg (List.toArray (([] : List Value) ++ (arr1 (Value.int .i64) (0 : Int) 6 r1 ++ ([] : List Value))))⟩] [none, some (.slice A1 g3.length c1), some (.agg (List.toArray (([] : List Value) ++ (arr1 (Value.int .i64) (0 : Int) 6 r1 ++ ([] : List Value)))))] [1, 2, 13, 16] [pl 1 (.func (.func 59) #[] #[.pointer (some ⟨g4, 0, none⟩), .pointer (some ⟨g5, 0, none⟩)]), pl 2 (.pointer (some ⟨g6, 0, none⟩)), pl 13 (.map (some g7)), pl 16 (.agg (List.toArray (([] : List Value) ++ (arr1 (Value.int .i64) (0 : Int) 6 r1 ++ ([] : List Value)))))] hF hS (by kernel_rfl) (by kernel_rfl) ?_ (fun a w hF hS => ?_)
    · exact obs_cons (ob_load Agg22 (fun _ _ hS => (hS.at_ 1 rfl).cell rfl)) <| obs_cons (ob_call Try.func55 (by kernel_rfl) rfl (fun _ _ hS => slide_nameOf_w hr1 hS (fun _ hS => (hr_g3 _ (hS.dropN 4))) _hc_g3 rfl)) <| obs_nil
    obtain ⟨w, hrun, hS⟩ := run_mput (P := Try.prog) (t := 95) (vf := (Value.int .i64)) MK98 UndM95 (geti r1 0, geti r1 1, geti r1 2, geti r1 3, geti r1 4, geti r1 5) (-1) (hS.at_ 0 rfl)
    refine at_skip hF (by kernel_rfl) hrun ?_
    have hS : Sep w0 B w (mapH kf98 (Value.int .i64) g7 (mput (geti r1 0, geti r1 1, geti r1 2, geti r1 3, geti r1 4, geti r1 5) (-1) ([] : List ((Int × Int × Int × Int × Int × Int) × Int))) :: blk g6 32 #[.int .i64 g1, .int .i64 g2, .slice A1 g3.length c1] :: blk g4 3 #[.int .i64 v1] :: blk g5 3 #[.int .i64 v2] :: fs) := hS
    refine at_run 2 [] [] [1, 2, 4] [pl 1 (.func (.func 59) #[] #[.pointer (some ⟨g4, 0, none⟩), .pointer (some ⟨g5, 0, none⟩)]), pl 2 (.pointer (some ⟨g6, 0, none⟩)), pl 4 (.map (some g7))] hF hS (by kernel_rfl) (by kernel_rfl) ?_ (fun a w hF hS => ?_)
    · exact obs_nil
    refine at_end [1, 2, 4] [pl 1 (.func (.func 59) #[] #[.pointer (some ⟨g4, 0, none⟩), .pointer (some ⟨g5, 0, none⟩)]), pl 2 (.pointer (some ⟨g6, 0, none⟩)), pl 4 (.map (some g7))] hF rfl (by kernel_rfl) (fun hF => ?_)
    refine then_n ?_
    refine seqR ?_
    obtain ⟨r2, hr2, hm⟩ := call_b hm
    refine at_run 1 [⟨false, [], vS (Instr.loadAt 32 (.pointer (some ⟨g6, 0, none⟩))), .agg #[.int .i64 g1, .int .i64 g2, .slice A1 g3.length c1]⟩] [some (.agg #[.int .i64 g1, .int .i64 g2, .slice A1 g3.length c1])] [1, 4, 18] [pl 1 (.func (.func 59) #[] #[.pointer (some ⟨g4, 0, none⟩), .pointer (some ⟨g5, 0, none⟩)]), pl 4 (.map (some g7)), pl 18 (.agg #[.int .i64 g1, .int .i64 g2, .slice A1 g3.length c1])] hF hS (by kernel_rfl) (by kernel_rfl) ?_ (fun a w hF hS => ?_)
    · exact obs_cons (ob_loadA (cs := #[.int .i64 g1, .int .i64 g2, .slice A1 g3.length c1]) (by kernel_rfl) (by kernel_rfl) (fun _ _ hS => (hS.at_ 1 rfl).cellsAt 0 (by rfl))) <| obs_nil
    refine at_call (f := 56) (args := #[.agg #[.int .i64 g1, .int .i64 g2, .slice A1 g3.length c1]]) (d := 19) hF (by kernel_rfl) (by kernel_rfl) Try.func56 (by kernel_rfl) rfl (slide_newTray_w hr2 hS (fun _ hS => (hr_g3 _ (hS.dropN 4))) _hc_g3 rfl) (fun v a w hR hF => ?_)
    clear hS
    obtain ⟨g8, A2, c2, rfl, hS⟩ := hR
    have hS : Sep w0 B w (blk g8 103 #[.int .i64 r2.1, .int .i64 r2.2.1, .slice A2 r2.2.2.1.length c2, .int .i64 r2.2.2.2] :: own 3 (.slice A2 r2.2.2.1.length c2) (vI r2.2.2.1) :: mapH kf98 (Value.int .i64) g7 (mput (geti r1 0, geti r1 1, geti r1 2, geti r1 3, geti r1 4, geti r1 5) (-1) ([] : List ((Int × Int × Int × Int × Int × Int) × Int))) :: blk g6 32 #[.int .i64 g1, .int .i64 g2, .slice A1 g3.length c1] :: blk g4 3 #[.int .i64 v1] :: blk g5 3 #[.int .i64 v2] :: fs) := hS
    have hS : Sep w0 B w (noB :: blk g8 103 #[.int .i64 r2.1, .int .i64 r2.2.1, .slice A2 r2.2.2.1.length c2, .int .i64 r2.2.2.2] :: own 3 (.slice A2 r2.2.2.1.length c2) (vI r2.2.2.1) :: mapH kf98 (Value.int .i64) g7 (mput (geti r1 0, geti r1 1, geti r1 2, geti r1 3, geti r1 4, geti r1 5) (-1) ([] : List ((Int × Int × Int × Int × Int × Int) × Int))) :: blk g6 32 #[.int .i64 g1, .int .i64 g2, .slice A1 g3.length c1] :: blk g4 3 #[.int .i64 v1] :: blk g5 3 #[.int .i64 v2] :: fs) := hS.noB
    have hc1 := (hS.at_ 2 rfl).cap1
    have hS := hS.pickN 7 [2, 0, 1, 3, 4, 5, 6] (by decide)
    have hS : Sep w0 B w ((twoB (own 3 (.slice A2 r2.2.2.1.length c2) (vI r2.2.2.1)) noB) :: blk g8 103 #[.int .i64 r2.1, .int .i64 r2.2.1, .slice A2 r2.2.2.1.length c2, .int .i64 r2.2.2.2] :: mapH kf98 (Value.int .i64) g7 (mput (geti r1 0, geti r1 1, geti r1 2, geti r1 3, geti r1 4, geti r1 5) (-1) ([] : List ((Int × Int × Int × Int × Int × Int) × Int))) :: blk g6 32 #[.int .i64 g1, .int .i64 g2, .slice A1 g3.length c1] :: blk g4 3 #[.int .i64 v1] :: blk g5 3 #[.int .i64 v2] :: fs) := hS.two
    have hS : Sep w0 B w ((twoB (own 3 (.slice A2 r2.2.2.1.length c2) (vI r2.2.2.1)) noB) :: blk g8 103 #[.int .i64 r2.1, .int .i64 r2.2.1, .slice A2 r2.2.2.1.length c2, .int .i64 r2.2.2.2] :: mapH kf98 (Value.int .i64) g7 (mput (geti r1 0, geti r1 1, geti r1 2, geti r1 3, geti r1 4, geti r1 5) (-1) ([] : List ((Int × Int × Int × Int × Int × Int) × Int))) :: blk g6 32 #[.int .i64 g1, .int .i64 g2, .slice A1 g3.length c1] :: blk g4 3 #[.int .i64 v1] :: blk g5 3 #[.int .i64 v2] :: fs) := hS
    have hS := hS.pickN 6 [1, 0, 2, 3, 4, 5] (by decide)
    have hS : Sep w0 B w ((twoB (blk g8 103 #[.int .i64 r2.1, .int .i64 r2.2.1, .slice A2 r2.2.2.1.length c2, .int .i64 r2.2.2.2]) (twoB (own 3 (.slice A2 r2.2.2.1.length c2) (vI r2.2.2.1)) noB)) :: mapH kf98 (Value.int .i64) g7 (mput (geti r1 0, geti r1 1, geti r1 2, geti r1 3, geti r1 4, geti r1 5) (-1) ([] : List ((Int × Int × Int × Int × Int × Int) × Int))) :: blk g6 32 #[.int .i64 g1, .int .i64 g2, .slice A1 g3.length c1] :: blk g4 3 #[.int .i64 v1] :: blk g5 3 #[.int .i64 v2] :: fs) := hS.two
    refine at_do (d := 20) (s := vS (Instr.buildSlice 94 1 #[(0, .pointer (some ⟨g8, 0, none⟩))])) (v := .slice (some ⟨w.heap.size, 0, none⟩) 1 1) (w' := w.alloc (.cells #[.pointer (some ⟨g8, 0, none⟩)] 100)) hF (by kernel_rfl) (by kernel_rfl) (by kernel_rfl) (fun a hF => ?_)
    have hS : Sep w0 B (w.alloc (.cells #[.pointer (some ⟨g8, 0, none⟩)] 100)) (els encP100 Rel100 (twoB (blk g8 103 #[.int .i64 r2.1, .int .i64 r2.2.1, .slice A2 r2.2.2.1.length c2, .int .i64 r2.2.2.2]) (twoB (own 3 (.slice A2 r2.2.2.1.length c2) (vI r2.2.2.1)) noB)) 100 1 (some (⟨w.heap.size, 0, none⟩ : Addr)) 1 1 ([(g8, (A2, r2.2.2.1.length, c2))] : List (Nat × Hd3)) ([r2] : List (Int × Int × List Int × Int)) :: ((twoB (blk g8 103 #[.int .i64 r2.1, .int .i64 r2.2.1, .slice A2 r2.2.2.1.length c2, .int .i64 r2.2.2.2]) (twoB (own 3 (.slice A2 r2.2.2.1.length c2) (vI r2.2.2.1)) noB)) :: mapH kf98 (Value.int .i64) g7 (mput (geti r1 0, geti r1 1, geti r1 2, geti r1 3, geti r1 4, geti r1 5) (-1) ([] : List ((Int × Int × Int × Int × Int × Int) × Int))) :: blk g6 32 #[.int .i64 g1, .int .i64 g2, .slice A1 g3.length c1] :: blk g4 3 #[.int .i64 v1] :: blk g5 3 #[.int .i64 v2] :: fs)) := Sep.ownEls' (l := []) (hS.litK 100 1 #[.pointer (some ⟨g8, 0, none⟩)] 1 rfl (by omega)) rfl (PAll.cons ⟨(PoolB.of (cs := ([.int .i64 r2.1, .int .i64 r2.2.1, .slice A2 r2.2.2.1.length c2, .int .i64 r2.2.2.2] : List Value)) rfl : PoolB (twoB (blk g8 103 #[.int .i64 r2.1, .int .i64 r2.2.1, .slice A2 r2.2.2.1.length c2, .int .i64 r2.2.2.2]) (twoB (own 3 (.slice A2 r2.2.2.1.length c2) (vI r2.2.2.1)) noB)) g8 ([.int .i64 r2.1, .int .i64 r2.2.1, .slice A2 r2.2.2.1.length c2, .int .i64 r2.2.2.2] : List Value)), SlR.of (PoolW.mono PoolLe.right (PoolW.own : PoolW (twoB (own 3 (.slice A2 r2.2.2.1.length c2) (vI r2.2.2.1)) noB) A2 r2.2.2.1)) hc1⟩ (PAll.nil : PAll Rel100 (twoB (blk g8 103 #[.int .i64 r2.1, .int .i64 r2.2.1, .slice A2 r2.2.2.1.length c2, .int .i64 r2.2.2.2]) (twoB (own 3 (.slice A2 r2.2.2.1.length c2) (vI r2.2.2.1)) noB)) ([] : List (Nat × Hd3)) ([] : List (Int × Int × List Int × Int))))
    generalize (some (⟨w.heap.size, 0, none⟩ : Addr)) = g9 at hF hS
    generalize w.alloc (.cells #[.pointer (some ⟨g8, 0, none⟩)] 100) = w at hS ⊢
    refine at_run 1 [] [] [1, 4, 5] [pl 1 (.func (.func 59) #[] #[.pointer (some ⟨g4, 0, none⟩), .pointer (some ⟨g5, 0, none⟩)]), pl 4 (.map (some g7)), pl 5 (.slice g9 1 1)] hF hS (by kernel_rfl) (by kernel_rfl) ?_ (fun a w hF hS => ?_)
    · exact obs_nil
    refine at_end [1, 4, 5] [pl 1 (.func (.func 59) #[] #[.pointer (some ⟨g4, 0, none⟩), .pointer (some ⟨g5, 0, none⟩)]), pl 4 (.map (some g7)), pl 5 (.slice g9 1 1)] hF rfl (by kernel_rfl) (fun hF => ?_)
    refine then_n ?_
    refine wpIn_block ?_
    have hl1 := (hS.at_ 0 rfl).lenE encPK100
    have hS := (hS.at_ 0 rfl).reNE hl1
    have hS : Sep w0 B w (els encP100 Rel100 (twoB (blk g8 103 #[.int .i64 r2.1, .int .i64 r2.2.1, .slice A2 r2.2.2.1.length c2, .int .i64 r2.2.2.2]) (twoB (own 3 (.slice A2 r2.2.2.1.length c2) (vI r2.2.2.1)) noB)) 100 1 g9 (([r2] : List (Int × Int × List Int × Int)).length) 1 ([(g8, (A2, r2.2.2.1.length, c2))] : List (Nat × Hd3)) ([r2] : List (Int × Int × List Int × Int)) :: (twoB (blk g8 103 #[.int .i64 r2.1, .int .i64 r2.2.1, .slice A2 r2.2.2.1.length c2, .int .i64 r2.2.2.2]) (twoB (own 3 (.slice A2 r2.2.2.1.length c2) (vI r2.2.2.1)) noB)) :: mapH kf98 (Value.int .i64) g7 (mput (geti r1 0, geti r1 1, geti r1 2, geti r1 3, geti r1 4, geti r1 5) (-1) ([] : List ((Int × Int × Int × Int × Int × Int) × Int))) :: blk g6 32 #[.int .i64 g1, .int .i64 g2, .slice A1 g3.length c1] :: blk g4 3 #[.int .i64 v1] :: blk g5 3 #[.int .i64 v2] :: fs) := hS
    have hF := hF.cast (t := 5) (v := .slice g9 1 1) (v' := .slice g9 (([r2] : List (Int × Int × List Int × Int)).length) 1) rfl rfl (congrArg (fun k => Value.slice g9 k 1) hl1)
    have hS := hS.pickN 6 [4, 5, 2, 1, 0] (by decide)
    refine wp_loop_model (S := (Int × Int × List ((Int × Int × Int × Int × Int × Int) × Int) × List (Int × Int × List Int × Int))) (R := (Int × Int)) slide_rings_2_L1 (fun x => (slide_rings_2_K1 x).bind some) r (fun (x : (Int × Int × List ((Int × Int × Int × Int × Int × Int) × Int) × List (Int × Int × List Int × Int))) a w => ∃ (pg1 : HP) (raw1 : List (Nat × Hd3)) (A3 : Option Addr) (c3 : Nat), Fr 91 [pl 1 (.func (.func 59) #[] #[.pointer (some ⟨g4, 0, none⟩), .pointer (some ⟨g5, 0, none⟩)]), pl 4 (.map (some g7)), pl 5 (.slice A3 x.2.2.2.length c3)] a ∧ Sep w0 B w (blk g4 3 #[.int .i64 x.1] :: blk g5 3 #[.int .i64 x.2.1] :: mapH kf98 (Value.int .i64) g7 x.2.2.1 :: pg1 :: els encP100 Rel100 pg1 100 1 A3 x.2.2.2.length c3 raw1 x.2.2.2 :: fs)) (assoc_b hm) ⟨(twoB (blk g8 103 #[.int .i64 r2.1, .int .i64 r2.2.1, .slice A2 r2.2.2.1.length c2, .int .i64 r2.2.2.2]) (twoB (own 3 (.slice A2 r2.2.2.1.length c2) (vI r2.2.2.1)) noB)), ([(g8, (A2, r2.2.2.1.length, c2))] : List (Nat × Hd3)), g9, 1, hF.weak [1, 4, 5] (by kernel_rfl), hS⟩ ?_
    clear hF hS hm
    rintro nn1 ⟨tell1, tell2, came1, ring1⟩ a w ⟨pg1, raw1, A3, c3, hF, hS⟩ hm
    generalize hφ1 : stK slide_rings_2_L1 nn1 (fun x => (slide_rings_2_K1 x).bind some) = φ1 at hm
    unfold slide_rings_2_L1 at hm
    dsimp only at hF hS hm
    refine seq_cut (fun a w => ∃ (tell5 : Int) (tell6 : Int), Fr 91 [pl 1 (.func (.func 59) #[] #[.pointer (some ⟨g4, 0, none⟩), .pointer (some ⟨g5, 0, none⟩)]), pl 4 (.map (some g7)), pl 5 (.slice A3 ring1.length c3)] a ∧ Sep w0 B w (blk g4 3 #[.int .i64 tell5] :: blk g5 3 #[.int .i64 tell6] :: mapH kf98 (Value.int .i64) g7 came1 :: (twoB (els encP100 Rel100 pg1 100 1 A3 ring1.length c3 raw1 ring1) pg1) :: fs) ∧ PoolE encP100 Rel100 (twoB (els encP100 Rel100 pg1 100 1 A3 ring1.length c3 raw1 ring1) pg1) A3 raw1 ring1 ∧ ring1.length ≤ c3 ∧ ((slide_rings_2_J2 came1 ring1) tell5 tell6).bind φ1 = some r) ?_ ?_
    · rintro a w ⟨tell5, tell6, hF, hS, hp2, hc5, hm⟩
      unfold slide_rings_2_J2 at hm
      refine wpIn_block ?_
      refine reg [] [] [1, 4, 5, 6] [pl 1 (.func (.func 59) #[] #[.pointer (some ⟨g4, 0, none⟩), .pointer (some ⟨g5, 0, none⟩)]), pl 4 (.map (some g7)), pl 5 (.slice A3 ring1.length c3), pl 6 (.slice none 0 0)] hF hS Fol (by kernel_rfl) (by kernel_rfl) (by kernel_rfl) ?_ (fun a w hF hS => ?_)
      · exact obs_nil
      refine seq_cut (fun a w => ∃ (came3 : List ((Int × Int × Int × Int × Int × Int) × Int)) (next2 : List (Int × Int × List Int × Int)) (pg3 : HP) (raw4 : List (Nat × Hd3)) (A6 : Option Addr) (c6 : Nat), Fr 91 [pl 1 (.func (.func 59) #[] #[.pointer (some ⟨g4, 0, none⟩), .pointer (some ⟨g5, 0, none⟩)]), pl 4 (.map (some g7)), pl 6 (.slice A6 next2.length c6)] a ∧ Sep w0 B w (blk g4 3 #[.int .i64 tell5] :: blk g5 3 #[.int .i64 tell6] :: mapH kf98 (Value.int .i64) g7 came3 :: pg3 :: els encP100 Rel100 pg3 100 1 A6 next2.length c6 raw4 next2 :: fs) ∧ ((slide_rings_2_J4 tell5 tell6) came3 next2).bind φ1 = some r) ?_ ?_
      · rintro a w ⟨came3, next2, pg3, raw4, A6, c6, hF, hS, hm⟩
        unfold slide_rings_2_J4 at hm
        refine reg1 [] [] [1, 4, 5] [pl 1 (.func (.func 59) #[] #[.pointer (some ⟨g4, 0, none⟩), .pointer (some ⟨g5, 0, none⟩)]), pl 4 (.map (some g7)), pl 5 (.slice A6 next2.length c6)] hF hS Fol (by kernel_rfl) (by kernel_rfl) (by kernel_rfl) ?_ (fun a w hF hS => ?_)
        · exact obs_nil
        refine block_n ?_
        refine then_n ?_
        rw [← hφ1] at hm
        exact ⟨(tell5, tell6, came3, next2), ⟨pg3, raw4, A6, c6, hF.weak [1, 4, 5] (by kernel_rfl), hS⟩, hm⟩
      · refine reg [] [] [1, 4, 6, 30, 31, 32] [pl 1 (.func (.func 59) #[] #[.pointer (some ⟨g4, 0, none⟩), .pointer (some ⟨g5, 0, none⟩)]), pl 4 (.map (some g7)), pl 6 (.slice none 0 0), pl 30 (.slice A3 ring1.length c3), pl 31 (.int .i64 (ring1.length : Int)), pl 32 (.int .i64 0)] hF hS Fol (by kernel_rfl) (by kernel_rfl) (by kernel_rfl) ?_ (fun a w hF hS => ?_)
        · exact obs_nil
        refine wpIn_block ?_
        have hS : Sep w0 B w (els encP100 Rel100 (twoB (els encP100 Rel100 pg1 100 1 A3 ring1.length c3 raw1 ring1) pg1) 100 1 none 0 0 ([] : List (Nat × Hd3)) ([] : List (Int × Int × List Int × Int)) :: blk g4 3 #[.int .i64 tell5] :: blk g5 3 #[.int .i64 tell6] :: mapH kf98 (Value.int .i64) g7 came1 :: (twoB (els encP100 Rel100 pg1 100 1 A3 ring1.length c3 raw1 ring1) pg1) :: fs) := hS.nilE encP100 Rel100 (twoB (els encP100 Rel100 pg1 100 1 A3 ring1.length c3 raw1 ring1) pg1) 100 1
        have hl2 := (hS.at_ 0 rfl).lenE encPK100
        have hS := (hS.at_ 0 rfl).reNE hl2
        have hS : Sep w0 B w (els encP100 Rel100 (twoB (els encP100 Rel100 pg1 100 1 A3 ring1.length c3 raw1 ring1) pg1) 100 1 none (([] : List (Int × Int × List Int × Int)).length) 0 ([] : List (Nat × Hd3)) ([] : List (Int × Int × List Int × Int)) :: blk g4 3 #[.int .i64 tell5] :: blk g5 3 #[.int .i64 tell6] :: mapH kf98 (Value.int .i64) g7 came1 :: (twoB (els encP100 Rel100 pg1 100 1 A3 ring1.length c3 raw1 ring1) pg1) :: fs) := hS
        have hF := hF.cast (t := 6) (v := .slice none 0 0) (v' := .slice none (([] : List (Int × Int × List Int × Int)).length) 0) rfl rfl (congrArg (fun k => Value.slice none k 0) hl2)
        have hS := hS.pickN 5 [1, 2, 3, 4, 0] (by decide)
        refine wp_loop_model (S := (List ((Int × Int × Int × Int × Int × Int) × Int) × List (Int × Int × List Int × Int) × List (Int × Int × List Int × Int) × Int)) (R := (List ((Int × Int × Int × Int × Int × Int) × Int) × List (Int × Int × List Int × Int))) (slide_rings_2_L2 ring1) (fun x => ((slide_rings_2_K2 tell5 tell6) x).bind φ1) r (fun (x : (List ((Int × Int × Int × Int × Int × Int) × Int) × List (Int × Int × List Int × Int) × List (Int × Int × List Int × Int) × Int)) a w => ∃ (pg2 : HP) (A4 : Option Addr) (c4 : Nat) (raw2 : List (Nat × Hd3)) (A5 : Option Addr) (c5 : Nat) (raw3 : List (Nat × Hd3)), Fr 91 [pl 1 (.func (.func 59) #[] #[.pointer (some ⟨g4, 0, none⟩), .pointer (some ⟨g5, 0, none⟩)]), pl 4 (.map (some g7)), pl 6 (.slice A4 x.2.1.length c4), pl 30 (.slice A5 x.2.2.1.length c5), pl 31 (.int .i64 (ring1.length : Int)), pl 32 (.int .i64 x.2.2.2)] a ∧ Sep w0 B w (blk g4 3 #[.int .i64 tell5] :: blk g5 3 #[.int .i64 tell6] :: mapH kf98 (Value.int .i64) g7 x.1 :: pg2 :: els encP100 Rel100 pg2 100 1 A4 x.2.1.length c4 raw2 x.2.1 :: fs) ∧ PoolE encP100 Rel100 pg2 A5 raw3 x.2.2.1 ∧ x.2.2.1.length ≤ c5) (assoc_b hm) ⟨(twoB (els encP100 Rel100 pg1 100 1 A3 ring1.length c3 raw1 ring1) pg1), none, 0, ([] : List (Nat × Hd3)), A3, c3, raw1, hF.weak [1, 4, 6, 30, 31, 32] (by kernel_rfl), hS, hp2, hc5⟩ ?_
        clear hF hS hm
        rintro nn2 ⟨came2, next1, z2, z3⟩ a w ⟨pg2, A4, c4, raw2, A5, c5, raw3, hF, hS, hp3, hc6⟩ hm
        generalize hφ2 : stK (slide_rings_2_L2 ring1) nn2 (fun x => ((slide_rings_2_K2 tell5 tell6) x).bind φ1) = φ2 at hm
        unfold slide_rings_2_L2 at hm
        dsimp only at hF hS hm
        refine reg [] [] [1, 4, 6, 30, 31, 32, 33] [pl 1 (.func (.func 59) #[] #[.pointer (some ⟨g4, 0, none⟩), .pointer (some ⟨g5, 0, none⟩)]), pl 4 (.map (some g7)), pl 6 (.slice A4 next1.length c4), pl 30 (.slice A5 z2.length c5), pl 31 (.int .i64 (ring1.length : Int)), pl 32 (.int .i64 z3), pl 33 (.bool (decide (z3 < (ring1.length : Int))))] hF hS Fol (by kernel_rfl) (by kernel_rfl) (by kernel_rfl) ?_ (fun a w hF hS => ?_)
        · exact obs_nil
        refine seq_cut (fun a w => Fr 91 [pl 1 (.func (.func 59) #[] #[.pointer (some ⟨g4, 0, none⟩), .pointer (some ⟨g5, 0, none⟩)]), pl 4 (.map (some g7)), pl 6 (.slice A4 next1.length c4), pl 30 (.slice A5 z2.length c5), pl 31 (.int .i64 (ring1.length : Int)), pl 32 (.int .i64 z3)] a ∧ Sep w0 B w (blk g4 3 #[.int .i64 tell5] :: blk g5 3 #[.int .i64 tell6] :: mapH kf98 (Value.int .i64) g7 came2 :: pg2 :: els encP100 Rel100 pg2 100 1 A4 next1.length c4 raw2 next1 :: fs) ∧ ((slide_rings_2_J5 came2 next1 z2 z3)).bind φ2 = some r) ?_ ?_
        · rintro a w ⟨hF, hS, hm⟩
          unfold slide_rings_2_J5 at hm
          refine seq_cut (fun a w => ∃ (came5 : List ((Int × Int × Int × Int × Int × Int) × Int)) (next4 : List (Int × Int × List Int × Int)) (z6 : List (Int × Int × List Int × Int)) (pg5 : HP) (raw7 : List (Nat × Hd3)) (A9 : Option Addr) (c9 : Nat) (A10 : Option Addr) (c10 : Nat) (raw8 : List (Nat × Hd3)), Fr 91 [pl 1 (.func (.func 59) #[] #[.pointer (some ⟨g4, 0, none⟩), .pointer (some ⟨g5, 0, none⟩)]), pl 4 (.map (some g7)), pl 6 (.slice A9 next4.length c9), pl 30 (.slice A10 z6.length c10), pl 31 (.int .i64 (ring1.length : Int)), pl 32 (.int .i64 z3)] a ∧ Sep w0 B w (blk g4 3 #[.int .i64 tell5] :: blk g5 3 #[.int .i64 tell6] :: mapH kf98 (Value.int .i64) g7 came5 :: pg5 :: els encP100 Rel100 pg5 100 1 A9 next4.length c9 raw7 next4 :: fs) ∧ PoolE encP100 Rel100 pg5 A10 raw8 z6 ∧ z6.length ≤ c10 ∧ ((slide_rings_2_J6 z3) came5 next4 z6).bind φ2 = some r) ?_ ?_
          · rintro a w ⟨came5, next4, z6, pg5, raw7, A9, c9, A10, c10, raw8, hF, hS, hp8, hc10, hm⟩
            unfold slide_rings_2_J6 at hm
            refine reg1 [] [] [1, 4, 6, 30, 31, 32] [pl 1 (.func (.func 59) #[] #[.pointer (some ⟨g4, 0, none⟩), .pointer (some ⟨g5, 0, none⟩)]), pl 4 (.map (some g7)), pl 6 (.slice A9 next4.length c9), pl 30 (.slice A10 z6.length c10), pl 31 (.int .i64 (ring1.length : Int)), pl 32 (.int .i64 (w64 (z3 + 1)))] hF hS Fol (by kernel_rfl) (by kernel_rfl) (by kernel_rfl) ?_ (fun a w hF hS => ?_)
            · exact obs_nil
            refine then_n ?_
            rw [← hφ2] at hm
            exact ⟨(came5, next4, z6, (w64 (z3 + 1))), ⟨pg5, A9, c9, raw7, A10, c10, raw8, hF.weak [1, 4, 6, 30, 31, 32] (by kernel_rfl), hS, hp8, hc10⟩, hm⟩
          · refine wpIn_block ?_
            obtain ⟨hp4, hm⟩ := asrt_b hm
            refine reg [⟨true, [], vS (Instr.indexAt 94 (.slice A5 z2.length c5) (.int .i64 z3)), .pointer (some (sAddrK A5 1 z3))⟩, ⟨false, [], vS (Instr.loadAt 100 (.pointer (some (Addr.add (sAddrK A5 1 z3) 0)))), .pointer (some ⟨(getd rzP100 raw3 z3).1, 0, none⟩)⟩] [some (.pointer (some (sAddrK A5 1 z3))), some (.pointer (some ⟨(getd rzP100 raw3 z3).1, 0, none⟩)), none] [1, 4, 6, 8, 30, 31, 32] [pl 1 (.func (.func 59) #[] #[.pointer (some ⟨g4, 0, none⟩), .pointer (some ⟨g5, 0, none⟩)]), pl 4 (.map (some g7)), pl 6 (.slice A4 next1.length c4), pl 8 (.pointer (some ⟨(getd rzP100 raw3 z3).1, 0, none⟩)), pl 30 (.slice A5 z2.length c5), pl 31 (.int .i64 (ring1.length : Int)), pl 32 (.int .i64 z3)] hF hS Fol (by kernel_rfl) (by kernel_rfl) (by kernel_rfl) ?_ (fun a w hF hS => ?_)
            · exact obs_cons (ob_ixK (m := raw3) encPK100 Und94 hi100 hs100 (hp3.at_ hS 3 rfl) hp3.2.lenS (fun _ => hp4)) <| obs_cons (ob_getPF (n := z2.length) (raw := raw3) (j := 0) encPK100 rzP100 Agg100 (fun _ hS => ⟨_, (hp3.at_ hS 3 rfl)⟩) (fun _ hS => hp3.2.lenS) (fun _ => hp4) (by decide) (val100 (PAll.atM rzP100 zP100 hp3.2 hp4)) rfl) <| obs_nil
            refine reg [] [] [1, 4, 6, 8, 30, 31, 32, 36] [pl 1 (.func (.func 59) #[] #[.pointer (some ⟨g4, 0, none⟩), .pointer (some ⟨g5, 0, none⟩)]), pl 4 (.map (some g7)), pl 6 (.slice A4 next1.length c4), pl 8 (.pointer (some ⟨(getd rzP100 raw3 z3).1, 0, none⟩)), pl 30 (.slice A5 z2.length c5), pl 31 (.int .i64 (ring1.length : Int)), pl 32 (.int .i64 z3), pl 36 (.int .i64 0)] hF hS Fol (by kernel_rfl) (by kernel_rfl) (by kernel_rfl) ?_ (fun a w hF hS => ?_)
            · exact obs_nil
            refine wpIn_block ?_
            refine wp_loop_model (S := (List ((Int × Int × Int × Int × Int × Int) × Int) × List (Int × Int × List Int × Int) × List (Int × Int × List Int × Int) × Int)) (R := (List ((Int × Int × Int × Int × Int × Int) × Int) × List (Int × Int × List Int × Int) × List (Int × Int × List Int × Int))) (slide_rings_2_L3 z2 z3) (fun x => ((slide_rings_2_K3 z3) x).bind φ2) r (fun (x : (List ((Int × Int × Int × Int × Int × Int) × Int) × List (Int × Int × List Int × Int) × List (Int × Int × List Int × Int) × Int)) a w => ∃ (pg4 : HP) (raw5 : List (Nat × Hd3)) (A7 : Option Addr) (c7 : Nat) (A8 : Option Addr) (c8 : Nat) (raw6 : List (Nat × Hd3)), Fr 91 [pl 1 (.func (.func 59) #[] #[.pointer (some ⟨g4, 0, none⟩), .pointer (some ⟨g5, 0, none⟩)]), pl 4 (.map (some g7)), pl 6 (.slice A7 x.2.1.length c7), pl 8 (.pointer (some ⟨(getd rzP100 raw3 z3).1, 0, none⟩)), pl 30 (.slice A8 x.2.2.1.length c8), pl 31 (.int .i64 (ring1.length : Int)), pl 32 (.int .i64 z3), pl 36 (.int .i64 x.2.2.2)] a ∧ Sep w0 B w (blk g4 3 #[.int .i64 tell5] :: blk g5 3 #[.int .i64 tell6] :: mapH kf98 (Value.int .i64) g7 x.1 :: pg4 :: els encP100 Rel100 pg4 100 1 A7 x.2.1.length c7 raw5 x.2.1 :: fs) ∧ PoolB pg4 ((getd rzP100 raw3 z3).1) ([.int .i64 ((getd zP100 z2 z3).1), .int .i64 ((getd zP100 z2 z3).2.1), .slice ((getd rzP100 raw3 z3).2.1) (((getd zP100 z2 z3).2.2.1).length) ((getd rzP100 raw3 z3).2.2.2), .int .i64 ((getd zP100 z2 z3).2.2.2)] : List Value) ∧ True ∧ PoolW pg4 ((getd rzP100 raw3 z3).2.1) ((getd zP100 z2 z3).2.2.1) ∧ ((getd zP100 z2 z3).2.2.1).length ≤ (getd rzP100 raw3 z3).2.2.2 ∧ PoolE encP100 Rel100 pg4 A8 raw6 x.2.2.1 ∧ x.2.2.1.length ≤ c8) (assoc_b hm) ⟨pg2, raw2, A4, c4, A5, c5, raw3, hF.weak [1, 4, 6, 8, 30, 31, 32, 36] (by kernel_rfl), hS, (PAll.atM rzP100 zP100 hp3.2 hp4).1, trivial, (PAll.atM rzP100 zP100 hp3.2 hp4).2.2.2, (PAll.atM rzP100 zP100 hp3.2 hp4).2.2.1, hp3, hc6⟩ ?_
            clear hF hS hm
            rintro nn3 ⟨came4, next3, z4, z5⟩ a w ⟨pg4, raw5, A7, c7, A8, c8, raw6, hF, hS, hp5, hc7, hp6, hc8, hp7, hc9⟩ hm
            generalize hφ3 : stK (slide_rings_2_L3 z2 z3) nn3 (fun x => ((slide_rings_2_K3 z3) x).bind φ2) = φ3 at hm
            unfold slide_rings_2_L3 at hm
            dsimp only at hF hS hm
            refine reg [] [] [1, 4, 6, 8, 30, 31, 32, 36, 37] [pl 1 (.func (.func 59) #[] #[.pointer (some ⟨g4, 0, none⟩), .pointer (some ⟨g5, 0, none⟩)]), pl 4 (.map (some g7)), pl 6 (.slice A7 next3.length c7), pl 8 (.pointer (some ⟨(getd rzP100 raw3 z3).1, 0, none⟩)), pl 30 (.slice A8 z4.length c8), pl 31 (.int .i64 (ring1.length : Int)), pl 32 (.int .i64 z3), pl 36 (.int .i64 z5), pl 37 (.bool (decide (z5 < 4)))] hF hS Fol (by kernel_rfl) (by kernel_rfl) (by kernel_rfl) ?_ (fun a w hF hS => ?_)
            · exact obs_nil
            refine seq_cut (fun a w => Fr 91 [pl 1 (.func (.func 59) #[] #[.pointer (some ⟨g4, 0, none⟩), .pointer (some ⟨g5, 0, none⟩)]), pl 4 (.map (some g7)), pl 6 (.slice A7 next3.length c7), pl 8 (.pointer (some ⟨(getd rzP100 raw3 z3).1, 0, none⟩)), pl 30 (.slice A8 z4.length c8), pl 31 (.int .i64 (ring1.length : Int)), pl 32 (.int .i64 z3), pl 36 (.int .i64 z5)] a ∧ Sep w0 B w (blk g4 3 #[.int .i64 tell5] :: blk g5 3 #[.int .i64 tell6] :: mapH kf98 (Value.int .i64) g7 came4 :: pg4 :: els encP100 Rel100 pg4 100 1 A7 next3.length c7 raw5 next3 :: fs) ∧ ((slide_rings_2_J7 z2 z3 came4 next3 z4 z5)).bind φ3 = some r) ?_ ?_
            · rintro a w ⟨hF, hS, hm⟩
              unfold slide_rings_2_J7 at hm
              refine seq_cut (fun a w => ∃ (came6 : List ((Int × Int × Int × Int × Int × Int) × Int)) (next5 : List (Int × Int × List Int × Int)) (z7 : List (Int × Int × List Int × Int)) (pg6 : HP) (raw9 : List (Nat × Hd3)) (A12 : Option Addr) (c12 : Nat) (A13 : Option Addr) (c13 : Nat) (raw10 : List (Nat × Hd3)), Fr 91 [pl 1 (.func (.func 59) #[] #[.pointer (some ⟨g4, 0, none⟩), .pointer (some ⟨g5, 0, none⟩)]), pl 4 (.map (some g7)), pl 6 (.slice A12 next5.length c12), pl 8 (.pointer (some ⟨(getd rzP100 raw3 z3).1, 0, none⟩)), pl 30 (.slice A13 z7.length c13), pl 31 (.int .i64 (ring1.length : Int)), pl 32 (.int .i64 z3), pl 36 (.int .i64 z5)] a ∧ Sep w0 B w (blk g4 3 #[.int .i64 tell5] :: blk g5 3 #[.int .i64 tell6] :: mapH kf98 (Value.int .i64) g7 came6 :: pg6 :: els encP100 Rel100 pg6 100 1 A12 next5.length c12 raw9 next5 :: fs) ∧ PoolB pg6 ((getd rzP100 raw3 z3).1) ([.int .i64 ((getd zP100 z2 z3).1), .int .i64 ((getd zP100 z2 z3).2.1), .slice ((getd rzP100 raw3 z3).2.1) (((getd zP100 z2 z3).2.2.1).length) ((getd rzP100 raw3 z3).2.2.2), .int .i64 ((getd zP100 z2 z3).2.2.2)] : List Value) ∧ True ∧ PoolW pg6 ((getd rzP100 raw3 z3).2.1) ((getd zP100 z2 z3).2.2.1) ∧ ((getd zP100 z2 z3).2.2.1).length ≤ (getd rzP100 raw3 z3).2.2.2 ∧ PoolE encP100 Rel100 pg6 A13 raw10 z7 ∧ z7.length ≤ c13 ∧ ((slide_rings_2_J8 z5) came6 next5 z7).bind φ3 = some r) ?_ ?_
              · rintro a w ⟨came6, next5, z7, pg6, raw9, A12, c12, A13, c13, raw10, hF, hS, hp9, hc11, hp10, hc12, hp11, hc13, hm⟩
                unfold slide_rings_2_J8 at hm
                refine reg1 [] [] [1, 4, 6, 8, 30, 31, 32, 36] [pl 1 (.func (.func 59) #[] #[.pointer (some ⟨g4, 0, none⟩), .pointer (some ⟨g5, 0, none⟩)]), pl 4 (.map (some g7)), pl 6 (.slice A12 next5.length c12), pl 8 (.pointer (some ⟨(getd rzP100 raw3 z3).1, 0, none⟩)), pl 30 (.slice A13 z7.length c13), pl 31 (.int .i64 (ring1.length : Int)), pl 32 (.int .i64 z3), pl 36 (.int .i64 (w64 (z5 + 1)))] hF hS Fol (by kernel_rfl) (by kernel_rfl) (by kernel_rfl) ?_ (fun a w hF hS => ?_)
                · exact obs_nil
                refine then_n ?_
                rw [← hφ3] at hm
                exact ⟨(came6, next5, z7, (w64 (z5 + 1))), ⟨pg6, raw9, A12, c12, A13, c13, raw10, hF.weak [1, 4, 6, 8, 30, 31, 32, 36] (by kernel_rfl), hS, hp9, trivial, hp10, hc12, hp11, hc13⟩, hm⟩
              · refine wpIn_block ?_
                refine reg [] [] [1, 4, 6, 8, 9, 30, 31, 32, 36] [pl 1 (.func (.func 59) #[] #[.pointer (some ⟨g4, 0, none⟩), .pointer (some ⟨g5, 0, none⟩)]), pl 4 (.map (some g7)), pl 6 (.slice A7 next3.length c7), pl 8 (.pointer (some ⟨(getd rzP100 raw3 z3).1, 0, none⟩)), pl 9 (.int .i64 z5), pl 30 (.slice A8 z4.length c8), pl 31 (.int .i64 (ring1.length : Int)), pl 32 (.int .i64 z3), pl 36 (.int .i64 z5)] hF hS Fol (by kernel_rfl) (by kernel_rfl) (by kernel_rfl) ?_ (fun a w hF hS => ?_)
                · exact obs_nil
                refine wpIn_seq ?_
                refine regMix4 [0, 1, 2, 3, 4, 5, 6, 7, 8] [9, 10] [⟨false, [], vS (Instr.loadAt 32 (.pointer (some ⟨(getd rzP100 raw3 z3).1, 0, none⟩))), .agg #[.int .i64 ((getd zP100 z2 z3).1), .int .i64 ((getd zP100 z2 z3).2.1), .slice ((getd rzP100 raw3 z3).2.1) (((getd zP100 z2 z3).2.2.1).length) ((getd rzP100 raw3 z3).2.2.2)]⟩, ⟨false, [], vS (Instr.loadAt 3 (.pointer (some ⟨(getd rzP100 raw3 z3).1, 3, none⟩))), .int .i64 ((getd zP100 z2 z3).2.2.2)⟩] [none, none, none, some (.agg #[.int .i64 ((getd zP100 z2 z3).1), .int .i64 ((getd zP100 z2 z3).2.1), .slice ((getd rzP100 raw3 z3).2.1) (((getd zP100 z2 z3).2.2.1).length) ((getd rzP100 raw3 z3).2.2.2)]), none, none, none, some (.int .i64 ((getd zP100 z2 z3).2.2.2)), none] [1, 4, 6, 8, 9, 30, 31, 32, 36, 47] [pl 1 (.func (.func 59) #[] #[.pointer (some ⟨g4, 0, none⟩), .pointer (some ⟨g5, 0, none⟩)]), pl 4 (.map (some g7)), pl 6 (.slice A7 next3.length c7), pl 8 (.pointer (some ⟨(getd rzP100 raw3 z3).1, 0, none⟩)), pl 9 (.int .i64 z5), pl 30 (.slice A8 z4.length c8), pl 31 (.int .i64 (ring1.length : Int)), pl 32 (.int .i64 z3), pl 36 (.int .i64 z5), pl 47 (.agg #[.int .i64 ((getd zP100 z2 z3).1), .int .i64 ((getd zP100 z2 z3).2.1), .slice ((getd rzP100 raw3 z3).2.1) (((getd zP100 z2 z3).2.2.1).length) ((getd rzP100 raw3 z3).2.2.2), .int .i64 ((getd zP100 z2 z3).2.2.2)])] hF hS Fol (by kernel_rfl) (by kernel_rfl) (by kernel_rfl) (by kernel_rfl) (by kernel_rfl) ?_ (fun a w hF hS => ?_)
                · exact obs_cons (ob_loadPA (cs := ([.int .i64 ((getd zP100 z2 z3).1), .int .i64 ((getd zP100 z2 z3).2.1), .slice ((getd rzP100 raw3 z3).2.1) (((getd zP100 z2 z3).2.2.1).length) ((getd rzP100 raw3 z3).2.2.2), .int .i64 ((getd zP100 z2 z3).2.2.2)] : List Value)) (us := ([.int .i64 ((getd zP100 z2 z3).1), .int .i64 ((getd zP100 z2 z3).2.1), .slice ((getd rzP100 raw3 z3).2.1) (((getd zP100 z2 z3).2.2.1).length) ((getd rzP100 raw3 z3).2.2.2)] : List Value)) (k := 3) (by kernel_rfl) (by kernel_rfl) rfl (fun _ hS => PoolB.at_ (cs := ([.int .i64 ((getd zP100 z2 z3).1), .int .i64 ((getd zP100 z2 z3).2.1), .slice ((getd rzP100 raw3 z3).2.1) (((getd zP100 z2 z3).2.2.1).length) ((getd rzP100 raw3 z3).2.2.2), .int .i64 ((getd zP100 z2 z3).2.2.2)] : List Value)) hp5 hS 3 rfl) (fun j v hv => by match j, hv with | 0, hv => exact hv | 1, hv => exact hv | 2, hv => exact hv | j + 3, hv => simp at hv)) <| obs_cons (ob_loadP (cs := ([.int .i64 ((getd zP100 z2 z3).1), .int .i64 ((getd zP100 z2 z3).2.1), .slice ((getd rzP100 raw3 z3).2.1) (((getd zP100 z2 z3).2.2.1).length) ((getd rzP100 raw3 z3).2.2.2), .int .i64 ((getd zP100 z2 z3).2.2.2)] : List Value)) Agg3 (fun _ hS => PoolB.at_ (cs := ([.int .i64 ((getd zP100 z2 z3).1), .int .i64 ((getd zP100 z2 z3).2.1), .slice ((getd rzP100 raw3 z3).2.1) (((getd zP100 z2 z3).2.2.1).length) ((getd rzP100 raw3 z3).2.2.2), .int .i64 ((getd zP100 z2 z3).2.2.2)] : List Value)) hp5 hS 3 rfl) rfl) <| obs_nil
                refine at_do (d := 48) (s := vS (Instr.box 103 (.agg #[.int .i64 ((getd zP100 z2 z3).1), .int .i64 ((getd zP100 z2 z3).2.1), .slice ((getd rzP100 raw3 z3).2.1) (((getd zP100 z2 z3).2.2.1).length) ((getd rzP100 raw3 z3).2.2.2), .int .i64 ((getd zP100 z2 z3).2.2.2)]))) (v := .pointer (some ⟨w.heap.size, 0, none⟩)) (w' := w.alloc (.cells #[.int .i64 ((getd zP100 z2 z3).1), .int .i64 ((getd zP100 z2 z3).2.1), .slice ((getd rzP100 raw3 z3).2.1) (((getd zP100 z2 z3).2.2.1).length) ((getd rzP100 raw3 z3).2.2.2), .int .i64 ((getd zP100 z2 z3).2.2.2)] 103)) hF (by kernel_rfl) (by kernel_rfl) (by kernel_rfl) (fun a hF => ?_)
                have hS : Sep w0 B (w.alloc (.cells #[.int .i64 ((getd zP100 z2 z3).1), .int .i64 ((getd zP100 z2 z3).2.1), .slice ((getd rzP100 raw3 z3).2.1) (((getd zP100 z2 z3).2.2.1).length) ((getd rzP100 raw3 z3).2.2.2), .int .i64 ((getd zP100 z2 z3).2.2.2)] 103)) (blk w.heap.size 103 #[.int .i64 ((getd zP100 z2 z3).1), .int .i64 ((getd zP100 z2 z3).2.1), .slice ((getd rzP100 raw3 z3).2.1) (((getd zP100 z2 z3).2.2.1).length) ((getd rzP100 raw3 z3).2.2.2), .int .i64 ((getd zP100 z2 z3).2.2.2)] :: (blk g4 3 #[.int .i64 tell5] :: blk g5 3 #[.int .i64 tell6] :: mapH kf98 (Value.int .i64) g7 came4 :: pg4 :: els encP100 Rel100 pg4 100 1 A7 next3.length c7 raw5 next3 :: fs)) := hS.box 103 #[.int .i64 ((getd zP100 z2 z3).1), .int .i64 ((getd zP100 z2 z3).2.1), .slice ((getd rzP100 raw3 z3).2.1) (((getd zP100 z2 z3).2.2.1).length) ((getd rzP100 raw3 z3).2.2.2), .int .i64 ((getd zP100 z2 z3).2.2.2)]
                generalize w.heap.size = g10 at hF hS
                generalize w.alloc (.cells #[.int .i64 ((getd zP100 z2 z3).1), .int .i64 ((getd zP100 z2 z3).2.1), .slice ((getd rzP100 raw3 z3).2.1) (((getd zP100 z2 z3).2.2.1).length) ((getd rzP100 raw3 z3).2.2.2), .int .i64 ((getd zP100 z2 z3).2.2.2)] 103) = w at hS ⊢
                refine at_run 1 [] [] [1, 4, 6, 8, 9, 10, 30, 31, 32, 36] [pl 1 (.func (.func 59) #[] #[.pointer (some ⟨g4, 0, none⟩), .pointer (some ⟨g5, 0, none⟩)]), pl 4 (.map (some g7)), pl 6 (.slice A7 next3.length c7), pl 8 (.pointer (some ⟨(getd rzP100 raw3 z3).1, 0, none⟩)), pl 9 (.int .i64 z5), pl 10 (.pointer (some ⟨g10, 0, none⟩)), pl 30 (.slice A8 z4.length c8), pl 31 (.int .i64 (ring1.length : Int)), pl 32 (.int .i64 z3), pl 36 (.int .i64 z5)] hF hS (by kernel_rfl) (by kernel_rfl) ?_ (fun a w hF hS => ?_)
                · exact obs_nil
                refine at_end [1, 4, 6, 8, 9, 10, 30, 31, 32, 36] [pl 1 (.func (.func 59) #[] #[.pointer (some ⟨g4, 0, none⟩), .pointer (some ⟨g5, 0, none⟩)]), pl 4 (.map (some g7)), pl 6 (.slice A7 next3.length c7), pl 8 (.pointer (some ⟨(getd rzP100 raw3 z3).1, 0, none⟩)), pl 9 (.int .i64 z5), pl 10 (.pointer (some ⟨g10, 0, none⟩)), pl 30 (.slice A8 z4.length c8), pl 31 (.int .i64 (ring1.length : Int)), pl 32 (.int .i64 z3), pl 36 (.int .i64 z5)] hF rfl (by kernel_rfl) (fun hF => ?_)
                refine np_n ?_
                refine then_n ?_
                refine seqR ?_
                obtain ⟨r4, hr4, hm⟩ := call_b hm
                refine at_run 6 [⟨false, [], vS (Instr.loadAt 22 (.pointer (some ⟨(getd rzP100 raw3 z3).1, 2, none⟩))), .slice ((getd rzP100 raw3 z3).2.1) (((getd zP100 z2 z3).2.2.1).length) ((getd rzP100 raw3 z3).2.2.2)⟩] [none, none, none, none, none, some (.slice ((getd rzP100 raw3 z3).2.1) (((getd zP100 z2 z3).2.2.1).length) ((getd rzP100 raw3 z3).2.2.2))] [1, 4, 6, 8, 9, 10, 30, 31, 32, 36, 49, 54] [pl 1 (.func (.func 59) #[] #[.pointer (some ⟨g4, 0, none⟩), .pointer (some ⟨g5, 0, none⟩)]), pl 4 (.map (some g7)), pl 6 (.slice A7 next3.length c7), pl 8 (.pointer (some ⟨(getd rzP100 raw3 z3).1, 0, none⟩)), pl 9 (.int .i64 z5), pl 10 (.pointer (some ⟨g10, 0, none⟩)), pl 30 (.slice A8 z4.length c8), pl 31 (.int .i64 (ring1.length : Int)), pl 32 (.int .i64 z3), pl 36 (.int .i64 z5), pl 49 (.pointer (some ⟨g10, 0, none⟩)), pl 54 (.slice ((getd rzP100 raw3 z3).2.1) (((getd zP100 z2 z3).2.2.1).length) ((getd rzP100 raw3 z3).2.2.2))] hF hS (by kernel_rfl) (by kernel_rfl) ?_ (fun a w hF hS => ?_)
                · exact obs_cons (ob_loadP (cs := ([.int .i64 ((getd zP100 z2 z3).1), .int .i64 ((getd zP100 z2 z3).2.1), .slice ((getd rzP100 raw3 z3).2.1) (((getd zP100 z2 z3).2.2.1).length) ((getd rzP100 raw3 z3).2.2.2), .int .i64 ((getd zP100 z2 z3).2.2.2)] : List Value)) Agg22 (fun _ hS => PoolB.at_ (cs := ([.int .i64 ((getd zP100 z2 z3).1), .int .i64 ((getd zP100 z2 z3).2.1), .slice ((getd rzP100 raw3 z3).2.1) (((getd zP100 z2 z3).2.2.1).length) ((getd rzP100 raw3 z3).2.2.2), .int .i64 ((getd zP100 z2 z3).2.2.2)] : List Value)) hp5 hS 4 rfl) rfl) <| obs_nil
                refine at_call (f := 78) (args := #[.slice ((getd rzP100 raw3 z3).2.1) (((getd zP100 z2 z3).2.2.1).length) ((getd rzP100 raw3 z3).2.2.2)]) (d := 55) hF (by kernel_rfl) (by kernel_rfl) Try.func78 (by kernel_rfl) rfl (slices_Clone_w hr4 hS (fun _ hS => (hp6.at_ hS 4 rfl)) hc8 rfl) (fun v a w hR hF => ?_)
                clear hS
                obtain ⟨A11, c11, rfl, hS⟩ := hR
                have hS : Sep w0 B w (own 3 (.slice A11 r4.length c11) (vI r4) :: blk g10 103 #[.int .i64 ((getd zP100 z2 z3).1), .int .i64 ((getd zP100 z2 z3).2.1), .slice ((getd rzP100 raw3 z3).2.1) (((getd zP100 z2 z3).2.2.1).length) ((getd rzP100 raw3 z3).2.2.2), .int .i64 ((getd zP100 z2 z3).2.2.2)] :: blk g4 3 #[.int .i64 tell5] :: blk g5 3 #[.int .i64 tell6] :: mapH kf98 (Value.int .i64) g7 came4 :: pg4 :: els encP100 Rel100 pg4 100 1 A7 next3.length c7 raw5 next3 :: fs) := hS
                refine at_run 3 [] [] [1, 4, 6, 8, 9, 10, 30, 31, 32, 36, 55, 58] [pl 1 (.func (.func 59) #[] #[.pointer (some ⟨g4, 0, none⟩), .pointer (some ⟨g5, 0, none⟩)]), pl 4 (.map (some g7)), pl 6 (.slice A7 next3.length c7), pl 8 (.pointer (some ⟨(getd rzP100 raw3 z3).1, 0, none⟩)), pl 9 (.int .i64 z5), pl 10 (.pointer (some ⟨g10, 0, none⟩)), pl 30 (.slice A8 z4.length c8), pl 31 (.int .i64 (ring1.length : Int)), pl 32 (.int .i64 z3), pl 36 (.int .i64 z5), pl 55 (.slice A11 r4.length c11), pl 58 (.pointer (some ⟨g10, 2, none⟩))] hF hS (by kernel_rfl) (by kernel_rfl) ?_ (fun a w hF hS => ?_)
                · exact obs_nil
                obtain ⟨w, hrun, hS⟩ := run_put (P := Try.prog) (t := 22) (u := .slice A11 r4.length c11) (i := 2) (hS.at_ 1 rfl) hi22 hs22 rfl (Nat.lt_of_lt_of_eq (Nat.lt_of_succ_le (Nat.le_of_ble_eq_true (by kernel_rfl))) rfl)
                refine at_skip hF (by kernel_rfl) hrun ?_
                have hS : Sep w0 B w (own 3 (.slice A11 r4.length c11) (vI r4) :: blk g10 103 #[.int .i64 ((getd zP100 z2 z3).1), .int .i64 ((getd zP100 z2 z3).2.1), .slice A11 r4.length c11, .int .i64 ((getd zP100 z2 z3).2.2.2)] :: blk g4 3 #[.int .i64 tell5] :: blk g5 3 #[.int .i64 tell6] :: mapH kf98 (Value.int .i64) g7 came4 :: pg4 :: els encP100 Rel100 pg4 100 1 A7 next3.length c7 raw5 next3 :: fs) := hS
                refine at_end [1, 4, 6, 8, 9, 10, 30, 31, 32, 36] [pl 1 (.func (.func 59) #[] #[.pointer (some ⟨g4, 0, none⟩), .pointer (some ⟨g5, 0, none⟩)]), pl 4 (.map (some g7)), pl 6 (.slice A7 next3.length c7), pl 8 (.pointer (some ⟨(getd rzP100 raw3 z3).1, 0, none⟩)), pl 9 (.int .i64 z5), pl 10 (.pointer (some ⟨g10, 0, none⟩)), pl 30 (.slice A8 z4.length c8), pl 31 (.int .i64 (ring1.length : Int)), pl 32 (.int .i64 z3), pl 36 (.int .i64 z5)] hF rfl (by kernel_rfl) (fun hF => ?_)
                refine then_n ?_
                refine seq_cut (fun a w => ∃ (u1 : List Int) (u2 : Int), Fr 91 [pl 1 (.func (.func 59) #[] #[.pointer (some ⟨g4, 0, none⟩), .pointer (some ⟨g5, 0, none⟩)]), pl 4 (.map (some g7)), pl 6 (.slice A7 next3.length c7), pl 8 (.pointer (some ⟨(getd rzP100 raw3 z3).1, 0, none⟩)), pl 9 (.int .i64 z5), pl 10 (.pointer (some ⟨g10, 0, none⟩)), pl 30 (.slice A8 z4.length c8), pl 31 (.int .i64 (ring1.length : Int)), pl 32 (.int .i64 z3), pl 36 (.int .i64 z5)] a ∧ Sep w0 B w (blk g4 3 #[.int .i64 tell5] :: blk g5 3 #[.int .i64 tell6] :: mapH kf98 (Value.int .i64) g7 came4 :: pg4 :: els encP100 Rel100 pg4 100 1 A7 next3.length c7 raw5 next3 :: blk g10 103 #[.int .i64 ((getd zP100 z2 z3).1), .int .i64 ((getd zP100 z2 z3).2.1), .slice A11 r4.length c11, .int .i64 u2] :: own 3 (.slice A11 r4.length c11) (vI u1) :: fs) ∧ ((slide_rings_2_J9 z2 z3 came4 next3 z4 z5) u1 u2).bind φ3 = some r) ?_ ?_
                · rintro a w ⟨u1, u2, hF, hS, hm⟩
                  unfold slide_rings_2_J9 at hm
                  obtain ⟨r6, hr6, hm⟩ := call_b hm
                  refine reg [⟨false, [], vS (Instr.loadAt 22 (.pointer (some ⟨g10, 2, none⟩))), .slice A11 r4.length c11⟩, ⟨false, [], callFunc 55 #[.slice A11 r4.length c11], .agg (List.toArray (([] : List Value) ++ (arr1 (Value.int .i64) (0 : Int) 6 r6 ++ ([] : List Value))))⟩, ⟨false, [], vS (Instr.lookup 95 (.map (some g7)) (.agg (List.toArray (([] : List Value) ++ (arr1 (Value.int .i64) (0 : Int) 6 r6 ++ ([] : List Value))))) true), .tuple #[.int .i64 (mget (0 : Int) (geti r6 0, geti r6 1, geti r6 2, geti r6 3, geti r6 4, geti r6 5) came4), .bool (mhas (geti r6 0, geti r6 1, geti r6 2, geti r6 3, geti r6 4, geti r6 5) came4)]⟩] [none, none, none, none, none, some (.slice A11 r4.length c11), some (.agg (List.toArray (([] : List Value) ++ (arr1 (Value.int .i64) (0 : Int) 6 r6 ++ ([] : List Value))))), some (.tuple #[.int .i64 (mget (0 : Int) (geti r6 0, geti r6 1, geti r6 2, geti r6 3, geti r6 4, geti r6 5) came4), .bool (mhas (geti r6 0, geti r6 1, geti r6 2, geti r6 3, geti r6 4, geti r6 5) came4)]), none, none, none, none, none] [1, 4, 6, 8, 9, 10, 12, 30, 31, 32, 36] [pl 1 (.func (.func 59) #[] #[.pointer (some ⟨g4, 0, none⟩), .pointer (some ⟨g5, 0, none⟩)]), pl 4 (.map (some g7)), pl 6 (.slice A7 next3.length c7), pl 8 (.pointer (some ⟨(getd rzP100 raw3 z3).1, 0, none⟩)), pl 9 (.int .i64 z5), pl 10 (.pointer (some ⟨g10, 0, none⟩)), pl 12 (.bool (mhas (geti r6 0, geti r6 1, geti r6 2, geti r6 3, geti r6 4, geti r6 5) came4)), pl 30 (.slice A8 z4.length c8), pl 31 (.int .i64 (ring1.length : Int)), pl 32 (.int .i64 z3), pl 36 (.int .i64 z5)] hF hS Fol (by kernel_rfl) (by kernel_rfl) (by kernel_rfl) ?_ (fun a w hF hS => ?_)
                  · exact obs_cons (ob_load Agg22 (fun _ _ hS => (hS.at_ 5 rfl).cell rfl)) <| obs_cons (ob_call Try.func55 (by kernel_rfl) rfl (fun _ _ hS => slide_nameOf_w hr6 hS (fun _ hS => (hS.at_ 6 rfl).rd) ((hS.at_ 6 rfl).cap1) ((hS.at_ 6 rfl).len1))) <| obs_cons (ob_look2 (k := (geti r6 0, geti r6 1, geti r6 2, geti r6 3, geti r6 4, geti r6 5)) (m := came4) MK98 UndM95 (z := (0 : Int)) MZ3 (fun _ hS => ⟨_, _, _, _, hS.at_ 2 rfl⟩)) <| obs_nil
                  refine reg [] [] [1, 4, 6, 8, 9, 10, 30, 31, 32, 36, 75] [pl 1 (.func (.func 59) #[] #[.pointer (some ⟨g4, 0, none⟩), .pointer (some ⟨g5, 0, none⟩)]), pl 4 (.map (some g7)), pl 6 (.slice A7 next3.length c7), pl 8 (.pointer (some ⟨(getd rzP100 raw3 z3).1, 0, none⟩)), pl 9 (.int .i64 z5), pl 10 (.pointer (some ⟨g10, 0, none⟩)), pl 30 (.slice A8 z4.length c8), pl 31 (.int .i64 (ring1.length : Int)), pl 32 (.int .i64 z3), pl 36 (.int .i64 z5), pl 75 (.bool (!(mhas (geti r6 0, geti r6 1, geti r6 2, geti r6 3, geti r6 4, geti r6 5) came4)))] hF hS Fol (by kernel_rfl) (by kernel_rfl) (by kernel_rfl) ?_ (fun a w hF hS => ?_)
                  · exact obs_nil
                  refine cond_ev (t := 75) (b := !(mhas (geti r6 0, geti r6 1, geti r6 2, geti r6 3, geti r6 4, geti r6 5) came4)) hF (by kernel_rfl) (fun hb => ?_) (fun hb => ?_)
                  · replace hm := if_t hm hb
                    refine seqR ?_
                    obtain ⟨r7, hr7, hm⟩ := call_b hm
                    refine at_run 8 [⟨false, [], vS (Instr.loadAt 22 (.pointer (some ⟨g10, 2, none⟩))), .slice A11 r4.length c11⟩, ⟨false, [], callFunc 55 #[.slice A11 r4.length c11], .agg (List.toArray (([] : List Value) ++ (arr1 (Value.int .i64) (0 : Int) 6 r7 ++ ([] : List Value))))⟩] [none, none, none, none, none, some (.slice A11 r4.length c11), some (.agg (List.toArray (([] : List Value) ++ (arr1 (Value.int .i64) (0 : Int) 6 r7 ++ ([] : List Value))))), none] [1, 4, 6, 8, 10, 30, 31, 32, 36, 76, 82, 83] [pl 1 (.func (.func 59) #[] #[.pointer (some ⟨g4, 0, none⟩), .pointer (some ⟨g5, 0, none⟩)]), pl 4 (.map (some g7)), pl 6 (.slice A7 next3.length c7), pl 8 (.pointer (some ⟨(getd rzP100 raw3 z3).1, 0, none⟩)), pl 10 (.pointer (some ⟨g10, 0, none⟩)), pl 30 (.slice A8 z4.length c8), pl 31 (.int .i64 (ring1.length : Int)), pl 32 (.int .i64 z3), pl 36 (.int .i64 z5), pl 76 (.map (some g7)), pl 82 (.agg (List.toArray (([] : List Value) ++ (arr1 (Value.int .i64) (0 : Int) 6 r7 ++ ([] : List Value))))), pl 83 (.int .i64 z5)] hF hS (by kernel_rfl) (by kernel_rfl) ?_ (fun a w hF hS => ?_)
                    · exact obs_cons (ob_load Agg22 (fun _ _ hS => (hS.at_ 5 rfl).cell rfl)) <| obs_cons (ob_call Try.func55 (by kernel_rfl) rfl (fun _ _ hS => slide_nameOf_w hr7 hS (fun _ hS => (hS.at_ 6 rfl).rd) ((hS.at_ 6 rfl).cap1) ((hS.at_ 6 rfl).len1))) <| obs_nil
                    obtain ⟨w, hrun, hS⟩ := run_mput (P := Try.prog) (t := 95) (vf := (Value.int .i64)) MK98 UndM95 (geti r7 0, geti r7 1, geti r7 2, geti r7 3, geti r7 4, geti r7 5) z5 (hS.at_ 2 rfl)
                    refine at_skip hF (by kernel_rfl) hrun ?_
                    have hS : Sep w0 B w (blk g4 3 #[.int .i64 tell5] :: blk g5 3 #[.int .i64 tell6] :: mapH kf98 (Value.int .i64) g7 (mput (geti r7 0, geti r7 1, geti r7 2, geti r7 3, geti r7 4, geti r7 5) z5 came4) :: pg4 :: els encP100 Rel100 pg4 100 1 A7 next3.length c7 raw5 next3 :: blk g10 103 #[.int .i64 ((getd zP100 z2 z3).1), .int .i64 ((getd zP100 z2 z3).2.1), .slice A11 r4.length c11, .int .i64 u2] :: own 3 (.slice A11 r4.length c11) (vI u1) :: fs) := hS
                    refine at_end [1, 4, 6, 8, 10, 30, 31, 32, 36] [pl 1 (.func (.func 59) #[] #[.pointer (some ⟨g4, 0, none⟩), .pointer (some ⟨g5, 0, none⟩)]), pl 4 (.map (some g7)), pl 6 (.slice A7 next3.length c7), pl 8 (.pointer (some ⟨(getd rzP100 raw3 z3).1, 0, none⟩)), pl 10 (.pointer (some ⟨g10, 0, none⟩)), pl 30 (.slice A8 z4.length c8), pl 31 (.int .i64 (ring1.length : Int)), pl 32 (.int .i64 z3), pl 36 (.int .i64 z5)] hF rfl (by kernel_rfl) (fun hF => ?_)
                    refine then_n ?_
                    refine oneR ?_
                    obtain ⟨hp12, hm⟩ := asrt_b hm
                    refine at_run 2 [] [] [1, 4, 8, 30, 31, 32, 36, 84, 85] [pl 1 (.func (.func 59) #[] #[.pointer (some ⟨g4, 0, none⟩), .pointer (some ⟨g5, 0, none⟩)]), pl 4 (.map (some g7)), pl 8 (.pointer (some ⟨(getd rzP100 raw3 z3).1, 0, none⟩)), pl 30 (.slice A8 z4.length c8), pl 31 (.int .i64 (ring1.length : Int)), pl 32 (.int .i64 z3), pl 36 (.int .i64 z5), pl 84 (.slice A7 next3.length c7), pl 85 (.pointer (some ⟨g10, 0, none⟩))] hF hS (by kernel_rfl) (by kernel_rfl) ?_ (fun a w hF hS => ?_)
                    · exact obs_nil
                    have hl3 := (hS.at_ 6 rfl).len1
                    have hS := (hS.at_ 6 rfl).reN hl3
                    have hS := (hS.at_ 5 rfl).reBlk (congrArg (fun k9 => (#[.int .i64 ((getd zP100 z2 z3).1), .int .i64 ((getd zP100 z2 z3).2.1), .slice A11 k9 c11, .int .i64 u2] : Array Value)) hl3)
                    have hS : Sep w0 B w (blk g4 3 #[.int .i64 tell5] :: blk g5 3 #[.int .i64 tell6] :: mapH kf98 (Value.int .i64) g7 (mput (geti r7 0, geti r7 1, geti r7 2, geti r7 3, geti r7 4, geti r7 5) z5 came4) :: pg4 :: els encP100 Rel100 pg4 100 1 A7 next3.length c7 raw5 next3 :: blk g10 103 #[.int .i64 ((getd zP100 z2 z3).1), .int .i64 ((getd zP100 z2 z3).2.1), .slice A11 u1.length c11, .int .i64 u2] :: own 3 (.slice A11 u1.length c11) (vI u1) :: fs) := hS
                    have hc14 := (hS.at_ 6 rfl).cap1
                    have hS := hS.pickN 7 [6, 3, 0, 1, 2, 4, 5] (by decide)
                    have hS : Sep w0 B w ((twoB (own 3 (.slice A11 u1.length c11) (vI u1)) pg4) :: blk g4 3 #[.int .i64 tell5] :: blk g5 3 #[.int .i64 tell6] :: mapH kf98 (Value.int .i64) g7 (mput (geti r7 0, geti r7 1, geti r7 2, geti r7 3, geti r7 4, geti r7 5) z5 came4) :: els encP100 Rel100 pg4 100 1 A7 next3.length c7 raw5 next3 :: blk g10 103 #[.int .i64 ((getd zP100 z2 z3).1), .int .i64 ((getd zP100 z2 z3).2.1), .slice A11 u1.length c11, .int .i64 u2] :: fs) := hS.two
                    have hS : Sep w0 B w ((twoB (own 3 (.slice A11 u1.length c11) (vI u1)) pg4) :: blk g4 3 #[.int .i64 tell5] :: blk g5 3 #[.int .i64 tell6] :: mapH kf98 (Value.int .i64) g7 (mput (geti r7 0, geti r7 1, geti r7 2, geti r7 3, geti r7 4, geti r7 5) z5 came4) :: els encP100 Rel100 (twoB (own 3 (.slice A11 u1.length c11) (vI u1)) pg4) 100 1 A7 next3.length c7 raw5 next3 :: blk g10 103 #[.int .i64 ((getd zP100 z2 z3).1), .int .i64 ((getd zP100 z2 z3).2.1), .slice A11 u1.length c11, .int .i64 u2] :: fs) := (hS.at_ 4 rfl).elsMonoM RelM100 PoolLe.right
                    have hS : Sep w0 B w ((twoB (own 3 (.slice A11 u1.length c11) (vI u1)) pg4) :: blk g4 3 #[.int .i64 tell5] :: blk g5 3 #[.int .i64 tell6] :: mapH kf98 (Value.int .i64) g7 (mput (geti r7 0, geti r7 1, geti r7 2, geti r7 3, geti r7 4, geti r7 5) z5 came4) :: els encP100 Rel100 (twoB (own 3 (.slice A11 u1.length c11) (vI u1)) pg4) 100 1 A7 next3.length c7 raw5 next3 :: blk g10 103 #[.int .i64 ((getd zP100 z2 z3).1), .int .i64 ((getd zP100 z2 z3).2.1), .slice A11 u1.length c11, .int .i64 u2] :: fs) := hS
                    have hS := hS.pickN 6 [5, 0, 1, 2, 3, 4] (by decide)
                    have hS : Sep w0 B w ((twoB (blk g10 103 #[.int .i64 ((getd zP100 z2 z3).1), .int .i64 ((getd zP100 z2 z3).2.1), .slice A11 u1.length c11, .int .i64 u2]) (twoB (own 3 (.slice A11 u1.length c11) (vI u1)) pg4)) :: blk g4 3 #[.int .i64 tell5] :: blk g5 3 #[.int .i64 tell6] :: mapH kf98 (Value.int .i64) g7 (mput (geti r7 0, geti r7 1, geti r7 2, geti r7 3, geti r7 4, geti r7 5) z5 came4) :: els encP100 Rel100 (twoB (own 3 (.slice A11 u1.length c11) (vI u1)) pg4) 100 1 A7 next3.length c7 raw5 next3 :: fs) := hS.two
                    have hS : Sep w0 B w ((twoB (blk g10 103 #[.int .i64 ((getd zP100 z2 z3).1), .int .i64 ((getd zP100 z2 z3).2.1), .slice A11 u1.length c11, .int .i64 u2]) (twoB (own 3 (.slice A11 u1.length c11) (vI u1)) pg4)) :: blk g4 3 #[.int .i64 tell5] :: blk g5 3 #[.int .i64 tell6] :: mapH kf98 (Value.int .i64) g7 (mput (geti r7 0, geti r7 1, geti r7 2, geti r7 3, geti r7 4, geti r7 5) z5 came4) :: els encP100 Rel100 (twoB (blk g10 103 #[.int .i64 ((getd zP100 z2 z3).1), .int .i64 ((getd zP100 z2 z3).2.1), .slice A11 u1.length c11, .int .i64 u2]) (twoB (own 3 (.slice A11 u1.length c11) (vI u1)) pg4)) 100 1 A7 next3.length c7 raw5 next3 :: fs) := (hS.at_ 4 rfl).elsMonoM RelM100 PoolLe.right
                    refine at_do (d := 86) (s := vS (Instr.buildSlice 94 1 #[(0, .pointer (some ⟨g10, 0, none⟩))])) (v := .slice (some ⟨w.heap.size, 0, none⟩) 1 1) (w' := w.alloc (.cells #[.pointer (some ⟨g10, 0, none⟩)] 100)) hF (by kernel_rfl) (by kernel_rfl) (by kernel_rfl) (fun a hF => ?_)
                    have hS : Sep w0 B (w.alloc (.cells #[.pointer (some ⟨g10, 0, none⟩)] 100)) (els encP100 Rel100 (twoB (blk g10 103 #[.int .i64 ((getd zP100 z2 z3).1), .int .i64 ((getd zP100 z2 z3).2.1), .slice A11 u1.length c11, .int .i64 u2]) (twoB (own 3 (.slice A11 u1.length c11) (vI u1)) pg4)) 100 1 (some (⟨w.heap.size, 0, none⟩ : Addr)) 1 1 ([(g10, (A11, u1.length, c11))] : List (Nat × Hd3)) ([((getd zP100 z2 z3).1, (getd zP100 z2 z3).2.1, u1, u2)] : List (Int × Int × List Int × Int)) :: ((twoB (blk g10 103 #[.int .i64 ((getd zP100 z2 z3).1), .int .i64 ((getd zP100 z2 z3).2.1), .slice A11 u1.length c11, .int .i64 u2]) (twoB (own 3 (.slice A11 u1.length c11) (vI u1)) pg4)) :: blk g4 3 #[.int .i64 tell5] :: blk g5 3 #[.int .i64 tell6] :: mapH kf98 (Value.int .i64) g7 (mput (geti r7 0, geti r7 1, geti r7 2, geti r7 3, geti r7 4, geti r7 5) z5 came4) :: els encP100 Rel100 (twoB (blk g10 103 #[.int .i64 ((getd zP100 z2 z3).1), .int .i64 ((getd zP100 z2 z3).2.1), .slice A11 u1.length c11, .int .i64 u2]) (twoB (own 3 (.slice A11 u1.length c11) (vI u1)) pg4)) 100 1 A7 next3.length c7 raw5 next3 :: fs)) := Sep.ownEls' (l := []) (hS.litK 100 1 #[.pointer (some ⟨g10, 0, none⟩)] 1 rfl (by omega)) rfl (PAll.cons ⟨(PoolB.of (cs := ([.int .i64 ((getd zP100 z2 z3).1), .int .i64 ((getd zP100 z2 z3).2.1), .slice A11 u1.length c11, .int .i64 u2] : List Value)) rfl : PoolB (twoB (blk g10 103 #[.int .i64 ((getd zP100 z2 z3).1), .int .i64 ((getd zP100 z2 z3).2.1), .slice A11 u1.length c11, .int .i64 u2]) (twoB (own 3 (.slice A11 u1.length c11) (vI u1)) pg4)) g10 ([.int .i64 ((getd zP100 z2 z3).1), .int .i64 ((getd zP100 z2 z3).2.1), .slice A11 u1.length c11, .int .i64 u2] : List Value)), SlR.of (PoolW.mono PoolLe.right (PoolW.own : PoolW (twoB (own 3 (.slice A11 u1.length c11) (vI u1)) pg4) A11 u1)) hc14⟩ (PAll.nil : PAll Rel100 (twoB (blk g10 103 #[.int .i64 ((getd zP100 z2 z3).1), .int .i64 ((getd zP100 z2 z3).2.1), .slice A11 u1.length c11, .int .i64 u2]) (twoB (own 3 (.slice A11 u1.length c11) (vI u1)) pg4)) ([] : List (Nat × Hd3)) ([] : List (Int × Int × List Int × Int))))
                    generalize (some (⟨w.heap.size, 0, none⟩ : Addr)) = g11 at hF hS
                    generalize w.alloc (.cells #[.pointer (some ⟨g10, 0, none⟩)] 100) = w at hS ⊢
                    obtain ⟨A14, c14, w, hrun, hS⟩ := run_appE (P := Try.prog) (t := 94) (ys := ([(g10, (A11, u1.length, c11))] : List (Nat × Hd3))) (my := ([((getd zP100 z2 z3).1, (getd zP100 z2 z3).2.1, u1, u2)] : List (Int × Int × List Int × Int))) (A2 := g11) (m2 := 1) (c2 := 1) encPK100 (hS.at_ 5 rfl) (hS.at_ 0 rfl).rdE (hS.at_ 0 rfl).elsAll ((hS.at_ 0 rfl).lenEr encPK100) 94 Und94 hi100 hz100 hs100 rfl (by omega) hp12
                    have hS : Sep w0 B w (els encP100 Rel100 (twoB (blk g10 103 #[.int .i64 ((getd zP100 z2 z3).1), .int .i64 ((getd zP100 z2 z3).2.1), .slice A11 u1.length c11, .int .i64 u2]) (twoB (own 3 (.slice A11 u1.length c11) (vI u1)) pg4)) 100 1 g11 1 1 ([(g10, (A11, u1.length, c11))] : List (Nat × Hd3)) ([((getd zP100 z2 z3).1, (getd zP100 z2 z3).2.1, u1, u2)] : List (Int × Int × List Int × Int)) :: (twoB (blk g10 103 #[.int .i64 ((getd zP100 z2 z3).1), .int .i64 ((getd zP100 z2 z3).2.1), .slice A11 u1.length c11, .int .i64 u2]) (twoB (own 3 (.slice A11 u1.length c11) (vI u1)) pg4)) :: blk g4 3 #[.int .i64 tell5] :: blk g5 3 #[.int .i64 tell6] :: mapH kf98 (Value.int .i64) g7 (mput (geti r7 0, geti r7 1, geti r7 2, geti r7 3, geti r7 4, geti r7 5) z5 came4) :: els encP100 Rel100 (twoB (blk g10 103 #[.int .i64 ((getd zP100 z2 z3).1), .int .i64 ((getd zP100 z2 z3).2.1), .slice A11 u1.length c11, .int .i64 u2]) (twoB (own 3 (.slice A11 u1.length c11) (vI u1)) pg4)) 100 1 A14 ((next3 ++ ([((getd zP100 z2 z3).1, (getd zP100 z2 z3).2.1, u1, u2)] : List (Int × Int × List Int × Int))).length) c14 (raw5 ++ ([(g10, (A11, u1.length, c11))] : List (Nat × Hd3))) (next3 ++ ([((getd zP100 z2 z3).1, (getd zP100 z2 z3).2.1, u1, u2)] : List (Int × Int × List Int × Int))) :: fs) := hS
                    refine at_do (d := 87) hF (by kernel_rfl) (by kernel_rfl) hrun (fun a hF => ?_)
                    refine at_run 1 [] [] [1, 4, 6, 8, 30, 31, 32, 36] [pl 1 (.func (.func 59) #[] #[.pointer (some ⟨g4, 0, none⟩), .pointer (some ⟨g5, 0, none⟩)]), pl 4 (.map (some g7)), pl 6 (.slice A14 ((next3 ++ ([((getd zP100 z2 z3).1, (getd zP100 z2 z3).2.1, u1, u2)] : List (Int × Int × List Int × Int))).length) c14), pl 8 (.pointer (some ⟨(getd rzP100 raw3 z3).1, 0, none⟩)), pl 30 (.slice A8 z4.length c8), pl 31 (.int .i64 (ring1.length : Int)), pl 32 (.int .i64 z3), pl 36 (.int .i64 z5)] hF hS (by kernel_rfl) (by kernel_rfl) ?_ (fun a w hF hS => ?_)
                    · exact obs_nil
                    refine at_end [1, 4, 6, 8, 30, 31, 32, 36] [pl 1 (.func (.func 59) #[] #[.pointer (some ⟨g4, 0, none⟩), .pointer (some ⟨g5, 0, none⟩)]), pl 4 (.map (some g7)), pl 6 (.slice A14 ((next3 ++ ([((getd zP100 z2 z3).1, (getd zP100 z2 z3).2.1, u1, u2)] : List (Int × Int × List Int × Int))).length) c14), pl 8 (.pointer (some ⟨(getd rzP100 raw3 z3).1, 0, none⟩)), pl 30 (.slice A8 z4.length c8), pl 31 (.int .i64 (ring1.length : Int)), pl 32 (.int .i64 z3), pl 36 (.int .i64 z5)] hF rfl (by kernel_rfl) (fun hF => ?_)
                    refine block_n ?_
                    refine then_n ?_
                    have hS := hS.pickN 6 [2, 3, 4, 1, 5] (by decide)
                    exact ⟨(mput (geti r7 0, geti r7 1, geti r7 2, geti r7 3, geti r7 4, geti r7 5) z5 came4), (next3 ++ ([((getd zP100 z2 z3).1, (getd zP100 z2 z3).2.1, u1, u2)] : List (Int × Int × List Int × Int))), z4, (twoB (blk g10 103 #[.int .i64 ((getd zP100 z2 z3).1), .int .i64 ((getd zP100 z2 z3).2.1), .slice A11 u1.length c11, .int .i64 u2]) (twoB (own 3 (.slice A11 u1.length c11) (vI u1)) pg4)), (raw5 ++ ([(g10, (A11, u1.length, c11))] : List (Nat × Hd3))), A14, c14, A8, c8, raw6, hF.weak [1, 4, 6, 8, 30, 31, 32, 36] (by kernel_rfl), hS, (PoolB.mono PoolLe.right (PoolB.mono PoolLe.right hp5)), trivial, (PoolW.mono PoolLe.right (PoolW.mono PoolLe.right hp6)), hc8, (PoolE.monoM RelM100 PoolLe.right (PoolE.monoM RelM100 PoolLe.right hp7)), hc9, hm⟩
                  · replace hm := if_f hm hb
                    refine wpIn_skip ?_
                    refine block_n ?_
                    refine then_n ?_
                    have hS := hS.pickN 7 [0, 1, 2, 3, 4] (by decide)
                    exact ⟨came4, next3, z4, pg4, raw5, A7, c7, A8, c8, raw6, hF.weak [1, 4, 6, 8, 30, 31, 32, 36] (by kernel_rfl), hS, hp5, trivial, hp6, hc8, hp7, hc9, hm⟩
                · refine seqR ?_
                  obtain ⟨r5, hr5, hm⟩ := call_b hm
                  refine at_run 2 [] [] [1, 4, 6, 8, 9, 10, 30, 31, 32, 36, 59, 60] [pl 1 (.func (.func 59) #[] #[.pointer (some ⟨g4, 0, none⟩), .pointer (some ⟨g5, 0, none⟩)]), pl 4 (.map (some g7)), pl 6 (.slice A7 next3.length c7), pl 8 (.pointer (some ⟨(getd rzP100 raw3 z3).1, 0, none⟩)), pl 9 (.int .i64 z5), pl 10 (.pointer (some ⟨g10, 0, none⟩)), pl 30 (.slice A8 z4.length c8), pl 31 (.int .i64 (ring1.length : Int)), pl 32 (.int .i64 z3), pl 36 (.int .i64 z5), pl 59 (.pointer (some ⟨g10, 0, none⟩)), pl 60 (.int .i64 z5)] hF hS (by kernel_rfl) (by kernel_rfl) ?_ (fun a w hF hS => ?_)
                  · exact obs_nil
                  have hS : Sep w0 B w (blk g10 103 #[.int .i64 ((getd zP100 z2 z3).1), .int .i64 ((getd zP100 z2 z3).2.1), .slice A11 r4.length c11, .int .i64 ((getd zP100 z2 z3).2.2.2)] :: own 3 (.slice A11 r4.length c11) (vI r4) :: blk g4 3 #[.int .i64 tell5] :: blk g5 3 #[.int .i64 tell6] :: mapH kf98 (Value.int .i64) g7 came4 :: pg4 :: els encP100 Rel100 pg4 100 1 A7 next3.length c7 raw5 next3 :: fs) := hS.pickN 7 [1, 0, 2, 3, 4, 5, 6] (by decide)
                  refine at_call (f := 57) (args := #[.pointer (some ⟨g10, 0, none⟩), .int .i64 z5]) (d := 61) hF (by kernel_rfl) (by kernel_rfl) Try.func57 (by kernel_rfl) rfl (slide_tray_move_w hr5 hS ) (fun v a w hR hF => ?_)
                  clear hS
                  obtain ⟨rfl, hS⟩ := hR
                  have hS : Sep w0 B w (blk g10 103 #[.int .i64 ((getd zP100 z2 z3).1), .int .i64 ((getd zP100 z2 z3).2.1), .slice A11 r4.length c11, .int .i64 r5.2.2] :: own 3 (.slice A11 r4.length c11) (vI r5.2.1) :: blk g4 3 #[.int .i64 tell5] :: blk g5 3 #[.int .i64 tell6] :: mapH kf98 (Value.int .i64) g7 came4 :: pg4 :: els encP100 Rel100 pg4 100 1 A7 next3.length c7 raw5 next3 :: fs) := hS
                  refine at_run 1 [] [] [1, 4, 6, 8, 9, 10, 30, 31, 32, 36, 62] [pl 1 (.func (.func 59) #[] #[.pointer (some ⟨g4, 0, none⟩), .pointer (some ⟨g5, 0, none⟩)]), pl 4 (.map (some g7)), pl 6 (.slice A7 next3.length c7), pl 8 (.pointer (some ⟨(getd rzP100 raw3 z3).1, 0, none⟩)), pl 9 (.int .i64 z5), pl 10 (.pointer (some ⟨g10, 0, none⟩)), pl 30 (.slice A8 z4.length c8), pl 31 (.int .i64 (ring1.length : Int)), pl 32 (.int .i64 z3), pl 36 (.int .i64 z5), pl 62 (.bool (!r5.1))] hF hS (by kernel_rfl) (by kernel_rfl) ?_ (fun a w hF hS => ?_)
                  · exact obs_nil
                  refine at_end [1, 4, 6, 8, 9, 10, 30, 31, 32, 36, 62] [pl 1 (.func (.func 59) #[] #[.pointer (some ⟨g4, 0, none⟩), .pointer (some ⟨g5, 0, none⟩)]), pl 4 (.map (some g7)), pl 6 (.slice A7 next3.length c7), pl 8 (.pointer (some ⟨(getd rzP100 raw3 z3).1, 0, none⟩)), pl 9 (.int .i64 z5), pl 10 (.pointer (some ⟨g10, 0, none⟩)), pl 30 (.slice A8 z4.length c8), pl 31 (.int .i64 (ring1.length : Int)), pl 32 (.int .i64 z3), pl 36 (.int .i64 z5), pl 62 (.bool (!r5.1))] hF rfl (by kernel_rfl) (fun hF => ?_)
                  refine then_n ?_
                  refine cond_ev (t := 62) (b := !r5.1) hF (by kernel_rfl) (fun hb => ?_) (fun hb => ?_)
                  · replace hm := if_t hm hb
                    refine wpIn_exit ?_
                    refine then_e (block_e (then_n ?_))
                    have hS := hS.pickN 7 [2, 3, 4, 5, 6] (by decide)
                    exact ⟨came4, next3, z4, pg4, raw5, A7, c7, A8, c8, raw6, hF.weak [1, 4, 6, 8, 30, 31, 32, 36] (by kernel_rfl), hS, hp5, trivial, hp6, hc8, hp7, hc9, hm⟩
                  · replace hm := if_f hm hb
                    refine wpIn_skip ?_
                    refine then_n ?_
                    have hS := hS.pickN 7 [2, 3, 4, 5, 6, 0, 1] (by decide)
                    exact ⟨r5.2.1, r5.2.2, hF.weak [1, 4, 6, 8, 9, 10, 30, 31, 32, 36] (by kernel_rfl), hS, hm⟩
            · refine cond_ev (t := 37) (b := decide (z5 < 4)) hF (by kernel_rfl) (fun hb => ?_) (fun hb => ?_)
              · replace hm := if_t hm hb
                refine wpIn_skip ?_
                refine then_n ?_
                exact ⟨hF.weak [1, 4, 6, 8, 30, 31, 32, 36] (by kernel_rfl), hS, hm⟩
              · replace hm := if_f hm hb
                refine wpIn_exit ?_
                refine then_e (then_e (block_e (block_n (then_n ?_))))
                rw [← hφ3] at hm
                replace hm := done_b hm
                unfold slide_rings_2_K3 at hm
                try dsimp only at hm
                have hm : ((slide_rings_2_J6 z3) came4 next3 z4).bind φ2 = some r := hm
                exact ⟨came4, next3, z4, pg4, raw5, A7, c7, A8, c8, raw6, hF.weak [1, 4, 6, 30, 31, 32] (by kernel_rfl), hS, hp7, hc9, hm⟩
        · refine cond_ev (t := 33) (b := decide (z3 < (ring1.length : Int))) hF (by kernel_rfl) (fun hb => ?_) (fun hb => ?_)
          · replace hm := if_t hm hb
            refine wpIn_skip ?_
            refine then_n ?_
            exact ⟨hF.weak [1, 4, 6, 30, 31, 32] (by kernel_rfl), hS, hm⟩
          · replace hm := if_f hm hb
            refine wpIn_exit ?_
            refine then_e (then_e (block_e (then_n ?_)))
            rw [← hφ2] at hm
            replace hm := done_b hm
            unfold slide_rings_2_K2 at hm
            try dsimp only at hm
            have hm : ((slide_rings_2_J4 tell5 tell6) came2 next1).bind φ1 = some r := hm
            exact ⟨came2, next1, pg2, raw2, A4, c4, hF.weak [1, 4, 6] (by kernel_rfl), hS, hm⟩
    · refine seq_cut (fun a w => ∃ (tell3 : Int) (tell4 : Int) (z1 : Bool), Fr 91 [pl 1 (.func (.func 59) #[] #[.pointer (some ⟨g4, 0, none⟩), .pointer (some ⟨g5, 0, none⟩)]), pl 4 (.map (some g7)), pl 5 (.slice A3 ring1.length c3), pl 29 (.bool z1)] a ∧ Sep w0 B w (blk g4 3 #[.int .i64 tell3] :: blk g5 3 #[.int .i64 tell4] :: mapH kf98 (Value.int .i64) g7 came1 :: (twoB (els encP100 Rel100 pg1 100 1 A3 ring1.length c3 raw1 ring1) pg1) :: fs) ∧ PoolE encP100 Rel100 (twoB (els encP100 Rel100 pg1 100 1 A3 ring1.length c3 raw1 ring1) pg1) A3 raw1 ring1 ∧ ring1.length ≤ c3 ∧ ((slide_rings_2_J3 came1 ring1) tell3 tell4 z1).bind φ1 = some r) ?_ ?_
      · rintro a w ⟨tell3, tell4, z1, hF, hS, hp1, hc3, hm⟩
        unfold slide_rings_2_J3 at hm
        refine cond_ev (t := 29) (b := z1) hF (by kernel_rfl) (fun hb => ?_) (fun hb => ?_)
        · replace hm := if_t hm hb
          refine wpIn_skip ?_
          refine then_n ?_
          exact ⟨tell3, tell4, hF.weak [1, 4, 5] (by kernel_rfl), hS, hp1, hc3, hm⟩
        · replace hm := if_f hm hb
          refine wpIn_exit ?_
          refine then_e (then_e (block_e (then_n ?_)))
          have hS := hS.pickN 4 [0, 1] (by decide)
          rw [← hφ1] at hm
          replace hm := done_b hm
          unfold slide_rings_2_K1 at hm
          try dsimp only at hm
          have hm : (slide_rings_2_J1 tell3 tell4).bind some = some r := hm
          exact ⟨tell3, tell4, hF.weak [] (by kernel_rfl), hS, hm⟩
      · refine oneR ?_
        refine at_run 7 [] [] [1, 4, 5, 24, 25, 26, 27] [pl 1 (.func (.func 59) #[] #[.pointer (some ⟨g4, 0, none⟩), .pointer (some ⟨g5, 0, none⟩)]), pl 4 (.map (some g7)), pl 5 (.slice A3 ring1.length c3), pl 24 (.bool (decide ((0 : Int) < (ring1.length : Int)))), ⟨25, [(24, true)], .func (.func 59) #[] #[.pointer (some ⟨g4, 0, none⟩), .pointer (some ⟨g5, 0, none⟩)]⟩, ⟨26, [(24, true)], .slice A3 ring1.length c3⟩, ⟨27, [(24, true)], .map (some g7)⟩] hF hS (by kernel_rfl) (by kernel_rfl) ?_ (fun a w hF hS => ?_)
        · exact obs_nil
        rcases Bool.eq_false_or_eq_true (decide ((0 : Int) < (ring1.length : Int))) with hg1 | hg1
        · replace hm := if_t hm hg1
          obtain ⟨r3, hr3, hm⟩ := call_b hm
          have hc2 := (hS.at_ 4 rfl).capE encPK100
          have hg2 := (hS.at_ 4 rfl).elsAll
          have hS := hS.pickN 5 [4, 3, 0, 1, 2] (by decide)
          have hS : Sep w0 B w ((twoB (els encP100 Rel100 pg1 100 1 A3 ring1.length c3 raw1 ring1) pg1) :: blk g4 3 #[.int .i64 tell1] :: blk g5 3 #[.int .i64 tell2] :: mapH kf98 (Value.int .i64) g7 came1 :: fs) := hS.two
          have hS : Sep w0 B w ((twoB (els encP100 Rel100 pg1 100 1 A3 ring1.length c3 raw1 ring1) pg1) :: mapH kf98 (Value.int .i64) g7 came1 :: blk g4 3 #[.int .i64 tell1] :: blk g5 3 #[.int .i64 tell2] :: fs) := hS.pickN 4 [0, 3, 1, 2] (by decide)
          refine at_gcall (hs := [(decide ((0 : Int) < (ring1.length : Int)), true)]) (fun y hy => by simp only [List.mem_cons, List.not_mem_nil, or_false] at hy; subst hy; first | exact hg1) (f := 59) (args := #[.slice A3 ring1.length c3, .map (some g7), .pointer (some ⟨g4, 0, none⟩), .pointer (some ⟨g5, 0, none⟩)]) (d := 28) hF (by kernel_rfl) (by kernel_rfl) Try.func59 (by kernel_rfl) rfl (slide_Count_1_w hr3 hS (PoolE.ownM RelM100 hg2 : PoolE encP100 Rel100 (twoB (els encP100 Rel100 pg1 100 1 A3 ring1.length c3 raw1 ring1) pg1) A3 raw1 ring1) hc2 rfl) (fun v a w hR hF => ?_)
          clear hS
          obtain ⟨rfl, hle1, hS⟩ := hR
          have hS : Sep w0 B w ((twoB (els encP100 Rel100 pg1 100 1 A3 ring1.length c3 raw1 ring1) pg1) :: mapH kf98 (Value.int .i64) g7 came1 :: blk g4 3 #[.int .i64 r3.2.1] :: blk g5 3 #[.int .i64 r3.2.2] :: fs) := hS
          refine at_run 1 [] [] [1, 4, 5, 29] [pl 1 (.func (.func 59) #[] #[.pointer (some ⟨g4, 0, none⟩), .pointer (some ⟨g5, 0, none⟩)]), pl 4 (.map (some g7)), pl 5 (.slice A3 ring1.length c3), pl 29 (.bool ((decide ((0 : Int) < (ring1.length : Int))) && r3.1))] hF hS (by kernel_rfl) (by kernel_rfl) ?_ (fun a w hF hS => ?_)
          · exact obs_nil
          refine at_end [1, 4, 5, 29] [pl 1 (.func (.func 59) #[] #[.pointer (some ⟨g4, 0, none⟩), .pointer (some ⟨g5, 0, none⟩)]), pl 4 (.map (some g7)), pl 5 (.slice A3 ring1.length c3), pl 29 (.bool ((decide ((0 : Int) < (ring1.length : Int))) && r3.1))] hF rfl (by kernel_rfl) (fun hF => ?_)
          refine then_n ?_
          have hS := hS.pickN 4 [2, 3, 1, 0] (by decide)
          exact ⟨r3.2.1, r3.2.2, ((decide ((0 : Int) < (ring1.length : Int))) && r3.1), hF.weak [1, 4, 5, 29] (by kernel_rfl), hS, (PoolE.monoM RelM100 hle1 (PoolE.ownM RelM100 hg2 : PoolE encP100 Rel100 (twoB (els encP100 Rel100 pg1 100 1 A3 ring1.length c3 raw1 ring1) pg1) A3 raw1 ring1)), hc2, hm⟩
        · replace hm := if_f hm hg1
          refine at_gskip (d := 28) (v := .bool false) (hs := [(decide ((0 : Int) < (ring1.length : Int)), true)]) (ctx := [(24, true)]) hF (by kernel_rfl) (by kernel_rfl) (fun h => absurd (h (decide ((0 : Int) < (ring1.length : Int)), true) (by simp)) (by first | exact fun hz => Bool.noConfusion (Eq.trans (Eq.symm hg1) hz) | simp [hg1])) (fun a hF => ?_)
          refine at_run 1 [] [] [1, 4, 5, 29] [pl 1 (.func (.func 59) #[] #[.pointer (some ⟨g4, 0, none⟩), .pointer (some ⟨g5, 0, none⟩)]), pl 4 (.map (some g7)), pl 5 (.slice A3 ring1.length c3), pl 29 (.bool ((decide ((0 : Int) < (ring1.length : Int))) && false))] hF hS (by kernel_rfl) (by kernel_rfl) ?_ (fun a w hF hS => ?_)
          · exact obs_nil
          refine at_end [1, 4, 5, 29] [pl 1 (.func (.func 59) #[] #[.pointer (some ⟨g4, 0, none⟩), .pointer (some ⟨g5, 0, none⟩)]), pl 4 (.map (some g7)), pl 5 (.slice A3 ring1.length c3), pl 29 (.bool ((decide ((0 : Int) < (ring1.length : Int))) && false))] hF rfl (by kernel_rfl) (fun hF => ?_)
          refine then_n ?_
          have hc4 := (hS.at_ 4 rfl).capE encPK100
          have hg3 := (hS.at_ 4 rfl).elsAll
          have hS := hS.pickN 5 [4, 3, 0, 1, 2] (by decide)
          have hS : Sep w0 B w ((twoB (els encP100 Rel100 pg1 100 1 A3 ring1.length c3 raw1 ring1) pg1) :: blk g4 3 #[.int .i64 tell1] :: blk g5 3 #[.int .i64 tell2] :: mapH kf98 (Value.int .i64) g7 came1 :: fs) := hS.two
          have hS := hS.pickN 4 [1, 2, 3, 0] (by decide)
          exact ⟨tell1, tell2, ((decide ((0 : Int) < (ring1.length : Int))) && false), hF.weak [1, 4, 5, 29] (by kernel_rfl), hS, (PoolE.ownM RelM100 hg3 : PoolE encP100 Rel100 (twoB (els encP100 Rel100 pg1 100 1 A3 ring1.length c3 raw1 ring1) pg1) A3 raw1 ring1), hc4, hm⟩

noncomputable def slide_Count_J1  (w1 : Int) (h1 : Int) (steps1 : Int) : Option (Int × Int) :=
  (slide_home_m w1 h1).bind fun r3 => (slide_rings_2_m r3.1 r3.2.1 r3.2.2 steps1 0).bind fun r4 => some (r4.2, 0)

noncomputable def slide_Count_m  (w1 : Int) (h1 : Int) (steps1 : Int) : Option (Int × Int) :=
  (slide_far_m w1).bind fun r1 => ((if (!r1) then slide_far_m h1 else some false)).bind fun r2 => if ((r1 || r2) || (decide ((6 : Int) < (w64 (w1 * h1))))) then (some (0, 2)) else (if ((decide (steps1 < 0)) || (decide ((40 : Int) < steps1))) then (some (0, 3)) else ((slide_Count_J1 w1 h1 steps1)))

set_option maxRecDepth 100000 in
set_option maxHeartbeats 4000000 in
theorem slide_Count_w  {w1 : Int} {h1 : Int} {steps1 : Int} {r : (Int × Int)} {w0 w : World} {B : Nat} {fs : List HP} (hm : slide_Count_m w1 h1 steps1 = some r) (hS : Sep w0 B w (fs)) :
    Calls Try.prog 14 #[.int .i64 w1, .int .i64 h1, .int .i64 steps1] w fun e w' => e = .returned (.tuple #[.int .i64 r.1, .int .i64 r.2]) ∧ Sep w0 B w' (fs) := by
  obtain ⟨i3, hi3, hz3, hs3, hb3⟩ := info_parts Info3
  unfold slide_Count_m at hm
  replace hm := start_b hm
  refine enter (l := [.int .i64 w1, .int .i64 h1, .int .i64 steps1]) (n := 35) Try.func14 rfl rfl (by simp) (fun a hF => ?_)
  refine seqR ?_
  refine at_do (d := 5) (s := vS (Instr.box 3 (.int .i64 steps1))) (v := .pointer (some ⟨w.heap.size, 0, none⟩)) (w' := w.alloc (.cells #[.int .i64 steps1] 3)) hF (by kernel_rfl) (by kernel_rfl) (by kernel_rfl) (fun a hF => ?_)
  have hS : Sep w0 B (w.alloc (.cells #[.int .i64 steps1] 3)) (blk w.heap.size 3 #[.int .i64 steps1] :: (fs)) := hS.box 3 #[.int .i64 steps1]
  generalize w.heap.size = g1 at hF hS
  generalize w.alloc (.cells #[.int .i64 steps1] 3) = w at hS ⊢
  refine at_run 2 [] [] [0, 1, 5] [pl 0 (.int .i64 w1), pl 1 (.int .i64 h1), pl 5 (.pointer (some ⟨g1, 0, none⟩))] hF hS (by kernel_rfl) (by kernel_rfl) ?_ (fun a w hF hS => ?_)
  · exact obs_nil
  refine at_end [0, 1, 5] [pl 0 (.int .i64 w1), pl 1 (.int .i64 h1), pl 5 (.pointer (some ⟨g1, 0, none⟩))] hF rfl (by kernel_rfl) (fun hF => ?_)
  refine then_n ?_
  refine seq_cut (fun a w => Fr 35 [pl 0 (.int .i64 w1), pl 1 (.int .i64 h1), pl 5 (.pointer (some ⟨g1, 0, none⟩))] a ∧ Sep w0 B w (blk g1 3 #[.int .i64 steps1] :: fs) ∧ ((slide_Count_J1 w1 h1 steps1)).bind some = some r) ?_ ?_
  · rintro a w ⟨hF, hS, hm⟩
    unfold slide_Count_J1 at hm
    refine seqR ?_
    refine at_do (d := 8) (s := vS (Instr.alloc 3 true (.tuple #[]))) (v := .pointer (some ⟨w.heap.size, 0, none⟩)) (w' := w.alloc (.cells #[.int .i64 0] 3)) hF (by kernel_rfl) (by kernel_rfl) (by kernel_rfl) (fun a hF => ?_)
    have hS : Sep w0 B (w.alloc (.cells #[.int .i64 0] 3)) (blk w.heap.size 3 #[.int .i64 0] :: (blk g1 3 #[.int .i64 steps1] :: fs)) := hS.box 3 #[.int .i64 0]
    generalize w.heap.size = g2 at hF hS
    generalize w.alloc (.cells #[.int .i64 0] 3) = w at hS ⊢
    obtain ⟨w, hrun, hS⟩ := run_put (P := Try.prog) (t := 3) (u := .int .i64 0) (i := 0) (hS.at_ 0 rfl) hi3 hs3 rfl (Nat.lt_of_lt_of_eq (Nat.lt_of_succ_le (Nat.le_of_ble_eq_true (by kernel_rfl))) rfl)
    refine at_skip hF (by kernel_rfl) hrun ?_
    have hS : Sep w0 B w (blk g2 3 #[.int .i64 0] :: blk g1 3 #[.int .i64 steps1] :: fs) := hS
    refine at_end [0, 1, 5, 8] [pl 0 (.int .i64 w1), pl 1 (.int .i64 h1), pl 5 (.pointer (some ⟨g1, 0, none⟩)), pl 8 (.pointer (some ⟨g2, 0, none⟩))] hF rfl (by kernel_rfl) (fun hF => ?_)
    refine then_n ?_
    refine seqR ?_
    obtain ⟨r3, hr3, hm⟩ := call_b hm
    obtain ⟨r4, hr4, hm⟩ := call_b hm
    refine at_run 2 [] [] [5, 8, 29, 30] [pl 5 (.pointer (some ⟨g1, 0, none⟩)), pl 8 (.pointer (some ⟨g2, 0, none⟩)), pl 29 (.int .i64 w1), pl 30 (.int .i64 h1)] hF hS (by kernel_rfl) (by kernel_rfl) ?_ (fun a w hF hS => ?_)
    · exact obs_nil
    refine at_call (f := 53) (args := #[.int .i64 w1, .int .i64 h1]) (d := 31) hF (by kernel_rfl) (by kernel_rfl) Try.func53 (by kernel_rfl) rfl (slide_home_w hr3 hS ) (fun v a w hR hF => ?_)
    clear hS
    obtain ⟨A1, c1, rfl, hS⟩ := hR
    have hS : Sep w0 B w (own 3 (.slice A1 r3.2.2.length c1) (vI r3.2.2) :: blk g2 3 #[.int .i64 0] :: blk g1 3 #[.int .i64 steps1] :: fs) := hS
    refine at_run 1 [] [] [8, 31, 32] [pl 8 (.pointer (some ⟨g2, 0, none⟩)), pl 31 (.agg #[.int .i64 r3.1, .int .i64 r3.2.1, .slice A1 r3.2.2.length c1]), pl 32 (.func (.func 59) #[] #[.pointer (some ⟨g1, 0, none⟩), .pointer (some ⟨g2, 0, none⟩)])] hF hS (by kernel_rfl) (by kernel_rfl) ?_ (fun a w hF hS => ?_)
    · exact obs_nil
    have hS : Sep w0 B w (blk g1 3 #[.int .i64 steps1] :: blk g2 3 #[.int .i64 0] :: own 3 (.slice A1 r3.2.2.length c1) (vI r3.2.2) :: fs) := hS.pickN 3 [2, 1, 0] (by decide)
    refine at_call (f := 52) (args := #[.agg #[.int .i64 r3.1, .int .i64 r3.2.1, .slice A1 r3.2.2.length c1], .func (.func 59) #[] #[.pointer (some ⟨g1, 0, none⟩), .pointer (some ⟨g2, 0, none⟩)]]) (d := 33) hF (by kernel_rfl) (by kernel_rfl) Try.func52 (by kernel_rfl) rfl (slide_rings_2_w hr4 hS (fun _ hS => (hS.at_ 0 rfl).rd) (((hS.dropN 2).at_ 0 rfl).cap1) rfl) (fun v a w hR hF => ?_)
    clear hS
    obtain ⟨rfl, hS⟩ := hR
    have hS : Sep w0 B w (blk g1 3 #[.int .i64 r4.1] :: blk g2 3 #[.int .i64 r4.2] :: own 3 (.slice A1 r3.2.2.length c1) (vI r3.2.2) :: fs) := hS
    refine at_end [8] [pl 8 (.pointer (some ⟨g2, 0, none⟩))] hF rfl (by kernel_rfl) (fun hF => ?_)
    refine then_n ?_
    refine reg [⟨false, [], vS (Instr.loadAt 3 (.pointer (some ⟨g2, 0, none⟩))), .int .i64 r4.2⟩] [some (.int .i64 r4.2), none, none] [6, 7] [pl 6 (.int .i64 r4.2), pl 7 (.int .i64 0)] hF hS Fol (by kernel_rfl) (by kernel_rfl) (by kernel_rfl) ?_ (fun a w hF hS => ?_)
    · exact obs_cons (ob_load Agg3 (fun _ _ hS => (hS.at_ 1 rfl).cell rfl)) <| obs_nil
    refine wpIn_ret ?_
    have hS := hS.pickN 3 [] (by decide)
    have hm : some (r4.2, 0) = some r := hm
    obtain rfl := Option.some.inj hm
    exact retV (rs := [.tmp 6, .tmp 7]) (vs := [.int .i64 r4.2, .int .i64 0]) hF rfl (rv_t (by kernel_rfl) <| rv_t (by kernel_rfl) <| rv_nil) rfl ⟨rfl, hS⟩
  · refine wpIn_block ?_
    obtain ⟨r1, hr1, hm⟩ := call_b hm
    obtain ⟨r2, hr2, hm⟩ := call_b hm
    refine reg [⟨false, [], callFunc 58 #[.int .i64 w1], .bool r1⟩, ⟨false, [(r1, false)], callFunc 58 #[.int .i64 h1], .bool r2⟩] [none, some (.bool r1), none, none, some (.bool r2), none, none, none, none, none, none, none, none] [0, 1, 5, 9] [pl 0 (.int .i64 w1), pl 1 (.int .i64 h1), pl 5 (.pointer (some ⟨g1, 0, none⟩)), pl 9 (.bool ((r1 || r2) || (decide ((6 : Int) < (w64 (w1 * h1))))))] hF hS Fol (by kernel_rfl) (by kernel_rfl) (by kernel_rfl) ?_ (fun a w hF hS => ?_)
    · exact obs_cons (ob_call Try.func58 (by kernel_rfl) rfl (fun _ _ hS => slide_far_w hr1 hS )) <| obs_cons (ob_call Try.func58 (by kernel_rfl) rfl (fun hy _ hS => slide_far_w (ite_some hr2 (by rw [show r1 = false from hy (r1, false) (by simp)]; try rfl)) hS )) <| obs_nil
    refine cond_ev (t := 9) (b := (r1 || r2) || (decide ((6 : Int) < (w64 (w1 * h1))))) hF (by kernel_rfl) (fun hb => ?_) (fun hb => ?_)
    · replace hm := if_t hm hb
      refine reg [] [] [6, 7] [pl 6 (.int .i64 0), pl 7 (.int .i64 2)] hF hS Fol (by kernel_rfl) (by kernel_rfl) (by kernel_rfl) ?_ (fun a w hF hS => ?_)
      · exact obs_nil
      refine wpIn_ret ?_
      refine block_r (then_r ?_)
      have hS := hS.pickN 1 [] (by decide)
      have hm : some (0, 2) = some r := hm
      obtain rfl := Option.some.inj hm
      exact retV (rs := [.tmp 6, .tmp 7]) (vs := [.int .i64 0, .int .i64 2]) hF rfl (rv_t (by kernel_rfl) <| rv_t (by kernel_rfl) <| rv_nil) rfl ⟨rfl, hS⟩
    · replace hm := if_f hm hb
      refine reg [⟨false, [], vS (Instr.loadAt 3 (.pointer (some ⟨g1, 0, none⟩))), .int .i64 steps1⟩, ⟨false, [(decide (steps1 < 0), false)], vS (Instr.loadAt 3 (.pointer (some ⟨g1, 0, none⟩))), .int .i64 steps1⟩] [some (.int .i64 steps1), none, none, some (.int .i64 steps1), none, none, none] [0, 1, 5, 22] [pl 0 (.int .i64 w1), pl 1 (.int .i64 h1), pl 5 (.pointer (some ⟨g1, 0, none⟩)), pl 22 (.bool ((decide (steps1 < 0)) || (decide ((40 : Int) < steps1))))] hF hS Fol (by kernel_rfl) (by kernel_rfl) (by kernel_rfl) ?_ (fun a w hF hS => ?_)
      · exact obs_cons (ob_load Agg3 (fun _ _ hS => (hS.at_ 0 rfl).cell rfl)) <| obs_cons (ob_load Agg3 (fun _ _ hS => (hS.at_ 0 rfl).cell rfl)) <| obs_nil
      refine cond_ev (t := 22) (b := (decide (steps1 < 0)) || (decide ((40 : Int) < steps1))) hF (by kernel_rfl) (fun hb => ?_) (fun hb => ?_)
      · replace hm := if_t hm hb
        refine reg [] [] [6, 7] [pl 6 (.int .i64 0), pl 7 (.int .i64 3)] hF hS Fol (by kernel_rfl) (by kernel_rfl) (by kernel_rfl) ?_ (fun a w hF hS => ?_)
        · exact obs_nil
        refine wpIn_ret ?_
        refine block_r (then_r ?_)
        have hS := hS.pickN 1 [] (by decide)
        have hm : some (0, 3) = some r := hm
        obtain rfl := Option.some.inj hm
        exact retV (rs := [.tmp 6, .tmp 7]) (vs := [.int .i64 0, .int .i64 3]) hF rfl (rv_t (by kernel_rfl) <| rv_t (by kernel_rfl) <| rv_nil) rfl ⟨rfl, hS⟩
      · replace hm := if_f hm hb
        refine wpIn_skip ?_
        refine block_n ?_
        refine then_n ?_
        exact ⟨hF.weak [0, 1, 5] (by kernel_rfl), hS, hm⟩

noncomputable def gameroomref_within_m  (n1 : Int) (low1 : Int) (high1 : Int) : Option Bool :=
  some ((decide (low1 ≤ n1)) && (decide (n1 ≤ high1)))

set_option maxRecDepth 100000 in
set_option maxHeartbeats 4000000 in
theorem gameroomref_within_w  {n1 : Int} {low1 : Int} {high1 : Int} {r : Bool} {w0 w : World} {B : Nat} {fs : List HP} (hm : gameroomref_within_m n1 low1 high1 = some r) (hS : Sep w0 B w (fs)) :
    Calls Try.prog 62 #[.int .i64 n1, .int .i64 low1, .int .i64 high1] w fun e w' => e = .returned (.bool r) ∧ Sep w0 B w' (fs) := by
  unfold gameroomref_within_m at hm
  replace hm := start_b hm
  refine enter (l := [.int .i64 n1, .int .i64 low1, .int .i64 high1]) (n := 15) Try.func62 rfl rfl (by simp) (fun a hF => ?_)
  refine reg [] [] [0, 1, 2] [pl 0 (.int .i64 n1), pl 1 (.int .i64 low1), pl 2 (.int .i64 high1)] hF hS Fol (by kernel_rfl) (by kernel_rfl) (by kernel_rfl) ?_ (fun a w hF hS => ?_)
  · exact obs_nil
  refine reg [] [] [6] [pl 6 (.bool ((decide (low1 ≤ n1)) && (decide (n1 ≤ high1))))] hF hS Fol (by kernel_rfl) (by kernel_rfl) (by kernel_rfl) ?_ (fun a w hF hS => ?_)
  · exact obs_nil
  refine wpIn_ret ?_
  have hm : some ((decide (low1 ≤ n1)) && (decide (n1 ≤ high1))) = some r := hm
  obtain rfl := Option.some.inj hm
  exact retV (rs := [.tmp 6]) (vs := [.bool ((decide (low1 ≤ n1)) && (decide (n1 ≤ high1)))]) hF rfl (rv_t (by kernel_rfl) <| rv_nil) rfl ⟨rfl, hS⟩

noncomputable def gameroomref_at_J3  (i1 : Int) : Option (St Int (Fl Unit Int)) :=
  some (.next (w64 (i1 + 1)))

noncomputable def gameroomref_at_J2  (l1 : List Int) (n2 : Int) (i1 : Int) : Option (St Int (Fl Unit Int)) :=
  asrt (0 ≤ i1 ∧ i1 < (l1.length : Int)) <| if ((geti l1 i1) == n2) then (some (.done (.ret i1))) else ((gameroomref_at_J3 i1))

noncomputable def gameroomref_at_J1  : Option Int :=
  some (-1)

noncomputable def gameroomref_at_K1  : (Fl Unit Int) → Option Int :=
  fun (x : (Fl Unit Int)) => match x with | .go _ => gameroomref_at_J1 | .ret x => some x

noncomputable def gameroomref_at_L1  (l1 : List Int) (n2 : Int) : Int → Option (St Int (Fl Unit Int)) :=
  fun (x : Int) => match x with | i1 => if (decide (i1 < (l1.length : Int))) then ((gameroomref_at_J2 l1 n2 i1)) else (some (.done (.go ())))

noncomputable def gameroomref_at_m  (l1 : List Int) (n2 : Int) : Option Int :=
  (loop (gameroomref_at_L1 l1 n2) 0).bind gameroomref_at_K1

set_option maxRecDepth 100000 in
set_option maxHeartbeats 4000000 in
theorem gameroomref_at_w  {A1 : Option Addr} {c1 : Nat} {n1 : Nat} {l1 : List Int} {n2 : Int} {r : Int} {w0 w : World} {B : Nat} {fs : List HP} (hm : gameroomref_at_m l1 n2 = some r) (hS : Sep w0 B w (fs)) (hr_l1 : RdF w0 B fs A1 (vI l1)) (_hc_l1 : l1.length ≤ c1) (_hn_l1 : n1 = l1.length) :
    Calls Try.prog 65 #[.slice A1 n1 c1, .int .i64 n2] w fun e w' => e = .returned (.int .i64 r) ∧ Sep w0 B w' (fs) := by
  obtain ⟨i3, hi3, hz3, hs3, hb3⟩ := info_parts Info3
  obtain rfl := _hn_l1
  unfold gameroomref_at_m at hm
  replace hm := start_b hm
  refine enter (l := [.slice A1 l1.length c1, .int .i64 n2]) (n := 19) Try.func65 rfl rfl (by simp) (fun a hF => ?_)
  refine reg [] [] [0, 1] [pl 0 (.slice A1 l1.length c1), pl 1 (.int .i64 n2)] hF hS Fol (by kernel_rfl) (by kernel_rfl) (by kernel_rfl) ?_ (fun a w hF hS => ?_)
  · exact obs_nil
  refine seq_cut (fun a w => Fr 19 [] a ∧ Sep w0 B w (fs) ∧ (gameroomref_at_J1).bind some = some r) ?_ ?_
  · rintro a w ⟨hF, hS, hm⟩
    unfold gameroomref_at_J1 at hm
    refine reg [] [] [4] [pl 4 (.int .i64 (-1))] hF hS Fol (by kernel_rfl) (by kernel_rfl) (by kernel_rfl) ?_ (fun a w hF hS => ?_)
    · exact obs_nil
    refine wpIn_ret ?_
    have hm : some (-1) = some r := hm
    obtain rfl := Option.some.inj hm
    exact retV (rs := [.tmp 4]) (vs := [.int .i64 (-1)]) hF rfl (rv_t (by kernel_rfl) <| rv_nil) rfl ⟨rfl, hS⟩
  · refine reg [] [] [0, 1, 5] [pl 0 (.slice A1 l1.length c1), pl 1 (.int .i64 n2), pl 5 (.int .i64 0)] hF hS Fol (by kernel_rfl) (by kernel_rfl) (by kernel_rfl) ?_ (fun a w hF hS => ?_)
    · exact obs_nil
    refine wpIn_block ?_
    refine wp_loop_model (S := Int) (R := (Fl Unit Int)) (gameroomref_at_L1 l1 n2) (fun x => (gameroomref_at_K1 x).bind some) r (fun (x : Int) a w => Fr 19 [pl 0 (.slice A1 l1.length c1), pl 1 (.int .i64 n2), pl 5 (.int .i64 x)] a ∧ Sep w0 B w (fs)) (assoc_b hm) ⟨hF.weak [0, 1, 5] (by kernel_rfl), hS⟩ ?_
    clear hF hS hm
    rintro nn1 i1 a w ⟨hF, hS⟩ hm
    generalize hφ1 : stK (gameroomref_at_L1 l1 n2) nn1 (fun x => (gameroomref_at_K1 x).bind some) = φ1 at hm
    unfold gameroomref_at_L1 at hm
    dsimp only at hm
    refine seq_cut (fun a w => Fr 19 [pl 0 (.slice A1 l1.length c1), pl 1 (.int .i64 n2), pl 5 (.int .i64 i1)] a ∧ Sep w0 B w (fs) ∧ ((gameroomref_at_J2 l1 n2 i1)).bind φ1 = some r) ?_ ?_
    · rintro a w ⟨hF, hS, hm⟩
      unfold gameroomref_at_J2 at hm
      refine seq_cut (fun a w => Fr 19 [pl 0 (.slice A1 l1.length c1), pl 1 (.int .i64 n2), pl 5 (.int .i64 i1)] a ∧ Sep w0 B w (fs) ∧ ((gameroomref_at_J3 i1)).bind φ1 = some r) ?_ ?_
      · rintro a w ⟨hF, hS, hm⟩
        unfold gameroomref_at_J3 at hm
        refine reg1 [] [] [0, 1, 5] [pl 0 (.slice A1 l1.length c1), pl 1 (.int .i64 n2), pl 5 (.int .i64 (w64 (i1 + 1)))] hF hS Fol (by kernel_rfl) (by kernel_rfl) (by kernel_rfl) ?_ (fun a w hF hS => ?_)
        · exact obs_nil
        refine then_n ?_
        rw [← hφ1] at hm
        exact ⟨(w64 (i1 + 1)), ⟨hF.weak [0, 1, 5] (by kernel_rfl), hS⟩, hm⟩
      · refine wpIn_block ?_
        obtain ⟨hp1, hm⟩ := asrt_b hm
        refine reg [⟨true, [], vS (Instr.indexAt 22 (.slice A1 l1.length c1) (.int .i64 i1)), .pointer (some (sAddr A1 i1))⟩, ⟨false, [], vS (Instr.loadAt 3 (.pointer (some (sAddr A1 i1)))), .int .i64 (geti l1 i1)⟩] [none, none, some (.pointer (some (sAddr A1 i1))), some (.int .i64 (geti l1 i1)), none, none] [0, 1, 5, 17] [pl 0 (.slice A1 l1.length c1), pl 1 (.int .i64 n2), pl 5 (.int .i64 i1), pl 17 (.bool ((geti l1 i1) == n2))] hF hS Fol (by kernel_rfl) (by kernel_rfl) (by kernel_rfl) ?_ (fun a w hF hS => ?_)
        · exact obs_cons (ob_ix1 (f := (Value.int .i64)) (m := l1) Und22 hi3 hs3 (hr_l1 _ (hS.dropN 0)) rfl (fun _ => hp1)) <| obs_cons (ob_get1 (n := l1.length) (m := l1) (Value.int .i64) (0 : Int) Agg3 (fun _ hS => ⟨_, (hr_l1 _ (hS.dropN 0))⟩) (fun _ hS => rfl) (fun _ => hp1)) <| obs_nil
        refine cond_ev (t := 17) (b := ((geti l1 i1) == n2)) hF (by kernel_rfl) (fun hb => ?_) (fun hb => ?_)
        · replace hm := if_t hm hb
          refine reg [] [] [4] [pl 4 (.int .i64 i1)] hF hS Fol (by kernel_rfl) (by kernel_rfl) (by kernel_rfl) ?_ (fun a w hF hS => ?_)
          · exact obs_nil
          refine wpIn_ret ?_
          refine block_r (then_r (then_r (block_r (then_r ?_))))
          rw [← hφ1] at hm
          replace hm := done_b hm
          unfold gameroomref_at_K1 at hm
          try dsimp only at hm
          have hm : some i1 = some r := hm
          obtain rfl := Option.some.inj hm
          exact retV (rs := [.tmp 4]) (vs := [.int .i64 i1]) hF rfl (rv_t (by kernel_rfl) <| rv_nil) rfl ⟨rfl, hS⟩
        · replace hm := if_f hm hb
          refine wpIn_skip ?_
          refine block_n ?_
          refine then_n ?_
          exact ⟨hF.weak [0, 1, 5] (by kernel_rfl), hS, hm⟩
    · refine reg [] [] [0, 1, 5, 9] [pl 0 (.slice A1 l1.length c1), pl 1 (.int .i64 n2), pl 5 (.int .i64 i1), pl 9 (.bool (decide (i1 < (l1.length : Int))))] hF hS Fol (by kernel_rfl) (by kernel_rfl) (by kernel_rfl) ?_ (fun a w hF hS => ?_)
      · exact obs_nil
      refine cond_ev (t := 9) (b := decide (i1 < (l1.length : Int))) hF (by kernel_rfl) (fun hb => ?_) (fun hb => ?_)
      · replace hm := if_t hm hb
        refine wpIn_skip ?_
        refine then_n ?_
        exact ⟨hF.weak [0, 1, 5] (by kernel_rfl), hS, hm⟩
      · replace hm := if_f hm hb
        refine wpIn_exit ?_
        refine then_e (then_e (block_e (then_n ?_)))
        rw [← hφ1] at hm
        replace hm := done_b hm
        unfold gameroomref_at_K1 at hm
        try dsimp only at hm
        have hm : (gameroomref_at_J1).bind some = some r := hm
        exact ⟨hF.weak [] (by kernel_rfl), hS, hm⟩

noncomputable def gameroomref_OrderIs_J3  (i1 : Int) : Option (St Int (Fl Unit Bool)) :=
  some (.next (w64 (i1 + 1)))

noncomputable def gameroomref_OrderIs_J2  (l1 : List Int) (i1 : Int) : Option (St Int (Fl Unit Bool)) :=
  (gameroomref_at_m l1 i1).bind fun r1 => if (decide (r1 < 0)) then (some (.done (.ret false))) else ((gameroomref_OrderIs_J3 i1))

noncomputable def gameroomref_OrderIs_J1  : Option Bool :=
  some true

noncomputable def gameroomref_OrderIs_K1  : (Fl Unit Bool) → Option Bool :=
  fun (x : (Fl Unit Bool)) => match x with | .go _ => gameroomref_OrderIs_J1 | .ret x => some x

noncomputable def gameroomref_OrderIs_L1  (l1 : List Int) : Int → Option (St Int (Fl Unit Bool)) :=
  fun (x : Int) => match x with | i1 => if (decide (i1 < (l1.length : Int))) then ((gameroomref_OrderIs_J2 l1 i1)) else (some (.done (.go ())))

noncomputable def gameroomref_OrderIs_m  (l1 : List Int) : Option Bool :=
  (loop (gameroomref_OrderIs_L1 l1) 0).bind gameroomref_OrderIs_K1

set_option maxRecDepth 100000 in
set_option maxHeartbeats 4000000 in
theorem gameroomref_OrderIs_w  {A1 : Option Addr} {c1 : Nat} {n1 : Nat} {l1 : List Int} {r : Bool} {w0 w : World} {B : Nat} {fs : List HP} (hm : gameroomref_OrderIs_m l1 = some r) (hS : Sep w0 B w (fs)) (hr_l1 : RdF w0 B fs A1 (vI l1)) (_hc_l1 : l1.length ≤ c1) (_hn_l1 : n1 = l1.length) :
    Calls Try.prog 63 #[.slice A1 n1 c1] w fun e w' => e = .returned (.bool r) ∧ Sep w0 B w' (fs) := by
  obtain ⟨i3, hi3, hz3, hs3, hb3⟩ := info_parts Info3
  obtain rfl := _hn_l1
  unfold gameroomref_OrderIs_m at hm
  replace hm := start_b hm
  refine enter (l := [.slice A1 l1.length c1]) (n := 14) Try.func63 rfl rfl (by simp) (fun a hF => ?_)
  refine reg [] [] [0] [pl 0 (.slice A1 l1.length c1)] hF hS Fol (by kernel_rfl) (by kernel_rfl) (by kernel_rfl) ?_ (fun a w hF hS => ?_)
  · exact obs_nil
  refine seq_cut (fun a w => Fr 14 [] a ∧ Sep w0 B w (fs) ∧ (gameroomref_OrderIs_J1).bind some = some r) ?_ ?_
  · rintro a w ⟨hF, hS, hm⟩
    unfold gameroomref_OrderIs_J1 at hm
    refine reg [] [] [2] [pl 2 (.bool true)] hF hS Fol (by kernel_rfl) (by kernel_rfl) (by kernel_rfl) ?_ (fun a w hF hS => ?_)
    · exact obs_nil
    refine wpIn_ret ?_
    have hm : some true = some r := hm
    obtain rfl := Option.some.inj hm
    exact retV (rs := [.tmp 2]) (vs := [.bool true]) hF rfl (rv_t (by kernel_rfl) <| rv_nil) rfl ⟨rfl, hS⟩
  · refine reg [] [] [0, 3] [pl 0 (.slice A1 l1.length c1), pl 3 (.int .i64 0)] hF hS Fol (by kernel_rfl) (by kernel_rfl) (by kernel_rfl) ?_ (fun a w hF hS => ?_)
    · exact obs_nil
    refine wpIn_block ?_
    refine wp_loop_model (S := Int) (R := (Fl Unit Bool)) (gameroomref_OrderIs_L1 l1) (fun x => (gameroomref_OrderIs_K1 x).bind some) r (fun (x : Int) a w => Fr 14 [pl 0 (.slice A1 l1.length c1), pl 3 (.int .i64 x)] a ∧ Sep w0 B w (fs)) (assoc_b hm) ⟨hF.weak [0, 3] (by kernel_rfl), hS⟩ ?_
    clear hF hS hm
    rintro nn1 i1 a w ⟨hF, hS⟩ hm
    generalize hφ1 : stK (gameroomref_OrderIs_L1 l1) nn1 (fun x => (gameroomref_OrderIs_K1 x).bind some) = φ1 at hm
    unfold gameroomref_OrderIs_L1 at hm
    dsimp only at hm
    refine seq_cut (fun a w => Fr 14 [pl 0 (.slice A1 l1.length c1), pl 3 (.int .i64 i1)] a ∧ Sep w0 B w (fs) ∧ ((gameroomref_OrderIs_J2 l1 i1)).bind φ1 = some r) ?_ ?_
    · rintro a w ⟨hF, hS, hm⟩
      unfold gameroomref_OrderIs_J2 at hm
      refine seq_cut (fun a w => Fr 14 [pl 0 (.slice A1 l1.length c1), pl 3 (.int .i64 i1)] a ∧ Sep w0 B w (fs) ∧ ((gameroomref_OrderIs_J3 i1)).bind φ1 = some r) ?_ ?_
      · rintro a w ⟨hF, hS, hm⟩
        unfold gameroomref_OrderIs_J3 at hm
        refine reg1 [] [] [0, 3] [pl 0 (.slice A1 l1.length c1), pl 3 (.int .i64 (w64 (i1 + 1)))] hF hS Fol (by kernel_rfl) (by kernel_rfl) (by kernel_rfl) ?_ (fun a w hF hS => ?_)
        · exact obs_nil
        refine then_n ?_
        rw [← hφ1] at hm
        exact ⟨(w64 (i1 + 1)), ⟨hF.weak [0, 3] (by kernel_rfl), hS⟩, hm⟩
      · refine wpIn_block ?_
        obtain ⟨r1, hr1, hm⟩ := call_b hm
        refine reg [⟨false, [], callFunc 65 #[.slice A1 l1.length c1, .int .i64 i1], .int .i64 r1⟩] [none, none, some (.int .i64 r1), none] [0, 3, 13] [pl 0 (.slice A1 l1.length c1), pl 3 (.int .i64 i1), pl 13 (.bool (decide (r1 < 0)))] hF hS Fol (by kernel_rfl) (by kernel_rfl) (by kernel_rfl) ?_ (fun a w hF hS => ?_)
        · exact obs_cons (ob_call Try.func65 (by kernel_rfl) rfl (fun _ _ hS => gameroomref_at_w hr1 hS (fun _ hS => (hr_l1 _ (hS.dropN 0))) _hc_l1 rfl)) <| obs_nil
        refine cond_ev (t := 13) (b := decide (r1 < 0)) hF (by kernel_rfl) (fun hb => ?_) (fun hb => ?_)
        · replace hm := if_t hm hb
          refine reg [] [] [2] [pl 2 (.bool false)] hF hS Fol (by kernel_rfl) (by kernel_rfl) (by kernel_rfl) ?_ (fun a w hF hS => ?_)
          · exact obs_nil
          refine wpIn_ret ?_
          refine block_r (then_r (then_r (block_r (then_r ?_))))
          rw [← hφ1] at hm
          replace hm := done_b hm
          unfold gameroomref_OrderIs_K1 at hm
          try dsimp only at hm
          have hm : some false = some r := hm
          obtain rfl := Option.some.inj hm
          exact retV (rs := [.tmp 2]) (vs := [.bool false]) hF rfl (rv_t (by kernel_rfl) <| rv_nil) rfl ⟨rfl, hS⟩
        · replace hm := if_f hm hb
          refine wpIn_skip ?_
          refine block_n ?_
          refine then_n ?_
          exact ⟨hF.weak [0, 3] (by kernel_rfl), hS, hm⟩
    · refine reg [] [] [0, 3, 7] [pl 0 (.slice A1 l1.length c1), pl 3 (.int .i64 i1), pl 7 (.bool (decide (i1 < (l1.length : Int))))] hF hS Fol (by kernel_rfl) (by kernel_rfl) (by kernel_rfl) ?_ (fun a w hF hS => ?_)
      · exact obs_nil
      refine cond_ev (t := 7) (b := decide (i1 < (l1.length : Int))) hF (by kernel_rfl) (fun hb => ?_) (fun hb => ?_)
      · replace hm := if_t hm hb
        refine wpIn_skip ?_
        refine then_n ?_
        exact ⟨hF.weak [0, 3] (by kernel_rfl), hS, hm⟩
      · replace hm := if_f hm hb
        refine wpIn_exit ?_
        refine then_e (then_e (block_e (then_n ?_)))
        rw [← hφ1] at hm
        replace hm := done_b hm
        unfold gameroomref_OrderIs_K1 at hm
        try dsimp only at hm
        have hm : (gameroomref_OrderIs_J1).bind some = some r := hm
        exact ⟨hF.weak [] (by kernel_rfl), hS, hm⟩

noncomputable def gameroomref_SlideMay_J1  (g3 : List Int) : Option Bool :=
  (gameroomref_OrderIs_m g3).bind fun r3 => some r3

noncomputable def gameroomref_SlideMay_m  (g1 : Int) (g2 : Int) (g3 : List Int) : Option Bool :=
  (gameroomref_within_m g1 2 5).bind fun r1 => ((if (!(!r1)) then gameroomref_within_m g2 2 5 else some false)).bind fun r2 => if (((!r1) || (!r2)) || ((g3.length : Int) != (w64 (g1 * g2)))) then (some false) else ((gameroomref_SlideMay_J1 g3))

set_option maxRecDepth 100000 in
set_option maxHeartbeats 4000000 in
theorem gameroomref_SlideMay_w  {g1 : Int} {g2 : Int} {A1 : Option Addr} {c1 : Nat} {n1 : Nat} {g3 : List Int} {r : Bool} {w0 w : World} {B : Nat} {fs : List HP} (hm : gameroomref_SlideMay_m g1 g2 g3 = some r) (hS : Sep w0 B w (fs)) (hr_g3 : RdF w0 B fs A1 (vI g3)) (_hc_g3 : g3.length ≤ c1) (_hn_g3 : n1 = g3.length) :
    Calls Try.prog 16 #[.agg #[.int .i64 g1, .int .i64 g2, .slice A1 n1 c1]] w fun e w' => e = .returned (.bool r) ∧ Sep w0 B w' (fs) := by
  obtain ⟨i3, hi3, hz3, hs3, hb3⟩ := info_parts Info3
  obtain rfl := _hn_g3
  unfold gameroomref_SlideMay_m at hm
  replace hm := start_b hm
  refine enter (l := [.agg #[.int .i64 g1, .int .i64 g2, .slice A1 g3.length c1]]) (n := 27) Try.func16 rfl rfl (by simp) (fun a hF => ?_)
  refine seqR ?_
  refine at_do (d := 1) (s := vS (Instr.box 32 (.agg #[.int .i64 g1, .int .i64 g2, .slice A1 g3.length c1]))) (v := .pointer (some ⟨w.heap.size, 0, none⟩)) (w' := w.alloc (.cells #[.int .i64 g1, .int .i64 g2, .slice A1 g3.length c1] 32)) hF (by kernel_rfl) (by kernel_rfl) (by kernel_rfl) (fun a hF => ?_)
  have hS : Sep w0 B (w.alloc (.cells #[.int .i64 g1, .int .i64 g2, .slice A1 g3.length c1] 32)) (blk w.heap.size 32 #[.int .i64 g1, .int .i64 g2, .slice A1 g3.length c1] :: (fs)) := hS.box 32 #[.int .i64 g1, .int .i64 g2, .slice A1 g3.length c1]
  generalize w.heap.size = g4 at hF hS
  generalize w.alloc (.cells #[.int .i64 g1, .int .i64 g2, .slice A1 g3.length c1] 32) = w at hS ⊢
  refine at_run 1 [] [] [1] [pl 1 (.pointer (some ⟨g4, 0, none⟩))] hF hS (by kernel_rfl) (by kernel_rfl) ?_ (fun a w hF hS => ?_)
  · exact obs_nil
  refine at_end [1] [pl 1 (.pointer (some ⟨g4, 0, none⟩))] hF rfl (by kernel_rfl) (fun hF => ?_)
  refine then_n ?_
  refine seq_cut (fun a w => Fr 27 [pl 1 (.pointer (some ⟨g4, 0, none⟩))] a ∧ Sep w0 B w (blk g4 32 #[.int .i64 g1, .int .i64 g2, .slice A1 g3.length c1] :: fs) ∧ ((gameroomref_SlideMay_J1 g3)).bind some = some r) ?_ ?_
  · rintro a w ⟨hF, hS, hm⟩
    unfold gameroomref_SlideMay_J1 at hm
    obtain ⟨r3, hr3, hm⟩ := call_b hm
    refine reg [⟨false, [], vS (Instr.loadAt 22 (.pointer (some ⟨g4, 2, none⟩))), .slice A1 g3.length c1⟩, ⟨false, [], callFunc 63 #[.slice A1 g3.length c1], .bool r3⟩] [none, some (.slice A1 g3.length c1), some (.bool r3), none] [2] [pl 2 (.bool r3)] hF hS Fol (by kernel_rfl) (by kernel_rfl) (by kernel_rfl) ?_ (fun a w hF hS => ?_)
    · exact obs_cons (ob_load Agg22 (fun _ _ hS => (hS.at_ 0 rfl).cell rfl)) <| obs_cons (ob_call Try.func63 (by kernel_rfl) rfl (fun _ _ hS => gameroomref_OrderIs_w hr3 hS (fun _ hS => (hr_g3 _ (hS.dropN 1))) _hc_g3 rfl)) <| obs_nil
    refine wpIn_ret ?_
    have hS := hS.pickN 1 [] (by decide)
    have hm : some r3 = some r := hm
    obtain rfl := Option.some.inj hm
    exact retV (rs := [.tmp 2]) (vs := [.bool r3]) hF rfl (rv_t (by kernel_rfl) <| rv_nil) rfl ⟨rfl, hS⟩
  · obtain ⟨r1, hr1, hm⟩ := call_b hm
    obtain ⟨r2, hr2, hm⟩ := call_b hm
    refine reg [⟨false, [], vS (Instr.loadAt 3 (.pointer (some ⟨g4, 0, none⟩))), .int .i64 g1⟩, ⟨false, [], callFunc 62 #[.int .i64 g1, .int .i64 2, .int .i64 5], .bool r1⟩, ⟨false, [(!r1, false)], vS (Instr.loadAt 3 (.pointer (some ⟨g4, 1, none⟩))), .int .i64 g2⟩, ⟨false, [(!r1, false)], callFunc 62 #[.int .i64 g2, .int .i64 2, .int .i64 5], .bool r2⟩, ⟨false, [((!r1) || (!r2), false)], vS (Instr.loadAt 22 (.pointer (some ⟨g4, 2, none⟩))), .slice A1 g3.length c1⟩, ⟨false, [((!r1) || (!r2), false)], vS (Instr.loadAt 3 (.pointer (some ⟨g4, 0, none⟩))), .int .i64 g1⟩, ⟨false, [((!r1) || (!r2), false)], vS (Instr.loadAt 3 (.pointer (some ⟨g4, 1, none⟩))), .int .i64 g2⟩] [none, some (.int .i64 g1), some (.bool r1), none, none, none, some (.int .i64 g2), some (.bool r2), none, none, none, none, some (.slice A1 g3.length c1), none, none, some (.int .i64 g1), none, some (.int .i64 g2), none, none, none] [1, 23] [pl 1 (.pointer (some ⟨g4, 0, none⟩)), pl 23 (.bool (((!r1) || (!r2)) || ((g3.length : Int) != (w64 (g1 * g2)))))] hF hS Fol (by kernel_rfl) (by kernel_rfl) (by kernel_rfl) ?_ (fun a w hF hS => ?_)
    · exact obs_cons (ob_load Agg3 (fun _ _ hS => (hS.at_ 0 rfl).cell rfl)) <| obs_cons (ob_call Try.func62 (by kernel_rfl) rfl (fun _ _ hS => gameroomref_within_w hr1 hS )) <| obs_cons (ob_load Agg3 (fun _ _ hS => (hS.at_ 0 rfl).cell rfl)) <| obs_cons (ob_call Try.func62 (by kernel_rfl) rfl (fun hy _ hS => gameroomref_within_w (ite_some hr2 (by rw [show (!r1) = false from hy (!r1, false) (by simp)]; try rfl)) hS )) <| obs_cons (ob_load Agg22 (fun _ _ hS => (hS.at_ 0 rfl).cell rfl)) <| obs_cons (ob_load Agg3 (fun _ _ hS => (hS.at_ 0 rfl).cell rfl)) <| obs_cons (ob_load Agg3 (fun _ _ hS => (hS.at_ 0 rfl).cell rfl)) <| obs_nil
    refine cond_ev (t := 23) (b := ((!r1) || (!r2)) || ((g3.length : Int) != (w64 (g1 * g2)))) hF (by kernel_rfl) (fun hb => ?_) (fun hb => ?_)
    · replace hm := if_t hm hb
      refine reg [] [] [2] [pl 2 (.bool false)] hF hS Fol (by kernel_rfl) (by kernel_rfl) (by kernel_rfl) ?_ (fun a w hF hS => ?_)
      · exact obs_nil
      refine wpIn_ret ?_
      refine then_r ?_
      have hS := hS.pickN 1 [] (by decide)
      have hm : some false = some r := hm
      obtain rfl := Option.some.inj hm
      exact retV (rs := [.tmp 2]) (vs := [.bool false]) hF rfl (rv_t (by kernel_rfl) <| rv_nil) rfl ⟨rfl, hS⟩
    · replace hm := if_f hm hb
      refine wpIn_skip ?_
      refine then_n ?_
      exact ⟨hF.weak [1] (by kernel_rfl), hS, hm⟩

noncomputable def gameroomref_SlideHome_J3  (i1 : Int) (g6 : List Int) : Option (St (List Int × Int) (List Int)) :=
  some (.next (g6, (w64 (i1 + 1))))

noncomputable def gameroomref_SlideHome_J2  (w1 : Int) (h1 : Int) (g3 : List Int) (i1 : Int) : Option (St (List Int × Int) (List Int)) :=
  asrt ((w64 (w1 * h1)) ≠ (0 : Int)) <| asrt ((g3.length : Int) + 1 ≤ bigN) <| (gameroomref_SlideHome_J3 i1) (g3 ++ ([Int.tmod i1 (w64 (w1 * h1))] : List Int))

noncomputable def gameroomref_SlideHome_J1  (w1 : Int) (h1 : Int) (g4 : List Int) : Option (Int × Int × List Int) :=
  some (w1, h1, g4)

noncomputable def gameroomref_SlideHome_K1  (w1 : Int) (h1 : Int) : (List Int) → Option (Int × Int × List Int) :=
  fun (x : (List Int)) => match x with | g4 => (gameroomref_SlideHome_J1 w1 h1) g4

noncomputable def gameroomref_SlideHome_L1  (w1 : Int) (h1 : Int) : (List Int × Int) → Option (St (List Int × Int) (List Int)) :=
  fun (x : (List Int × Int)) => match x with | (g3, i1) => if (decide (i1 ≤ (w64 (w1 * h1)))) then ((gameroomref_SlideHome_J2 w1 h1 g3 i1)) else (some (.done g3))

noncomputable def gameroomref_SlideHome_m  (w1 : Int) (h1 : Int) : Option (Int × Int × List Int) :=
  (loop (gameroomref_SlideHome_L1 w1 h1) (([] : List Int), 1)).bind (gameroomref_SlideHome_K1 w1 h1)

set_option maxRecDepth 100000 in
set_option maxHeartbeats 4000000 in
theorem gameroomref_SlideHome_w  {w1 : Int} {h1 : Int} {r : (Int × Int × List Int)} {w0 w : World} {B : Nat} {fs : List HP} (hm : gameroomref_SlideHome_m w1 h1 = some r) (hS : Sep w0 B w (fs)) :
    Calls Try.prog 19 #[.int .i64 w1, .int .i64 h1] w fun e w' => ∃ v, e = .returned v ∧ ∃ (A5 : Option Addr) (c5 : Nat), v = .agg #[.int .i64 r.1, .int .i64 r.2.1, .slice A5 r.2.2.length c5] ∧ Sep w0 B w' (own 3 (.slice A5 r.2.2.length c5) (vI r.2.2) :: fs) := by
  obtain ⟨i3, hi3, hz3, hs3, hb3⟩ := info_parts Info3
  obtain ⟨i22, hi22, hz22, hs22, hb22⟩ := info_parts Info22
  unfold gameroomref_SlideHome_m at hm
  replace hm := start_b hm
  refine enter (l := [.int .i64 w1, .int .i64 h1]) (n := 28) Try.func19 rfl rfl (by simp) (fun a hF => ?_)
  refine seqR ?_
  refine at_do (d := 4) (s := vS (Instr.alloc 32 true (.tuple #[]))) (v := .pointer (some ⟨w.heap.size, 0, none⟩)) (w' := w.alloc (.cells #[.int .i64 0, .int .i64 0, .slice none 0 0] 32)) hF (by kernel_rfl) (by kernel_rfl) (by kernel_rfl) (fun a hF => ?_)
  have hS : Sep w0 B (w.alloc (.cells #[.int .i64 0, .int .i64 0, .slice none 0 0] 32)) (blk w.heap.size 32 #[.int .i64 0, .int .i64 0, .slice none 0 0] :: (fs)) := hS.box 32 #[.int .i64 0, .int .i64 0, .slice none 0 0]
  generalize w.heap.size = g1 at hF hS
  generalize w.alloc (.cells #[.int .i64 0, .int .i64 0, .slice none 0 0] 32) = w at hS ⊢
  refine at_end [0, 1, 4] [pl 0 (.int .i64 w1), pl 1 (.int .i64 h1), pl 4 (.pointer (some ⟨g1, 0, none⟩))] hF rfl (by kernel_rfl) (fun hF => ?_)
  refine then_n ?_
  refine seqR ?_
  refine at_run 3 [] [] [0, 1, 4, 9] [pl 0 (.int .i64 w1), pl 1 (.int .i64 h1), pl 4 (.pointer (some ⟨g1, 0, none⟩)), pl 9 (.agg #[.int .i64 w1, .int .i64 h1, .slice none 0 0])] hF hS (by kernel_rfl) (by kernel_rfl) ?_ (fun a w hF hS => ?_)
  · exact obs_nil
  refine at_do (d := 5) (s := vS (Instr.alloc 32 true (.tuple #[]))) (v := .pointer (some ⟨w.heap.size, 0, none⟩)) (w' := w.alloc (.cells #[.int .i64 0, .int .i64 0, .slice none 0 0] 32)) hF (by kernel_rfl) (by kernel_rfl) (by kernel_rfl) (fun a hF => ?_)
  have hS : Sep w0 B (w.alloc (.cells #[.int .i64 0, .int .i64 0, .slice none 0 0] 32)) (blk w.heap.size 32 #[.int .i64 0, .int .i64 0, .slice none 0 0] :: (blk g1 32 #[.int .i64 0, .int .i64 0, .slice none 0 0] :: fs)) := hS.box 32 #[.int .i64 0, .int .i64 0, .slice none 0 0]
  generalize w.heap.size = g2 at hF hS
  generalize w.alloc (.cells #[.int .i64 0, .int .i64 0, .slice none 0 0] 32) = w at hS ⊢
  obtain ⟨w, hrun, hS⟩ := run_putA (P := Try.prog) (t := 32) (us := #[.int .i64 w1, .int .i64 h1, .slice none 0 0]) (o := 0) (hS.at_ 0 rfl) (by kernel_rfl) (all_one (by kernel_rfl)) (Nat.le_of_ble_eq_true (by kernel_rfl))
  refine at_skip hF (by kernel_rfl) hrun ?_
  have hS : Sep w0 B w (blk g2 32 #[.int .i64 w1, .int .i64 h1, .slice none 0 0] :: blk g1 32 #[.int .i64 0, .int .i64 0, .slice none 0 0] :: fs) := hS
  refine at_end [0, 1, 4, 5] [pl 0 (.int .i64 w1), pl 1 (.int .i64 h1), pl 4 (.pointer (some ⟨g1, 0, none⟩)), pl 5 (.pointer (some ⟨g2, 0, none⟩))] hF rfl (by kernel_rfl) (fun hF => ?_)
  refine then_n ?_
  refine seq_cut (fun a w => ∃ (g4 : List Int) (A2 : Option Addr) (c2 : Nat), Fr 28 [pl 4 (.pointer (some ⟨g1, 0, none⟩)), pl 5 (.pointer (some ⟨g2, 0, none⟩))] a ∧ Sep w0 B w (blk g1 32 #[.int .i64 0, .int .i64 0, .slice none 0 0] :: blk g2 32 #[.int .i64 w1, .int .i64 h1, .slice A2 g4.length c2] :: own 3 (.slice A2 g4.length c2) (vI g4) :: fs) ∧ ((gameroomref_SlideHome_J1 w1 h1) g4).bind some = some r) ?_ ?_
  · rintro a w ⟨g4, A2, c2, hF, hS, hm⟩
    unfold gameroomref_SlideHome_J1 at hm
    refine seqR ?_
    refine at_run 1 [⟨false, [], vS (Instr.loadAt 32 (.pointer (some ⟨g2, 0, none⟩))), .agg #[.int .i64 w1, .int .i64 h1, .slice A2 g4.length c2]⟩] [some (.agg #[.int .i64 w1, .int .i64 h1, .slice A2 g4.length c2])] [4, 27] [pl 4 (.pointer (some ⟨g1, 0, none⟩)), pl 27 (.agg #[.int .i64 w1, .int .i64 h1, .slice A2 g4.length c2])] hF hS (by kernel_rfl) (by kernel_rfl) ?_ (fun a w hF hS => ?_)
    · exact obs_cons (ob_loadA (cs := #[.int .i64 w1, .int .i64 h1, .slice A2 g4.length c2]) (by kernel_rfl) (by kernel_rfl) (fun _ _ hS => (hS.at_ 1 rfl).cellsAt 0 (by rfl))) <| obs_nil
    obtain ⟨w, hrun, hS⟩ := run_putA (P := Try.prog) (t := 32) (us := #[.int .i64 w1, .int .i64 h1, .slice A2 g4.length c2]) (o := 0) (hS.at_ 0 rfl) (by kernel_rfl) (all_one (by kernel_rfl)) (Nat.le_of_ble_eq_true (by kernel_rfl))
    refine at_skip hF (by kernel_rfl) hrun ?_
    have hS : Sep w0 B w (blk g1 32 #[.int .i64 w1, .int .i64 h1, .slice A2 g4.length c2] :: blk g2 32 #[.int .i64 w1, .int .i64 h1, .slice A2 g4.length c2] :: own 3 (.slice A2 g4.length c2) (vI g4) :: fs) := hS
    refine at_end [4] [pl 4 (.pointer (some ⟨g1, 0, none⟩))] hF rfl (by kernel_rfl) (fun hF => ?_)
    refine then_n ?_
    refine wpIn_ret ?_
    have hld0 := run_loadVarA (P := Try.prog) (t := 32) (cs := #[.int .i64 w1, .int .i64 h1, .slice A2 g4.length c2]) (by kernel_rfl) (by kernel_rfl) ((hS.at_ 0 rfl).cellsAt 0 (by rfl))
    have hS := hS.pickN 3 [2] (by decide)
    have hm : some (w1, h1, g4) = some r := hm
    obtain rfl := Option.some.inj hm
    exact retV (rs := [.cell 4 32]) (vs := [.agg #[.int .i64 w1, .int .i64 h1, .slice A2 g4.length c2]]) hF rfl (rv_c (by kernel_rfl) hld0 <| rv_nil) rfl ⟨_, rfl, A2, c2, rfl, hS⟩
  · refine reg [] [] [0, 1, 4, 5, 6] [pl 0 (.int .i64 w1), pl 1 (.int .i64 h1), pl 4 (.pointer (some ⟨g1, 0, none⟩)), pl 5 (.pointer (some ⟨g2, 0, none⟩)), pl 6 (.int .i64 1)] hF hS Fol (by kernel_rfl) (by kernel_rfl) (by kernel_rfl) ?_ (fun a w hF hS => ?_)
    · exact obs_nil
    refine wpIn_block ?_
    have hS : Sep w0 B w (own 3 (.slice none 0 0) (vI ([] : List Int)) :: blk g2 32 #[.int .i64 w1, .int .i64 h1, .slice none 0 0] :: blk g1 32 #[.int .i64 0, .int .i64 0, .slice none 0 0] :: fs) := hS.nil 3
    have hS : Sep w0 B w (own 3 (.slice none 0 0) (vI ([] : List Int)) :: blk g2 32 #[.int .i64 w1, .int .i64 h1, .slice none 0 0] :: blk g1 32 #[.int .i64 0, .int .i64 0, .slice none 0 0] :: fs) := hS
    have hl1 := (hS.at_ 0 rfl).len1
    have hS := (hS.at_ 0 rfl).reN hl1
    have hS := (hS.at_ 1 rfl).reBlk (congrArg (fun k9 => (#[.int .i64 w1, .int .i64 h1, .slice none k9 0] : Array Value)) hl1)
    have hS : Sep w0 B w (own 3 (.slice none (([] : List Int).length) 0) (vI ([] : List Int)) :: blk g2 32 #[.int .i64 w1, .int .i64 h1, .slice none (([] : List Int).length) 0] :: blk g1 32 #[.int .i64 0, .int .i64 0, .slice none 0 0] :: fs) := hS
    have hS := hS.pickN 3 [2, 1, 0] (by decide)
    refine wp_loop_model (S := (List Int × Int)) (R := (List Int)) (gameroomref_SlideHome_L1 w1 h1) (fun x => ((gameroomref_SlideHome_K1 w1 h1) x).bind some) r (fun (x : (List Int × Int)) a w => ∃ (A1 : Option Addr) (c1 : Nat), Fr 28 [pl 0 (.int .i64 w1), pl 1 (.int .i64 h1), pl 4 (.pointer (some ⟨g1, 0, none⟩)), pl 5 (.pointer (some ⟨g2, 0, none⟩)), pl 6 (.int .i64 x.2)] a ∧ Sep w0 B w (blk g1 32 #[.int .i64 0, .int .i64 0, .slice none 0 0] :: blk g2 32 #[.int .i64 w1, .int .i64 h1, .slice A1 x.1.length c1] :: own 3 (.slice A1 x.1.length c1) (vI x.1) :: fs)) (assoc_b hm) ⟨none, 0, hF.weak [0, 1, 4, 5, 6] (by kernel_rfl), hS⟩ ?_
    clear hF hS hm
    rintro nn1 ⟨g3, i1⟩ a w ⟨A1, c1, hF, hS⟩ hm
    generalize hφ1 : stK (gameroomref_SlideHome_L1 w1 h1) nn1 (fun x => ((gameroomref_SlideHome_K1 w1 h1) x).bind some) = φ1 at hm
    unfold gameroomref_SlideHome_L1 at hm
    dsimp only at hF hS hm
    refine seq_cut (fun a w => Fr 28 [pl 0 (.int .i64 w1), pl 1 (.int .i64 h1), pl 4 (.pointer (some ⟨g1, 0, none⟩)), pl 5 (.pointer (some ⟨g2, 0, none⟩)), pl 6 (.int .i64 i1)] a ∧ Sep w0 B w (blk g1 32 #[.int .i64 0, .int .i64 0, .slice none 0 0] :: blk g2 32 #[.int .i64 w1, .int .i64 h1, .slice A1 g3.length c1] :: own 3 (.slice A1 g3.length c1) (vI g3) :: fs) ∧ ((gameroomref_SlideHome_J2 w1 h1 g3 i1)).bind φ1 = some r) ?_ ?_
    · rintro a w ⟨hF, hS, hm⟩
      unfold gameroomref_SlideHome_J2 at hm
      refine seq_cut (fun a w => ∃ (g6 : List Int) (A4 : Option Addr) (c4 : Nat), Fr 28 [pl 0 (.int .i64 w1), pl 1 (.int .i64 h1), pl 4 (.pointer (some ⟨g1, 0, none⟩)), pl 5 (.pointer (some ⟨g2, 0, none⟩)), pl 6 (.int .i64 i1)] a ∧ Sep w0 B w (blk g1 32 #[.int .i64 0, .int .i64 0, .slice none 0 0] :: blk g2 32 #[.int .i64 w1, .int .i64 h1, .slice A4 g6.length c4] :: own 3 (.slice A4 g6.length c4) (vI g6) :: fs) ∧ ((gameroomref_SlideHome_J3 i1) g6).bind φ1 = some r) ?_ ?_
      · rintro a w ⟨g6, A4, c4, hF, hS, hm⟩
        unfold gameroomref_SlideHome_J3 at hm
        refine reg1 [] [] [0, 1, 4, 5, 6] [pl 0 (.int .i64 w1), pl 1 (.int .i64 h1), pl 4 (.pointer (some ⟨g1, 0, none⟩)), pl 5 (.pointer (some ⟨g2, 0, none⟩)), pl 6 (.int .i64 (w64 (i1 + 1)))] hF hS Fol (by kernel_rfl) (by kernel_rfl) (by kernel_rfl) ?_ (fun a w hF hS => ?_)
        · exact obs_nil
        refine then_n ?_
        rw [← hφ1] at hm
        exact ⟨(g6, (w64 (i1 + 1))), ⟨A4, c4, hF.weak [0, 1, 4, 5, 6] (by kernel_rfl), hS⟩, hm⟩
      · refine wpIn_block ?_
        obtain ⟨hp1, hm⟩ := asrt_b hm
        obtain ⟨hp2, hm⟩ := asrt_b hm
        refine regMix5 [0, 1, 2, 3, 4, 5, 6] [8, 10] 4 #[true, true, true, true, true, true, true, false, false, false, false] [⟨false, [], vS (Instr.loadAt 22 (.pointer (some ⟨g2, 2, none⟩))), .slice A1 g3.length c1⟩, ⟨true, [], vS (Op.intDiv .rem .i64 i1 (w64 (w1 * h1))), .int .i64 (Int.tmod i1 (w64 (w1 * h1)))⟩] [none, some (.slice A1 g3.length c1), none, none, none, none, some (.int .i64 (Int.tmod i1 (w64 (w1 * h1))))] [0, 1, 4, 5, 6, 18, 23] [pl 0 (.int .i64 w1), pl 1 (.int .i64 h1), pl 4 (.pointer (some ⟨g1, 0, none⟩)), pl 5 (.pointer (some ⟨g2, 0, none⟩)), pl 6 (.int .i64 i1), pl 18 (.slice A1 g3.length c1), pl 23 (.int .i64 (Int.tmod i1 (w64 (w1 * h1))))] hF hS Fol (by kernel_rfl) (by kernel_rfl) (by kernel_rfl) (by kernel_rfl) ?_ (fun a w hF hS => ?_)
        · exact obs_cons (ob_load Agg22 (fun _ _ hS => (hS.at_ 1 rfl).cell rfl)) <| obs_cons (ob_rem rfl (fun _ => hp1)) <| obs_nil
        refine any_step [7] (by kernel_rfl) rfl ?_
        refine (all_cons ?_ all_nil)
        · refine any_op (listed' := #[true, true, true, true, true, true, true, true, false, false, false]) (by kernel_rfl) (by kernel_rfl) ?_
          refine at_do (d := 24) (s := vS (Instr.buildSlice 22 1 #[(0, .int .i64 (Int.tmod i1 (w64 (w1 * h1))))])) (v := .slice (some ⟨w.heap.size, 0, none⟩) 1 1) (w' := w.alloc (.cells #[.int .i64 (Int.tmod i1 (w64 (w1 * h1)))] 3)) hF (by kernel_rfl) (by kernel_rfl) (by kernel_rfl) (fun a hF => ?_)
          have hS : Sep w0 B (w.alloc (.cells #[.int .i64 (Int.tmod i1 (w64 (w1 * h1)))] 3)) (own 3 (.slice (some (⟨w.heap.size, 0, none⟩ : Addr)) 1 1) (vI ([Int.tmod i1 (w64 (w1 * h1))] : List Int)) :: (blk g1 32 #[.int .i64 0, .int .i64 0, .slice none 0 0] :: blk g2 32 #[.int .i64 w1, .int .i64 h1, .slice A1 g3.length c1] :: own 3 (.slice A1 g3.length c1) (vI g3) :: fs)) := hS.lit 3 #[.int .i64 (Int.tmod i1 (w64 (w1 * h1)))] 1 rfl (by omega)
          generalize (some (⟨w.heap.size, 0, none⟩ : Addr)) = g5 at hF hS
          generalize w.alloc (.cells #[.int .i64 (Int.tmod i1 (w64 (w1 * h1)))] 3) = w at hS ⊢
          refine any_fin rfl (hS.pickN 4 [1, 2, 3] (by decide)) ?_
          refine any_step [8] (by kernel_rfl) rfl ?_
          refine (all_cons ?_ all_nil)
          · refine any_op (listed' := #[true, true, true, true, true, true, true, true, true, false, false]) (by kernel_rfl) (by kernel_rfl) ?_
            obtain ⟨A3, c3, w, hrun, hS⟩ := run_app1 (P := Try.prog) (t := 22) (m := g3) (ys := ([Int.tmod i1 (w64 (w1 * h1))] : List Int)) (A2 := g5) (m2 := 1) (c2 := 1) (Value.int .i64) (0 : Int) (hS.at_ 3 rfl) (hS.at_ 0 rfl).rd ((hS.at_ 0 rfl).len1) 22 Und22 hi3 hz3 hs3 (by omega) rfl (fun _ => rfl) hp2
            have hS : Sep w0 B w (own 3 (.slice g5 1 1) (vI ([Int.tmod i1 (w64 (w1 * h1))] : List Int)) :: blk g1 32 #[.int .i64 0, .int .i64 0, .slice none 0 0] :: blk g2 32 #[.int .i64 w1, .int .i64 h1, .slice A1 g3.length c1] :: own 3 (.slice A3 ((g3 ++ ([Int.tmod i1 (w64 (w1 * h1))] : List Int)).length) c3) (vI (g3 ++ ([Int.tmod i1 (w64 (w1 * h1))] : List Int))) :: fs) := hS
            refine at_do (d := 25) hF (by kernel_rfl) (by kernel_rfl) hrun (fun a hF => ?_)
            refine any_finE rfl (by decide) ?_
            refine any_step [9] (by kernel_rfl) rfl ?_
            refine (all_cons ?_ all_nil)
            · refine any_op (listed' := #[true, true, true, true, true, true, true, true, true, true, false]) (by kernel_rfl) (by kernel_rfl) ?_
              refine at_runW 1 [] [] [0, 1, 4, 5, 6, 25, 26] [pl 0 (.int .i64 w1), pl 1 (.int .i64 h1), pl 4 (.pointer (some ⟨g1, 0, none⟩)), pl 5 (.pointer (some ⟨g2, 0, none⟩)), pl 6 (.int .i64 i1), pl 25 (.slice A3 ((g3 ++ ([Int.tmod i1 (w64 (w1 * h1))] : List Int)).length) c3), pl 26 (.pointer (some ⟨g2, 2, none⟩))] hF hS (by kernel_rfl) (by kernel_rfl) ?_ (fun a hF => ?_)
              · exact obs_nil
              refine any_finI rfl (fun h => h) ?_
              refine any_step [10] (by kernel_rfl) rfl ?_
              refine (all_cons ?_ all_nil)
              · refine any_op (listed' := #[true, true, true, true, true, true, true, true, true, true, true]) (by kernel_rfl) (by kernel_rfl) ?_
                obtain ⟨w, hrun, hS⟩ := run_put (P := Try.prog) (t := 22) (u := .slice A3 ((g3 ++ ([Int.tmod i1 (w64 (w1 * h1))] : List Int)).length) c3) (i := 2) (hS.at_ 2 rfl) hi22 hs22 rfl (Nat.lt_of_lt_of_eq (Nat.lt_of_succ_le (Nat.le_of_ble_eq_true (by kernel_rfl))) rfl)
                refine at_skip hF (by kernel_rfl) hrun ?_
                have hS : Sep w0 B w (own 3 (.slice g5 1 1) (vI ([Int.tmod i1 (w64 (w1 * h1))] : List Int)) :: blk g1 32 #[.int .i64 0, .int .i64 0, .slice none 0 0] :: blk g2 32 #[.int .i64 w1, .int .i64 h1, .slice A3 ((g3 ++ ([Int.tmod i1 (w64 (w1 * h1))] : List Int)).length) c3] :: own 3 (.slice A3 ((g3 ++ ([Int.tmod i1 (w64 (w1 * h1))] : List Int)).length) c3) (vI (g3 ++ ([Int.tmod i1 (w64 (w1 * h1))] : List Int))) :: fs) := hS
                refine any_finE rfl (by decide) ?_
                refine any_end (by kernel_rfl) ?_
                refine np_n ?_
                refine block_n ?_
                refine then_n ?_
                have hS := hS.pickN 4 [1, 2, 3] (by decide)
                exact ⟨(g3 ++ ([Int.tmod i1 (w64 (w1 * h1))] : List Int)), A3, c3, hF.weak [0, 1, 4, 5, 6] (by kernel_rfl), hS, hm⟩
    · refine reg [] [] [0, 1, 4, 5, 6, 14] [pl 0 (.int .i64 w1), pl 1 (.int .i64 h1), pl 4 (.pointer (some ⟨g1, 0, none⟩)), pl 5 (.pointer (some ⟨g2, 0, none⟩)), pl 6 (.int .i64 i1), pl 14 (.bool (decide (i1 ≤ (w64 (w1 * h1)))))] hF hS Fol (by kernel_rfl) (by kernel_rfl) (by kernel_rfl) ?_ (fun a w hF hS => ?_)
      · exact obs_nil
      refine cond_ev (t := 14) (b := decide (i1 ≤ (w64 (w1 * h1)))) hF (by kernel_rfl) (fun hb => ?_) (fun hb => ?_)
      · replace hm := if_t hm hb
        refine wpIn_skip ?_
        refine then_n ?_
        exact ⟨hF.weak [0, 1, 4, 5, 6] (by kernel_rfl), hS, hm⟩
      · replace hm := if_f hm hb
        refine wpIn_exit ?_
        refine then_e (then_e (block_e (then_n ?_)))
        rw [← hφ1] at hm
        replace hm := done_b hm
        unfold gameroomref_SlideHome_K1 at hm
        try dsimp only at hm
        have hm : ((gameroomref_SlideHome_J1 w1 h1) g3).bind some = some r := hm
        exact ⟨g3, A1, c1, hF.weak [4, 5] (by kernel_rfl), hS, hm⟩

noncomputable def gameroomref_factorial_J3  (f1 : Int) (i1 : Int) : Option (St (Int × Int) Int) :=
  some (.next ((w64 (f1 * i1)), (w64 (i1 + 1))))

noncomputable def gameroomref_factorial_J2  (f1 : Int) (i1 : Int) : Option (St (Int × Int) Int) :=
  (gameroomref_factorial_J3 f1 i1)

noncomputable def gameroomref_factorial_J1  (f2 : Int) : Option Int :=
  some f2

noncomputable def gameroomref_factorial_K1  : Int → Option Int :=
  fun (x : Int) => match x with | f2 => gameroomref_factorial_J1 f2

noncomputable def gameroomref_factorial_L1  (n1 : Int) : (Int × Int) → Option (St (Int × Int) Int) :=
  fun (x : (Int × Int)) => match x with | (f1, i1) => if (decide (i1 ≤ n1)) then ((gameroomref_factorial_J2 f1 i1)) else (some (.done f1))

noncomputable def gameroomref_factorial_m  (n1 : Int) : Option Int :=
  (loop (gameroomref_factorial_L1 n1) (1, 2)).bind gameroomref_factorial_K1

set_option maxRecDepth 100000 in
set_option maxHeartbeats 4000000 in
theorem gameroomref_factorial_w  {n1 : Int} {r : Int} {w0 w : World} {B : Nat} {fs : List HP} (hm : gameroomref_factorial_m n1 = some r) (hS : Sep w0 B w (fs)) :
    Calls Try.prog 60 #[.int .i64 n1] w fun e w' => e = .returned (.int .i64 r) ∧ Sep w0 B w' (fs) := by
  unfold gameroomref_factorial_m at hm
  replace hm := start_b hm
  refine enter (l := [.int .i64 n1]) (n := 14) Try.func60 rfl rfl (by simp) (fun a hF => ?_)
  refine reg [] [] [0] [pl 0 (.int .i64 n1)] hF hS Fol (by kernel_rfl) (by kernel_rfl) (by kernel_rfl) ?_ (fun a w hF hS => ?_)
  · exact obs_nil
  refine reg [] [] [0, 3] [pl 0 (.int .i64 n1), pl 3 (.int .i64 1)] hF hS Fol (by kernel_rfl) (by kernel_rfl) (by kernel_rfl) ?_ (fun a w hF hS => ?_)
  · exact obs_nil
  refine seq_cut (fun a w => ∃ (f2 : Int), Fr 14 [pl 3 (.int .i64 f2)] a ∧ Sep w0 B w (fs) ∧ (gameroomref_factorial_J1 f2).bind some = some r) ?_ ?_
  · rintro a w ⟨f2, hF, hS, hm⟩
    unfold gameroomref_factorial_J1 at hm
    refine reg [] [] [2] [pl 2 (.int .i64 f2)] hF hS Fol (by kernel_rfl) (by kernel_rfl) (by kernel_rfl) ?_ (fun a w hF hS => ?_)
    · exact obs_nil
    refine wpIn_ret ?_
    have hm : some f2 = some r := hm
    obtain rfl := Option.some.inj hm
    exact retV (rs := [.tmp 2]) (vs := [.int .i64 f2]) hF rfl (rv_t (by kernel_rfl) <| rv_nil) rfl ⟨rfl, hS⟩
  · refine reg [] [] [0, 3, 4] [pl 0 (.int .i64 n1), pl 3 (.int .i64 1), pl 4 (.int .i64 2)] hF hS Fol (by kernel_rfl) (by kernel_rfl) (by kernel_rfl) ?_ (fun a w hF hS => ?_)
    · exact obs_nil
    refine wpIn_block ?_
    refine wp_loop_model (S := (Int × Int)) (R := Int) (gameroomref_factorial_L1 n1) (fun x => (gameroomref_factorial_K1 x).bind some) r (fun (x : (Int × Int)) a w => Fr 14 [pl 0 (.int .i64 n1), pl 3 (.int .i64 x.1), pl 4 (.int .i64 x.2)] a ∧ Sep w0 B w (fs)) (assoc_b hm) ⟨hF.weak [0, 3, 4] (by kernel_rfl), hS⟩ ?_
    clear hF hS hm
    rintro nn1 ⟨f1, i1⟩ a w ⟨hF, hS⟩ hm
    generalize hφ1 : stK (gameroomref_factorial_L1 n1) nn1 (fun x => (gameroomref_factorial_K1 x).bind some) = φ1 at hm
    unfold gameroomref_factorial_L1 at hm
    dsimp only at hF hS hm
    refine seq_cut (fun a w => Fr 14 [pl 0 (.int .i64 n1), pl 3 (.int .i64 f1), pl 4 (.int .i64 i1)] a ∧ Sep w0 B w (fs) ∧ ((gameroomref_factorial_J2 f1 i1)).bind φ1 = some r) ?_ ?_
    · rintro a w ⟨hF, hS, hm⟩
      unfold gameroomref_factorial_J2 at hm
      refine seq_cut (fun a w => Fr 14 [pl 0 (.int .i64 n1), pl 3 (.int .i64 (w64 (f1 * i1))), pl 4 (.int .i64 i1)] a ∧ Sep w0 B w (fs) ∧ ((gameroomref_factorial_J3 f1 i1)).bind φ1 = some r) ?_ ?_
      · rintro a w ⟨hF, hS, hm⟩
        unfold gameroomref_factorial_J3 at hm
        refine reg1 [] [] [0, 3, 4] [pl 0 (.int .i64 n1), pl 3 (.int .i64 (w64 (f1 * i1))), pl 4 (.int .i64 (w64 (i1 + 1)))] hF hS Fol (by kernel_rfl) (by kernel_rfl) (by kernel_rfl) ?_ (fun a w hF hS => ?_)
        · exact obs_nil
        refine then_n ?_
        rw [← hφ1] at hm
        exact ⟨((w64 (f1 * i1)), (w64 (i1 + 1))), ⟨hF.weak [0, 3, 4] (by kernel_rfl), hS⟩, hm⟩
      · refine wpIn_block ?_
        refine reg1 [] [] [0, 3, 4] [pl 0 (.int .i64 n1), pl 3 (.int .i64 (w64 (f1 * i1))), pl 4 (.int .i64 i1)] hF hS Fol (by kernel_rfl) (by kernel_rfl) (by kernel_rfl) ?_ (fun a w hF hS => ?_)
        · exact obs_nil
        refine block_n ?_
        refine then_n ?_
        exact ⟨hF.weak [0, 3, 4] (by kernel_rfl), hS, hm⟩
    · refine reg [] [] [0, 3, 4, 7] [pl 0 (.int .i64 n1), pl 3 (.int .i64 f1), pl 4 (.int .i64 i1), pl 7 (.bool (decide (i1 ≤ n1)))] hF hS Fol (by kernel_rfl) (by kernel_rfl) (by kernel_rfl) ?_ (fun a w hF hS => ?_)
      · exact obs_nil
      refine cond_ev (t := 7) (b := decide (i1 ≤ n1)) hF (by kernel_rfl) (fun hb => ?_) (fun hb => ?_)
      · replace hm := if_t hm hb
        refine wpIn_skip ?_
        refine then_n ?_
        exact ⟨hF.weak [0, 3, 4] (by kernel_rfl), hS, hm⟩
      · replace hm := if_f hm hb
        refine wpIn_exit ?_
        refine then_e (then_e (block_e (then_n ?_)))
        rw [← hφ1] at hm
        replace hm := done_b hm
        unfold gameroomref_factorial_K1 at hm
        try dsimp only at hm
        have hm : (gameroomref_factorial_J1 f1).bind some = some r := hm
        exact ⟨f1, hF.weak [3] (by kernel_rfl), hS, hm⟩

noncomputable def gameroomref_NumberOf_J6  (j1 : Int) (less3 : Int) : Option (St (Int × Int) Int) :=
  some (.next (less3, (w64 (j1 + 1))))

noncomputable def gameroomref_NumberOf_J5  (l1 : List Int) (i1 : Int) (less1 : Int) (j1 : Int) : Option (St (Int × Int) Int) :=
  asrt (0 ≤ j1 ∧ j1 < (l1.length : Int)) <| asrt (0 ≤ i1 ∧ i1 < (l1.length : Int)) <| if (decide ((geti l1 j1) < (geti l1 i1))) then ((gameroomref_NumberOf_J6 j1) (w64 (less1 + 1))) else ((gameroomref_NumberOf_J6 j1) less1)

noncomputable def gameroomref_NumberOf_J3  (i1 : Int) (k3 : Int) : Option (St (Int × Int) Int) :=
  some (.next (k3, (w64 (i1 + 1))))

noncomputable def gameroomref_NumberOf_J4  (l1 : List Int) (k1 : Int) (i1 : Int) (less2 : Int) : Option (St (Int × Int) Int) :=
  (gameroomref_factorial_m (w64 ((w64 ((l1.length : Int) - 1)) - i1))).bind fun r1 => (gameroomref_NumberOf_J3 i1) (w64 (k1 + (w64 (less2 * r1))))

noncomputable def gameroomref_NumberOf_K2  (l1 : List Int) (k1 : Int) (i1 : Int) : Int → Option (St (Int × Int) Int) :=
  fun (x : Int) => match x with | less2 => (gameroomref_NumberOf_J4 l1 k1 i1) less2

noncomputable def gameroomref_NumberOf_L2  (l1 : List Int) (i1 : Int) : (Int × Int) → Option (St (Int × Int) Int) :=
  fun (x : (Int × Int)) => match x with | (less1, j1) => if (decide (j1 < (l1.length : Int))) then ((gameroomref_NumberOf_J5 l1 i1 less1 j1)) else (some (.done less1))

noncomputable def gameroomref_NumberOf_J2  (l1 : List Int) (k1 : Int) (i1 : Int) : Option (St (Int × Int) Int) :=
  (loop (gameroomref_NumberOf_L2 l1 i1) (0, (w64 (i1 + 1)))).bind (gameroomref_NumberOf_K2 l1 k1 i1)

noncomputable def gameroomref_NumberOf_J1  (k2 : Int) : Option Int :=
  some k2

noncomputable def gameroomref_NumberOf_K1  : Int → Option Int :=
  fun (x : Int) => match x with | k2 => gameroomref_NumberOf_J1 k2

noncomputable def gameroomref_NumberOf_L1  (l1 : List Int) : (Int × Int) → Option (St (Int × Int) Int) :=
  fun (x : (Int × Int)) => match x with | (k1, i1) => if (decide (i1 < (l1.length : Int))) then ((gameroomref_NumberOf_J2 l1 k1 i1)) else (some (.done k1))

noncomputable def gameroomref_NumberOf_m  (l1 : List Int) : Option Int :=
  (loop (gameroomref_NumberOf_L1 l1) (0, 0)).bind gameroomref_NumberOf_K1

set_option maxRecDepth 100000 in
set_option maxHeartbeats 4000000 in
theorem gameroomref_NumberOf_w  {A1 : Option Addr} {c1 : Nat} {n1 : Nat} {l1 : List Int} {r : Int} {w0 w : World} {B : Nat} {fs : List HP} (hm : gameroomref_NumberOf_m l1 = some r) (hS : Sep w0 B w (fs)) (hr_l1 : RdF w0 B fs A1 (vI l1)) (_hc_l1 : l1.length ≤ c1) (_hn_l1 : n1 = l1.length) :
    Calls Try.prog 61 #[.slice A1 n1 c1] w fun e w' => e = .returned (.int .i64 r) ∧ Sep w0 B w' (fs) := by
  obtain ⟨i3, hi3, hz3, hs3, hb3⟩ := info_parts Info3
  obtain rfl := _hn_l1
  unfold gameroomref_NumberOf_m at hm
  replace hm := start_b hm
  refine enter (l := [.slice A1 l1.length c1]) (n := 43) Try.func61 rfl rfl (by simp) (fun a hF => ?_)
  refine reg [] [] [0] [pl 0 (.slice A1 l1.length c1)] hF hS Fol (by kernel_rfl) (by kernel_rfl) (by kernel_rfl) ?_ (fun a w hF hS => ?_)
  · exact obs_nil
  refine reg [] [] [0, 3] [pl 0 (.slice A1 l1.length c1), pl 3 (.int .i64 0)] hF hS Fol (by kernel_rfl) (by kernel_rfl) (by kernel_rfl) ?_ (fun a w hF hS => ?_)
  · exact obs_nil
  refine seq_cut (fun a w => ∃ (k2 : Int), Fr 43 [pl 3 (.int .i64 k2)] a ∧ Sep w0 B w (fs) ∧ (gameroomref_NumberOf_J1 k2).bind some = some r) ?_ ?_
  · rintro a w ⟨k2, hF, hS, hm⟩
    unfold gameroomref_NumberOf_J1 at hm
    refine reg [] [] [2] [pl 2 (.int .i64 k2)] hF hS Fol (by kernel_rfl) (by kernel_rfl) (by kernel_rfl) ?_ (fun a w hF hS => ?_)
    · exact obs_nil
    refine wpIn_ret ?_
    have hm : some k2 = some r := hm
    obtain rfl := Option.some.inj hm
    exact retV (rs := [.tmp 2]) (vs := [.int .i64 k2]) hF rfl (rv_t (by kernel_rfl) <| rv_nil) rfl ⟨rfl, hS⟩
  · refine reg [] [] [0, 3, 4] [pl 0 (.slice A1 l1.length c1), pl 3 (.int .i64 0), pl 4 (.int .i64 0)] hF hS Fol (by kernel_rfl) (by kernel_rfl) (by kernel_rfl) ?_ (fun a w hF hS => ?_)
    · exact obs_nil
    refine wpIn_block ?_
    refine wp_loop_model (S := (Int × Int)) (R := Int) (gameroomref_NumberOf_L1 l1) (fun x => (gameroomref_NumberOf_K1 x).bind some) r (fun (x : (Int × Int)) a w => Fr 43 [pl 0 (.slice A1 l1.length c1), pl 3 (.int .i64 x.1), pl 4 (.int .i64 x.2)] a ∧ Sep w0 B w (fs)) (assoc_b hm) ⟨hF.weak [0, 3, 4] (by kernel_rfl), hS⟩ ?_
    clear hF hS hm
    rintro nn1 ⟨k1, i1⟩ a w ⟨hF, hS⟩ hm
    generalize hφ1 : stK (gameroomref_NumberOf_L1 l1) nn1 (fun x => (gameroomref_NumberOf_K1 x).bind some) = φ1 at hm
    unfold gameroomref_NumberOf_L1 at hm
    dsimp only at hF hS hm
    refine seq_cut (fun a w => Fr 43 [pl 0 (.slice A1 l1.length c1), pl 3 (.int .i64 k1), pl 4 (.int .i64 i1)] a ∧ Sep w0 B w (fs) ∧ ((gameroomref_NumberOf_J2 l1 k1 i1)).bind φ1 = some r) ?_ ?_
    · rintro a w ⟨hF, hS, hm⟩
      unfold gameroomref_NumberOf_J2 at hm
      refine seq_cut (fun a w => ∃ (k3 : Int), Fr 43 [pl 0 (.slice A1 l1.length c1), pl 3 (.int .i64 k3), pl 4 (.int .i64 i1)] a ∧ Sep w0 B w (fs) ∧ ((gameroomref_NumberOf_J3 i1) k3).bind φ1 = some r) ?_ ?_
      · rintro a w ⟨k3, hF, hS, hm⟩
        unfold gameroomref_NumberOf_J3 at hm
        refine reg1 [] [] [0, 3, 4] [pl 0 (.slice A1 l1.length c1), pl 3 (.int .i64 k3), pl 4 (.int .i64 (w64 (i1 + 1)))] hF hS Fol (by kernel_rfl) (by kernel_rfl) (by kernel_rfl) ?_ (fun a w hF hS => ?_)
        · exact obs_nil
        refine then_n ?_
        rw [← hφ1] at hm
        exact ⟨(k3, (w64 (i1 + 1))), ⟨hF.weak [0, 3, 4] (by kernel_rfl), hS⟩, hm⟩
      · refine wpIn_block ?_
        refine reg [] [] [0, 3, 4, 5] [pl 0 (.slice A1 l1.length c1), pl 3 (.int .i64 k1), pl 4 (.int .i64 i1), pl 5 (.int .i64 0)] hF hS Fol (by kernel_rfl) (by kernel_rfl) (by kernel_rfl) ?_ (fun a w hF hS => ?_)
        · exact obs_nil
        refine seq_cut (fun a w => ∃ (less2 : Int), Fr 43 [pl 0 (.slice A1 l1.length c1), pl 3 (.int .i64 k1), pl 4 (.int .i64 i1), pl 5 (.int .i64 less2)] a ∧ Sep w0 B w (fs) ∧ ((gameroomref_NumberOf_J4 l1 k1 i1) less2).bind φ1 = some r) ?_ ?_
        · rintro a w ⟨less2, hF, hS, hm⟩
          unfold gameroomref_NumberOf_J4 at hm
          obtain ⟨r1, hr1, hm⟩ := call_b hm
          refine reg1 [⟨false, [], callFunc 60 #[.int .i64 (w64 ((w64 ((l1.length : Int) - 1)) - i1))], .int .i64 r1⟩] [none, none, none, none, none, none, none, some (.int .i64 r1), none, none, none] [0, 3, 4] [pl 0 (.slice A1 l1.length c1), pl 3 (.int .i64 (w64 (k1 + (w64 (less2 * r1))))), pl 4 (.int .i64 i1)] hF hS Fol (by kernel_rfl) (by kernel_rfl) (by kernel_rfl) ?_ (fun a w hF hS => ?_)
          · exact obs_cons (ob_call Try.func60 (by kernel_rfl) rfl (fun _ _ hS => gameroomref_factorial_w hr1 hS )) <| obs_nil
          refine block_n ?_
          refine then_n ?_
          exact ⟨(w64 (k1 + (w64 (less2 * r1)))), hF.weak [0, 3, 4] (by kernel_rfl), hS, hm⟩
        · refine reg [] [] [0, 3, 4, 5, 6] [pl 0 (.slice A1 l1.length c1), pl 3 (.int .i64 k1), pl 4 (.int .i64 i1), pl 5 (.int .i64 0), pl 6 (.int .i64 (w64 (i1 + 1)))] hF hS Fol (by kernel_rfl) (by kernel_rfl) (by kernel_rfl) ?_ (fun a w hF hS => ?_)
          · exact obs_nil
          refine wpIn_block ?_
          refine wp_loop_model (S := (Int × Int)) (R := Int) (gameroomref_NumberOf_L2 l1 i1) (fun x => ((gameroomref_NumberOf_K2 l1 k1 i1) x).bind φ1) r (fun (x : (Int × Int)) a w => Fr 43 [pl 0 (.slice A1 l1.length c1), pl 3 (.int .i64 k1), pl 4 (.int .i64 i1), pl 5 (.int .i64 x.1), pl 6 (.int .i64 x.2)] a ∧ Sep w0 B w (fs)) (assoc_b hm) ⟨hF.weak [0, 3, 4, 5, 6] (by kernel_rfl), hS⟩ ?_
          clear hF hS hm
          rintro nn2 ⟨less1, j1⟩ a w ⟨hF, hS⟩ hm
          generalize hφ2 : stK (gameroomref_NumberOf_L2 l1 i1) nn2 (fun x => ((gameroomref_NumberOf_K2 l1 k1 i1) x).bind φ1) = φ2 at hm
          unfold gameroomref_NumberOf_L2 at hm
          dsimp only at hF hS hm
          refine seq_cut (fun a w => Fr 43 [pl 0 (.slice A1 l1.length c1), pl 3 (.int .i64 k1), pl 4 (.int .i64 i1), pl 5 (.int .i64 less1), pl 6 (.int .i64 j1)] a ∧ Sep w0 B w (fs) ∧ ((gameroomref_NumberOf_J5 l1 i1 less1 j1)).bind φ2 = some r) ?_ ?_
          · rintro a w ⟨hF, hS, hm⟩
            unfold gameroomref_NumberOf_J5 at hm
            refine seq_cut (fun a w => ∃ (less3 : Int), Fr 43 [pl 0 (.slice A1 l1.length c1), pl 3 (.int .i64 k1), pl 4 (.int .i64 i1), pl 5 (.int .i64 less3), pl 6 (.int .i64 j1)] a ∧ Sep w0 B w (fs) ∧ ((gameroomref_NumberOf_J6 j1) less3).bind φ2 = some r) ?_ ?_
            · rintro a w ⟨less3, hF, hS, hm⟩
              unfold gameroomref_NumberOf_J6 at hm
              refine reg1 [] [] [0, 3, 4, 5, 6] [pl 0 (.slice A1 l1.length c1), pl 3 (.int .i64 k1), pl 4 (.int .i64 i1), pl 5 (.int .i64 less3), pl 6 (.int .i64 (w64 (j1 + 1)))] hF hS Fol (by kernel_rfl) (by kernel_rfl) (by kernel_rfl) ?_ (fun a w hF hS => ?_)
              · exact obs_nil
              refine then_n ?_
              rw [← hφ2] at hm
              exact ⟨(less3, (w64 (j1 + 1))), ⟨hF.weak [0, 3, 4, 5, 6] (by kernel_rfl), hS⟩, hm⟩
            · refine wpIn_block ?_
              obtain ⟨hp1, hm⟩ := asrt_b hm
              obtain ⟨hp2, hm⟩ := asrt_b hm
              refine reg [⟨true, [], vS (Instr.indexAt 22 (.slice A1 l1.length c1) (.int .i64 j1)), .pointer (some (sAddr A1 j1))⟩, ⟨false, [], vS (Instr.loadAt 3 (.pointer (some (sAddr A1 j1)))), .int .i64 (geti l1 j1)⟩, ⟨true, [], vS (Instr.indexAt 22 (.slice A1 l1.length c1) (.int .i64 i1)), .pointer (some (sAddr A1 i1))⟩, ⟨false, [], vS (Instr.loadAt 3 (.pointer (some (sAddr A1 i1)))), .int .i64 (geti l1 i1)⟩] [none, none, some (.pointer (some (sAddr A1 j1))), some (.int .i64 (geti l1 j1)), none, none, some (.pointer (some (sAddr A1 i1))), some (.int .i64 (geti l1 i1)), none] [0, 3, 4, 5, 6, 29] [pl 0 (.slice A1 l1.length c1), pl 3 (.int .i64 k1), pl 4 (.int .i64 i1), pl 5 (.int .i64 less1), pl 6 (.int .i64 j1), pl 29 (.bool (decide ((geti l1 j1) < (geti l1 i1))))] hF hS Fol (by kernel_rfl) (by kernel_rfl) (by kernel_rfl) ?_ (fun a w hF hS => ?_)
              · exact obs_cons (ob_ix1 (f := (Value.int .i64)) (m := l1) Und22 hi3 hs3 (hr_l1 _ (hS.dropN 0)) rfl (fun _ => hp1)) <| obs_cons (ob_get1 (n := l1.length) (m := l1) (Value.int .i64) (0 : Int) Agg3 (fun _ hS => ⟨_, (hr_l1 _ (hS.dropN 0))⟩) (fun _ hS => rfl) (fun _ => hp1)) <| obs_cons (ob_ix1 (f := (Value.int .i64)) (m := l1) Und22 hi3 hs3 (hr_l1 _ (hS.dropN 0)) rfl (fun _ => hp2)) <| obs_cons (ob_get1 (n := l1.length) (m := l1) (Value.int .i64) (0 : Int) Agg3 (fun _ hS => ⟨_, (hr_l1 _ (hS.dropN 0))⟩) (fun _ hS => rfl) (fun _ => hp2)) <| obs_nil
              refine cond_ev (t := 29) (b := decide ((geti l1 j1) < (geti l1 i1))) hF (by kernel_rfl) (fun hb => ?_) (fun hb => ?_)
              · replace hm := if_t hm hb
                refine reg1 [] [] [0, 3, 4, 5, 6] [pl 0 (.slice A1 l1.length c1), pl 3 (.int .i64 k1), pl 4 (.int .i64 i1), pl 5 (.int .i64 (w64 (less1 + 1))), pl 6 (.int .i64 j1)] hF hS Fol (by kernel_rfl) (by kernel_rfl) (by kernel_rfl) ?_ (fun a w hF hS => ?_)
                · exact obs_nil
                refine block_n ?_
                refine then_n ?_
                exact ⟨(w64 (less1 + 1)), hF.weak [0, 3, 4, 5, 6] (by kernel_rfl), hS, hm⟩
              · replace hm := if_f hm hb
                refine wpIn_skip ?_
                refine block_n ?_
                refine then_n ?_
                exact ⟨less1, hF.weak [0, 3, 4, 5, 6] (by kernel_rfl), hS, hm⟩
          · refine reg [] [] [0, 3, 4, 5, 6, 18] [pl 0 (.slice A1 l1.length c1), pl 3 (.int .i64 k1), pl 4 (.int .i64 i1), pl 5 (.int .i64 less1), pl 6 (.int .i64 j1), pl 18 (.bool (decide (j1 < (l1.length : Int))))] hF hS Fol (by kernel_rfl) (by kernel_rfl) (by kernel_rfl) ?_ (fun a w hF hS => ?_)
            · exact obs_nil
            refine cond_ev (t := 18) (b := decide (j1 < (l1.length : Int))) hF (by kernel_rfl) (fun hb => ?_) (fun hb => ?_)
            · replace hm := if_t hm hb
              refine wpIn_skip ?_
              refine then_n ?_
              exact ⟨hF.weak [0, 3, 4, 5, 6] (by kernel_rfl), hS, hm⟩
            · replace hm := if_f hm hb
              refine wpIn_exit ?_
              refine then_e (then_e (block_e (then_n ?_)))
              rw [← hφ2] at hm
              replace hm := done_b hm
              unfold gameroomref_NumberOf_K2 at hm
              try dsimp only at hm
              have hm : ((gameroomref_NumberOf_J4 l1 k1 i1) less1).bind φ1 = some r := hm
              exact ⟨less1, hF.weak [0, 3, 4, 5] (by kernel_rfl), hS, hm⟩
    · refine reg [] [] [0, 3, 4, 10] [pl 0 (.slice A1 l1.length c1), pl 3 (.int .i64 k1), pl 4 (.int .i64 i1), pl 10 (.bool (decide (i1 < (l1.length : Int))))] hF hS Fol (by kernel_rfl) (by kernel_rfl) (by kernel_rfl) ?_ (fun a w hF hS => ?_)
      · exact obs_nil
      refine cond_ev (t := 10) (b := decide (i1 < (l1.length : Int))) hF (by kernel_rfl) (fun hb => ?_) (fun hb => ?_)
      · replace hm := if_t hm hb
        refine wpIn_skip ?_
        refine then_n ?_
        exact ⟨hF.weak [0, 3, 4] (by kernel_rfl), hS, hm⟩
      · replace hm := if_f hm hb
        refine wpIn_exit ?_
        refine then_e (then_e (block_e (then_n ?_)))
        rw [← hφ1] at hm
        replace hm := done_b hm
        unfold gameroomref_NumberOf_K1 at hm
        try dsimp only at hm
        have hm : (gameroomref_NumberOf_J1 k1).bind some = some r := hm
        exact ⟨k1, hF.weak [3] (by kernel_rfl), hS, hm⟩

noncomputable def gameroomref_SlideMove_J4  (g1 : Int) (g3 : List Int) (dir1 : Int) (r1 : (Int × Int × List Int)) (r2 : Int) : Option (Int × Int × List Int × Bool) :=
  asrt (0 ≤ (w64 ((w64 ((w64 ((w64 (Int.tdiv r2 g1)) + (geti ([1, 0, (-1), 0] : List Int) dir1))) * g1)) + (w64 ((Int.tmod r2 g1) + (geti ([0, (-1), 0, 1] : List Int) dir1))))) ∧ (w64 ((w64 ((w64 ((w64 (Int.tdiv r2 g1)) + (geti ([1, 0, (-1), 0] : List Int) dir1))) * g1)) + (w64 ((Int.tmod r2 g1) + (geti ([0, (-1), 0, 1] : List Int) dir1))))) < (g3.length : Int)) <| asrt (0 ≤ r2 ∧ r2 < (r1.2.2.length : Int)) <| asrt (0 ≤ (w64 ((w64 ((w64 ((w64 (Int.tdiv r2 g1)) + (geti ([1, 0, (-1), 0] : List Int) dir1))) * g1)) + (w64 ((Int.tmod r2 g1) + (geti ([0, (-1), 0, 1] : List Int) dir1))))) ∧ (w64 ((w64 ((w64 ((w64 (Int.tdiv r2 g1)) + (geti ([1, 0, (-1), 0] : List Int) dir1))) * g1)) + (w64 ((Int.tmod r2 g1) + (geti ([0, (-1), 0, 1] : List Int) dir1))))) < (r1.2.2.length : Int)) <| some (r1.1, r1.2.1, ((r1.2.2.set (Int.toNat r2) (geti g3 (w64 ((w64 ((w64 ((w64 (Int.tdiv r2 g1)) + (geti ([1, 0, (-1), 0] : List Int) dir1))) * g1)) + (w64 ((Int.tmod r2 g1) + (geti ([0, (-1), 0, 1] : List Int) dir1))))))).set (Int.toNat (w64 ((w64 ((w64 ((w64 (Int.tdiv r2 g1)) + (geti ([1, 0, (-1), 0] : List Int) dir1))) * g1)) + (w64 ((Int.tmod r2 g1) + (geti ([0, (-1), 0, 1] : List Int) dir1)))))) 0), true)

noncomputable def gameroomref_SlideMove_J3  (g1 : Int) (g2 : Int) (g3 : List Int) (dir1 : Int) (r1 : (Int × Int × List Int)) (r2 : Int) : Option (Int × Int × List Int × Bool) :=
  (gameroomref_within_m (w64 ((Int.tmod r2 g1) + (geti ([0, (-1), 0, 1] : List Int) dir1))) 0 (w64 (g1 - 1))).bind fun r4 => ((if (!(!r4)) then gameroomref_within_m (w64 ((w64 (Int.tdiv r2 g1)) + (geti ([1, 0, (-1), 0] : List Int) dir1))) 0 (w64 (g2 - 1)) else some false)).bind fun r5 => if ((!r4) || (!r5)) then (some (r1.1, r1.2.1, r1.2.2, false)) else ((gameroomref_SlideMove_J4 g1 g3 dir1 r1 r2))

noncomputable def gameroomref_SlideMove_J2  (g1 : Int) (g2 : Int) (g3 : List Int) (dir1 : Int) (r1 : (Int × Int × List Int)) (r2 : Int) : Option (Int × Int × List Int × Bool) :=
  asrt (g1 ≠ (0 : Int)) <| asrt (0 ≤ dir1 ∧ dir1 < 4) <| (gameroomref_SlideMove_J3 g1 g2 g3 dir1 r1 r2)

noncomputable def gameroomref_SlideMove_J1  (g1 : Int) (g2 : Int) (g3 : List Int) (dir1 : Int) (r1 : (Int × Int × List Int)) (r2 : Int) : Option (Int × Int × List Int × Bool) :=
  asrt (g1 ≠ (0 : Int)) <| asrt (0 ≤ dir1 ∧ dir1 < 4) <| (gameroomref_SlideMove_J2 g1 g2 g3 dir1 r1 r2)

noncomputable def gameroomref_SlideMove_m  (g1 : Int) (g2 : Int) (g3 : List Int) (dir1 : Int) : Option (Int × Int × List Int × Bool) :=
  (gameroomref_GridOf_m g1 g2 g3).bind fun r1 => (gameroomref_at_m g3 0).bind fun r2 => (gameroomref_within_m dir1 0 3).bind fun r3 => if (!r3) then (some (r1.1, r1.2.1, r1.2.2, false)) else ((gameroomref_SlideMove_J1 g1 g2 g3 dir1 r1 r2))

set_option maxRecDepth 100000 in
set_option maxHeartbeats 4000000 in
theorem gameroomref_SlideMove_w  {g1 : Int} {g2 : Int} {A1 : Option Addr} {c1 : Nat} {n1 : Nat} {g3 : List Int} {dir1 : Int} {r : (Int × Int × List Int × Bool)} {w0 w : World} {B : Nat} {fs : List HP} (hm : gameroomref_SlideMove_m g1 g2 g3 dir1 = some r) (hS : Sep w0 B w (fs)) (hr_g3 : RdF w0 B fs A1 (vI g3)) (_hc_g3 : g3.length ≤ c1) (_hn_g3 : n1 = g3.length) :
    Calls Try.prog 18 #[.agg #[.int .i64 g1, .int .i64 g2, .slice A1 n1 c1], .int .i64 dir1] w fun e w' => ∃ v, e = .returned v ∧ ∃ (A3 : Option Addr) (c3 : Nat), v = .tuple #[.agg #[.int .i64 r.1, .int .i64 r.2.1, .slice A3 r.2.2.1.length c3], .bool r.2.2.2] ∧ Sep w0 B w' (own 3 (.slice A3 r.2.2.1.length c3) (vI r.2.2.1) :: fs) := by
  obtain ⟨i3, hi3, hz3, hs3, hb3⟩ := info_parts Info3
  obtain rfl := _hn_g3
  unfold gameroomref_SlideMove_m at hm
  replace hm := start_b hm
  refine enter (l := [.agg #[.int .i64 g1, .int .i64 g2, .slice A1 g3.length c1], .int .i64 dir1]) (n := 76) Try.func18 rfl rfl (by simp) (fun a hF => ?_)
  refine seqR ?_
  refine at_do (d := 2) (s := vS (Instr.box 32 (.agg #[.int .i64 g1, .int .i64 g2, .slice A1 g3.length c1]))) (v := .pointer (some ⟨w.heap.size, 0, none⟩)) (w' := w.alloc (.cells #[.int .i64 g1, .int .i64 g2, .slice A1 g3.length c1] 32)) hF (by kernel_rfl) (by kernel_rfl) (by kernel_rfl) (fun a hF => ?_)
  have hS : Sep w0 B (w.alloc (.cells #[.int .i64 g1, .int .i64 g2, .slice A1 g3.length c1] 32)) (blk w.heap.size 32 #[.int .i64 g1, .int .i64 g2, .slice A1 g3.length c1] :: (fs)) := hS.box 32 #[.int .i64 g1, .int .i64 g2, .slice A1 g3.length c1]
  generalize w.heap.size = g4 at hF hS
  generalize w.alloc (.cells #[.int .i64 g1, .int .i64 g2, .slice A1 g3.length c1] 32) = w at hS ⊢
  refine at_do (d := 4) (s := vS (Instr.alloc 32 true (.tuple #[]))) (v := .pointer (some ⟨w.heap.size, 0, none⟩)) (w' := w.alloc (.cells #[.int .i64 0, .int .i64 0, .slice none 0 0] 32)) hF (by kernel_rfl) (by kernel_rfl) (by kernel_rfl) (fun a hF => ?_)
  have hS : Sep w0 B (w.alloc (.cells #[.int .i64 0, .int .i64 0, .slice none 0 0] 32)) (blk w.heap.size 32 #[.int .i64 0, .int .i64 0, .slice none 0 0] :: (blk g4 32 #[.int .i64 g1, .int .i64 g2, .slice A1 g3.length c1] :: fs)) := hS.box 32 #[.int .i64 0, .int .i64 0, .slice none 0 0]
  generalize w.heap.size = g5 at hF hS
  generalize w.alloc (.cells #[.int .i64 0, .int .i64 0, .slice none 0 0] 32) = w at hS ⊢
  refine at_run 1 [] [] [1, 2, 4] [pl 1 (.int .i64 dir1), pl 2 (.pointer (some ⟨g4, 0, none⟩)), pl 4 (.pointer (some ⟨g5, 0, none⟩))] hF hS (by kernel_rfl) (by kernel_rfl) ?_ (fun a w hF hS => ?_)
  · exact obs_nil
  refine at_end [1, 2, 4] [pl 1 (.int .i64 dir1), pl 2 (.pointer (some ⟨g4, 0, none⟩)), pl 4 (.pointer (some ⟨g5, 0, none⟩))] hF rfl (by kernel_rfl) (fun hF => ?_)
  refine then_n ?_
  refine seqR ?_
  obtain ⟨r1, hr1, hm⟩ := call_b hm
  refine at_run 1 [⟨false, [], vS (Instr.loadAt 32 (.pointer (some ⟨g4, 0, none⟩))), .agg #[.int .i64 g1, .int .i64 g2, .slice A1 g3.length c1]⟩] [some (.agg #[.int .i64 g1, .int .i64 g2, .slice A1 g3.length c1])] [1, 2, 4, 10] [pl 1 (.int .i64 dir1), pl 2 (.pointer (some ⟨g4, 0, none⟩)), pl 4 (.pointer (some ⟨g5, 0, none⟩)), pl 10 (.agg #[.int .i64 g1, .int .i64 g2, .slice A1 g3.length c1])] hF hS (by kernel_rfl) (by kernel_rfl) ?_ (fun a w hF hS => ?_)
  · exact obs_cons (ob_loadA (cs := #[.int .i64 g1, .int .i64 g2, .slice A1 g3.length c1]) (by kernel_rfl) (by kernel_rfl) (fun _ _ hS => (hS.at_ 1 rfl).cellsAt 0 (by rfl))) <| obs_nil
  refine at_call (f := 13) (args := #[.agg #[.int .i64 g1, .int .i64 g2, .slice A1 g3.length c1]]) (d := 11) hF (by kernel_rfl) (by kernel_rfl) Try.func13 (by kernel_rfl) rfl (gameroomref_GridOf_w hr1 hS (fun _ hS => (hr_g3 _ (hS.dropN 2))) _hc_g3 rfl) (fun v a w hR hF => ?_)
  clear hS
  obtain ⟨A2, c2, rfl, hS⟩ := hR
  have hS : Sep w0 B w (own 3 (.slice A2 r1.2.2.length c2) (vI r1.2.2) :: blk g5 32 #[.int .i64 0, .int .i64 0, .slice none 0 0] :: blk g4 32 #[.int .i64 g1, .int .i64 g2, .slice A1 g3.length c1] :: fs) := hS
  refine at_do (d := 6) (s := vS (Instr.alloc 32 true (.tuple #[]))) (v := .pointer (some ⟨w.heap.size, 0, none⟩)) (w' := w.alloc (.cells #[.int .i64 0, .int .i64 0, .slice none 0 0] 32)) hF (by kernel_rfl) (by kernel_rfl) (by kernel_rfl) (fun a hF => ?_)
  have hS : Sep w0 B (w.alloc (.cells #[.int .i64 0, .int .i64 0, .slice none 0 0] 32)) (blk w.heap.size 32 #[.int .i64 0, .int .i64 0, .slice none 0 0] :: (own 3 (.slice A2 r1.2.2.length c2) (vI r1.2.2) :: blk g5 32 #[.int .i64 0, .int .i64 0, .slice none 0 0] :: blk g4 32 #[.int .i64 g1, .int .i64 g2, .slice A1 g3.length c1] :: fs)) := hS.box 32 #[.int .i64 0, .int .i64 0, .slice none 0 0]
  generalize w.heap.size = g6 at hF hS
  generalize w.alloc (.cells #[.int .i64 0, .int .i64 0, .slice none 0 0] 32) = w at hS ⊢
  obtain ⟨w, hrun, hS⟩ := run_putA (P := Try.prog) (t := 32) (us := #[.int .i64 r1.1, .int .i64 r1.2.1, .slice A2 r1.2.2.length c2]) (o := 0) (hS.at_ 0 rfl) (by kernel_rfl) (all_one (by kernel_rfl)) (Nat.le_of_ble_eq_true (by kernel_rfl))
  refine at_skip hF (by kernel_rfl) hrun ?_
  have hS : Sep w0 B w (blk g6 32 #[.int .i64 r1.1, .int .i64 r1.2.1, .slice A2 r1.2.2.length c2] :: own 3 (.slice A2 r1.2.2.length c2) (vI r1.2.2) :: blk g5 32 #[.int .i64 0, .int .i64 0, .slice none 0 0] :: blk g4 32 #[.int .i64 g1, .int .i64 g2, .slice A1 g3.length c1] :: fs) := hS
  refine at_end [1, 2, 4, 6] [pl 1 (.int .i64 dir1), pl 2 (.pointer (some ⟨g4, 0, none⟩)), pl 4 (.pointer (some ⟨g5, 0, none⟩)), pl 6 (.pointer (some ⟨g6, 0, none⟩))] hF rfl (by kernel_rfl) (fun hF => ?_)
  refine then_n ?_
  obtain ⟨r2, hr2, hm⟩ := call_b hm
  refine reg [⟨false, [], vS (Instr.loadAt 22 (.pointer (some ⟨g4, 2, none⟩))), .slice A1 g3.length c1⟩, ⟨false, [], callFunc 65 #[.slice A1 g3.length c1, .int .i64 0], .int .i64 r2⟩] [none, some (.slice A1 g3.length c1), some (.int .i64 r2), none] [1, 2, 4, 6, 7] [pl 1 (.int .i64 dir1), pl 2 (.pointer (some ⟨g4, 0, none⟩)), pl 4 (.pointer (some ⟨g5, 0, none⟩)), pl 6 (.pointer (some ⟨g6, 0, none⟩)), pl 7 (.int .i64 r2)] hF hS Fol (by kernel_rfl) (by kernel_rfl) (by kernel_rfl) ?_ (fun a w hF hS => ?_)
  · exact obs_cons (ob_load Agg22 (fun _ _ hS => (hS.at_ 3 rfl).cell rfl)) <| obs_cons (ob_call Try.func65 (by kernel_rfl) rfl (fun _ _ hS => gameroomref_at_w hr2 hS (fun _ hS => (hr_g3 _ (hS.dropN 4))) _hc_g3 rfl)) <| obs_nil
  refine seq_cut (fun a w => Fr 76 [pl 1 (.int .i64 dir1), pl 2 (.pointer (some ⟨g4, 0, none⟩)), pl 4 (.pointer (some ⟨g5, 0, none⟩)), pl 6 (.pointer (some ⟨g6, 0, none⟩)), pl 7 (.int .i64 r2)] a ∧ Sep w0 B w (blk g4 32 #[.int .i64 g1, .int .i64 g2, .slice A1 g3.length c1] :: blk g5 32 #[.int .i64 0, .int .i64 0, .slice none 0 0] :: blk g6 32 #[.int .i64 r1.1, .int .i64 r1.2.1, .slice A2 r1.2.2.length c2] :: own 3 (.slice A2 r1.2.2.length c2) (vI r1.2.2) :: fs) ∧ ((gameroomref_SlideMove_J1 g1 g2 g3 dir1 r1 r2)).bind some = some r) ?_ ?_
  · rintro a w ⟨hF, hS, hm⟩
    unfold gameroomref_SlideMove_J1 at hm
    refine seq_cut (fun a w => Fr 76 [pl 1 (.int .i64 dir1), pl 2 (.pointer (some ⟨g4, 0, none⟩)), pl 4 (.pointer (some ⟨g5, 0, none⟩)), pl 6 (.pointer (some ⟨g6, 0, none⟩)), pl 7 (.int .i64 r2), pl 8 (.int .i64 (w64 ((Int.tmod r2 g1) + (geti ([0, (-1), 0, 1] : List Int) dir1))))] a ∧ Sep w0 B w (blk g4 32 #[.int .i64 g1, .int .i64 g2, .slice A1 g3.length c1] :: blk g5 32 #[.int .i64 0, .int .i64 0, .slice none 0 0] :: blk g6 32 #[.int .i64 r1.1, .int .i64 r1.2.1, .slice A2 r1.2.2.length c2] :: own 3 (.slice A2 r1.2.2.length c2) (vI r1.2.2) :: fs) ∧ ((gameroomref_SlideMove_J2 g1 g2 g3 dir1 r1 r2)).bind some = some r) ?_ ?_
    · rintro a w ⟨hF, hS, hm⟩
      unfold gameroomref_SlideMove_J2 at hm
      refine seq_cut (fun a w => Fr 76 [pl 2 (.pointer (some ⟨g4, 0, none⟩)), pl 4 (.pointer (some ⟨g5, 0, none⟩)), pl 6 (.pointer (some ⟨g6, 0, none⟩)), pl 7 (.int .i64 r2), pl 8 (.int .i64 (w64 ((Int.tmod r2 g1) + (geti ([0, (-1), 0, 1] : List Int) dir1)))), pl 9 (.int .i64 (w64 ((w64 (Int.tdiv r2 g1)) + (geti ([1, 0, (-1), 0] : List Int) dir1))))] a ∧ Sep w0 B w (blk g4 32 #[.int .i64 g1, .int .i64 g2, .slice A1 g3.length c1] :: blk g5 32 #[.int .i64 0, .int .i64 0, .slice none 0 0] :: blk g6 32 #[.int .i64 r1.1, .int .i64 r1.2.1, .slice A2 r1.2.2.length c2] :: own 3 (.slice A2 r1.2.2.length c2) (vI r1.2.2) :: fs) ∧ ((gameroomref_SlideMove_J3 g1 g2 g3 dir1 r1 r2)).bind some = some r) ?_ ?_
      · rintro a w ⟨hF, hS, hm⟩
        unfold gameroomref_SlideMove_J3 at hm
        refine seq_cut (fun a w => Fr 76 [pl 2 (.pointer (some ⟨g4, 0, none⟩)), pl 4 (.pointer (some ⟨g5, 0, none⟩)), pl 6 (.pointer (some ⟨g6, 0, none⟩)), pl 7 (.int .i64 r2), pl 8 (.int .i64 (w64 ((Int.tmod r2 g1) + (geti ([0, (-1), 0, 1] : List Int) dir1)))), pl 9 (.int .i64 (w64 ((w64 (Int.tdiv r2 g1)) + (geti ([1, 0, (-1), 0] : List Int) dir1))))] a ∧ Sep w0 B w (blk g4 32 #[.int .i64 g1, .int .i64 g2, .slice A1 g3.length c1] :: blk g5 32 #[.int .i64 0, .int .i64 0, .slice none 0 0] :: blk g6 32 #[.int .i64 r1.1, .int .i64 r1.2.1, .slice A2 r1.2.2.length c2] :: own 3 (.slice A2 r1.2.2.length c2) (vI r1.2.2) :: fs) ∧ ((gameroomref_SlideMove_J4 g1 g3 dir1 r1 r2)).bind some = some r) ?_ ?_
        · rintro a w ⟨hF, hS, hm⟩
          unfold gameroomref_SlideMove_J4 at hm
          refine wpIn_seq ?_
          obtain ⟨hp5, hm⟩ := asrt_b hm
          obtain ⟨hp6, hm⟩ := asrt_b hm
          refine regMix4 [0, 1, 2, 3, 4, 5, 6, 7, 8, 9, 10, 11, 12, 13] [14] [⟨false, [], vS (Instr.loadAt 22 (.pointer (some ⟨g6, 2, none⟩))), .slice A2 r1.2.2.length c2⟩, ⟨false, [], vS (Instr.loadAt 22 (.pointer (some ⟨g4, 2, none⟩))), .slice A1 g3.length c1⟩, ⟨false, [], vS (Instr.loadAt 3 (.pointer (some ⟨g4, 0, none⟩))), .int .i64 g1⟩, ⟨true, [], vS (Instr.indexAt 22 (.slice A1 g3.length c1) (.int .i64 (w64 ((w64 ((w64 ((w64 (Int.tdiv r2 g1)) + (geti ([1, 0, (-1), 0] : List Int) dir1))) * g1)) + (w64 ((Int.tmod r2 g1) + (geti ([0, (-1), 0, 1] : List Int) dir1))))))), .pointer (some (sAddr A1 (w64 ((w64 ((w64 ((w64 (Int.tdiv r2 g1)) + (geti ([1, 0, (-1), 0] : List Int) dir1))) * g1)) + (w64 ((Int.tmod r2 g1) + (geti ([0, (-1), 0, 1] : List Int) dir1)))))))⟩, ⟨false, [], vS (Instr.loadAt 3 (.pointer (some (sAddr A1 (w64 ((w64 ((w64 ((w64 (Int.tdiv r2 g1)) + (geti ([1, 0, (-1), 0] : List Int) dir1))) * g1)) + (w64 ((Int.tmod r2 g1) + (geti ([0, (-1), 0, 1] : List Int) dir1))))))))), .int .i64 (geti g3 (w64 ((w64 ((w64 ((w64 (Int.tdiv r2 g1)) + (geti ([1, 0, (-1), 0] : List Int) dir1))) * g1)) + (w64 ((Int.tmod r2 g1) + (geti ([0, (-1), 0, 1] : List Int) dir1))))))⟩, ⟨true, [], vS (Instr.indexAt 22 (.slice A2 r1.2.2.length c2) (.int .i64 r2)), .pointer (some (sAddr A2 r2))⟩] [none, some (.slice A2 r1.2.2.length c2), none, none, some (.slice A1 g3.length c1), none, none, some (.int .i64 g1), none, none, none, some (.pointer (some (sAddr A1 (w64 ((w64 ((w64 ((w64 (Int.tdiv r2 g1)) + (geti ([1, 0, (-1), 0] : List Int) dir1))) * g1)) + (w64 ((Int.tmod r2 g1) + (geti ([0, (-1), 0, 1] : List Int) dir1)))))))), some (.int .i64 (geti g3 (w64 ((w64 ((w64 ((w64 (Int.tdiv r2 g1)) + (geti ([1, 0, (-1), 0] : List Int) dir1))) * g1)) + (w64 ((Int.tmod r2 g1) + (geti ([0, (-1), 0, 1] : List Int) dir1))))))), some (.pointer (some (sAddr A2 r2)))] [2, 4, 6, 8, 9, 64, 65] [pl 2 (.pointer (some ⟨g4, 0, none⟩)), pl 4 (.pointer (some ⟨g5, 0, none⟩)), pl 6 (.pointer (some ⟨g6, 0, none⟩)), pl 8 (.int .i64 (w64 ((Int.tmod r2 g1) + (geti ([0, (-1), 0, 1] : List Int) dir1)))), pl 9 (.int .i64 (w64 ((w64 (Int.tdiv r2 g1)) + (geti ([1, 0, (-1), 0] : List Int) dir1)))), pl 64 (.int .i64 (geti g3 (w64 ((w64 ((w64 ((w64 (Int.tdiv r2 g1)) + (geti ([1, 0, (-1), 0] : List Int) dir1))) * g1)) + (w64 ((Int.tmod r2 g1) + (geti ([0, (-1), 0, 1] : List Int) dir1))))))), pl 65 (.pointer (some (sAddr A2 r2)))] hF hS Fol (by kernel_rfl) (by kernel_rfl) (by kernel_rfl) (by kernel_rfl) (by kernel_rfl) ?_ (fun a w hF hS => ?_)
          · exact obs_cons (ob_load Agg22 (fun _ _ hS => (hS.at_ 2 rfl).cell rfl)) <| obs_cons (ob_load Agg22 (fun _ _ hS => (hS.at_ 0 rfl).cell rfl)) <| obs_cons (ob_load Agg3 (fun _ _ hS => (hS.at_ 0 rfl).cell rfl)) <| obs_cons (ob_ix1 (f := (Value.int .i64)) (m := g3) Und22 hi3 hs3 (hr_g3 _ (hS.dropN 4)) rfl (fun _ => hp5)) <| obs_cons (ob_get1 (n := g3.length) (m := g3) (Value.int .i64) (0 : Int) Agg3 (fun _ hS => ⟨_, (hr_g3 _ (hS.dropN 4))⟩) (fun _ hS => rfl) (fun _ => hp5)) <| obs_cons (ob_ix1 (f := (Value.int .i64)) (m := r1.2.2) Und22 hi3 hs3 (hS.at_ 3 rfl).rd rfl (fun _ => hp6)) <| obs_nil
          obtain ⟨w, hrun, hS⟩ := run_set1 (P := Try.prog) (t := 3) (x := (geti g3 (w64 ((w64 ((w64 ((w64 (Int.tdiv r2 g1)) + (geti ([1, 0, (-1), 0] : List Int) dir1))) * g1)) + (w64 ((Int.tmod r2 g1) + (geti ([0, (-1), 0, 1] : List Int) dir1))))))) (Value.int .i64) (hS.at_ 3 rfl) hi3 hs3 rfl rfl hp6
          refine at_skip hF (by kernel_rfl) hrun ?_
          have hS : Sep w0 B w (blk g4 32 #[.int .i64 g1, .int .i64 g2, .slice A1 g3.length c1] :: blk g5 32 #[.int .i64 0, .int .i64 0, .slice none 0 0] :: blk g6 32 #[.int .i64 r1.1, .int .i64 r1.2.1, .slice A2 r1.2.2.length c2] :: own 3 (.slice A2 r1.2.2.length c2) (vI (r1.2.2.set (Int.toNat r2) (geti g3 (w64 ((w64 ((w64 ((w64 (Int.tdiv r2 g1)) + (geti ([1, 0, (-1), 0] : List Int) dir1))) * g1)) + (w64 ((Int.tmod r2 g1) + (geti ([0, (-1), 0, 1] : List Int) dir1)))))))) :: fs) := hS
          refine at_end [2, 4, 6, 8, 9] [pl 2 (.pointer (some ⟨g4, 0, none⟩)), pl 4 (.pointer (some ⟨g5, 0, none⟩)), pl 6 (.pointer (some ⟨g6, 0, none⟩)), pl 8 (.int .i64 (w64 ((Int.tmod r2 g1) + (geti ([0, (-1), 0, 1] : List Int) dir1)))), pl 9 (.int .i64 (w64 ((w64 (Int.tdiv r2 g1)) + (geti ([1, 0, (-1), 0] : List Int) dir1))))] hF rfl (by kernel_rfl) (fun hF => ?_)
          refine np_n ?_
          refine then_n ?_
          refine seqR ?_
          obtain ⟨hp7, hm⟩ := asrt_b hm
          refine at_run 9 [⟨false, [], vS (Instr.loadAt 22 (.pointer (some ⟨g6, 2, none⟩))), .slice A2 r1.2.2.length c2⟩, ⟨false, [], vS (Instr.loadAt 3 (.pointer (some ⟨g4, 0, none⟩))), .int .i64 g1⟩, ⟨true, [], vS (Instr.indexAt 22 (.slice A2 r1.2.2.length c2) (.int .i64 (w64 ((w64 ((w64 ((w64 (Int.tdiv r2 g1)) + (geti ([1, 0, (-1), 0] : List Int) dir1))) * g1)) + (w64 ((Int.tmod r2 g1) + (geti ([0, (-1), 0, 1] : List Int) dir1))))))), .pointer (some (sAddr A2 (w64 ((w64 ((w64 ((w64 (Int.tdiv r2 g1)) + (geti ([1, 0, (-1), 0] : List Int) dir1))) * g1)) + (w64 ((Int.tmod r2 g1) + (geti ([0, (-1), 0, 1] : List Int) dir1)))))))⟩] [none, some (.slice A2 r1.2.2.length c2), none, none, some (.int .i64 g1), none, none, none, some (.pointer (some (sAddr A2 (w64 ((w64 ((w64 ((w64 (Int.tdiv r2 g1)) + (geti ([1, 0, (-1), 0] : List Int) dir1))) * g1)) + (w64 ((Int.tmod r2 g1) + (geti ([0, (-1), 0, 1] : List Int) dir1))))))))] [4, 6, 74] [pl 4 (.pointer (some ⟨g5, 0, none⟩)), pl 6 (.pointer (some ⟨g6, 0, none⟩)), pl 74 (.pointer (some (sAddr A2 (w64 ((w64 ((w64 ((w64 (Int.tdiv r2 g1)) + (geti ([1, 0, (-1), 0] : List Int) dir1))) * g1)) + (w64 ((Int.tmod r2 g1) + (geti ([0, (-1), 0, 1] : List Int) dir1))))))))] hF hS (by kernel_rfl) (by kernel_rfl) ?_ (fun a w hF hS => ?_)
          · exact obs_cons (ob_load Agg22 (fun _ _ hS => (hS.at_ 2 rfl).cell rfl)) <| obs_cons (ob_load Agg3 (fun _ _ hS => (hS.at_ 0 rfl).cell rfl)) <| obs_cons (ob_ix1 (f := (Value.int .i64)) (m := (r1.2.2.set (Int.toNat r2) (geti g3 (w64 ((w64 ((w64 ((w64 (Int.tdiv r2 g1)) + (geti ([1, 0, (-1), 0] : List Int) dir1))) * g1)) + (w64 ((Int.tmod r2 g1) + (geti ([0, (-1), 0, 1] : List Int) dir1)))))))) Und22 hi3 hs3 (hS.at_ 3 rfl).rd ((hS.at_ 3 rfl).len1) (fun _ => hp7)) <| obs_nil
          obtain ⟨w, hrun, hS⟩ := run_set1 (P := Try.prog) (t := 3) (x := 0) (Value.int .i64) (hS.at_ 3 rfl) hi3 hs3 rfl rfl hp7
          refine at_skip hF (by kernel_rfl) hrun ?_
          have hS : Sep w0 B w (blk g4 32 #[.int .i64 g1, .int .i64 g2, .slice A1 g3.length c1] :: blk g5 32 #[.int .i64 0, .int .i64 0, .slice none 0 0] :: blk g6 32 #[.int .i64 r1.1, .int .i64 r1.2.1, .slice A2 r1.2.2.length c2] :: own 3 (.slice A2 r1.2.2.length c2) (vI ((r1.2.2.set (Int.toNat r2) (geti g3 (w64 ((w64 ((w64 ((w64 (Int.tdiv r2 g1)) + (geti ([1, 0, (-1), 0] : List Int) dir1))) * g1)) + (w64 ((Int.tmod r2 g1) + (geti ([0, (-1), 0, 1] : List Int) dir1))))))).set (Int.toNat (w64 ((w64 ((w64 ((w64 (Int.tdiv r2 g1)) + (geti ([1, 0, (-1), 0] : List Int) dir1))) * g1)) + (w64 ((Int.tmod r2 g1) + (geti ([0, (-1), 0, 1] : List Int) dir1)))))) 0)) :: fs) := hS
          refine at_end [4, 6] [pl 4 (.pointer (some ⟨g5, 0, none⟩)), pl 6 (.pointer (some ⟨g6, 0, none⟩))] hF rfl (by kernel_rfl) (fun hF => ?_)
          refine then_n ?_
          refine seqR ?_
          refine at_run 1 [⟨false, [], vS (Instr.loadAt 32 (.pointer (some ⟨g6, 0, none⟩))), .agg #[.int .i64 r1.1, .int .i64 r1.2.1, .slice A2 r1.2.2.length c2]⟩] [some (.agg #[.int .i64 r1.1, .int .i64 r1.2.1, .slice A2 r1.2.2.length c2])] [4, 75] [pl 4 (.pointer (some ⟨g5, 0, none⟩)), pl 75 (.agg #[.int .i64 r1.1, .int .i64 r1.2.1, .slice A2 r1.2.2.length c2])] hF hS (by kernel_rfl) (by kernel_rfl) ?_ (fun a w hF hS => ?_)
          · exact obs_cons (ob_loadA (cs := #[.int .i64 r1.1, .int .i64 r1.2.1, .slice A2 r1.2.2.length c2]) (by kernel_rfl) (by kernel_rfl) (fun _ _ hS => (hS.at_ 2 rfl).cellsAt 0 (by rfl))) <| obs_nil
          obtain ⟨w, hrun, hS⟩ := run_putA (P := Try.prog) (t := 32) (us := #[.int .i64 r1.1, .int .i64 r1.2.1, .slice A2 r1.2.2.length c2]) (o := 0) (hS.at_ 1 rfl) (by kernel_rfl) (all_one (by kernel_rfl)) (Nat.le_of_ble_eq_true (by kernel_rfl))
          refine at_skip hF (by kernel_rfl) hrun ?_
          have hS : Sep w0 B w (blk g4 32 #[.int .i64 g1, .int .i64 g2, .slice A1 g3.length c1] :: blk g5 32 #[.int .i64 r1.1, .int .i64 r1.2.1, .slice A2 r1.2.2.length c2] :: blk g6 32 #[.int .i64 r1.1, .int .i64 r1.2.1, .slice A2 r1.2.2.length c2] :: own 3 (.slice A2 r1.2.2.length c2) (vI ((r1.2.2.set (Int.toNat r2) (geti g3 (w64 ((w64 ((w64 ((w64 (Int.tdiv r2 g1)) + (geti ([1, 0, (-1), 0] : List Int) dir1))) * g1)) + (w64 ((Int.tmod r2 g1) + (geti ([0, (-1), 0, 1] : List Int) dir1))))))).set (Int.toNat (w64 ((w64 ((w64 ((w64 (Int.tdiv r2 g1)) + (geti ([1, 0, (-1), 0] : List Int) dir1))) * g1)) + (w64 ((Int.tmod r2 g1) + (geti ([0, (-1), 0, 1] : List Int) dir1)))))) 0)) :: fs) := hS
          refine at_run 1 [] [] [4, 5] [pl 4 (.pointer (some ⟨g5, 0, none⟩)), pl 5 (.bool true)] hF hS (by kernel_rfl) (by kernel_rfl) ?_ (fun a w hF hS => ?_)
          · exact obs_nil
          refine at_end [4, 5] [pl 4 (.pointer (some ⟨g5, 0, none⟩)), pl 5 (.bool true)] hF rfl (by kernel_rfl) (fun hF => ?_)
          refine then_n ?_
          refine wpIn_ret ?_
          have hl1 := (hS.at_ 3 rfl).len1
          have hS := (hS.at_ 3 rfl).reN hl1
          have hS := (hS.at_ 1 rfl).reBlk (congrArg (fun k9 => (#[.int .i64 r1.1, .int .i64 r1.2.1, .slice A2 k9 c2] : Array Value)) hl1)
          have hS := (hS.at_ 2 rfl).reBlk (congrArg (fun k9 => (#[.int .i64 r1.1, .int .i64 r1.2.1, .slice A2 k9 c2] : Array Value)) hl1)
          have hS : Sep w0 B w (blk g4 32 #[.int .i64 g1, .int .i64 g2, .slice A1 g3.length c1] :: blk g5 32 #[.int .i64 r1.1, .int .i64 r1.2.1, .slice A2 (((r1.2.2.set (Int.toNat r2) (geti g3 (w64 ((w64 ((w64 ((w64 (Int.tdiv r2 g1)) + (geti ([1, 0, (-1), 0] : List Int) dir1))) * g1)) + (w64 ((Int.tmod r2 g1) + (geti ([0, (-1), 0, 1] : List Int) dir1))))))).set (Int.toNat (w64 ((w64 ((w64 ((w64 (Int.tdiv r2 g1)) + (geti ([1, 0, (-1), 0] : List Int) dir1))) * g1)) + (w64 ((Int.tmod r2 g1) + (geti ([0, (-1), 0, 1] : List Int) dir1)))))) 0).length) c2] :: blk g6 32 #[.int .i64 r1.1, .int .i64 r1.2.1, .slice A2 (((r1.2.2.set (Int.toNat r2) (geti g3 (w64 ((w64 ((w64 ((w64 (Int.tdiv r2 g1)) + (geti ([1, 0, (-1), 0] : List Int) dir1))) * g1)) + (w64 ((Int.tmod r2 g1) + (geti ([0, (-1), 0, 1] : List Int) dir1))))))).set (Int.toNat (w64 ((w64 ((w64 ((w64 (Int.tdiv r2 g1)) + (geti ([1, 0, (-1), 0] : List Int) dir1))) * g1)) + (w64 ((Int.tmod r2 g1) + (geti ([0, (-1), 0, 1] : List Int) dir1)))))) 0).length) c2] :: own 3 (.slice A2 (((r1.2.2.set (Int.toNat r2) (geti g3 (w64 ((w64 ((w64 ((w64 (Int.tdiv r2 g1)) + (geti ([1, 0, (-1), 0] : List Int) dir1))) * g1)) + (w64 ((Int.tmod r2 g1) + (geti ([0, (-1), 0, 1] : List Int) dir1))))))).set (Int.toNat (w64 ((w64 ((w64 ((w64 (Int.tdiv r2 g1)) + (geti ([1, 0, (-1), 0] : List Int) dir1))) * g1)) + (w64 ((Int.tmod r2 g1) + (geti ([0, (-1), 0, 1] : List Int) dir1)))))) 0).length) c2) (vI ((r1.2.2.set (Int.toNat r2) (geti g3 (w64 ((w64 ((w64 ((w64 (Int.tdiv r2 g1)) + (geti ([1, 0, (-1), 0] : List Int) dir1))) * g1)) + (w64 ((Int.tmod r2 g1) + (geti ([0, (-1), 0, 1] : List Int) dir1))))))).set (Int.toNat (w64 ((w64 ((w64 ((w64 (Int.tdiv r2 g1)) + (geti ([1, 0, (-1), 0] : List Int) dir1))) * g1)) + (w64 ((Int.tmod r2 g1) + (geti ([0, (-1), 0, 1] : List Int) dir1)))))) 0)) :: fs) := hS
          have hld0 := run_loadVarA (P := Try.prog) (t := 32) (cs := #[.int .i64 r1.1, .int .i64 r1.2.1, .slice A2 (((r1.2.2.set (Int.toNat r2) (geti g3 (w64 ((w64 ((w64 ((w64 (Int.tdiv r2 g1)) + (geti ([1, 0, (-1), 0] : List Int) dir1))) * g1)) + (w64 ((Int.tmod r2 g1) + (geti ([0, (-1), 0, 1] : List Int) dir1))))))).set (Int.toNat (w64 ((w64 ((w64 ((w64 (Int.tdiv r2 g1)) + (geti ([1, 0, (-1), 0] : List Int) dir1))) * g1)) + (w64 ((Int.tmod r2 g1) + (geti ([0, (-1), 0, 1] : List Int) dir1)))))) 0).length) c2]) (by kernel_rfl) (by kernel_rfl) ((hS.at_ 1 rfl).cellsAt 0 (by rfl))
          have hS := hS.pickN 4 [3] (by decide)
          have hm : some (r1.1, r1.2.1, ((r1.2.2.set (Int.toNat r2) (geti g3 (w64 ((w64 ((w64 ((w64 (Int.tdiv r2 g1)) + (geti ([1, 0, (-1), 0] : List Int) dir1))) * g1)) + (w64 ((Int.tmod r2 g1) + (geti ([0, (-1), 0, 1] : List Int) dir1))))))).set (Int.toNat (w64 ((w64 ((w64 ((w64 (Int.tdiv r2 g1)) + (geti ([1, 0, (-1), 0] : List Int) dir1))) * g1)) + (w64 ((Int.tmod r2 g1) + (geti ([0, (-1), 0, 1] : List Int) dir1)))))) 0), true) = some r := hm
          obtain rfl := Option.some.inj hm
          exact retV (rs := [.cell 4 32, .tmp 5]) (vs := [.agg #[.int .i64 r1.1, .int .i64 r1.2.1, .slice A2 (((r1.2.2.set (Int.toNat r2) (geti g3 (w64 ((w64 ((w64 ((w64 (Int.tdiv r2 g1)) + (geti ([1, 0, (-1), 0] : List Int) dir1))) * g1)) + (w64 ((Int.tmod r2 g1) + (geti ([0, (-1), 0, 1] : List Int) dir1))))))).set (Int.toNat (w64 ((w64 ((w64 ((w64 (Int.tdiv r2 g1)) + (geti ([1, 0, (-1), 0] : List Int) dir1))) * g1)) + (w64 ((Int.tmod r2 g1) + (geti ([0, (-1), 0, 1] : List Int) dir1)))))) 0).length) c2], .bool true]) hF rfl (rv_c (by kernel_rfl) hld0 <| rv_t (by kernel_rfl) <| rv_nil) rfl ⟨_, rfl, A2, c2, rfl, hS⟩
        · obtain ⟨r4, hr4, hm⟩ := call_b hm
          obtain ⟨r5, hr5, hm⟩ := call_b hm
          refine reg [⟨false, [], vS (Instr.loadAt 3 (.pointer (some ⟨g4, 0, none⟩))), .int .i64 g1⟩, ⟨false, [], callFunc 62 #[.int .i64 (w64 ((Int.tmod r2 g1) + (geti ([0, (-1), 0, 1] : List Int) dir1))), .int .i64 0, .int .i64 (w64 (g1 - 1))], .bool r4⟩, ⟨false, [(!r4, false)], vS (Instr.loadAt 3 (.pointer (some ⟨g4, 1, none⟩))), .int .i64 g2⟩, ⟨false, [(!r4, false)], callFunc 62 #[.int .i64 (w64 ((w64 (Int.tdiv r2 g1)) + (geti ([1, 0, (-1), 0] : List Int) dir1))), .int .i64 0, .int .i64 (w64 (g2 - 1))], .bool r5⟩] [none, none, some (.int .i64 g1), none, some (.bool r4), none, none, none, none, some (.int .i64 g2), none, some (.bool r5), none, none] [2, 4, 6, 7, 8, 9, 50] [pl 2 (.pointer (some ⟨g4, 0, none⟩)), pl 4 (.pointer (some ⟨g5, 0, none⟩)), pl 6 (.pointer (some ⟨g6, 0, none⟩)), pl 7 (.int .i64 r2), pl 8 (.int .i64 (w64 ((Int.tmod r2 g1) + (geti ([0, (-1), 0, 1] : List Int) dir1)))), pl 9 (.int .i64 (w64 ((w64 (Int.tdiv r2 g1)) + (geti ([1, 0, (-1), 0] : List Int) dir1)))), pl 50 (.bool ((!r4) || (!r5)))] hF hS Fol (by kernel_rfl) (by kernel_rfl) (by kernel_rfl) ?_ (fun a w hF hS => ?_)
          · exact obs_cons (ob_load Agg3 (fun _ _ hS => (hS.at_ 0 rfl).cell rfl)) <| obs_cons (ob_call Try.func62 (by kernel_rfl) rfl (fun _ _ hS => gameroomref_within_w hr4 hS )) <| obs_cons (ob_load Agg3 (fun _ _ hS => (hS.at_ 0 rfl).cell rfl)) <| obs_cons (ob_call Try.func62 (by kernel_rfl) rfl (fun hy _ hS => gameroomref_within_w (ite_some hr5 (by rw [show (!r4) = false from hy (!r4, false) (by simp)]; try rfl)) hS )) <| obs_nil
          refine cond_ev (t := 50) (b := (!r4) || (!r5)) hF (by kernel_rfl) (fun hb => ?_) (fun hb => ?_)
          · replace hm := if_t hm hb
            refine seqR ?_
            refine at_run 1 [⟨false, [], vS (Instr.loadAt 32 (.pointer (some ⟨g6, 0, none⟩))), .agg #[.int .i64 r1.1, .int .i64 r1.2.1, .slice A2 r1.2.2.length c2]⟩] [some (.agg #[.int .i64 r1.1, .int .i64 r1.2.1, .slice A2 r1.2.2.length c2])] [4, 51] [pl 4 (.pointer (some ⟨g5, 0, none⟩)), pl 51 (.agg #[.int .i64 r1.1, .int .i64 r1.2.1, .slice A2 r1.2.2.length c2])] hF hS (by kernel_rfl) (by kernel_rfl) ?_ (fun a w hF hS => ?_)
            · exact obs_cons (ob_loadA (cs := #[.int .i64 r1.1, .int .i64 r1.2.1, .slice A2 r1.2.2.length c2]) (by kernel_rfl) (by kernel_rfl) (fun _ _ hS => (hS.at_ 2 rfl).cellsAt 0 (by rfl))) <| obs_nil
            obtain ⟨w, hrun, hS⟩ := run_putA (P := Try.prog) (t := 32) (us := #[.int .i64 r1.1, .int .i64 r1.2.1, .slice A2 r1.2.2.length c2]) (o := 0) (hS.at_ 1 rfl) (by kernel_rfl) (all_one (by kernel_rfl)) (Nat.le_of_ble_eq_true (by kernel_rfl))
            refine at_skip hF (by kernel_rfl) hrun ?_
            have hS : Sep w0 B w (blk g4 32 #[.int .i64 g1, .int .i64 g2, .slice A1 g3.length c1] :: blk g5 32 #[.int .i64 r1.1, .int .i64 r1.2.1, .slice A2 r1.2.2.length c2] :: blk g6 32 #[.int .i64 r1.1, .int .i64 r1.2.1, .slice A2 r1.2.2.length c2] :: own 3 (.slice A2 r1.2.2.length c2) (vI r1.2.2) :: fs) := hS
            refine at_run 1 [] [] [4, 5] [pl 4 (.pointer (some ⟨g5, 0, none⟩)), pl 5 (.bool false)] hF hS (by kernel_rfl) (by kernel_rfl) ?_ (fun a w hF hS => ?_)
            · exact obs_nil
            refine at_end [4, 5] [pl 4 (.pointer (some ⟨g5, 0, none⟩)), pl 5 (.bool false)] hF rfl (by kernel_rfl) (fun hF => ?_)
            refine then_n ?_
            refine wpIn_ret ?_
            refine then_r ?_
            have hld0 := run_loadVarA (P := Try.prog) (t := 32) (cs := #[.int .i64 r1.1, .int .i64 r1.2.1, .slice A2 r1.2.2.length c2]) (by kernel_rfl) (by kernel_rfl) ((hS.at_ 1 rfl).cellsAt 0 (by rfl))
            have hS := hS.pickN 4 [3] (by decide)
            have hm : some (r1.1, r1.2.1, r1.2.2, false) = some r := hm
            obtain rfl := Option.some.inj hm
            exact retV (rs := [.cell 4 32, .tmp 5]) (vs := [.agg #[.int .i64 r1.1, .int .i64 r1.2.1, .slice A2 r1.2.2.length c2], .bool false]) hF rfl (rv_c (by kernel_rfl) hld0 <| rv_t (by kernel_rfl) <| rv_nil) rfl ⟨_, rfl, A2, c2, rfl, hS⟩
          · replace hm := if_f hm hb
            refine wpIn_skip ?_
            refine then_n ?_
            exact ⟨hF.weak [2, 4, 6, 7, 8, 9] (by kernel_rfl), hS, hm⟩
      · obtain ⟨hp3, hm⟩ := asrt_b hm
        obtain ⟨hp4, hm⟩ := asrt_b hm
        refine regMix5 [0, 1, 2, 3, 5] [] 5 #[true, true, true, true, false, true, false, false, false, false] [⟨false, [], vS (Instr.loadAt 3 (.pointer (some ⟨g4, 0, none⟩))), .int .i64 g1⟩, ⟨true, [], vS (Op.intDiv .quo .i64 r2 g1), .int .i64 (w64 (Int.tdiv r2 g1))⟩] [none, none, some (.int .i64 g1), some (.int .i64 (w64 (Int.tdiv r2 g1))), none] [2, 4, 6, 7, 8, 31, 33] [pl 2 (.pointer (some ⟨g4, 0, none⟩)), pl 4 (.pointer (some ⟨g5, 0, none⟩)), pl 6 (.pointer (some ⟨g6, 0, none⟩)), pl 7 (.int .i64 r2), pl 8 (.int .i64 (w64 ((Int.tmod r2 g1) + (geti ([0, (-1), 0, 1] : List Int) dir1)))), pl 31 (.int .i64 (w64 (Int.tdiv r2 g1))), pl 33 (.int .i64 dir1)] hF hS Fol (by kernel_rfl) (by kernel_rfl) (by kernel_rfl) (by kernel_rfl) ?_ (fun a w hF hS => ?_)
        · exact obs_cons (ob_load Agg3 (fun _ _ hS => (hS.at_ 0 rfl).cell rfl)) <| obs_cons (ob_quo rfl (fun _ => hp3)) <| obs_nil
        refine any_step [4] (by kernel_rfl) rfl ?_
        refine (all_cons ?_ all_nil)
        · refine any_op (listed' := #[true, true, true, true, true, true, false, false, false, false]) (by kernel_rfl) (by kernel_rfl) ?_
          refine at_do (d := 32) (s := vS (Instr.buildSlice 22 4 #[(0, .int .i64 1), (1, .int .i64 0), (2, .int .i64 (-1)), (3, .int .i64 0)])) (v := .slice (some ⟨w.heap.size, 0, none⟩) 4 4) (w' := w.alloc (.cells #[.int .i64 1, .int .i64 0, .int .i64 (-1), .int .i64 0] 3)) hF (by kernel_rfl) (by kernel_rfl) (by kernel_rfl) (fun a hF => ?_)
          have hS : Sep w0 B (w.alloc (.cells #[.int .i64 1, .int .i64 0, .int .i64 (-1), .int .i64 0] 3)) (own 3 (.slice (some (⟨w.heap.size, 0, none⟩ : Addr)) 4 4) (vI ([1, 0, (-1), 0] : List Int)) :: (blk g4 32 #[.int .i64 g1, .int .i64 g2, .slice A1 g3.length c1] :: blk g5 32 #[.int .i64 0, .int .i64 0, .slice none 0 0] :: blk g6 32 #[.int .i64 r1.1, .int .i64 r1.2.1, .slice A2 r1.2.2.length c2] :: own 3 (.slice A2 r1.2.2.length c2) (vI r1.2.2) :: fs)) := hS.lit 3 #[.int .i64 1, .int .i64 0, .int .i64 (-1), .int .i64 0] 4 rfl (by omega)
          generalize (some (⟨w.heap.size, 0, none⟩ : Addr)) = g8 at hF hS
          generalize w.alloc (.cells #[.int .i64 1, .int .i64 0, .int .i64 (-1), .int .i64 0] 3) = w at hS ⊢
          refine any_fin rfl (hS.pickN 5 [1, 2, 3, 4] (by decide)) ?_
          refine any_step [6] (by kernel_rfl) rfl ?_
          refine (all_cons ?_ all_nil)
          · refine any_op (listed' := #[true, true, true, true, true, true, true, false, false, false]) (by kernel_rfl) (by kernel_rfl) ?_
            refine at_runW 1 [⟨true, [], vS (Instr.indexAt 22 (.slice g8 4 4) (.int .i64 dir1)), .pointer (some (sAddr g8 dir1))⟩] [some (.pointer (some (sAddr g8 dir1)))] [2, 4, 6, 7, 8, 31, 34] [pl 2 (.pointer (some ⟨g4, 0, none⟩)), pl 4 (.pointer (some ⟨g5, 0, none⟩)), pl 6 (.pointer (some ⟨g6, 0, none⟩)), pl 7 (.int .i64 r2), pl 8 (.int .i64 (w64 ((Int.tmod r2 g1) + (geti ([0, (-1), 0, 1] : List Int) dir1)))), pl 31 (.int .i64 (w64 (Int.tdiv r2 g1))), pl 34 (.pointer (some (sAddr g8 dir1)))] hF hS (by kernel_rfl) (by kernel_rfl) ?_ (fun a hF => ?_)
            · exact obs_cons (ob_ix1 (f := (Value.int .i64)) (m := ([1, 0, (-1), 0] : List Int)) Und22 hi3 hs3 (hS.at_ 0 rfl).rd ((hS.at_ 0 rfl).len1) (fun _ => hp4)) <| obs_nil
            refine any_finI rfl (fun h => h) ?_
            refine any_step [7] (by kernel_rfl) rfl ?_
            refine (all_cons ?_ all_nil)
            · refine any_op (listed' := #[true, true, true, true, true, true, true, true, false, false]) (by kernel_rfl) (by kernel_rfl) ?_
              refine at_runW 1 [⟨false, [], vS (Instr.loadAt 3 (.pointer (some (sAddr g8 dir1)))), .int .i64 (geti ([1, 0, (-1), 0] : List Int) dir1)⟩] [some (.int .i64 (geti ([1, 0, (-1), 0] : List Int) dir1))] [2, 4, 6, 7, 8, 31, 35] [pl 2 (.pointer (some ⟨g4, 0, none⟩)), pl 4 (.pointer (some ⟨g5, 0, none⟩)), pl 6 (.pointer (some ⟨g6, 0, none⟩)), pl 7 (.int .i64 r2), pl 8 (.int .i64 (w64 ((Int.tmod r2 g1) + (geti ([0, (-1), 0, 1] : List Int) dir1)))), pl 31 (.int .i64 (w64 (Int.tdiv r2 g1))), pl 35 (.int .i64 (geti ([1, 0, (-1), 0] : List Int) dir1))] hF hS (by kernel_rfl) (by kernel_rfl) ?_ (fun a hF => ?_)
              · exact obs_cons (ob_get1 (n := 4) (m := ([1, 0, (-1), 0] : List Int)) (Value.int .i64) (0 : Int) Agg3 (fun _ hS => ⟨_, (hS.at_ 0 rfl).rd⟩) (fun _ hS => ((hS.at_ 0 rfl).len1)) (fun _ => hp4)) <| obs_nil
              refine any_finI rfl (fun h => h) ?_
              refine any_step [8] (by kernel_rfl) rfl ?_
              refine (all_cons ?_ all_nil)
              · refine any_op (listed' := #[true, true, true, true, true, true, true, true, true, false]) (by kernel_rfl) (by kernel_rfl) ?_
                refine at_runW 1 [] [] [2, 4, 6, 7, 8, 36] [pl 2 (.pointer (some ⟨g4, 0, none⟩)), pl 4 (.pointer (some ⟨g5, 0, none⟩)), pl 6 (.pointer (some ⟨g6, 0, none⟩)), pl 7 (.int .i64 r2), pl 8 (.int .i64 (w64 ((Int.tmod r2 g1) + (geti ([0, (-1), 0, 1] : List Int) dir1)))), pl 36 (.int .i64 (w64 ((w64 (Int.tdiv r2 g1)) + (geti ([1, 0, (-1), 0] : List Int) dir1))))] hF hS (by kernel_rfl) (by kernel_rfl) ?_ (fun a hF => ?_)
                · exact obs_nil
                refine any_finI rfl (fun h => h) ?_
                refine any_step [9] (by kernel_rfl) rfl ?_
                refine (all_cons ?_ all_nil)
                · refine any_op (listed' := #[true, true, true, true, true, true, true, true, true, true]) (by kernel_rfl) (by kernel_rfl) ?_
                  refine at_runW 1 [] [] [2, 4, 6, 7, 8, 9] [pl 2 (.pointer (some ⟨g4, 0, none⟩)), pl 4 (.pointer (some ⟨g5, 0, none⟩)), pl 6 (.pointer (some ⟨g6, 0, none⟩)), pl 7 (.int .i64 r2), pl 8 (.int .i64 (w64 ((Int.tmod r2 g1) + (geti ([0, (-1), 0, 1] : List Int) dir1)))), pl 9 (.int .i64 (w64 ((w64 (Int.tdiv r2 g1)) + (geti ([1, 0, (-1), 0] : List Int) dir1))))] hF hS (by kernel_rfl) (by kernel_rfl) ?_ (fun a hF => ?_)
                  · exact obs_nil
                  refine any_finI rfl (fun h => h) ?_
                  refine any_end (by kernel_rfl) ?_
                  refine np_n ?_
                  refine then_n ?_
                  have hS := hS.pickN 5 [1, 2, 3, 4] (by decide)
                  exact ⟨hF.weak [2, 4, 6, 7, 8, 9] (by kernel_rfl), hS, hm⟩
    · obtain ⟨hp1, hm⟩ := asrt_b hm
      obtain ⟨hp2, hm⟩ := asrt_b hm
      refine regMix5 [0, 1, 2, 3, 5] [] 5 #[true, true, true, true, false, true, false, false, false, false] [⟨false, [], vS (Instr.loadAt 3 (.pointer (some ⟨g4, 0, none⟩))), .int .i64 g1⟩, ⟨true, [], vS (Op.intDiv .rem .i64 r2 g1), .int .i64 (Int.tmod r2 g1)⟩] [none, none, some (.int .i64 g1), some (.int .i64 (Int.tmod r2 g1)), none] [1, 2, 4, 6, 7, 22, 24] [pl 1 (.int .i64 dir1), pl 2 (.pointer (some ⟨g4, 0, none⟩)), pl 4 (.pointer (some ⟨g5, 0, none⟩)), pl 6 (.pointer (some ⟨g6, 0, none⟩)), pl 7 (.int .i64 r2), pl 22 (.int .i64 (Int.tmod r2 g1)), pl 24 (.int .i64 dir1)] hF hS Fol (by kernel_rfl) (by kernel_rfl) (by kernel_rfl) (by kernel_rfl) ?_ (fun a w hF hS => ?_)
      · exact obs_cons (ob_load Agg3 (fun _ _ hS => (hS.at_ 0 rfl).cell rfl)) <| obs_cons (ob_rem rfl (fun _ => hp1)) <| obs_nil
      refine any_step [4] (by kernel_rfl) rfl ?_
      refine (all_cons ?_ all_nil)
      · refine any_op (listed' := #[true, true, true, true, true, true, false, false, false, false]) (by kernel_rfl) (by kernel_rfl) ?_
        refine at_do (d := 23) (s := vS (Instr.buildSlice 22 4 #[(0, .int .i64 0), (1, .int .i64 (-1)), (2, .int .i64 0), (3, .int .i64 1)])) (v := .slice (some ⟨w.heap.size, 0, none⟩) 4 4) (w' := w.alloc (.cells #[.int .i64 0, .int .i64 (-1), .int .i64 0, .int .i64 1] 3)) hF (by kernel_rfl) (by kernel_rfl) (by kernel_rfl) (fun a hF => ?_)
        have hS : Sep w0 B (w.alloc (.cells #[.int .i64 0, .int .i64 (-1), .int .i64 0, .int .i64 1] 3)) (own 3 (.slice (some (⟨w.heap.size, 0, none⟩ : Addr)) 4 4) (vI ([0, (-1), 0, 1] : List Int)) :: (blk g4 32 #[.int .i64 g1, .int .i64 g2, .slice A1 g3.length c1] :: blk g5 32 #[.int .i64 0, .int .i64 0, .slice none 0 0] :: blk g6 32 #[.int .i64 r1.1, .int .i64 r1.2.1, .slice A2 r1.2.2.length c2] :: own 3 (.slice A2 r1.2.2.length c2) (vI r1.2.2) :: fs)) := hS.lit 3 #[.int .i64 0, .int .i64 (-1), .int .i64 0, .int .i64 1] 4 rfl (by omega)
        generalize (some (⟨w.heap.size, 0, none⟩ : Addr)) = g7 at hF hS
        generalize w.alloc (.cells #[.int .i64 0, .int .i64 (-1), .int .i64 0, .int .i64 1] 3) = w at hS ⊢
        refine any_fin rfl (hS.pickN 5 [1, 2, 3, 4] (by decide)) ?_
        refine any_step [6] (by kernel_rfl) rfl ?_
        refine (all_cons ?_ all_nil)
        · refine any_op (listed' := #[true, true, true, true, true, true, true, false, false, false]) (by kernel_rfl) (by kernel_rfl) ?_
          refine at_runW 1 [⟨true, [], vS (Instr.indexAt 22 (.slice g7 4 4) (.int .i64 dir1)), .pointer (some (sAddr g7 dir1))⟩] [some (.pointer (some (sAddr g7 dir1)))] [1, 2, 4, 6, 7, 22, 25] [pl 1 (.int .i64 dir1), pl 2 (.pointer (some ⟨g4, 0, none⟩)), pl 4 (.pointer (some ⟨g5, 0, none⟩)), pl 6 (.pointer (some ⟨g6, 0, none⟩)), pl 7 (.int .i64 r2), pl 22 (.int .i64 (Int.tmod r2 g1)), pl 25 (.pointer (some (sAddr g7 dir1)))] hF hS (by kernel_rfl) (by kernel_rfl) ?_ (fun a hF => ?_)
          · exact obs_cons (ob_ix1 (f := (Value.int .i64)) (m := ([0, (-1), 0, 1] : List Int)) Und22 hi3 hs3 (hS.at_ 0 rfl).rd ((hS.at_ 0 rfl).len1) (fun _ => hp2)) <| obs_nil
          refine any_finI rfl (fun h => h) ?_
          refine any_step [7] (by kernel_rfl) rfl ?_
          refine (all_cons ?_ all_nil)
          · refine any_op (listed' := #[true, true, true, true, true, true, true, true, false, false]) (by kernel_rfl) (by kernel_rfl) ?_
            refine at_runW 1 [⟨false, [], vS (Instr.loadAt 3 (.pointer (some (sAddr g7 dir1)))), .int .i64 (geti ([0, (-1), 0, 1] : List Int) dir1)⟩] [some (.int .i64 (geti ([0, (-1), 0, 1] : List Int) dir1))] [1, 2, 4, 6, 7, 22, 26] [pl 1 (.int .i64 dir1), pl 2 (.pointer (some ⟨g4, 0, none⟩)), pl 4 (.pointer (some ⟨g5, 0, none⟩)), pl 6 (.pointer (some ⟨g6, 0, none⟩)), pl 7 (.int .i64 r2), pl 22 (.int .i64 (Int.tmod r2 g1)), pl 26 (.int .i64 (geti ([0, (-1), 0, 1] : List Int) dir1))] hF hS (by kernel_rfl) (by kernel_rfl) ?_ (fun a hF => ?_)
            · exact obs_cons (ob_get1 (n := 4) (m := ([0, (-1), 0, 1] : List Int)) (Value.int .i64) (0 : Int) Agg3 (fun _ hS => ⟨_, (hS.at_ 0 rfl).rd⟩) (fun _ hS => ((hS.at_ 0 rfl).len1)) (fun _ => hp2)) <| obs_nil
            refine any_finI rfl (fun h => h) ?_
            refine any_step [8] (by kernel_rfl) rfl ?_
            refine (all_cons ?_ all_nil)
            · refine any_op (listed' := #[true, true, true, true, true, true, true, true, true, false]) (by kernel_rfl) (by kernel_rfl) ?_
              refine at_runW 1 [] [] [1, 2, 4, 6, 7, 27] [pl 1 (.int .i64 dir1), pl 2 (.pointer (some ⟨g4, 0, none⟩)), pl 4 (.pointer (some ⟨g5, 0, none⟩)), pl 6 (.pointer (some ⟨g6, 0, none⟩)), pl 7 (.int .i64 r2), pl 27 (.int .i64 (w64 ((Int.tmod r2 g1) + (geti ([0, (-1), 0, 1] : List Int) dir1))))] hF hS (by kernel_rfl) (by kernel_rfl) ?_ (fun a hF => ?_)
              · exact obs_nil
              refine any_finI rfl (fun h => h) ?_
              refine any_step [9] (by kernel_rfl) rfl ?_
              refine (all_cons ?_ all_nil)
              · refine any_op (listed' := #[true, true, true, true, true, true, true, true, true, true]) (by kernel_rfl) (by kernel_rfl) ?_
                refine at_runW 1 [] [] [1, 2, 4, 6, 7, 8] [pl 1 (.int .i64 dir1), pl 2 (.pointer (some ⟨g4, 0, none⟩)), pl 4 (.pointer (some ⟨g5, 0, none⟩)), pl 6 (.pointer (some ⟨g6, 0, none⟩)), pl 7 (.int .i64 r2), pl 8 (.int .i64 (w64 ((Int.tmod r2 g1) + (geti ([0, (-1), 0, 1] : List Int) dir1))))] hF hS (by kernel_rfl) (by kernel_rfl) ?_ (fun a hF => ?_)
                · exact obs_nil
                refine any_finI rfl (fun h => h) ?_
                refine any_end (by kernel_rfl) ?_
                refine np_n ?_
                refine then_n ?_
                have hS := hS.pickN 5 [1, 2, 3, 4] (by decide)
                exact ⟨hF.weak [1, 2, 4, 6, 7, 8] (by kernel_rfl), hS, hm⟩
  · obtain ⟨r3, hr3, hm⟩ := call_b hm
    refine reg [⟨false, [], callFunc 62 #[.int .i64 dir1, .int .i64 0, .int .i64 3], .bool r3⟩] [none, some (.bool r3), none] [1, 2, 4, 6, 7, 17] [pl 1 (.int .i64 dir1), pl 2 (.pointer (some ⟨g4, 0, none⟩)), pl 4 (.pointer (some ⟨g5, 0, none⟩)), pl 6 (.pointer (some ⟨g6, 0, none⟩)), pl 7 (.int .i64 r2), pl 17 (.bool (!r3))] hF hS Fol (by kernel_rfl) (by kernel_rfl) (by kernel_rfl) ?_ (fun a w hF hS => ?_)
    · exact obs_cons (ob_call Try.func62 (by kernel_rfl) rfl (fun _ _ hS => gameroomref_within_w hr3 hS )) <| obs_nil
    refine cond_ev (t := 17) (b := !r3) hF (by kernel_rfl) (fun hb => ?_) (fun hb => ?_)
    · replace hm := if_t hm hb
      refine seqR ?_
      refine at_run 1 [⟨false, [], vS (Instr.loadAt 32 (.pointer (some ⟨g6, 0, none⟩))), .agg #[.int .i64 r1.1, .int .i64 r1.2.1, .slice A2 r1.2.2.length c2]⟩] [some (.agg #[.int .i64 r1.1, .int .i64 r1.2.1, .slice A2 r1.2.2.length c2])] [4, 18] [pl 4 (.pointer (some ⟨g5, 0, none⟩)), pl 18 (.agg #[.int .i64 r1.1, .int .i64 r1.2.1, .slice A2 r1.2.2.length c2])] hF hS (by kernel_rfl) (by kernel_rfl) ?_ (fun a w hF hS => ?_)
      · exact obs_cons (ob_loadA (cs := #[.int .i64 r1.1, .int .i64 r1.2.1, .slice A2 r1.2.2.length c2]) (by kernel_rfl) (by kernel_rfl) (fun _ _ hS => (hS.at_ 0 rfl).cellsAt 0 (by rfl))) <| obs_nil
      obtain ⟨w, hrun, hS⟩ := run_putA (P := Try.prog) (t := 32) (us := #[.int .i64 r1.1, .int .i64 r1.2.1, .slice A2 r1.2.2.length c2]) (o := 0) (hS.at_ 2 rfl) (by kernel_rfl) (all_one (by kernel_rfl)) (Nat.le_of_ble_eq_true (by kernel_rfl))
      refine at_skip hF (by kernel_rfl) hrun ?_
      have hS : Sep w0 B w (blk g6 32 #[.int .i64 r1.1, .int .i64 r1.2.1, .slice A2 r1.2.2.length c2] :: own 3 (.slice A2 r1.2.2.length c2) (vI r1.2.2) :: blk g5 32 #[.int .i64 r1.1, .int .i64 r1.2.1, .slice A2 r1.2.2.length c2] :: blk g4 32 #[.int .i64 g1, .int .i64 g2, .slice A1 g3.length c1] :: fs) := hS
      refine at_run 1 [] [] [4, 5] [pl 4 (.pointer (some ⟨g5, 0, none⟩)), pl 5 (.bool false)] hF hS (by kernel_rfl) (by kernel_rfl) ?_ (fun a w hF hS => ?_)
      · exact obs_nil
      refine at_end [4, 5] [pl 4 (.pointer (some ⟨g5, 0, none⟩)), pl 5 (.bool false)] hF rfl (by kernel_rfl) (fun hF => ?_)
      refine then_n ?_
      refine wpIn_ret ?_
      refine then_r ?_
      have hld0 := run_loadVarA (P := Try.prog) (t := 32) (cs := #[.int .i64 r1.1, .int .i64 r1.2.1, .slice A2 r1.2.2.length c2]) (by kernel_rfl) (by kernel_rfl) ((hS.at_ 2 rfl).cellsAt 0 (by rfl))
      have hS := hS.pickN 4 [1] (by decide)
      have hm : some (r1.1, r1.2.1, r1.2.2, false) = some r := hm
      obtain rfl := Option.some.inj hm
      exact retV (rs := [.cell 4 32, .tmp 5]) (vs := [.agg #[.int .i64 r1.1, .int .i64 r1.2.1, .slice A2 r1.2.2.length c2], .bool false]) hF rfl (rv_c (by kernel_rfl) hld0 <| rv_t (by kernel_rfl) <| rv_nil) rfl ⟨_, rfl, A2, c2, rfl, hS⟩
    · replace hm := if_f hm hb
      refine wpIn_skip ?_
      refine then_n ?_
      have hS := hS.pickN 4 [3, 2, 0, 1] (by decide)
      exact ⟨hF.weak [1, 2, 4, 6, 7] (by kernel_rfl), hS, hm⟩

noncomputable def gameroomref_SlideFar_J5  (dir1 : Int) (all5 : List (Int × Int × List Int)) (far5 : List Int) (seen4 : List Bool) : Option (St (List (Int × Int × List Int) × List Int × List Bool × Int) (List (Int × Int × List Int) × List Int × List Bool)) :=
  some (.next (all5, far5, seen4, (w64 (dir1 + 1))))

noncomputable def gameroomref_SlideFar_J6  (r2 : Int) (i1 : Int) (all3 : List (Int × Int × List Int)) (far3 : List Int) (seen2 : List Bool) (dir1 : Int) (r4 : (Int × Int × List Int × Bool)) : Option (St (List (Int × Int × List Int) × List Int × List Bool × Int) (List (Int × Int × List Int) × List Int × List Bool)) :=
  (gameroomref_NumberOf_m r4.2.2.1).bind fun r6 => asrt (0 ≤ r6 ∧ r6 < (((Int.toNat r2) : Nat) : Int)) <| asrt ((all3.length : Int) + 1 ≤ bigK) <| asrt (0 ≤ i1 ∧ i1 < (far3.length : Int)) <| asrt ((far3.length : Int) + 1 ≤ bigN) <| (gameroomref_SlideFar_J5 dir1) (all3 ++ ([(r4.1, r4.2.1, r4.2.2.1)] : List (Int × Int × List Int))) (far3 ++ ([w64 ((geti far3 i1) + 1)] : List Int)) (seen2.set (Int.toNat r6) true)

noncomputable def gameroomref_SlideFar_J4  (r2 : Int) (i1 : Int) (all3 : List (Int × Int × List Int)) (far3 : List Int) (seen2 : List Bool) (dir1 : Int) : Option (St (List (Int × Int × List Int) × List Int × List Bool × Int) (List (Int × Int × List Int) × List Int × List Bool)) :=
  asrt (0 ≤ i1 ∧ i1 < (all3.length : Int)) <| (gameroomref_SlideMove_m ((getd zP32 all3 i1).1) ((getd zP32 all3 i1).2.1) ((getd zP32 all3 i1).2.2) dir1).bind fun r4 => ((if (!(!r4.2.2.2)) then gameroomref_NumberOf_m r4.2.2.1 else some 0)).bind fun r5 => asrt ((!r4.2.2.2) = false → 0 ≤ r5 ∧ r5 < (((Int.toNat r2) : Nat) : Int)) <| if ((!r4.2.2.2) || (getb seen2 r5)) then ((gameroomref_SlideFar_J5 dir1) all3 far3 seen2) else ((gameroomref_SlideFar_J6 r2 i1 all3 far3 seen2 dir1 r4))

noncomputable def gameroomref_SlideFar_J3  (i1 : Int) (all4 : List (Int × Int × List Int)) (far4 : List Int) (seen3 : List Bool) : Option (St (List (Int × Int × List Int) × List Int × List Bool × Int) (List (Int × Int × List Int) × List Int)) :=
  some (.next (all4, far4, seen3, (w64 (i1 + 1))))

noncomputable def gameroomref_SlideFar_K2  (i1 : Int) : (List (Int × Int × List Int) × List Int × List Bool) → Option (St (List (Int × Int × List Int) × List Int × List Bool × Int) (List (Int × Int × List Int) × List Int)) :=
  fun (x : (List (Int × Int × List Int) × List Int × List Bool)) => match x with | (all4, far4, seen3) => (gameroomref_SlideFar_J3 i1) all4 far4 seen3

noncomputable def gameroomref_SlideFar_L2  (r2 : Int) (i1 : Int) : (List (Int × Int × List Int) × List Int × List Bool × Int) → Option (St (List (Int × Int × List Int) × List Int × List Bool × Int) (List (Int × Int × List Int) × List Int × List Bool)) :=
  fun (x : (List (Int × Int × List Int) × List Int × List Bool × Int)) => match x with | (all3, far3, seen2, dir1) => if (decide (dir1 < 4)) then ((gameroomref_SlideFar_J4 r2 i1 all3 far3 seen2 dir1)) else (some (.done (all3, far3, seen2)))

noncomputable def gameroomref_SlideFar_J2  (r2 : Int) (all1 : List (Int × Int × List Int)) (far1 : List Int) (seen1 : List Bool) (i1 : Int) : Option (St (List (Int × Int × List Int) × List Int × List Bool × Int) (List (Int × Int × List Int) × List Int)) :=
  (loop (gameroomref_SlideFar_L2 r2 i1) (all1, far1, seen1, 0)).bind (gameroomref_SlideFar_K2 i1)

noncomputable def gameroomref_SlideFar_J1  (all2 : List (Int × Int × List Int)) (far2 : List Int) : Option (List (Int × Int × List Int) × List Int) :=
  some (all2, far2)

noncomputable def gameroomref_SlideFar_K1  : (List (Int × Int × List Int) × List Int) → Option (List (Int × Int × List Int) × List Int) :=
  fun (x : (List (Int × Int × List Int) × List Int)) => match x with | (all2, far2) => gameroomref_SlideFar_J1 all2 far2

noncomputable def gameroomref_SlideFar_L1  (r2 : Int) : (List (Int × Int × List Int) × List Int × List Bool × Int) → Option (St (List (Int × Int × List Int) × List Int × List Bool × Int) (List (Int × Int × List Int) × List Int)) :=
  fun (x : (List (Int × Int × List Int) × List Int × List Bool × Int)) => match x with | (all1, far1, seen1, i1) => if (decide (i1 < (all1.length : Int))) then ((gameroomref_SlideFar_J2 r2 all1 far1 seen1 i1)) else (some (.done (all1, far1)))
end Go.Proofs.Ytkpkkdpfcbnfdaa
