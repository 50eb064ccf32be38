/-
  Models and walks, printed by our own program (wip/gen).
-/
import Derived.Test.YtlpaklmfgldkoaaFB
import Derived.Test.YtlpaklmfgldkoaaLibG
import Derived.Test.YtlpaklmfgldkoaaNMGa
namespace Go.Proofs.Ytlpaklmfgldkoaa
open Go Go.GL Go.RowKit

noncomputable def magic_Count_2_m (at1 : Int) (used1 : Int) (p21 : Int) (p31 : List Int) (p41 : Int) (p51 : List Int) : Option (List Int × Int) :=
  recM fun n => magic_Count_2_mF n at1 used1 p21 p31 p41 p51

set_option maxRecDepth 100000 in
set_option maxHeartbeats 4000000 in
theorem magic_Count_2_wB {rec_magic_Count_2 : Int → Int → Int → List Int → Int → List Int → Option (List Int × Int)} (ih_magic_Count_2 : ∀ {at1 : Int} {used1 : Int} {g1 : Nat} {p21 : Int} {g2 : Nat} {A1 : Option Addr} {c1 : Nat} {n1 : Nat} {p31 : List Int} {g3 : Nat} {p41 : Int} {g4 : Nat} {A2 : Option Addr} {c2 : Nat} {n2 : Nat} {p51 : List Int} {g5 : Nat} {r : (List Int × Int)} {w0 w : World} {B : Nat} {fs : List HP} (_ : rec_magic_Count_2 at1 used1 p21 p31 p41 p51 = some r) (_ : Sep w0 B w (blk g1 3 #[.int .i64 p21] :: blk g2 34 #[.slice A1 n1 c1] :: own 3 (.slice A1 n1 c1) (vI p31) :: blk g3 3 #[.int .i64 p41] :: blk g4 34 #[.slice A2 n2 c2] :: blk g5 135 #[.func (.func 98) #[] #[.pointer (some ⟨g1, 0, none⟩), .pointer (some ⟨g2, 0, none⟩), .pointer (some ⟨g3, 0, none⟩), .pointer (some ⟨g4, 0, none⟩), .pointer (some ⟨g5, 0, none⟩)]] :: fs)) (_hr_p51 : RdF w0 B fs A2 (vI p51)) (_hc_p51 : p51.length ≤ c2) (_hn_p51 : n2 = p51.length), Calls Try.prog 98 #[.int .i64 at1, .int .u64 used1, .pointer (some ⟨g1, 0, none⟩), .pointer (some ⟨g2, 0, none⟩), .pointer (some ⟨g3, 0, none⟩), .pointer (some ⟨g4, 0, none⟩), .pointer (some ⟨g5, 0, none⟩)] w fun e w' => ∃ v, e = .returned v ∧ v = .tuple #[] ∧ Sep w0 B w' (blk g1 3 #[.int .i64 p21] :: blk g2 34 #[.slice A1 n1 c1] :: own 3 (.slice A1 n1 c1) (vI r.1) :: blk g3 3 #[.int .i64 r.2] :: blk g4 34 #[.slice A2 n2 c2] :: blk g5 135 #[.func (.func 98) #[] #[.pointer (some ⟨g1, 0, none⟩), .pointer (some ⟨g2, 0, none⟩), .pointer (some ⟨g3, 0, none⟩), .pointer (some ⟨g4, 0, none⟩), .pointer (some ⟨g5, 0, none⟩)]] :: fs)) {at1 : Int} {used1 : Int} {g1 : Nat} {p21 : Int} {g2 : Nat} {A1 : Option Addr} {c1 : Nat} {n1 : Nat} {p31 : List Int} {g3 : Nat} {p41 : Int} {g4 : Nat} {A2 : Option Addr} {c2 : Nat} {n2 : Nat} {p51 : List Int} {g5 : Nat} {r : (List Int × Int)} {w0 w : World} {B : Nat} {fs : List HP} (hm : magic_Count_2_B rec_magic_Count_2 at1 used1 p21 p31 p41 p51 = some r) (hS : Sep w0 B w (blk g1 3 #[.int .i64 p21] :: blk g2 34 #[.slice A1 n1 c1] :: own 3 (.slice A1 n1 c1) (vI p31) :: blk g3 3 #[.int .i64 p41] :: blk g4 34 #[.slice A2 n2 c2] :: blk g5 135 #[.func (.func 98) #[] #[.pointer (some ⟨g1, 0, none⟩), .pointer (some ⟨g2, 0, none⟩), .pointer (some ⟨g3, 0, none⟩), .pointer (some ⟨g4, 0, none⟩), .pointer (some ⟨g5, 0, none⟩)]] :: fs)) (hr_p51 : RdF w0 B fs A2 (vI p51)) (_hc_p51 : p51.length ≤ c2) (_hn_p51 : n2 = p51.length) :
    Calls Try.prog 98 #[.int .i64 at1, .int .u64 used1, .pointer (some ⟨g1, 0, none⟩), .pointer (some ⟨g2, 0, none⟩), .pointer (some ⟨g3, 0, none⟩), .pointer (some ⟨g4, 0, none⟩), .pointer (some ⟨g5, 0, none⟩)] w fun e w' => ∃ v, e = .returned v ∧ v = .tuple #[] ∧ Sep w0 B w' (blk g1 3 #[.int .i64 p21] :: blk g2 34 #[.slice A1 n1 c1] :: own 3 (.slice A1 n1 c1) (vI r.1) :: blk g3 3 #[.int .i64 r.2] :: blk g4 34 #[.slice A2 n2 c2] :: blk g5 135 #[.func (.func 98) #[] #[.pointer (some ⟨g1, 0, none⟩), .pointer (some ⟨g2, 0, none⟩), .pointer (some ⟨g3, 0, none⟩), .pointer (some ⟨g4, 0, none⟩), .pointer (some ⟨g5, 0, none⟩)]] :: fs) := by
  obtain ⟨i3, hi3, hz3, hs3, hb3⟩ := info_parts Info3
  obtain rfl := (hS.at_ 2 rfl).len1
  obtain rfl := _hn_p51
  unfold magic_Count_2_B at hm
  replace hm := start_b hm
  refine enter (l := [.int .i64 at1, .int .u64 used1, .pointer (some ⟨g1, 0, none⟩), .pointer (some ⟨g2, 0, none⟩), .pointer (some ⟨g3, 0, none⟩), .pointer (some ⟨g4, 0, none⟩), .pointer (some ⟨g5, 0, none⟩)]) (n := 92) Try.func98 rfl rfl (by simp) (fun a hF => ?_)
  refine end_cut (fun a w => ∃ (p33 : List Int) (p44 : Int), Fr 92 [] a ∧ Sep w0 B w (blk g1 3 #[.int .i64 p21] :: blk g2 34 #[.slice A1 p31.length c1] :: own 3 (.slice A1 p31.length c1) (vI p33) :: blk g3 3 #[.int .i64 p44] :: blk g4 34 #[.slice A2 p51.length c2] :: blk g5 135 #[.func (.func 98) #[] #[.pointer (some ⟨g1, 0, none⟩), .pointer (some ⟨g2, 0, none⟩), .pointer (some ⟨g3, 0, none⟩), .pointer (some ⟨g4, 0, none⟩), .pointer (some ⟨g5, 0, none⟩)]] :: fs) ∧ (magic_Count_2_J1 p33 p44).bind some = some r) ?_ ?_
  · rintro a w ⟨p33, p44, hF, hS, hm⟩
    unfold magic_Count_2_J1 at hm
    have hm : some (p33, p44) = some r := hm
    obtain rfl := Option.some.inj hm
    exact endV (rs := []) (vs := []) hF rfl (rv_nil) rfl ⟨_, rfl, rfl, hS⟩ rfl
  · refine seq_cut (fun a w => Fr 92 [pl 0 (.int .i64 at1), pl 1 (.int .u64 used1), pl 2 (.pointer (some ⟨g1, 0, none⟩)), pl 3 (.pointer (some ⟨g2, 0, none⟩)), pl 5 (.pointer (some ⟨g4, 0, none⟩)), pl 6 (.pointer (some ⟨g5, 0, none⟩))] a ∧ Sep w0 B w (blk g1 3 #[.int .i64 p21] :: blk g2 34 #[.slice A1 p31.length c1] :: own 3 (.slice A1 p31.length c1) (vI p31) :: blk g4 34 #[.slice A2 p51.length c2] :: blk g5 135 #[.func (.func 98) #[] #[.pointer (some ⟨g1, 0, none⟩), .pointer (some ⟨g2, 0, none⟩), .pointer (some ⟨g3, 0, none⟩), .pointer (some ⟨g4, 0, none⟩), .pointer (some ⟨g5, 0, none⟩)]] :: blk g3 3 #[.int .i64 p41] :: fs) ∧ ((magic_Count_2_J2 rec_magic_Count_2 at1 used1 p21 p31 p41 p51)).bind some = some r) ?_ ?_
    · rintro a w ⟨hF, hS, hm⟩
      unfold magic_Count_2_J2 at hm
      refine reg [] [] [0, 1, 2, 3, 5, 6, 11] [pl 0 (.int .i64 at1), pl 1 (.int .u64 used1), pl 2 (.pointer (some ⟨g1, 0, none⟩)), pl 3 (.pointer (some ⟨g2, 0, none⟩)), pl 5 (.pointer (some ⟨g4, 0, none⟩)), pl 6 (.pointer (some ⟨g5, 0, none⟩)), pl 11 (.int .i64 1)] hF hS Fol (by kernel_rfl) (by kernel_rfl) (by kernel_rfl) ?_ (fun a w hF hS => ?_)
      · exact obs_nil
      refine wpIn_block ?_
      refine wp_loop_model (S := (List Int × Int × Int)) (R := (List Int × Int)) (magic_Count_2_L1 rec_magic_Count_2 at1 used1 p21 p31 p51) (fun x => (magic_Count_2_K1 x).bind some) r (fun (x : (List Int × Int × Int)) a w => Fr 92 [pl 0 (.int .i64 at1), pl 1 (.int .u64 used1), pl 2 (.pointer (some ⟨g1, 0, none⟩)), pl 3 (.pointer (some ⟨g2, 0, none⟩)), pl 5 (.pointer (some ⟨g4, 0, none⟩)), pl 6 (.pointer (some ⟨g5, 0, none⟩)), pl 11 (.int .i64 x.2.2)] a ∧ Sep w0 B w (blk g1 3 #[.int .i64 p21] :: blk g2 34 #[.slice A1 p31.length c1] :: own 3 (.slice A1 p31.length c1) (vI x.1) :: blk g4 34 #[.slice A2 p51.length c2] :: blk g5 135 #[.func (.func 98) #[] #[.pointer (some ⟨g1, 0, none⟩), .pointer (some ⟨g2, 0, none⟩), .pointer (some ⟨g3, 0, none⟩), .pointer (some ⟨g4, 0, none⟩), .pointer (some ⟨g5, 0, none⟩)]] :: blk g3 3 #[.int .i64 x.2.1] :: fs)) (assoc_b hm) ⟨hF.weak [0, 1, 2, 3, 5, 6, 11] (by kernel_rfl), hS⟩ ?_
      clear hF hS hm
      rintro nn1 ⟨z1, z2, v1⟩ a w ⟨hF, hS⟩ hm
      generalize hφ1 : stK (magic_Count_2_L1 rec_magic_Count_2 at1 used1 p21 p31 p51) nn1 (fun x => (magic_Count_2_K1 x).bind some) = φ1 at hm
      unfold magic_Count_2_L1 at hm
      dsimp only at hF hS hm
      refine seq_cut (fun a w => Fr 92 [pl 0 (.int .i64 at1), pl 1 (.int .u64 used1), pl 2 (.pointer (some ⟨g1, 0, none⟩)), pl 3 (.pointer (some ⟨g2, 0, none⟩)), pl 5 (.pointer (some ⟨g4, 0, none⟩)), pl 6 (.pointer (some ⟨g5, 0, none⟩)), pl 11 (.int .i64 v1)] a ∧ Sep w0 B w (blk g1 3 #[.int .i64 p21] :: blk g2 34 #[.slice A1 p31.length c1] :: own 3 (.slice A1 p31.length c1) (vI z1) :: blk g4 34 #[.slice A2 p51.length c2] :: blk g5 135 #[.func (.func 98) #[] #[.pointer (some ⟨g1, 0, none⟩), .pointer (some ⟨g2, 0, none⟩), .pointer (some ⟨g3, 0, none⟩), .pointer (some ⟨g4, 0, none⟩), .pointer (some ⟨g5, 0, none⟩)]] :: blk g3 3 #[.int .i64 z2] :: fs) ∧ ((magic_Count_2_J4 rec_magic_Count_2 at1 used1 p21 p31 p51 z1 z2 v1)).bind φ1 = some r) ?_ ?_
      · rintro a w ⟨hF, hS, hm⟩
        unfold magic_Count_2_J4 at hm
        refine seq_cut (fun a w => ∃ (z3 : List Int) (z4 : Int), Fr 92 [pl 0 (.int .i64 at1), pl 1 (.int .u64 used1), pl 2 (.pointer (some ⟨g1, 0, none⟩)), pl 3 (.pointer (some ⟨g2, 0, none⟩)), pl 5 (.pointer (some ⟨g4, 0, none⟩)), pl 6 (.pointer (some ⟨g5, 0, none⟩)), pl 11 (.int .i64 v1)] a ∧ Sep w0 B w (blk g1 3 #[.int .i64 p21] :: blk g2 34 #[.slice A1 p31.length c1] :: own 3 (.slice A1 p31.length c1) (vI z3) :: blk g4 34 #[.slice A2 p51.length c2] :: blk g5 135 #[.func (.func 98) #[] #[.pointer (some ⟨g1, 0, none⟩), .pointer (some ⟨g2, 0, none⟩), .pointer (some ⟨g3, 0, none⟩), .pointer (some ⟨g4, 0, none⟩), .pointer (some ⟨g5, 0, none⟩)]] :: blk g3 3 #[.int .i64 z4] :: fs) ∧ ((magic_Count_2_J5 v1) z3 z4).bind φ1 = some r) ?_ ?_
        · rintro a w ⟨z3, z4, hF, hS, hm⟩
          unfold magic_Count_2_J5 at hm
          refine reg1 [] [] [0, 1, 2, 3, 5, 6, 11] [pl 0 (.int .i64 at1), pl 1 (.int .u64 used1), pl 2 (.pointer (some ⟨g1, 0, none⟩)), pl 3 (.pointer (some ⟨g2, 0, none⟩)), pl 5 (.pointer (some ⟨g4, 0, none⟩)), pl 6 (.pointer (some ⟨g5, 0, none⟩)), pl 11 (.int .i64 (w64 (v1 + 1)))] hF hS Fol (by kernel_rfl) (by kernel_rfl) (by kernel_rfl) ?_ (fun a w hF hS => ?_)
          · exact obs_nil
          refine then_n ?_
          rw [← hφ1] at hm
          exact ⟨(z3, z4, (w64 (v1 + 1))), ⟨hF.weak [0, 1, 2, 3, 5, 6, 11] (by kernel_rfl), hS⟩, hm⟩
        · refine wpIn_block ?_
          refine seq_cut (fun a w => Fr 92 [pl 0 (.int .i64 at1), pl 1 (.int .u64 used1), pl 2 (.pointer (some ⟨g1, 0, none⟩)), pl 3 (.pointer (some ⟨g2, 0, none⟩)), pl 5 (.pointer (some ⟨g4, 0, none⟩)), pl 6 (.pointer (some ⟨g5, 0, none⟩)), pl 11 (.int .i64 v1)] a ∧ Sep w0 B w (blk g1 3 #[.int .i64 p21] :: blk g2 34 #[.slice A1 p31.length c1] :: own 3 (.slice A1 p31.length c1) (vI z1) :: blk g4 34 #[.slice A2 p51.length c2] :: blk g5 135 #[.func (.func 98) #[] #[.pointer (some ⟨g1, 0, none⟩), .pointer (some ⟨g2, 0, none⟩), .pointer (some ⟨g3, 0, none⟩), .pointer (some ⟨g4, 0, none⟩), .pointer (some ⟨g5, 0, none⟩)]] :: blk g3 3 #[.int .i64 z2] :: fs) ∧ ((magic_Count_2_J6 rec_magic_Count_2 at1 used1 p21 p31 p51 z1 z2 v1)).bind φ1 = some r) ?_ ?_
          · rintro a w ⟨hF, hS, hm⟩
            unfold magic_Count_2_J6 at hm
            refine seqR ?_
            obtain ⟨hp4, hm⟩ := asrt_b hm
            refine at_run 4 [⟨false, [], vS (Instr.loadAt 34 (.pointer (some ⟨g2, 0, none⟩))), .slice A1 p31.length c1⟩, ⟨true, [], vS (Instr.indexAt 34 (.slice A1 p31.length c1) (.int .i64 at1)), .pointer (some (sAddr A1 at1))⟩] [some (.slice A1 p31.length c1), none, none, some (.pointer (some (sAddr A1 at1)))] [0, 1, 2, 3, 5, 6, 11, 57, 58] [pl 0 (.int .i64 at1), pl 1 (.int .u64 used1), pl 2 (.pointer (some ⟨g1, 0, none⟩)), pl 3 (.pointer (some ⟨g2, 0, none⟩)), pl 5 (.pointer (some ⟨g4, 0, none⟩)), pl 6 (.pointer (some ⟨g5, 0, none⟩)), pl 11 (.int .i64 v1), pl 57 (.int .i64 v1), pl 58 (.pointer (some (sAddr A1 at1)))] hF hS (by kernel_rfl) (by kernel_rfl) ?_ (fun a w hF hS => ?_)
            · exact obs_cons (ob_load Agg34 (fun _ _ hS => (hS.at_ 1 rfl).cell rfl)) <| obs_cons (ob_ix1 (f := (Value.int .i64)) (m := z1) Und34 hi3 hs3 (hS.at_ 2 rfl).rd ((hS.at_ 2 rfl).len1) (fun _ => hp4)) <| obs_nil
            obtain ⟨w, hrun, hS⟩ := run_set1 (P := Try.prog) (t := 3) (x := v1) (Value.int .i64) (hS.at_ 2 rfl) hi3 hs3 rfl rfl hp4
            refine at_skip hF (by kernel_rfl) hrun ?_
            have hS : Sep w0 B w (blk g1 3 #[.int .i64 p21] :: blk g2 34 #[.slice A1 p31.length c1] :: own 3 (.slice A1 p31.length c1) (vI (z1.set (Int.toNat at1) v1)) :: blk g4 34 #[.slice A2 p51.length c2] :: blk g5 135 #[.func (.func 98) #[] #[.pointer (some ⟨g1, 0, none⟩), .pointer (some ⟨g2, 0, none⟩), .pointer (some ⟨g3, 0, none⟩), .pointer (some ⟨g4, 0, none⟩), .pointer (some ⟨g5, 0, none⟩)]] :: blk g3 3 #[.int .i64 z2] :: fs) := hS
            refine at_end [0, 1, 2, 3, 5, 6, 11] [pl 0 (.int .i64 at1), pl 1 (.int .u64 used1), pl 2 (.pointer (some ⟨g1, 0, none⟩)), pl 3 (.pointer (some ⟨g2, 0, none⟩)), pl 5 (.pointer (some ⟨g4, 0, none⟩)), pl 6 (.pointer (some ⟨g5, 0, none⟩)), pl 11 (.int .i64 v1)] hF rfl (by kernel_rfl) (fun hF => ?_)
            refine then_n ?_
            refine seq_cut (fun a w => Fr 92 [pl 0 (.int .i64 at1), pl 1 (.int .u64 used1), pl 2 (.pointer (some ⟨g1, 0, none⟩)), pl 3 (.pointer (some ⟨g2, 0, none⟩)), pl 5 (.pointer (some ⟨g4, 0, none⟩)), pl 6 (.pointer (some ⟨g5, 0, none⟩)), pl 11 (.int .i64 v1)] a ∧ Sep w0 B w (blk g1 3 #[.int .i64 p21] :: blk g2 34 #[.slice A1 p31.length c1] :: own 3 (.slice A1 p31.length c1) (vI (z1.set (Int.toNat at1) v1)) :: blk g4 34 #[.slice A2 p51.length c2] :: blk g5 135 #[.func (.func 98) #[] #[.pointer (some ⟨g1, 0, none⟩), .pointer (some ⟨g2, 0, none⟩), .pointer (some ⟨g3, 0, none⟩), .pointer (some ⟨g4, 0, none⟩), .pointer (some ⟨g5, 0, none⟩)]] :: blk g3 3 #[.int .i64 z2] :: fs) ∧ ((magic_Count_2_J7 rec_magic_Count_2 at1 used1 p21 p51 z1 z2 v1)).bind φ1 = some r) ?_ ?_
            · rintro a w ⟨hF, hS, hm⟩
              unfold magic_Count_2_J7 at hm
              obtain ⟨hp7, hm⟩ := asrt_b hm
              obtain ⟨r6, hr6, hm⟩ := call_b hm
              refine regMix4 [0, 1, 2, 3, 4, 5, 6] [7] [⟨false, [], vS (Instr.loadAt 135 (.pointer (some ⟨g5, 0, none⟩))), .func (.func 98) #[] #[.pointer (some ⟨g1, 0, none⟩), .pointer (some ⟨g2, 0, none⟩), .pointer (some ⟨g3, 0, none⟩), .pointer (some ⟨g4, 0, none⟩), .pointer (some ⟨g5, 0, none⟩)]⟩, ⟨true, [], vS (Op.shift .shl .u64 1 .i64 v1), .int .u64 (shlK .u64 1 v1)⟩] [some (.func (.func 98) #[] #[.pointer (some ⟨g1, 0, none⟩), .pointer (some ⟨g2, 0, none⟩), .pointer (some ⟨g3, 0, none⟩), .pointer (some ⟨g4, 0, none⟩), .pointer (some ⟨g5, 0, none⟩)]), none, none, none, none, some (.int .u64 (shlK .u64 1 v1)), none] [0, 1, 2, 3, 5, 6, 11, 84, 86, 90] [pl 0 (.int .i64 at1), pl 1 (.int .u64 used1), pl 2 (.pointer (some ⟨g1, 0, none⟩)), pl 3 (.pointer (some ⟨g2, 0, none⟩)), pl 5 (.pointer (some ⟨g4, 0, none⟩)), pl 6 (.pointer (some ⟨g5, 0, none⟩)), pl 11 (.int .i64 v1), pl 84 (.func (.func 98) #[] #[.pointer (some ⟨g1, 0, none⟩), .pointer (some ⟨g2, 0, none⟩), .pointer (some ⟨g3, 0, none⟩), .pointer (some ⟨g4, 0, none⟩), .pointer (some ⟨g5, 0, none⟩)]), pl 86 (.int .i64 (w64 (at1 + 1))), pl 90 (.int .u64 (orK .u64 used1 (shlK .u64 1 v1)))] hF hS Fol (by kernel_rfl) (by kernel_rfl) (by kernel_rfl) (by kernel_rfl) (by kernel_rfl) ?_ (fun a w hF hS => ?_)
              · exact obs_cons (ob_load Agg135 (fun _ _ hS => (hS.at_ 4 rfl).cell rfl)) <| obs_cons (ob_shl (fun _ => hp7)) <| obs_nil
              have hS : Sep w0 B w (blk g1 3 #[.int .i64 p21] :: blk g2 34 #[.slice A1 p31.length c1] :: own 3 (.slice A1 p31.length c1) (vI (z1.set (Int.toNat at1) v1)) :: blk g3 3 #[.int .i64 z2] :: blk g4 34 #[.slice A2 p51.length c2] :: blk g5 135 #[.func (.func 98) #[] #[.pointer (some ⟨g1, 0, none⟩), .pointer (some ⟨g2, 0, none⟩), .pointer (some ⟨g3, 0, none⟩), .pointer (some ⟨g4, 0, none⟩), .pointer (some ⟨g5, 0, none⟩)]] :: fs) := hS.pickN 6 [0, 1, 2, 5, 3, 4] (by decide)
              refine at_call (f := 98) (args := #[.int .i64 (w64 (at1 + 1)), .int .u64 (orK .u64 used1 (shlK .u64 1 v1)), .pointer (some ⟨g1, 0, none⟩), .pointer (some ⟨g2, 0, none⟩), .pointer (some ⟨g3, 0, none⟩), .pointer (some ⟨g4, 0, none⟩), .pointer (some ⟨g5, 0, none⟩)]) (d := 91) hF (by kernel_rfl) (by kernel_rfl) Try.func98 (by kernel_rfl) rfl (ih_magic_Count_2 hr6 hS (fun _ hS => (hr_p51 _ (hS.dropN 0))) _hc_p51 rfl) (fun v a w hR hF => ?_)
              clear hS
              obtain ⟨rfl, hS⟩ := hR
              have hS : Sep w0 B w (blk g1 3 #[.int .i64 p21] :: blk g2 34 #[.slice A1 p31.length c1] :: own 3 (.slice A1 p31.length c1) (vI r6.1) :: blk g3 3 #[.int .i64 r6.2] :: blk g4 34 #[.slice A2 p51.length c2] :: blk g5 135 #[.func (.func 98) #[] #[.pointer (some ⟨g1, 0, none⟩), .pointer (some ⟨g2, 0, none⟩), .pointer (some ⟨g3, 0, none⟩), .pointer (some ⟨g4, 0, none⟩), .pointer (some ⟨g5, 0, none⟩)]] :: fs) := hS
              refine at_end [0, 1, 2, 3, 5, 6, 11] [pl 0 (.int .i64 at1), pl 1 (.int .u64 used1), pl 2 (.pointer (some ⟨g1, 0, none⟩)), pl 3 (.pointer (some ⟨g2, 0, none⟩)), pl 5 (.pointer (some ⟨g4, 0, none⟩)), pl 6 (.pointer (some ⟨g5, 0, none⟩)), pl 11 (.int .i64 v1)] hF rfl (by kernel_rfl) (fun hF => ?_)
              refine np_n ?_
              refine block_n ?_
              refine then_n ?_
              have hS := hS.pickN 6 [0, 1, 2, 4, 5, 3] (by decide)
              exact ⟨r6.1, r6.2, hF.weak [0, 1, 2, 3, 5, 6, 11] (by kernel_rfl), hS, hm⟩
            · obtain ⟨hp5, hm⟩ := asrt_b hm
              refine reg [⟨false, [], vS (Instr.loadAt 3 (.pointer (some ⟨g1, 0, none⟩))), .int .i64 p21⟩, ⟨true, [], vS (Op.intDiv .quo .i64 at1 p21), .int .i64 (w64 (Int.tdiv at1 p21))⟩] [none, some (.int .i64 p21), some (.int .i64 (w64 (Int.tdiv at1 p21))), none] [0, 1, 2, 3, 5, 6, 11, 12] [pl 0 (.int .i64 at1), pl 1 (.int .u64 used1), pl 2 (.pointer (some ⟨g1, 0, none⟩)), pl 3 (.pointer (some ⟨g2, 0, none⟩)), pl 5 (.pointer (some ⟨g4, 0, none⟩)), pl 6 (.pointer (some ⟨g5, 0, none⟩)), pl 11 (.int .i64 v1), pl 12 (.int .i64 (w64 (Int.tdiv at1 p21)))] hF hS Fol (by kernel_rfl) (by kernel_rfl) (by kernel_rfl) ?_ (fun a w hF hS => ?_)
              · exact obs_cons (ob_load Agg3 (fun _ _ hS => (hS.at_ 0 rfl).cell rfl)) <| obs_cons (ob_quo rfl (fun _ => hp5)) <| obs_nil
              refine seq_cut (fun a w => ∃ (z5 : Bool), Fr 92 [pl 0 (.int .i64 at1), pl 1 (.int .u64 used1), pl 2 (.pointer (some ⟨g1, 0, none⟩)), pl 3 (.pointer (some ⟨g2, 0, none⟩)), pl 5 (.pointer (some ⟨g4, 0, none⟩)), pl 6 (.pointer (some ⟨g5, 0, none⟩)), pl 11 (.int .i64 v1), pl 83 (.bool z5)] a ∧ Sep w0 B w (blk g1 3 #[.int .i64 p21] :: blk g2 34 #[.slice A1 p31.length c1] :: own 3 (.slice A1 p31.length c1) (vI (z1.set (Int.toNat at1) v1)) :: blk g4 34 #[.slice A2 p51.length c2] :: blk g5 135 #[.func (.func 98) #[] #[.pointer (some ⟨g1, 0, none⟩), .pointer (some ⟨g2, 0, none⟩), .pointer (some ⟨g3, 0, none⟩), .pointer (some ⟨g4, 0, none⟩), .pointer (some ⟨g5, 0, none⟩)]] :: blk g3 3 #[.int .i64 z2] :: fs) ∧ ((magic_Count_2_J8 rec_magic_Count_2 at1 used1 p21 p51 z1 z2 v1) z5).bind φ1 = some r) ?_ ?_
              · rintro a w ⟨z5, hF, hS, hm⟩
                unfold magic_Count_2_J8 at hm
                refine cond_ev (t := 83) (b := z5) hF (by kernel_rfl) (fun hb => ?_) (fun hb => ?_)
                · replace hm := if_t hm hb
                  refine wpIn_exit ?_
                  refine then_e (block_e (then_n ?_))
                  exact ⟨(z1.set (Int.toNat at1) v1), z2, hF.weak [0, 1, 2, 3, 5, 6, 11] (by kernel_rfl), hS, hm⟩
                · replace hm := if_f hm hb
                  refine wpIn_skip ?_
                  refine then_n ?_
                  exact ⟨hF.weak [0, 1, 2, 3, 5, 6, 11] (by kernel_rfl), hS, hm⟩
              · obtain ⟨hp6, hm⟩ := asrt_b hm
                refine regMix5 [0, 1, 2, 3, 4, 5, 6, 7, 8, 9, 10, 11, 12, 13, 16, 17] [] 6 #[true, true, true, true, true, true, true, true, true, true, true, true, true, true, false, false, true, true, false, false, false, false] [⟨false, [], vS (Instr.loadAt 3 (.pointer (some ⟨g1, 0, none⟩))), .int .i64 p21⟩, ⟨true, [], vS (Op.intDiv .rem .i64 at1 p21), .int .i64 (Int.tmod at1 p21)⟩, ⟨false, [], vS (Instr.loadAt 3 (.pointer (some ⟨g1, 0, none⟩))), .int .i64 p21⟩, ⟨false, [(((Int.tmod at1 p21) == (w64 (p21 - 1))) && (decide ((0 : Int) < (w64 (Int.tdiv at1 p21)))), true)], vS (Instr.loadAt 34 (.pointer (some ⟨g2, 0, none⟩))), .slice A1 p31.length c1⟩, ⟨false, [(((Int.tmod at1 p21) == (w64 (p21 - 1))) && (decide ((0 : Int) < (w64 (Int.tdiv at1 p21)))), true)], vS (Instr.loadAt 3 (.pointer (some ⟨g1, 0, none⟩))), .int .i64 p21⟩, ⟨false, [(((Int.tmod at1 p21) == (w64 (p21 - 1))) && (decide ((0 : Int) < (w64 (Int.tdiv at1 p21)))), true)], vS (Instr.loadAt 34 (.pointer (some ⟨g2, 0, none⟩))), .slice A1 p31.length c1⟩, ⟨false, [(((Int.tmod at1 p21) == (w64 (p21 - 1))) && (decide ((0 : Int) < (w64 (Int.tdiv at1 p21)))), true)], vS (Instr.loadAt 3 (.pointer (some ⟨g1, 0, none⟩))), .int .i64 p21⟩] [none, some (.int .i64 p21), some (.int .i64 (Int.tmod at1 p21)), some (.int .i64 p21), none, none, none, none, none, none, none, some (.slice A1 p31.length c1), some (.int .i64 p21), none, some (.slice A1 p31.length c1), some (.int .i64 p21)] [0, 1, 2, 3, 5, 6, 11, 72, 73, 74, 75, 78, 79] [pl 0 (.int .i64 at1), pl 1 (.int .u64 used1), pl 2 (.pointer (some ⟨g1, 0, none⟩)), pl 3 (.pointer (some ⟨g2, 0, none⟩)), pl 5 (.pointer (some ⟨g4, 0, none⟩)), pl 6 (.pointer (some ⟨g5, 0, none⟩)), pl 11 (.int .i64 v1), pl 72 (.bool (((Int.tmod at1 p21) == (w64 (p21 - 1))) && (decide ((0 : Int) < (w64 (Int.tdiv at1 p21)))))), ⟨73, [(72, true)], .slice A1 p31.length c1⟩, ⟨74, [(72, true)], .int .i64 p21⟩, ⟨75, [(72, true)], .int .i64 (w64 (Int.tdiv at1 p21))⟩, ⟨78, [(72, true)], .slice A1 p31.length c1⟩, ⟨79, [(72, true)], .int .i64 p21⟩] hF hS Fol (by kernel_rfl) (by kernel_rfl) (by kernel_rfl) (by kernel_rfl) ?_ (fun a w hF hS => ?_)
                · exact obs_cons (ob_load Agg3 (fun _ _ hS => (hS.at_ 0 rfl).cell rfl)) <| obs_cons (ob_rem rfl (fun _ => hp6)) <| obs_cons (ob_load Agg3 (fun _ _ hS => (hS.at_ 0 rfl).cell rfl)) <| obs_cons (ob_load Agg34 (fun _ _ hS => (hS.at_ 1 rfl).cell rfl)) <| obs_cons (ob_load Agg3 (fun _ _ hS => (hS.at_ 0 rfl).cell rfl)) <| obs_cons (ob_load Agg34 (fun _ _ hS => (hS.at_ 1 rfl).cell rfl)) <| obs_cons (ob_load Agg3 (fun _ _ hS => (hS.at_ 0 rfl).cell rfl)) <| obs_nil
                rcases Bool.eq_false_or_eq_true (((Int.tmod at1 p21) == (w64 (p21 - 1))) && (decide ((0 : Int) < (w64 (Int.tdiv at1 p21))))) with hg1 | hg1
                · replace hm := if_t hm hg1
                  obtain ⟨r2, hr2, hm⟩ := call_b hm
                  obtain ⟨r3, hr3, hm⟩ := call_b hm
                  obtain ⟨r4, hr4, hm⟩ := call_b hm
                  obtain ⟨r5, hr5, hm⟩ := call_b hm
                  refine any_step [14] (by kernel_rfl) rfl ?_
                  refine (all_cons ?_ all_nil)
                  · refine any_op (listed' := #[true, true, true, true, true, true, true, true, true, true, true, true, true, true, true, false, true, true, false, false, false, false]) (by kernel_rfl) (by kernel_rfl) ?_
                    refine at_gcall (hs := [(((Int.tmod at1 p21) == (w64 (p21 - 1))) && (decide ((0 : Int) < (w64 (Int.tdiv at1 p21)))), true)]) (fun y hy => by simp only [List.mem_cons, List.not_mem_nil, or_false] at hy; subst hy; first | exact hg1) (f := 101) (args := #[.int .i64 (w64 (Int.tdiv at1 p21))]) (d := 76) hF (by kernel_rfl) (by kernel_rfl) Try.func101 (by kernel_rfl) rfl (magic_row_w hr2 hS ) (fun v a w hR hF => ?_)
                    clear hS
                    obtain ⟨g8, rfl, hS⟩ := hR
                    have hS : Sep w0 B w (blk g8 3 #[.int .i64 r2] :: blk g1 3 #[.int .i64 p21] :: blk g2 34 #[.slice A1 p31.length c1] :: own 3 (.slice A1 p31.length c1) (vI (z1.set (Int.toNat at1) v1)) :: blk g4 34 #[.slice A2 p51.length c2] :: blk g5 135 #[.func (.func 98) #[] #[.pointer (some ⟨g1, 0, none⟩), .pointer (some ⟨g2, 0, none⟩), .pointer (some ⟨g3, 0, none⟩), .pointer (some ⟨g4, 0, none⟩), .pointer (some ⟨g5, 0, none⟩)]] :: blk g3 3 #[.int .i64 z2] :: fs) := hS
                    refine any_fin rfl (hS.pickN 7 [1, 2, 3, 4, 5, 6] (by decide)) ?_
                    refine any_step [15] (by kernel_rfl) rfl ?_
                    refine (all_cons ?_ all_nil)
                    · refine any_op (listed' := #[true, true, true, true, true, true, true, true, true, true, true, true, true, true, true, true, true, true, false, false, false, false]) (by kernel_rfl) (by kernel_rfl) ?_
                      refine at_run 1 [⟨false, [(((Int.tmod at1 p21) == (w64 (p21 - 1))) && (decide ((0 : Int) < (w64 (Int.tdiv at1 p21)))), true)], callFunc 100 #[.slice A1 p31.length c1, .int .i64 p21, .func (.func 149) #[] #[.pointer (some ⟨g8, 0, none⟩)]], .int .i64 r3⟩] [some (.int .i64 r3)] [0, 1, 2, 3, 5, 6, 11, 72, 77, 78, 79] [pl 0 (.int .i64 at1), pl 1 (.int .u64 used1), pl 2 (.pointer (some ⟨g1, 0, none⟩)), pl 3 (.pointer (some ⟨g2, 0, none⟩)), pl 5 (.pointer (some ⟨g4, 0, none⟩)), pl 6 (.pointer (some ⟨g5, 0, none⟩)), pl 11 (.int .i64 v1), pl 72 (.bool (((Int.tmod at1 p21) == (w64 (p21 - 1))) && (decide ((0 : Int) < (w64 (Int.tdiv at1 p21)))))), ⟨77, [(72, true)], .int .i64 r3⟩, ⟨78, [(72, true)], .slice A1 p31.length c1⟩, ⟨79, [(72, true)], .int .i64 p21⟩] hF hS (by kernel_rfl) (by kernel_rfl) ?_ (fun a w hF hS => ?_)
                      · exact obs_cons (ob_call Try.func100 (by kernel_rfl) rfl (fun hy _ hS => magic_sum_w (ite_some hr3 (by rw [show (((Int.tmod at1 p21) == (w64 (p21 - 1))) && (decide ((0 : Int) < (w64 (Int.tdiv at1 p21))))) = true from hy (((Int.tmod at1 p21) == (w64 (p21 - 1))) && (decide ((0 : Int) < (w64 (Int.tdiv at1 p21)))), true) (by simp)]; try rfl)) hS (fun _ hS => (hS.at_ 2 rfl).rd) (((hS.dropN 1).at_ 2 rfl).cap1) (((hS.dropN 1).at_ 2 rfl).len1))) <| obs_nil
                      refine any_fin rfl (hS.pickN 7 [1, 2, 3, 4, 5, 6] (by decide)) ?_
                      refine any_step [18] (by kernel_rfl) rfl ?_
                      refine (all_cons ?_ all_nil)
                      · refine any_op (listed' := #[true, true, true, true, true, true, true, true, true, true, true, true, true, true, true, true, true, true, true, false, false, false]) (by kernel_rfl) (by kernel_rfl) ?_
                        refine at_gcall (hs := [(((Int.tmod at1 p21) == (w64 (p21 - 1))) && (decide ((0 : Int) < (w64 (Int.tdiv at1 p21)))), true)]) (fun y hy => by simp only [List.mem_cons, List.not_mem_nil, or_false] at hy; subst hy; first | exact hg1) (f := 101) (args := #[.int .i64 0]) (d := 80) hF (by kernel_rfl) (by kernel_rfl) Try.func101 (by kernel_rfl) rfl (magic_row_w hr4 hS ) (fun v a w hR hF => ?_)
                        clear hS
                        obtain ⟨g9, rfl, hS⟩ := hR
                        have hS : Sep w0 B w (blk g9 3 #[.int .i64 r4] :: blk g8 3 #[.int .i64 r2] :: blk g1 3 #[.int .i64 p21] :: blk g2 34 #[.slice A1 p31.length c1] :: own 3 (.slice A1 p31.length c1) (vI (z1.set (Int.toNat at1) v1)) :: blk g4 34 #[.slice A2 p51.length c2] :: blk g5 135 #[.func (.func 98) #[] #[.pointer (some ⟨g1, 0, none⟩), .pointer (some ⟨g2, 0, none⟩), .pointer (some ⟨g3, 0, none⟩), .pointer (some ⟨g4, 0, none⟩), .pointer (some ⟨g5, 0, none⟩)]] :: blk g3 3 #[.int .i64 z2] :: fs) := hS
                        refine any_fin rfl (hS.pickN 8 [2, 3, 4, 5, 6, 7] (by decide)) ?_
                        refine any_step [19] (by kernel_rfl) rfl ?_
                        refine (all_cons ?_ all_nil)
                        · refine any_op (listed' := #[true, true, true, true, true, true, true, true, true, true, true, true, true, true, true, true, true, true, true, true, false, false]) (by kernel_rfl) (by kernel_rfl) ?_
                          refine at_run 1 [⟨false, [(((Int.tmod at1 p21) == (w64 (p21 - 1))) && (decide ((0 : Int) < (w64 (Int.tdiv at1 p21)))), true)], callFunc 100 #[.slice A1 p31.length c1, .int .i64 p21, .func (.func 149) #[] #[.pointer (some ⟨g9, 0, none⟩)]], .int .i64 r5⟩] [some (.int .i64 r5)] [0, 1, 2, 3, 5, 6, 11, 72, 77, 81] [pl 0 (.int .i64 at1), pl 1 (.int .u64 used1), pl 2 (.pointer (some ⟨g1, 0, none⟩)), pl 3 (.pointer (some ⟨g2, 0, none⟩)), pl 5 (.pointer (some ⟨g4, 0, none⟩)), pl 6 (.pointer (some ⟨g5, 0, none⟩)), pl 11 (.int .i64 v1), pl 72 (.bool (((Int.tmod at1 p21) == (w64 (p21 - 1))) && (decide ((0 : Int) < (w64 (Int.tdiv at1 p21)))))), ⟨77, [(72, true)], .int .i64 r3⟩, ⟨81, [(72, true)], .int .i64 r5⟩] hF hS (by kernel_rfl) (by kernel_rfl) ?_ (fun a w hF hS => ?_)
                          · exact obs_cons (ob_call Try.func100 (by kernel_rfl) rfl (fun hy _ hS => magic_sum_w (ite_some hr5 (by rw [show (((Int.tmod at1 p21) == (w64 (p21 - 1))) && (decide ((0 : Int) < (w64 (Int.tdiv at1 p21))))) = true from hy (((Int.tmod at1 p21) == (w64 (p21 - 1))) && (decide ((0 : Int) < (w64 (Int.tdiv at1 p21)))), true) (by simp)]; try rfl)) hS (fun _ hS => (hS.at_ 3 rfl).rd) (((hS.dropN 1).at_ 3 rfl).cap1) (((hS.dropN 1).at_ 3 rfl).len1))) <| obs_nil
                          refine any_fin rfl (hS.pickN 8 [2, 3, 4, 5, 6, 7] (by decide)) ?_
                          refine any_step [20] (by kernel_rfl) rfl ?_
                          refine (all_cons ?_ all_nil)
                          · refine any_op (listed' := #[true, true, true, true, true, true, true, true, true, true, true, true, true, true, true, true, true, true, true, true, true, false]) (by kernel_rfl) (by kernel_rfl) ?_
                            refine at_runW 1 [] [] [0, 1, 2, 3, 5, 6, 11, 72, 82] [pl 0 (.int .i64 at1), pl 1 (.int .u64 used1), pl 2 (.pointer (some ⟨g1, 0, none⟩)), pl 3 (.pointer (some ⟨g2, 0, none⟩)), pl 5 (.pointer (some ⟨g4, 0, none⟩)), pl 6 (.pointer (some ⟨g5, 0, none⟩)), pl 11 (.int .i64 v1), pl 72 (.bool (((Int.tmod at1 p21) == (w64 (p21 - 1))) && (decide ((0 : Int) < (w64 (Int.tdiv at1 p21)))))), ⟨82, [(72, true)], .bool (r3 != r5)⟩] hF hS (by kernel_rfl) (by kernel_rfl) ?_ (fun a hF => ?_)
                            · exact obs_nil
                            refine any_finI rfl (fun h => h) ?_
                            refine any_step [21] (by kernel_rfl) rfl ?_
                            refine (all_cons ?_ all_nil)
                            · refine any_op (listed' := #[true, true, true, true, true, true, true, true, true, true, true, true, true, true, true, true, true, true, true, true, true, true]) (by kernel_rfl) (by kernel_rfl) ?_
                              refine at_runW 1 [] [] [0, 1, 2, 3, 5, 6, 11, 83] [pl 0 (.int .i64 at1), pl 1 (.int .u64 used1), pl 2 (.pointer (some ⟨g1, 0, none⟩)), pl 3 (.pointer (some ⟨g2, 0, none⟩)), pl 5 (.pointer (some ⟨g4, 0, none⟩)), pl 6 (.pointer (some ⟨g5, 0, none⟩)), pl 11 (.int .i64 v1), pl 83 (.bool ((((Int.tmod at1 p21) == (w64 (p21 - 1))) && (decide ((0 : Int) < (w64 (Int.tdiv at1 p21))))) && (r3 != r5)))] hF hS (by kernel_rfl) (by kernel_rfl) ?_ (fun a hF => ?_)
                              · exact obs_nil
                              refine any_finI rfl (fun h => h) ?_
                              refine any_end (by kernel_rfl) ?_
                              refine np_n ?_
                              refine then_n ?_
                              have hS := hS.pickN 8 [2, 3, 4, 5, 6, 7] (by decide)
                              exact ⟨((((Int.tmod at1 p21) == (w64 (p21 - 1))) && (decide ((0 : Int) < (w64 (Int.tdiv at1 p21))))) && (r3 != r5)), hF.weak [0, 1, 2, 3, 5, 6, 11, 83] (by kernel_rfl), hS, hm⟩
                · replace hm := if_f hm hg1
                  refine any_rest [14, 15, 18, 19, 20, 21] [⟨false, [(((Int.tmod at1 p21) == (w64 (p21 - 1))) && (decide ((0 : Int) < (w64 (Int.tdiv at1 p21)))), true)], callFunc 101 #[.int .i64 (w64 (Int.tdiv at1 p21))], .nilFunc⟩, ⟨false, [(((Int.tmod at1 p21) == (w64 (p21 - 1))) && (decide ((0 : Int) < (w64 (Int.tdiv at1 p21)))), true)], callFunc 100 #[.slice A1 p31.length c1, .int .i64 p21, .nilFunc], .int .i64 0⟩, ⟨false, [(((Int.tmod at1 p21) == (w64 (p21 - 1))) && (decide ((0 : Int) < (w64 (Int.tdiv at1 p21)))), true)], callFunc 101 #[.int .i64 0], .nilFunc⟩, ⟨false, [(((Int.tmod at1 p21) == (w64 (p21 - 1))) && (decide ((0 : Int) < (w64 (Int.tdiv at1 p21)))), true)], callFunc 100 #[.slice A1 p31.length c1, .int .i64 p21, .nilFunc], .int .i64 0⟩] [some (.nilFunc), some (.int .i64 0), some (.nilFunc), some (.int .i64 0), none, none] [0, 1, 2, 3, 5, 6, 11, 83] [pl 0 (.int .i64 at1), pl 1 (.int .u64 used1), pl 2 (.pointer (some ⟨g1, 0, none⟩)), pl 3 (.pointer (some ⟨g2, 0, none⟩)), pl 5 (.pointer (some ⟨g4, 0, none⟩)), pl 6 (.pointer (some ⟨g5, 0, none⟩)), pl 11 (.int .i64 v1), pl 83 (.bool ((((Int.tmod at1 p21) == (w64 (p21 - 1))) && (decide ((0 : Int) < (w64 (Int.tdiv at1 p21))))) && ((0 : Int) != 0)))] hF hS (by kernel_rfl) (by kernel_rfl) (by kernel_rfl) (by kernel_rfl) ?_ (fun a hF => ?_)
                  · exact obs_cons (Ob.vac (fun h => absurd (h (((Int.tmod at1 p21) == (w64 (p21 - 1))) && (decide ((0 : Int) < (w64 (Int.tdiv at1 p21)))), true) (by simp)) (by simp [hg1]))) <| obs_cons (Ob.vac (fun h => absurd (h (((Int.tmod at1 p21) == (w64 (p21 - 1))) && (decide ((0 : Int) < (w64 (Int.tdiv at1 p21)))), true) (by simp)) (by simp [hg1]))) <| obs_cons (Ob.vac (fun h => absurd (h (((Int.tmod at1 p21) == (w64 (p21 - 1))) && (decide ((0 : Int) < (w64 (Int.tdiv at1 p21)))), true) (by simp)) (by simp [hg1]))) <| obs_cons (Ob.vac (fun h => absurd (h (((Int.tmod at1 p21) == (w64 (p21 - 1))) && (decide ((0 : Int) < (w64 (Int.tdiv at1 p21)))), true) (by simp)) (by simp [hg1]))) <| obs_nil
                  refine np_n ?_
                  refine then_n ?_
                  exact ⟨((((Int.tmod at1 p21) == (w64 (p21 - 1))) && (decide ((0 : Int) < (w64 (Int.tdiv at1 p21))))) && ((0 : Int) != 0)), hF.weak [0, 1, 2, 3, 5, 6, 11, 83] (by kernel_rfl), hS, hm⟩
          · obtain ⟨hp1, hm⟩ := asrt_b hm
            obtain ⟨hp2, hm⟩ := asrt_b hm
            obtain ⟨hp3, hm⟩ := asrt_b hm
            refine reg [⟨true, [], vS (Op.shift .shr .u64 used1 .i64 v1), .int .u64 (shrK .u64 used1 v1)⟩, ⟨false, [(((andK .u64 (shrK .u64 used1 v1) 1) == 1), false)], vS (Instr.loadAt 34 (.pointer (some ⟨g4, 0, none⟩))), .slice A2 p51.length c2⟩, ⟨true, [(((andK .u64 (shrK .u64 used1 v1) 1) == 1), false)], vS (Instr.indexAt 34 (.slice A2 p51.length c2) (.int .i64 at1)), .pointer (some (sAddr A2 at1))⟩, ⟨false, [(((andK .u64 (shrK .u64 used1 v1) 1) == 1), false)], vS (Instr.loadAt 3 (.pointer (some (sAddr A2 at1)))), .int .i64 (geti p51 at1)⟩, ⟨false, [(((geti p51 at1) != 0), true), (((andK .u64 (shrK .u64 used1 v1) 1) == 1), false)], vS (Instr.loadAt 34 (.pointer (some ⟨g4, 0, none⟩))), .slice A2 p51.length c2⟩, ⟨true, [(((geti p51 at1) != 0), true), (((andK .u64 (shrK .u64 used1 v1) 1) == 1), false)], vS (Instr.indexAt 34 (.slice A2 p51.length c2) (.int .i64 at1)), .pointer (some (sAddr A2 at1))⟩, ⟨false, [(((geti p51 at1) != 0), true), (((andK .u64 (shrK .u64 used1 v1) 1) == 1), false)], vS (Instr.loadAt 3 (.pointer (some (sAddr A2 at1)))), .int .i64 (geti p51 at1)⟩] [none, none, some (.int .u64 (shrK .u64 used1 v1)), none, none, none, some (.slice A2 p51.length c2), none, some (.pointer (some (sAddr A2 at1))), some (.int .i64 (geti p51 at1)), none, none, some (.slice A2 p51.length c2), none, some (.pointer (some (sAddr A2 at1))), some (.int .i64 (geti p51 at1)), none, none, none, none] [0, 1, 2, 3, 5, 6, 11, 54] [pl 0 (.int .i64 at1), pl 1 (.int .u64 used1), pl 2 (.pointer (some ⟨g1, 0, none⟩)), pl 3 (.pointer (some ⟨g2, 0, none⟩)), pl 5 (.pointer (some ⟨g4, 0, none⟩)), pl 6 (.pointer (some ⟨g5, 0, none⟩)), pl 11 (.int .i64 v1), pl 54 (.bool (((andK .u64 (shrK .u64 used1 v1) 1) == 1) || (((geti p51 at1) != 0) && ((geti p51 at1) != v1))))] hF hS Fol (by kernel_rfl) (by kernel_rfl) (by kernel_rfl) ?_ (fun a w hF hS => ?_)
            · exact obs_cons (ob_shr (fun _ => hp1)) <| obs_cons (ob_load Agg34 (fun _ _ hS => (hS.at_ 3 rfl).cell rfl)) <| obs_cons (ob_ix1 (f := (Value.int .i64)) (m := p51) Und34 hi3 hs3 (hr_p51 _ (hS.dropN 6)) rfl (fun hy => hp2 (hy (((andK .u64 (shrK .u64 used1 v1) 1) == 1), false) (by simp)))) <| obs_cons (ob_get1 (n := p51.length) (m := p51) (Value.int .i64) (0 : Int) Agg3 (fun _ hS => ⟨_, (hr_p51 _ (hS.dropN 6))⟩) (fun _ hS => rfl) (fun hy => hp2 (hy (((andK .u64 (shrK .u64 used1 v1) 1) == 1), false) (by simp)))) <| obs_cons (ob_load Agg34 (fun _ _ hS => (hS.at_ 3 rfl).cell rfl)) <| obs_cons (ob_ix1 (f := (Value.int .i64)) (m := p51) Und34 hi3 hs3 (hr_p51 _ (hS.dropN 6)) rfl (fun hy => hp3 (hy (((geti p51 at1) != 0), true) (by simp)) (hy (((andK .u64 (shrK .u64 used1 v1) 1) == 1), false) (by simp)))) <| obs_cons (ob_get1 (n := p51.length) (m := p51) (Value.int .i64) (0 : Int) Agg3 (fun _ hS => ⟨_, (hr_p51 _ (hS.dropN 6))⟩) (fun _ hS => rfl) (fun hy => hp3 (hy (((geti p51 at1) != 0), true) (by simp)) (hy (((andK .u64 (shrK .u64 used1 v1) 1) == 1), false) (by simp)))) <| obs_nil
            refine cond_ev (t := 54) (b := ((andK .u64 (shrK .u64 used1 v1) 1) == 1) || (((geti p51 at1) != 0) && ((geti p51 at1) != v1))) hF (by kernel_rfl) (fun hb => ?_) (fun hb => ?_)
            · replace hm := if_t hm hb
              refine wpIn_exit ?_
              refine then_e (block_e (then_n ?_))
              exact ⟨z1, z2, hF.weak [0, 1, 2, 3, 5, 6, 11] (by kernel_rfl), hS, hm⟩
            · replace hm := if_f hm hb
              refine wpIn_skip ?_
              refine then_n ?_
              exact ⟨hF.weak [0, 1, 2, 3, 5, 6, 11] (by kernel_rfl), hS, hm⟩
      · refine reg [⟨false, [], vS (Instr.loadAt 3 (.pointer (some ⟨g1, 0, none⟩))), .int .i64 p21⟩, ⟨false, [], vS (Instr.loadAt 3 (.pointer (some ⟨g1, 0, none⟩))), .int .i64 p21⟩] [none, some (.int .i64 p21), some (.int .i64 p21), none, none] [0, 1, 2, 3, 5, 6, 11, 32] [pl 0 (.int .i64 at1), pl 1 (.int .u64 used1), pl 2 (.pointer (some ⟨g1, 0, none⟩)), pl 3 (.pointer (some ⟨g2, 0, none⟩)), pl 5 (.pointer (some ⟨g4, 0, none⟩)), pl 6 (.pointer (some ⟨g5, 0, none⟩)), pl 11 (.int .i64 v1), pl 32 (.bool (decide (v1 ≤ (w64 (p21 * p21)))))] hF hS Fol (by kernel_rfl) (by kernel_rfl) (by kernel_rfl) ?_ (fun a w hF hS => ?_)
        · exact obs_cons (ob_load Agg3 (fun _ _ hS => (hS.at_ 0 rfl).cell rfl)) <| obs_cons (ob_load Agg3 (fun _ _ hS => (hS.at_ 0 rfl).cell rfl)) <| obs_nil
        refine cond_ev (t := 32) (b := decide (v1 ≤ (w64 (p21 * p21)))) hF (by kernel_rfl) (fun hb => ?_) (fun hb => ?_)
        · replace hm := if_t hm hb
          refine wpIn_skip ?_
          refine then_n ?_
          exact ⟨hF.weak [0, 1, 2, 3, 5, 6, 11] (by kernel_rfl), hS, hm⟩
        · replace hm := if_f hm hb
          refine wpIn_exit ?_
          refine then_e (then_e (block_e (then_n ?_)))
          have hS := hS.pickN 6 [0, 1, 2, 5, 3, 4] (by decide)
          rw [← hφ1] at hm
          replace hm := done_b hm
          unfold magic_Count_2_K1 at hm
          try dsimp only at hm
          have hm : (magic_Count_2_J1 z1 z2).bind some = some r := hm
          exact ⟨z1, z2, hF.weak [] (by kernel_rfl), hS, hm⟩
    · refine reg [⟨false, [], vS (Instr.loadAt 3 (.pointer (some ⟨g1, 0, none⟩))), .int .i64 p21⟩, ⟨false, [], vS (Instr.loadAt 3 (.pointer (some ⟨g1, 0, none⟩))), .int .i64 p21⟩] [none, some (.int .i64 p21), some (.int .i64 p21), none, none] [0, 1, 2, 3, 4, 5, 6, 17] [pl 0 (.int .i64 at1), pl 1 (.int .u64 used1), pl 2 (.pointer (some ⟨g1, 0, none⟩)), pl 3 (.pointer (some ⟨g2, 0, none⟩)), pl 4 (.pointer (some ⟨g3, 0, none⟩)), pl 5 (.pointer (some ⟨g4, 0, none⟩)), pl 6 (.pointer (some ⟨g5, 0, none⟩)), pl 17 (.bool (at1 == (w64 (p21 * p21))))] hF hS Fol (by kernel_rfl) (by kernel_rfl) (by kernel_rfl) ?_ (fun a w hF hS => ?_)
      · exact obs_cons (ob_load Agg3 (fun _ _ hS => (hS.at_ 0 rfl).cell rfl)) <| obs_cons (ob_load Agg3 (fun _ _ hS => (hS.at_ 0 rfl).cell rfl)) <| obs_nil
      refine cond_ev (t := 17) (b := (at1 == (w64 (p21 * p21)))) hF (by kernel_rfl) (fun hb => ?_) (fun hb => ?_)
      · replace hm := if_t hm hb
        refine seq_cut (fun a w => ∃ (p43 : Int), Fr 92 [] a ∧ Sep w0 B w (blk g1 3 #[.int .i64 p21] :: blk g2 34 #[.slice A1 p31.length c1] :: own 3 (.slice A1 p31.length c1) (vI p31) :: blk g3 3 #[.int .i64 p43] :: blk g4 34 #[.slice A2 p51.length c2] :: blk g5 135 #[.func (.func 98) #[] #[.pointer (some ⟨g1, 0, none⟩), .pointer (some ⟨g2, 0, none⟩), .pointer (some ⟨g3, 0, none⟩), .pointer (some ⟨g4, 0, none⟩), .pointer (some ⟨g5, 0, none⟩)]] :: fs) ∧ ((magic_Count_2_J3 p31) p43).bind some = some r) ?_ ?_
        · rintro a w ⟨p43, hF, hS, hm⟩
          unfold magic_Count_2_J3 at hm
          refine wpIn_ret ?_
          refine then_r (then_r ?_)
          have hm : some (p31, p43) = some r := hm
          obtain rfl := Option.some.inj hm
          exact retV (rs := []) (vs := []) hF rfl (rv_nil) rfl ⟨_, rfl, rfl, hS⟩
        · obtain ⟨r1, hr1, hm⟩ := call_b hm
          refine reg [⟨false, [], vS (Instr.loadAt 34 (.pointer (some ⟨g2, 0, none⟩))), .slice A1 p31.length c1⟩, ⟨false, [], vS (Instr.loadAt 3 (.pointer (some ⟨g1, 0, none⟩))), .int .i64 p21⟩, ⟨false, [], callFunc 99 #[.slice A1 p31.length c1, .int .i64 p21], .tuple #[.int .i64 r1.1, .int .i64 r1.2]⟩] [some (.slice A1 p31.length c1), some (.int .i64 p21), some (.tuple #[.int .i64 r1.1, .int .i64 r1.2]), none, none, none, none, none] [4, 9] [pl 4 (.pointer (some ⟨g3, 0, none⟩)), pl 9 (.int .i64 r1.1)] hF hS Fol (by kernel_rfl) (by kernel_rfl) (by kernel_rfl) ?_ (fun a w hF hS => ?_)
          · exact obs_cons (ob_load Agg34 (fun _ _ hS => (hS.at_ 1 rfl).cell rfl)) <| obs_cons (ob_load Agg3 (fun _ _ hS => (hS.at_ 0 rfl).cell rfl)) <| obs_cons (ob_call Try.func99 (by kernel_rfl) rfl (fun _ _ hS => magic_kind_w hr1 hS (fun _ hS => (hS.at_ 2 rfl).rd) ((hS.at_ 2 rfl).cap1) rfl)) <| obs_nil
          refine reg [] [] [4, 25] [pl 4 (.pointer (some ⟨g3, 0, none⟩)), pl 25 (.bool (decide ((2 : Int) ≤ r1.1)))] hF hS Fol (by kernel_rfl) (by kernel_rfl) (by kernel_rfl) ?_ (fun a w hF hS => ?_)
          · exact obs_nil
          refine cond_ev (t := 25) (b := decide ((2 : Int) ≤ r1.1)) hF (by kernel_rfl) (fun hb => ?_) (fun hb => ?_)
          · replace hm := if_t hm hb
            refine oneR ?_
            refine at_run 2 [⟨false, [], vS (Instr.loadAt 3 (.pointer (some ⟨g3, 0, none⟩))), .int .i64 p41⟩] [some (.int .i64 p41), none] [4, 27] [pl 4 (.pointer (some ⟨g3, 0, none⟩)), pl 27 (.int .i64 (w64 (p41 + 1)))] hF hS (by kernel_rfl) (by kernel_rfl) ?_ (fun a w hF hS => ?_)
            · exact obs_cons (ob_load Agg3 (fun _ _ hS => (hS.at_ 3 rfl).cell rfl)) <| obs_nil
            obtain ⟨w, hrun, hS⟩ := run_put (P := Try.prog) (t := 3) (u := .int .i64 (w64 (p41 + 1))) (i := 0) (hS.at_ 3 rfl) hi3 hs3 rfl (Nat.lt_of_lt_of_eq (Nat.lt_of_succ_le (Nat.le_of_ble_eq_true (by kernel_rfl))) rfl)
            refine at_skip hF (by kernel_rfl) hrun ?_
            have hS : Sep w0 B w (blk g1 3 #[.int .i64 p21] :: blk g2 34 #[.slice A1 p31.length c1] :: own 3 (.slice A1 p31.length c1) (vI p31) :: blk g3 3 #[.int .i64 (w64 (p41 + 1))] :: blk g4 34 #[.slice A2 p51.length c2] :: blk g5 135 #[.func (.func 98) #[] #[.pointer (some ⟨g1, 0, none⟩), .pointer (some ⟨g2, 0, none⟩), .pointer (some ⟨g3, 0, none⟩), .pointer (some ⟨g4, 0, none⟩), .pointer (some ⟨g5, 0, none⟩)]] :: fs) := hS
            refine at_end [] [] hF rfl (by kernel_rfl) (fun hF => ?_)
            refine then_n ?_
            exact ⟨(w64 (p41 + 1)), hF.weak [] (by kernel_rfl), hS, hm⟩
          · replace hm := if_f hm hb
            refine wpIn_skip ?_
            refine then_n ?_
            exact ⟨p41, hF.weak [] (by kernel_rfl), hS, hm⟩
      · replace hm := if_f hm hb
        refine wpIn_skip ?_
        refine then_n ?_
        have hS := hS.pickN 6 [0, 1, 2, 4, 5, 3] (by decide)
        exact ⟨hF.weak [0, 1, 2, 3, 5, 6] (by kernel_rfl), hS, hm⟩

theorem magic_Count_2_w {at1 : Int} {used1 : Int} {g1 : Nat} {p21 : Int} {g2 : Nat} {A1 : Option Addr} {c1 : Nat} {n1 : Nat} {p31 : List Int} {g3 : Nat} {p41 : Int} {g4 : Nat} {A2 : Option Addr} {c2 : Nat} {n2 : Nat} {p51 : List Int} {g5 : Nat} {r : (List Int × Int)} {w0 w : World} {B : Nat} {fs : List HP} (hm : magic_Count_2_m at1 used1 p21 p31 p41 p51 = some r) (hS : Sep w0 B w (blk g1 3 #[.int .i64 p21] :: blk g2 34 #[.slice A1 n1 c1] :: own 3 (.slice A1 n1 c1) (vI p31) :: blk g3 3 #[.int .i64 p41] :: blk g4 34 #[.slice A2 n2 c2] :: blk g5 135 #[.func (.func 98) #[] #[.pointer (some ⟨g1, 0, none⟩), .pointer (some ⟨g2, 0, none⟩), .pointer (some ⟨g3, 0, none⟩), .pointer (some ⟨g4, 0, none⟩), .pointer (some ⟨g5, 0, none⟩)]] :: fs)) (hr_p51 : RdF w0 B fs A2 (vI p51)) (_hc_p51 : p51.length ≤ c2) (_hn_p51 : n2 = p51.length) :
    Calls Try.prog 98 #[.int .i64 at1, .int .u64 used1, .pointer (some ⟨g1, 0, none⟩), .pointer (some ⟨g2, 0, none⟩), .pointer (some ⟨g3, 0, none⟩), .pointer (some ⟨g4, 0, none⟩), .pointer (some ⟨g5, 0, none⟩)] w fun e w' => ∃ v, e = .returned v ∧ v = .tuple #[] ∧ Sep w0 B w' (blk g1 3 #[.int .i64 p21] :: blk g2 34 #[.slice A1 n1 c1] :: own 3 (.slice A1 n1 c1) (vI r.1) :: blk g3 3 #[.int .i64 r.2] :: blk g4 34 #[.slice A2 n2 c2] :: blk g5 135 #[.func (.func 98) #[] #[.pointer (some ⟨g1, 0, none⟩), .pointer (some ⟨g2, 0, none⟩), .pointer (some ⟨g3, 0, none⟩), .pointer (some ⟨g4, 0, none⟩), .pointer (some ⟨g5, 0, none⟩)]] :: fs) := by
  have key : ∀ (n : Nat) {at1 : Int} {used1 : Int} {g1 : Nat} {p21 : Int} {g2 : Nat} {A1 : Option Addr} {c1 : Nat} {n1 : Nat} {p31 : List Int} {g3 : Nat} {p41 : Int} {g4 : Nat} {A2 : Option Addr} {c2 : Nat} {n2 : Nat} {p51 : List Int} {g5 : Nat} {r : (List Int × Int)} {w0 w : World} {B : Nat} {fs : List HP} (_ : magic_Count_2_mF n at1 used1 p21 p31 p41 p51 = some r) (_ : Sep w0 B w (blk g1 3 #[.int .i64 p21] :: blk g2 34 #[.slice A1 n1 c1] :: own 3 (.slice A1 n1 c1) (vI p31) :: blk g3 3 #[.int .i64 p41] :: blk g4 34 #[.slice A2 n2 c2] :: blk g5 135 #[.func (.func 98) #[] #[.pointer (some ⟨g1, 0, none⟩), .pointer (some ⟨g2, 0, none⟩), .pointer (some ⟨g3, 0, none⟩), .pointer (some ⟨g4, 0, none⟩), .pointer (some ⟨g5, 0, none⟩)]] :: fs)) (hr_p51 : RdF w0 B fs A2 (vI p51)) (_hc_p51 : p51.length ≤ c2) (_hn_p51 : n2 = p51.length), Calls Try.prog 98 #[.int .i64 at1, .int .u64 used1, .pointer (some ⟨g1, 0, none⟩), .pointer (some ⟨g2, 0, none⟩), .pointer (some ⟨g3, 0, none⟩), .pointer (some ⟨g4, 0, none⟩), .pointer (some ⟨g5, 0, none⟩)] w fun e w' => ∃ v, e = .returned v ∧ v = .tuple #[] ∧ Sep w0 B w' (blk g1 3 #[.int .i64 p21] :: blk g2 34 #[.slice A1 n1 c1] :: own 3 (.slice A1 n1 c1) (vI r.1) :: blk g3 3 #[.int .i64 r.2] :: blk g4 34 #[.slice A2 n2 c2] :: blk g5 135 #[.func (.func 98) #[] #[.pointer (some ⟨g1, 0, none⟩), .pointer (some ⟨g2, 0, none⟩), .pointer (some ⟨g3, 0, none⟩), .pointer (some ⟨g4, 0, none⟩), .pointer (some ⟨g5, 0, none⟩)]] :: fs) := by
    intro n
    induction n with
    | zero => intros; rename_i hm0 _ _ _ _; cases hm0
    | succ n ih => intros; rename_i hm0 hS0 h0 h1 h2; exact magic_Count_2_wB (rec_magic_Count_2 := magic_Count_2_mF n) (fun hm hS h0 h1 h2 => ih hm hS h0 h1 h2) hm0 hS0 h0 h1 h2
  obtain ⟨n, hn⟩ := recM_some hm
  exact key n hn hS hr_p51 _hc_p51 _hn_p51

set_option maxRecDepth 100000 in
theorem magic_Count_2_J7_le_magic_Count_2 {rec_magic_Count_21 rec_magic_Count_22 : Int → Int → Int → List Int → Int → List Int → Option (List Int × Int)} (h_rec_magic_Count_2 : ∀ a0 a1 a2 a3 a4 a5, Le (rec_magic_Count_21 a0 a1 a2 a3 a4 a5) (rec_magic_Count_22 a0 a1 a2 a3 a4 a5)) (at1 : Int) (used1 : Int) (p21 : Int) (p51 : List Int) (z1 : List Int) (z2 : Int) (v1 : Int) : Le (magic_Count_2_J7 rec_magic_Count_21 at1 used1 p21 p51 z1 z2 v1) (magic_Count_2_J7 rec_magic_Count_22 at1 used1 p21 p51 z1 z2 v1) := by
  unfold magic_Count_2_J7
  repeat' (first | with_reducible exact Le.refl _ | with_reducible exact h_rec_magic_Count_2 _ _ _ _ _ _ | with_reducible refine Le.asrt ?_ | with_reducible refine Le.ite ?_ ?_ | refine Le.bind ?_ (fun _ => ?_) | refine Le.loop2 (fun _ => ?_) | refine Le.elim2 (fun _ => ?_) (fun _ => ?_))

set_option maxRecDepth 100000 in
theorem magic_Count_2_J8_le_magic_Count_2 {rec_magic_Count_21 rec_magic_Count_22 : Int → Int → Int → List Int → Int → List Int → Option (List Int × Int)} (h_rec_magic_Count_2 : ∀ a0 a1 a2 a3 a4 a5, Le (rec_magic_Count_21 a0 a1 a2 a3 a4 a5) (rec_magic_Count_22 a0 a1 a2 a3 a4 a5)) (at1 : Int) (used1 : Int) (p21 : Int) (p51 : List Int) (z1 : List Int) (z2 : Int) (v1 : Int) (z5 : Bool) : Le (magic_Count_2_J8 rec_magic_Count_21 at1 used1 p21 p51 z1 z2 v1 z5) (magic_Count_2_J8 rec_magic_Count_22 at1 used1 p21 p51 z1 z2 v1 z5) := by
  unfold magic_Count_2_J8
  repeat' (first | with_reducible exact Le.refl _ | with_reducible exact h_rec_magic_Count_2 _ _ _ _ _ _ | with_reducible exact magic_Count_2_J7_le_magic_Count_2 h_rec_magic_Count_2 _ _ _ _ _ _ _ | with_reducible refine Le.asrt ?_ | with_reducible refine Le.ite ?_ ?_ | refine Le.bind ?_ (fun _ => ?_) | refine Le.loop2 (fun _ => ?_) | refine Le.elim2 (fun _ => ?_) (fun _ => ?_))

set_option maxRecDepth 100000 in
theorem magic_Count_2_J6_le_magic_Count_2 {rec_magic_Count_21 rec_magic_Count_22 : Int → Int → Int → List Int → Int → List Int → Option (List Int × Int)} (h_rec_magic_Count_2 : ∀ a0 a1 a2 a3 a4 a5, Le (rec_magic_Count_21 a0 a1 a2 a3 a4 a5) (rec_magic_Count_22 a0 a1 a2 a3 a4 a5)) (at1 : Int) (used1 : Int) (p21 : Int) (p31 : List Int) (p51 : List Int) (z1 : List Int) (z2 : Int) (v1 : Int) : Le (magic_Count_2_J6 rec_magic_Count_21 at1 used1 p21 p31 p51 z1 z2 v1) (magic_Count_2_J6 rec_magic_Count_22 at1 used1 p21 p31 p51 z1 z2 v1) := by
  unfold magic_Count_2_J6
  repeat' (first | with_reducible exact Le.refl _ | with_reducible exact h_rec_magic_Count_2 _ _ _ _ _ _ | with_reducible exact magic_Count_2_J8_le_magic_Count_2 h_rec_magic_Count_2 _ _ _ _ _ _ _ _ | with_reducible refine Le.asrt ?_ | with_reducible refine Le.ite ?_ ?_ | refine Le.bind ?_ (fun _ => ?_) | refine Le.loop2 (fun _ => ?_) | refine Le.elim2 (fun _ => ?_) (fun _ => ?_))

set_option maxRecDepth 100000 in
theorem magic_Count_2_J4_le_magic_Count_2 {rec_magic_Count_21 rec_magic_Count_22 : Int → Int → Int → List Int → Int → List Int → Option (List Int × Int)} (h_rec_magic_Count_2 : ∀ a0 a1 a2 a3 a4 a5, Le (rec_magic_Count_21 a0 a1 a2 a3 a4 a5) (rec_magic_Count_22 a0 a1 a2 a3 a4 a5)) (at1 : Int) (used1 : Int) (p21 : Int) (p31 : List Int) (p51 : List Int) (z1 : List Int) (z2 : Int) (v1 : Int) : Le (magic_Count_2_J4 rec_magic_Count_21 at1 used1 p21 p31 p51 z1 z2 v1) (magic_Count_2_J4 rec_magic_Count_22 at1 used1 p21 p31 p51 z1 z2 v1) := by
  unfold magic_Count_2_J4
  repeat' (first | with_reducible exact Le.refl _ | with_reducible exact h_rec_magic_Count_2 _ _ _ _ _ _ | with_reducible exact magic_Count_2_J6_le_magic_Count_2 h_rec_magic_Count_2 _ _ _ _ _ _ _ _ | with_reducible refine Le.asrt ?_ | with_reducible refine Le.ite ?_ ?_ | refine Le.bind ?_ (fun _ => ?_) | refine Le.loop2 (fun _ => ?_) | refine Le.elim2 (fun _ => ?_) (fun _ => ?_))

set_option maxRecDepth 100000 in
theorem magic_Count_2_L1_le_magic_Count_2 {rec_magic_Count_21 rec_magic_Count_22 : Int → Int → Int → List Int → Int → List Int → Option (List Int × Int)} (h_rec_magic_Count_2 : ∀ a0 a1 a2 a3 a4 a5, Le (rec_magic_Count_21 a0 a1 a2 a3 a4 a5) (rec_magic_Count_22 a0 a1 a2 a3 a4 a5)) (at1 : Int) (used1 : Int) (p21 : Int) (p31 : List Int) (p51 : List Int) (x : (List Int × Int × Int)) : Le (magic_Count_2_L1 rec_magic_Count_21 at1 used1 p21 p31 p51 x) (magic_Count_2_L1 rec_magic_Count_22 at1 used1 p21 p31 p51 x) := by
  rcases x with ⟨z1, z2, v1⟩
  all_goals
    unfold magic_Count_2_L1
    try dsimp only
    repeat' (first | with_reducible exact Le.refl _ | with_reducible exact h_rec_magic_Count_2 _ _ _ _ _ _ | with_reducible exact magic_Count_2_J4_le_magic_Count_2 h_rec_magic_Count_2 _ _ _ _ _ _ _ _ | with_reducible refine Le.asrt ?_ | with_reducible refine Le.ite ?_ ?_ | refine Le.bind ?_ (fun _ => ?_) | refine Le.loop2 (fun _ => ?_) | refine Le.elim2 (fun _ => ?_) (fun _ => ?_))

set_option maxRecDepth 100000 in
theorem magic_Count_2_J2_le_magic_Count_2 {rec_magic_Count_21 rec_magic_Count_22 : Int → Int → Int → List Int → Int → List Int → Option (List Int × Int)} (h_rec_magic_Count_2 : ∀ a0 a1 a2 a3 a4 a5, Le (rec_magic_Count_21 a0 a1 a2 a3 a4 a5) (rec_magic_Count_22 a0 a1 a2 a3 a4 a5)) (at1 : Int) (used1 : Int) (p21 : Int) (p31 : List Int) (p41 : Int) (p51 : List Int) : Le (magic_Count_2_J2 rec_magic_Count_21 at1 used1 p21 p31 p41 p51) (magic_Count_2_J2 rec_magic_Count_22 at1 used1 p21 p31 p41 p51) := by
  unfold magic_Count_2_J2
  repeat' (first | with_reducible exact Le.refl _ | with_reducible exact h_rec_magic_Count_2 _ _ _ _ _ _ | with_reducible exact magic_Count_2_L1_le_magic_Count_2 h_rec_magic_Count_2 _ _ _ _ _ _ | with_reducible refine Le.asrt ?_ | with_reducible refine Le.ite ?_ ?_ | refine Le.bind ?_ (fun _ => ?_) | refine Le.loop2 (fun _ => ?_) | refine Le.elim2 (fun _ => ?_) (fun _ => ?_))

set_option maxRecDepth 100000 in
theorem magic_Count_2_B_le {rec_magic_Count_21 rec_magic_Count_22 : Int → Int → Int → List Int → Int → List Int → Option (List Int × Int)} (h_rec_magic_Count_2 : ∀ a0 a1 a2 a3 a4 a5, Le (rec_magic_Count_21 a0 a1 a2 a3 a4 a5) (rec_magic_Count_22 a0 a1 a2 a3 a4 a5)) (at1 : Int) (used1 : Int) (p21 : Int) (p31 : List Int) (p41 : Int) (p51 : List Int) : Le (magic_Count_2_B rec_magic_Count_21 at1 used1 p21 p31 p41 p51) (magic_Count_2_B rec_magic_Count_22 at1 used1 p21 p31 p41 p51) := by
  unfold magic_Count_2_B
  repeat' (first | with_reducible exact Le.refl _ | with_reducible exact h_rec_magic_Count_2 _ _ _ _ _ _ | with_reducible exact magic_Count_2_J2_le_magic_Count_2 h_rec_magic_Count_2 _ _ _ _ _ _ | with_reducible refine Le.asrt ?_ | with_reducible refine Le.ite ?_ ?_ | refine Le.bind ?_ (fun _ => ?_) | refine Le.loop2 (fun _ => ?_) | refine Le.elim2 (fun _ => ?_) (fun _ => ?_))

set_option maxRecDepth 100000 in
theorem magic_Count_2_mF_le : ∀ (n : Nat) (at1 : Int) (used1 : Int) (p21 : Int) (p31 : List Int) (p41 : Int) (p51 : List Int), Le (magic_Count_2_mF n at1 used1 p21 p31 p41 p51) (magic_Count_2_mF (n + 1) at1 used1 p21 p31 p41 p51)
  | 0, _, _, _, _, _, _ => fun _ h => by cases h
  | n + 1, _, _, _, _, _, _ => magic_Count_2_B_le (fun a0 a1 a2 a3 a4 a5 => magic_Count_2_mF_le n a0 a1 a2 a3 a4 a5) _ _ _ _ _ _

set_option maxRecDepth 100000 in
theorem magic_Count_2_m_of (N : Nat) (at1 : Int) (used1 : Int) (p21 : Int) (p31 : List Int) (p41 : Int) (p51 : List Int) {r : (List Int × Int)} (h : magic_Count_2_mF N at1 used1 p21 p31 p41 p51 = some r) : magic_Count_2_m at1 used1 p21 p31 p41 p51 = some r :=
  recM_mono (fun n => magic_Count_2_mF_le n _ _ _ _ _ _) h

noncomputable def magic_Count_J1  (n1 : Int) (given1 : List Int) : Option (Int × Int) :=
  asrt ((0 : Int) ≤ (w64 (n1 * n1)) ∧ (w64 (n1 * n1)) ≤ bigN) <| (magic_Count_2_m 0 0 n1 (List.replicate (Int.toNat (w64 (n1 * n1))) (0 : Int)) 0 given1).bind fun r2 => some (r2.2, 0)

noncomputable def magic_Count_m  (n1 : Int) (given1 : List Int) : Option (Int × Int) :=
  if ((decide (n1 < 1)) || (decide ((3 : Int) < n1))) then (some (0, 3)) else (if ((given1.length : Int) != (w64 (n1 * n1))) then (some (0, 2)) else ((slices_ContainsFunc_m given1 n1).bind fun r1 => if r1 then (some (0, 4)) else ((magic_Count_J1 n1 given1))))

set_option maxRecDepth 100000 in
set_option maxHeartbeats 4000000 in
theorem magic_Count_w {n1 : Int} {A1 : Option Addr} {c1 : Nat} {n2 : Nat} {given1 : List Int} {r : (Int × Int)} {w0 w : World} {B : Nat} {fs : List HP} (hm : magic_Count_m n1 given1 = some r) (hS : Sep w0 B w (fs)) (hr_given1 : RdF w0 B fs A1 (vI given1)) (_hc_given1 : given1.length ≤ c1) (_hn_given1 : n2 = given1.length) :
    Calls Try.prog 39 #[.int .i64 n1, .slice A1 n2 c1] w fun e w' => e = .returned (.tuple #[.int .i64 r.1, .int .i64 r.2]) ∧ Sep w0 B w' (fs) := by
  obtain ⟨i3, hi3, hz3, hs3, hb3⟩ := info_parts Info3
  obtain ⟨i34, hi34, hz34, hs34, hb34⟩ := info_parts Info34
  obtain ⟨i135, hi135, hz135, hs135, hb135⟩ := info_parts Info135
  obtain rfl := _hn_given1
  unfold magic_Count_m at hm
  replace hm := start_b hm
  refine enter (l := [.int .i64 n1, .slice A1 given1.length c1]) (n := 35) Try.func39 rfl rfl (by simp) (fun a hF => ?_)
  refine seqR ?_
  refine at_do (d := 2) (s := vS (Instr.box 3 (.int .i64 n1))) (v := .pointer (some ⟨w.heap.size, 0, none⟩)) (w' := w.alloc (.cells #[.int .i64 n1] 3)) hF (by kernel_rfl) (by kernel_rfl) (by kernel_rfl) (fun a hF => ?_)
  have hS : Sep w0 B (w.alloc (.cells #[.int .i64 n1] 3)) (blk w.heap.size 3 #[.int .i64 n1] :: (fs)) := hS.box 3 #[.int .i64 n1]
  generalize w.heap.size = g1 at hF hS
  generalize w.alloc (.cells #[.int .i64 n1] 3) = w at hS ⊢
  refine at_do (d := 3) (s := vS (Instr.box 34 (.slice A1 given1.length c1))) (v := .pointer (some ⟨w.heap.size, 0, none⟩)) (w' := w.alloc (.cells #[.slice A1 given1.length c1] 34)) hF (by kernel_rfl) (by kernel_rfl) (by kernel_rfl) (fun a hF => ?_)
  have hS : Sep w0 B (w.alloc (.cells #[.slice A1 given1.length c1] 34)) (blk w.heap.size 34 #[.slice A1 given1.length c1] :: (blk g1 3 #[.int .i64 n1] :: fs)) := hS.box 34 #[.slice A1 given1.length c1]
  generalize w.heap.size = g2 at hF hS
  generalize w.alloc (.cells #[.slice A1 given1.length c1] 34) = w at hS ⊢
  refine at_run 2 [] [] [2, 3] [pl 2 (.pointer (some ⟨g1, 0, none⟩)), pl 3 (.pointer (some ⟨g2, 0, none⟩))] hF hS (by kernel_rfl) (by kernel_rfl) ?_ (fun a w hF hS => ?_)
  · exact obs_nil
  refine at_end [2, 3] [pl 2 (.pointer (some ⟨g1, 0, none⟩)), pl 3 (.pointer (some ⟨g2, 0, none⟩))] hF rfl (by kernel_rfl) (fun hF => ?_)
  refine then_n ?_
  refine seq_cut (fun a w => Fr 35 [pl 2 (.pointer (some ⟨g1, 0, none⟩)), pl 3 (.pointer (some ⟨g2, 0, none⟩))] a ∧ Sep w0 B w (blk g1 3 #[.int .i64 n1] :: blk g2 34 #[.slice A1 given1.length c1] :: fs) ∧ ((magic_Count_J1 n1 given1)).bind some = some r) ?_ ?_
  · rintro a w ⟨hF, hS, hm⟩
    unfold magic_Count_J1 at hm
    refine seqR ?_
    obtain ⟨hp1, hm⟩ := asrt_b hm
    refine at_run 3 [⟨false, [], vS (Instr.loadAt 3 (.pointer (some ⟨g1, 0, none⟩))), .int .i64 n1⟩, ⟨false, [], vS (Instr.loadAt 3 (.pointer (some ⟨g1, 0, none⟩))), .int .i64 n1⟩] [some (.int .i64 n1), some (.int .i64 n1), none] [2, 3, 29] [pl 2 (.pointer (some ⟨g1, 0, none⟩)), pl 3 (.pointer (some ⟨g2, 0, none⟩)), pl 29 (.int .i64 (w64 (n1 * n1)))] hF hS (by kernel_rfl) (by kernel_rfl) ?_ (fun a w hF hS => ?_)
    · exact obs_cons (ob_load Agg3 (fun _ _ hS => (hS.at_ 0 rfl).cell rfl)) <| obs_cons (ob_load Agg3 (fun _ _ hS => (hS.at_ 0 rfl).cell rfl)) <| obs_nil
    obtain ⟨A2, c2, w, hrun, hS⟩ := run_mk1 (P := Try.prog) (t := 34) (Value.int .i64) (0 : Int) hS .i64 .i64 Und34 hi3 hz3 hs3 (by omega) rfl hp1
    have hS : Sep w0 B w (own 3 (.slice A2 (Int.toNat (w64 (n1 * n1))) c2) (vI (List.replicate (Int.toNat (w64 (n1 * n1))) (0 : Int))) :: blk g1 3 #[.int .i64 n1] :: blk g2 34 #[.slice A1 given1.length c1] :: fs) := hS
    refine at_do (d := 30) hF (by kernel_rfl) (by kernel_rfl) hrun (fun a hF => ?_)
    refine at_do (d := 6) (s := vS (Instr.alloc 34 true (.tuple #[]))) (v := .pointer (some ⟨w.heap.size, 0, none⟩)) (w' := w.alloc (.cells #[.slice none 0 0] 34)) hF (by kernel_rfl) (by kernel_rfl) (by kernel_rfl) (fun a hF => ?_)
    have hS : Sep w0 B (w.alloc (.cells #[.slice none 0 0] 34)) (blk w.heap.size 34 #[.slice none 0 0] :: (own 3 (.slice A2 (Int.toNat (w64 (n1 * n1))) c2) (vI (List.replicate (Int.toNat (w64 (n1 * n1))) (0 : Int))) :: blk g1 3 #[.int .i64 n1] :: blk g2 34 #[.slice A1 given1.length c1] :: fs)) := hS.box 34 #[.slice none 0 0]
    generalize w.heap.size = g3 at hF hS
    generalize w.alloc (.cells #[.slice none 0 0] 34) = w at hS ⊢
    obtain ⟨w, hrun, hS⟩ := run_put (P := Try.prog) (t := 34) (u := .slice A2 (Int.toNat (w64 (n1 * n1))) c2) (i := 0) (hS.at_ 0 rfl) hi34 hs34 rfl (Nat.lt_of_lt_of_eq (Nat.lt_of_succ_le (Nat.le_of_ble_eq_true (by kernel_rfl))) rfl)
    refine at_skip hF (by kernel_rfl) hrun ?_
    have hS : Sep w0 B w (blk g3 34 #[.slice A2 (Int.toNat (w64 (n1 * n1))) c2] :: own 3 (.slice A2 (Int.toNat (w64 (n1 * n1))) c2) (vI (List.replicate (Int.toNat (w64 (n1 * n1))) (0 : Int))) :: blk g1 3 #[.int .i64 n1] :: blk g2 34 #[.slice A1 given1.length c1] :: fs) := hS
    refine at_end [2, 3, 6] [pl 2 (.pointer (some ⟨g1, 0, none⟩)), pl 3 (.pointer (some ⟨g2, 0, none⟩)), pl 6 (.pointer (some ⟨g3, 0, none⟩))] hF rfl (by kernel_rfl) (fun hF => ?_)
    refine then_n ?_
    refine seqR ?_
    refine at_do (d := 7) (s := vS (Instr.alloc 3 true (.tuple #[]))) (v := .pointer (some ⟨w.heap.size, 0, none⟩)) (w' := w.alloc (.cells #[.int .i64 0] 3)) hF (by kernel_rfl) (by kernel_rfl) (by kernel_rfl) (fun a hF => ?_)
    have hS : Sep w0 B (w.alloc (.cells #[.int .i64 0] 3)) (blk w.heap.size 3 #[.int .i64 0] :: (blk g3 34 #[.slice A2 (Int.toNat (w64 (n1 * n1))) c2] :: own 3 (.slice A2 (Int.toNat (w64 (n1 * n1))) c2) (vI (List.replicate (Int.toNat (w64 (n1 * n1))) (0 : Int))) :: blk g1 3 #[.int .i64 n1] :: blk g2 34 #[.slice A1 given1.length c1] :: fs)) := hS.box 3 #[.int .i64 0]
    generalize w.heap.size = g4 at hF hS
    generalize w.alloc (.cells #[.int .i64 0] 3) = w at hS ⊢
    obtain ⟨w, hrun, hS⟩ := run_put (P := Try.prog) (t := 3) (u := .int .i64 0) (i := 0) (hS.at_ 0 rfl) hi3 hs3 rfl (Nat.lt_of_lt_of_eq (Nat.lt_of_succ_le (Nat.le_of_ble_eq_true (by kernel_rfl))) rfl)
    refine at_skip hF (by kernel_rfl) hrun ?_
    have hS : Sep w0 B w (blk g4 3 #[.int .i64 0] :: blk g3 34 #[.slice A2 (Int.toNat (w64 (n1 * n1))) c2] :: own 3 (.slice A2 (Int.toNat (w64 (n1 * n1))) c2) (vI (List.replicate (Int.toNat (w64 (n1 * n1))) (0 : Int))) :: blk g1 3 #[.int .i64 n1] :: blk g2 34 #[.slice A1 given1.length c1] :: fs) := hS
    refine at_end [2, 3, 6, 7] [pl 2 (.pointer (some ⟨g1, 0, none⟩)), pl 3 (.pointer (some ⟨g2, 0, none⟩)), pl 6 (.pointer (some ⟨g3, 0, none⟩)), pl 7 (.pointer (some ⟨g4, 0, none⟩))] hF rfl (by kernel_rfl) (fun hF => ?_)
    refine then_n ?_
    refine seqR ?_
    refine at_do (d := 8) (s := vS (Instr.alloc 135 true (.tuple #[]))) (v := .pointer (some ⟨w.heap.size, 0, none⟩)) (w' := w.alloc (.cells #[.nilFunc] 135)) hF (by kernel_rfl) (by kernel_rfl) (by kernel_rfl) (fun a hF => ?_)
    have hS : Sep w0 B (w.alloc (.cells #[.nilFunc] 135)) (blk w.heap.size 135 #[.nilFunc] :: (blk g4 3 #[.int .i64 0] :: blk g3 34 #[.slice A2 (Int.toNat (w64 (n1 * n1))) c2] :: own 3 (.slice A2 (Int.toNat (w64 (n1 * n1))) c2) (vI (List.replicate (Int.toNat (w64 (n1 * n1))) (0 : Int))) :: blk g1 3 #[.int .i64 n1] :: blk g2 34 #[.slice A1 given1.length c1] :: fs)) := hS.box 135 #[.nilFunc]
    generalize w.heap.size = g5 at hF hS
    generalize w.alloc (.cells #[.nilFunc] 135) = w at hS ⊢
    refine at_end [2, 3, 6, 7, 8] [pl 2 (.pointer (some ⟨g1, 0, none⟩)), pl 3 (.pointer (some ⟨g2, 0, none⟩)), pl 6 (.pointer (some ⟨g3, 0, none⟩)), pl 7 (.pointer (some ⟨g4, 0, none⟩)), pl 8 (.pointer (some ⟨g5, 0, none⟩))] hF rfl (by kernel_rfl) (fun hF => ?_)
    refine then_n ?_
    refine seqR ?_
    refine at_run 1 [] [] [7, 8, 31] [pl 7 (.pointer (some ⟨g4, 0, none⟩)), pl 8 (.pointer (some ⟨g5, 0, none⟩)), pl 31 (.func (.func 98) #[] #[.pointer (some ⟨g1, 0, none⟩), .pointer (some ⟨g3, 0, none⟩), .pointer (some ⟨g4, 0, none⟩), .pointer (some ⟨g2, 0, none⟩), .pointer (some ⟨g5, 0, none⟩)])] hF hS (by kernel_rfl) (by kernel_rfl) ?_ (fun a w hF hS => ?_)
    · exact obs_nil
    obtain ⟨w, hrun, hS⟩ := run_put (P := Try.prog) (t := 135) (u := .func (.func 98) #[] #[.pointer (some ⟨g1, 0, none⟩), .pointer (some ⟨g3, 0, none⟩), .pointer (some ⟨g4, 0, none⟩), .pointer (some ⟨g2, 0, none⟩), .pointer (some ⟨g5, 0, none⟩)]) (i := 0) (hS.at_ 0 rfl) hi135 hs135 rfl (Nat.lt_of_lt_of_eq (Nat.lt_of_succ_le (Nat.le_of_ble_eq_true (by kernel_rfl))) rfl)
    refine at_skip hF (by kernel_rfl) hrun ?_
    have hS : Sep w0 B w (blk g5 135 #[.func (.func 98) #[] #[.pointer (some ⟨g1, 0, none⟩), .pointer (some ⟨g3, 0, none⟩), .pointer (some ⟨g4, 0, none⟩), .pointer (some ⟨g2, 0, none⟩), .pointer (some ⟨g5, 0, none⟩)]] :: blk g4 3 #[.int .i64 0] :: blk g3 34 #[.slice A2 (Int.toNat (w64 (n1 * n1))) c2] :: own 3 (.slice A2 (Int.toNat (w64 (n1 * n1))) c2) (vI (List.replicate (Int.toNat (w64 (n1 * n1))) (0 : Int))) :: blk g1 3 #[.int .i64 n1] :: blk g2 34 #[.slice A1 given1.length c1] :: fs) := hS
    refine at_end [7, 8] [pl 7 (.pointer (some ⟨g4, 0, none⟩)), pl 8 (.pointer (some ⟨g5, 0, none⟩))] hF rfl (by kernel_rfl) (fun hF => ?_)
    refine then_n ?_
    refine seqR ?_
    obtain ⟨r2, hr2, hm⟩ := call_b hm
    refine at_run 1 [⟨false, [], vS (Instr.loadAt 135 (.pointer (some ⟨g5, 0, none⟩))), .func (.func 98) #[] #[.pointer (some ⟨g1, 0, none⟩), .pointer (some ⟨g3, 0, none⟩), .pointer (some ⟨g4, 0, none⟩), .pointer (some ⟨g2, 0, none⟩), .pointer (some ⟨g5, 0, none⟩)]⟩] [some (.func (.func 98) #[] #[.pointer (some ⟨g1, 0, none⟩), .pointer (some ⟨g3, 0, none⟩), .pointer (some ⟨g4, 0, none⟩), .pointer (some ⟨g2, 0, none⟩), .pointer (some ⟨g5, 0, none⟩)])] [7, 32] [pl 7 (.pointer (some ⟨g4, 0, none⟩)), pl 32 (.func (.func 98) #[] #[.pointer (some ⟨g1, 0, none⟩), .pointer (some ⟨g3, 0, none⟩), .pointer (some ⟨g4, 0, none⟩), .pointer (some ⟨g2, 0, none⟩), .pointer (some ⟨g5, 0, none⟩)])] hF hS (by kernel_rfl) (by kernel_rfl) ?_ (fun a w hF hS => ?_)
    · exact obs_cons (ob_load Agg135 (fun _ _ hS => (hS.at_ 0 rfl).cell rfl)) <| obs_nil
    have hS : Sep w0 B w (blk g1 3 #[.int .i64 n1] :: blk g3 34 #[.slice A2 (Int.toNat (w64 (n1 * n1))) c2] :: own 3 (.slice A2 (Int.toNat (w64 (n1 * n1))) c2) (vI (List.replicate (Int.toNat (w64 (n1 * n1))) (0 : Int))) :: blk g4 3 #[.int .i64 0] :: blk g2 34 #[.slice A1 given1.length c1] :: blk g5 135 #[.func (.func 98) #[] #[.pointer (some ⟨g1, 0, none⟩), .pointer (some ⟨g3, 0, none⟩), .pointer (some ⟨g4, 0, none⟩), .pointer (some ⟨g2, 0, none⟩), .pointer (some ⟨g5, 0, none⟩)]] :: fs) := hS.pickN 6 [4, 2, 3, 1, 5, 0] (by decide)
    refine at_call (f := 98) (args := #[.int .i64 0, .int .u64 0, .pointer (some ⟨g1, 0, none⟩), .pointer (some ⟨g3, 0, none⟩), .pointer (some ⟨g4, 0, none⟩), .pointer (some ⟨g2, 0, none⟩), .pointer (some ⟨g5, 0, none⟩)]) (d := 33) hF (by kernel_rfl) (by kernel_rfl) Try.func98 (by kernel_rfl) rfl (magic_Count_2_w hr2 hS (fun _ hS => (hr_given1 _ (hS.dropN 0))) _hc_given1 rfl) (fun v a w hR hF => ?_)
    clear hS
    obtain ⟨rfl, hS⟩ := hR
    have hS : Sep w0 B w (blk g1 3 #[.int .i64 n1] :: blk g3 34 #[.slice A2 (Int.toNat (w64 (n1 * n1))) c2] :: own 3 (.slice A2 (Int.toNat (w64 (n1 * n1))) c2) (vI r2.1) :: blk g4 3 #[.int .i64 r2.2] :: blk g2 34 #[.slice A1 given1.length c1] :: blk g5 135 #[.func (.func 98) #[] #[.pointer (some ⟨g1, 0, none⟩), .pointer (some ⟨g3, 0, none⟩), .pointer (some ⟨g4, 0, none⟩), .pointer (some ⟨g2, 0, none⟩), .pointer (some ⟨g5, 0, none⟩)]] :: fs) := hS
    refine at_end [7] [pl 7 (.pointer (some ⟨g4, 0, none⟩))] hF rfl (by kernel_rfl) (fun hF => ?_)
    refine then_n ?_
    refine reg [⟨false, [], vS (Instr.loadAt 3 (.pointer (some ⟨g4, 0, none⟩))), .int .i64 r2.2⟩] [some (.int .i64 r2.2), none, none] [4, 5] [pl 4 (.int .i64 r2.2), pl 5 (.int .i64 0)] hF hS Fol (by kernel_rfl) (by kernel_rfl) (by kernel_rfl) ?_ (fun a w hF hS => ?_)
    · exact obs_cons (ob_load Agg3 (fun _ _ hS => (hS.at_ 3 rfl).cell rfl)) <| obs_nil
    refine wpIn_ret ?_
    have hS := hS.pickN 6 [] (by decide)
    have hm : some (r2.2, 0) = some r := hm
    obtain rfl := Option.some.inj hm
    exact retV (rs := [.tmp 4, .tmp 5]) (vs := [.int .i64 r2.2, .int .i64 0]) hF rfl (rv_t (by kernel_rfl) <| rv_t (by kernel_rfl) <| rv_nil) rfl ⟨rfl, hS⟩
  · refine wpIn_block ?_
    refine reg [⟨false, [], vS (Instr.loadAt 3 (.pointer (some ⟨g1, 0, none⟩))), .int .i64 n1⟩, ⟨false, [(decide (n1 < 1), false)], vS (Instr.loadAt 3 (.pointer (some ⟨g1, 0, none⟩))), .int .i64 n1⟩] [some (.int .i64 n1), none, none, some (.int .i64 n1), none, none, none] [2, 3, 9] [pl 2 (.pointer (some ⟨g1, 0, none⟩)), pl 3 (.pointer (some ⟨g2, 0, none⟩)), pl 9 (.bool ((decide (n1 < 1)) || (decide ((3 : Int) < n1))))] hF hS Fol (by kernel_rfl) (by kernel_rfl) (by kernel_rfl) ?_ (fun a w hF hS => ?_)
    · exact obs_cons (ob_load Agg3 (fun _ _ hS => (hS.at_ 1 rfl).cell rfl)) <| obs_cons (ob_load Agg3 (fun _ _ hS => (hS.at_ 1 rfl).cell rfl)) <| obs_nil
    refine cond_ev (t := 9) (b := (decide (n1 < 1)) || (decide ((3 : Int) < n1))) hF (by kernel_rfl) (fun hb => ?_) (fun hb => ?_)
    · replace hm := if_t hm hb
      refine reg [] [] [4, 5] [pl 4 (.int .i64 0), pl 5 (.int .i64 3)] hF hS Fol (by kernel_rfl) (by kernel_rfl) (by kernel_rfl) ?_ (fun a w hF hS => ?_)
      · exact obs_nil
      refine wpIn_ret ?_
      refine block_r (then_r ?_)
      have hS := hS.pickN 2 [] (by decide)
      have hm : some (0, 3) = some r := hm
      obtain rfl := Option.some.inj hm
      exact retV (rs := [.tmp 4, .tmp 5]) (vs := [.int .i64 0, .int .i64 3]) hF rfl (rv_t (by kernel_rfl) <| rv_t (by kernel_rfl) <| rv_nil) rfl ⟨rfl, hS⟩
    · replace hm := if_f hm hb
      refine reg [⟨false, [], vS (Instr.loadAt 34 (.pointer (some ⟨g2, 0, none⟩))), .slice A1 given1.length c1⟩, ⟨false, [], vS (Instr.loadAt 3 (.pointer (some ⟨g1, 0, none⟩))), .int .i64 n1⟩, ⟨false, [], vS (Instr.loadAt 3 (.pointer (some ⟨g1, 0, none⟩))), .int .i64 n1⟩] [some (.slice A1 given1.length c1), none, some (.int .i64 n1), some (.int .i64 n1), none, none, none] [2, 3, 16] [pl 2 (.pointer (some ⟨g1, 0, none⟩)), pl 3 (.pointer (some ⟨g2, 0, none⟩)), pl 16 (.bool ((given1.length : Int) != (w64 (n1 * n1))))] hF hS Fol (by kernel_rfl) (by kernel_rfl) (by kernel_rfl) ?_ (fun a w hF hS => ?_)
      · exact obs_cons (ob_load Agg34 (fun _ _ hS => (hS.at_ 0 rfl).cell rfl)) <| obs_cons (ob_load Agg3 (fun _ _ hS => (hS.at_ 1 rfl).cell rfl)) <| obs_cons (ob_load Agg3 (fun _ _ hS => (hS.at_ 1 rfl).cell rfl)) <| obs_nil
      refine cond_ev (t := 16) (b := ((given1.length : Int) != (w64 (n1 * n1)))) hF (by kernel_rfl) (fun hb => ?_) (fun hb => ?_)
      · replace hm := if_t hm hb
        refine reg [] [] [4, 5] [pl 4 (.int .i64 0), pl 5 (.int .i64 2)] hF hS Fol (by kernel_rfl) (by kernel_rfl) (by kernel_rfl) ?_ (fun a w hF hS => ?_)
        · exact obs_nil
        refine wpIn_ret ?_
        refine block_r (then_r ?_)
        have hS := hS.pickN 2 [] (by decide)
        have hm : some (0, 2) = some r := hm
        obtain rfl := Option.some.inj hm
        exact retV (rs := [.tmp 4, .tmp 5]) (vs := [.int .i64 0, .int .i64 2]) hF rfl (rv_t (by kernel_rfl) <| rv_t (by kernel_rfl) <| rv_nil) rfl ⟨rfl, hS⟩
      · replace hm := if_f hm hb
        obtain ⟨r1, hr1, hm⟩ := call_b hm
        refine reg [⟨false, [], vS (Instr.loadAt 34 (.pointer (some ⟨g2, 0, none⟩))), .slice A1 given1.length c1⟩, ⟨false, [], callFunc 87 #[.slice A1 given1.length c1, .func (.func 97) #[] #[.pointer (some ⟨g1, 0, none⟩)]], .bool r1⟩] [some (.slice A1 given1.length c1), none, some (.bool r1), none] [2, 3, 23] [pl 2 (.pointer (some ⟨g1, 0, none⟩)), pl 3 (.pointer (some ⟨g2, 0, none⟩)), pl 23 (.bool r1)] hF hS Fol (by kernel_rfl) (by kernel_rfl) (by kernel_rfl) ?_ (fun a w hF hS => ?_)
        · exact obs_cons (ob_load Agg34 (fun _ _ hS => (hS.at_ 0 rfl).cell rfl)) <| obs_cons (ob_call Try.func87 (by kernel_rfl) rfl (fun _ _ hS => quiet_pick hS 2 [1, 0] (by decide) [1, 0] (by decide) (qs := (blk g1 3 #[.int .i64 n1] :: blk g2 34 #[.slice A1 given1.length c1] :: fs)) rfl (fun hS => slices_ContainsFunc_w hr1 hS (fun _ hS => (hr_given1 _ (hS.dropN 1))) _hc_given1 rfl) 2 rfl)) <| obs_nil
        refine cond_ev (t := 23) (b := r1) hF (by kernel_rfl) (fun hb => ?_) (fun hb => ?_)
        · replace hm := if_t hm hb
          refine reg [] [] [4, 5] [pl 4 (.int .i64 0), pl 5 (.int .i64 4)] hF hS Fol (by kernel_rfl) (by kernel_rfl) (by kernel_rfl) ?_ (fun a w hF hS => ?_)
          · exact obs_nil
          refine wpIn_ret ?_
          refine block_r (then_r ?_)
          have hS := hS.pickN 2 [] (by decide)
          have hm : some (0, 4) = some r := hm
          obtain rfl := Option.some.inj hm
          exact retV (rs := [.tmp 4, .tmp 5]) (vs := [.int .i64 0, .int .i64 4]) hF rfl (rv_t (by kernel_rfl) <| rv_t (by kernel_rfl) <| rv_nil) rfl ⟨rfl, hS⟩
        · replace hm := if_f hm hb
          refine wpIn_skip ?_
          refine block_n ?_
          refine then_n ?_
          have hS := hS.pickN 2 [1, 0] (by decide)
          exact ⟨hF.weak [2, 3] (by kernel_rfl), hS, hm⟩

noncomputable def gameroomref_MagicSide_J2  (n2 : Int) : Option (St Int Int) :=
  some (.next (w64 (n2 + 1)))

noncomputable def gameroomref_MagicSide_J3  (n3 : Int) : Option Int :=
  some n3

noncomputable def gameroomref_MagicSide_J1  (l1 : List Int) (n3 : Int) : Option Int :=
  if (((w64 (n3 * n3)) != (l1.length : Int)) || (decide ((12 : Int) < n3))) then (some 0) else ((gameroomref_MagicSide_J3 n3))

noncomputable def gameroomref_MagicSide_K1  (l1 : List Int) : Int → Option Int :=
  fun (x : Int) => match x with | n3 => (gameroomref_MagicSide_J1 l1) n3

noncomputable def gameroomref_MagicSide_L1  (l1 : List Int) : Int → Option (St Int Int) :=
  fun (x : Int) => match x with | n2 => if (decide ((w64 (n2 * n2)) < (l1.length : Int))) then ((gameroomref_MagicSide_J2 n2)) else (some (.done n2))

noncomputable def gameroomref_MagicSide_m  (l1 : List Int) : Option Int :=
  (loop (gameroomref_MagicSide_L1 l1) 1).bind (gameroomref_MagicSide_K1 l1)

set_option maxRecDepth 100000 in
set_option maxHeartbeats 4000000 in
theorem gameroomref_MagicSide_w {A1 : Option Addr} {c1 : Nat} {n1 : Nat} {l1 : List Int} {r : Int} {w0 w : World} {B : Nat} {fs : List HP} (hm : gameroomref_MagicSide_m l1 = some r) (hS : Sep w0 B w (fs)) (hr_l1 : RdF w0 B fs A1 (vI l1)) (_hc_l1 : l1.length ≤ c1) (_hn_l1 : n1 = l1.length) :
    Calls Try.prog 46 #[.slice A1 n1 c1] w fun e w' => e = .returned (.int .i64 r) ∧ Sep w0 B w' (fs) := by
  obtain ⟨i3, hi3, hz3, hs3, hb3⟩ := info_parts Info3
  obtain rfl := _hn_l1
  unfold gameroomref_MagicSide_m at hm
  replace hm := start_b hm
  refine enter (l := [.slice A1 l1.length c1]) (n := 23) Try.func46 rfl rfl (by simp) (fun a hF => ?_)
  refine reg [] [] [0] [pl 0 (.slice A1 l1.length c1)] hF hS Fol (by kernel_rfl) (by kernel_rfl) (by kernel_rfl) ?_ (fun a w hF hS => ?_)
  · exact obs_nil
  refine reg [] [] [0, 3] [pl 0 (.slice A1 l1.length c1), pl 3 (.int .i64 1)] hF hS Fol (by kernel_rfl) (by kernel_rfl) (by kernel_rfl) ?_ (fun a w hF hS => ?_)
  · exact obs_nil
  refine seq_cut (fun a w => ∃ (n3 : Int), Fr 23 [pl 0 (.slice A1 l1.length c1), pl 3 (.int .i64 n3)] a ∧ Sep w0 B w (fs) ∧ ((gameroomref_MagicSide_J1 l1) n3).bind some = some r) ?_ ?_
  · rintro a w ⟨n3, hF, hS, hm⟩
    unfold gameroomref_MagicSide_J1 at hm
    refine seq_cut (fun a w => Fr 23 [pl 3 (.int .i64 n3)] a ∧ Sep w0 B w (fs) ∧ ((gameroomref_MagicSide_J3 n3)).bind some = some r) ?_ ?_
    · rintro a w ⟨hF, hS, hm⟩
      unfold gameroomref_MagicSide_J3 at hm
      refine reg [] [] [2] [pl 2 (.int .i64 n3)] hF hS Fol (by kernel_rfl) (by kernel_rfl) (by kernel_rfl) ?_ (fun a w hF hS => ?_)
      · exact obs_nil
      refine wpIn_ret ?_
      have hm : some n3 = some r := hm
      obtain rfl := Option.some.inj hm
      exact retV (rs := [.tmp 2]) (vs := [.int .i64 n3]) hF rfl (rv_t (by kernel_rfl) <| rv_nil) rfl ⟨rfl, hS⟩
    · refine reg [] [] [3, 21] [pl 3 (.int .i64 n3), pl 21 (.bool (((w64 (n3 * n3)) != (l1.length : Int)) || (decide ((12 : Int) < n3))))] hF hS Fol (by kernel_rfl) (by kernel_rfl) (by kernel_rfl) ?_ (fun a w hF hS => ?_)
      · exact obs_nil
      refine cond_ev (t := 21) (b := ((w64 (n3 * n3)) != (l1.length : Int)) || (decide ((12 : Int) < n3))) hF (by kernel_rfl) (fun hb => ?_) (fun hb => ?_)
      · replace hm := if_t hm hb
        refine reg [] [] [2] [pl 2 (.int .i64 0)] hF hS Fol (by kernel_rfl) (by kernel_rfl) (by kernel_rfl) ?_ (fun a w hF hS => ?_)
        · exact obs_nil
        refine wpIn_ret ?_
        refine then_r ?_
        have hm : some 0 = some r := hm
        obtain rfl := Option.some.inj hm
        exact retV (rs := [.tmp 2]) (vs := [.int .i64 0]) hF rfl (rv_t (by kernel_rfl) <| rv_nil) rfl ⟨rfl, hS⟩
      · replace hm := if_f hm hb
        refine wpIn_skip ?_
        refine then_n ?_
        exact ⟨hF.weak [3] (by kernel_rfl), hS, hm⟩
  · refine wpIn_block ?_
    refine wp_loop_model (S := Int) (R := Int) (gameroomref_MagicSide_L1 l1) (fun x => ((gameroomref_MagicSide_K1 l1) x).bind some) r (fun (x : Int) a w => Fr 23 [pl 0 (.slice A1 l1.length c1), pl 3 (.int .i64 x)] a ∧ Sep w0 B w (fs)) (assoc_b hm) ⟨hF.weak [0, 3] (by kernel_rfl), hS⟩ ?_
    clear hF hS hm
    rintro nn1 n2 a w ⟨hF, hS⟩ hm
    generalize hφ1 : stK (gameroomref_MagicSide_L1 l1) nn1 (fun x => ((gameroomref_MagicSide_K1 l1) x).bind some) = φ1 at hm
    unfold gameroomref_MagicSide_L1 at hm
    dsimp only at hm
    refine seq_cut (fun a w => Fr 23 [pl 0 (.slice A1 l1.length c1), pl 3 (.int .i64 n2)] a ∧ Sep w0 B w (fs) ∧ ((gameroomref_MagicSide_J2 n2)).bind φ1 = some r) ?_ ?_
    · rintro a w ⟨hF, hS, hm⟩
      unfold gameroomref_MagicSide_J2 at hm
      refine wpIn_block ?_
      refine reg1 [] [] [0, 3] [pl 0 (.slice A1 l1.length c1), pl 3 (.int .i64 (w64 (n2 + 1)))] hF hS Fol (by kernel_rfl) (by kernel_rfl) (by kernel_rfl) ?_ (fun a w hF hS => ?_)
      · exact obs_nil
      refine block_n ?_
      refine then_n ?_
      rw [← hφ1] at hm
      exact ⟨(w64 (n2 + 1)), ⟨hF.weak [0, 3] (by kernel_rfl), hS⟩, hm⟩
    · refine reg [] [] [0, 3, 9] [pl 0 (.slice A1 l1.length c1), pl 3 (.int .i64 n2), pl 9 (.bool (decide ((w64 (n2 * n2)) < (l1.length : Int))))] hF hS Fol (by kernel_rfl) (by kernel_rfl) (by kernel_rfl) ?_ (fun a w hF hS => ?_)
      · exact obs_nil
      refine cond_ev (t := 9) (b := decide ((w64 (n2 * n2)) < (l1.length : Int))) hF (by kernel_rfl) (fun hb => ?_) (fun hb => ?_)
      · replace hm := if_t hm hb
        refine wpIn_skip ?_
        refine then_n ?_
        exact ⟨hF.weak [0, 3] (by kernel_rfl), hS, hm⟩
      · replace hm := if_f hm hb
        refine wpIn_exit ?_
        refine then_e (then_e (block_e (then_n ?_)))
        rw [← hφ1] at hm
        replace hm := done_b hm
        unfold gameroomref_MagicSide_K1 at hm
        try dsimp only at hm
        have hm : ((gameroomref_MagicSide_J1 l1) n2).bind some = some r := hm
        exact ⟨n2, hF.weak [0, 3] (by kernel_rfl), hS, hm⟩

noncomputable def gameroomref_MagicKind_J3  (l1 : List Int) (want1 : Int) (x1 : Int) : Option (St (Int × Int) Int) :=
  some (.next ((w64 (want1 + (geti l1 x1))), (w64 (x1 + 1))))

noncomputable def gameroomref_MagicKind_J2  (l1 : List Int) (want1 : Int) (x1 : Int) : Option (St (Int × Int) Int) :=
  asrt (0 ≤ x1 ∧ x1 < (l1.length : Int)) <| (gameroomref_MagicKind_J3 l1 want1 x1)

noncomputable def gameroomref_MagicKind_J9  (l1 : List Int) (r1 : Int) (k1 : Int) (row1 : Int) (column1 : Int) (i1 : Int) : Option (St (Int × Int × Int) (Int × Int)) :=
  some (.next ((w64 (row1 + (geti l1 (w64 ((w64 (k1 * r1)) + i1))))), (w64 (column1 + (geti l1 (w64 ((w64 (i1 * r1)) + k1))))), (w64 (i1 + 1))))

noncomputable def gameroomref_MagicKind_J8  (l1 : List Int) (r1 : Int) (k1 : Int) (row1 : Int) (column1 : Int) (i1 : Int) : Option (St (Int × Int × Int) (Int × Int)) :=
  asrt (0 ≤ (w64 ((w64 (k1 * r1)) + i1)) ∧ (w64 ((w64 (k1 * r1)) + i1)) < (l1.length : Int)) <| asrt (0 ≤ (w64 ((w64 (i1 * r1)) + k1)) ∧ (w64 ((w64 (i1 * r1)) + k1)) < (l1.length : Int)) <| (gameroomref_MagicKind_J9 l1 r1 k1 row1 column1 i1)

noncomputable def gameroomref_MagicKind_L3  (l1 : List Int) (r1 : Int) (k1 : Int) : (Int × Int × Int) → Option (St (Int × Int × Int) (Int × Int)) :=
  fun (x : (Int × Int × Int)) => match x with | (row1, column1, i1) => if (decide (i1 < r1)) then ((gameroomref_MagicKind_J8 l1 r1 k1 row1 column1 i1)) else (some (.done (row1, column1)))

noncomputable def gameroomref_MagicKind_J6  (k1 : Int) : Option (St Int (Fl Unit (Int × Int))) :=
  some (.next (w64 (k1 + 1)))

noncomputable def gameroomref_MagicKind_J7  (want2 : Int) (k1 : Int) (row2 : Int) (column2 : Int) : Option (St Int (Fl Unit (Int × Int))) :=
  if ((row2 != want2) || (column2 != want2)) then (some (.done (.ret (0, 0)))) else ((gameroomref_MagicKind_J6 k1))

noncomputable def gameroomref_MagicKind_K3  (want2 : Int) (k1 : Int) : (Int × Int) → Option (St Int (Fl Unit (Int × Int))) :=
  fun (x : (Int × Int)) => match x with | (row2, column2) => (gameroomref_MagicKind_J7 want2 k1) row2 column2

noncomputable def gameroomref_MagicKind_J5  (l1 : List Int) (r1 : Int) (want2 : Int) (k1 : Int) : Option (St Int (Fl Unit (Int × Int))) :=
  (loop (gameroomref_MagicKind_L3 l1 r1 k1) (0, 0, 0)).bind (gameroomref_MagicKind_K3 want2 k1)

noncomputable def gameroomref_MagicKind_L2  (l1 : List Int) (r1 : Int) (want2 : Int) : Int → Option (St Int (Fl Unit (Int × Int))) :=
  fun (x : Int) => match x with | k1 => if (decide (k1 < r1)) then ((gameroomref_MagicKind_J5 l1 r1 want2 k1)) else (some (.done (.go ())))

noncomputable def gameroomref_MagicKind_J15  (l1 : List Int) (r1 : Int) (k2 : Int) (one1 : Int) (two1 : Int) (i2 : Int) : Option (St (Int × Int × Int) (Int × Int)) :=
  some (.next ((w64 (one1 + (geti l1 (w64 ((w64 (i2 * r1)) + (Int.tmod (w64 (i2 + k2)) r1)))))), (w64 (two1 + (geti l1 (w64 ((w64 (i2 * r1)) + (Int.tmod (w64 ((w64 ((w64 (r1 - 1)) - i2)) + k2)) r1)))))), (w64 (i2 + 1))))

noncomputable def gameroomref_MagicKind_J14  (l1 : List Int) (r1 : Int) (k2 : Int) (one1 : Int) (two1 : Int) (i2 : Int) : Option (St (Int × Int × Int) (Int × Int)) :=
  asrt (r1 ≠ (0 : Int)) <| asrt (0 ≤ (w64 ((w64 (i2 * r1)) + (Int.tmod (w64 (i2 + k2)) r1))) ∧ (w64 ((w64 (i2 * r1)) + (Int.tmod (w64 (i2 + k2)) r1))) < (l1.length : Int)) <| asrt (r1 ≠ (0 : Int)) <| asrt (0 ≤ (w64 ((w64 (i2 * r1)) + (Int.tmod (w64 ((w64 ((w64 (r1 - 1)) - i2)) + k2)) r1))) ∧ (w64 ((w64 (i2 * r1)) + (Int.tmod (w64 ((w64 ((w64 (r1 - 1)) - i2)) + k2)) r1))) < (l1.length : Int)) <| (gameroomref_MagicKind_J15 l1 r1 k2 one1 two1 i2)

noncomputable def gameroomref_MagicKind_L5  (l1 : List Int) (r1 : Int) (k2 : Int) : (Int × Int × Int) → Option (St (Int × Int × Int) (Int × Int)) :=
  fun (x : (Int × Int × Int)) => match x with | (one1, two1, i2) => if (decide (i2 < r1)) then ((gameroomref_MagicKind_J14 l1 r1 k2 one1 two1 i2)) else (some (.done (one1, two1)))

noncomputable def gameroomref_MagicKind_J12  (k2 : Int) (kind3 : Int) : Option (St (Int × Int) Int) :=
  some (.next (kind3, (w64 (k2 - 1))))

noncomputable def gameroomref_MagicKind_J13  (want2 : Int) (kind1 : Int) (k2 : Int) (one2 : Int) (two2 : Int) : Option (St (Int × Int) Int) :=
  if ((one2 != want2) || (two2 != want2)) then (if (k2 == 0) then ((gameroomref_MagicKind_J12 k2) 1) else ((gameroomref_MagicKind_J12 k2) 2)) else ((gameroomref_MagicKind_J12 k2) kind1)

noncomputable def gameroomref_MagicKind_K5  (want2 : Int) (kind1 : Int) (k2 : Int) : (Int × Int) → Option (St (Int × Int) Int) :=
  fun (x : (Int × Int)) => match x with | (one2, two2) => (gameroomref_MagicKind_J13 want2 kind1 k2) one2 two2

noncomputable def gameroomref_MagicKind_J11  (l1 : List Int) (r1 : Int) (want2 : Int) (kind1 : Int) (k2 : Int) : Option (St (Int × Int) Int) :=
  (loop (gameroomref_MagicKind_L5 l1 r1 k2) (0, 0, 0)).bind (gameroomref_MagicKind_K5 want2 kind1 k2)

noncomputable def gameroomref_MagicKind_L4  (l1 : List Int) (r1 : Int) (want2 : Int) : (Int × Int) → Option (St (Int × Int) Int) :=
  fun (x : (Int × Int)) => match x with | (kind1, k2) => if (decide ((0 : Int) ≤ k2)) then ((gameroomref_MagicKind_J11 l1 r1 want2 kind1 k2)) else (some (.done kind1))

noncomputable def gameroomref_MagicKind_J10  (want2 : Int) (kind2 : Int) : Option (Int × Int) :=
  some (kind2, want2)

noncomputable def gameroomref_MagicKind_K4  (want2 : Int) : Int → Option (Int × Int) :=
  fun (x : Int) => match x with | kind2 => (gameroomref_MagicKind_J10 want2) kind2

noncomputable def gameroomref_MagicKind_J4  (l1 : List Int) (r1 : Int) (want2 : Int) : Option (Int × Int) :=
  (loop (gameroomref_MagicKind_L4 l1 r1 want2) (3, (w64 (r1 - 1)))).bind (gameroomref_MagicKind_K4 want2)

noncomputable def gameroomref_MagicKind_K2  (l1 : List Int) (r1 : Int) (want2 : Int) : (Fl Unit (Int × Int)) → Option (Int × Int) :=
  fun (x : (Fl Unit (Int × Int))) => match x with | .go _ => (gameroomref_MagicKind_J4 l1 r1 want2) | .ret x => some x

noncomputable def gameroomref_MagicKind_J1  (l1 : List Int) (r1 : Int) (want2 : Int) : Option (Int × Int) :=
  (loop (gameroomref_MagicKind_L2 l1 r1 want2) 0).bind (gameroomref_MagicKind_K2 l1 r1 want2)

noncomputable def gameroomref_MagicKind_K1  (l1 : List Int) (r1 : Int) : Int → Option (Int × Int) :=
  fun (x : Int) => match x with | want2 => (gameroomref_MagicKind_J1 l1 r1) want2

noncomputable def gameroomref_MagicKind_L1  (l1 : List Int) (r1 : Int) : (Int × Int) → Option (St (Int × Int) Int) :=
  fun (x : (Int × Int)) => match x with | (want1, x1) => if (decide (x1 < r1)) then ((gameroomref_MagicKind_J2 l1 want1 x1)) else (some (.done want1))

noncomputable def gameroomref_MagicKind_m  (l1 : List Int) : Option (Int × Int) :=
  (gameroomref_MagicSide_m l1).bind fun r1 => (loop (gameroomref_MagicKind_L1 l1 r1) (0, 0)).bind (gameroomref_MagicKind_K1 l1 r1)

set_option maxRecDepth 100000 in
set_option maxHeartbeats 4000000 in
theorem gameroomref_MagicKind_w {A1 : Option Addr} {c1 : Nat} {n1 : Nat} {l1 : List Int} {r : (Int × Int)} {w0 w : World} {B : Nat} {fs : List HP} (hm : gameroomref_MagicKind_m l1 = some r) (hS : Sep w0 B w (fs)) (hr_l1 : RdF w0 B fs A1 (vI l1)) (_hc_l1 : l1.length ≤ c1) (_hn_l1 : n1 = l1.length) :
    Calls Try.prog 41 #[.slice A1 n1 c1] w fun e w' => e = .returned (.tuple #[.int .i64 r.1, .int .i64 r.2]) ∧ Sep w0 B w' (fs) := by
  obtain ⟨i3, hi3, hz3, hs3, hb3⟩ := info_parts Info3
  obtain rfl := _hn_l1
  unfold gameroomref_MagicKind_m at hm
  replace hm := start_b hm
  refine enter (l := [.slice A1 l1.length c1]) (n := 121) Try.func41 rfl rfl (by simp) (fun a hF => ?_)
  refine reg [] [] [0] [pl 0 (.slice A1 l1.length c1)] hF hS Fol (by kernel_rfl) (by kernel_rfl) (by kernel_rfl) ?_ (fun a w hF hS => ?_)
  · exact obs_nil
  obtain ⟨r1, hr1, hm⟩ := call_b hm
  refine reg [⟨false, [], callFunc 46 #[.slice A1 l1.length c1], .int .i64 r1⟩] [none, some (.int .i64 r1), none] [0, 4] [pl 0 (.slice A1 l1.length c1), pl 4 (.int .i64 r1)] hF hS Fol (by kernel_rfl) (by kernel_rfl) (by kernel_rfl) ?_ (fun a w hF hS => ?_)
  · exact obs_cons (ob_call Try.func46 (by kernel_rfl) rfl (fun _ _ hS => gameroomref_MagicSide_w hr1 hS (fun _ hS => (hr_l1 _ (hS.dropN 0))) _hc_l1 rfl)) <| obs_nil
  refine reg [] [] [0, 4, 5] [pl 0 (.slice A1 l1.length c1), pl 4 (.int .i64 r1), pl 5 (.int .i64 0)] hF hS Fol (by kernel_rfl) (by kernel_rfl) (by kernel_rfl) ?_ (fun a w hF hS => ?_)
  · exact obs_nil
  refine seq_cut (fun a w => ∃ (want2 : Int), Fr 121 [pl 0 (.slice A1 l1.length c1), pl 4 (.int .i64 r1), pl 5 (.int .i64 want2)] a ∧ Sep w0 B w (fs) ∧ ((gameroomref_MagicKind_J1 l1 r1) want2).bind some = some r) ?_ ?_
  · rintro a w ⟨want2, hF, hS, hm⟩
    unfold gameroomref_MagicKind_J1 at hm
    refine seq_cut (fun a w => Fr 121 [pl 0 (.slice A1 l1.length c1), pl 4 (.int .i64 r1), pl 5 (.int .i64 want2)] a ∧ Sep w0 B w (fs) ∧ ((gameroomref_MagicKind_J4 l1 r1 want2)).bind some = some r) ?_ ?_
    · rintro a w ⟨hF, hS, hm⟩
      unfold gameroomref_MagicKind_J4 at hm
      refine reg [] [] [0, 4, 5, 11] [pl 0 (.slice A1 l1.length c1), pl 4 (.int .i64 r1), pl 5 (.int .i64 want2), pl 11 (.int .i64 3)] hF hS Fol (by kernel_rfl) (by kernel_rfl) (by kernel_rfl) ?_ (fun a w hF hS => ?_)
      · exact obs_nil
      refine seq_cut (fun a w => ∃ (kind2 : Int), Fr 121 [pl 5 (.int .i64 want2), pl 11 (.int .i64 kind2)] a ∧ Sep w0 B w (fs) ∧ ((gameroomref_MagicKind_J10 want2) kind2).bind some = some r) ?_ ?_
      · rintro a w ⟨kind2, hF, hS, hm⟩
        unfold gameroomref_MagicKind_J10 at hm
        refine reg [] [] [2, 3] [pl 2 (.int .i64 kind2), pl 3 (.int .i64 want2)] hF hS Fol (by kernel_rfl) (by kernel_rfl) (by kernel_rfl) ?_ (fun a w hF hS => ?_)
        · exact obs_nil
        refine wpIn_ret ?_
        have hm : some (kind2, want2) = some r := hm
        obtain rfl := Option.some.inj hm
        exact retV (rs := [.tmp 2, .tmp 3]) (vs := [.int .i64 kind2, .int .i64 want2]) hF rfl (rv_t (by kernel_rfl) <| rv_t (by kernel_rfl) <| rv_nil) rfl ⟨rfl, hS⟩
      · refine reg [] [] [0, 4, 5, 11, 12] [pl 0 (.slice A1 l1.length c1), pl 4 (.int .i64 r1), pl 5 (.int .i64 want2), pl 11 (.int .i64 3), pl 12 (.int .i64 (w64 (r1 - 1)))] hF hS Fol (by kernel_rfl) (by kernel_rfl) (by kernel_rfl) ?_ (fun a w hF hS => ?_)
        · exact obs_nil
        refine wpIn_block ?_
        refine wp_loop_model (S := (Int × Int)) (R := Int) (gameroomref_MagicKind_L4 l1 r1 want2) (fun x => ((gameroomref_MagicKind_K4 want2) x).bind some) r (fun (x : (Int × Int)) a w => Fr 121 [pl 0 (.slice A1 l1.length c1), pl 4 (.int .i64 r1), pl 5 (.int .i64 want2), pl 11 (.int .i64 x.1), pl 12 (.int .i64 x.2)] a ∧ Sep w0 B w (fs)) (assoc_b hm) ⟨hF.weak [0, 4, 5, 11, 12] (by kernel_rfl), hS⟩ ?_
        clear hF hS hm
        rintro nn4 ⟨kind1, k2⟩ a w ⟨hF, hS⟩ hm
        generalize hφ4 : stK (gameroomref_MagicKind_L4 l1 r1 want2) nn4 (fun x => ((gameroomref_MagicKind_K4 want2) x).bind some) = φ4 at hm
        unfold gameroomref_MagicKind_L4 at hm
        dsimp only at hF hS hm
        refine seq_cut (fun a w => Fr 121 [pl 0 (.slice A1 l1.length c1), pl 4 (.int .i64 r1), pl 5 (.int .i64 want2), pl 11 (.int .i64 kind1), pl 12 (.int .i64 k2)] a ∧ Sep w0 B w (fs) ∧ ((gameroomref_MagicKind_J11 l1 r1 want2 kind1 k2)).bind φ4 = some r) ?_ ?_
        · rintro a w ⟨hF, hS, hm⟩
          unfold gameroomref_MagicKind_J11 at hm
          refine seq_cut (fun a w => ∃ (kind3 : Int), Fr 121 [pl 0 (.slice A1 l1.length c1), pl 4 (.int .i64 r1), pl 5 (.int .i64 want2), pl 11 (.int .i64 kind3), pl 12 (.int .i64 k2)] a ∧ Sep w0 B w (fs) ∧ ((gameroomref_MagicKind_J12 k2) kind3).bind φ4 = some r) ?_ ?_
          · rintro a w ⟨kind3, hF, hS, hm⟩
            unfold gameroomref_MagicKind_J12 at hm
            refine reg1 [] [] [0, 4, 5, 11, 12] [pl 0 (.slice A1 l1.length c1), pl 4 (.int .i64 r1), pl 5 (.int .i64 want2), pl 11 (.int .i64 kind3), pl 12 (.int .i64 (w64 (k2 - 1)))] hF hS Fol (by kernel_rfl) (by kernel_rfl) (by kernel_rfl) ?_ (fun a w hF hS => ?_)
            · exact obs_nil
            refine then_n ?_
            rw [← hφ4] at hm
            exact ⟨(kind3, (w64 (k2 - 1))), ⟨hF.weak [0, 4, 5, 11, 12] (by kernel_rfl), hS⟩, hm⟩
          · refine wpIn_block ?_
            refine reg [] [] [0, 4, 5, 11, 12, 13, 14] [pl 0 (.slice A1 l1.length c1), pl 4 (.int .i64 r1), pl 5 (.int .i64 want2), pl 11 (.int .i64 kind1), pl 12 (.int .i64 k2), pl 13 (.int .i64 0), pl 14 (.int .i64 0)] hF hS Fol (by kernel_rfl) (by kernel_rfl) (by kernel_rfl) ?_ (fun a w hF hS => ?_)
            · exact obs_nil
            refine seq_cut (fun a w => ∃ (one2 : Int) (two2 : Int), Fr 121 [pl 0 (.slice A1 l1.length c1), pl 4 (.int .i64 r1), pl 5 (.int .i64 want2), pl 11 (.int .i64 kind1), pl 12 (.int .i64 k2), pl 13 (.int .i64 one2), pl 14 (.int .i64 two2)] a ∧ Sep w0 B w (fs) ∧ ((gameroomref_MagicKind_J13 want2 kind1 k2) one2 two2).bind φ4 = some r) ?_ ?_
            · rintro a w ⟨one2, two2, hF, hS, hm⟩
              unfold gameroomref_MagicKind_J13 at hm
              refine reg [] [] [0, 4, 5, 11, 12, 116] [pl 0 (.slice A1 l1.length c1), pl 4 (.int .i64 r1), pl 5 (.int .i64 want2), pl 11 (.int .i64 kind1), pl 12 (.int .i64 k2), pl 116 (.bool ((one2 != want2) || (two2 != want2)))] hF hS Fol (by kernel_rfl) (by kernel_rfl) (by kernel_rfl) ?_ (fun a w hF hS => ?_)
              · exact obs_nil
              refine cond_ev (t := 116) (b := (one2 != want2) || (two2 != want2)) hF (by kernel_rfl) (fun hb => ?_) (fun hb => ?_)
              · replace hm := if_t hm hb
                refine reg [] [] [0, 4, 5, 11, 12] [pl 0 (.slice A1 l1.length c1), pl 4 (.int .i64 r1), pl 5 (.int .i64 want2), pl 11 (.int .i64 2), pl 12 (.int .i64 k2)] hF hS Fol (by kernel_rfl) (by kernel_rfl) (by kernel_rfl) ?_ (fun a w hF hS => ?_)
                · exact obs_nil
                refine reg [] [] [0, 4, 5, 11, 12, 118] [pl 0 (.slice A1 l1.length c1), pl 4 (.int .i64 r1), pl 5 (.int .i64 want2), pl 11 (.int .i64 2), pl 12 (.int .i64 k2), pl 118 (.bool (k2 == 0))] hF hS Fol (by kernel_rfl) (by kernel_rfl) (by kernel_rfl) ?_ (fun a w hF hS => ?_)
                · exact obs_nil
                refine cond_ev (t := 118) (b := (k2 == 0)) hF (by kernel_rfl) (fun hb => ?_) (fun hb => ?_)
                · replace hm := if_t hm hb
                  refine reg1 [] [] [0, 4, 5, 11, 12] [pl 0 (.slice A1 l1.length c1), pl 4 (.int .i64 r1), pl 5 (.int .i64 want2), pl 11 (.int .i64 1), pl 12 (.int .i64 k2)] hF hS Fol (by kernel_rfl) (by kernel_rfl) (by kernel_rfl) ?_ (fun a w hF hS => ?_)
                  · exact obs_nil
                  refine block_n ?_
                  refine then_n ?_
                  exact ⟨1, hF.weak [0, 4, 5, 11, 12] (by kernel_rfl), hS, hm⟩
                · replace hm := if_f hm hb
                  refine wpIn_skip ?_
                  refine block_n ?_
                  refine then_n ?_
                  exact ⟨2, hF.weak [0, 4, 5, 11, 12] (by kernel_rfl), hS, hm⟩
              · replace hm := if_f hm hb
                refine wpIn_skip ?_
                refine block_n ?_
                refine then_n ?_
                exact ⟨kind1, hF.weak [0, 4, 5, 11, 12] (by kernel_rfl), hS, hm⟩
            · refine reg [] [] [0, 4, 5, 11, 12, 13, 14, 15] [pl 0 (.slice A1 l1.length c1), pl 4 (.int .i64 r1), pl 5 (.int .i64 want2), pl 11 (.int .i64 kind1), pl 12 (.int .i64 k2), pl 13 (.int .i64 0), pl 14 (.int .i64 0), pl 15 (.int .i64 0)] hF hS Fol (by kernel_rfl) (by kernel_rfl) (by kernel_rfl) ?_ (fun a w hF hS => ?_)
              · exact obs_nil
              refine wpIn_block ?_
              refine wp_loop_model (S := (Int × Int × Int)) (R := (Int × Int)) (gameroomref_MagicKind_L5 l1 r1 k2) (fun x => ((gameroomref_MagicKind_K5 want2 kind1 k2) x).bind φ4) r (fun (x : (Int × Int × Int)) a w => Fr 121 [pl 0 (.slice A1 l1.length c1), pl 4 (.int .i64 r1), pl 5 (.int .i64 want2), pl 11 (.int .i64 kind1), pl 12 (.int .i64 k2), pl 13 (.int .i64 x.1), pl 14 (.int .i64 x.2.1), pl 15 (.int .i64 x.2.2)] a ∧ Sep w0 B w (fs)) (assoc_b hm) ⟨hF.weak [0, 4, 5, 11, 12, 13, 14, 15] (by kernel_rfl), hS⟩ ?_
              clear hF hS hm
              rintro nn5 ⟨one1, two1, i2⟩ a w ⟨hF, hS⟩ hm
              generalize hφ5 : stK (gameroomref_MagicKind_L5 l1 r1 k2) nn5 (fun x => ((gameroomref_MagicKind_K5 want2 kind1 k2) x).bind φ4) = φ5 at hm
              unfold gameroomref_MagicKind_L5 at hm
              dsimp only at hF hS hm
              refine seq_cut (fun a w => Fr 121 [pl 0 (.slice A1 l1.length c1), pl 4 (.int .i64 r1), pl 5 (.int .i64 want2), pl 11 (.int .i64 kind1), pl 12 (.int .i64 k2), pl 13 (.int .i64 one1), pl 14 (.int .i64 two1), pl 15 (.int .i64 i2)] a ∧ Sep w0 B w (fs) ∧ ((gameroomref_MagicKind_J14 l1 r1 k2 one1 two1 i2)).bind φ5 = some r) ?_ ?_
              · rintro a w ⟨hF, hS, hm⟩
                unfold gameroomref_MagicKind_J14 at hm
                refine seq_cut (fun a w => Fr 121 [pl 0 (.slice A1 l1.length c1), pl 4 (.int .i64 r1), pl 5 (.int .i64 want2), pl 11 (.int .i64 kind1), pl 12 (.int .i64 k2), pl 13 (.int .i64 (w64 (one1 + (geti l1 (w64 ((w64 (i2 * r1)) + (Int.tmod (w64 (i2 + k2)) r1))))))), pl 14 (.int .i64 (w64 (two1 + (geti l1 (w64 ((w64 (i2 * r1)) + (Int.tmod (w64 ((w64 ((w64 (r1 - 1)) - i2)) + k2)) r1))))))), pl 15 (.int .i64 i2)] a ∧ Sep w0 B w (fs) ∧ ((gameroomref_MagicKind_J15 l1 r1 k2 one1 two1 i2)).bind φ5 = some r) ?_ ?_
                · rintro a w ⟨hF, hS, hm⟩
                  unfold gameroomref_MagicKind_J15 at hm
                  refine reg1 [] [] [0, 4, 5, 11, 12, 13, 14, 15] [pl 0 (.slice A1 l1.length c1), pl 4 (.int .i64 r1), pl 5 (.int .i64 want2), pl 11 (.int .i64 kind1), pl 12 (.int .i64 k2), pl 13 (.int .i64 (w64 (one1 + (geti l1 (w64 ((w64 (i2 * r1)) + (Int.tmod (w64 (i2 + k2)) r1))))))), pl 14 (.int .i64 (w64 (two1 + (geti l1 (w64 ((w64 (i2 * r1)) + (Int.tmod (w64 ((w64 ((w64 (r1 - 1)) - i2)) + k2)) r1))))))), pl 15 (.int .i64 (w64 (i2 + 1)))] hF hS Fol (by kernel_rfl) (by kernel_rfl) (by kernel_rfl) ?_ (fun a w hF hS => ?_)
                  · exact obs_nil
                  refine then_n ?_
                  rw [← hφ5] at hm
                  exact ⟨((w64 (one1 + (geti l1 (w64 ((w64 (i2 * r1)) + (Int.tmod (w64 (i2 + k2)) r1)))))), (w64 (two1 + (geti l1 (w64 ((w64 (i2 * r1)) + (Int.tmod (w64 ((w64 ((w64 (r1 - 1)) - i2)) + k2)) r1)))))), (w64 (i2 + 1))), ⟨hF.weak [0, 4, 5, 11, 12, 13, 14, 15] (by kernel_rfl), hS⟩, hm⟩
                · refine wpIn_block ?_
                  obtain ⟨hp4, hm⟩ := asrt_b hm
                  obtain ⟨hp5, hm⟩ := asrt_b hm
                  refine reg [⟨true, [], vS (Op.intDiv .rem .i64 (w64 (i2 + k2)) r1), .int .i64 (Int.tmod (w64 (i2 + k2)) r1)⟩, ⟨true, [], vS (Instr.indexAt 34 (.slice A1 l1.length c1) (.int .i64 (w64 ((w64 (i2 * r1)) + (Int.tmod (w64 (i2 + k2)) r1))))), .pointer (some (sAddr A1 (w64 ((w64 (i2 * r1)) + (Int.tmod (w64 (i2 + k2)) r1)))))⟩, ⟨false, [], vS (Instr.loadAt 3 (.pointer (some (sAddr A1 (w64 ((w64 (i2 * r1)) + (Int.tmod (w64 (i2 + k2)) r1))))))), .int .i64 (geti l1 (w64 ((w64 (i2 * r1)) + (Int.tmod (w64 (i2 + k2)) r1))))⟩] [none, none, none, none, none, none, none, none, none, some (.int .i64 (Int.tmod (w64 (i2 + k2)) r1)), none, some (.pointer (some (sAddr A1 (w64 ((w64 (i2 * r1)) + (Int.tmod (w64 (i2 + k2)) r1)))))), some (.int .i64 (geti l1 (w64 ((w64 (i2 * r1)) + (Int.tmod (w64 (i2 + k2)) r1))))), none, none] [0, 4, 5, 11, 12, 13, 14, 15] [pl 0 (.slice A1 l1.length c1), pl 4 (.int .i64 r1), pl 5 (.int .i64 want2), pl 11 (.int .i64 kind1), pl 12 (.int .i64 k2), pl 13 (.int .i64 (w64 (one1 + (geti l1 (w64 ((w64 (i2 * r1)) + (Int.tmod (w64 (i2 + k2)) r1))))))), pl 14 (.int .i64 two1), pl 15 (.int .i64 i2)] hF hS Fol (by kernel_rfl) (by kernel_rfl) (by kernel_rfl) ?_ (fun a w hF hS => ?_)
                  · exact obs_cons (ob_rem rfl (fun _ => hp4)) <| obs_cons (ob_ix1 (f := (Value.int .i64)) (m := l1) Und34 hi3 hs3 (hr_l1 _ (hS.dropN 0)) rfl (fun _ => hp5)) <| obs_cons (ob_get1 (n := l1.length) (m := l1) (Value.int .i64) (0 : Int) Agg3 (fun _ hS => ⟨_, (hr_l1 _ (hS.dropN 0))⟩) (fun _ hS => rfl) (fun _ => hp5)) <| obs_nil
                  obtain ⟨hp6, hm⟩ := asrt_b hm
                  obtain ⟨hp7, hm⟩ := asrt_b hm
                  refine reg1 [⟨true, [], vS (Op.intDiv .rem .i64 (w64 ((w64 ((w64 (r1 - 1)) - i2)) + k2)) r1), .int .i64 (Int.tmod (w64 ((w64 ((w64 (r1 - 1)) - i2)) + k2)) r1)⟩, ⟨true, [], vS (Instr.indexAt 34 (.slice A1 l1.length c1) (.int .i64 (w64 ((w64 (i2 * r1)) + (Int.tmod (w64 ((w64 ((w64 (r1 - 1)) - i2)) + k2)) r1))))), .pointer (some (sAddr A1 (w64 ((w64 (i2 * r1)) + (Int.tmod (w64 ((w64 ((w64 (r1 - 1)) - i2)) + k2)) r1)))))⟩, ⟨false, [], vS (Instr.loadAt 3 (.pointer (some (sAddr A1 (w64 ((w64 (i2 * r1)) + (Int.tmod (w64 ((w64 ((w64 (r1 - 1)) - i2)) + k2)) r1))))))), .int .i64 (geti l1 (w64 ((w64 (i2 * r1)) + (Int.tmod (w64 ((w64 ((w64 (r1 - 1)) - i2)) + k2)) r1))))⟩] [none, none, none, none, none, none, none, none, none, none, none, none, some (.int .i64 (Int.tmod (w64 ((w64 ((w64 (r1 - 1)) - i2)) + k2)) r1)), none, some (.pointer (some (sAddr A1 (w64 ((w64 (i2 * r1)) + (Int.tmod (w64 ((w64 ((w64 (r1 - 1)) - i2)) + k2)) r1)))))), some (.int .i64 (geti l1 (w64 ((w64 (i2 * r1)) + (Int.tmod (w64 ((w64 ((w64 (r1 - 1)) - i2)) + k2)) r1))))), none, none] [0, 4, 5, 11, 12, 13, 14, 15] [pl 0 (.slice A1 l1.length c1), pl 4 (.int .i64 r1), pl 5 (.int .i64 want2), pl 11 (.int .i64 kind1), pl 12 (.int .i64 k2), pl 13 (.int .i64 (w64 (one1 + (geti l1 (w64 ((w64 (i2 * r1)) + (Int.tmod (w64 (i2 + k2)) r1))))))), pl 14 (.int .i64 (w64 (two1 + (geti l1 (w64 ((w64 (i2 * r1)) + (Int.tmod (w64 ((w64 ((w64 (r1 - 1)) - i2)) + k2)) r1))))))), pl 15 (.int .i64 i2)] hF hS Fol (by kernel_rfl) (by kernel_rfl) (by kernel_rfl) ?_ (fun a w hF hS => ?_)
                  · exact obs_cons (ob_rem rfl (fun _ => hp6)) <| obs_cons (ob_ix1 (f := (Value.int .i64)) (m := l1) Und34 hi3 hs3 (hr_l1 _ (hS.dropN 0)) rfl (fun _ => hp7)) <| obs_cons (ob_get1 (n := l1.length) (m := l1) (Value.int .i64) (0 : Int) Agg3 (fun _ hS => ⟨_, (hr_l1 _ (hS.dropN 0))⟩) (fun _ hS => rfl) (fun _ => hp7)) <| obs_nil
                  refine block_n ?_
                  refine then_n ?_
                  exact ⟨hF.weak [0, 4, 5, 11, 12, 13, 14, 15] (by kernel_rfl), hS, hm⟩
              · refine reg [] [] [0, 4, 5, 11, 12, 13, 14, 15, 75] [pl 0 (.slice A1 l1.length c1), pl 4 (.int .i64 r1), pl 5 (.int .i64 want2), pl 11 (.int .i64 kind1), pl 12 (.int .i64 k2), pl 13 (.int .i64 one1), pl 14 (.int .i64 two1), pl 15 (.int .i64 i2), pl 75 (.bool (decide (i2 < r1)))] hF hS Fol (by kernel_rfl) (by kernel_rfl) (by kernel_rfl) ?_ (fun a w hF hS => ?_)
                · exact obs_nil
                refine cond_ev (t := 75) (b := decide (i2 < r1)) hF (by kernel_rfl) (fun hb => ?_) (fun hb => ?_)
                · replace hm := if_t hm hb
                  refine wpIn_skip ?_
                  refine then_n ?_
                  exact ⟨hF.weak [0, 4, 5, 11, 12, 13, 14, 15] (by kernel_rfl), hS, hm⟩
                · replace hm := if_f hm hb
                  refine wpIn_exit ?_
                  refine then_e (then_e (block_e (then_n ?_)))
                  rw [← hφ5] at hm
                  replace hm := done_b hm
                  unfold gameroomref_MagicKind_K5 at hm
                  try dsimp only at hm
                  have hm : ((gameroomref_MagicKind_J13 want2 kind1 k2) one1 two1).bind φ4 = some r := hm
                  exact ⟨one1, two1, hF.weak [0, 4, 5, 11, 12, 13, 14] (by kernel_rfl), hS, hm⟩
        · refine reg [] [] [0, 4, 5, 11, 12, 70] [pl 0 (.slice A1 l1.length c1), pl 4 (.int .i64 r1), pl 5 (.int .i64 want2), pl 11 (.int .i64 kind1), pl 12 (.int .i64 k2), pl 70 (.bool (decide ((0 : Int) ≤ k2)))] hF hS Fol (by kernel_rfl) (by kernel_rfl) (by kernel_rfl) ?_ (fun a w hF hS => ?_)
          · exact obs_nil
          refine cond_ev (t := 70) (b := decide ((0 : Int) ≤ k2)) hF (by kernel_rfl) (fun hb => ?_) (fun hb => ?_)
          · replace hm := if_t hm hb
            refine wpIn_skip ?_
            refine then_n ?_
            exact ⟨hF.weak [0, 4, 5, 11, 12] (by kernel_rfl), hS, hm⟩
          · replace hm := if_f hm hb
            refine wpIn_exit ?_
            refine then_e (then_e (block_e (then_n ?_)))
            rw [← hφ4] at hm
            replace hm := done_b hm
            unfold gameroomref_MagicKind_K4 at hm
            try dsimp only at hm
            have hm : ((gameroomref_MagicKind_J10 want2) kind1).bind some = some r := hm
            exact ⟨kind1, hF.weak [5, 11] (by kernel_rfl), hS, hm⟩
    · refine reg [] [] [0, 4, 5, 7] [pl 0 (.slice A1 l1.length c1), pl 4 (.int .i64 r1), pl 5 (.int .i64 want2), pl 7 (.int .i64 0)] hF hS Fol (by kernel_rfl) (by kernel_rfl) (by kernel_rfl) ?_ (fun a w hF hS => ?_)
      · exact obs_nil
      refine wpIn_block ?_
      refine wp_loop_model (S := Int) (R := (Fl Unit (Int × Int))) (gameroomref_MagicKind_L2 l1 r1 want2) (fun x => ((gameroomref_MagicKind_K2 l1 r1 want2) x).bind some) r (fun (x : Int) a w => Fr 121 [pl 0 (.slice A1 l1.length c1), pl 4 (.int .i64 r1), pl 5 (.int .i64 want2), pl 7 (.int .i64 x)] a ∧ Sep w0 B w (fs)) (assoc_b hm) ⟨hF.weak [0, 4, 5, 7] (by kernel_rfl), hS⟩ ?_
      clear hF hS hm
      rintro nn2 k1 a w ⟨hF, hS⟩ hm
      generalize hφ2 : stK (gameroomref_MagicKind_L2 l1 r1 want2) nn2 (fun x => ((gameroomref_MagicKind_K2 l1 r1 want2) x).bind some) = φ2 at hm
      unfold gameroomref_MagicKind_L2 at hm
      dsimp only at hm
      refine seq_cut (fun a w => Fr 121 [pl 0 (.slice A1 l1.length c1), pl 4 (.int .i64 r1), pl 5 (.int .i64 want2), pl 7 (.int .i64 k1)] a ∧ Sep w0 B w (fs) ∧ ((gameroomref_MagicKind_J5 l1 r1 want2 k1)).bind φ2 = some r) ?_ ?_
      · rintro a w ⟨hF, hS, hm⟩
        unfold gameroomref_MagicKind_J5 at hm
        refine seq_cut (fun a w => Fr 121 [pl 0 (.slice A1 l1.length c1), pl 4 (.int .i64 r1), pl 5 (.int .i64 want2), pl 7 (.int .i64 k1)] a ∧ Sep w0 B w (fs) ∧ ((gameroomref_MagicKind_J6 k1)).bind φ2 = some r) ?_ ?_
        · rintro a w ⟨hF, hS, hm⟩
          unfold gameroomref_MagicKind_J6 at hm
          refine reg1 [] [] [0, 4, 5, 7] [pl 0 (.slice A1 l1.length c1), pl 4 (.int .i64 r1), pl 5 (.int .i64 want2), pl 7 (.int .i64 (w64 (k1 + 1)))] hF hS Fol (by kernel_rfl) (by kernel_rfl) (by kernel_rfl) ?_ (fun a w hF hS => ?_)
          · exact obs_nil
          refine then_n ?_
          rw [← hφ2] at hm
          exact ⟨(w64 (k1 + 1)), ⟨hF.weak [0, 4, 5, 7] (by kernel_rfl), hS⟩, hm⟩
        · refine wpIn_block ?_
          refine reg [] [] [0, 4, 5, 7, 8, 9] [pl 0 (.slice A1 l1.length c1), pl 4 (.int .i64 r1), pl 5 (.int .i64 want2), pl 7 (.int .i64 k1), pl 8 (.int .i64 0), pl 9 (.int .i64 0)] hF hS Fol (by kernel_rfl) (by kernel_rfl) (by kernel_rfl) ?_ (fun a w hF hS => ?_)
          · exact obs_nil
          refine seq_cut (fun a w => ∃ (row2 : Int) (column2 : Int), Fr 121 [pl 0 (.slice A1 l1.length c1), pl 4 (.int .i64 r1), pl 5 (.int .i64 want2), pl 7 (.int .i64 k1), pl 8 (.int .i64 row2), pl 9 (.int .i64 column2)] a ∧ Sep w0 B w (fs) ∧ ((gameroomref_MagicKind_J7 want2 k1) row2 column2).bind φ2 = some r) ?_ ?_
          · rintro a w ⟨row2, column2, hF, hS, hm⟩
            unfold gameroomref_MagicKind_J7 at hm
            refine reg [] [] [0, 4, 5, 7, 66] [pl 0 (.slice A1 l1.length c1), pl 4 (.int .i64 r1), pl 5 (.int .i64 want2), pl 7 (.int .i64 k1), pl 66 (.bool ((row2 != want2) || (column2 != want2)))] hF hS Fol (by kernel_rfl) (by kernel_rfl) (by kernel_rfl) ?_ (fun a w hF hS => ?_)
            · exact obs_nil
            refine cond_ev (t := 66) (b := (row2 != want2) || (column2 != want2)) hF (by kernel_rfl) (fun hb => ?_) (fun hb => ?_)
            · replace hm := if_t hm hb
              refine reg [] [] [2, 3] [pl 2 (.int .i64 0), pl 3 (.int .i64 0)] hF hS Fol (by kernel_rfl) (by kernel_rfl) (by kernel_rfl) ?_ (fun a w hF hS => ?_)
              · exact obs_nil
              refine wpIn_ret ?_
              refine block_r (then_r (then_r (block_r (then_r ?_))))
              rw [← hφ2] at hm
              replace hm := done_b hm
              unfold gameroomref_MagicKind_K2 at hm
              try dsimp only at hm
              have hm : some (0, 0) = some r := hm
              obtain rfl := Option.some.inj hm
              exact retV (rs := [.tmp 2, .tmp 3]) (vs := [.int .i64 0, .int .i64 0]) hF rfl (rv_t (by kernel_rfl) <| rv_t (by kernel_rfl) <| rv_nil) rfl ⟨rfl, hS⟩
            · replace hm := if_f hm hb
              refine wpIn_skip ?_
              refine block_n ?_
              refine then_n ?_
              exact ⟨hF.weak [0, 4, 5, 7] (by kernel_rfl), hS, hm⟩
          · refine reg [] [] [0, 4, 5, 7, 8, 9, 10] [pl 0 (.slice A1 l1.length c1), pl 4 (.int .i64 r1), pl 5 (.int .i64 want2), pl 7 (.int .i64 k1), pl 8 (.int .i64 0), pl 9 (.int .i64 0), pl 10 (.int .i64 0)] hF hS Fol (by kernel_rfl) (by kernel_rfl) (by kernel_rfl) ?_ (fun a w hF hS => ?_)
            · exact obs_nil
            refine wpIn_block ?_
            refine wp_loop_model (S := (Int × Int × Int)) (R := (Int × Int)) (gameroomref_MagicKind_L3 l1 r1 k1) (fun x => ((gameroomref_MagicKind_K3 want2 k1) x).bind φ2) r (fun (x : (Int × Int × Int)) a w => Fr 121 [pl 0 (.slice A1 l1.length c1), pl 4 (.int .i64 r1), pl 5 (.int .i64 want2), pl 7 (.int .i64 k1), pl 8 (.int .i64 x.1), pl 9 (.int .i64 x.2.1), pl 10 (.int .i64 x.2.2)] a ∧ Sep w0 B w (fs)) (assoc_b hm) ⟨hF.weak [0, 4, 5, 7, 8, 9, 10] (by kernel_rfl), hS⟩ ?_
            clear hF hS hm
            rintro nn3 ⟨row1, column1, i1⟩ a w ⟨hF, hS⟩ hm
            generalize hφ3 : stK (gameroomref_MagicKind_L3 l1 r1 k1) nn3 (fun x => ((gameroomref_MagicKind_K3 want2 k1) x).bind φ2) = φ3 at hm
            unfold gameroomref_MagicKind_L3 at hm
            dsimp only at hF hS hm
            refine seq_cut (fun a w => Fr 121 [pl 0 (.slice A1 l1.length c1), pl 4 (.int .i64 r1), pl 5 (.int .i64 want2), pl 7 (.int .i64 k1), pl 8 (.int .i64 row1), pl 9 (.int .i64 column1), pl 10 (.int .i64 i1)] a ∧ Sep w0 B w (fs) ∧ ((gameroomref_MagicKind_J8 l1 r1 k1 row1 column1 i1)).bind φ3 = some r) ?_ ?_
            · rintro a w ⟨hF, hS, hm⟩
              unfold gameroomref_MagicKind_J8 at hm
              refine seq_cut (fun a w => Fr 121 [pl 0 (.slice A1 l1.length c1), pl 4 (.int .i64 r1), pl 5 (.int .i64 want2), pl 7 (.int .i64 k1), pl 8 (.int .i64 (w64 (row1 + (geti l1 (w64 ((w64 (k1 * r1)) + i1)))))), pl 9 (.int .i64 (w64 (column1 + (geti l1 (w64 ((w64 (i1 * r1)) + k1)))))), pl 10 (.int .i64 i1)] a ∧ Sep w0 B w (fs) ∧ ((gameroomref_MagicKind_J9 l1 r1 k1 row1 column1 i1)).bind φ3 = some r) ?_ ?_
              · rintro a w ⟨hF, hS, hm⟩
                unfold gameroomref_MagicKind_J9 at hm
                refine reg1 [] [] [0, 4, 5, 7, 8, 9, 10] [pl 0 (.slice A1 l1.length c1), pl 4 (.int .i64 r1), pl 5 (.int .i64 want2), pl 7 (.int .i64 k1), pl 8 (.int .i64 (w64 (row1 + (geti l1 (w64 ((w64 (k1 * r1)) + i1)))))), pl 9 (.int .i64 (w64 (column1 + (geti l1 (w64 ((w64 (i1 * r1)) + k1)))))), pl 10 (.int .i64 (w64 (i1 + 1)))] hF hS Fol (by kernel_rfl) (by kernel_rfl) (by kernel_rfl) ?_ (fun a w hF hS => ?_)
                · exact obs_nil
                refine then_n ?_
                rw [← hφ3] at hm
                exact ⟨((w64 (row1 + (geti l1 (w64 ((w64 (k1 * r1)) + i1))))), (w64 (column1 + (geti l1 (w64 ((w64 (i1 * r1)) + k1))))), (w64 (i1 + 1))), ⟨hF.weak [0, 4, 5, 7, 8, 9, 10] (by kernel_rfl), hS⟩, hm⟩
              · refine wpIn_block ?_
                obtain ⟨hp2, hm⟩ := asrt_b hm
                refine reg [⟨true, [], vS (Instr.indexAt 34 (.slice A1 l1.length c1) (.int .i64 (w64 ((w64 (k1 * r1)) + i1)))), .pointer (some (sAddr A1 (w64 ((w64 (k1 * r1)) + i1))))⟩, ⟨false, [], vS (Instr.loadAt 3 (.pointer (some (sAddr A1 (w64 ((w64 (k1 * r1)) + i1)))))), .int .i64 (geti l1 (w64 ((w64 (k1 * r1)) + i1)))⟩] [none, none, none, none, none, none, none, some (.pointer (some (sAddr A1 (w64 ((w64 (k1 * r1)) + i1))))), some (.int .i64 (geti l1 (w64 ((w64 (k1 * r1)) + i1)))), none, none] [0, 4, 5, 7, 8, 9, 10] [pl 0 (.slice A1 l1.length c1), pl 4 (.int .i64 r1), pl 5 (.int .i64 want2), pl 7 (.int .i64 k1), pl 8 (.int .i64 (w64 (row1 + (geti l1 (w64 ((w64 (k1 * r1)) + i1)))))), pl 9 (.int .i64 column1), pl 10 (.int .i64 i1)] hF hS Fol (by kernel_rfl) (by kernel_rfl) (by kernel_rfl) ?_ (fun a w hF hS => ?_)
                · exact obs_cons (ob_ix1 (f := (Value.int .i64)) (m := l1) Und34 hi3 hs3 (hr_l1 _ (hS.dropN 0)) rfl (fun _ => hp2)) <| obs_cons (ob_get1 (n := l1.length) (m := l1) (Value.int .i64) (0 : Int) Agg3 (fun _ hS => ⟨_, (hr_l1 _ (hS.dropN 0))⟩) (fun _ hS => rfl) (fun _ => hp2)) <| obs_nil
                obtain ⟨hp3, hm⟩ := asrt_b hm
                refine reg1 [⟨true, [], vS (Instr.indexAt 34 (.slice A1 l1.length c1) (.int .i64 (w64 ((w64 (i1 * r1)) + k1)))), .pointer (some (sAddr A1 (w64 ((w64 (i1 * r1)) + k1))))⟩, ⟨false, [], vS (Instr.loadAt 3 (.pointer (some (sAddr A1 (w64 ((w64 (i1 * r1)) + k1)))))), .int .i64 (geti l1 (w64 ((w64 (i1 * r1)) + k1)))⟩] [none, none, none, none, none, none, none, some (.pointer (some (sAddr A1 (w64 ((w64 (i1 * r1)) + k1))))), some (.int .i64 (geti l1 (w64 ((w64 (i1 * r1)) + k1)))), none, none] [0, 4, 5, 7, 8, 9, 10] [pl 0 (.slice A1 l1.length c1), pl 4 (.int .i64 r1), pl 5 (.int .i64 want2), pl 7 (.int .i64 k1), pl 8 (.int .i64 (w64 (row1 + (geti l1 (w64 ((w64 (k1 * r1)) + i1)))))), pl 9 (.int .i64 (w64 (column1 + (geti l1 (w64 ((w64 (i1 * r1)) + k1)))))), pl 10 (.int .i64 i1)] hF hS Fol (by kernel_rfl) (by kernel_rfl) (by kernel_rfl) ?_ (fun a w hF hS => ?_)
                · exact obs_cons (ob_ix1 (f := (Value.int .i64)) (m := l1) Und34 hi3 hs3 (hr_l1 _ (hS.dropN 0)) rfl (fun _ => hp3)) <| obs_cons (ob_get1 (n := l1.length) (m := l1) (Value.int .i64) (0 : Int) Agg3 (fun _ hS => ⟨_, (hr_l1 _ (hS.dropN 0))⟩) (fun _ hS => rfl) (fun _ => hp3)) <| obs_nil
                refine block_n ?_
                refine then_n ?_
                exact ⟨hF.weak [0, 4, 5, 7, 8, 9, 10] (by kernel_rfl), hS, hm⟩
            · refine reg [] [] [0, 4, 5, 7, 8, 9, 10, 36] [pl 0 (.slice A1 l1.length c1), pl 4 (.int .i64 r1), pl 5 (.int .i64 want2), pl 7 (.int .i64 k1), pl 8 (.int .i64 row1), pl 9 (.int .i64 column1), pl 10 (.int .i64 i1), pl 36 (.bool (decide (i1 < r1)))] hF hS Fol (by kernel_rfl) (by kernel_rfl) (by kernel_rfl) ?_ (fun a w hF hS => ?_)
              · exact obs_nil
              refine cond_ev (t := 36) (b := decide (i1 < r1)) hF (by kernel_rfl) (fun hb => ?_) (fun hb => ?_)
              · replace hm := if_t hm hb
                refine wpIn_skip ?_
                refine then_n ?_
                exact ⟨hF.weak [0, 4, 5, 7, 8, 9, 10] (by kernel_rfl), hS, hm⟩
              · replace hm := if_f hm hb
                refine wpIn_exit ?_
                refine then_e (then_e (block_e (then_n ?_)))
                rw [← hφ3] at hm
                replace hm := done_b hm
                unfold gameroomref_MagicKind_K3 at hm
                try dsimp only at hm
                have hm : ((gameroomref_MagicKind_J7 want2 k1) row1 column1).bind φ2 = some r := hm
                exact ⟨row1, column1, hF.weak [0, 4, 5, 7, 8, 9] (by kernel_rfl), hS, hm⟩
      · refine reg [] [] [0, 4, 5, 7, 31] [pl 0 (.slice A1 l1.length c1), pl 4 (.int .i64 r1), pl 5 (.int .i64 want2), pl 7 (.int .i64 k1), pl 31 (.bool (decide (k1 < r1)))] hF hS Fol (by kernel_rfl) (by kernel_rfl) (by kernel_rfl) ?_ (fun a w hF hS => ?_)
        · exact obs_nil
        refine cond_ev (t := 31) (b := decide (k1 < r1)) hF (by kernel_rfl) (fun hb => ?_) (fun hb => ?_)
        · replace hm := if_t hm hb
          refine wpIn_skip ?_
          refine then_n ?_
          exact ⟨hF.weak [0, 4, 5, 7] (by kernel_rfl), hS, hm⟩
        · replace hm := if_f hm hb
          refine wpIn_exit ?_
          refine then_e (then_e (block_e (then_n ?_)))
          rw [← hφ2] at hm
          replace hm := done_b hm
          unfold gameroomref_MagicKind_K2 at hm
          try dsimp only at hm
          have hm : ((gameroomref_MagicKind_J4 l1 r1 want2)).bind some = some r := hm
          exact ⟨hF.weak [0, 4, 5] (by kernel_rfl), hS, hm⟩
  · refine reg [] [] [0, 4, 5, 6] [pl 0 (.slice A1 l1.length c1), pl 4 (.int .i64 r1), pl 5 (.int .i64 0), pl 6 (.int .i64 0)] hF hS Fol (by kernel_rfl) (by kernel_rfl) (by kernel_rfl) ?_ (fun a w hF hS => ?_)
    · exact obs_nil
    refine wpIn_block ?_
    refine wp_loop_model (S := (Int × Int)) (R := Int) (gameroomref_MagicKind_L1 l1 r1) (fun x => ((gameroomref_MagicKind_K1 l1 r1) x).bind some) r (fun (x : (Int × Int)) a w => Fr 121 [pl 0 (.slice A1 l1.length c1), pl 4 (.int .i64 r1), pl 5 (.int .i64 x.1), pl 6 (.int .i64 x.2)] a ∧ Sep w0 B w (fs)) (assoc_b hm) ⟨hF.weak [0, 4, 5, 6] (by kernel_rfl), hS⟩ ?_
    clear hF hS hm
    rintro nn1 ⟨want1, x1⟩ a w ⟨hF, hS⟩ hm
    generalize hφ1 : stK (gameroomref_MagicKind_L1 l1 r1) nn1 (fun x => ((gameroomref_MagicKind_K1 l1 r1) x).bind some) = φ1 at hm
    unfold gameroomref_MagicKind_L1 at hm
    dsimp only at hF hS hm
    refine seq_cut (fun a w => Fr 121 [pl 0 (.slice A1 l1.length c1), pl 4 (.int .i64 r1), pl 5 (.int .i64 want1), pl 6 (.int .i64 x1)] a ∧ Sep w0 B w (fs) ∧ ((gameroomref_MagicKind_J2 l1 want1 x1)).bind φ1 = some r) ?_ ?_
    · rintro a w ⟨hF, hS, hm⟩
      unfold gameroomref_MagicKind_J2 at hm
      refine seq_cut (fun a w => Fr 121 [pl 0 (.slice A1 l1.length c1), pl 4 (.int .i64 r1), pl 5 (.int .i64 (w64 (want1 + (geti l1 x1)))), pl 6 (.int .i64 x1)] a ∧ Sep w0 B w (fs) ∧ ((gameroomref_MagicKind_J3 l1 want1 x1)).bind φ1 = some r) ?_ ?_
      · rintro a w ⟨hF, hS, hm⟩
        unfold gameroomref_MagicKind_J3 at hm
        refine reg1 [] [] [0, 4, 5, 6] [pl 0 (.slice A1 l1.length c1), pl 4 (.int .i64 r1), pl 5 (.int .i64 (w64 (want1 + (geti l1 x1)))), pl 6 (.int .i64 (w64 (x1 + 1)))] hF hS Fol (by kernel_rfl) (by kernel_rfl) (by kernel_rfl) ?_ (fun a w hF hS => ?_)
        · exact obs_nil
        refine then_n ?_
        rw [← hφ1] at hm
        exact ⟨((w64 (want1 + (geti l1 x1))), (w64 (x1 + 1))), ⟨hF.weak [0, 4, 5, 6] (by kernel_rfl), hS⟩, hm⟩
      · refine wpIn_block ?_
        obtain ⟨hp1, hm⟩ := asrt_b hm
        refine reg1 [⟨true, [], vS (Instr.indexAt 34 (.slice A1 l1.length c1) (.int .i64 x1)), .pointer (some (sAddr A1 x1))⟩, ⟨false, [], vS (Instr.loadAt 3 (.pointer (some (sAddr A1 x1)))), .int .i64 (geti l1 x1)⟩] [none, none, none, some (.pointer (some (sAddr A1 x1))), some (.int .i64 (geti l1 x1)), none, none] [0, 4, 5, 6] [pl 0 (.slice A1 l1.length c1), pl 4 (.int .i64 r1), pl 5 (.int .i64 (w64 (want1 + (geti l1 x1)))), pl 6 (.int .i64 x1)] hF hS Fol (by kernel_rfl) (by kernel_rfl) (by kernel_rfl) ?_ (fun a w hF hS => ?_)
        · exact obs_cons (ob_ix1 (f := (Value.int .i64)) (m := l1) Und34 hi3 hs3 (hr_l1 _ (hS.dropN 0)) rfl (fun _ => hp1)) <| obs_cons (ob_get1 (n := l1.length) (m := l1) (Value.int .i64) (0 : Int) Agg3 (fun _ hS => ⟨_, (hr_l1 _ (hS.dropN 0))⟩) (fun _ hS => rfl) (fun _ => hp1)) <| obs_nil
        refine block_n ?_
        refine then_n ?_
        exact ⟨hF.weak [0, 4, 5, 6] (by kernel_rfl), hS, hm⟩
    · refine reg [] [] [0, 4, 5, 6, 20] [pl 0 (.slice A1 l1.length c1), pl 4 (.int .i64 r1), pl 5 (.int .i64 want1), pl 6 (.int .i64 x1), pl 20 (.bool (decide (x1 < r1)))] hF hS Fol (by kernel_rfl) (by kernel_rfl) (by kernel_rfl) ?_ (fun a w hF hS => ?_)
      · exact obs_nil
      refine cond_ev (t := 20) (b := decide (x1 < r1)) hF (by kernel_rfl) (fun hb => ?_) (fun hb => ?_)
      · replace hm := if_t hm hb
        refine wpIn_skip ?_
        refine then_n ?_
        exact ⟨hF.weak [0, 4, 5, 6] (by kernel_rfl), hS, hm⟩
      · replace hm := if_f hm hb
        refine wpIn_exit ?_
        refine then_e (then_e (block_e (then_n ?_)))
        rw [← hφ1] at hm
        replace hm := done_b hm
        unfold gameroomref_MagicKind_K1 at hm
        try dsimp only at hm
        have hm : ((gameroomref_MagicKind_J1 l1 r1) want1).bind some = some r := hm
        exact ⟨want1, hF.weak [0, 4, 5] (by kernel_rfl), hS, hm⟩

noncomputable def gameroomref_at_J3  (i1 : Int) : Option (St Int (Fl Unit Int)) :=
  some (.next (w64 (i1 + 1)))

noncomputable def gameroomref_at_J2  (l1 : List Int) (n2 : Int) (i1 : Int) : Option (St Int (Fl Unit Int)) :=
  asrt (0 ≤ i1 ∧ i1 < (l1.length : Int)) <| if ((geti l1 i1) == n2) then (some (.done (.ret i1))) else ((gameroomref_at_J3 i1))

noncomputable def gameroomref_at_J1  : Option Int :=
  some (-1)

noncomputable def gameroomref_at_K1  : (Fl Unit Int) → Option Int :=
  fun (x : (Fl Unit Int)) => match x with | .go _ => gameroomref_at_J1 | .ret x => some x

noncomputable def gameroomref_at_L1  (l1 : List Int) (n2 : Int) : Int → Option (St Int (Fl Unit Int)) :=
  fun (x : Int) => match x with | i1 => if (decide (i1 < (l1.length : Int))) then ((gameroomref_at_J2 l1 n2 i1)) else (some (.done (.go ())))

noncomputable def gameroomref_at_m  (l1 : List Int) (n2 : Int) : Option Int :=
  (loop (gameroomref_at_L1 l1 n2) 0).bind gameroomref_at_K1

set_option maxRecDepth 100000 in
set_option maxHeartbeats 4000000 in
theorem gameroomref_at_w {A1 : Option Addr} {c1 : Nat} {n1 : Nat} {l1 : List Int} {n2 : Int} {r : Int} {w0 w : World} {B : Nat} {fs : List HP} (hm : gameroomref_at_m l1 n2 = some r) (hS : Sep w0 B w (fs)) (hr_l1 : RdF w0 B fs A1 (vI l1)) (_hc_l1 : l1.length ≤ c1) (_hn_l1 : n1 = l1.length) :
    Calls Try.prog 78 #[.slice A1 n1 c1, .int .i64 n2] w fun e w' => e = .returned (.int .i64 r) ∧ Sep w0 B w' (fs) := by
  obtain ⟨i3, hi3, hz3, hs3, hb3⟩ := info_parts Info3
  obtain rfl := _hn_l1
  unfold gameroomref_at_m at hm
  replace hm := start_b hm
  refine enter (l := [.slice A1 l1.length c1, .int .i64 n2]) (n := 19) Try.func78 rfl rfl (by simp) (fun a hF => ?_)
  refine reg [] [] [0, 1] [pl 0 (.slice A1 l1.length c1), pl 1 (.int .i64 n2)] hF hS Fol (by kernel_rfl) (by kernel_rfl) (by kernel_rfl) ?_ (fun a w hF hS => ?_)
  · exact obs_nil
  refine seq_cut (fun a w => Fr 19 [] a ∧ Sep w0 B w (fs) ∧ (gameroomref_at_J1).bind some = some r) ?_ ?_
  · rintro a w ⟨hF, hS, hm⟩
    unfold gameroomref_at_J1 at hm
    refine reg [] [] [4] [pl 4 (.int .i64 (-1))] hF hS Fol (by kernel_rfl) (by kernel_rfl) (by kernel_rfl) ?_ (fun a w hF hS => ?_)
    · exact obs_nil
    refine wpIn_ret ?_
    have hm : some (-1) = some r := hm
    obtain rfl := Option.some.inj hm
    exact retV (rs := [.tmp 4]) (vs := [.int .i64 (-1)]) hF rfl (rv_t (by kernel_rfl) <| rv_nil) rfl ⟨rfl, hS⟩
  · refine reg [] [] [0, 1, 5] [pl 0 (.slice A1 l1.length c1), pl 1 (.int .i64 n2), pl 5 (.int .i64 0)] hF hS Fol (by kernel_rfl) (by kernel_rfl) (by kernel_rfl) ?_ (fun a w hF hS => ?_)
    · exact obs_nil
    refine wpIn_block ?_
    refine wp_loop_model (S := Int) (R := (Fl Unit Int)) (gameroomref_at_L1 l1 n2) (fun x => (gameroomref_at_K1 x).bind some) r (fun (x : Int) a w => Fr 19 [pl 0 (.slice A1 l1.length c1), pl 1 (.int .i64 n2), pl 5 (.int .i64 x)] a ∧ Sep w0 B w (fs)) (assoc_b hm) ⟨hF.weak [0, 1, 5] (by kernel_rfl), hS⟩ ?_
    clear hF hS hm
    rintro nn1 i1 a w ⟨hF, hS⟩ hm
    generalize hφ1 : stK (gameroomref_at_L1 l1 n2) nn1 (fun x => (gameroomref_at_K1 x).bind some) = φ1 at hm
    unfold gameroomref_at_L1 at hm
    dsimp only at hm
    refine seq_cut (fun a w => Fr 19 [pl 0 (.slice A1 l1.length c1), pl 1 (.int .i64 n2), pl 5 (.int .i64 i1)] a ∧ Sep w0 B w (fs) ∧ ((gameroomref_at_J2 l1 n2 i1)).bind φ1 = some r) ?_ ?_
    · rintro a w ⟨hF, hS, hm⟩
      unfold gameroomref_at_J2 at hm
      refine seq_cut (fun a w => Fr 19 [pl 0 (.slice A1 l1.length c1), pl 1 (.int .i64 n2), pl 5 (.int .i64 i1)] a ∧ Sep w0 B w (fs) ∧ ((gameroomref_at_J3 i1)).bind φ1 = some r) ?_ ?_
      · rintro a w ⟨hF, hS, hm⟩
        unfold gameroomref_at_J3 at hm
        refine reg1 [] [] [0, 1, 5] [pl 0 (.slice A1 l1.length c1), pl 1 (.int .i64 n2), pl 5 (.int .i64 (w64 (i1 + 1)))] hF hS Fol (by kernel_rfl) (by kernel_rfl) (by kernel_rfl) ?_ (fun a w hF hS => ?_)
        · exact obs_nil
        refine then_n ?_
        rw [← hφ1] at hm
        exact ⟨(w64 (i1 + 1)), ⟨hF.weak [0, 1, 5] (by kernel_rfl), hS⟩, hm⟩
      · refine wpIn_block ?_
        obtain ⟨hp1, hm⟩ := asrt_b hm
        refine reg [⟨true, [], vS (Instr.indexAt 34 (.slice A1 l1.length c1) (.int .i64 i1)), .pointer (some (sAddr A1 i1))⟩, ⟨false, [], vS (Instr.loadAt 3 (.pointer (some (sAddr A1 i1)))), .int .i64 (geti l1 i1)⟩] [none, none, some (.pointer (some (sAddr A1 i1))), some (.int .i64 (geti l1 i1)), none, none] [0, 1, 5, 17] [pl 0 (.slice A1 l1.length c1), pl 1 (.int .i64 n2), pl 5 (.int .i64 i1), pl 17 (.bool ((geti l1 i1) == n2))] hF hS Fol (by kernel_rfl) (by kernel_rfl) (by kernel_rfl) ?_ (fun a w hF hS => ?_)
        · exact obs_cons (ob_ix1 (f := (Value.int .i64)) (m := l1) Und34 hi3 hs3 (hr_l1 _ (hS.dropN 0)) rfl (fun _ => hp1)) <| obs_cons (ob_get1 (n := l1.length) (m := l1) (Value.int .i64) (0 : Int) Agg3 (fun _ hS => ⟨_, (hr_l1 _ (hS.dropN 0))⟩) (fun _ hS => rfl) (fun _ => hp1)) <| obs_nil
        refine cond_ev (t := 17) (b := ((geti l1 i1) == n2)) hF (by kernel_rfl) (fun hb => ?_) (fun hb => ?_)
        · replace hm := if_t hm hb
          refine reg [] [] [4] [pl 4 (.int .i64 i1)] hF hS Fol (by kernel_rfl) (by kernel_rfl) (by kernel_rfl) ?_ (fun a w hF hS => ?_)
          · exact obs_nil
          refine wpIn_ret ?_
          refine block_r (then_r (then_r (block_r (then_r ?_))))
          rw [← hφ1] at hm
          replace hm := done_b hm
          unfold gameroomref_at_K1 at hm
          try dsimp only at hm
          have hm : some i1 = some r := hm
          obtain rfl := Option.some.inj hm
          exact retV (rs := [.tmp 4]) (vs := [.int .i64 i1]) hF rfl (rv_t (by kernel_rfl) <| rv_nil) rfl ⟨rfl, hS⟩
        · replace hm := if_f hm hb
          refine wpIn_skip ?_
          refine block_n ?_
          refine then_n ?_
          exact ⟨hF.weak [0, 1, 5] (by kernel_rfl), hS, hm⟩
    · refine reg [] [] [0, 1, 5, 9] [pl 0 (.slice A1 l1.length c1), pl 1 (.int .i64 n2), pl 5 (.int .i64 i1), pl 9 (.bool (decide (i1 < (l1.length : Int))))] hF hS Fol (by kernel_rfl) (by kernel_rfl) (by kernel_rfl) ?_ (fun a w hF hS => ?_)
      · exact obs_nil
      refine cond_ev (t := 9) (b := decide (i1 < (l1.length : Int))) hF (by kernel_rfl) (fun hb => ?_) (fun hb => ?_)
      · replace hm := if_t hm hb
        refine wpIn_skip ?_
        refine then_n ?_
        exact ⟨hF.weak [0, 1, 5] (by kernel_rfl), hS, hm⟩
      · replace hm := if_f hm hb
        refine wpIn_exit ?_
        refine then_e (then_e (block_e (then_n ?_)))
        rw [← hφ1] at hm
        replace hm := done_b hm
        unfold gameroomref_at_K1 at hm
        try dsimp only at hm
        have hm : (gameroomref_at_J1).bind some = some r := hm
        exact ⟨hF.weak [] (by kernel_rfl), hS, hm⟩

noncomputable def gameroomref_OrderIs_J3  (i1 : Int) : Option (St Int (Fl Unit Bool)) :=
  some (.next (w64 (i1 + 1)))

noncomputable def gameroomref_OrderIs_J2  (l1 : List Int) (i1 : Int) : Option (St Int (Fl Unit Bool)) :=
  (gameroomref_at_m l1 i1).bind fun r1 => if (decide (r1 < 0)) then (some (.done (.ret false))) else ((gameroomref_OrderIs_J3 i1))

noncomputable def gameroomref_OrderIs_J1  : Option Bool :=
  some true

noncomputable def gameroomref_OrderIs_K1  : (Fl Unit Bool) → Option Bool :=
  fun (x : (Fl Unit Bool)) => match x with | .go _ => gameroomref_OrderIs_J1 | .ret x => some x

noncomputable def gameroomref_OrderIs_L1  (l1 : List Int) : Int → Option (St Int (Fl Unit Bool)) :=
  fun (x : Int) => match x with | i1 => if (decide (i1 < (l1.length : Int))) then ((gameroomref_OrderIs_J2 l1 i1)) else (some (.done (.go ())))

noncomputable def gameroomref_OrderIs_m  (l1 : List Int) : Option Bool :=
  (loop (gameroomref_OrderIs_L1 l1) 0).bind gameroomref_OrderIs_K1

set_option maxRecDepth 100000 in
set_option maxHeartbeats 4000000 in
theorem gameroomref_OrderIs_w {A1 : Option Addr} {c1 : Nat} {n1 : Nat} {l1 : List Int} {r : Bool} {w0 w : World} {B : Nat} {fs : List HP} (hm : gameroomref_OrderIs_m l1 = some r) (hS : Sep w0 B w (fs)) (hr_l1 : RdF w0 B fs A1 (vI l1)) (_hc_l1 : l1.length ≤ c1) (_hn_l1 : n1 = l1.length) :
    Calls Try.prog 42 #[.slice A1 n1 c1] w fun e w' => e = .returned (.bool r) ∧ Sep w0 B w' (fs) := by
  obtain ⟨i3, hi3, hz3, hs3, hb3⟩ := info_parts Info3
  obtain rfl := _hn_l1
  unfold gameroomref_OrderIs_m at hm
  replace hm := start_b hm
  refine enter (l := [.slice A1 l1.length c1]) (n := 14) Try.func42 rfl rfl (by simp) (fun a hF => ?_)
  refine reg [] [] [0] [pl 0 (.slice A1 l1.length c1)] hF hS Fol (by kernel_rfl) (by kernel_rfl) (by kernel_rfl) ?_ (fun a w hF hS => ?_)
  · exact obs_nil
  refine seq_cut (fun a w => Fr 14 [] a ∧ Sep w0 B w (fs) ∧ (gameroomref_OrderIs_J1).bind some = some r) ?_ ?_
  · rintro a w ⟨hF, hS, hm⟩
    unfold gameroomref_OrderIs_J1 at hm
    refine reg [] [] [2] [pl 2 (.bool true)] hF hS Fol (by kernel_rfl) (by kernel_rfl) (by kernel_rfl) ?_ (fun a w hF hS => ?_)
    · exact obs_nil
    refine wpIn_ret ?_
    have hm : some true = some r := hm
    obtain rfl := Option.some.inj hm
    exact retV (rs := [.tmp 2]) (vs := [.bool true]) hF rfl (rv_t (by kernel_rfl) <| rv_nil) rfl ⟨rfl, hS⟩
  · refine reg [] [] [0, 3] [pl 0 (.slice A1 l1.length c1), pl 3 (.int .i64 0)] hF hS Fol (by kernel_rfl) (by kernel_rfl) (by kernel_rfl) ?_ (fun a w hF hS => ?_)
    · exact obs_nil
    refine wpIn_block ?_
    refine wp_loop_model (S := Int) (R := (Fl Unit Bool)) (gameroomref_OrderIs_L1 l1) (fun x => (gameroomref_OrderIs_K1 x).bind some) r (fun (x : Int) a w => Fr 14 [pl 0 (.slice A1 l1.length c1), pl 3 (.int .i64 x)] a ∧ Sep w0 B w (fs)) (assoc_b hm) ⟨hF.weak [0, 3] (by kernel_rfl), hS⟩ ?_
    clear hF hS hm
    rintro nn1 i1 a w ⟨hF, hS⟩ hm
    generalize hφ1 : stK (gameroomref_OrderIs_L1 l1) nn1 (fun x => (gameroomref_OrderIs_K1 x).bind some) = φ1 at hm
    unfold gameroomref_OrderIs_L1 at hm
    dsimp only at hm
    refine seq_cut (fun a w => Fr 14 [pl 0 (.slice A1 l1.length c1), pl 3 (.int .i64 i1)] a ∧ Sep w0 B w (fs) ∧ ((gameroomref_OrderIs_J2 l1 i1)).bind φ1 = some r) ?_ ?_
    · rintro a w ⟨hF, hS, hm⟩
      unfold gameroomref_OrderIs_J2 at hm
      refine seq_cut (fun a w => Fr 14 [pl 0 (.slice A1 l1.length c1), pl 3 (.int .i64 i1)] a ∧ Sep w0 B w (fs) ∧ ((gameroomref_OrderIs_J3 i1)).bind φ1 = some r) ?_ ?_
      · rintro a w ⟨hF, hS, hm⟩
        unfold gameroomref_OrderIs_J3 at hm
        refine reg1 [] [] [0, 3] [pl 0 (.slice A1 l1.length c1), pl 3 (.int .i64 (w64 (i1 + 1)))] hF hS Fol (by kernel_rfl) (by kernel_rfl) (by kernel_rfl) ?_ (fun a w hF hS => ?_)
        · exact obs_nil
        refine then_n ?_
        rw [← hφ1] at hm
        exact ⟨(w64 (i1 + 1)), ⟨hF.weak [0, 3] (by kernel_rfl), hS⟩, hm⟩
      · refine wpIn_block ?_
        obtain ⟨r1, hr1, hm⟩ := call_b hm
        refine reg [⟨false, [], callFunc 78 #[.slice A1 l1.length c1, .int .i64 i1], .int .i64 r1⟩] [none, none, some (.int .i64 r1), none] [0, 3, 13] [pl 0 (.slice A1 l1.length c1), pl 3 (.int .i64 i1), pl 13 (.bool (decide (r1 < 0)))] hF hS Fol (by kernel_rfl) (by kernel_rfl) (by kernel_rfl) ?_ (fun a w hF hS => ?_)
        · exact obs_cons (ob_call Try.func78 (by kernel_rfl) rfl (fun _ _ hS => gameroomref_at_w hr1 hS (fun _ hS => (hr_l1 _ (hS.dropN 0))) _hc_l1 rfl)) <| obs_nil
        refine cond_ev (t := 13) (b := decide (r1 < 0)) hF (by kernel_rfl) (fun hb => ?_) (fun hb => ?_)
        · replace hm := if_t hm hb
          refine reg [] [] [2] [pl 2 (.bool false)] hF hS Fol (by kernel_rfl) (by kernel_rfl) (by kernel_rfl) ?_ (fun a w hF hS => ?_)
          · exact obs_nil
          refine wpIn_ret ?_
          refine block_r (then_r (then_r (block_r (then_r ?_))))
          rw [← hφ1] at hm
          replace hm := done_b hm
          unfold gameroomref_OrderIs_K1 at hm
          try dsimp only at hm
          have hm : some false = some r := hm
          obtain rfl := Option.some.inj hm
          exact retV (rs := [.tmp 2]) (vs := [.bool false]) hF rfl (rv_t (by kernel_rfl) <| rv_nil) rfl ⟨rfl, hS⟩
        · replace hm := if_f hm hb
          refine wpIn_skip ?_
          refine block_n ?_
          refine then_n ?_
          exact ⟨hF.weak [0, 3] (by kernel_rfl), hS, hm⟩
    · refine reg [] [] [0, 3, 7] [pl 0 (.slice A1 l1.length c1), pl 3 (.int .i64 i1), pl 7 (.bool (decide (i1 < (l1.length : Int))))] hF hS Fol (by kernel_rfl) (by kernel_rfl) (by kernel_rfl) ?_ (fun a w hF hS => ?_)
      · exact obs_nil
      refine cond_ev (t := 7) (b := decide (i1 < (l1.length : Int))) hF (by kernel_rfl) (fun hb => ?_) (fun hb => ?_)
      · replace hm := if_t hm hb
        refine wpIn_skip ?_
        refine then_n ?_
        exact ⟨hF.weak [0, 3] (by kernel_rfl), hS, hm⟩
      · replace hm := if_f hm hb
        refine wpIn_exit ?_
        refine then_e (then_e (block_e (then_n ?_)))
        rw [← hφ1] at hm
        replace hm := done_b hm
        unfold gameroomref_OrderIs_K1 at hm
        try dsimp only at hm
        have hm : (gameroomref_OrderIs_J1).bind some = some r := hm
        exact ⟨hF.weak [] (by kernel_rfl), hS, hm⟩

noncomputable def gameroomref_factorial_J3  (f1 : Int) (i1 : Int) : Option (St (Int × Int) Int) :=
  some (.next ((w64 (f1 * i1)), (w64 (i1 + 1))))

noncomputable def gameroomref_factorial_J2  (f1 : Int) (i1 : Int) : Option (St (Int × Int) Int) :=
  (gameroomref_factorial_J3 f1 i1)

noncomputable def gameroomref_factorial_J1  (f2 : Int) : Option Int :=
  some f2

noncomputable def gameroomref_factorial_K1  : Int → Option Int :=
  fun (x : Int) => match x with | f2 => gameroomref_factorial_J1 f2

noncomputable def gameroomref_factorial_L1  (n1 : Int) : (Int × Int) → Option (St (Int × Int) Int) :=
  fun (x : (Int × Int)) => match x with | (f1, i1) => if (decide (i1 ≤ n1)) then ((gameroomref_factorial_J2 f1 i1)) else (some (.done f1))

noncomputable def gameroomref_factorial_m  (n1 : Int) : Option Int :=
  (loop (gameroomref_factorial_L1 n1) (1, 2)).bind gameroomref_factorial_K1

set_option maxRecDepth 100000 in
set_option maxHeartbeats 4000000 in
theorem gameroomref_factorial_w {n1 : Int} {r : Int} {w0 w : World} {B : Nat} {fs : List HP} (hm : gameroomref_factorial_m n1 = some r) (hS : Sep w0 B w (fs)) :
    Calls Try.prog 79 #[.int .i64 n1] w fun e w' => e = .returned (.int .i64 r) ∧ Sep w0 B w' (fs) := by
  unfold gameroomref_factorial_m at hm
  replace hm := start_b hm
  refine enter (l := [.int .i64 n1]) (n := 14) Try.func79 rfl rfl (by simp) (fun a hF => ?_)
  refine reg [] [] [0] [pl 0 (.int .i64 n1)] hF hS Fol (by kernel_rfl) (by kernel_rfl) (by kernel_rfl) ?_ (fun a w hF hS => ?_)
  · exact obs_nil
  refine reg [] [] [0, 3] [pl 0 (.int .i64 n1), pl 3 (.int .i64 1)] hF hS Fol (by kernel_rfl) (by kernel_rfl) (by kernel_rfl) ?_ (fun a w hF hS => ?_)
  · exact obs_nil
  refine seq_cut (fun a w => ∃ (f2 : Int), Fr 14 [pl 3 (.int .i64 f2)] a ∧ Sep w0 B w (fs) ∧ (gameroomref_factorial_J1 f2).bind some = some r) ?_ ?_
  · rintro a w ⟨f2, hF, hS, hm⟩
    unfold gameroomref_factorial_J1 at hm
    refine reg [] [] [2] [pl 2 (.int .i64 f2)] hF hS Fol (by kernel_rfl) (by kernel_rfl) (by kernel_rfl) ?_ (fun a w hF hS => ?_)
    · exact obs_nil
    refine wpIn_ret ?_
    have hm : some f2 = some r := hm
    obtain rfl := Option.some.inj hm
    exact retV (rs := [.tmp 2]) (vs := [.int .i64 f2]) hF rfl (rv_t (by kernel_rfl) <| rv_nil) rfl ⟨rfl, hS⟩
  · refine reg [] [] [0, 3, 4] [pl 0 (.int .i64 n1), pl 3 (.int .i64 1), pl 4 (.int .i64 2)] hF hS Fol (by kernel_rfl) (by kernel_rfl) (by kernel_rfl) ?_ (fun a w hF hS => ?_)
    · exact obs_nil
    refine wpIn_block ?_
    refine wp_loop_model (S := (Int × Int)) (R := Int) (gameroomref_factorial_L1 n1) (fun x => (gameroomref_factorial_K1 x).bind some) r (fun (x : (Int × Int)) a w => Fr 14 [pl 0 (.int .i64 n1), pl 3 (.int .i64 x.1), pl 4 (.int .i64 x.2)] a ∧ Sep w0 B w (fs)) (assoc_b hm) ⟨hF.weak [0, 3, 4] (by kernel_rfl), hS⟩ ?_
    clear hF hS hm
    rintro nn1 ⟨f1, i1⟩ a w ⟨hF, hS⟩ hm
    generalize hφ1 : stK (gameroomref_factorial_L1 n1) nn1 (fun x => (gameroomref_factorial_K1 x).bind some) = φ1 at hm
    unfold gameroomref_factorial_L1 at hm
    dsimp only at hF hS hm
    refine seq_cut (fun a w => Fr 14 [pl 0 (.int .i64 n1), pl 3 (.int .i64 f1), pl 4 (.int .i64 i1)] a ∧ Sep w0 B w (fs) ∧ ((gameroomref_factorial_J2 f1 i1)).bind φ1 = some r) ?_ ?_
    · rintro a w ⟨hF, hS, hm⟩
      unfold gameroomref_factorial_J2 at hm
      refine seq_cut (fun a w => Fr 14 [pl 0 (.int .i64 n1), pl 3 (.int .i64 (w64 (f1 * i1))), pl 4 (.int .i64 i1)] a ∧ Sep w0 B w (fs) ∧ ((gameroomref_factorial_J3 f1 i1)).bind φ1 = some r) ?_ ?_
      · rintro a w ⟨hF, hS, hm⟩
        unfold gameroomref_factorial_J3 at hm
        refine reg1 [] [] [0, 3, 4] [pl 0 (.int .i64 n1), pl 3 (.int .i64 (w64 (f1 * i1))), pl 4 (.int .i64 (w64 (i1 + 1)))] hF hS Fol (by kernel_rfl) (by kernel_rfl) (by kernel_rfl) ?_ (fun a w hF hS => ?_)
        · exact obs_nil
        refine then_n ?_
        rw [← hφ1] at hm
        exact ⟨((w64 (f1 * i1)), (w64 (i1 + 1))), ⟨hF.weak [0, 3, 4] (by kernel_rfl), hS⟩, hm⟩
      · refine wpIn_block ?_
        refine reg1 [] [] [0, 3, 4] [pl 0 (.int .i64 n1), pl 3 (.int .i64 (w64 (f1 * i1))), pl 4 (.int .i64 i1)] hF hS Fol (by kernel_rfl) (by kernel_rfl) (by kernel_rfl) ?_ (fun a w hF hS => ?_)
        · exact obs_nil
        refine block_n ?_
        refine then_n ?_
        exact ⟨hF.weak [0, 3, 4] (by kernel_rfl), hS, hm⟩
    · refine reg [] [] [0, 3, 4, 7] [pl 0 (.int .i64 n1), pl 3 (.int .i64 f1), pl 4 (.int .i64 i1), pl 7 (.bool (decide (i1 ≤ n1)))] hF hS Fol (by kernel_rfl) (by kernel_rfl) (by kernel_rfl) ?_ (fun a w hF hS => ?_)
      · exact obs_nil
      refine cond_ev (t := 7) (b := decide (i1 ≤ n1)) hF (by kernel_rfl) (fun hb => ?_) (fun hb => ?_)
      · replace hm := if_t hm hb
        refine wpIn_skip ?_
        refine then_n ?_
        exact ⟨hF.weak [0, 3, 4] (by kernel_rfl), hS, hm⟩
      · replace hm := if_f hm hb
        refine wpIn_exit ?_
        refine then_e (then_e (block_e (then_n ?_)))
        rw [← hφ1] at hm
        replace hm := done_b hm
        unfold gameroomref_factorial_K1 at hm
        try dsimp only at hm
        have hm : (gameroomref_factorial_J1 f1).bind some = some r := hm
        exact ⟨f1, hF.weak [3] (by kernel_rfl), hS, hm⟩

noncomputable def gameroomref_NthOf_J4  (x1 : Int) (skip2 : Int) : Option (St (Int × Int) (Int × List Int)) :=
  some (.next (skip2, (w64 (x1 + 1))))

noncomputable def gameroomref_NthOf_J6  (skip1 : Int) (x1 : Int) : Option (St (Int × Int) (Int × List Int)) :=
  (gameroomref_NthOf_J4 x1) (w64 (skip1 - 1))

noncomputable def gameroomref_NthOf_J5  (k2 : Int) (l1 : List Int) (r1 : Int) (skip1 : Int) (x1 : Int) : Option (St (Int × Int) (Int × List Int)) :=
  if (skip1 == 0) then (asrt ((l1.length : Int) + 1 ≤ bigN) <| some (.done ((Int.tmod k2 r1), (l1 ++ ([x1] : List Int))))) else ((gameroomref_NthOf_J6 skip1 x1))

noncomputable def gameroomref_NthOf_J3  (k2 : Int) (l1 : List Int) (r1 : Int) (skip1 : Int) (x1 : Int) : Option (St (Int × Int) (Int × List Int)) :=
  (gameroomref_at_m l1 x1).bind fun r2 => if (decide ((0 : Int) ≤ r2)) then ((gameroomref_NthOf_J4 x1) skip1) else ((gameroomref_NthOf_J5 k2 l1 r1 skip1 x1))

noncomputable def gameroomref_NthOf_K2  : (Int × List Int) → Option (St (Int × List Int) (List Int)) :=
  fun (x : (Int × List Int)) => match x with | (k2, l1) => some (.next (k2, l1))

noncomputable def gameroomref_NthOf_L2  (n1 : Int) (k2 : Int) (l1 : List Int) (r1 : Int) : (Int × Int) → Option (St (Int × Int) (Int × List Int)) :=
  fun (x : (Int × Int)) => match x with | (skip1, x1) => if (decide (x1 < n1)) then ((gameroomref_NthOf_J3 k2 l1 r1 skip1 x1)) else (some (.done ((Int.tmod k2 r1), l1)))

noncomputable def gameroomref_NthOf_J2  (n1 : Int) (k2 : Int) (l1 : List Int) : Option (St (Int × List Int) (List Int)) :=
  (gameroomref_factorial_m (w64 ((w64 (n1 - 1)) - (l1.length : Int)))).bind fun r1 => asrt (r1 ≠ (0 : Int)) <| asrt (r1 ≠ (0 : Int)) <| (loop (gameroomref_NthOf_L2 n1 k2 l1 r1) ((w64 (Int.tdiv k2 r1)), 0)).bind gameroomref_NthOf_K2

noncomputable def gameroomref_NthOf_J1  (l2 : List Int) : Option (List Int) :=
  some l2

noncomputable def gameroomref_NthOf_K1  : (List Int) → Option (List Int) :=
  fun (x : (List Int)) => match x with | l2 => gameroomref_NthOf_J1 l2

noncomputable def gameroomref_NthOf_L1  (n1 : Int) : (Int × List Int) → Option (St (Int × List Int) (List Int)) :=
  fun (x : (Int × List Int)) => match x with | (k2, l1) => if (decide ((l1.length : Int) < n1)) then ((gameroomref_NthOf_J2 n1 k2 l1)) else (some (.done l1))

noncomputable def gameroomref_NthOf_m  (n1 : Int) (k1 : Int) : Option (List Int) :=
  (loop (gameroomref_NthOf_L1 n1) (k1, ([] : List Int))).bind gameroomref_NthOf_K1

set_option maxRecDepth 100000 in
set_option maxHeartbeats 4000000 in
theorem gameroomref_NthOf_w {n1 : Int} {k1 : Int} {r : (List Int)} {w0 w : World} {B : Nat} {fs : List HP} (hm : gameroomref_NthOf_m n1 k1 = some r) (hS : Sep w0 B w (fs)) :
    Calls Try.prog 80 #[.int .i64 n1, .int .i64 k1] w fun e w' => ∃ v, e = .returned v ∧ ∃ (A4 : Option Addr) (c4 : Nat), v = .slice A4 r.length c4 ∧ Sep w0 B w' (own 3 (.slice A4 r.length c4) (vI r) :: fs) := by
  obtain ⟨i3, hi3, hz3, hs3, hb3⟩ := info_parts Info3
  unfold gameroomref_NthOf_m at hm
  replace hm := start_b hm
  refine enter (l := [.int .i64 n1, .int .i64 k1]) (n := 43) Try.func80 rfl rfl (by simp) (fun a hF => ?_)
  refine reg [] [] [0, 1] [pl 0 (.int .i64 n1), pl 1 (.int .i64 k1)] hF hS Fol (by kernel_rfl) (by kernel_rfl) (by kernel_rfl) ?_ (fun a w hF hS => ?_)
  · exact obs_nil
  refine reg [] [] [0, 1, 5] [pl 0 (.int .i64 n1), pl 1 (.int .i64 k1), pl 5 (.slice none 0 0)] hF hS Fol (by kernel_rfl) (by kernel_rfl) (by kernel_rfl) ?_ (fun a w hF hS => ?_)
  · exact obs_nil
  refine seq_cut (fun a w => ∃ (l2 : List Int) (A2 : Option Addr) (c2 : Nat), Fr 43 [pl 5 (.slice A2 l2.length c2)] a ∧ Sep w0 B w (own 3 (.slice A2 l2.length c2) (vI l2) :: fs) ∧ (gameroomref_NthOf_J1 l2).bind some = some r) ?_ ?_
  · rintro a w ⟨l2, A2, c2, hF, hS, hm⟩
    unfold gameroomref_NthOf_J1 at hm
    refine reg [] [] [4] [pl 4 (.slice A2 l2.length c2)] hF hS Fol (by kernel_rfl) (by kernel_rfl) (by kernel_rfl) ?_ (fun a w hF hS => ?_)
    · exact obs_nil
    refine wpIn_ret ?_
    have hm : some l2 = some r := hm
    obtain rfl := Option.some.inj hm
    exact retV (rs := [.tmp 4]) (vs := [.slice A2 l2.length c2]) hF rfl (rv_t (by kernel_rfl) <| rv_nil) rfl ⟨_, rfl, A2, c2, rfl, hS⟩
  · refine wpIn_block ?_
    have hS : Sep w0 B w (own 3 (.slice none 0 0) (vI ([] : List Int)) :: fs) := hS.nil 3
    have hl1 := (hS.at_ 0 rfl).len1
    have hS := (hS.at_ 0 rfl).reN hl1
    have hS : Sep w0 B w (own 3 (.slice none (([] : List Int).length) 0) (vI ([] : List Int)) :: fs) := hS
    have hF := hF.cast (t := 5) (v := .slice none 0 0) (v' := .slice none (([] : List Int).length) 0) rfl rfl (congrArg (fun k => Value.slice none k 0) hl1)
    refine wp_loop_model (S := (Int × List Int)) (R := (List Int)) (gameroomref_NthOf_L1 n1) (fun x => (gameroomref_NthOf_K1 x).bind some) r (fun (x : (Int × List Int)) a w => ∃ (A1 : Option Addr) (c1 : Nat), Fr 43 [pl 0 (.int .i64 n1), pl 1 (.int .i64 x.1), pl 5 (.slice A1 x.2.length c1)] a ∧ Sep w0 B w (own 3 (.slice A1 x.2.length c1) (vI x.2) :: fs)) (assoc_b hm) ⟨none, 0, hF.weak [0, 1, 5] (by kernel_rfl), hS⟩ ?_
    clear hF hS hm
    rintro nn1 ⟨k2, l1⟩ a w ⟨A1, c1, hF, hS⟩ hm
    generalize hφ1 : stK (gameroomref_NthOf_L1 n1) nn1 (fun x => (gameroomref_NthOf_K1 x).bind some) = φ1 at hm
    unfold gameroomref_NthOf_L1 at hm
    dsimp only at hF hS hm
    refine seq_cut (fun a w => Fr 43 [pl 0 (.int .i64 n1), pl 1 (.int .i64 k2), pl 5 (.slice A1 l1.length c1)] a ∧ Sep w0 B w (own 3 (.slice A1 l1.length c1) (vI l1) :: fs) ∧ ((gameroomref_NthOf_J2 n1 k2 l1)).bind φ1 = some r) ?_ ?_
    · rintro a w ⟨hF, hS, hm⟩
      unfold gameroomref_NthOf_J2 at hm
      refine wpIn_block ?_
      obtain ⟨r1, hr1, hm⟩ := call_b hm
      refine reg [⟨false, [], callFunc 79 #[.int .i64 (w64 ((w64 (n1 - 1)) - (l1.length : Int)))], .int .i64 r1⟩] [none, none, none, none, none, some (.int .i64 r1), none] [0, 1, 5, 6] [pl 0 (.int .i64 n1), pl 1 (.int .i64 k2), pl 5 (.slice A1 l1.length c1), pl 6 (.int .i64 r1)] hF hS Fol (by kernel_rfl) (by kernel_rfl) (by kernel_rfl) ?_ (fun a w hF hS => ?_)
      · exact obs_cons (ob_call Try.func79 (by kernel_rfl) rfl (fun _ _ hS => gameroomref_factorial_w hr1 hS )) <| obs_nil
      obtain ⟨hp1, hm⟩ := asrt_b hm
      refine reg [⟨true, [], vS (Op.intDiv .quo .i64 k2 r1), .int .i64 (w64 (Int.tdiv k2 r1))⟩] [none, none, some (.int .i64 (w64 (Int.tdiv k2 r1))), none] [0, 1, 5, 6, 7] [pl 0 (.int .i64 n1), pl 1 (.int .i64 k2), pl 5 (.slice A1 l1.length c1), pl 6 (.int .i64 r1), pl 7 (.int .i64 (w64 (Int.tdiv k2 r1)))] hF hS Fol (by kernel_rfl) (by kernel_rfl) (by kernel_rfl) ?_ (fun a w hF hS => ?_)
      · exact obs_cons (ob_quo rfl (fun _ => hp1)) <| obs_nil
      obtain ⟨hp2, hm⟩ := asrt_b hm
      refine reg [⟨true, [], vS (Op.intDiv .rem .i64 k2 r1), .int .i64 (Int.tmod k2 r1)⟩] [none, none, some (.int .i64 (Int.tmod k2 r1)), none] [0, 1, 5, 7] [pl 0 (.int .i64 n1), pl 1 (.int .i64 (Int.tmod k2 r1)), pl 5 (.slice A1 l1.length c1), pl 7 (.int .i64 (w64 (Int.tdiv k2 r1)))] hF hS Fol (by kernel_rfl) (by kernel_rfl) (by kernel_rfl) ?_ (fun a w hF hS => ?_)
      · exact obs_cons (ob_rem rfl (fun _ => hp2)) <| obs_nil
      refine reg [] [] [0, 1, 5, 7, 8] [pl 0 (.int .i64 n1), pl 1 (.int .i64 (Int.tmod k2 r1)), pl 5 (.slice A1 l1.length c1), pl 7 (.int .i64 (w64 (Int.tdiv k2 r1))), pl 8 (.int .i64 0)] hF hS Fol (by kernel_rfl) (by kernel_rfl) (by kernel_rfl) ?_ (fun a w hF hS => ?_)
      · exact obs_nil
      refine wpIn_block ?_
      refine wp_loop_model (S := (Int × Int)) (R := (Int × List Int)) (gameroomref_NthOf_L2 n1 k2 l1 r1) (fun x => (gameroomref_NthOf_K2 x).bind φ1) r (fun (x : (Int × Int)) a w => Fr 43 [pl 0 (.int .i64 n1), pl 1 (.int .i64 (Int.tmod k2 r1)), pl 5 (.slice A1 l1.length c1), pl 7 (.int .i64 x.1), pl 8 (.int .i64 x.2)] a ∧ Sep w0 B w (own 3 (.slice A1 l1.length c1) (vI l1) :: fs)) (assoc_b hm) ⟨hF.weak [0, 1, 5, 7, 8] (by kernel_rfl), hS⟩ ?_
      clear hF hS hm
      rintro nn2 ⟨skip1, x1⟩ a w ⟨hF, hS⟩ hm
      generalize hφ2 : stK (gameroomref_NthOf_L2 n1 k2 l1 r1) nn2 (fun x => (gameroomref_NthOf_K2 x).bind φ1) = φ2 at hm
      unfold gameroomref_NthOf_L2 at hm
      dsimp only at hF hS hm
      refine seq_cut (fun a w => Fr 43 [pl 0 (.int .i64 n1), pl 1 (.int .i64 (Int.tmod k2 r1)), pl 5 (.slice A1 l1.length c1), pl 7 (.int .i64 skip1), pl 8 (.int .i64 x1)] a ∧ Sep w0 B w (own 3 (.slice A1 l1.length c1) (vI l1) :: fs) ∧ ((gameroomref_NthOf_J3 k2 l1 r1 skip1 x1)).bind φ2 = some r) ?_ ?_
      · rintro a w ⟨hF, hS, hm⟩
        unfold gameroomref_NthOf_J3 at hm
        refine seq_cut (fun a w => ∃ (skip2 : Int), Fr 43 [pl 0 (.int .i64 n1), pl 1 (.int .i64 (Int.tmod k2 r1)), pl 5 (.slice A1 l1.length c1), pl 7 (.int .i64 skip2), pl 8 (.int .i64 x1)] a ∧ Sep w0 B w (own 3 (.slice A1 l1.length c1) (vI l1) :: fs) ∧ ((gameroomref_NthOf_J4 x1) skip2).bind φ2 = some r) ?_ ?_
        · rintro a w ⟨skip2, hF, hS, hm⟩
          unfold gameroomref_NthOf_J4 at hm
          refine reg1 [] [] [0, 1, 5, 7, 8] [pl 0 (.int .i64 n1), pl 1 (.int .i64 (Int.tmod k2 r1)), pl 5 (.slice A1 l1.length c1), pl 7 (.int .i64 skip2), pl 8 (.int .i64 (w64 (x1 + 1)))] hF hS Fol (by kernel_rfl) (by kernel_rfl) (by kernel_rfl) ?_ (fun a w hF hS => ?_)
          · exact obs_nil
          refine then_n ?_
          rw [← hφ2] at hm
          exact ⟨(skip2, (w64 (x1 + 1))), ⟨hF.weak [0, 1, 5, 7, 8] (by kernel_rfl), hS⟩, hm⟩
        · refine wpIn_block ?_
          refine seq_cut (fun a w => Fr 43 [pl 0 (.int .i64 n1), pl 1 (.int .i64 (Int.tmod k2 r1)), pl 5 (.slice A1 l1.length c1), pl 7 (.int .i64 skip1), pl 8 (.int .i64 x1)] a ∧ Sep w0 B w (own 3 (.slice A1 l1.length c1) (vI l1) :: fs) ∧ ((gameroomref_NthOf_J5 k2 l1 r1 skip1 x1)).bind φ2 = some r) ?_ ?_
          · rintro a w ⟨hF, hS, hm⟩
            unfold gameroomref_NthOf_J5 at hm
            refine seq_cut (fun a w => Fr 43 [pl 0 (.int .i64 n1), pl 1 (.int .i64 (Int.tmod k2 r1)), pl 5 (.slice A1 l1.length c1), pl 7 (.int .i64 skip1), pl 8 (.int .i64 x1)] a ∧ Sep w0 B w (own 3 (.slice A1 l1.length c1) (vI l1) :: fs) ∧ ((gameroomref_NthOf_J6 skip1 x1)).bind φ2 = some r) ?_ ?_
            · rintro a w ⟨hF, hS, hm⟩
              unfold gameroomref_NthOf_J6 at hm
              refine reg1 [] [] [0, 1, 5, 7, 8] [pl 0 (.int .i64 n1), pl 1 (.int .i64 (Int.tmod k2 r1)), pl 5 (.slice A1 l1.length c1), pl 7 (.int .i64 (w64 (skip1 - 1))), pl 8 (.int .i64 x1)] hF hS Fol (by kernel_rfl) (by kernel_rfl) (by kernel_rfl) ?_ (fun a w hF hS => ?_)
              · exact obs_nil
              refine block_n ?_
              refine then_n ?_
              exact ⟨(w64 (skip1 - 1)), hF.weak [0, 1, 5, 7, 8] (by kernel_rfl), hS, hm⟩
            · refine reg [] [] [0, 1, 5, 7, 8, 35] [pl 0 (.int .i64 n1), pl 1 (.int .i64 (Int.tmod k2 r1)), pl 5 (.slice A1 l1.length c1), pl 7 (.int .i64 skip1), pl 8 (.int .i64 x1), pl 35 (.bool (skip1 == 0))] hF hS Fol (by kernel_rfl) (by kernel_rfl) (by kernel_rfl) ?_ (fun a w hF hS => ?_)
              · exact obs_nil
              refine cond_ev (t := 35) (b := (skip1 == 0)) hF (by kernel_rfl) (fun hb => ?_) (fun hb => ?_)
              · replace hm := if_t hm hb
                refine seqR ?_
                obtain ⟨hp3, hm⟩ := asrt_b hm
                refine at_run 2 [] [] [0, 1, 36, 37] [pl 0 (.int .i64 n1), pl 1 (.int .i64 (Int.tmod k2 r1)), pl 36 (.slice A1 l1.length c1), pl 37 (.int .i64 x1)] hF hS (by kernel_rfl) (by kernel_rfl) ?_ (fun a w hF hS => ?_)
                · exact obs_nil
                refine at_do (d := 38) (s := vS (Instr.buildSlice 34 1 #[(0, .int .i64 x1)])) (v := .slice (some ⟨w.heap.size, 0, none⟩) 1 1) (w' := w.alloc (.cells #[.int .i64 x1] 3)) hF (by kernel_rfl) (by kernel_rfl) (by kernel_rfl) (fun a hF => ?_)
                have hS : Sep w0 B (w.alloc (.cells #[.int .i64 x1] 3)) (own 3 (.slice (some (⟨w.heap.size, 0, none⟩ : Addr)) 1 1) (vI ([x1] : List Int)) :: (own 3 (.slice A1 l1.length c1) (vI l1) :: fs)) := hS.lit 3 #[.int .i64 x1] 1 rfl (by omega)
                generalize (some (⟨w.heap.size, 0, none⟩ : Addr)) = g1 at hF hS
                generalize w.alloc (.cells #[.int .i64 x1] 3) = w at hS ⊢
                obtain ⟨A3, c3, w, hrun, hS⟩ := run_app1 (P := Try.prog) (t := 34) (m := l1) (ys := ([x1] : List Int)) (A2 := g1) (m2 := 1) (c2 := 1) (Value.int .i64) (0 : Int) (hS.at_ 1 rfl) (hS.at_ 0 rfl).rd ((hS.at_ 0 rfl).len1) 34 Und34 hi3 hz3 hs3 (by omega) rfl (fun _ => rfl) hp3
                have hS : Sep w0 B w (own 3 (.slice g1 1 1) (vI ([x1] : List Int)) :: own 3 (.slice A3 ((l1 ++ ([x1] : List Int)).length) c3) (vI (l1 ++ ([x1] : List Int))) :: fs) := hS
                refine at_do (d := 39) hF (by kernel_rfl) (by kernel_rfl) hrun (fun a hF => ?_)
                refine at_run 1 [] [] [0, 1, 5] [pl 0 (.int .i64 n1), pl 1 (.int .i64 (Int.tmod k2 r1)), pl 5 (.slice A3 ((l1 ++ ([x1] : List Int)).length) c3)] hF hS (by kernel_rfl) (by kernel_rfl) ?_ (fun a w hF hS => ?_)
                · exact obs_nil
                refine at_end [0, 1, 5] [pl 0 (.int .i64 n1), pl 1 (.int .i64 (Int.tmod k2 r1)), pl 5 (.slice A3 ((l1 ++ ([x1] : List Int)).length) c3)] hF rfl (by kernel_rfl) (fun hF => ?_)
                refine then_n ?_
                refine wpIn_exit ?_
                refine then_e (block_o rfl (then_e (then_e (block_e (block_n (then_n ?_))))))
                have hS := hS.pickN 2 [1] (by decide)
                rw [← hφ2] at hm
                replace hm := done_b hm
                unfold gameroomref_NthOf_K2 at hm
                try dsimp only at hm
                have hm : (some (.next ((Int.tmod k2 r1), (l1 ++ ([x1] : List Int))))).bind φ1 = some r := hm
                rw [← hφ1] at hm
                exact ⟨((Int.tmod k2 r1), (l1 ++ ([x1] : List Int))), ⟨A3, c3, hF.weak [0, 1, 5] (by kernel_rfl), hS⟩, hm⟩
              · replace hm := if_f hm hb
                refine wpIn_skip ?_
                refine then_n ?_
                exact ⟨hF.weak [0, 1, 5, 7, 8] (by kernel_rfl), hS, hm⟩
          · obtain ⟨r2, hr2, hm⟩ := call_b hm
            refine reg [⟨false, [], callFunc 78 #[.slice A1 l1.length c1, .int .i64 x1], .int .i64 r2⟩] [none, none, some (.int .i64 r2), none] [0, 1, 5, 7, 8, 33] [pl 0 (.int .i64 n1), pl 1 (.int .i64 (Int.tmod k2 r1)), pl 5 (.slice A1 l1.length c1), pl 7 (.int .i64 skip1), pl 8 (.int .i64 x1), pl 33 (.bool (decide ((0 : Int) ≤ r2)))] hF hS Fol (by kernel_rfl) (by kernel_rfl) (by kernel_rfl) ?_ (fun a w hF hS => ?_)
            · exact obs_cons (ob_call Try.func78 (by kernel_rfl) rfl (fun _ _ hS => gameroomref_at_w hr2 hS (fun _ hS => (hS.at_ 0 rfl).rd) ((hS.at_ 0 rfl).cap1) rfl)) <| obs_nil
            refine cond_ev (t := 33) (b := decide ((0 : Int) ≤ r2)) hF (by kernel_rfl) (fun hb => ?_) (fun hb => ?_)
            · replace hm := if_t hm hb
              refine wpIn_exit ?_
              refine then_e (block_e (then_n ?_))
              exact ⟨skip1, hF.weak [0, 1, 5, 7, 8] (by kernel_rfl), hS, hm⟩
            · replace hm := if_f hm hb
              refine wpIn_skip ?_
              refine then_n ?_
              exact ⟨hF.weak [0, 1, 5, 7, 8] (by kernel_rfl), hS, hm⟩
      · refine reg [] [] [0, 1, 5, 7, 8, 27] [pl 0 (.int .i64 n1), pl 1 (.int .i64 (Int.tmod k2 r1)), pl 5 (.slice A1 l1.length c1), pl 7 (.int .i64 skip1), pl 8 (.int .i64 x1), pl 27 (.bool (decide (x1 < n1)))] hF hS Fol (by kernel_rfl) (by kernel_rfl) (by kernel_rfl) ?_ (fun a w hF hS => ?_)
        · exact obs_nil
        refine cond_ev (t := 27) (b := decide (x1 < n1)) hF (by kernel_rfl) (fun hb => ?_) (fun hb => ?_)
        · replace hm := if_t hm hb
          refine wpIn_skip ?_
          refine then_n ?_
          exact ⟨hF.weak [0, 1, 5, 7, 8] (by kernel_rfl), hS, hm⟩
        · replace hm := if_f hm hb
          refine wpIn_exit ?_
          refine then_e (then_e (block_e (block_n (then_n ?_))))
          rw [← hφ2] at hm
          replace hm := done_b hm
          unfold gameroomref_NthOf_K2 at hm
          try dsimp only at hm
          have hm : (some (.next ((Int.tmod k2 r1), l1))).bind φ1 = some r := hm
          rw [← hφ1] at hm
          exact ⟨((Int.tmod k2 r1), l1), ⟨A1, c1, hF.weak [0, 1, 5] (by kernel_rfl), hS⟩, hm⟩
    · refine reg [] [] [0, 1, 5, 12] [pl 0 (.int .i64 n1), pl 1 (.int .i64 k2), pl 5 (.slice A1 l1.length c1), pl 12 (.bool (decide ((l1.length : Int) < n1)))] hF hS Fol (by kernel_rfl) (by kernel_rfl) (by kernel_rfl) ?_ (fun a w hF hS => ?_)
      · exact obs_nil
      refine cond_ev (t := 12) (b := decide ((l1.length : Int) < n1)) hF (by kernel_rfl) (fun hb => ?_) (fun hb => ?_)
      · replace hm := if_t hm hb
        refine wpIn_skip ?_
        refine then_n ?_
        exact ⟨hF.weak [0, 1, 5] (by kernel_rfl), hS, hm⟩
      · replace hm := if_f hm hb
        refine wpIn_exit ?_
        refine then_e (then_e (block_e (then_n ?_)))
        rw [← hφ1] at hm
        replace hm := done_b hm
        unfold gameroomref_NthOf_K1 at hm
        try dsimp only at hm
        have hm : (gameroomref_NthOf_J1 l1).bind some = some r := hm
        exact ⟨l1, A1, c1, hF.weak [5] (by kernel_rfl), hS, hm⟩

noncomputable def gameroomref_MagicCount_J6  (given1 : List Int) (l1 : List Int) (fits1 : Bool) (i1 : Int) : Option (St (List Int × Bool × Int) (List Int × Bool)) :=
  some (.next ((l1.set (Int.toNat i1) (w64 ((geti l1 i1) + 1))), (fits1 && (((geti given1 i1) == 0) || ((geti given1 i1) == (geti (l1.set (Int.toNat i1) (w64 ((geti l1 i1) + 1))) i1)))), (w64 (i1 + 1))))

noncomputable def gameroomref_MagicCount_J5  (given1 : List Int) (r2 : (List Int)) (l1 : List Int) (fits1 : Bool) (i1 : Int) : Option (St (List Int × Bool × Int) (List Int × Bool)) :=
  asrt (0 ≤ i1 ∧ i1 < (r2.length : Int)) <| asrt (0 ≤ i1 ∧ i1 < (r2.length : Int)) <| asrt (fits1 = true → 0 ≤ i1 ∧ i1 < (given1.length : Int)) <| asrt (((geti given1 i1) == 0) = false → fits1 = true → 0 ≤ i1 ∧ i1 < (given1.length : Int)) <| asrt (((geti given1 i1) == 0) = false → fits1 = true → 0 ≤ i1 ∧ i1 < (r2.length : Int)) <| (gameroomref_MagicCount_J6 given1 l1 fits1 i1)

noncomputable def gameroomref_MagicCount_J3  (k1 : Int) (many3 : Int) : Option (St (Int × Int) Int) :=
  some (.next (many3, (w64 (k1 + 1))))

noncomputable def gameroomref_MagicCount_J4  (many1 : Int) (k1 : Int) (l2 : List Int) (fits2 : Bool) : Option (St (Int × Int) Int) :=
  if fits2 then ((gameroomref_MagicKind_m l2).bind fun r3 => if (decide ((2 : Int) ≤ r3.1)) then ((gameroomref_MagicCount_J3 k1) (w64 (many1 + 1))) else ((gameroomref_MagicCount_J3 k1) many1)) else ((gameroomref_MagicCount_J3 k1) many1)

noncomputable def gameroomref_MagicCount_K2  (many1 : Int) (k1 : Int) : (List Int × Bool) → Option (St (Int × Int) Int) :=
  fun (x : (List Int × Bool)) => match x with | (l2, fits2) => (gameroomref_MagicCount_J4 many1 k1) l2 fits2

noncomputable def gameroomref_MagicCount_L2  (given1 : List Int) (r2 : (List Int)) : (List Int × Bool × Int) → Option (St (List Int × Bool × Int) (List Int × Bool)) :=
  fun (x : (List Int × Bool × Int)) => match x with | (l1, fits1, i1) => if (decide (i1 < (r2.length : Int))) then ((gameroomref_MagicCount_J5 given1 r2 l1 fits1 i1)) else (some (.done (l1, fits1)))

noncomputable def gameroomref_MagicCount_J2  (n1 : Int) (given1 : List Int) (many1 : Int) (k1 : Int) : Option (St (Int × Int) Int) :=
  (gameroomref_NthOf_m (w64 (n1 * n1)) k1).bind fun r2 => (loop (gameroomref_MagicCount_L2 given1 r2) (r2, true, 0)).bind (gameroomref_MagicCount_K2 many1 k1)

noncomputable def gameroomref_MagicCount_J1  (many2 : Int) : Option Int :=
  some many2

noncomputable def gameroomref_MagicCount_K1  : Int → Option Int :=
  fun (x : Int) => match x with | many2 => gameroomref_MagicCount_J1 many2

noncomputable def gameroomref_MagicCount_L1  (n1 : Int) (given1 : List Int) : (Int × Int) → Option (St (Int × Int) Int) :=
  fun (x : (Int × Int)) => match x with | (many1, k1) => (gameroomref_factorial_m (w64 (n1 * n1))).bind fun r1 => if (decide (k1 < r1)) then ((gameroomref_MagicCount_J2 n1 given1 many1 k1)) else (some (.done many1))

noncomputable def gameroomref_MagicCount_m  (n1 : Int) (given1 : List Int) : Option Int :=
  (loop (gameroomref_MagicCount_L1 n1 given1) (0, 0)).bind gameroomref_MagicCount_K1

set_option maxRecDepth 100000 in
set_option maxHeartbeats 4000000 in
theorem gameroomref_MagicCount_w {n1 : Int} {A1 : Option Addr} {c1 : Nat} {n2 : Nat} {given1 : List Int} {r : Int} {w0 w : World} {B : Nat} {fs : List HP} (hm : gameroomref_MagicCount_m n1 given1 = some r) (hS : Sep w0 B w (fs)) (hr_given1 : RdF w0 B fs A1 (vI given1)) (_hc_given1 : given1.length ≤ c1) (_hn_given1 : n2 = given1.length) :
    Calls Try.prog 40 #[.int .i64 n1, .slice A1 n2 c1] w fun e w' => e = .returned (.int .i64 r) ∧ Sep w0 B w' (fs) := by
  obtain ⟨i3, hi3, hz3, hs3, hb3⟩ := info_parts Info3
  obtain rfl := _hn_given1
  unfold gameroomref_MagicCount_m at hm
  replace hm := start_b hm
  refine enter (l := [.int .i64 n1, .slice A1 given1.length c1]) (n := 67) Try.func40 rfl rfl (by simp) (fun a hF => ?_)
  refine reg [] [] [0, 1] [pl 0 (.int .i64 n1), pl 1 (.slice A1 given1.length c1)] hF hS Fol (by kernel_rfl) (by kernel_rfl) (by kernel_rfl) ?_ (fun a w hF hS => ?_)
  · exact obs_nil
  refine reg [] [] [0, 1, 5] [pl 0 (.int .i64 n1), pl 1 (.slice A1 given1.length c1), pl 5 (.int .i64 0)] hF hS Fol (by kernel_rfl) (by kernel_rfl) (by kernel_rfl) ?_ (fun a w hF hS => ?_)
  · exact obs_nil
  refine seq_cut (fun a w => ∃ (many2 : Int), Fr 67 [pl 5 (.int .i64 many2)] a ∧ Sep w0 B w (fs) ∧ (gameroomref_MagicCount_J1 many2).bind some = some r) ?_ ?_
  · rintro a w ⟨many2, hF, hS, hm⟩
    unfold gameroomref_MagicCount_J1 at hm
    refine reg [] [] [4] [pl 4 (.int .i64 many2)] hF hS Fol (by kernel_rfl) (by kernel_rfl) (by kernel_rfl) ?_ (fun a w hF hS => ?_)
    · exact obs_nil
    refine wpIn_ret ?_
    have hm : some many2 = some r := hm
    obtain rfl := Option.some.inj hm
    exact retV (rs := [.tmp 4]) (vs := [.int .i64 many2]) hF rfl (rv_t (by kernel_rfl) <| rv_nil) rfl ⟨rfl, hS⟩
  · refine reg [] [] [0, 1, 5, 6] [pl 0 (.int .i64 n1), pl 1 (.slice A1 given1.length c1), pl 5 (.int .i64 0), pl 6 (.int .i64 0)] hF hS Fol (by kernel_rfl) (by kernel_rfl) (by kernel_rfl) ?_ (fun a w hF hS => ?_)
    · exact obs_nil
    refine wpIn_block ?_
    refine wp_loop_model (S := (Int × Int)) (R := Int) (gameroomref_MagicCount_L1 n1 given1) (fun x => (gameroomref_MagicCount_K1 x).bind some) r (fun (x : (Int × Int)) a w => Fr 67 [pl 0 (.int .i64 n1), pl 1 (.slice A1 given1.length c1), pl 5 (.int .i64 x.1), pl 6 (.int .i64 x.2)] a ∧ Sep w0 B w (fs)) (assoc_b hm) ⟨hF.weak [0, 1, 5, 6] (by kernel_rfl), hS⟩ ?_
    clear hF hS hm
    rintro nn1 ⟨many1, k1⟩ a w ⟨hF, hS⟩ hm
    generalize hφ1 : stK (gameroomref_MagicCount_L1 n1 given1) nn1 (fun x => (gameroomref_MagicCount_K1 x).bind some) = φ1 at hm
    unfold gameroomref_MagicCount_L1 at hm
    dsimp only at hF hS hm
    refine seq_cut (fun a w => Fr 67 [pl 0 (.int .i64 n1), pl 1 (.slice A1 given1.length c1), pl 5 (.int .i64 many1), pl 6 (.int .i64 k1)] a ∧ Sep w0 B w (fs) ∧ ((gameroomref_MagicCount_J2 n1 given1 many1 k1)).bind φ1 = some r) ?_ ?_
    · rintro a w ⟨hF, hS, hm⟩
      unfold gameroomref_MagicCount_J2 at hm
      refine seq_cut (fun a w => ∃ (many3 : Int), Fr 67 [pl 0 (.int .i64 n1), pl 1 (.slice A1 given1.length c1), pl 5 (.int .i64 many3), pl 6 (.int .i64 k1)] a ∧ Sep w0 B w (fs) ∧ ((gameroomref_MagicCount_J3 k1) many3).bind φ1 = some r) ?_ ?_
      · rintro a w ⟨many3, hF, hS, hm⟩
        unfold gameroomref_MagicCount_J3 at hm
        refine reg1 [] [] [0, 1, 5, 6] [pl 0 (.int .i64 n1), pl 1 (.slice A1 given1.length c1), pl 5 (.int .i64 many3), pl 6 (.int .i64 (w64 (k1 + 1)))] hF hS Fol (by kernel_rfl) (by kernel_rfl) (by kernel_rfl) ?_ (fun a w hF hS => ?_)
        · exact obs_nil
        refine then_n ?_
        rw [← hφ1] at hm
        exact ⟨(many3, (w64 (k1 + 1))), ⟨hF.weak [0, 1, 5, 6] (by kernel_rfl), hS⟩, hm⟩
      · refine wpIn_block ?_
        refine seqR ?_
        obtain ⟨r2, hr2, hm⟩ := call_b hm
        refine at_run 4 [] [] [0, 1, 5, 6, 22, 23] [pl 0 (.int .i64 n1), pl 1 (.slice A1 given1.length c1), pl 5 (.int .i64 many1), pl 6 (.int .i64 k1), pl 22 (.int .i64 (w64 (n1 * n1))), pl 23 (.int .i64 k1)] hF hS (by kernel_rfl) (by kernel_rfl) ?_ (fun a w hF hS => ?_)
        · exact obs_nil
        refine at_call (f := 80) (args := #[.int .i64 (w64 (n1 * n1)), .int .i64 k1]) (d := 24) hF (by kernel_rfl) (by kernel_rfl) Try.func80 (by kernel_rfl) rfl (gameroomref_NthOf_w hr2 hS ) (fun v a w hR hF => ?_)
        clear hS
        obtain ⟨A2, c2, rfl, hS⟩ := hR
        have hS : Sep w0 B w (own 3 (.slice A2 r2.length c2) (vI r2) :: fs) := hS
        refine at_run 1 [] [] [0, 1, 5, 6, 7] [pl 0 (.int .i64 n1), pl 1 (.slice A1 given1.length c1), pl 5 (.int .i64 many1), pl 6 (.int .i64 k1), pl 7 (.slice A2 r2.length c2)] hF hS (by kernel_rfl) (by kernel_rfl) ?_ (fun a w hF hS => ?_)
        · exact obs_nil
        refine at_end [0, 1, 5, 6, 7] [pl 0 (.int .i64 n1), pl 1 (.slice A1 given1.length c1), pl 5 (.int .i64 many1), pl 6 (.int .i64 k1), pl 7 (.slice A2 r2.length c2)] hF rfl (by kernel_rfl) (fun hF => ?_)
        refine then_n ?_
        refine reg [] [] [0, 1, 5, 6, 7, 8] [pl 0 (.int .i64 n1), pl 1 (.slice A1 given1.length c1), pl 5 (.int .i64 many1), pl 6 (.int .i64 k1), pl 7 (.slice A2 r2.length c2), pl 8 (.bool true)] hF hS Fol (by kernel_rfl) (by kernel_rfl) (by kernel_rfl) ?_ (fun a w hF hS => ?_)
        · exact obs_nil
        refine seq_cut (fun a w => ∃ (l2 : List Int) (fits2 : Bool), Fr 67 [pl 0 (.int .i64 n1), pl 1 (.slice A1 given1.length c1), pl 5 (.int .i64 many1), pl 6 (.int .i64 k1), pl 7 (.slice A2 r2.length c2), pl 8 (.bool fits2)] a ∧ Sep w0 B w (own 3 (.slice A2 r2.length c2) (vI l2) :: fs) ∧ ((gameroomref_MagicCount_J4 many1 k1) l2 fits2).bind φ1 = some r) ?_ ?_
        · rintro a w ⟨l2, fits2, hF, hS, hm⟩
          unfold gameroomref_MagicCount_J4 at hm
          refine reg [] [] [0, 1, 5, 6, 7, 56] [pl 0 (.int .i64 n1), pl 1 (.slice A1 given1.length c1), pl 5 (.int .i64 many1), pl 6 (.int .i64 k1), pl 7 (.slice A2 r2.length c2), pl 56 (.bool fits2)] hF hS Fol (by kernel_rfl) (by kernel_rfl) (by kernel_rfl) ?_ (fun a w hF hS => ?_)
          · exact obs_nil
          refine cond_ev (t := 56) (b := fits2) hF (by kernel_rfl) (fun hb => ?_) (fun hb => ?_)
          · replace hm := if_t hm hb
            obtain ⟨r3, hr3, hm⟩ := call_b hm
            refine reg [⟨false, [], callFunc 41 #[.slice A2 r2.length c2], .tuple #[.int .i64 r3.1, .int .i64 r3.2]⟩] [none, some (.tuple #[.int .i64 r3.1, .int .i64 r3.2]), none, none, none, none, none] [0, 1, 5, 6, 10] [pl 0 (.int .i64 n1), pl 1 (.slice A1 given1.length c1), pl 5 (.int .i64 many1), pl 6 (.int .i64 k1), pl 10 (.int .i64 r3.1)] hF hS Fol (by kernel_rfl) (by kernel_rfl) (by kernel_rfl) ?_ (fun a w hF hS => ?_)
            · exact obs_cons (ob_call Try.func41 (by kernel_rfl) rfl (fun _ _ hS => gameroomref_MagicKind_w hr3 hS (fun _ hS => (hS.at_ 0 rfl).rd) ((hS.at_ 0 rfl).cap1) ((hS.at_ 0 rfl).len1))) <| obs_nil
            refine reg [] [] [0, 1, 5, 6, 63] [pl 0 (.int .i64 n1), pl 1 (.slice A1 given1.length c1), pl 5 (.int .i64 many1), pl 6 (.int .i64 k1), pl 63 (.bool (decide ((2 : Int) ≤ r3.1)))] hF hS Fol (by kernel_rfl) (by kernel_rfl) (by kernel_rfl) ?_ (fun a w hF hS => ?_)
            · exact obs_nil
            refine cond_ev (t := 63) (b := decide ((2 : Int) ≤ r3.1)) hF (by kernel_rfl) (fun hb => ?_) (fun hb => ?_)
            · replace hm := if_t hm hb
              refine reg1 [] [] [0, 1, 5, 6] [pl 0 (.int .i64 n1), pl 1 (.slice A1 given1.length c1), pl 5 (.int .i64 (w64 (many1 + 1))), pl 6 (.int .i64 k1)] hF hS Fol (by kernel_rfl) (by kernel_rfl) (by kernel_rfl) ?_ (fun a w hF hS => ?_)
              · exact obs_nil
              refine block_n ?_
              refine then_n ?_
              have hS := hS.pickN 1 [] (by decide)
              exact ⟨(w64 (many1 + 1)), hF.weak [0, 1, 5, 6] (by kernel_rfl), hS, hm⟩
            · replace hm := if_f hm hb
              refine wpIn_skip ?_
              refine block_n ?_
              refine then_n ?_
              have hS := hS.pickN 1 [] (by decide)
              exact ⟨many1, hF.weak [0, 1, 5, 6] (by kernel_rfl), hS, hm⟩
          · replace hm := if_f hm hb
            refine wpIn_skip ?_
            refine block_n ?_
            refine then_n ?_
            have hS := hS.pickN 1 [] (by decide)
            exact ⟨many1, hF.weak [0, 1, 5, 6] (by kernel_rfl), hS, hm⟩
        · refine reg [] [] [0, 1, 5, 6, 7, 8, 9] [pl 0 (.int .i64 n1), pl 1 (.slice A1 given1.length c1), pl 5 (.int .i64 many1), pl 6 (.int .i64 k1), pl 7 (.slice A2 r2.length c2), pl 8 (.bool true), pl 9 (.int .i64 0)] hF hS Fol (by kernel_rfl) (by kernel_rfl) (by kernel_rfl) ?_ (fun a w hF hS => ?_)
          · exact obs_nil
          refine wpIn_block ?_
          refine wp_loop_model (S := (List Int × Bool × Int)) (R := (List Int × Bool)) (gameroomref_MagicCount_L2 given1 r2) (fun x => ((gameroomref_MagicCount_K2 many1 k1) x).bind φ1) r (fun (x : (List Int × Bool × Int)) a w => Fr 67 [pl 0 (.int .i64 n1), pl 1 (.slice A1 given1.length c1), pl 5 (.int .i64 many1), pl 6 (.int .i64 k1), pl 7 (.slice A2 r2.length c2), pl 8 (.bool x.2.1), pl 9 (.int .i64 x.2.2)] a ∧ Sep w0 B w (own 3 (.slice A2 r2.length c2) (vI x.1) :: fs)) (assoc_b hm) ⟨hF.weak [0, 1, 5, 6, 7, 8, 9] (by kernel_rfl), hS⟩ ?_
          clear hF hS hm
          rintro nn2 ⟨l1, fits1, i1⟩ a w ⟨hF, hS⟩ hm
          generalize hφ2 : stK (gameroomref_MagicCount_L2 given1 r2) nn2 (fun x => ((gameroomref_MagicCount_K2 many1 k1) x).bind φ1) = φ2 at hm
          unfold gameroomref_MagicCount_L2 at hm
          dsimp only at hF hS hm
          refine seq_cut (fun a w => Fr 67 [pl 0 (.int .i64 n1), pl 1 (.slice A1 given1.length c1), pl 5 (.int .i64 many1), pl 6 (.int .i64 k1), pl 7 (.slice A2 r2.length c2), pl 8 (.bool fits1), pl 9 (.int .i64 i1)] a ∧ Sep w0 B w (own 3 (.slice A2 r2.length c2) (vI l1) :: fs) ∧ ((gameroomref_MagicCount_J5 given1 r2 l1 fits1 i1)).bind φ2 = some r) ?_ ?_
          · rintro a w ⟨hF, hS, hm⟩
            unfold gameroomref_MagicCount_J5 at hm
            refine seq_cut (fun a w => Fr 67 [pl 0 (.int .i64 n1), pl 1 (.slice A1 given1.length c1), pl 5 (.int .i64 many1), pl 6 (.int .i64 k1), pl 7 (.slice A2 r2.length c2), pl 8 (.bool (fits1 && (((geti given1 i1) == 0) || ((geti given1 i1) == (geti (l1.set (Int.toNat i1) (w64 ((geti l1 i1) + 1))) i1))))), pl 9 (.int .i64 i1)] a ∧ Sep w0 B w (own 3 (.slice A2 r2.length c2) (vI (l1.set (Int.toNat i1) (w64 ((geti l1 i1) + 1)))) :: fs) ∧ ((gameroomref_MagicCount_J6 given1 l1 fits1 i1)).bind φ2 = some r) ?_ ?_
            · rintro a w ⟨hF, hS, hm⟩
              unfold gameroomref_MagicCount_J6 at hm
              refine reg1 [] [] [0, 1, 5, 6, 7, 8, 9] [pl 0 (.int .i64 n1), pl 1 (.slice A1 given1.length c1), pl 5 (.int .i64 many1), pl 6 (.int .i64 k1), pl 7 (.slice A2 r2.length c2), pl 8 (.bool (fits1 && (((geti given1 i1) == 0) || ((geti given1 i1) == (geti (l1.set (Int.toNat i1) (w64 ((geti l1 i1) + 1))) i1))))), pl 9 (.int .i64 (w64 (i1 + 1)))] hF hS Fol (by kernel_rfl) (by kernel_rfl) (by kernel_rfl) ?_ (fun a w hF hS => ?_)
              · exact obs_nil
              refine then_n ?_
              rw [← hφ2] at hm
              exact ⟨((l1.set (Int.toNat i1) (w64 ((geti l1 i1) + 1))), (fits1 && (((geti given1 i1) == 0) || ((geti given1 i1) == (geti (l1.set (Int.toNat i1) (w64 ((geti l1 i1) + 1))) i1)))), (w64 (i1 + 1))), ⟨hF.weak [0, 1, 5, 6, 7, 8, 9] (by kernel_rfl), hS⟩, hm⟩
            · refine wpIn_block ?_
              refine seqR ?_
              obtain ⟨hp1, hm⟩ := asrt_b hm
              obtain ⟨hp2, hm⟩ := asrt_b hm
              refine at_run 6 [⟨true, [], vS (Instr.indexAt 34 (.slice A2 r2.length c2) (.int .i64 i1)), .pointer (some (sAddr A2 i1))⟩, ⟨false, [], vS (Instr.loadAt 3 (.pointer (some (sAddr A2 i1)))), .int .i64 (geti l1 i1)⟩, ⟨true, [], vS (Instr.indexAt 34 (.slice A2 r2.length c2) (.int .i64 i1)), .pointer (some (sAddr A2 i1))⟩] [none, none, some (.pointer (some (sAddr A2 i1))), some (.int .i64 (geti l1 i1)), none, some (.pointer (some (sAddr A2 i1)))] [0, 1, 5, 6, 7, 8, 9, 35, 36] [pl 0 (.int .i64 n1), pl 1 (.slice A1 given1.length c1), pl 5 (.int .i64 many1), pl 6 (.int .i64 k1), pl 7 (.slice A2 r2.length c2), pl 8 (.bool fits1), pl 9 (.int .i64 i1), pl 35 (.int .i64 (w64 ((geti l1 i1) + 1))), pl 36 (.pointer (some (sAddr A2 i1)))] hF hS (by kernel_rfl) (by kernel_rfl) ?_ (fun a w hF hS => ?_)
              · exact obs_cons (ob_ix1 (f := (Value.int .i64)) (m := l1) Und34 hi3 hs3 (hS.at_ 0 rfl).rd ((hS.at_ 0 rfl).len1) (fun _ => hp1)) <| obs_cons (ob_get1 (n := r2.length) (m := l1) (Value.int .i64) (0 : Int) Agg3 (fun _ hS => ⟨_, (hS.at_ 0 rfl).rd⟩) (fun _ hS => ((hS.at_ 0 rfl).len1)) (fun _ => hp1)) <| obs_cons (ob_ix1 (f := (Value.int .i64)) (m := l1) Und34 hi3 hs3 (hS.at_ 0 rfl).rd ((hS.at_ 0 rfl).len1) (fun _ => hp2)) <| obs_nil
              obtain ⟨w, hrun, hS⟩ := run_set1 (P := Try.prog) (t := 3) (x := (w64 ((geti l1 i1) + 1))) (Value.int .i64) (hS.at_ 0 rfl) hi3 hs3 rfl rfl hp2
              refine at_skip hF (by kernel_rfl) hrun ?_
              have hS : Sep w0 B w (own 3 (.slice A2 r2.length c2) (vI (l1.set (Int.toNat i1) (w64 ((geti l1 i1) + 1)))) :: fs) := hS
              refine at_end [0, 1, 5, 6, 7, 8, 9] [pl 0 (.int .i64 n1), pl 1 (.slice A1 given1.length c1), pl 5 (.int .i64 many1), pl 6 (.int .i64 k1), pl 7 (.slice A2 r2.length c2), pl 8 (.bool fits1), pl 9 (.int .i64 i1)] hF rfl (by kernel_rfl) (fun hF => ?_)
              refine then_n ?_
              obtain ⟨hp3, hm⟩ := asrt_b hm
              obtain ⟨hp4, hm⟩ := asrt_b hm
              obtain ⟨hp5, hm⟩ := asrt_b hm
              refine reg1 [⟨true, [(fits1, true)], vS (Instr.indexAt 34 (.slice A1 given1.length c1) (.int .i64 i1)), .pointer (some (sAddr A1 i1))⟩, ⟨false, [(fits1, true)], vS (Instr.loadAt 3 (.pointer (some (sAddr A1 i1)))), .int .i64 (geti given1 i1)⟩, ⟨true, [(((geti given1 i1) == 0), false), (fits1, true)], vS (Instr.indexAt 34 (.slice A1 given1.length c1) (.int .i64 i1)), .pointer (some (sAddr A1 i1))⟩, ⟨false, [(((geti given1 i1) == 0), false), (fits1, true)], vS (Instr.loadAt 3 (.pointer (some (sAddr A1 i1)))), .int .i64 (geti given1 i1)⟩, ⟨true, [(((geti given1 i1) == 0), false), (fits1, true)], vS (Instr.indexAt 34 (.slice A2 r2.length c2) (.int .i64 i1)), .pointer (some (sAddr A2 i1))⟩, ⟨false, [(((geti given1 i1) == 0), false), (fits1, true)], vS (Instr.loadAt 3 (.pointer (some (sAddr A2 i1)))), .int .i64 (geti (l1.set (Int.toNat i1) (w64 ((geti l1 i1) + 1))) i1)⟩] [none, none, none, none, some (.pointer (some (sAddr A1 i1))), some (.int .i64 (geti given1 i1)), none, none, none, none, some (.pointer (some (sAddr A1 i1))), some (.int .i64 (geti given1 i1)), none, none, some (.pointer (some (sAddr A2 i1))), some (.int .i64 (geti (l1.set (Int.toNat i1) (w64 ((geti l1 i1) + 1))) i1)), none, none, none, none] [0, 1, 5, 6, 7, 8, 9] [pl 0 (.int .i64 n1), pl 1 (.slice A1 given1.length c1), pl 5 (.int .i64 many1), pl 6 (.int .i64 k1), pl 7 (.slice A2 r2.length c2), pl 8 (.bool (fits1 && (((geti given1 i1) == 0) || ((geti given1 i1) == (geti (l1.set (Int.toNat i1) (w64 ((geti l1 i1) + 1))) i1))))), pl 9 (.int .i64 i1)] hF hS Fol (by kernel_rfl) (by kernel_rfl) (by kernel_rfl) ?_ (fun a w hF hS => ?_)
              · exact obs_cons (ob_ix1 (f := (Value.int .i64)) (m := given1) Und34 hi3 hs3 (hr_given1 _ (hS.dropN 1)) rfl (fun hy => hp3 (hy (fits1, true) (by simp)))) <| obs_cons (ob_get1 (n := given1.length) (m := given1) (Value.int .i64) (0 : Int) Agg3 (fun _ hS => ⟨_, (hr_given1 _ (hS.dropN 1))⟩) (fun _ hS => rfl) (fun hy => hp3 (hy (fits1, true) (by simp)))) <| obs_cons (ob_ix1 (f := (Value.int .i64)) (m := given1) Und34 hi3 hs3 (hr_given1 _ (hS.dropN 1)) rfl (fun hy => hp4 (hy (((geti given1 i1) == 0), false) (by simp)) (hy (fits1, true) (by simp)))) <| obs_cons (ob_get1 (n := given1.length) (m := given1) (Value.int .i64) (0 : Int) Agg3 (fun _ hS => ⟨_, (hr_given1 _ (hS.dropN 1))⟩) (fun _ hS => rfl) (fun hy => hp4 (hy (((geti given1 i1) == 0), false) (by simp)) (hy (fits1, true) (by simp)))) <| obs_cons (ob_ix1 (f := (Value.int .i64)) (m := (l1.set (Int.toNat i1) (w64 ((geti l1 i1) + 1)))) Und34 hi3 hs3 (hS.at_ 0 rfl).rd ((hS.at_ 0 rfl).len1) (fun hy => hp5 (hy (((geti given1 i1) == 0), false) (by simp)) (hy (fits1, true) (by simp)))) <| obs_cons (ob_get1 (n := r2.length) (m := (l1.set (Int.toNat i1) (w64 ((geti l1 i1) + 1)))) (Value.int .i64) (0 : Int) Agg3 (fun _ hS => ⟨_, (hS.at_ 0 rfl).rd⟩) (fun _ hS => ((hS.at_ 0 rfl).len1)) (fun hy => hp5 (hy (((geti given1 i1) == 0), false) (by simp)) (hy (fits1, true) (by simp)))) <| obs_nil
              refine block_n ?_
              refine then_n ?_
              exact ⟨hF.weak [0, 1, 5, 6, 7, 8, 9] (by kernel_rfl), hS, hm⟩
          · refine reg [] [] [0, 1, 5, 6, 7, 8, 9, 28] [pl 0 (.int .i64 n1), pl 1 (.slice A1 given1.length c1), pl 5 (.int .i64 many1), pl 6 (.int .i64 k1), pl 7 (.slice A2 r2.length c2), pl 8 (.bool fits1), pl 9 (.int .i64 i1), pl 28 (.bool (decide (i1 < (r2.length : Int))))] hF hS Fol (by kernel_rfl) (by kernel_rfl) (by kernel_rfl) ?_ (fun a w hF hS => ?_)
            · exact obs_nil
            refine cond_ev (t := 28) (b := decide (i1 < (r2.length : Int))) hF (by kernel_rfl) (fun hb => ?_) (fun hb => ?_)
            · replace hm := if_t hm hb
              refine wpIn_skip ?_
              refine then_n ?_
              exact ⟨hF.weak [0, 1, 5, 6, 7, 8, 9] (by kernel_rfl), hS, hm⟩
            · replace hm := if_f hm hb
              refine wpIn_exit ?_
              refine then_e (then_e (block_e (then_n ?_)))
              rw [← hφ2] at hm
              replace hm := done_b hm
              unfold gameroomref_MagicCount_K2 at hm
              try dsimp only at hm
              have hm : ((gameroomref_MagicCount_J4 many1 k1) l1 fits1).bind φ1 = some r := hm
              exact ⟨l1, fits1, hF.weak [0, 1, 5, 6, 7, 8] (by kernel_rfl), hS, hm⟩
    · obtain ⟨r1, hr1, hm⟩ := call_b hm
      refine reg [⟨false, [], callFunc 79 #[.int .i64 (w64 (n1 * n1))], .int .i64 r1⟩] [none, none, none, none, some (.int .i64 r1), none] [0, 1, 5, 6, 17] [pl 0 (.int .i64 n1), pl 1 (.slice A1 given1.length c1), pl 5 (.int .i64 many1), pl 6 (.int .i64 k1), pl 17 (.bool (decide (k1 < r1)))] hF hS Fol (by kernel_rfl) (by kernel_rfl) (by kernel_rfl) ?_ (fun a w hF hS => ?_)
      · exact obs_cons (ob_call Try.func79 (by kernel_rfl) rfl (fun _ _ hS => gameroomref_factorial_w hr1 hS )) <| obs_nil
      refine cond_ev (t := 17) (b := decide (k1 < r1)) hF (by kernel_rfl) (fun hb => ?_) (fun hb => ?_)
      · replace hm := if_t hm hb
        refine wpIn_skip ?_
        refine then_n ?_
        exact ⟨hF.weak [0, 1, 5, 6] (by kernel_rfl), hS, hm⟩
      · replace hm := if_f hm hb
        refine wpIn_exit ?_
        refine then_e (then_e (block_e (then_n ?_)))
        rw [← hφ1] at hm
        replace hm := done_b hm
        unfold gameroomref_MagicCount_K1 at hm
        try dsimp only at hm
        have hm : (gameroomref_MagicCount_J1 many1).bind some = some r := hm
        exact ⟨many1, hF.weak [5] (by kernel_rfl), hS, hm⟩

noncomputable def gameroomlaw_MagicMakes_J4  (i1 : Int) (no4 : Int) : Option (St (Int × Int) Int) :=
  some (.next (no4, (w64 (i1 + 1))))

noncomputable def gameroomlaw_MagicMakes_J3  (m1 : Int) (given1 : List Int) (no2 : Int) (i1 : Int) : Option (St (Int × Int) Int) :=
  asrt (0 ≤ i1 ∧ i1 < (given1.length : Int)) <| asrt ((decide ((geti given1 i1) < 0)) = false → 0 ≤ i1 ∧ i1 < (given1.length : Int)) <| if ((decide ((geti given1 i1) < 0)) || (decide ((w64 (m1 * m1)) < (geti given1 i1)))) then ((gameroomlaw_MagicMakes_J4 i1) 4) else ((gameroomlaw_MagicMakes_J4 i1) no2)

noncomputable def gameroomlaw_MagicMakes_J11  (i2 : Int) (less3 : List Int) : Option (St (List Int × Int) (List Int)) :=
  some (.next (less3, (w64 (i2 + 1))))

noncomputable def gameroomlaw_MagicMakes_J10  (r1 : (List Int × Int)) (less1 : List Int) (i2 : Int) : Option (St (List Int × Int) (List Int)) :=
  asrt (0 ≤ i2 ∧ i2 < (r1.1.length : Int)) <| asrt ((less1.length : Int) + 1 ≤ bigN) <| (gameroomlaw_MagicMakes_J11 i2) (less1 ++ ([w64 ((geti r1.1 i2) - 1)] : List Int))

noncomputable def gameroomlaw_MagicMakes_L2  (r1 : (List Int × Int)) : (List Int × Int) → Option (St (List Int × Int) (List Int)) :=
  fun (x : (List Int × Int)) => match x with | (less1, i2) => if (decide (i2 < (r1.1.length : Int))) then ((gameroomlaw_MagicMakes_J10 r1 less1 i2)) else (some (.done less1))

noncomputable def gameroomlaw_MagicMakes_J9  (r1 : (List Int × Int)) (less2 : List Int) : Option Bool :=
  (gameroomref_MagicKind_m r1.1).bind fun r5 => (gameroomref_OrderIs_m less2).bind fun r6 => some (r6 && (decide ((2 : Int) ≤ r5.1)))

noncomputable def gameroomlaw_MagicMakes_K2  (r1 : (List Int × Int)) : (List Int) → Option Bool :=
  fun (x : (List Int)) => match x with | less2 => (gameroomlaw_MagicMakes_J9 r1) less2

noncomputable def gameroomlaw_MagicMakes_J8  (r1 : (List Int × Int)) : Option Bool :=
  (loop (gameroomlaw_MagicMakes_L2 r1) (([] : List Int), 0)).bind (gameroomlaw_MagicMakes_K2 r1)

noncomputable def gameroomlaw_MagicMakes_J7  (n1 : Int) (r1 : (List Int × Int)) : Option Bool :=
  if ((r1.2 != 0) || ((r1.1.length : Int) != (w64 (n1 * n1)))) then (some false) else ((gameroomlaw_MagicMakes_J8 r1))

noncomputable def gameroomlaw_MagicMakes_J6  (n1 : Int) (r1 : (List Int × Int)) : Option Bool :=
  if (n1 == 2) then (some ((r1.2 == 10) && ((r1.1.length : Int) == 0))) else ((gameroomlaw_MagicMakes_J7 n1 r1))

noncomputable def gameroomlaw_MagicMakes_J5  (n1 : Int) (r1 : (List Int × Int)) : Option Bool :=
  if ((decide (n1 < 1)) || (decide ((12 : Int) < n1))) then (some ((r1.2 == 3) && ((r1.1.length : Int) == 0))) else ((gameroomlaw_MagicMakes_J6 n1 r1))

noncomputable def gameroomlaw_MagicMakes_J2  (n1 : Int) (m1 : Int) (given1 : List Int) (r1 : (List Int × Int)) (r3 : (Int × Int)) (no3 : Int) : Option Bool :=
  if (no3 != 0) then (if ((r3.2 != no3) || (r3.1 != 0)) then (some false) else ((gameroomlaw_MagicMakes_J5 n1 r1))) else (((if (!(r3.2 != 0)) then gameroomref_MagicCount_m m1 given1 else some 0)).bind fun r4 => if ((r3.2 != 0) || (r3.1 != r4)) then (some false) else ((gameroomlaw_MagicMakes_J5 n1 r1)))

noncomputable def gameroomlaw_MagicMakes_K1  (n1 : Int) (m1 : Int) (given1 : List Int) (r1 : (List Int × Int)) (r3 : (Int × Int)) : Int → Option Bool :=
  fun (x : Int) => match x with | no3 => (gameroomlaw_MagicMakes_J2 n1 m1 given1 r1 r3) no3

noncomputable def gameroomlaw_MagicMakes_L1  (m1 : Int) (given1 : List Int) : (Int × Int) → Option (St (Int × Int) Int) :=
  fun (x : (Int × Int)) => match x with | (no2, i1) => if ((decide (i1 < (given1.length : Int))) && (no2 == 0)) then ((gameroomlaw_MagicMakes_J3 m1 given1 no2 i1)) else (some (.done no2))

noncomputable def gameroomlaw_MagicMakes_J1  (n1 : Int) (m1 : Int) (given1 : List Int) (r1 : (List Int × Int)) (r3 : (Int × Int)) (no1 : Int) : Option Bool :=
  (loop (gameroomlaw_MagicMakes_L1 m1 given1) (no1, 0)).bind (gameroomlaw_MagicMakes_K1 n1 m1 given1 r1 r3)

noncomputable def gameroomlaw_MagicMakes_m  (n1 : Int) (m1 : Int) (given1 : List Int) : Option Bool :=
  (magic_Make_m n1).bind fun r1 => (gameroomlaw_ints_m given1).bind fun r2 => (magic_Count_m m1 r2).bind fun r3 => if ((decide (m1 < 1)) || (decide ((3 : Int) < m1))) then ((gameroomlaw_MagicMakes_J1 n1 m1 given1 r1 r3) 3) else (if ((given1.length : Int) != (w64 (m1 * m1))) then ((gameroomlaw_MagicMakes_J1 n1 m1 given1 r1 r3) 2) else ((gameroomlaw_MagicMakes_J1 n1 m1 given1 r1 r3) 0))

set_option maxRecDepth 100000 in
set_option maxHeartbeats 4000000 in
theorem gameroomlaw_MagicMakes_w {n1 : Int} {m1 : Int} {A1 : Option Addr} {c1 : Nat} {n2 : Nat} {given1 : List Int} {r : Bool} {w0 w : World} {B : Nat} {fs : List HP} (hm : gameroomlaw_MagicMakes_m n1 m1 given1 = some r) (hS : Sep w0 B w (fs)) (hr_given1 : RdF w0 B fs A1 (vI given1)) (_hc_given1 : given1.length ≤ c1) (_hn_given1 : n2 = given1.length) :
    Calls Try.prog 7 #[.int .i64 n1, .int .i64 m1, .slice A1 n2 c1] w fun e w' => e = .returned (.bool r) ∧ Sep w0 B w' (fs) := by
  obtain ⟨i3, hi3, hz3, hs3, hb3⟩ := info_parts Info3
  obtain rfl := _hn_given1
  unfold gameroomlaw_MagicMakes_m at hm
  replace hm := start_b hm
  refine enter (l := [.int .i64 n1, .int .i64 m1, .slice A1 given1.length c1]) (n := 141) Try.func7 rfl rfl (by simp) (fun a hF => ?_)
  refine reg [] [] [0, 1, 2] [pl 0 (.int .i64 n1), pl 1 (.int .i64 m1), pl 2 (.slice A1 given1.length c1)] hF hS Fol (by kernel_rfl) (by kernel_rfl) (by kernel_rfl) ?_ (fun a w hF hS => ?_)
  · exact obs_nil
  refine seqR ?_
  obtain ⟨r1, hr1, hm⟩ := call_b hm
  refine at_run 1 [] [] [0, 1, 2, 18] [pl 0 (.int .i64 n1), pl 1 (.int .i64 m1), pl 2 (.slice A1 given1.length c1), pl 18 (.int .i64 n1)] hF hS (by kernel_rfl) (by kernel_rfl) ?_ (fun a w hF hS => ?_)
  · exact obs_nil
  refine at_call (f := 38) (args := #[.int .i64 n1]) (d := 19) hF (by kernel_rfl) (by kernel_rfl) Try.func38 (by kernel_rfl) rfl (magic_Make_w hr1 hS ) (fun v a w hR hF => ?_)
  clear hS
  obtain ⟨A2, c2, rfl, hS⟩ := hR
  have hS : Sep w0 B w (own 3 (.slice A2 r1.1.length c2) (vI r1.1) :: fs) := hS
  refine at_run 5 [] [] [0, 1, 2, 7, 8] [pl 0 (.int .i64 n1), pl 1 (.int .i64 m1), pl 2 (.slice A1 given1.length c1), pl 7 (.slice A2 r1.1.length c2), pl 8 (.int .i64 r1.2)] hF hS (by kernel_rfl) (by kernel_rfl) ?_ (fun a w hF hS => ?_)
  · exact obs_nil
  refine at_end [0, 1, 2, 7, 8] [pl 0 (.int .i64 n1), pl 1 (.int .i64 m1), pl 2 (.slice A1 given1.length c1), pl 7 (.slice A2 r1.1.length c2), pl 8 (.int .i64 r1.2)] hF rfl (by kernel_rfl) (fun hF => ?_)
  refine then_n ?_
  refine seqR ?_
  obtain ⟨r2, hr2, hm⟩ := call_b hm
  obtain ⟨r3, hr3, hm⟩ := call_b hm
  refine at_run 2 [] [] [0, 1, 2, 7, 8, 23, 24] [pl 0 (.int .i64 n1), pl 1 (.int .i64 m1), pl 2 (.slice A1 given1.length c1), pl 7 (.slice A2 r1.1.length c2), pl 8 (.int .i64 r1.2), pl 23 (.int .i64 m1), pl 24 (.slice A1 given1.length c1)] hF hS (by kernel_rfl) (by kernel_rfl) ?_ (fun a w hF hS => ?_)
  · exact obs_nil
  refine at_call (f := 22) (args := #[.slice A1 given1.length c1]) (d := 25) hF (by kernel_rfl) (by kernel_rfl) Try.func22 (by kernel_rfl) rfl (gameroomlaw_ints_w hr2 hS (fun _ hS => (hr_given1 _ (hS.dropN 1))) _hc_given1 rfl) (fun v a w hR hF => ?_)
  clear hS
  obtain ⟨A3, c3, rfl, hS⟩ := hR
  have hS : Sep w0 B w (own 3 (.slice A3 r2.length c3) (vI r2) :: own 3 (.slice A2 r1.1.length c2) (vI r1.1) :: fs) := hS
  refine at_run 6 [⟨false, [], callFunc 39 #[.int .i64 m1, .slice A3 r2.length c3], .tuple #[.int .i64 r3.1, .int .i64 r3.2]⟩] [some (.tuple #[.int .i64 r3.1, .int .i64 r3.2]), none, none, none, none, none] [0, 1, 2, 7, 8, 9, 10] [pl 0 (.int .i64 n1), pl 1 (.int .i64 m1), pl 2 (.slice A1 given1.length c1), pl 7 (.slice A2 r1.1.length c2), pl 8 (.int .i64 r1.2), pl 9 (.int .i64 r3.1), pl 10 (.int .i64 r3.2)] hF hS (by kernel_rfl) (by kernel_rfl) ?_ (fun a w hF hS => ?_)
  · exact obs_cons (ob_call Try.func39 (by kernel_rfl) rfl (fun _ _ hS => magic_Count_w hr3 hS (fun _ hS => (hS.at_ 0 rfl).rd) ((hS.at_ 0 rfl).cap1) rfl)) <| obs_nil
  refine at_end [0, 1, 2, 7, 8, 9, 10] [pl 0 (.int .i64 n1), pl 1 (.int .i64 m1), pl 2 (.slice A1 given1.length c1), pl 7 (.slice A2 r1.1.length c2), pl 8 (.int .i64 r1.2), pl 9 (.int .i64 r3.1), pl 10 (.int .i64 r3.2)] hF rfl (by kernel_rfl) (fun hF => ?_)
  refine then_n ?_
  refine reg [] [] [0, 1, 2, 7, 8, 9, 10, 11] [pl 0 (.int .i64 n1), pl 1 (.int .i64 m1), pl 2 (.slice A1 given1.length c1), pl 7 (.slice A2 r1.1.length c2), pl 8 (.int .i64 r1.2), pl 9 (.int .i64 r3.1), pl 10 (.int .i64 r3.2), pl 11 (.int .i64 0)] hF hS Fol (by kernel_rfl) (by kernel_rfl) (by kernel_rfl) ?_ (fun a w hF hS => ?_)
  · exact obs_nil
  refine seq_cut (fun a w => ∃ (no1 : Int), Fr 141 [pl 0 (.int .i64 n1), pl 1 (.int .i64 m1), pl 2 (.slice A1 given1.length c1), pl 7 (.slice A2 r1.1.length c2), pl 8 (.int .i64 r1.2), pl 9 (.int .i64 r3.1), pl 10 (.int .i64 r3.2), pl 11 (.int .i64 no1)] a ∧ Sep w0 B w (own 3 (.slice A2 r1.1.length c2) (vI r1.1) :: fs) ∧ ((gameroomlaw_MagicMakes_J1 n1 m1 given1 r1 r3) no1).bind some = some r) ?_ ?_
  · rintro a w ⟨no1, hF, hS, hm⟩
    unfold gameroomlaw_MagicMakes_J1 at hm
    refine seq_cut (fun a w => ∃ (no3 : Int), Fr 141 [pl 0 (.int .i64 n1), pl 1 (.int .i64 m1), pl 2 (.slice A1 given1.length c1), pl 7 (.slice A2 r1.1.length c2), pl 8 (.int .i64 r1.2), pl 9 (.int .i64 r3.1), pl 10 (.int .i64 r3.2), pl 11 (.int .i64 no3)] a ∧ Sep w0 B w (own 3 (.slice A2 r1.1.length c2) (vI r1.1) :: fs) ∧ ((gameroomlaw_MagicMakes_J2 n1 m1 given1 r1 r3) no3).bind some = some r) ?_ ?_
    · rintro a w ⟨no3, hF, hS, hm⟩
      unfold gameroomlaw_MagicMakes_J2 at hm
      refine seq_cut (fun a w => Fr 141 [pl 0 (.int .i64 n1), pl 7 (.slice A2 r1.1.length c2), pl 8 (.int .i64 r1.2)] a ∧ Sep w0 B w (own 3 (.slice A2 r1.1.length c2) (vI r1.1) :: fs) ∧ ((gameroomlaw_MagicMakes_J5 n1 r1)).bind some = some r) ?_ ?_
      · rintro a w ⟨hF, hS, hm⟩
        unfold gameroomlaw_MagicMakes_J5 at hm
        refine seq_cut (fun a w => Fr 141 [pl 0 (.int .i64 n1), pl 7 (.slice A2 r1.1.length c2), pl 8 (.int .i64 r1.2)] a ∧ Sep w0 B w (own 3 (.slice A2 r1.1.length c2) (vI r1.1) :: fs) ∧ ((gameroomlaw_MagicMakes_J6 n1 r1)).bind some = some r) ?_ ?_
        · rintro a w ⟨hF, hS, hm⟩
          unfold gameroomlaw_MagicMakes_J6 at hm
          refine seq_cut (fun a w => Fr 141 [pl 0 (.int .i64 n1), pl 7 (.slice A2 r1.1.length c2), pl 8 (.int .i64 r1.2)] a ∧ Sep w0 B w (own 3 (.slice A2 r1.1.length c2) (vI r1.1) :: fs) ∧ ((gameroomlaw_MagicMakes_J7 n1 r1)).bind some = some r) ?_ ?_
          · rintro a w ⟨hF, hS, hm⟩
            unfold gameroomlaw_MagicMakes_J7 at hm
            refine seq_cut (fun a w => Fr 141 [pl 7 (.slice A2 r1.1.length c2)] a ∧ Sep w0 B w (own 3 (.slice A2 r1.1.length c2) (vI r1.1) :: fs) ∧ ((gameroomlaw_MagicMakes_J8 r1)).bind some = some r) ?_ ?_
            · rintro a w ⟨hF, hS, hm⟩
              unfold gameroomlaw_MagicMakes_J8 at hm
              refine reg [] [] [7, 13] [pl 7 (.slice A2 r1.1.length c2), pl 13 (.slice none 0 0)] hF hS Fol (by kernel_rfl) (by kernel_rfl) (by kernel_rfl) ?_ (fun a w hF hS => ?_)
              · exact obs_nil
              refine seq_cut (fun a w => ∃ (less2 : List Int) (A5 : Option Addr) (c5 : Nat), Fr 141 [pl 7 (.slice A2 r1.1.length c2), pl 13 (.slice A5 less2.length c5)] a ∧ Sep w0 B w (own 3 (.slice A2 r1.1.length c2) (vI r1.1) :: own 3 (.slice A5 less2.length c5) (vI less2) :: fs) ∧ ((gameroomlaw_MagicMakes_J9 r1) less2).bind some = some r) ?_ ?_
              · rintro a w ⟨less2, A5, c5, hF, hS, hm⟩
                unfold gameroomlaw_MagicMakes_J9 at hm
                obtain ⟨r5, hr5, hm⟩ := call_b hm
                refine reg [⟨false, [], callFunc 41 #[.slice A2 r1.1.length c2], .tuple #[.int .i64 r5.1, .int .i64 r5.2]⟩] [none, some (.tuple #[.int .i64 r5.1, .int .i64 r5.2]), none, none, none, none, none] [13, 15] [pl 13 (.slice A5 less2.length c5), pl 15 (.int .i64 r5.1)] hF hS Fol (by kernel_rfl) (by kernel_rfl) (by kernel_rfl) ?_ (fun a w hF hS => ?_)
                · exact obs_cons (ob_call Try.func41 (by kernel_rfl) rfl (fun _ _ hS => gameroomref_MagicKind_w hr5 hS (fun _ hS => (hS.at_ 0 rfl).rd) ((hS.at_ 0 rfl).cap1) rfl)) <| obs_nil
                obtain ⟨r6, hr6, hm⟩ := call_b hm
                refine reg [⟨false, [], callFunc 42 #[.slice A5 less2.length c5], .bool r6⟩] [none, some (.bool r6), none, none, none, none, none] [6] [pl 6 (.bool (r6 && (decide ((2 : Int) ≤ r5.1))))] hF hS Fol (by kernel_rfl) (by kernel_rfl) (by kernel_rfl) ?_ (fun a w hF hS => ?_)
                · exact obs_cons (ob_call Try.func42 (by kernel_rfl) rfl (fun _ _ hS => gameroomref_OrderIs_w hr6 hS (fun _ hS => (hS.at_ 1 rfl).rd) ((hS.at_ 1 rfl).cap1) rfl)) <| obs_nil
                refine wpIn_ret ?_
                have hS := hS.pickN 2 [] (by decide)
                have hm : some (r6 && (decide ((2 : Int) ≤ r5.1))) = some r := hm
                obtain rfl := Option.some.inj hm
                exact retV (rs := [.tmp 6]) (vs := [.bool (r6 && (decide ((2 : Int) ≤ r5.1)))]) hF rfl (rv_t (by kernel_rfl) <| rv_nil) rfl ⟨rfl, hS⟩
              · refine reg [] [] [7, 13, 14] [pl 7 (.slice A2 r1.1.length c2), pl 13 (.slice none 0 0), pl 14 (.int .i64 0)] hF hS Fol (by kernel_rfl) (by kernel_rfl) (by kernel_rfl) ?_ (fun a w hF hS => ?_)
                · exact obs_nil
                refine wpIn_block ?_
                have hS : Sep w0 B w (own 3 (.slice none 0 0) (vI ([] : List Int)) :: own 3 (.slice A2 r1.1.length c2) (vI r1.1) :: fs) := hS.nil 3
                have hl1 := (hS.at_ 0 rfl).len1
                have hS := (hS.at_ 0 rfl).reN hl1
                have hS : Sep w0 B w (own 3 (.slice none (([] : List Int).length) 0) (vI ([] : List Int)) :: own 3 (.slice A2 r1.1.length c2) (vI r1.1) :: fs) := hS
                have hF := hF.cast (t := 13) (v := .slice none 0 0) (v' := .slice none (([] : List Int).length) 0) rfl rfl (congrArg (fun k => Value.slice none k 0) hl1)
                have hS := hS.pickN 2 [1, 0] (by decide)
                refine wp_loop_model (S := (List Int × Int)) (R := (List Int)) (gameroomlaw_MagicMakes_L2 r1) (fun x => ((gameroomlaw_MagicMakes_K2 r1) x).bind some) r (fun (x : (List Int × Int)) a w => ∃ (A4 : Option Addr) (c4 : Nat), Fr 141 [pl 7 (.slice A2 r1.1.length c2), pl 13 (.slice A4 x.1.length c4), pl 14 (.int .i64 x.2)] a ∧ Sep w0 B w (own 3 (.slice A2 r1.1.length c2) (vI r1.1) :: own 3 (.slice A4 x.1.length c4) (vI x.1) :: fs)) (assoc_b hm) ⟨none, 0, hF.weak [7, 13, 14] (by kernel_rfl), hS⟩ ?_
                clear hF hS hm
                rintro nn2 ⟨less1, i2⟩ a w ⟨A4, c4, hF, hS⟩ hm
                generalize hφ2 : stK (gameroomlaw_MagicMakes_L2 r1) nn2 (fun x => ((gameroomlaw_MagicMakes_K2 r1) x).bind some) = φ2 at hm
                unfold gameroomlaw_MagicMakes_L2 at hm
                dsimp only at hF hS hm
                refine seq_cut (fun a w => Fr 141 [pl 7 (.slice A2 r1.1.length c2), pl 13 (.slice A4 less1.length c4), pl 14 (.int .i64 i2)] a ∧ Sep w0 B w (own 3 (.slice A2 r1.1.length c2) (vI r1.1) :: own 3 (.slice A4 less1.length c4) (vI less1) :: fs) ∧ ((gameroomlaw_MagicMakes_J10 r1 less1 i2)).bind φ2 = some r) ?_ ?_
                · rintro a w ⟨hF, hS, hm⟩
                  unfold gameroomlaw_MagicMakes_J10 at hm
                  refine seq_cut (fun a w => ∃ (less3 : List Int) (A7 : Option Addr) (c7 : Nat), Fr 141 [pl 7 (.slice A2 r1.1.length c2), pl 13 (.slice A7 less3.length c7), pl 14 (.int .i64 i2)] a ∧ Sep w0 B w (own 3 (.slice A2 r1.1.length c2) (vI r1.1) :: own 3 (.slice A7 less3.length c7) (vI less3) :: fs) ∧ ((gameroomlaw_MagicMakes_J11 i2) less3).bind φ2 = some r) ?_ ?_
                  · rintro a w ⟨less3, A7, c7, hF, hS, hm⟩
                    unfold gameroomlaw_MagicMakes_J11 at hm
                    refine reg1 [] [] [7, 13, 14] [pl 7 (.slice A2 r1.1.length c2), pl 13 (.slice A7 less3.length c7), pl 14 (.int .i64 (w64 (i2 + 1)))] hF hS Fol (by kernel_rfl) (by kernel_rfl) (by kernel_rfl) ?_ (fun a w hF hS => ?_)
                    · exact obs_nil
                    refine then_n ?_
                    rw [← hφ2] at hm
                    exact ⟨(less3, (w64 (i2 + 1))), ⟨A7, c7, hF.weak [7, 13, 14] (by kernel_rfl), hS⟩, hm⟩
                  · refine wpIn_block ?_
                    refine oneR ?_
                    obtain ⟨hp3, hm⟩ := asrt_b hm
                    obtain ⟨hp4, hm⟩ := asrt_b hm
                    refine at_run 6 [⟨true, [], vS (Instr.indexAt 34 (.slice A2 r1.1.length c2) (.int .i64 i2)), .pointer (some (sAddr A2 i2))⟩, ⟨false, [], vS (Instr.loadAt 3 (.pointer (some (sAddr A2 i2)))), .int .i64 (geti r1.1 i2)⟩] [none, none, none, some (.pointer (some (sAddr A2 i2))), some (.int .i64 (geti r1.1 i2)), none] [7, 14, 122, 127] [pl 7 (.slice A2 r1.1.length c2), pl 14 (.int .i64 i2), pl 122 (.slice A4 less1.length c4), pl 127 (.int .i64 (w64 ((geti r1.1 i2) - 1)))] hF hS (by kernel_rfl) (by kernel_rfl) ?_ (fun a w hF hS => ?_)
                    · exact obs_cons (ob_ix1 (f := (Value.int .i64)) (m := r1.1) Und34 hi3 hs3 (hS.at_ 0 rfl).rd rfl (fun _ => hp3)) <| obs_cons (ob_get1 (n := r1.1.length) (m := r1.1) (Value.int .i64) (0 : Int) Agg3 (fun _ hS => ⟨_, (hS.at_ 0 rfl).rd⟩) (fun _ hS => rfl) (fun _ => hp3)) <| obs_nil
                    refine at_do (d := 128) (s := vS (Instr.buildSlice 34 1 #[(0, .int .i64 (w64 ((geti r1.1 i2) - 1)))])) (v := .slice (some ⟨w.heap.size, 0, none⟩) 1 1) (w' := w.alloc (.cells #[.int .i64 (w64 ((geti r1.1 i2) - 1))] 3)) hF (by kernel_rfl) (by kernel_rfl) (by kernel_rfl) (fun a hF => ?_)
                    have hS : Sep w0 B (w.alloc (.cells #[.int .i64 (w64 ((geti r1.1 i2) - 1))] 3)) (own 3 (.slice (some (⟨w.heap.size, 0, none⟩ : Addr)) 1 1) (vI ([w64 ((geti r1.1 i2) - 1)] : List Int)) :: (own 3 (.slice A2 r1.1.length c2) (vI r1.1) :: own 3 (.slice A4 less1.length c4) (vI less1) :: fs)) := hS.lit 3 #[.int .i64 (w64 ((geti r1.1 i2) - 1))] 1 rfl (by omega)
                    generalize (some (⟨w.heap.size, 0, none⟩ : Addr)) = g1 at hF hS
                    generalize w.alloc (.cells #[.int .i64 (w64 ((geti r1.1 i2) - 1))] 3) = w at hS ⊢
                    obtain ⟨A6, c6, w, hrun, hS⟩ := run_app1 (P := Try.prog) (t := 34) (m := less1) (ys := ([w64 ((geti r1.1 i2) - 1)] : List Int)) (A2 := g1) (m2 := 1) (c2 := 1) (Value.int .i64) (0 : Int) (hS.at_ 2 rfl) (hS.at_ 0 rfl).rd ((hS.at_ 0 rfl).len1) 34 Und34 hi3 hz3 hs3 (by omega) rfl (fun _ => rfl) hp4
                    have hS : Sep w0 B w (own 3 (.slice g1 1 1) (vI ([w64 ((geti r1.1 i2) - 1)] : List Int)) :: own 3 (.slice A2 r1.1.length c2) (vI r1.1) :: own 3 (.slice A6 ((less1 ++ ([w64 ((geti r1.1 i2) - 1)] : List Int)).length) c6) (vI (less1 ++ ([w64 ((geti r1.1 i2) - 1)] : List Int))) :: fs) := hS
                    refine at_do (d := 129) hF (by kernel_rfl) (by kernel_rfl) hrun (fun a hF => ?_)
                    refine at_run 1 [] [] [7, 13, 14] [pl 7 (.slice A2 r1.1.length c2), pl 13 (.slice A6 ((less1 ++ ([w64 ((geti r1.1 i2) - 1)] : List Int)).length) c6), pl 14 (.int .i64 i2)] hF hS (by kernel_rfl) (by kernel_rfl) ?_ (fun a w hF hS => ?_)
                    · exact obs_nil
                    refine at_end [7, 13, 14] [pl 7 (.slice A2 r1.1.length c2), pl 13 (.slice A6 ((less1 ++ ([w64 ((geti r1.1 i2) - 1)] : List Int)).length) c6), pl 14 (.int .i64 i2)] hF rfl (by kernel_rfl) (fun hF => ?_)
                    refine block_n ?_
                    refine then_n ?_
                    have hS := hS.pickN 3 [1, 2] (by decide)
                    exact ⟨(less1 ++ ([w64 ((geti r1.1 i2) - 1)] : List Int)), A6, c6, hF.weak [7, 13, 14] (by kernel_rfl), hS, hm⟩
                · refine reg [] [] [7, 13, 14, 119] [pl 7 (.slice A2 r1.1.length c2), pl 13 (.slice A4 less1.length c4), pl 14 (.int .i64 i2), pl 119 (.bool (decide (i2 < (r1.1.length : Int))))] hF hS Fol (by kernel_rfl) (by kernel_rfl) (by kernel_rfl) ?_ (fun a w hF hS => ?_)
                  · exact obs_nil
                  refine cond_ev (t := 119) (b := decide (i2 < (r1.1.length : Int))) hF (by kernel_rfl) (fun hb => ?_) (fun hb => ?_)
                  · replace hm := if_t hm hb
                    refine wpIn_skip ?_
                    refine then_n ?_
                    exact ⟨hF.weak [7, 13, 14] (by kernel_rfl), hS, hm⟩
                  · replace hm := if_f hm hb
                    refine wpIn_exit ?_
                    refine then_e (then_e (block_e (then_n ?_)))
                    rw [← hφ2] at hm
                    replace hm := done_b hm
                    unfold gameroomlaw_MagicMakes_K2 at hm
                    try dsimp only at hm
                    have hm : ((gameroomlaw_MagicMakes_J9 r1) less1).bind some = some r := hm
                    exact ⟨less1, A4, c4, hF.weak [7, 13] (by kernel_rfl), hS, hm⟩
            · refine reg [] [] [7, 115] [pl 7 (.slice A2 r1.1.length c2), pl 115 (.bool ((r1.2 != 0) || ((r1.1.length : Int) != (w64 (n1 * n1)))))] hF hS Fol (by kernel_rfl) (by kernel_rfl) (by kernel_rfl) ?_ (fun a w hF hS => ?_)
              · exact obs_nil
              refine cond_ev (t := 115) (b := (r1.2 != 0) || ((r1.1.length : Int) != (w64 (n1 * n1)))) hF (by kernel_rfl) (fun hb => ?_) (fun hb => ?_)
              · replace hm := if_t hm hb
                refine reg [] [] [6] [pl 6 (.bool false)] hF hS Fol (by kernel_rfl) (by kernel_rfl) (by kernel_rfl) ?_ (fun a w hF hS => ?_)
                · exact obs_nil
                refine wpIn_ret ?_
                refine then_r ?_
                have hS := hS.pickN 1 [] (by decide)
                have hm : some false = some r := hm
                obtain rfl := Option.some.inj hm
                exact retV (rs := [.tmp 6]) (vs := [.bool false]) hF rfl (rv_t (by kernel_rfl) <| rv_nil) rfl ⟨rfl, hS⟩
              · replace hm := if_f hm hb
                refine wpIn_skip ?_
                refine then_n ?_
                exact ⟨hF.weak [7] (by kernel_rfl), hS, hm⟩
          · refine reg [] [] [0, 7, 8, 98] [pl 0 (.int .i64 n1), pl 7 (.slice A2 r1.1.length c2), pl 8 (.int .i64 r1.2), pl 98 (.bool (n1 == 2))] hF hS Fol (by kernel_rfl) (by kernel_rfl) (by kernel_rfl) ?_ (fun a w hF hS => ?_)
            · exact obs_nil
            refine cond_ev (t := 98) (b := (n1 == 2)) hF (by kernel_rfl) (fun hb => ?_) (fun hb => ?_)
            · replace hm := if_t hm hb
              refine reg [] [] [6] [pl 6 (.bool ((r1.2 == 10) && ((r1.1.length : Int) == 0)))] hF hS Fol (by kernel_rfl) (by kernel_rfl) (by kernel_rfl) ?_ (fun a w hF hS => ?_)
              · exact obs_nil
              refine wpIn_ret ?_
              refine then_r ?_
              have hS := hS.pickN 1 [] (by decide)
              have hm : some ((r1.2 == 10) && ((r1.1.length : Int) == 0)) = some r := hm
              obtain rfl := Option.some.inj hm
              exact retV (rs := [.tmp 6]) (vs := [.bool ((r1.2 == 10) && ((r1.1.length : Int) == 0))]) hF rfl (rv_t (by kernel_rfl) <| rv_nil) rfl ⟨rfl, hS⟩
            · replace hm := if_f hm hb
              refine wpIn_skip ?_
              refine then_n ?_
              exact ⟨hF.weak [0, 7, 8] (by kernel_rfl), hS, hm⟩
        · refine reg [] [] [0, 7, 8, 89] [pl 0 (.int .i64 n1), pl 7 (.slice A2 r1.1.length c2), pl 8 (.int .i64 r1.2), pl 89 (.bool ((decide (n1 < 1)) || (decide ((12 : Int) < n1))))] hF hS Fol (by kernel_rfl) (by kernel_rfl) (by kernel_rfl) ?_ (fun a w hF hS => ?_)
          · exact obs_nil
          refine cond_ev (t := 89) (b := (decide (n1 < 1)) || (decide ((12 : Int) < n1))) hF (by kernel_rfl) (fun hb => ?_) (fun hb => ?_)
          · replace hm := if_t hm hb
            refine reg [] [] [6] [pl 6 (.bool ((r1.2 == 3) && ((r1.1.length : Int) == 0)))] hF hS Fol (by kernel_rfl) (by kernel_rfl) (by kernel_rfl) ?_ (fun a w hF hS => ?_)
            · exact obs_nil
            refine wpIn_ret ?_
            refine then_r ?_
            have hS := hS.pickN 1 [] (by decide)
            have hm : some ((r1.2 == 3) && ((r1.1.length : Int) == 0)) = some r := hm
            obtain rfl := Option.some.inj hm
            exact retV (rs := [.tmp 6]) (vs := [.bool ((r1.2 == 3) && ((r1.1.length : Int) == 0))]) hF rfl (rv_t (by kernel_rfl) <| rv_nil) rfl ⟨rfl, hS⟩
          · replace hm := if_f hm hb
            refine wpIn_skip ?_
            refine then_n ?_
            exact ⟨hF.weak [0, 7, 8] (by kernel_rfl), hS, hm⟩
      · refine reg [] [] [0, 1, 2, 7, 8, 9, 10, 11, 67] [pl 0 (.int .i64 n1), pl 1 (.int .i64 m1), pl 2 (.slice A1 given1.length c1), pl 7 (.slice A2 r1.1.length c2), pl 8 (.int .i64 r1.2), pl 9 (.int .i64 r3.1), pl 10 (.int .i64 r3.2), pl 11 (.int .i64 no3), pl 67 (.bool (no3 != 0))] hF hS Fol (by kernel_rfl) (by kernel_rfl) (by kernel_rfl) ?_ (fun a w hF hS => ?_)
        · exact obs_nil
        refine cond_ev (t := 67) (b := (no3 != 0)) hF (by kernel_rfl) (fun hb => ?_) (fun hb => ?_)
        · replace hm := if_t hm hb
          refine reg [] [] [0, 7, 8, 74] [pl 0 (.int .i64 n1), pl 7 (.slice A2 r1.1.length c2), pl 8 (.int .i64 r1.2), pl 74 (.bool ((r3.2 != no3) || (r3.1 != 0)))] hF hS Fol (by kernel_rfl) (by kernel_rfl) (by kernel_rfl) ?_ (fun a w hF hS => ?_)
          · exact obs_nil
          refine cond_ev (t := 74) (b := (r3.2 != no3) || (r3.1 != 0)) hF (by kernel_rfl) (fun hb => ?_) (fun hb => ?_)
          · replace hm := if_t hm hb
            refine reg [] [] [6] [pl 6 (.bool false)] hF hS Fol (by kernel_rfl) (by kernel_rfl) (by kernel_rfl) ?_ (fun a w hF hS => ?_)
            · exact obs_nil
            refine wpIn_ret ?_
            refine then_r ?_
            have hS := hS.pickN 1 [] (by decide)
            have hm : some false = some r := hm
            obtain rfl := Option.some.inj hm
            exact retV (rs := [.tmp 6]) (vs := [.bool false]) hF rfl (rv_t (by kernel_rfl) <| rv_nil) rfl ⟨rfl, hS⟩
          · replace hm := if_f hm hb
            refine wpIn_skip ?_
            refine then_n ?_
            exact ⟨hF.weak [0, 7, 8] (by kernel_rfl), hS, hm⟩
        · replace hm := if_f hm hb
          obtain ⟨r4, hr4, hm⟩ := call_b hm
          refine reg [⟨false, [((r3.2 != 0), false)], callFunc 40 #[.int .i64 m1, .slice A1 given1.length c1], .int .i64 r4⟩] [none, none, none, none, none, none, some (.int .i64 r4), none, none] [0, 7, 8, 83] [pl 0 (.int .i64 n1), pl 7 (.slice A2 r1.1.length c2), pl 8 (.int .i64 r1.2), pl 83 (.bool ((r3.2 != 0) || (r3.1 != r4)))] hF hS Fol (by kernel_rfl) (by kernel_rfl) (by kernel_rfl) ?_ (fun a w hF hS => ?_)
          · exact obs_cons (ob_call Try.func40 (by kernel_rfl) rfl (fun hy _ hS => gameroomref_MagicCount_w (ite_some hr4 (by rw [show (r3.2 != 0) = false from hy ((r3.2 != 0), false) (by simp)]; try rfl)) hS (fun _ hS => (hr_given1 _ (hS.dropN 1))) _hc_given1 rfl)) <| obs_nil
          refine cond_ev (t := 83) (b := (r3.2 != 0) || (r3.1 != r4)) hF (by kernel_rfl) (fun hb => ?_) (fun hb => ?_)
          · replace hm := if_t hm hb
            refine reg [] [] [6] [pl 6 (.bool false)] hF hS Fol (by kernel_rfl) (by kernel_rfl) (by kernel_rfl) ?_ (fun a w hF hS => ?_)
            · exact obs_nil
            refine wpIn_ret ?_
            refine then_r ?_
            have hS := hS.pickN 1 [] (by decide)
            have hm : some false = some r := hm
            obtain rfl := Option.some.inj hm
            exact retV (rs := [.tmp 6]) (vs := [.bool false]) hF rfl (rv_t (by kernel_rfl) <| rv_nil) rfl ⟨rfl, hS⟩
          · replace hm := if_f hm hb
            refine wpIn_skip ?_
            refine then_n ?_
            exact ⟨hF.weak [0, 7, 8] (by kernel_rfl), hS, hm⟩
    · refine reg [] [] [0, 1, 2, 7, 8, 9, 10, 11, 12] [pl 0 (.int .i64 n1), pl 1 (.int .i64 m1), pl 2 (.slice A1 given1.length c1), pl 7 (.slice A2 r1.1.length c2), pl 8 (.int .i64 r1.2), pl 9 (.int .i64 r3.1), pl 10 (.int .i64 r3.2), pl 11 (.int .i64 no1), pl 12 (.int .i64 0)] hF hS Fol (by kernel_rfl) (by kernel_rfl) (by kernel_rfl) ?_ (fun a w hF hS => ?_)
      · exact obs_nil
      refine wpIn_block ?_
      refine wp_loop_model (S := (Int × Int)) (R := Int) (gameroomlaw_MagicMakes_L1 m1 given1) (fun x => ((gameroomlaw_MagicMakes_K1 n1 m1 given1 r1 r3) x).bind some) r (fun (x : (Int × Int)) a w => Fr 141 [pl 0 (.int .i64 n1), pl 1 (.int .i64 m1), pl 2 (.slice A1 given1.length c1), pl 7 (.slice A2 r1.1.length c2), pl 8 (.int .i64 r1.2), pl 9 (.int .i64 r3.1), pl 10 (.int .i64 r3.2), pl 11 (.int .i64 x.1), pl 12 (.int .i64 x.2)] a ∧ Sep w0 B w (own 3 (.slice A2 r1.1.length c2) (vI r1.1) :: fs)) (assoc_b hm) ⟨hF.weak [0, 1, 2, 7, 8, 9, 10, 11, 12] (by kernel_rfl), hS⟩ ?_
      clear hF hS hm
      rintro nn1 ⟨no2, i1⟩ a w ⟨hF, hS⟩ hm
      generalize hφ1 : stK (gameroomlaw_MagicMakes_L1 m1 given1) nn1 (fun x => ((gameroomlaw_MagicMakes_K1 n1 m1 given1 r1 r3) x).bind some) = φ1 at hm
      unfold gameroomlaw_MagicMakes_L1 at hm
      dsimp only at hF hS hm
      refine seq_cut (fun a w => Fr 141 [pl 0 (.int .i64 n1), pl 1 (.int .i64 m1), pl 2 (.slice A1 given1.length c1), pl 7 (.slice A2 r1.1.length c2), pl 8 (.int .i64 r1.2), pl 9 (.int .i64 r3.1), pl 10 (.int .i64 r3.2), pl 11 (.int .i64 no2), pl 12 (.int .i64 i1)] a ∧ Sep w0 B w (own 3 (.slice A2 r1.1.length c2) (vI r1.1) :: fs) ∧ ((gameroomlaw_MagicMakes_J3 m1 given1 no2 i1)).bind φ1 = some r) ?_ ?_
      · rintro a w ⟨hF, hS, hm⟩
        unfold gameroomlaw_MagicMakes_J3 at hm
        refine seq_cut (fun a w => ∃ (no4 : Int), Fr 141 [pl 0 (.int .i64 n1), pl 1 (.int .i64 m1), pl 2 (.slice A1 given1.length c1), pl 7 (.slice A2 r1.1.length c2), pl 8 (.int .i64 r1.2), pl 9 (.int .i64 r3.1), pl 10 (.int .i64 r3.2), pl 11 (.int .i64 no4), pl 12 (.int .i64 i1)] a ∧ Sep w0 B w (own 3 (.slice A2 r1.1.length c2) (vI r1.1) :: fs) ∧ ((gameroomlaw_MagicMakes_J4 i1) no4).bind φ1 = some r) ?_ ?_
        · rintro a w ⟨no4, hF, hS, hm⟩
          unfold gameroomlaw_MagicMakes_J4 at hm
          refine reg1 [] [] [0, 1, 2, 7, 8, 9, 10, 11, 12] [pl 0 (.int .i64 n1), pl 1 (.int .i64 m1), pl 2 (.slice A1 given1.length c1), pl 7 (.slice A2 r1.1.length c2), pl 8 (.int .i64 r1.2), pl 9 (.int .i64 r3.1), pl 10 (.int .i64 r3.2), pl 11 (.int .i64 no4), pl 12 (.int .i64 (w64 (i1 + 1)))] hF hS Fol (by kernel_rfl) (by kernel_rfl) (by kernel_rfl) ?_ (fun a w hF hS => ?_)
          · exact obs_nil
          refine then_n ?_
          rw [← hφ1] at hm
          exact ⟨(no4, (w64 (i1 + 1))), ⟨hF.weak [0, 1, 2, 7, 8, 9, 10, 11, 12] (by kernel_rfl), hS⟩, hm⟩
        · refine wpIn_block ?_
          obtain ⟨hp1, hm⟩ := asrt_b hm
          obtain ⟨hp2, hm⟩ := asrt_b hm
          refine reg [⟨true, [], vS (Instr.indexAt 34 (.slice A1 given1.length c1) (.int .i64 i1)), .pointer (some (sAddr A1 i1))⟩, ⟨false, [], vS (Instr.loadAt 3 (.pointer (some (sAddr A1 i1)))), .int .i64 (geti given1 i1)⟩, ⟨true, [(decide ((geti given1 i1) < 0), false)], vS (Instr.indexAt 34 (.slice A1 given1.length c1) (.int .i64 i1)), .pointer (some (sAddr A1 i1))⟩, ⟨false, [(decide ((geti given1 i1) < 0), false)], vS (Instr.loadAt 3 (.pointer (some (sAddr A1 i1)))), .int .i64 (geti given1 i1)⟩] [none, none, some (.pointer (some (sAddr A1 i1))), some (.int .i64 (geti given1 i1)), none, none, none, none, some (.pointer (some (sAddr A1 i1))), some (.int .i64 (geti given1 i1)), none, none, none, none, none] [0, 1, 2, 7, 8, 9, 10, 11, 12, 65] [pl 0 (.int .i64 n1), pl 1 (.int .i64 m1), pl 2 (.slice A1 given1.length c1), pl 7 (.slice A2 r1.1.length c2), pl 8 (.int .i64 r1.2), pl 9 (.int .i64 r3.1), pl 10 (.int .i64 r3.2), pl 11 (.int .i64 no2), pl 12 (.int .i64 i1), pl 65 (.bool ((decide ((geti given1 i1) < 0)) || (decide ((w64 (m1 * m1)) < (geti given1 i1)))))] hF hS Fol (by kernel_rfl) (by kernel_rfl) (by kernel_rfl) ?_ (fun a w hF hS => ?_)
          · exact obs_cons (ob_ix1 (f := (Value.int .i64)) (m := given1) Und34 hi3 hs3 (hr_given1 _ (hS.dropN 1)) rfl (fun _ => hp1)) <| obs_cons (ob_get1 (n := given1.length) (m := given1) (Value.int .i64) (0 : Int) Agg3 (fun _ hS => ⟨_, (hr_given1 _ (hS.dropN 1))⟩) (fun _ hS => rfl) (fun _ => hp1)) <| obs_cons (ob_ix1 (f := (Value.int .i64)) (m := given1) Und34 hi3 hs3 (hr_given1 _ (hS.dropN 1)) rfl (fun hy => hp2 (hy (decide ((geti given1 i1) < 0), false) (by simp)))) <| obs_cons (ob_get1 (n := given1.length) (m := given1) (Value.int .i64) (0 : Int) Agg3 (fun _ hS => ⟨_, (hr_given1 _ (hS.dropN 1))⟩) (fun _ hS => rfl) (fun hy => hp2 (hy (decide ((geti given1 i1) < 0), false) (by simp)))) <| obs_nil
          refine cond_ev (t := 65) (b := (decide ((geti given1 i1) < 0)) || (decide ((w64 (m1 * m1)) < (geti given1 i1)))) hF (by kernel_rfl) (fun hb => ?_) (fun hb => ?_)
          · replace hm := if_t hm hb
            refine reg1 [] [] [0, 1, 2, 7, 8, 9, 10, 11, 12] [pl 0 (.int .i64 n1), pl 1 (.int .i64 m1), pl 2 (.slice A1 given1.length c1), pl 7 (.slice A2 r1.1.length c2), pl 8 (.int .i64 r1.2), pl 9 (.int .i64 r3.1), pl 10 (.int .i64 r3.2), pl 11 (.int .i64 4), pl 12 (.int .i64 i1)] hF hS Fol (by kernel_rfl) (by kernel_rfl) (by kernel_rfl) ?_ (fun a w hF hS => ?_)
            · exact obs_nil
            refine block_n ?_
            refine then_n ?_
            exact ⟨4, hF.weak [0, 1, 2, 7, 8, 9, 10, 11, 12] (by kernel_rfl), hS, hm⟩
          · replace hm := if_f hm hb
            refine wpIn_skip ?_
            refine block_n ?_
            refine then_n ?_
            exact ⟨no2, hF.weak [0, 1, 2, 7, 8, 9, 10, 11, 12] (by kernel_rfl), hS, hm⟩
      · refine reg [] [] [0, 1, 2, 7, 8, 9, 10, 11, 12, 48] [pl 0 (.int .i64 n1), pl 1 (.int .i64 m1), pl 2 (.slice A1 given1.length c1), pl 7 (.slice A2 r1.1.length c2), pl 8 (.int .i64 r1.2), pl 9 (.int .i64 r3.1), pl 10 (.int .i64 r3.2), pl 11 (.int .i64 no2), pl 12 (.int .i64 i1), pl 48 (.bool ((decide (i1 < (given1.length : Int))) && (no2 == 0)))] hF hS Fol (by kernel_rfl) (by kernel_rfl) (by kernel_rfl) ?_ (fun a w hF hS => ?_)
        · exact obs_nil
        refine cond_ev (t := 48) (b := (decide (i1 < (given1.length : Int))) && (no2 == 0)) hF (by kernel_rfl) (fun hb => ?_) (fun hb => ?_)
        · replace hm := if_t hm hb
          refine wpIn_skip ?_
          refine then_n ?_
          exact ⟨hF.weak [0, 1, 2, 7, 8, 9, 10, 11, 12] (by kernel_rfl), hS, hm⟩
        · replace hm := if_f hm hb
          refine wpIn_exit ?_
          refine then_e (then_e (block_e (then_n ?_)))
          rw [← hφ1] at hm
          replace hm := done_b hm
          unfold gameroomlaw_MagicMakes_K1 at hm
          try dsimp only at hm
          have hm : ((gameroomlaw_MagicMakes_J2 n1 m1 given1 r1 r3) no2).bind some = some r := hm
          exact ⟨no2, hF.weak [0, 1, 2, 7, 8, 9, 10, 11] (by kernel_rfl), hS, hm⟩
  · refine reg [] [] [0, 1, 2, 7, 8, 9, 10, 11, 34] [pl 0 (.int .i64 n1), pl 1 (.int .i64 m1), pl 2 (.slice A1 given1.length c1), pl 7 (.slice A2 r1.1.length c2), pl 8 (.int .i64 r1.2), pl 9 (.int .i64 r3.1), pl 10 (.int .i64 r3.2), pl 11 (.int .i64 0), pl 34 (.bool ((decide (m1 < 1)) || (decide ((3 : Int) < m1))))] hF hS Fol (by kernel_rfl) (by kernel_rfl) (by kernel_rfl) ?_ (fun a w hF hS => ?_)
    · exact obs_nil
    refine cond_ev (t := 34) (b := (decide (m1 < 1)) || (decide ((3 : Int) < m1))) hF (by kernel_rfl) (fun hb => ?_) (fun hb => ?_)
    · replace hm := if_t hm hb
      refine reg1 [] [] [0, 1, 2, 7, 8, 9, 10, 11] [pl 0 (.int .i64 n1), pl 1 (.int .i64 m1), pl 2 (.slice A1 given1.length c1), pl 7 (.slice A2 r1.1.length c2), pl 8 (.int .i64 r1.2), pl 9 (.int .i64 r3.1), pl 10 (.int .i64 r3.2), pl 11 (.int .i64 3)] hF hS Fol (by kernel_rfl) (by kernel_rfl) (by kernel_rfl) ?_ (fun a w hF hS => ?_)
      · exact obs_nil
      refine then_n ?_
      have hS := hS.pickN 2 [1] (by decide)
      exact ⟨3, hF.weak [0, 1, 2, 7, 8, 9, 10, 11] (by kernel_rfl), hS, hm⟩
    · replace hm := if_f hm hb
      refine reg [] [] [0, 1, 2, 7, 8, 9, 10, 11, 40] [pl 0 (.int .i64 n1), pl 1 (.int .i64 m1), pl 2 (.slice A1 given1.length c1), pl 7 (.slice A2 r1.1.length c2), pl 8 (.int .i64 r1.2), pl 9 (.int .i64 r3.1), pl 10 (.int .i64 r3.2), pl 11 (.int .i64 0), pl 40 (.bool ((given1.length : Int) != (w64 (m1 * m1))))] hF hS Fol (by kernel_rfl) (by kernel_rfl) (by kernel_rfl) ?_ (fun a w hF hS => ?_)
      · exact obs_nil
      refine cond_ev (t := 40) (b := ((given1.length : Int) != (w64 (m1 * m1)))) hF (by kernel_rfl) (fun hb => ?_) (fun hb => ?_)
      · replace hm := if_t hm hb
        refine reg1 [] [] [0, 1, 2, 7, 8, 9, 10, 11] [pl 0 (.int .i64 n1), pl 1 (.int .i64 m1), pl 2 (.slice A1 given1.length c1), pl 7 (.slice A2 r1.1.length c2), pl 8 (.int .i64 r1.2), pl 9 (.int .i64 r3.1), pl 10 (.int .i64 r3.2), pl 11 (.int .i64 2)] hF hS Fol (by kernel_rfl) (by kernel_rfl) (by kernel_rfl) ?_ (fun a w hF hS => ?_)
        · exact obs_nil
        refine then_n ?_
        have hS := hS.pickN 2 [1] (by decide)
        exact ⟨2, hF.weak [0, 1, 2, 7, 8, 9, 10, 11] (by kernel_rfl), hS, hm⟩
      · replace hm := if_f hm hb
        refine wpIn_skip ?_
        refine then_n ?_
        have hS := hS.pickN 2 [1] (by decide)
        exact ⟨0, hF.weak [0, 1, 2, 7, 8, 9, 10, 11] (by kernel_rfl), hS, hm⟩

end Go.Proofs.Ytlpaklmfgldkoaa
