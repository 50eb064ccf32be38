/-
  Models and walks, printed by our own program (wip/gen).
-/
import Derived.Test.YtbmhcapeikebgaaFB
import Derived.Test.YtbmhcapeikebgaaLibD
namespace Go.Proofs.Ytbmhcapeikebgaa
open Go Go.GL Go.RowKit


noncomputable def bits_Mul64_m (x1 : Int) (y1 : Int) : Option (Int × Int) :=
  some ((IntKind.wrap .u64 ((IntKind.wrap .u64 ((IntKind.wrap .u64 ((shrK .u64 x1 32) * (shrK .u64 y1 32))) + (shrK .u64 (IntKind.wrap .u64 ((IntKind.wrap .u64 ((shrK .u64 x1 32) * (andK .u64 y1 4294967295))) + (shrK .u64 (IntKind.wrap .u64 ((andK .u64 x1 4294967295) * (andK .u64 y1 4294967295))) 32))) 32))) + (shrK .u64 (IntKind.wrap .u64 ((andK .u64 (IntKind.wrap .u64 ((IntKind.wrap .u64 ((shrK .u64 x1 32) * (andK .u64 y1 4294967295))) + (shrK .u64 (IntKind.wrap .u64 ((andK .u64 x1 4294967295) * (andK .u64 y1 4294967295))) 32))) 4294967295) + (IntKind.wrap .u64 ((andK .u64 x1 4294967295) * (shrK .u64 y1 32))))) 32))), (IntKind.wrap .u64 (x1 * y1)))

set_option maxRecDepth 100000 in
set_option maxHeartbeats 4000000 in
theorem bits_Mul64_w {x1 : Int} {y1 : Int} {r : (Int × Int)} {w0 w : World} {B : Nat} {fs : List HP} (hm : bits_Mul64_m x1 y1 = some r) (hS : Sep w0 B w (fs)) :
    Calls Try.prog 162 #[.int .u64 x1, .int .u64 y1] w fun e w' => e = .returned (.tuple #[.int .u64 r.1, .int .u64 r.2]) ∧ Sep w0 B w' (fs) := by
  unfold bits_Mul64_m at hm
  replace hm := start_b hm
  refine enter (l := [.int .u64 x1, .int .u64 y1]) (n := 51) Try.func162 rfl rfl (by simp) (fun a hF => ?_)
  refine reg [] [] [0, 1] [pl 0 (.int .u64 x1), pl 1 (.int .u64 y1)] hF hS Fol (by kernel_rfl) (by kernel_rfl) (by kernel_rfl) ?_ (fun a w hF hS => ?_)
  · exact obs_nil
  refine reg [] [] [0, 1, 6] [pl 0 (.int .u64 x1), pl 1 (.int .u64 y1), pl 6 (.int .u64 (andK .u64 x1 4294967295))] hF hS Fol (by kernel_rfl) (by kernel_rfl) (by kernel_rfl) ?_ (fun a w hF hS => ?_)
  · exact obs_nil
  refine reg [⟨true, [], vS (Op.shift .shr .u64 x1 .u64 32), .int .u64 (shrK .u64 x1 32)⟩] [none, some (.int .u64 (shrK .u64 x1 32)), none] [0, 1, 6, 7] [pl 0 (.int .u64 x1), pl 1 (.int .u64 y1), pl 6 (.int .u64 (andK .u64 x1 4294967295)), pl 7 (.int .u64 (shrK .u64 x1 32))] hF hS Fol (by kernel_rfl) (by kernel_rfl) (by kernel_rfl) ?_ (fun a w hF hS => ?_)
  · exact obs_cons (ob_shr (fun _ => by decide)) <| obs_nil
  refine reg [] [] [0, 1, 6, 7, 8] [pl 0 (.int .u64 x1), pl 1 (.int .u64 y1), pl 6 (.int .u64 (andK .u64 x1 4294967295)), pl 7 (.int .u64 (shrK .u64 x1 32)), pl 8 (.int .u64 (andK .u64 y1 4294967295))] hF hS Fol (by kernel_rfl) (by kernel_rfl) (by kernel_rfl) ?_ (fun a w hF hS => ?_)
  · exact obs_nil
  refine reg [⟨true, [], vS (Op.shift .shr .u64 y1 .u64 32), .int .u64 (shrK .u64 y1 32)⟩] [none, some (.int .u64 (shrK .u64 y1 32)), none] [0, 1, 6, 7, 8, 9] [pl 0 (.int .u64 x1), pl 1 (.int .u64 y1), pl 6 (.int .u64 (andK .u64 x1 4294967295)), pl 7 (.int .u64 (shrK .u64 x1 32)), pl 8 (.int .u64 (andK .u64 y1 4294967295)), pl 9 (.int .u64 (shrK .u64 y1 32))] hF hS Fol (by kernel_rfl) (by kernel_rfl) (by kernel_rfl) ?_ (fun a w hF hS => ?_)
  · exact obs_cons (ob_shr (fun _ => by decide)) <| obs_nil
  refine reg [] [] [0, 1, 6, 7, 8, 9, 10] [pl 0 (.int .u64 x1), pl 1 (.int .u64 y1), pl 6 (.int .u64 (andK .u64 x1 4294967295)), pl 7 (.int .u64 (shrK .u64 x1 32)), pl 8 (.int .u64 (andK .u64 y1 4294967295)), pl 9 (.int .u64 (shrK .u64 y1 32)), pl 10 (.int .u64 (IntKind.wrap .u64 ((andK .u64 x1 4294967295) * (andK .u64 y1 4294967295))))] hF hS Fol (by kernel_rfl) (by kernel_rfl) (by kernel_rfl) ?_ (fun a w hF hS => ?_)
  · exact obs_nil
  refine reg [⟨true, [], vS (Op.shift .shr .u64 (IntKind.wrap .u64 ((andK .u64 x1 4294967295) * (andK .u64 y1 4294967295))) .u64 32), .int .u64 (shrK .u64 (IntKind.wrap .u64 ((andK .u64 x1 4294967295) * (andK .u64 y1 4294967295))) 32)⟩] [none, none, none, none, some (.int .u64 (shrK .u64 (IntKind.wrap .u64 ((andK .u64 x1 4294967295) * (andK .u64 y1 4294967295))) 32)), none, none] [0, 1, 6, 7, 9, 11] [pl 0 (.int .u64 x1), pl 1 (.int .u64 y1), pl 6 (.int .u64 (andK .u64 x1 4294967295)), pl 7 (.int .u64 (shrK .u64 x1 32)), pl 9 (.int .u64 (shrK .u64 y1 32)), pl 11 (.int .u64 (IntKind.wrap .u64 ((IntKind.wrap .u64 ((shrK .u64 x1 32) * (andK .u64 y1 4294967295))) + (shrK .u64 (IntKind.wrap .u64 ((andK .u64 x1 4294967295) * (andK .u64 y1 4294967295))) 32))))] hF hS Fol (by kernel_rfl) (by kernel_rfl) (by kernel_rfl) ?_ (fun a w hF hS => ?_)
  · exact obs_cons (ob_shr (fun _ => by decide)) <| obs_nil
  refine reg [] [] [0, 1, 6, 7, 9, 11, 12] [pl 0 (.int .u64 x1), pl 1 (.int .u64 y1), pl 6 (.int .u64 (andK .u64 x1 4294967295)), pl 7 (.int .u64 (shrK .u64 x1 32)), pl 9 (.int .u64 (shrK .u64 y1 32)), pl 11 (.int .u64 (IntKind.wrap .u64 ((IntKind.wrap .u64 ((shrK .u64 x1 32) * (andK .u64 y1 4294967295))) + (shrK .u64 (IntKind.wrap .u64 ((andK .u64 x1 4294967295) * (andK .u64 y1 4294967295))) 32)))), pl 12 (.int .u64 (andK .u64 (IntKind.wrap .u64 ((IntKind.wrap .u64 ((shrK .u64 x1 32) * (andK .u64 y1 4294967295))) + (shrK .u64 (IntKind.wrap .u64 ((andK .u64 x1 4294967295) * (andK .u64 y1 4294967295))) 32))) 4294967295))] hF hS Fol (by kernel_rfl) (by kernel_rfl) (by kernel_rfl) ?_ (fun a w hF hS => ?_)
  · exact obs_nil
  refine reg [⟨true, [], vS (Op.shift .shr .u64 (IntKind.wrap .u64 ((IntKind.wrap .u64 ((shrK .u64 x1 32) * (andK .u64 y1 4294967295))) + (shrK .u64 (IntKind.wrap .u64 ((andK .u64 x1 4294967295) * (andK .u64 y1 4294967295))) 32))) .u64 32), .int .u64 (shrK .u64 (IntKind.wrap .u64 ((IntKind.wrap .u64 ((shrK .u64 x1 32) * (andK .u64 y1 4294967295))) + (shrK .u64 (IntKind.wrap .u64 ((andK .u64 x1 4294967295) * (andK .u64 y1 4294967295))) 32))) 32)⟩] [none, some (.int .u64 (shrK .u64 (IntKind.wrap .u64 ((IntKind.wrap .u64 ((shrK .u64 x1 32) * (andK .u64 y1 4294967295))) + (shrK .u64 (IntKind.wrap .u64 ((andK .u64 x1 4294967295) * (andK .u64 y1 4294967295))) 32))) 32)), none] [0, 1, 6, 7, 9, 12, 13] [pl 0 (.int .u64 x1), pl 1 (.int .u64 y1), pl 6 (.int .u64 (andK .u64 x1 4294967295)), pl 7 (.int .u64 (shrK .u64 x1 32)), pl 9 (.int .u64 (shrK .u64 y1 32)), pl 12 (.int .u64 (andK .u64 (IntKind.wrap .u64 ((IntKind.wrap .u64 ((shrK .u64 x1 32) * (andK .u64 y1 4294967295))) + (shrK .u64 (IntKind.wrap .u64 ((andK .u64 x1 4294967295) * (andK .u64 y1 4294967295))) 32))) 4294967295)), pl 13 (.int .u64 (shrK .u64 (IntKind.wrap .u64 ((IntKind.wrap .u64 ((shrK .u64 x1 32) * (andK .u64 y1 4294967295))) + (shrK .u64 (IntKind.wrap .u64 ((andK .u64 x1 4294967295) * (andK .u64 y1 4294967295))) 32))) 32))] hF hS Fol (by kernel_rfl) (by kernel_rfl) (by kernel_rfl) ?_ (fun a w hF hS => ?_)
  · exact obs_cons (ob_shr (fun _ => by decide)) <| obs_nil
  refine reg [] [] [0, 1, 7, 9, 12, 13] [pl 0 (.int .u64 x1), pl 1 (.int .u64 y1), pl 7 (.int .u64 (shrK .u64 x1 32)), pl 9 (.int .u64 (shrK .u64 y1 32)), pl 12 (.int .u64 (IntKind.wrap .u64 ((andK .u64 (IntKind.wrap .u64 ((IntKind.wrap .u64 ((shrK .u64 x1 32) * (andK .u64 y1 4294967295))) + (shrK .u64 (IntKind.wrap .u64 ((andK .u64 x1 4294967295) * (andK .u64 y1 4294967295))) 32))) 4294967295) + (IntKind.wrap .u64 ((andK .u64 x1 4294967295) * (shrK .u64 y1 32)))))), pl 13 (.int .u64 (shrK .u64 (IntKind.wrap .u64 ((IntKind.wrap .u64 ((shrK .u64 x1 32) * (andK .u64 y1 4294967295))) + (shrK .u64 (IntKind.wrap .u64 ((andK .u64 x1 4294967295) * (andK .u64 y1 4294967295))) 32))) 32))] hF hS Fol (by kernel_rfl) (by kernel_rfl) (by kernel_rfl) ?_ (fun a w hF hS => ?_)
  · exact obs_nil
  refine reg [⟨true, [], vS (Op.shift .shr .u64 (IntKind.wrap .u64 ((andK .u64 (IntKind.wrap .u64 ((IntKind.wrap .u64 ((shrK .u64 x1 32) * (andK .u64 y1 4294967295))) + (shrK .u64 (IntKind.wrap .u64 ((andK .u64 x1 4294967295) * (andK .u64 y1 4294967295))) 32))) 4294967295) + (IntKind.wrap .u64 ((andK .u64 x1 4294967295) * (shrK .u64 y1 32))))) .u64 32), .int .u64 (shrK .u64 (IntKind.wrap .u64 ((andK .u64 (IntKind.wrap .u64 ((IntKind.wrap .u64 ((shrK .u64 x1 32) * (andK .u64 y1 4294967295))) + (shrK .u64 (IntKind.wrap .u64 ((andK .u64 x1 4294967295) * (andK .u64 y1 4294967295))) 32))) 4294967295) + (IntKind.wrap .u64 ((andK .u64 x1 4294967295) * (shrK .u64 y1 32))))) 32)⟩] [none, none, none, none, none, none, some (.int .u64 (shrK .u64 (IntKind.wrap .u64 ((andK .u64 (IntKind.wrap .u64 ((IntKind.wrap .u64 ((shrK .u64 x1 32) * (andK .u64 y1 4294967295))) + (shrK .u64 (IntKind.wrap .u64 ((andK .u64 x1 4294967295) * (andK .u64 y1 4294967295))) 32))) 4294967295) + (IntKind.wrap .u64 ((andK .u64 x1 4294967295) * (shrK .u64 y1 32))))) 32)), none, none] [0, 1, 4] [pl 0 (.int .u64 x1), pl 1 (.int .u64 y1), pl 4 (.int .u64 (IntKind.wrap .u64 ((IntKind.wrap .u64 ((IntKind.wrap .u64 ((shrK .u64 x1 32) * (shrK .u64 y1 32))) + (shrK .u64 (IntKind.wrap .u64 ((IntKind.wrap .u64 ((shrK .u64 x1 32) * (andK .u64 y1 4294967295))) + (shrK .u64 (IntKind.wrap .u64 ((andK .u64 x1 4294967295) * (andK .u64 y1 4294967295))) 32))) 32))) + (shrK .u64 (IntKind.wrap .u64 ((andK .u64 (IntKind.wrap .u64 ((IntKind.wrap .u64 ((shrK .u64 x1 32) * (andK .u64 y1 4294967295))) + (shrK .u64 (IntKind.wrap .u64 ((andK .u64 x1 4294967295) * (andK .u64 y1 4294967295))) 32))) 4294967295) + (IntKind.wrap .u64 ((andK .u64 x1 4294967295) * (shrK .u64 y1 32))))) 32))))] hF hS Fol (by kernel_rfl) (by kernel_rfl) (by kernel_rfl) ?_ (fun a w hF hS => ?_)
  · exact obs_cons (ob_shr (fun _ => by decide)) <| obs_nil
  refine reg [] [] [4, 5] [pl 4 (.int .u64 (IntKind.wrap .u64 ((IntKind.wrap .u64 ((IntKind.wrap .u64 ((shrK .u64 x1 32) * (shrK .u64 y1 32))) + (shrK .u64 (IntKind.wrap .u64 ((IntKind.wrap .u64 ((shrK .u64 x1 32) * (andK .u64 y1 4294967295))) + (shrK .u64 (IntKind.wrap .u64 ((andK .u64 x1 4294967295) * (andK .u64 y1 4294967295))) 32))) 32))) + (shrK .u64 (IntKind.wrap .u64 ((andK .u64 (IntKind.wrap .u64 ((IntKind.wrap .u64 ((shrK .u64 x1 32) * (andK .u64 y1 4294967295))) + (shrK .u64 (IntKind.wrap .u64 ((andK .u64 x1 4294967295) * (andK .u64 y1 4294967295))) 32))) 4294967295) + (IntKind.wrap .u64 ((andK .u64 x1 4294967295) * (shrK .u64 y1 32))))) 32)))), pl 5 (.int .u64 (IntKind.wrap .u64 (x1 * y1)))] hF hS Fol (by kernel_rfl) (by kernel_rfl) (by kernel_rfl) ?_ (fun a w hF hS => ?_)
  · exact obs_nil
  refine wp_ret ?_
  have hm : some ((IntKind.wrap .u64 ((IntKind.wrap .u64 ((IntKind.wrap .u64 ((shrK .u64 x1 32) * (shrK .u64 y1 32))) + (shrK .u64 (IntKind.wrap .u64 ((IntKind.wrap .u64 ((shrK .u64 x1 32) * (andK .u64 y1 4294967295))) + (shrK .u64 (IntKind.wrap .u64 ((andK .u64 x1 4294967295) * (andK .u64 y1 4294967295))) 32))) 32))) + (shrK .u64 (IntKind.wrap .u64 ((andK .u64 (IntKind.wrap .u64 ((IntKind.wrap .u64 ((shrK .u64 x1 32) * (andK .u64 y1 4294967295))) + (shrK .u64 (IntKind.wrap .u64 ((andK .u64 x1 4294967295) * (andK .u64 y1 4294967295))) 32))) 4294967295) + (IntKind.wrap .u64 ((andK .u64 x1 4294967295) * (shrK .u64 y1 32))))) 32))), (IntKind.wrap .u64 (x1 * y1))) = some r := hm
  obtain rfl := Option.some.inj hm
  exact retV (rs := [.tmp 4, .tmp 5]) (vs := [.int .u64 (IntKind.wrap .u64 ((IntKind.wrap .u64 ((IntKind.wrap .u64 ((shrK .u64 x1 32) * (shrK .u64 y1 32))) + (shrK .u64 (IntKind.wrap .u64 ((IntKind.wrap .u64 ((shrK .u64 x1 32) * (andK .u64 y1 4294967295))) + (shrK .u64 (IntKind.wrap .u64 ((andK .u64 x1 4294967295) * (andK .u64 y1 4294967295))) 32))) 32))) + (shrK .u64 (IntKind.wrap .u64 ((andK .u64 (IntKind.wrap .u64 ((IntKind.wrap .u64 ((shrK .u64 x1 32) * (andK .u64 y1 4294967295))) + (shrK .u64 (IntKind.wrap .u64 ((andK .u64 x1 4294967295) * (andK .u64 y1 4294967295))) 32))) 4294967295) + (IntKind.wrap .u64 ((andK .u64 x1 4294967295) * (shrK .u64 y1 32))))) 32))), .int .u64 (IntKind.wrap .u64 (x1 * y1))]) hF rfl (rv_t (by kernel_rfl) <| rv_t (by kernel_rfl) <| rv_nil) rfl ⟨rfl, hS⟩

noncomputable def bits_Mul_J1 (x1 : Int) (y1 : Int) : Option (Int × Int) :=
  (bits_Mul64_m x1 y1).bind fun r1 => some (r1.1, r1.2)

noncomputable def bits_Mul_m (x1 : Int) (y1 : Int) : Option (Int × Int) :=
  (bits_Mul_J1 x1 y1)

set_option maxRecDepth 100000 in
set_option maxHeartbeats 4000000 in
theorem bits_Mul_w {x1 : Int} {y1 : Int} {r : (Int × Int)} {w0 w : World} {B : Nat} {fs : List HP} (hm : bits_Mul_m x1 y1 = some r) (hS : Sep w0 B w (fs)) :
    Calls Try.prog 140 #[.int .u64 x1, .int .u64 y1] w fun e w' => e = .returned (.tuple #[.int .u64 r.1, .int .u64 r.2]) ∧ Sep w0 B w' (fs) := by
  unfold bits_Mul_m at hm
  replace hm := start_b hm
  refine enter (l := [.int .u64 x1, .int .u64 y1]) (n := 30) Try.func140 rfl rfl (by simp) (fun a hF => ?_)
  refine reg [] [] [0, 1] [pl 0 (.int .u64 x1), pl 1 (.int .u64 y1)] hF hS Fol (by kernel_rfl) (by kernel_rfl) (by kernel_rfl) ?_ (fun a w hF hS => ?_)
  · exact obs_nil
  refine seq_cut (fun a w => Fr 30 [pl 0 (.int .u64 x1), pl 1 (.int .u64 y1)] a ∧ Sep w0 B w (fs) ∧ ((bits_Mul_J1 x1 y1)).bind some = some r) ?_ ?_
  · rintro a w ⟨hF, hS, hm⟩
    unfold bits_Mul_J1 at hm
    obtain ⟨r1, hr1, hm⟩ := call_b hm
    refine reg [⟨false, [], callFunc 162 #[.int .u64 x1, .int .u64 y1], .tuple #[.int .u64 r1.1, .int .u64 r1.2]⟩] [none, none, some (.tuple #[.int .u64 r1.1, .int .u64 r1.2]), none, none, none, none, none] [8, 9] [pl 8 (.int .u64 r1.1), pl 9 (.int .u64 r1.2)] hF hS Fol (by kernel_rfl) (by kernel_rfl) (by kernel_rfl) ?_ (fun a w hF hS => ?_)
    · exact obs_cons (ob_call Try.func162 (by kernel_rfl) rfl (fun _ _ hS => bits_Mul64_w hr1 hS )) <| obs_nil
    refine reg [] [] [4, 5] [pl 4 (.int .u64 r1.1), pl 5 (.int .u64 r1.2)] hF hS Fol (by kernel_rfl) (by kernel_rfl) (by kernel_rfl) ?_ (fun a w hF hS => ?_)
    · exact obs_nil
    refine wp_ret ?_
    have hm : some (r1.1, r1.2) = some r := hm
    obtain rfl := Option.some.inj hm
    exact retV (rs := [.tmp 4, .tmp 5]) (vs := [.int .u64 r1.1, .int .u64 r1.2]) hF rfl (rv_t (by kernel_rfl) <| rv_t (by kernel_rfl) <| rv_nil) rfl ⟨rfl, hS⟩
  · refine cond_f ?_
    refine wp_skip ?_
    refine then_n ?_
    exact ⟨hF.weak [0, 1] (by kernel_rfl), hS, hm⟩

noncomputable def slices_Repeat_J4 (r1 : (Int × Int)) (newslice1 : List Int) (n2 : Int) : Option (St (List Int × Int) (List Int)) :=
  asrt (0 ≤ n2 ∧ n2 ≤ (((Int.toNat (w64 r1.2)) : Nat) : Int) ∧ (((Int.toNat (w64 r1.2)) : Nat) : Int) ≤ (((Int.toNat (w64 r1.2)) : Nat) : Int)) <| asrt (0 ≤ (0 : Int) ∧ (0 : Int) ≤ n2 ∧ n2 ≤ (((Int.toNat (w64 r1.2)) : Nat) : Int)) <| some (.next ((putL newslice1 (Int.toNat n2) (List.take ((cut newslice1 n2 (((Int.toNat (w64 r1.2)) : Nat) : Int)).length) (cut newslice1 (0 : Int) n2))), (w64 (n2 + (minI (((cut newslice1 n2 (((Int.toNat (w64 r1.2)) : Nat) : Int)).length : Nat) : Int) (((cut newslice1 (0 : Int) n2).length : Nat) : Int))))))

noncomputable def slices_Repeat_J3 (newslice2 : List Int) : Option (List Int) :=
  some newslice2

noncomputable def slices_Repeat_K1 : (List Int) → Option (List Int) :=
  fun (x : (List Int)) => match x with | newslice2 => slices_Repeat_J3 newslice2

noncomputable def slices_Repeat_L1 (r1 : (Int × Int)) : (List Int × Int) → Option (St (List Int × Int) (List Int)) :=
  fun (x : (List Int × Int)) => match x with | (newslice1, n2) => if (decide (n2 < (((Int.toNat (w64 r1.2)) : Nat) : Int))) then ((slices_Repeat_J4 r1 newslice1 n2)) else (some (.done newslice1))

noncomputable def slices_Repeat_J2 (x1 : List Int) (r1 : (Int × Int)) : Option (List Int) :=
  asrt ((0 : Int) ≤ (w64 r1.2) ∧ (w64 r1.2) ≤ bigN) <| (loop (slices_Repeat_L1 r1) ((putL (List.replicate (Int.toNat (w64 r1.2)) (0 : Int)) 0 (List.take (Int.toNat (w64 r1.2)) x1)), (minI (((Int.toNat (w64 r1.2)) : Nat) : Int) (x1.length : Int)))).bind slices_Repeat_K1

noncomputable def slices_Repeat_J1 (x1 : List Int) (count1 : Int) : Option (List Int) :=
  (bits_Mul_m (IntKind.wrap .u64 (x1.length : Int)) (IntKind.wrap .u64 count1)).bind fun r1 => if ((decide ((0 : Int) < r1.1)) || (decide ((9223372036854775807 : Int) < r1.2))) then none else ((slices_Repeat_J2 x1 r1))

noncomputable def slices_Repeat_m (x1 : List Int) (count1 : Int) : Option (List Int) :=
  if (decide (count1 < 0)) then none else ((slices_Repeat_J1 x1 count1))

set_option maxRecDepth 100000 in
set_option maxHeartbeats 4000000 in
theorem slices_Repeat_w {A1 : Option Addr} {c1 : Nat} {n1 : Nat} {x1 : List Int} {count1 : Int} {r : (List Int)} {w0 w : World} {B : Nat} {fs : List HP} (hm : slices_Repeat_m x1 count1 = some r) (hS : Sep w0 B w (fs)) (hr_x1 : RdF w0 B fs A1 (vI x1)) (_hc_x1 : x1.length ≤ c1) (_hn_x1 : n1 = x1.length) :
    Calls Try.prog 103 #[.slice A1 n1 c1, .int .i64 count1] w fun e w' => ∃ v, e = .returned v ∧ ∃ (A3 : Option Addr) (c3 : Nat), v = .slice A3 r.length c3 ∧ Sep w0 B w' (own 3 (.slice A3 r.length c3) (vI r) :: fs) := by
  obtain ⟨i3, hi3, hz3, hs3, hb3⟩ := info_parts Info3
  obtain rfl := _hn_x1
  unfold slices_Repeat_m at hm
  replace hm := start_b hm
  refine enter (l := [.slice A1 x1.length c1, .int .i64 count1]) (n := 48) Try.func103 rfl rfl (by simp) (fun a hF => ?_)
  refine reg [] [] [0, 1] [pl 0 (.slice A1 x1.length c1), pl 1 (.int .i64 count1)] hF hS Fol (by kernel_rfl) (by kernel_rfl) (by kernel_rfl) ?_ (fun a w hF hS => ?_)
  · exact obs_nil
  refine seq_cut (fun a w => Fr 48 [pl 0 (.slice A1 x1.length c1), pl 1 (.int .i64 count1)] a ∧ Sep w0 B w (fs) ∧ ((slices_Repeat_J1 x1 count1)).bind some = some r) ?_ ?_
  · rintro a w ⟨hF, hS, hm⟩
    unfold slices_Repeat_J1 at hm
    obtain ⟨r1, hr1, hm⟩ := call_b hm
    refine reg [⟨false, [], callFunc 140 #[.int .u64 (IntKind.wrap .u64 (x1.length : Int)), .int .u64 (IntKind.wrap .u64 count1)], .tuple #[.int .u64 r1.1, .int .u64 r1.2]⟩] [none, none, none, none, none, some (.tuple #[.int .u64 r1.1, .int .u64 r1.2]), none, none, none, none, none] [0, 5, 6] [pl 0 (.slice A1 x1.length c1), pl 5 (.int .u64 r1.1), pl 6 (.int .u64 r1.2)] hF hS Fol (by kernel_rfl) (by kernel_rfl) (by kernel_rfl) ?_ (fun a w hF hS => ?_)
    · exact obs_cons (ob_call Try.func140 (by kernel_rfl) rfl (fun _ _ hS => bits_Mul_w hr1 hS )) <| obs_nil
    refine seq_cut (fun a w => Fr 48 [pl 0 (.slice A1 x1.length c1), pl 6 (.int .u64 r1.2)] a ∧ Sep w0 B w (fs) ∧ ((slices_Repeat_J2 x1 r1)).bind some = some r) ?_ ?_
    · rintro a w ⟨hF, hS, hm⟩
      unfold slices_Repeat_J2 at hm
      refine seqR ?_
      obtain ⟨hp1, hm⟩ := asrt_b hm
      refine at_run 2 [] [] [0, 29] [pl 0 (.slice A1 x1.length c1), pl 29 (.int .i64 (w64 r1.2))] hF hS (by kernel_rfl) (by kernel_rfl) ?_ (fun a w hF hS => ?_)
      · exact obs_nil
      obtain ⟨A2, c2, w, hrun, hS⟩ := run_mk1 (P := Try.prog) (t := 40) (Value.int .i64) (0 : Int) hS .i64 .i64 Und40 hi3 hz3 hs3 (by omega) rfl hp1
      have hS : Sep w0 B w (own 3 (.slice A2 (Int.toNat (w64 r1.2)) c2) (vI (List.replicate (Int.toNat (w64 r1.2)) (0 : Int))) :: fs) := hS
      refine at_do (d := 30) hF (by kernel_rfl) (by kernel_rfl) hrun (fun a hF => ?_)
      refine at_run 1 [] [] [0, 7] [pl 0 (.slice A1 x1.length c1), pl 7 (.slice A2 (Int.toNat (w64 r1.2)) c2)] hF hS (by kernel_rfl) (by kernel_rfl) ?_ (fun a w hF hS => ?_)
      · exact obs_nil
      refine at_end [0, 7] [pl 0 (.slice A1 x1.length c1), pl 7 (.slice A2 (Int.toNat (w64 r1.2)) c2)] hF rfl (by kernel_rfl) (fun hF => ?_)
      refine then_n ?_
      refine seqR ?_
      refine at_run 2 [] [] [7, 31, 32] [pl 7 (.slice A2 (Int.toNat (w64 r1.2)) c2), pl 31 (.slice A2 (Int.toNat (w64 r1.2)) c2), pl 32 (.slice A1 x1.length c1)] hF hS (by kernel_rfl) (by kernel_rfl) ?_ (fun a w hF hS => ?_)
      · exact obs_nil
      obtain ⟨w, hrun, hS⟩ := run_copy0 (P := Try.prog) (t := 40) (t2 := 40) (ty := 3) (ys := x1) (A2 := A1) (n2 := x1.length) (c2 := c1) (hS.at_ 0 rfl) (hr_x1 _ (hS.dropN 1)) rfl Und40 hi3 hs3
      refine at_do (d := 33) hF (by kernel_rfl) (by kernel_rfl) hrun (fun a hF => ?_)
      have hS : Sep w0 B w (own 3 (.slice A2 (Int.toNat (w64 r1.2)) c2) (vI (putL (List.replicate (Int.toNat (w64 r1.2)) (0 : Int)) 0 (List.take (Int.toNat (w64 r1.2)) x1))) :: fs) := hS
      refine at_run 1 [] [] [7, 8] [pl 7 (.slice A2 (Int.toNat (w64 r1.2)) c2), pl 8 (.int .i64 (minI (((Int.toNat (w64 r1.2)) : Nat) : Int) (x1.length : Int)))] hF hS (by kernel_rfl) (by kernel_rfl) ?_ (fun a w hF hS => ?_)
      · exact obs_nil
      refine at_end [7, 8] [pl 7 (.slice A2 (Int.toNat (w64 r1.2)) c2), pl 8 (.int .i64 (minI (((Int.toNat (w64 r1.2)) : Nat) : Int) (x1.length : Int)))] hF rfl (by kernel_rfl) (fun hF => ?_)
      refine then_n ?_
      refine seq_cut (fun a w => ∃ (newslice2 : List Int), Fr 48 [pl 7 (.slice A2 (Int.toNat (w64 r1.2)) c2)] a ∧ Sep w0 B w (own 3 (.slice A2 (Int.toNat (w64 r1.2)) c2) (vI newslice2) :: fs) ∧ (slices_Repeat_J3 newslice2).bind some = some r) ?_ ?_
      · rintro a w ⟨newslice2, hF, hS, hm⟩
        unfold slices_Repeat_J3 at hm
        refine reg [] [] [4] [pl 4 (.slice A2 (Int.toNat (w64 r1.2)) c2)] hF hS Fol (by kernel_rfl) (by kernel_rfl) (by kernel_rfl) ?_ (fun a w hF hS => ?_)
        · exact obs_nil
        refine wp_ret ?_
        have hl1 := (hS.at_ 0 rfl).len1
        have hS := (hS.at_ 0 rfl).reN hl1
        have hS : Sep w0 B w (own 3 (.slice A2 newslice2.length c2) (vI newslice2) :: fs) := hS
        have hF := hF.cast (t := 4) (v := .slice A2 (Int.toNat (w64 r1.2)) c2) (v' := .slice A2 newslice2.length c2) rfl rfl (congrArg (fun k => Value.slice A2 k c2) hl1)
        have hm : some newslice2 = some r := hm
        obtain rfl := Option.some.inj hm
        exact retV (rs := [.tmp 4]) (vs := [.slice A2 newslice2.length c2]) hF rfl (rv_t (by kernel_rfl) <| rv_nil) rfl ⟨_, rfl, A2, c2, rfl, hS⟩
      · refine wp_block ?_
        refine wp_loop_model (S := (List Int × Int)) (R := (List Int)) (slices_Repeat_L1 r1) (fun x => (slices_Repeat_K1 x).bind some) r (fun (x : (List Int × Int)) a w => Fr 48 [pl 7 (.slice A2 (Int.toNat (w64 r1.2)) c2), pl 8 (.int .i64 x.2)] a ∧ Sep w0 B w (own 3 (.slice A2 (Int.toNat (w64 r1.2)) c2) (vI x.1) :: fs)) (assoc_b hm) ⟨hF.weak [7, 8] (by kernel_rfl), hS⟩ ?_
        clear hF hS hm
        rintro nn1 ⟨newslice1, n2⟩ a w ⟨hF, hS⟩ hm
        generalize hφ1 : stK (slices_Repeat_L1 r1) nn1 (fun x => (slices_Repeat_K1 x).bind some) = φ1 at hm
        unfold slices_Repeat_L1 at hm
        dsimp only at hF hS hm
        refine seq_cut (fun a w => Fr 48 [pl 7 (.slice A2 (Int.toNat (w64 r1.2)) c2), pl 8 (.int .i64 n2)] a ∧ Sep w0 B w (own 3 (.slice A2 (Int.toNat (w64 r1.2)) c2) (vI newslice1) :: fs) ∧ ((slices_Repeat_J4 r1 newslice1 n2)).bind φ1 = some r) ?_ ?_
        · rintro a w ⟨hF, hS, hm⟩
          unfold slices_Repeat_J4 at hm
          refine wp_block ?_
          obtain ⟨hp2, hm⟩ := asrt_b hm
          obtain ⟨hp3, hm⟩ := asrt_b hm
          have hb1 := cutb (n := (Int.toNat (w64 r1.2))) ((hS.at_ 0 rfl).len1) hp2
          have hb2 := cutb (n := (Int.toNat (w64 r1.2))) ((hS.at_ 0 rfl).len1) hp3
          refine regMix4 [0, 1, 2, 3, 4, 5, 6] [7, 8, 9] [⟨true, [], vS (Instr.sliceAt 40 (.slice A2 (Int.toNat (w64 r1.2)) c2) (some (.int .i64 n2)) none none), .slice (cutAddr A2 c2 n2) ((cut newslice1 n2 (((Int.toNat (w64 r1.2)) : Nat) : Int)).length) (c2 - Int.toNat n2)⟩, ⟨true, [], vS (Instr.sliceAt 40 (.slice A2 (Int.toNat (w64 r1.2)) c2) none (some (.int .i64 n2)) none), .slice (cutAddr A2 c2 (0 : Int)) ((cut newslice1 (0 : Int) n2).length) (c2 - Int.toNat (0 : Int))⟩] [none, none, none, some (.slice (cutAddr A2 c2 n2) ((cut newslice1 n2 (((Int.toNat (w64 r1.2)) : Nat) : Int)).length) (c2 - Int.toNat n2)), none, none, some (.slice (cutAddr A2 c2 (0 : Int)) ((cut newslice1 (0 : Int) n2).length) (c2 - Int.toNat (0 : Int)))] [7, 38, 41, 44] [pl 7 (.slice A2 (Int.toNat (w64 r1.2)) c2), pl 38 (.int .i64 n2), pl 41 (.slice (cutAddr A2 c2 n2) ((cut newslice1 n2 (((Int.toNat (w64 r1.2)) : Nat) : Int)).length) (c2 - Int.toNat n2)), pl 44 (.slice (cutAddr A2 c2 (0 : Int)) ((cut newslice1 (0 : Int) n2).length) (c2 - Int.toNat (0 : Int)))] hF hS Fol (by kernel_rfl) (by kernel_rfl) (by kernel_rfl) (by kernel_rfl) (by kernel_rfl) ?_ (fun a w hF hS => ?_)
          · exact obs_cons (ob_cutn (l := newslice1) (k := .i64) (k' := .i64) Und40 hi3 hs3 ((hS.at_ 0 rfl).len1) (.inl rfl) (.inr ⟨rfl, rfl⟩) (fun _ => hb1) ((hS.at_ 0 rfl).cap1)) <| obs_cons (ob_cutn (l := newslice1) (k := .i64) (k' := .i64) Und40 hi3 hs3 ((hS.at_ 0 rfl).len1) (.inr ⟨rfl, rfl⟩) (.inl rfl) (fun _ => hb2) ((hS.at_ 0 rfl).cap1)) <| obs_nil
          obtain ⟨w, hrun, hS⟩ := run_copyC (P := Try.prog) (t := 40) (t2 := 40) (ty := 3) (ys := (cut newslice1 (0 : Int) n2)) (A2 := (cutAddr A2 c2 (0 : Int))) (n2 := (cut newslice1 (0 : Int) n2).length) (c2 := (c2 - Int.toNat (0 : Int))) (dc := (c2 - Int.toNat n2)) (hS.at_ 0 rfl) (Rd.cutF (hS.at_ 0 rfl).rd hb2 ((hS.at_ 0 rfl).cap1)) rfl Und40 hi3 hs3 hb1
          refine at_do (d := 45) hF (by kernel_rfl) (by kernel_rfl) hrun (fun a hF => ?_)
          have hS : Sep w0 B w (own 3 (.slice A2 (Int.toNat (w64 r1.2)) c2) (vI (putL newslice1 (Int.toNat n2) (List.take ((cut newslice1 n2 (((Int.toNat (w64 r1.2)) : Nat) : Int)).length) (cut newslice1 (0 : Int) n2)))) :: fs) := hS
          refine at_run 2 [] [] [7, 8] [pl 7 (.slice A2 (Int.toNat (w64 r1.2)) c2), pl 8 (.int .i64 (w64 (n2 + (minI (((cut newslice1 n2 (((Int.toNat (w64 r1.2)) : Nat) : Int)).length : Nat) : Int) (((cut newslice1 (0 : Int) n2).length : Nat) : Int)))))] hF hS (by kernel_rfl) (by kernel_rfl) ?_ (fun a w hF hS => ?_)
          · exact obs_nil
          refine at_end [7, 8] [pl 7 (.slice A2 (Int.toNat (w64 r1.2)) c2), pl 8 (.int .i64 (w64 (n2 + (minI (((cut newslice1 n2 (((Int.toNat (w64 r1.2)) : Nat) : Int)).length : Nat) : Int) (((cut newslice1 (0 : Int) n2).length : Nat) : Int)))))] hF rfl (by kernel_rfl) (fun hF => ?_)
          refine np_n ?_
          refine block_n ?_
          refine then_n ?_
          rw [← hφ1] at hm
          exact ⟨((putL newslice1 (Int.toNat n2) (List.take ((cut newslice1 n2 (((Int.toNat (w64 r1.2)) : Nat) : Int)).length) (cut newslice1 (0 : Int) n2))), (w64 (n2 + (minI (((cut newslice1 n2 (((Int.toNat (w64 r1.2)) : Nat) : Int)).length : Nat) : Int) (((cut newslice1 (0 : Int) n2).length : Nat) : Int))))), ⟨hF.weak [7, 8] (by kernel_rfl), hS⟩, hm⟩
        · refine reg [] [] [7, 8, 37] [pl 7 (.slice A2 (Int.toNat (w64 r1.2)) c2), pl 8 (.int .i64 n2), pl 37 (.bool (decide (n2 < (((Int.toNat (w64 r1.2)) : Nat) : Int))))] hF hS Fol (by kernel_rfl) (by kernel_rfl) (by kernel_rfl) ?_ (fun a w hF hS => ?_)
          · exact obs_nil
          refine cond_ev (t := 37) (b := decide (n2 < (((Int.toNat (w64 r1.2)) : Nat) : Int))) hF (by kernel_rfl) (fun hb => ?_) (fun hb => ?_)
          · replace hm := if_t hm hb
            refine wp_skip ?_
            refine then_n ?_
            exact ⟨hF.weak [7, 8] (by kernel_rfl), hS, hm⟩
          · replace hm := if_f hm hb
            refine wp_exit ?_
            refine then_e (then_e (block_e (then_n ?_)))
            rw [← hφ1] at hm
            replace hm := done_b hm
            unfold slices_Repeat_K1 at hm
            try dsimp only at hm
            have hm : (slices_Repeat_J3 newslice1).bind some = some r := hm
            exact ⟨newslice1, hF.weak [7] (by kernel_rfl), hS, hm⟩
    · refine reg [] [] [0, 6, 26] [pl 0 (.slice A1 x1.length c1), pl 6 (.int .u64 r1.2), pl 26 (.bool ((decide ((0 : Int) < r1.1)) || (decide ((9223372036854775807 : Int) < r1.2))))] hF hS Fol (by kernel_rfl) (by kernel_rfl) (by kernel_rfl) ?_ (fun a w hF hS => ?_)
      · exact obs_nil
      refine cond_ev (t := 26) (b := (decide ((0 : Int) < r1.1)) || (decide ((9223372036854775807 : Int) < r1.2))) hF (by kernel_rfl) (fun hb => ?_) (fun hb => ?_)
      · replace hm := if_t hm hb
        simp at hm
      · replace hm := if_f hm hb
        refine wp_skip ?_
        refine then_n ?_
        exact ⟨hF.weak [0, 6] (by kernel_rfl), hS, hm⟩
  · refine reg [] [] [0, 1, 10] [pl 0 (.slice A1 x1.length c1), pl 1 (.int .i64 count1), pl 10 (.bool (decide (count1 < 0)))] hF hS Fol (by kernel_rfl) (by kernel_rfl) (by kernel_rfl) ?_ (fun a w hF hS => ?_)
    · exact obs_nil
    refine cond_ev (t := 10) (b := decide (count1 < 0)) hF (by kernel_rfl) (fun hb => ?_) (fun hb => ?_)
    · replace hm := if_t hm hb
      simp at hm
    · replace hm := if_f hm hb
      refine wp_skip ?_
      refine then_n ?_
      exact ⟨hF.weak [0, 1] (by kernel_rfl), hS, hm⟩

noncomputable def slices_Grow_J2 (s1 : List Int) : Option (List Int) :=
  some s1

noncomputable def slices_Grow_J1 (n1 : Int) : Option (List Int) :=
  if (decide ((0 : Int) < (w64 (n1 - (w64 (0 - 0)))))) then (asrt ((0 : Int) ≤ (w64 (n1 - (w64 (0 - 0)))) ∧ (w64 (n1 - (w64 (0 - 0)))) ≤ bigN) <| asrt (0 ≤ (0 : Int) ∧ (0 : Int) ≤ (0 : Int) ∧ (0 : Int) ≤ (((List.replicate (Int.toNat (w64 (n1 - (w64 (0 - 0))))) (0 : Int)).length : Nat) : Int)) <| slices_Grow_J2 (cut (List.replicate (Int.toNat (w64 (n1 - (w64 (0 - 0))))) (0 : Int)) (0 : Int) (0 : Int))) else (slices_Grow_J2 ([] : List Int))

noncomputable def slices_Grow_m (n1 : Int) : Option (List Int) :=
  if (decide (n1 < 0)) then none else ((slices_Grow_J1 n1))

set_option maxRecDepth 100000 in
set_option maxHeartbeats 4000000 in
theorem slices_Grow_w {n1 : Int} {r : (List Int)} {w0 w : World} {B : Nat} {fs : List HP} (hm : slices_Grow_m n1 = some r) (hS : Sep w0 B w (fs)) :
    Calls Try.prog 141 #[.slice none 0 0, .int .i64 n1] w fun e w' => ∃ v, e = .returned v ∧ ∃ (A3 : Option Addr) (c3 : Nat), v = .slice A3 r.length c3 ∧ Sep w0 B w' (own 3 (.slice A3 r.length c3) (vI r) :: fs) := by
  obtain ⟨i3, hi3, hz3, hs3, hb3⟩ := info_parts Info3
  unfold slices_Grow_m at hm
  replace hm := start_b hm
  refine enter (l := [.slice none 0 0, .int .i64 n1]) (n := 27) Try.func141 rfl rfl (by simp) (fun a hF => ?_)
  refine reg [] [] [0, 1] [pl 0 (.slice none 0 0), pl 1 (.int .i64 n1)] hF hS Fol (by kernel_rfl) (by kernel_rfl) (by kernel_rfl) ?_ (fun a w hF hS => ?_)
  · exact obs_nil
  refine seq_cut (fun a w => Fr 27 [pl 0 (.slice none 0 0), pl 1 (.int .i64 n1)] a ∧ Sep w0 B w (fs) ∧ ((slices_Grow_J1 n1)).bind some = some r) ?_ ?_
  · rintro a w ⟨hF, hS, hm⟩
    unfold slices_Grow_J1 at hm
    refine seq_cut (fun a w => ∃ (s1 : List Int) (A2 : Option Addr) (c2 : Nat), Fr 27 [pl 0 (.slice A2 s1.length c2)] a ∧ Sep w0 B w (own 3 (.slice A2 s1.length c2) (vI s1) :: fs) ∧ (slices_Grow_J2 s1).bind some = some r) ?_ ?_
    · rintro a w ⟨s1, A2, c2, hF, hS, hm⟩
      unfold slices_Grow_J2 at hm
      refine reg [] [] [4] [pl 4 (.slice A2 s1.length c2)] hF hS Fol (by kernel_rfl) (by kernel_rfl) (by kernel_rfl) ?_ (fun a w hF hS => ?_)
      · exact obs_nil
      refine wp_ret ?_
      have hm : some s1 = some r := hm
      obtain rfl := Option.some.inj hm
      exact retV (rs := [.tmp 4]) (vs := [.slice A2 s1.length c2]) hF rfl (rv_t (by kernel_rfl) <| rv_nil) rfl ⟨_, rfl, A2, c2, rfl, hS⟩
    · refine reg [] [] [0, 1] [pl 0 (.slice none 0 0), pl 1 (.int .i64 (w64 (n1 - (w64 (0 - 0)))))] hF hS Fol (by kernel_rfl) (by kernel_rfl) (by kernel_rfl) ?_ (fun a w hF hS => ?_)
      · exact obs_nil
      refine reg [] [] [0, 1, 16] [pl 0 (.slice none 0 0), pl 1 (.int .i64 (w64 (n1 - (w64 (0 - 0))))), pl 16 (.bool (decide ((0 : Int) < (w64 (n1 - (w64 (0 - 0)))))))] hF hS Fol (by kernel_rfl) (by kernel_rfl) (by kernel_rfl) ?_ (fun a w hF hS => ?_)
      · exact obs_nil
      refine cond_ev (t := 16) (b := decide ((0 : Int) < (w64 (n1 - (w64 (0 - 0)))))) hF (by kernel_rfl) (fun hb => ?_) (fun hb => ?_)
      · replace hm := if_t hm hb
        refine oneR ?_
        obtain ⟨hp1, hm⟩ := asrt_b hm
        obtain ⟨hp2, hm⟩ := asrt_b hm
        refine at_run 5 [⟨true, [], vS (Instr.sliceAt 40 (.slice none 0 0) none (some (.int .i64 0)) none), .slice none 0 0⟩] [none, none, none, some (.slice none 0 0), none] [0, 20, 21] [pl 0 (.slice none 0 0), pl 20 (.slice none 0 0), pl 21 (.int .i64 (w64 (n1 - (w64 (0 - 0)))))] hF hS (by kernel_rfl) (by kernel_rfl) ?_ (fun a w hF hS => ?_)
        · exact obs_cons (ob_cut (k := .i64) (k' := .i64) (A := none) (l := ([] : List Int)) (c := 0) (lo := 0) (hi := 0) Und40 hi3 hs3 (.inr ⟨rfl, rfl⟩) (.inl rfl) (fun _ => by simp) (Nat.le_refl _)) <| obs_nil
        obtain ⟨A1, c1, w, hrun, hS⟩ := run_app01 (P := Try.prog) (t := 40) (tx := 3) (ty := 40) hS Und40 Try.underlying3 hi3 hz3 hs3 hb3 hp1
        have hS : Sep w0 B w (own 3 (.slice A1 ((List.replicate (Int.toNat (w64 (n1 - (w64 (0 - 0))))) (0 : Int)).length) c1) (vI (List.replicate (Int.toNat (w64 (n1 - (w64 (0 - 0))))) (0 : Int))) :: fs) := hS
        refine at_do (d := 22) hF (by kernel_rfl) (by kernel_rfl) hrun (fun a hF => ?_)
        refine at_run 4 [⟨true, [], vS (Instr.sliceAt 40 (.slice A1 ((List.replicate (Int.toNat (w64 (n1 - (w64 (0 - 0))))) (0 : Int)).length) c1) none (some (.int .i64 (0 : Int))) none), .slice (cutAddr A1 c1 (0 : Int)) ((cut (List.replicate (Int.toNat (w64 (n1 - (w64 (0 - 0))))) (0 : Int)) (0 : Int) (0 : Int)).length) (c1 - Int.toNat (0 : Int))⟩] [none, none, some (.slice (cutAddr A1 c1 (0 : Int)) ((cut (List.replicate (Int.toNat (w64 (n1 - (w64 (0 - 0))))) (0 : Int)) (0 : Int) (0 : Int)).length) (c1 - Int.toNat (0 : Int))), none] [0] [pl 0 (.slice (cutAddr A1 c1 (0 : Int)) ((cut (List.replicate (Int.toNat (w64 (n1 - (w64 (0 - 0))))) (0 : Int)) (0 : Int) (0 : Int)).length) (c1 - Int.toNat (0 : Int)))] hF hS (by kernel_rfl) (by kernel_rfl) ?_ (fun a w hF hS => ?_)
        · exact obs_cons (ob_cutn (l := (List.replicate (Int.toNat (w64 (n1 - (w64 (0 - 0))))) (0 : Int))) (k := .i64) (k' := .i64) Und40 hi3 hs3 rfl (.inr ⟨rfl, rfl⟩) (.inl rfl) (fun _ => hp2) ((hS.at_ 0 rfl).cap1)) <| obs_nil
        refine at_end [0] [pl 0 (.slice (cutAddr A1 c1 (0 : Int)) ((cut (List.replicate (Int.toNat (w64 (n1 - (w64 (0 - 0))))) (0 : Int)) (0 : Int) (0 : Int)).length) (c1 - Int.toNat (0 : Int)))] hF rfl (by kernel_rfl) (fun hF => ?_)
        refine then_n ?_
        have hS : Sep w0 B w (own 3 (.slice (cutAddr A1 c1 (0 : Int)) ((cut (List.replicate (Int.toNat (w64 (n1 - (w64 (0 - 0))))) (0 : Int)) (0 : Int) (0 : Int)).length) (c1 - Int.toNat (0 : Int))) (vI (cut (List.replicate (Int.toNat (w64 (n1 - (w64 (0 - 0))))) (0 : Int)) (0 : Int) (0 : Int))) :: fs) := (hS.at_ 0 rfl).prefixN rfl hp2
        exact ⟨(cut (List.replicate (Int.toNat (w64 (n1 - (w64 (0 - 0))))) (0 : Int)) (0 : Int) (0 : Int)), (cutAddr A1 c1 (0 : Int)), (c1 - Int.toNat (0 : Int)), hF.weak [0] (by kernel_rfl), hS, hm⟩
      · replace hm := if_f hm hb
        refine wp_skip ?_
        refine then_n ?_
        have hS : Sep w0 B w (own 3 (.slice none 0 0) (vI ([] : List Int)) :: fs) := hS.nil 3
        have hl1 := (hS.at_ 0 rfl).len1
        have hS := (hS.at_ 0 rfl).reN hl1
        have hS : Sep w0 B w (own 3 (.slice none (([] : List Int).length) 0) (vI ([] : List Int)) :: fs) := hS
        have hF := hF.cast (t := 0) (v := .slice none 0 0) (v' := .slice none (([] : List Int).length) 0) rfl rfl (congrArg (fun k => Value.slice none k 0) hl1)
        exact ⟨([] : List Int), none, 0, hF.weak [0] (by kernel_rfl), hS, hm⟩
  · refine reg [] [] [0, 1, 6] [pl 0 (.slice none 0 0), pl 1 (.int .i64 n1), pl 6 (.bool (decide (n1 < 0)))] hF hS Fol (by kernel_rfl) (by kernel_rfl) (by kernel_rfl) ?_ (fun a w hF hS => ?_)
    · exact obs_nil
    refine cond_ev (t := 6) (b := decide (n1 < 0)) hF (by kernel_rfl) (fun hb => ?_) (fun hb => ?_)
    · replace hm := if_t hm hb
      simp at hm
    · replace hm := if_f hm hb
      refine wp_skip ?_
      refine then_n ?_
      exact ⟨hF.weak [0, 1] (by kernel_rfl), hS, hm⟩

noncomputable def slices_Concat_J3 (slices1 : List (List Int)) (size1 : Int) (z1 : Int) : Option (St (Int × Int) Int) :=
  some (.next ((w64 (size1 + (((geti2 slices1 z1).length : Nat) : Int))), (w64 (z1 + 1))))

noncomputable def slices_Concat_J2 (slices1 : List (List Int)) (size1 : Int) (z1 : Int) : Option (St (Int × Int) Int) :=
  asrt (0 ≤ z1 ∧ z1 < (slices1.length : Int)) <| if (decide ((w64 (size1 + (((geti2 slices1 z1).length : Nat) : Int))) < 0)) then none else ((slices_Concat_J3 slices1 size1 z1))

noncomputable def slices_Concat_J6 (z2 : Int) (newslice3 : List Int) : Option (St (List Int × Int) (List Int)) :=
  some (.next (newslice3, (w64 (z2 + 1))))

noncomputable def slices_Concat_J5 (slices1 : List (List Int)) (newslice1 : List Int) (z2 : Int) : Option (St (List Int × Int) (List Int)) :=
  asrt (0 ≤ z2 ∧ z2 < (slices1.length : Int)) <| asrt ((newslice1.length : Int) + (((geti2 slices1 z2).length : Nat) : Int) ≤ bigN) <| (slices_Concat_J6 z2) (newslice1 ++ (geti2 slices1 z2))

noncomputable def slices_Concat_L2 (slices1 : List (List Int)) : (List Int × Int) → Option (St (List Int × Int) (List Int)) :=
  fun (x : (List Int × Int)) => match x with | (newslice1, z2) => if (decide (z2 < (slices1.length : Int))) then ((slices_Concat_J5 slices1 newslice1 z2)) else (some (.done newslice1))

noncomputable def slices_Concat_J4 (newslice2 : List Int) : Option (List Int) :=
  some newslice2

noncomputable def slices_Concat_K2 : (List Int) → Option (List Int) :=
  fun (x : (List Int)) => match x with | newslice2 => slices_Concat_J4 newslice2

noncomputable def slices_Concat_J1 (slices1 : List (List Int)) (size2 : Int) : Option (List Int) :=
  (slices_Grow_m size2).bind fun r1 => (loop (slices_Concat_L2 slices1) (r1, 0)).bind slices_Concat_K2

noncomputable def slices_Concat_K1 (slices1 : List (List Int)) : Int → Option (List Int) :=
  fun (x : Int) => match x with | size2 => (slices_Concat_J1 slices1) size2

noncomputable def slices_Concat_L1 (slices1 : List (List Int)) : (Int × Int) → Option (St (Int × Int) Int) :=
  fun (x : (Int × Int)) => match x with | (size1, z1) => if (decide (z1 < (slices1.length : Int))) then ((slices_Concat_J2 slices1 size1 z1)) else (some (.done size1))

noncomputable def slices_Concat_m (slices1 : List (List Int)) : Option (List Int) :=
  (loop (slices_Concat_L1 slices1) (0, 0)).bind (slices_Concat_K1 slices1)

set_option maxRecDepth 100000 in
set_option maxHeartbeats 4000000 in
theorem slices_Concat_w {A1 : Option Addr} {c1 : Nat} {n1 : Nat} {hd1 : List Hd} {slices1 : List (List Int)} {r : (List Int)} {w0 w : World} {B : Nat} {fs : List HP} (hm : slices_Concat_m slices1 = some r) (hS : Sep w0 B w (fs)) (hr_slices1 : RdRowsF w0 B fs A1 hd1 slices1) (_hc_slices1 : slices1.length ≤ c1) (_hn_slices1 : n1 = slices1.length) :
    Calls Try.prog 104 #[.slice A1 n1 c1] w fun e w' => ∃ v, e = .returned v ∧ ∃ (A7 : Option Addr) (c7 : Nat), v = .slice A7 r.length c7 ∧ Sep w0 B w' (own 3 (.slice A7 r.length c7) (vI r) :: fs) := by
  obtain ⟨i3, hi3, hz3, hs3, hb3⟩ := info_parts Info3
  obtain ⟨i40, hi40, hz40, hs40, hb40⟩ := info_parts Info40
  obtain rfl := _hn_slices1
  unfold slices_Concat_m at hm
  replace hm := start_b hm
  refine enter (l := [.slice A1 slices1.length c1]) (n := 36) Try.func104 rfl rfl (by simp) (fun a hF => ?_)
  refine reg [] [] [0] [pl 0 (.slice A1 slices1.length c1)] hF hS Fol (by kernel_rfl) (by kernel_rfl) (by kernel_rfl) ?_ (fun a w hF hS => ?_)
  · exact obs_nil
  refine reg [] [] [0, 3] [pl 0 (.slice A1 slices1.length c1), pl 3 (.int .i64 0)] hF hS Fol (by kernel_rfl) (by kernel_rfl) (by kernel_rfl) ?_ (fun a w hF hS => ?_)
  · exact obs_nil
  refine seq_cut (fun a w => ∃ (size2 : Int), Fr 36 [pl 0 (.slice A1 slices1.length c1), pl 3 (.int .i64 size2)] a ∧ Sep w0 B w (fs) ∧ ((slices_Concat_J1 slices1) size2).bind some = some r) ?_ ?_
  · rintro a w ⟨size2, hF, hS, hm⟩
    unfold slices_Concat_J1 at hm
    refine seqR ?_
    obtain ⟨r1, hr1, hm⟩ := call_b hm
    refine at_run 1 [] [] [0, 23] [pl 0 (.slice A1 slices1.length c1), pl 23 (.int .i64 size2)] hF hS (by kernel_rfl) (by kernel_rfl) ?_ (fun a w hF hS => ?_)
    · exact obs_nil
    refine at_call (f := 141) (args := #[.slice none 0 0, .int .i64 size2]) (d := 24) hF (by kernel_rfl) (by kernel_rfl) Try.func141 (by kernel_rfl) rfl (slices_Grow_w hr1 hS ) (fun v a w hR hF => ?_)
    clear hS
    obtain ⟨A2, c2, rfl, hS⟩ := hR
    have hS : Sep w0 B w (own 3 (.slice A2 r1.length c2) (vI r1) :: fs) := hS
    refine at_run 1 [] [] [0, 6] [pl 0 (.slice A1 slices1.length c1), pl 6 (.slice A2 r1.length c2)] hF hS (by kernel_rfl) (by kernel_rfl) ?_ (fun a w hF hS => ?_)
    · exact obs_nil
    refine at_end [0, 6] [pl 0 (.slice A1 slices1.length c1), pl 6 (.slice A2 r1.length c2)] hF rfl (by kernel_rfl) (fun hF => ?_)
    refine then_n ?_
    refine seq_cut (fun a w => ∃ (newslice2 : List Int) (A4 : Option Addr) (c4 : Nat), Fr 36 [pl 6 (.slice A4 newslice2.length c4)] a ∧ Sep w0 B w (own 3 (.slice A4 newslice2.length c4) (vI newslice2) :: fs) ∧ (slices_Concat_J4 newslice2).bind some = some r) ?_ ?_
    · rintro a w ⟨newslice2, A4, c4, hF, hS, hm⟩
      unfold slices_Concat_J4 at hm
      refine reg [] [] [2] [pl 2 (.slice A4 newslice2.length c4)] hF hS Fol (by kernel_rfl) (by kernel_rfl) (by kernel_rfl) ?_ (fun a w hF hS => ?_)
      · exact obs_nil
      refine wp_ret ?_
      have hm : some newslice2 = some r := hm
      obtain rfl := Option.some.inj hm
      exact retV (rs := [.tmp 2]) (vs := [.slice A4 newslice2.length c4]) hF rfl (rv_t (by kernel_rfl) <| rv_nil) rfl ⟨_, rfl, A4, c4, rfl, hS⟩
    · refine reg [] [] [6, 25, 26, 27] [pl 6 (.slice A2 r1.length c2), pl 25 (.slice A1 slices1.length c1), pl 26 (.int .i64 (slices1.length : Int)), pl 27 (.int .i64 0)] hF hS Fol (by kernel_rfl) (by kernel_rfl) (by kernel_rfl) ?_ (fun a w hF hS => ?_)
      · exact obs_nil
      refine wp_block ?_
      refine wp_loop_model (S := (List Int × Int)) (R := (List Int)) (slices_Concat_L2 slices1) (fun x => (slices_Concat_K2 x).bind some) r (fun (x : (List Int × Int)) a w => ∃ (A3 : Option Addr) (c3 : Nat), Fr 36 [pl 6 (.slice A3 x.1.length c3), pl 25 (.slice A1 slices1.length c1), pl 26 (.int .i64 (slices1.length : Int)), pl 27 (.int .i64 x.2)] a ∧ Sep w0 B w (own 3 (.slice A3 x.1.length c3) (vI x.1) :: fs)) (assoc_b hm) ⟨A2, c2, hF.weak [6, 25, 26, 27] (by kernel_rfl), hS⟩ ?_
      clear hF hS hm
      rintro nn2 ⟨newslice1, z2⟩ a w ⟨A3, c3, hF, hS⟩ hm
      generalize hφ2 : stK (slices_Concat_L2 slices1) nn2 (fun x => (slices_Concat_K2 x).bind some) = φ2 at hm
      unfold slices_Concat_L2 at hm
      dsimp only at hF hS hm
      refine reg [] [] [6, 25, 26, 27, 28] [pl 6 (.slice A3 newslice1.length c3), pl 25 (.slice A1 slices1.length c1), pl 26 (.int .i64 (slices1.length : Int)), pl 27 (.int .i64 z2), pl 28 (.bool (decide (z2 < (slices1.length : Int))))] hF hS Fol (by kernel_rfl) (by kernel_rfl) (by kernel_rfl) ?_ (fun a w hF hS => ?_)
      · exact obs_nil
      refine seq_cut (fun a w => Fr 36 [pl 6 (.slice A3 newslice1.length c3), pl 25 (.slice A1 slices1.length c1), pl 26 (.int .i64 (slices1.length : Int)), pl 27 (.int .i64 z2)] a ∧ Sep w0 B w (own 3 (.slice A3 newslice1.length c3) (vI newslice1) :: fs) ∧ ((slices_Concat_J5 slices1 newslice1 z2)).bind φ2 = some r) ?_ ?_
      · rintro a w ⟨hF, hS, hm⟩
        unfold slices_Concat_J5 at hm
        refine seq_cut (fun a w => ∃ (newslice3 : List Int) (A6 : Option Addr) (c6 : Nat), Fr 36 [pl 6 (.slice A6 newslice3.length c6), pl 25 (.slice A1 slices1.length c1), pl 26 (.int .i64 (slices1.length : Int)), pl 27 (.int .i64 z2)] a ∧ Sep w0 B w (own 3 (.slice A6 newslice3.length c6) (vI newslice3) :: fs) ∧ ((slices_Concat_J6 z2) newslice3).bind φ2 = some r) ?_ ?_
        · rintro a w ⟨newslice3, A6, c6, hF, hS, hm⟩
          unfold slices_Concat_J6 at hm
          refine reg1 [] [] [6, 25, 26, 27] [pl 6 (.slice A6 newslice3.length c6), pl 25 (.slice A1 slices1.length c1), pl 26 (.int .i64 (slices1.length : Int)), pl 27 (.int .i64 (w64 (z2 + 1)))] hF hS Fol (by kernel_rfl) (by kernel_rfl) (by kernel_rfl) ?_ (fun a w hF hS => ?_)
          · exact obs_nil
          refine then_n ?_
          rw [← hφ2] at hm
          exact ⟨(newslice3, (w64 (z2 + 1))), ⟨A6, c6, hF.weak [6, 25, 26, 27] (by kernel_rfl), hS⟩, hm⟩
        · refine wp_block ?_
          obtain ⟨hp2, hm⟩ := asrt_b hm
          refine reg [⟨true, [], vS (Instr.indexAt 125 (.slice A1 slices1.length c1) (.int .i64 z2)), .pointer (some (sAddr A1 z2))⟩, ⟨false, [], vS (Instr.loadAt 40 (.pointer (some (sAddr A1 z2)))), .slice (hdA hd1 z2) ((geti2 slices1 z2).length) (hdC hd1 z2)⟩] [some (.pointer (some (sAddr A1 z2))), some (.slice (hdA hd1 z2) ((geti2 slices1 z2).length) (hdC hd1 z2)), none] [6, 8, 25, 26, 27] [pl 6 (.slice A3 newslice1.length c3), pl 8 (.slice (hdA hd1 z2) ((geti2 slices1 z2).length) (hdC hd1 z2)), pl 25 (.slice A1 slices1.length c1), pl 26 (.int .i64 (slices1.length : Int)), pl 27 (.int .i64 z2)] hF hS Fol (by kernel_rfl) (by kernel_rfl) (by kernel_rfl) ?_ (fun a w hF hS => ?_)
          · exact obs_cons (ob_ixRn Und125 hi40 hs40 (hr_slices1 _ (hS.dropN 1)) rfl (fun _ => hp2)) <| obs_cons (ob_getR Agg40 (fun _ hS => ⟨_, (hr_slices1 _ (hS.dropN 1))⟩) (fun _ => hp2)) <| obs_nil
          refine oneR ?_
          obtain ⟨hp3, hm⟩ := asrt_b hm
          refine at_run 2 [] [] [25, 26, 27, 31, 32] [pl 25 (.slice A1 slices1.length c1), pl 26 (.int .i64 (slices1.length : Int)), pl 27 (.int .i64 z2), pl 31 (.slice A3 newslice1.length c3), pl 32 (.slice (hdA hd1 z2) ((geti2 slices1 z2).length) (hdC hd1 z2))] hF hS (by kernel_rfl) (by kernel_rfl) ?_ (fun a w hF hS => ?_)
          · exact obs_nil
          obtain ⟨A5, c5, w, hrun, hS⟩ := run_app1 (P := Try.prog) (t := 40) (m := newslice1) (ys := (geti2 slices1 z2)) (A2 := (hdA hd1 z2)) (m2 := (geti2 slices1 z2).length) (c2 := (hdC hd1 z2)) (Value.int .i64) (0 : Int) (hS.at_ 0 rfl) ((hr_slices1 _ (hS.dropN 1)).row _ hp2).1 rfl 40 Und40 hi3 hz3 hs3 (by omega) rfl (fun _ => rfl) hp3
          have hS : Sep w0 B w (own 3 (.slice A5 ((newslice1 ++ (geti2 slices1 z2)).length) c5) (vI (newslice1 ++ (geti2 slices1 z2))) :: fs) := hS
          refine at_do (d := 33) hF (by kernel_rfl) (by kernel_rfl) hrun (fun a hF => ?_)
          refine at_run 1 [] [] [6, 25, 26, 27] [pl 6 (.slice A5 ((newslice1 ++ (geti2 slices1 z2)).length) c5), pl 25 (.slice A1 slices1.length c1), pl 26 (.int .i64 (slices1.length : Int)), pl 27 (.int .i64 z2)] hF hS (by kernel_rfl) (by kernel_rfl) ?_ (fun a w hF hS => ?_)
          · exact obs_nil
          refine at_end [6, 25, 26, 27] [pl 6 (.slice A5 ((newslice1 ++ (geti2 slices1 z2)).length) c5), pl 25 (.slice A1 slices1.length c1), pl 26 (.int .i64 (slices1.length : Int)), pl 27 (.int .i64 z2)] hF rfl (by kernel_rfl) (fun hF => ?_)
          refine block_n ?_
          refine then_n ?_
          exact ⟨(newslice1 ++ (geti2 slices1 z2)), A5, c5, hF.weak [6, 25, 26, 27] (by kernel_rfl), hS, hm⟩
      · refine cond_ev (t := 28) (b := decide (z2 < (slices1.length : Int))) hF (by kernel_rfl) (fun hb => ?_) (fun hb => ?_)
        · replace hm := if_t hm hb
          refine wp_skip ?_
          refine then_n ?_
          exact ⟨hF.weak [6, 25, 26, 27] (by kernel_rfl), hS, hm⟩
        · replace hm := if_f hm hb
          refine wp_exit ?_
          refine then_e (then_e (block_e (then_n ?_)))
          rw [← hφ2] at hm
          replace hm := done_b hm
          unfold slices_Concat_K2 at hm
          try dsimp only at hm
          have hm : (slices_Concat_J4 newslice1).bind some = some r := hm
          exact ⟨newslice1, A3, c3, hF.weak [6] (by kernel_rfl), hS, hm⟩
  · refine reg [] [] [0, 3, 9, 10, 11] [pl 0 (.slice A1 slices1.length c1), pl 3 (.int .i64 0), pl 9 (.slice A1 slices1.length c1), pl 10 (.int .i64 (slices1.length : Int)), pl 11 (.int .i64 0)] hF hS Fol (by kernel_rfl) (by kernel_rfl) (by kernel_rfl) ?_ (fun a w hF hS => ?_)
    · exact obs_nil
    refine wp_block ?_
    refine wp_loop_model (S := (Int × Int)) (R := Int) (slices_Concat_L1 slices1) (fun x => ((slices_Concat_K1 slices1) x).bind some) r (fun (x : (Int × Int)) a w => Fr 36 [pl 0 (.slice A1 slices1.length c1), pl 3 (.int .i64 x.1), pl 9 (.slice A1 slices1.length c1), pl 10 (.int .i64 (slices1.length : Int)), pl 11 (.int .i64 x.2)] a ∧ Sep w0 B w (fs)) (assoc_b hm) ⟨hF.weak [0, 3, 9, 10, 11] (by kernel_rfl), hS⟩ ?_
    clear hF hS hm
    rintro nn1 ⟨size1, z1⟩ a w ⟨hF, hS⟩ hm
    generalize hφ1 : stK (slices_Concat_L1 slices1) nn1 (fun x => ((slices_Concat_K1 slices1) x).bind some) = φ1 at hm
    unfold slices_Concat_L1 at hm
    dsimp only at hF hS hm
    refine reg [] [] [0, 3, 9, 10, 11, 12] [pl 0 (.slice A1 slices1.length c1), pl 3 (.int .i64 size1), pl 9 (.slice A1 slices1.length c1), pl 10 (.int .i64 (slices1.length : Int)), pl 11 (.int .i64 z1), pl 12 (.bool (decide (z1 < (slices1.length : Int))))] hF hS Fol (by kernel_rfl) (by kernel_rfl) (by kernel_rfl) ?_ (fun a w hF hS => ?_)
    · exact obs_nil
    refine seq_cut (fun a w => Fr 36 [pl 0 (.slice A1 slices1.length c1), pl 3 (.int .i64 size1), pl 9 (.slice A1 slices1.length c1), pl 10 (.int .i64 (slices1.length : Int)), pl 11 (.int .i64 z1)] a ∧ Sep w0 B w (fs) ∧ ((slices_Concat_J2 slices1 size1 z1)).bind φ1 = some r) ?_ ?_
    · rintro a w ⟨hF, hS, hm⟩
      unfold slices_Concat_J2 at hm
      refine seq_cut (fun a w => Fr 36 [pl 0 (.slice A1 slices1.length c1), pl 3 (.int .i64 (w64 (size1 + (((geti2 slices1 z1).length : Nat) : Int)))), pl 9 (.slice A1 slices1.length c1), pl 10 (.int .i64 (slices1.length : Int)), pl 11 (.int .i64 z1)] a ∧ Sep w0 B w (fs) ∧ ((slices_Concat_J3 slices1 size1 z1)).bind φ1 = some r) ?_ ?_
      · rintro a w ⟨hF, hS, hm⟩
        unfold slices_Concat_J3 at hm
        refine reg1 [] [] [0, 3, 9, 10, 11] [pl 0 (.slice A1 slices1.length c1), pl 3 (.int .i64 (w64 (size1 + (((geti2 slices1 z1).length : Nat) : Int)))), pl 9 (.slice A1 slices1.length c1), pl 10 (.int .i64 (slices1.length : Int)), pl 11 (.int .i64 (w64 (z1 + 1)))] hF hS Fol (by kernel_rfl) (by kernel_rfl) (by kernel_rfl) ?_ (fun a w hF hS => ?_)
        · exact obs_nil
        refine then_n ?_
        rw [← hφ1] at hm
        exact ⟨((w64 (size1 + (((geti2 slices1 z1).length : Nat) : Int))), (w64 (z1 + 1))), ⟨hF.weak [0, 3, 9, 10, 11] (by kernel_rfl), hS⟩, hm⟩
      · refine wp_block ?_
        obtain ⟨hp1, hm⟩ := asrt_b hm
        refine reg [⟨true, [], vS (Instr.indexAt 125 (.slice A1 slices1.length c1) (.int .i64 z1)), .pointer (some (sAddr A1 z1))⟩, ⟨false, [], vS (Instr.loadAt 40 (.pointer (some (sAddr A1 z1)))), .slice (hdA hd1 z1) ((geti2 slices1 z1).length) (hdC hd1 z1)⟩] [some (.pointer (some (sAddr A1 z1))), some (.slice (hdA hd1 z1) ((geti2 slices1 z1).length) (hdC hd1 z1)), none] [0, 3, 5, 9, 10, 11] [pl 0 (.slice A1 slices1.length c1), pl 3 (.int .i64 size1), pl 5 (.slice (hdA hd1 z1) ((geti2 slices1 z1).length) (hdC hd1 z1)), pl 9 (.slice A1 slices1.length c1), pl 10 (.int .i64 (slices1.length : Int)), pl 11 (.int .i64 z1)] hF hS Fol (by kernel_rfl) (by kernel_rfl) (by kernel_rfl) ?_ (fun a w hF hS => ?_)
        · exact obs_cons (ob_ixRn Und125 hi40 hs40 (hr_slices1 _ (hS.dropN 0)) rfl (fun _ => hp1)) <| obs_cons (ob_getR Agg40 (fun _ hS => ⟨_, (hr_slices1 _ (hS.dropN 0))⟩) (fun _ => hp1)) <| obs_nil
        refine reg [] [] [0, 3, 9, 10, 11] [pl 0 (.slice A1 slices1.length c1), pl 3 (.int .i64 (w64 (size1 + (((geti2 slices1 z1).length : Nat) : Int)))), pl 9 (.slice A1 slices1.length c1), pl 10 (.int .i64 (slices1.length : Int)), pl 11 (.int .i64 z1)] hF hS Fol (by kernel_rfl) (by kernel_rfl) (by kernel_rfl) ?_ (fun a w hF hS => ?_)
        · exact obs_nil
        refine reg [] [] [0, 3, 9, 10, 11, 20] [pl 0 (.slice A1 slices1.length c1), pl 3 (.int .i64 (w64 (size1 + (((geti2 slices1 z1).length : Nat) : Int)))), pl 9 (.slice A1 slices1.length c1), pl 10 (.int .i64 (slices1.length : Int)), pl 11 (.int .i64 z1), pl 20 (.bool (decide ((w64 (size1 + (((geti2 slices1 z1).length : Nat) : Int))) < 0)))] hF hS Fol (by kernel_rfl) (by kernel_rfl) (by kernel_rfl) ?_ (fun a w hF hS => ?_)
        · exact obs_nil
        refine cond_ev (t := 20) (b := decide ((w64 (size1 + (((geti2 slices1 z1).length : Nat) : Int))) < 0)) hF (by kernel_rfl) (fun hb => ?_) (fun hb => ?_)
        · replace hm := if_t hm hb
          simp at hm
        · replace hm := if_f hm hb
          refine wp_skip ?_
          refine block_n ?_
          refine then_n ?_
          exact ⟨hF.weak [0, 3, 9, 10, 11] (by kernel_rfl), hS, hm⟩
    · refine cond_ev (t := 12) (b := decide (z1 < (slices1.length : Int))) hF (by kernel_rfl) (fun hb => ?_) (fun hb => ?_)
      · replace hm := if_t hm hb
        refine wp_skip ?_
        refine then_n ?_
        exact ⟨hF.weak [0, 3, 9, 10, 11] (by kernel_rfl), hS, hm⟩
      · replace hm := if_f hm hb
        refine wp_exit ?_
        refine then_e (then_e (block_e (then_n ?_)))
        rw [← hφ1] at hm
        replace hm := done_b hm
        unfold slices_Concat_K1 at hm
        try dsimp only at hm
        have hm : ((slices_Concat_J1 slices1) size1).bind some = some r := hm
        exact ⟨size1, hF.weak [0, 3] (by kernel_rfl), hS, hm⟩

noncomputable def mancala_New_J1 (pits1 : Int) (seeds1 : Int) : Option (List Int × Int × Int) :=
  (slices_Repeat_m ([seeds1] : List Int) pits1).bind fun r1 => asrt ((r1.length : Int) + 1 ≤ bigN) <| (slices_Concat_m ([(r1 ++ ([0] : List Int)), (r1 ++ ([0] : List Int))] : List (List Int))).bind fun r2 => some (r2, 0, 0)

noncomputable def mancala_New_m (pits1 : Int) (seeds1 : Int) : Option (List Int × Int × Int) :=
  if ((((decide (pits1 < 1)) || (decide ((6 : Int) < pits1))) || (decide (seeds1 < 0))) || (decide ((10 : Int) < seeds1))) then (some (([] : List Int), 0, 3)) else ((mancala_New_J1 pits1 seeds1))

set_option maxRecDepth 100000 in
set_option maxHeartbeats 4000000 in
theorem mancala_New_w {pits1 : Int} {seeds1 : Int} {r : (List Int × Int × Int)} {w0 w : World} {B : Nat} {fs : List HP} (hm : mancala_New_m pits1 seeds1 = some r) (hS : Sep w0 B w (fs)) :
    Calls Try.prog 47 #[.int .i64 pits1, .int .i64 seeds1] w fun e w' => ∃ v, e = .returned v ∧ ∃ (A4 : Option Addr) (c4 : Nat), v = .tuple #[.agg #[.slice A4 r.1.length c4, .int .i64 r.2.1], .int .i64 r.2.2] ∧ Sep w0 B w' (own 3 (.slice A4 r.1.length c4) (vI r.1) :: fs) := by
  obtain ⟨i3, hi3, hz3, hs3, hb3⟩ := info_parts Info3
  obtain ⟨i40, hi40, hz40, hs40, hb40⟩ := info_parts Info40
  unfold mancala_New_m at hm
  replace hm := start_b hm
  refine enter (l := [.int .i64 pits1, .int .i64 seeds1]) (n := 33) Try.func47 rfl rfl (by simp) (fun a hF => ?_)
  refine seqR ?_
  refine at_do (d := 4) (s := vS (Instr.alloc 71 true (.tuple #[]))) (v := .pointer (some ⟨w.heap.size, 0, none⟩)) (w' := w.alloc (.cells #[.slice none 0 0, .int .i64 0] 71)) hF (by kernel_rfl) (by kernel_rfl) (by kernel_rfl) (fun a hF => ?_)
  have hS : Sep w0 B (w.alloc (.cells #[.slice none 0 0, .int .i64 0] 71)) (blk w.heap.size 71 #[.slice none 0 0, .int .i64 0] :: (fs)) := hS.box 71 #[.slice none 0 0, .int .i64 0]
  generalize w.heap.size = g1 at hF hS
  generalize w.alloc (.cells #[.slice none 0 0, .int .i64 0] 71) = w at hS ⊢
  refine at_run 1 [] [] [0, 1, 4] [pl 0 (.int .i64 pits1), pl 1 (.int .i64 seeds1), pl 4 (.pointer (some ⟨g1, 0, none⟩))] hF hS (by kernel_rfl) (by kernel_rfl) ?_ (fun a w hF hS => ?_)
  · exact obs_nil
  refine at_end [0, 1, 4] [pl 0 (.int .i64 pits1), pl 1 (.int .i64 seeds1), pl 4 (.pointer (some ⟨g1, 0, none⟩))] hF rfl (by kernel_rfl) (fun hF => ?_)
  refine then_n ?_
  refine seq_cut (fun a w => Fr 33 [pl 0 (.int .i64 pits1), pl 1 (.int .i64 seeds1), pl 4 (.pointer (some ⟨g1, 0, none⟩))] a ∧ Sep w0 B w (blk g1 71 #[.slice none 0 0, .int .i64 0] :: fs) ∧ ((mancala_New_J1 pits1 seeds1)).bind some = some r) ?_ ?_
  · rintro a w ⟨hF, hS, hm⟩
    unfold mancala_New_J1 at hm
    refine seqR ?_
    obtain ⟨r1, hr1, hm⟩ := call_b hm
    obtain ⟨hp1, hm⟩ := asrt_b hm
    refine at_run 1 [] [] [0, 4, 22] [pl 0 (.int .i64 pits1), pl 4 (.pointer (some ⟨g1, 0, none⟩)), pl 22 (.int .i64 seeds1)] hF hS (by kernel_rfl) (by kernel_rfl) ?_ (fun a w hF hS => ?_)
    · exact obs_nil
    refine at_do (d := 23) (s := vS (Instr.buildSlice 40 1 #[(0, .int .i64 seeds1)])) (v := .slice (some ⟨w.heap.size, 0, none⟩) 1 1) (w' := w.alloc (.cells #[.int .i64 seeds1] 3)) hF (by kernel_rfl) (by kernel_rfl) (by kernel_rfl) (fun a hF => ?_)
    have hS : Sep w0 B (w.alloc (.cells #[.int .i64 seeds1] 3)) (own 3 (.slice (some (⟨w.heap.size, 0, none⟩ : Addr)) 1 1) (vI ([seeds1] : List Int)) :: (blk g1 71 #[.slice none 0 0, .int .i64 0] :: fs)) := hS.lit 3 #[.int .i64 seeds1] 1 rfl (by omega)
    generalize (some (⟨w.heap.size, 0, none⟩ : Addr)) = g2 at hF hS
    generalize w.alloc (.cells #[.int .i64 seeds1] 3) = w at hS ⊢
    refine at_run 1 [] [] [4, 23, 24] [pl 4 (.pointer (some ⟨g1, 0, none⟩)), pl 23 (.slice g2 1 1), pl 24 (.int .i64 pits1)] hF hS (by kernel_rfl) (by kernel_rfl) ?_ (fun a w hF hS => ?_)
    · exact obs_nil
    refine at_call (f := 103) (args := #[.slice g2 1 1, .int .i64 pits1]) (d := 25) hF (by kernel_rfl) (by kernel_rfl) Try.func103 (by kernel_rfl) rfl (slices_Repeat_w hr1 hS (fun _ hS => (hS.at_ 0 rfl).rd) ((hS.at_ 0 rfl).cap1) ((hS.at_ 0 rfl).len1)) (fun v a w hR hF => ?_)
    clear hS
    obtain ⟨A1, c1, rfl, hS⟩ := hR
    have hS : Sep w0 B w (own 3 (.slice A1 r1.length c1) (vI r1) :: own 3 (.slice g2 1 1) (vI ([seeds1] : List Int)) :: blk g1 71 #[.slice none 0 0, .int .i64 0] :: fs) := hS
    refine at_do (d := 26) (s := vS (Instr.buildSlice 40 1 #[(0, .int .i64 0)])) (v := .slice (some ⟨w.heap.size, 0, none⟩) 1 1) (w' := w.alloc (.cells #[.int .i64 0] 3)) hF (by kernel_rfl) (by kernel_rfl) (by kernel_rfl) (fun a hF => ?_)
    have hS : Sep w0 B (w.alloc (.cells #[.int .i64 0] 3)) (own 3 (.slice (some (⟨w.heap.size, 0, none⟩ : Addr)) 1 1) (vI ([0] : List Int)) :: (own 3 (.slice A1 r1.length c1) (vI r1) :: own 3 (.slice g2 1 1) (vI ([seeds1] : List Int)) :: blk g1 71 #[.slice none 0 0, .int .i64 0] :: fs)) := hS.lit 3 #[.int .i64 0] 1 rfl (by omega)
    generalize (some (⟨w.heap.size, 0, none⟩ : Addr)) = g3 at hF hS
    generalize w.alloc (.cells #[.int .i64 0] 3) = w at hS ⊢
    obtain ⟨A2, c2, w, hrun, hS⟩ := run_app1 (P := Try.prog) (t := 40) (m := r1) (ys := ([0] : List Int)) (A2 := g3) (m2 := 1) (c2 := 1) (Value.int .i64) (0 : Int) (hS.at_ 1 rfl) (hS.at_ 0 rfl).rd ((hS.at_ 0 rfl).len1) 40 Und40 hi3 hz3 hs3 (by omega) rfl (fun _ => rfl) hp1
    have hS : Sep w0 B w (own 3 (.slice g3 1 1) (vI ([0] : List Int)) :: own 3 (.slice A2 ((r1 ++ ([0] : List Int)).length) c2) (vI (r1 ++ ([0] : List Int))) :: own 3 (.slice g2 1 1) (vI ([seeds1] : List Int)) :: blk g1 71 #[.slice none 0 0, .int .i64 0] :: fs) := hS
    refine at_do (d := 27) hF (by kernel_rfl) (by kernel_rfl) hrun (fun a hF => ?_)
    refine at_run 1 [] [] [4, 6] [pl 4 (.pointer (some ⟨g1, 0, none⟩)), pl 6 (.slice A2 ((r1 ++ ([0] : List Int)).length) c2)] hF hS (by kernel_rfl) (by kernel_rfl) ?_ (fun a w hF hS => ?_)
    · exact obs_nil
    refine at_end [4, 6] [pl 4 (.pointer (some ⟨g1, 0, none⟩)), pl 6 (.slice A2 ((r1 ++ ([0] : List Int)).length) c2)] hF rfl (by kernel_rfl) (fun hF => ?_)
    refine then_n ?_
    refine seqR ?_
    obtain ⟨r2, hr2, hm⟩ := call_b hm
    refine at_run 2 [] [] [4, 28, 29] [pl 4 (.pointer (some ⟨g1, 0, none⟩)), pl 28 (.slice A2 ((r1 ++ ([0] : List Int)).length) c2), pl 29 (.slice A2 ((r1 ++ ([0] : List Int)).length) c2)] hF hS (by kernel_rfl) (by kernel_rfl) ?_ (fun a w hF hS => ?_)
    · exact obs_nil
    refine at_do (d := 30) (s := vS (Instr.buildSlice 125 2 #[(0, .slice A2 ((r1 ++ ([0] : List Int)).length) c2), (1, .slice A2 ((r1 ++ ([0] : List Int)).length) c2)])) (v := .slice (some ⟨w.heap.size, 0, none⟩) 2 2) (w' := w.alloc (.cells #[.slice A2 ((r1 ++ ([0] : List Int)).length) c2, .slice A2 ((r1 ++ ([0] : List Int)).length) c2] 40)) hF (by kernel_rfl) (by kernel_rfl) (by kernel_rfl) (fun a hF => ?_)
    have hS : Sep w0 B (w.alloc (.cells #[.slice A2 ((r1 ++ ([0] : List Int)).length) c2, .slice A2 ((r1 ++ ([0] : List Int)).length) c2] 40)) (own 40 (.slice (some (⟨w.heap.size, 0, none⟩ : Addr)) 2 2) [.slice A2 ((r1 ++ ([0] : List Int)).length) c2, .slice A2 ((r1 ++ ([0] : List Int)).length) c2] :: (own 3 (.slice g3 1 1) (vI ([0] : List Int)) :: own 3 (.slice A2 ((r1 ++ ([0] : List Int)).length) c2) (vI (r1 ++ ([0] : List Int))) :: own 3 (.slice g2 1 1) (vI ([seeds1] : List Int)) :: blk g1 71 #[.slice none 0 0, .int .i64 0] :: fs)) := hS.lit 40 #[.slice A2 ((r1 ++ ([0] : List Int)).length) c2, .slice A2 ((r1 ++ ([0] : List Int)).length) c2] 2 rfl (by omega)
    generalize (some (⟨w.heap.size, 0, none⟩ : Addr)) = g4 at hF hS
    generalize w.alloc (.cells #[.slice A2 ((r1 ++ ([0] : List Int)).length) c2, .slice A2 ((r1 ++ ([0] : List Int)).length) c2] 40) = w at hS ⊢
    refine at_call (f := 104) (args := #[.slice g4 2 2]) (d := 31) hF (by kernel_rfl) (by kernel_rfl) Try.func104 (by kernel_rfl) rfl (slices_Concat_w hr2 hS (fun _ hS => (rdLit (hd := ([(A2, c2), (A2, c2)] : List Hd)) (m := ([(r1 ++ ([0] : List Int)), (r1 ++ ([0] : List Int))] : List (List Int))) hS 0 rfl ⟨⟨(hS.at_ 2 rfl).rd, ((hS.at_ 2 rfl).cap1)⟩, ⟨(hS.at_ 2 rfl).rd, ((hS.at_ 2 rfl).cap1)⟩, trivial⟩)) (Nat.le_refl _) rfl) (fun v a w hR hF => ?_)
    clear hS
    obtain ⟨A3, c3, rfl, hS⟩ := hR
    have hS : Sep w0 B w (own 3 (.slice A3 r2.length c3) (vI r2) :: own 40 (.slice g4 2 2) [.slice A2 ((r1 ++ ([0] : List Int)).length) c2, .slice A2 ((r1 ++ ([0] : List Int)).length) c2] :: own 3 (.slice g3 1 1) (vI ([0] : List Int)) :: own 3 (.slice A2 ((r1 ++ ([0] : List Int)).length) c2) (vI (r1 ++ ([0] : List Int))) :: own 3 (.slice g2 1 1) (vI ([seeds1] : List Int)) :: blk g1 71 #[.slice none 0 0, .int .i64 0] :: fs) := hS
    refine at_run 1 [] [] [4, 32] [pl 4 (.pointer (some ⟨g1, 0, none⟩)), pl 32 (.agg #[.slice A3 r2.length c3, .int .i64 0])] hF hS (by kernel_rfl) (by kernel_rfl) ?_ (fun a w hF hS => ?_)
    · exact obs_nil
    obtain ⟨w, hrun, hS⟩ := run_putA (P := Try.prog) (t := 71) (us := #[.slice A3 r2.length c3, .int .i64 0]) (o := 0) (hS.at_ 5 rfl) (by kernel_rfl) (all_one (by kernel_rfl)) (Nat.le_of_ble_eq_true (by kernel_rfl))
    refine at_skip hF (by kernel_rfl) hrun ?_
    have hS : Sep w0 B w (own 3 (.slice A3 r2.length c3) (vI r2) :: own 40 (.slice g4 2 2) [.slice A2 ((r1 ++ ([0] : List Int)).length) c2, .slice A2 ((r1 ++ ([0] : List Int)).length) c2] :: own 3 (.slice g3 1 1) (vI ([0] : List Int)) :: own 3 (.slice A2 ((r1 ++ ([0] : List Int)).length) c2) (vI (r1 ++ ([0] : List Int))) :: own 3 (.slice g2 1 1) (vI ([seeds1] : List Int)) :: blk g1 71 #[.slice A3 r2.length c3, .int .i64 0] :: fs) := hS
    refine at_run 1 [] [] [4, 5] [pl 4 (.pointer (some ⟨g1, 0, none⟩)), pl 5 (.int .i64 0)] hF hS (by kernel_rfl) (by kernel_rfl) ?_ (fun a w hF hS => ?_)
    · exact obs_nil
    refine at_end [4, 5] [pl 4 (.pointer (some ⟨g1, 0, none⟩)), pl 5 (.int .i64 0)] hF rfl (by kernel_rfl) (fun hF => ?_)
    refine then_n ?_
    refine wp_ret ?_
    have hld0 := run_loadVarA (P := Try.prog) (t := 71) (cs := #[.slice A3 r2.length c3, .int .i64 0]) (by kernel_rfl) (by kernel_rfl) ((hS.at_ 5 rfl).cellsAt 0 (by rfl))
    have hS := hS.pickN 6 [0] (by decide)
    have hm : some (r2, 0, 0) = some r := hm
    obtain rfl := Option.some.inj hm
    exact retV (rs := [.cell 4 71, .tmp 5]) (vs := [.agg #[.slice A3 r2.length c3, .int .i64 0], .int .i64 0]) hF rfl (rv_c (by kernel_rfl) hld0 <| rv_t (by kernel_rfl) <| rv_nil) rfl ⟨_, rfl, A3, c3, rfl, hS⟩
  · refine reg [] [] [0, 1, 4, 20] [pl 0 (.int .i64 pits1), pl 1 (.int .i64 seeds1), pl 4 (.pointer (some ⟨g1, 0, none⟩)), pl 20 (.bool ((((decide (pits1 < 1)) || (decide ((6 : Int) < pits1))) || (decide (seeds1 < 0))) || (decide ((10 : Int) < seeds1))))] hF hS Fol (by kernel_rfl) (by kernel_rfl) (by kernel_rfl) ?_ (fun a w hF hS => ?_)
    · exact obs_nil
    refine cond_ev (t := 20) (b := (((decide (pits1 < 1)) || (decide ((6 : Int) < pits1))) || (decide (seeds1 < 0))) || (decide ((10 : Int) < seeds1))) hF (by kernel_rfl) (fun hb => ?_) (fun hb => ?_)
    · replace hm := if_t hm hb
      refine seqR ?_
      refine at_run 1 [] [] [4, 21] [pl 4 (.pointer (some ⟨g1, 0, none⟩)), pl 21 (.agg #[.slice none 0 0, .int .i64 0])] hF hS (by kernel_rfl) (by kernel_rfl) ?_ (fun a w hF hS => ?_)
      · exact obs_nil
      obtain ⟨w, hrun, hS⟩ := run_putA (P := Try.prog) (t := 71) (us := #[.slice none 0 0, .int .i64 0]) (o := 0) (hS.at_ 0 rfl) (by kernel_rfl) (all_one (by kernel_rfl)) (Nat.le_of_ble_eq_true (by kernel_rfl))
      refine at_skip hF (by kernel_rfl) hrun ?_
      have hS : Sep w0 B w (blk g1 71 #[.slice none 0 0, .int .i64 0] :: fs) := hS
      refine at_run 1 [] [] [4, 5] [pl 4 (.pointer (some ⟨g1, 0, none⟩)), pl 5 (.int .i64 3)] hF hS (by kernel_rfl) (by kernel_rfl) ?_ (fun a w hF hS => ?_)
      · exact obs_nil
      refine at_end [4, 5] [pl 4 (.pointer (some ⟨g1, 0, none⟩)), pl 5 (.int .i64 3)] hF rfl (by kernel_rfl) (fun hF => ?_)
      refine then_n ?_
      refine wp_ret ?_
      refine then_r ?_
      have hS : Sep w0 B w (own 3 (.slice none 0 0) (vI ([] : List Int)) :: blk g1 71 #[.slice none 0 0, .int .i64 0] :: fs) := hS.nil 3
      have hl1 := (hS.at_ 0 rfl).len1
      have hS := (hS.at_ 0 rfl).reN hl1
      have hS : Sep w0 B w (own 3 (.slice none (([] : List Int).length) 0) (vI ([] : List Int)) :: blk g1 71 #[.slice none 0 0, .int .i64 0] :: fs) := hS
      have hld0 := run_loadVarA (P := Try.prog) (t := 71) (cs := #[.slice none (([] : List Int).length) 0, .int .i64 0]) (by kernel_rfl) (by kernel_rfl) ((hS.at_ 1 rfl).cellsAt 0 (by rfl))
      have hS := hS.pickN 2 [0] (by decide)
      have hm : some (([] : List Int), 0, 3) = some r := hm
      obtain rfl := Option.some.inj hm
      exact retV (rs := [.cell 4 71, .tmp 5]) (vs := [.agg #[.slice none (([] : List Int).length) 0, .int .i64 0], .int .i64 3]) hF rfl (rv_c (by kernel_rfl) hld0 <| rv_t (by kernel_rfl) <| rv_nil) rfl ⟨_, rfl, none, 0, rfl, hS⟩
    · replace hm := if_f hm hb
      refine wp_skip ?_
      refine then_n ?_
      exact ⟨hF.weak [0, 1, 4] (by kernel_rfl), hS, hm⟩

noncomputable def gameroomlaw_ints_m (l1 : List Int) : Option (List Int) :=
  asrt ((0 : Int) + (l1.length : Int) ≤ bigN) <| some ([] ++ l1)

set_option maxRecDepth 100000 in
set_option maxHeartbeats 4000000 in
theorem gameroomlaw_ints_w {A1 : Option Addr} {c1 : Nat} {n1 : Nat} {l1 : List Int} {r : (List Int)} {w0 w : World} {B : Nat} {fs : List HP} (hm : gameroomlaw_ints_m l1 = some r) (hS : Sep w0 B w (fs)) (hr_l1 : RdF w0 B fs A1 (vI l1)) (_hc_l1 : l1.length ≤ c1) (_hn_l1 : n1 = l1.length) :
    Calls Try.prog 30 #[.slice A1 n1 c1] w fun e w' => ∃ v, e = .returned v ∧ ∃ (A3 : Option Addr) (c3 : Nat), v = .slice A3 r.length c3 ∧ Sep w0 B w' (own 3 (.slice A3 r.length c3) (vI r) :: fs) := by
  obtain ⟨i3, hi3, hz3, hs3, hb3⟩ := info_parts Info3
  obtain rfl := _hn_l1
  unfold gameroomlaw_ints_m at hm
  replace hm := start_b hm
  refine enter (l := [.slice A1 l1.length c1]) (n := 5) Try.func30 rfl rfl (by simp) (fun a hF => ?_)
  refine reg [] [] [0] [pl 0 (.slice A1 l1.length c1)] hF hS Fol (by kernel_rfl) (by kernel_rfl) (by kernel_rfl) ?_ (fun a w hF hS => ?_)
  · exact obs_nil
  refine seqR ?_
  obtain ⟨hp1, hm⟩ := asrt_b hm
  refine at_run 1 [] [] [3] [pl 3 (.slice A1 l1.length c1)] hF hS (by kernel_rfl) (by kernel_rfl) ?_ (fun a w hF hS => ?_)
  · exact obs_nil
  have hS : Sep w0 B w (own 3 (.slice none 0 0) (vI ([] : List Int)) :: fs) := hS.nil 3
  obtain ⟨A2, c2, w, hrun, hS⟩ := run_app1 (P := Try.prog) (t := 40) (m := ([] : List Int)) (ys := l1) (A2 := A1) (m2 := l1.length) (c2 := c1) (Value.int .i64) (0 : Int) (hS.at_ 0 rfl) (hr_l1 _ (hS.dropN 1)) rfl 40 Und40 hi3 hz3 hs3 (by omega) rfl (fun _ => rfl) hp1
  have hS : Sep w0 B w (own 3 (.slice A2 (([] ++ l1).length) c2) (vI ([] ++ l1)) :: fs) := hS
  refine at_do (d := 4) hF (by kernel_rfl) (by kernel_rfl) hrun (fun a hF => ?_)
  refine at_run 1 [] [] [2] [pl 2 (.slice A2 (([] ++ l1).length) c2)] hF hS (by kernel_rfl) (by kernel_rfl) ?_ (fun a w hF hS => ?_)
  · exact obs_nil
  refine at_end [2] [pl 2 (.slice A2 (([] ++ l1).length) c2)] hF rfl (by kernel_rfl) (fun hF => ?_)
  refine then_n ?_
  refine wp_ret ?_
  have hm : some ([] ++ l1) = some r := hm
  obtain rfl := Option.some.inj hm
  exact retV (rs := [.tmp 2]) (vs := [.slice A2 (([] ++ l1).length) c2]) hF rfl (rv_t (by kernel_rfl) <| rv_nil) rfl ⟨_, rfl, A2, c2, rfl, hS⟩

noncomputable def gameroomlaw_seeds_J1 (b2 : Int) (z1 : List Int) : Option (List Int × Int) :=
  some (z1, b2)

noncomputable def gameroomlaw_seeds_m (b1 : List Int) (b2 : Int) : Option (List Int × Int) :=
  (gameroomlaw_ints_m b1).bind fun r1 => (gameroomlaw_seeds_J1 b2) r1

set_option maxRecDepth 100000 in
set_option maxHeartbeats 4000000 in
theorem gameroomlaw_seeds_w {A1 : Option Addr} {c1 : Nat} {n1 : Nat} {b1 : List Int} {b2 : Int} {r : (List Int × Int)} {w0 w : World} {B : Nat} {fs : List HP} (hm : gameroomlaw_seeds_m b1 b2 = some r) (hS : Sep w0 B w (fs)) (hr_b1 : RdF w0 B fs A1 (vI b1)) (_hc_b1 : b1.length ≤ c1) (_hn_b1 : n1 = b1.length) :
    Calls Try.prog 49 #[.agg #[.slice A1 n1 c1, .int .i64 b2]] w fun e w' => ∃ v, e = .returned v ∧ ∃ (A5 : Option Addr) (c5 : Nat), v = .agg #[.slice A5 r.1.length c5, .int .i64 r.2] ∧ Sep w0 B w' (own 3 (.slice A5 r.1.length c5) (vI r.1) :: fs) := by
  obtain ⟨i3, hi3, hz3, hs3, hb3⟩ := info_parts Info3
  obtain rfl := _hn_b1
  unfold gameroomlaw_seeds_m at hm
  replace hm := start_b hm
  refine enter (l := [.agg #[.slice A1 b1.length c1, .int .i64 b2]]) (n := 9) Try.func49 rfl rfl (by simp) (fun a hF => ?_)
  refine seqR ?_
  refine at_do (d := 1) (s := vS (Instr.box 71 (.agg #[.slice A1 b1.length c1, .int .i64 b2]))) (v := .pointer (some ⟨w.heap.size, 0, none⟩)) (w' := w.alloc (.cells #[.slice A1 b1.length c1, .int .i64 b2] 71)) hF (by kernel_rfl) (by kernel_rfl) (by kernel_rfl) (fun a hF => ?_)
  have hS : Sep w0 B (w.alloc (.cells #[.slice A1 b1.length c1, .int .i64 b2] 71)) (blk w.heap.size 71 #[.slice A1 b1.length c1, .int .i64 b2] :: (fs)) := hS.box 71 #[.slice A1 b1.length c1, .int .i64 b2]
  generalize w.heap.size = g1 at hF hS
  generalize w.alloc (.cells #[.slice A1 b1.length c1, .int .i64 b2] 71) = w at hS ⊢
  refine at_do (d := 2) (s := vS (Instr.alloc 71 true (.tuple #[]))) (v := .pointer (some ⟨w.heap.size, 0, none⟩)) (w' := w.alloc (.cells #[.slice none 0 0, .int .i64 0] 71)) hF (by kernel_rfl) (by kernel_rfl) (by kernel_rfl) (fun a hF => ?_)
  have hS : Sep w0 B (w.alloc (.cells #[.slice none 0 0, .int .i64 0] 71)) (blk w.heap.size 71 #[.slice none 0 0, .int .i64 0] :: (blk g1 71 #[.slice A1 b1.length c1, .int .i64 b2] :: fs)) := hS.box 71 #[.slice none 0 0, .int .i64 0]
  generalize w.heap.size = g2 at hF hS
  generalize w.alloc (.cells #[.slice none 0 0, .int .i64 0] 71) = w at hS ⊢
  refine at_end [1, 2] [pl 1 (.pointer (some ⟨g1, 0, none⟩)), pl 2 (.pointer (some ⟨g2, 0, none⟩))] hF rfl (by kernel_rfl) (fun hF => ?_)
  refine then_n ?_
  refine seq_cut (fun a w => ∃ (z1 : List Int) (A4 : Option Addr) (c4 : Nat), Fr 9 [pl 2 (.pointer (some ⟨g2, 0, none⟩))] a ∧ Sep w0 B w (blk g2 71 #[.slice A4 z1.length c4, .int .i64 b2] :: own 3 (.slice A4 z1.length c4) (vI z1) :: fs) ∧ ((gameroomlaw_seeds_J1 b2) z1).bind some = some r) ?_ ?_
  · rintro a w ⟨z1, A4, c4, hF, hS, hm⟩
    unfold gameroomlaw_seeds_J1 at hm
    refine wp_ret ?_
    have hld0 := run_loadVarA (P := Try.prog) (t := 71) (cs := #[.slice A4 z1.length c4, .int .i64 b2]) (by kernel_rfl) (by kernel_rfl) ((hS.at_ 0 rfl).cellsAt 0 (by rfl))
    have hS := hS.pickN 2 [1] (by decide)
    have hm : some (z1, b2) = some r := hm
    obtain rfl := Option.some.inj hm
    exact retV (rs := [.cell 2 71]) (vs := [.agg #[.slice A4 z1.length c4, .int .i64 b2]]) hF rfl (rv_c (by kernel_rfl) hld0 <| rv_nil) rfl ⟨_, rfl, A4, c4, rfl, hS⟩
  · obtain ⟨r1, hr1, hm⟩ := call_b hm
    refine regMix5 [0, 1, 3, 4] [6] 3 #[true, true, false, true, true, false, false] [⟨false, [], vS (Instr.loadAt 40 (.pointer (some ⟨g1, 0, none⟩))), .slice A1 b1.length c1⟩, ⟨false, [], vS (Instr.loadAt 3 (.pointer (some ⟨g1, 1, none⟩))), .int .i64 b2⟩] [none, some (.slice A1 b1.length c1), none, some (.int .i64 b2)] [2, 4, 7] [pl 2 (.pointer (some ⟨g2, 0, none⟩)), pl 4 (.slice A1 b1.length c1), pl 7 (.int .i64 b2)] hF hS Fol (by kernel_rfl) (by kernel_rfl) (by kernel_rfl) (by kernel_rfl) ?_ (fun a w hF hS => ?_)
    · exact obs_cons (ob_load Agg40 (fun _ _ hS => (hS.at_ 1 rfl).cell rfl)) <| obs_cons (ob_load Agg3 (fun _ _ hS => (hS.at_ 1 rfl).cell rfl)) <| obs_nil
    refine any_step [2] (by kernel_rfl) rfl ?_
    refine (all_cons ?_ all_nil)
    · refine any_op (listed' := #[true, true, true, true, true, false, false]) (by kernel_rfl) (by kernel_rfl) ?_
      refine at_call (f := 30) (args := #[.slice A1 b1.length c1]) (d := 5) hF (by kernel_rfl) (by kernel_rfl) Try.func30 (by kernel_rfl) rfl (gameroomlaw_ints_w hr1 hS (fun _ hS => (hr_b1 _ (hS.dropN 2))) _hc_b1 rfl) (fun v a w hR hF => ?_)
      clear hS
      obtain ⟨A3, c3, rfl, hS⟩ := hR
      have hS : Sep w0 B w (own 3 (.slice A3 r1.length c3) (vI r1) :: blk g2 71 #[.slice none 0 0, .int .i64 0] :: blk g1 71 #[.slice A1 b1.length c1, .int .i64 b2] :: fs) := hS
      refine any_fin rfl (hS.pickN 3 [1, 2] (by decide)) ?_
      refine any_step [5] (by kernel_rfl) rfl ?_
      refine (all_cons ?_ all_nil)
      · refine any_op (listed' := #[true, true, true, true, true, true, false]) (by kernel_rfl) (by kernel_rfl) ?_
        refine at_runW 1 [] [] [2, 8] [pl 2 (.pointer (some ⟨g2, 0, none⟩)), pl 8 (.agg #[.slice A3 r1.length c3, .int .i64 b2])] hF hS (by kernel_rfl) (by kernel_rfl) ?_ (fun a hF => ?_)
        · exact obs_nil
        refine any_finI rfl (fun h => h) ?_
        refine any_step [6] (by kernel_rfl) rfl ?_
        refine (all_cons ?_ all_nil)
        · refine any_op (listed' := #[true, true, true, true, true, true, true]) (by kernel_rfl) (by kernel_rfl) ?_
          obtain ⟨w, hrun, hS⟩ := run_putA (P := Try.prog) (t := 71) (us := #[.slice A3 r1.length c3, .int .i64 b2]) (o := 0) (hS.at_ 1 rfl) (by kernel_rfl) (all_one (by kernel_rfl)) (Nat.le_of_ble_eq_true (by kernel_rfl))
          refine at_skip hF (by kernel_rfl) hrun ?_
          have hS : Sep w0 B w (own 3 (.slice A3 r1.length c3) (vI r1) :: blk g2 71 #[.slice A3 r1.length c3, .int .i64 b2] :: blk g1 71 #[.slice A1 b1.length c1, .int .i64 b2] :: fs) := hS
          refine any_finE rfl (by decide) ?_
          refine any_end (by kernel_rfl) ?_
          refine np_n ?_
          refine then_n ?_
          have hS := hS.pickN 3 [1, 0] (by decide)
          exact ⟨r1, A3, c3, hF.weak [2] (by kernel_rfl), hS, hm⟩

noncomputable def mancala_May_J4 (b1 : List Int) (left1 : Int) (z1 : Int) : Option (St (Int × Int) (Fl Unit Bool)) :=
  some (.next ((w64 (left1 - (geti b1 z1))), (w64 (z1 + 1))))

noncomputable def mancala_May_J5 (b1 : List Int) (left1 : Int) (z1 : Int) : Option (St (Int × Int) (Fl Unit Bool)) :=
  (mancala_May_J4 b1 left1 z1)

noncomputable def mancala_May_J3 (b1 : List Int) (left1 : Int) (z1 : Int) : Option (St (Int × Int) (Fl Unit Bool)) :=
  asrt (0 ≤ z1 ∧ z1 < (b1.length : Int)) <| if ((decide ((geti b1 z1) < 0)) || (decide (left1 < (geti b1 z1)))) then (some (.done (.ret false))) else ((mancala_May_J5 b1 left1 z1))

noncomputable def mancala_May_J2 : Option Bool :=
  some true

noncomputable def mancala_May_K1 : (Fl Unit Bool) → Option Bool :=
  fun (x : (Fl Unit Bool)) => match x with | .go _ => mancala_May_J2 | .ret x => some x

noncomputable def mancala_May_L1 (b1 : List Int) : (Int × Int) → Option (St (Int × Int) (Fl Unit Bool)) :=
  fun (x : (Int × Int)) => match x with | (left1, z1) => if (decide (z1 < (b1.length : Int))) then ((mancala_May_J3 b1 left1 z1)) else (some (.done (.go ())))

noncomputable def mancala_May_J1 (b1 : List Int) : Option Bool :=
  (loop (mancala_May_L1 b1) (1000, 0)).bind mancala_May_K1

noncomputable def mancala_May_m (b1 : List Int) (b2 : Int) : Option Bool :=
  if (((((decide ((b1.length : Int) < 4)) || (decide ((14 : Int) < (b1.length : Int)))) || ((bAnd (b1.length : Int) 1) == 1)) || (decide (b2 < 0))) || (decide ((1 : Int) < b2))) then (some false) else ((mancala_May_J1 b1))

set_option maxRecDepth 100000 in
set_option maxHeartbeats 4000000 in
theorem mancala_May_w {A1 : Option Addr} {c1 : Nat} {n1 : Nat} {b1 : List Int} {b2 : Int} {r : Bool} {w0 w : World} {B : Nat} {fs : List HP} (hm : mancala_May_m b1 b2 = some r) (hS : Sep w0 B w (fs)) (hr_b1 : RdF w0 B fs A1 (vI b1)) (_hc_b1 : b1.length ≤ c1) (_hn_b1 : n1 = b1.length) :
    Calls Try.prog 48 #[.agg #[.slice A1 n1 c1, .int .i64 b2]] w fun e w' => e = .returned (.bool r) ∧ Sep w0 B w' (fs) := by
  obtain ⟨i3, hi3, hz3, hs3, hb3⟩ := info_parts Info3
  obtain rfl := _hn_b1
  unfold mancala_May_m at hm
  replace hm := start_b hm
  refine enter (l := [.agg #[.slice A1 b1.length c1, .int .i64 b2]]) (n := 49) Try.func48 rfl rfl (by simp) (fun a hF => ?_)
  refine seqR ?_
  refine at_do (d := 1) (s := vS (Instr.box 71 (.agg #[.slice A1 b1.length c1, .int .i64 b2]))) (v := .pointer (some ⟨w.heap.size, 0, none⟩)) (w' := w.alloc (.cells #[.slice A1 b1.length c1, .int .i64 b2] 71)) hF (by kernel_rfl) (by kernel_rfl) (by kernel_rfl) (fun a hF => ?_)
  have hS : Sep w0 B (w.alloc (.cells #[.slice A1 b1.length c1, .int .i64 b2] 71)) (blk w.heap.size 71 #[.slice A1 b1.length c1, .int .i64 b2] :: (fs)) := hS.box 71 #[.slice A1 b1.length c1, .int .i64 b2]
  generalize w.heap.size = g1 at hF hS
  generalize w.alloc (.cells #[.slice A1 b1.length c1, .int .i64 b2] 71) = w at hS ⊢
  refine at_run 1 [] [] [1] [pl 1 (.pointer (some ⟨g1, 0, none⟩))] hF hS (by kernel_rfl) (by kernel_rfl) ?_ (fun a w hF hS => ?_)
  · exact obs_nil
  refine at_end [1] [pl 1 (.pointer (some ⟨g1, 0, none⟩))] hF rfl (by kernel_rfl) (fun hF => ?_)
  refine then_n ?_
  refine reg [⟨false, [], vS (Instr.loadAt 40 (.pointer (some ⟨g1, 0, none⟩))), .slice A1 b1.length c1⟩] [none, some (.slice A1 b1.length c1), none, none] [1, 3] [pl 1 (.pointer (some ⟨g1, 0, none⟩)), pl 3 (.int .i64 (b1.length : Int))] hF hS Fol (by kernel_rfl) (by kernel_rfl) (by kernel_rfl) ?_ (fun a w hF hS => ?_)
  · exact obs_cons (ob_load Agg40 (fun _ _ hS => (hS.at_ 0 rfl).cell rfl)) <| obs_nil
  refine seq_cut (fun a w => Fr 49 [pl 1 (.pointer (some ⟨g1, 0, none⟩))] a ∧ Sep w0 B w (blk g1 71 #[.slice A1 b1.length c1, .int .i64 b2] :: fs) ∧ ((mancala_May_J1 b1)).bind some = some r) ?_ ?_
  · rintro a w ⟨hF, hS, hm⟩
    unfold mancala_May_J1 at hm
    refine reg [] [] [1, 4] [pl 1 (.pointer (some ⟨g1, 0, none⟩)), pl 4 (.int .i64 1000)] hF hS Fol (by kernel_rfl) (by kernel_rfl) (by kernel_rfl) ?_ (fun a w hF hS => ?_)
    · exact obs_nil
    refine seq_cut (fun a w => Fr 49 [] a ∧ Sep w0 B w (fs) ∧ (mancala_May_J2).bind some = some r) ?_ ?_
    · rintro a w ⟨hF, hS, hm⟩
      unfold mancala_May_J2 at hm
      refine reg [] [] [2] [pl 2 (.bool true)] hF hS Fol (by kernel_rfl) (by kernel_rfl) (by kernel_rfl) ?_ (fun a w hF hS => ?_)
      · exact obs_nil
      refine wp_ret ?_
      have hm : some true = some r := hm
      obtain rfl := Option.some.inj hm
      exact retV (rs := [.tmp 2]) (vs := [.bool true]) hF rfl (rv_t (by kernel_rfl) <| rv_nil) rfl ⟨rfl, hS⟩
    · refine reg [⟨false, [], vS (Instr.loadAt 40 (.pointer (some ⟨g1, 0, none⟩))), .slice A1 b1.length c1⟩] [none, some (.slice A1 b1.length c1), none, none] [4, 32, 33, 34] [pl 4 (.int .i64 1000), pl 32 (.slice A1 b1.length c1), pl 33 (.int .i64 (b1.length : Int)), pl 34 (.int .i64 0)] hF hS Fol (by kernel_rfl) (by kernel_rfl) (by kernel_rfl) ?_ (fun a w hF hS => ?_)
      · exact obs_cons (ob_load Agg40 (fun _ _ hS => (hS.at_ 0 rfl).cell rfl)) <| obs_nil
      refine wp_block ?_
      have hS := hS.pickN 1 [] (by decide)
      refine wp_loop_model (S := (Int × Int)) (R := (Fl Unit Bool)) (mancala_May_L1 b1) (fun x => (mancala_May_K1 x).bind some) r (fun (x : (Int × Int)) a w => Fr 49 [pl 4 (.int .i64 x.1), pl 32 (.slice A1 b1.length c1), pl 33 (.int .i64 (b1.length : Int)), pl 34 (.int .i64 x.2)] a ∧ Sep w0 B w (fs)) (assoc_b hm) ⟨hF.weak [4, 32, 33, 34] (by kernel_rfl), hS⟩ ?_
      clear hF hS hm
      rintro nn1 ⟨left1, z1⟩ a w ⟨hF, hS⟩ hm
      generalize hφ1 : stK (mancala_May_L1 b1) nn1 (fun x => (mancala_May_K1 x).bind some) = φ1 at hm
      unfold mancala_May_L1 at hm
      dsimp only at hF hS hm
      refine reg [] [] [4, 32, 33, 34, 35] [pl 4 (.int .i64 left1), pl 32 (.slice A1 b1.length c1), pl 33 (.int .i64 (b1.length : Int)), pl 34 (.int .i64 z1), pl 35 (.bool (decide (z1 < (b1.length : Int))))] hF hS Fol (by kernel_rfl) (by kernel_rfl) (by kernel_rfl) ?_ (fun a w hF hS => ?_)
      · exact obs_nil
      refine seq_cut (fun a w => Fr 49 [pl 4 (.int .i64 left1), pl 32 (.slice A1 b1.length c1), pl 33 (.int .i64 (b1.length : Int)), pl 34 (.int .i64 z1)] a ∧ Sep w0 B w (fs) ∧ ((mancala_May_J3 b1 left1 z1)).bind φ1 = some r) ?_ ?_
      · rintro a w ⟨hF, hS, hm⟩
        unfold mancala_May_J3 at hm
        refine seq_cut (fun a w => Fr 49 [pl 4 (.int .i64 (w64 (left1 - (geti b1 z1)))), pl 32 (.slice A1 b1.length c1), pl 33 (.int .i64 (b1.length : Int)), pl 34 (.int .i64 z1)] a ∧ Sep w0 B w (fs) ∧ ((mancala_May_J4 b1 left1 z1)).bind φ1 = some r) ?_ ?_
        · rintro a w ⟨hF, hS, hm⟩
          unfold mancala_May_J4 at hm
          refine reg1 [] [] [4, 32, 33, 34] [pl 4 (.int .i64 (w64 (left1 - (geti b1 z1)))), pl 32 (.slice A1 b1.length c1), pl 33 (.int .i64 (b1.length : Int)), pl 34 (.int .i64 (w64 (z1 + 1)))] hF hS Fol (by kernel_rfl) (by kernel_rfl) (by kernel_rfl) ?_ (fun a w hF hS => ?_)
          · exact obs_nil
          refine then_n ?_
          rw [← hφ1] at hm
          exact ⟨((w64 (left1 - (geti b1 z1))), (w64 (z1 + 1))), ⟨hF.weak [4, 32, 33, 34] (by kernel_rfl), hS⟩, hm⟩
        · refine wp_block ?_
          obtain ⟨hp1, hm⟩ := asrt_b hm
          refine reg [⟨true, [], vS (Instr.indexAt 40 (.slice A1 b1.length c1) (.int .i64 z1)), .pointer (some (sAddr A1 z1))⟩, ⟨false, [], vS (Instr.loadAt 3 (.pointer (some (sAddr A1 z1)))), .int .i64 (geti b1 z1)⟩] [some (.pointer (some (sAddr A1 z1))), some (.int .i64 (geti b1 z1)), none] [4, 6, 32, 33, 34] [pl 4 (.int .i64 left1), pl 6 (.int .i64 (geti b1 z1)), pl 32 (.slice A1 b1.length c1), pl 33 (.int .i64 (b1.length : Int)), pl 34 (.int .i64 z1)] hF hS Fol (by kernel_rfl) (by kernel_rfl) (by kernel_rfl) ?_ (fun a w hF hS => ?_)
          · exact obs_cons (ob_ix1 (f := (Value.int .i64)) (m := b1) Und40 hi3 hs3 (hr_b1 _ (hS.dropN 0)) rfl (fun _ => hp1)) <| obs_cons (ob_get1 (n := b1.length) (m := b1) (Value.int .i64) (0 : Int) Agg3 (fun _ hS => ⟨_, (hr_b1 _ (hS.dropN 0))⟩) (fun _ hS => rfl) (fun _ => hp1)) <| obs_nil
          refine seq_cut (fun a w => Fr 49 [pl 4 (.int .i64 left1), pl 6 (.int .i64 (geti b1 z1)), pl 32 (.slice A1 b1.length c1), pl 33 (.int .i64 (b1.length : Int)), pl 34 (.int .i64 z1)] a ∧ Sep w0 B w (fs) ∧ ((mancala_May_J5 b1 left1 z1)).bind φ1 = some r) ?_ ?_
          · rintro a w ⟨hF, hS, hm⟩
            unfold mancala_May_J5 at hm
            refine reg1 [] [] [4, 32, 33, 34] [pl 4 (.int .i64 (w64 (left1 - (geti b1 z1)))), pl 32 (.slice A1 b1.length c1), pl 33 (.int .i64 (b1.length : Int)), pl 34 (.int .i64 z1)] hF hS Fol (by kernel_rfl) (by kernel_rfl) (by kernel_rfl) ?_ (fun a w hF hS => ?_)
            · exact obs_nil
            refine block_n ?_
            refine then_n ?_
            exact ⟨hF.weak [4, 32, 33, 34] (by kernel_rfl), hS, hm⟩
          · refine reg [] [] [4, 6, 32, 33, 34, 44] [pl 4 (.int .i64 left1), pl 6 (.int .i64 (geti b1 z1)), pl 32 (.slice A1 b1.length c1), pl 33 (.int .i64 (b1.length : Int)), pl 34 (.int .i64 z1), pl 44 (.bool ((decide ((geti b1 z1) < 0)) || (decide (left1 < (geti b1 z1)))))] hF hS Fol (by kernel_rfl) (by kernel_rfl) (by kernel_rfl) ?_ (fun a w hF hS => ?_)
            · exact obs_nil
            refine cond_ev (t := 44) (b := (decide ((geti b1 z1) < 0)) || (decide (left1 < (geti b1 z1)))) hF (by kernel_rfl) (fun hb => ?_) (fun hb => ?_)
            · replace hm := if_t hm hb
              refine reg [] [] [2] [pl 2 (.bool false)] hF hS Fol (by kernel_rfl) (by kernel_rfl) (by kernel_rfl) ?_ (fun a w hF hS => ?_)
              · exact obs_nil
              refine wp_ret ?_
              refine then_r (block_r (then_r (then_r (block_r (then_r ?_)))))
              rw [← hφ1] at hm
              replace hm := done_b hm
              unfold mancala_May_K1 at hm
              try dsimp only at hm
              have hm : some false = some r := hm
              obtain rfl := Option.some.inj hm
              exact retV (rs := [.tmp 2]) (vs := [.bool false]) hF rfl (rv_t (by kernel_rfl) <| rv_nil) rfl ⟨rfl, hS⟩
            · replace hm := if_f hm hb
              refine wp_skip ?_
              refine then_n ?_
              exact ⟨hF.weak [4, 6, 32, 33, 34] (by kernel_rfl), hS, hm⟩
      · refine cond_ev (t := 35) (b := decide (z1 < (b1.length : Int))) hF (by kernel_rfl) (fun hb => ?_) (fun hb => ?_)
        · replace hm := if_t hm hb
          refine wp_skip ?_
          refine then_n ?_
          exact ⟨hF.weak [4, 32, 33, 34] (by kernel_rfl), hS, hm⟩
        · replace hm := if_f hm hb
          refine wp_exit ?_
          refine then_e (then_e (block_e (then_n ?_)))
          rw [← hφ1] at hm
          replace hm := done_b hm
          unfold mancala_May_K1 at hm
          try dsimp only at hm
          have hm : (mancala_May_J2).bind some = some r := hm
          exact ⟨hF.weak [] (by kernel_rfl), hS, hm⟩
  · refine reg [⟨false, [(((decide ((b1.length : Int) < 4)) || (decide ((14 : Int) < (b1.length : Int)))) || ((bAnd (b1.length : Int) 1) == 1), false)], vS (Instr.loadAt 3 (.pointer (some ⟨g1, 1, none⟩))), .int .i64 b2⟩, ⟨false, [((((decide ((b1.length : Int) < 4)) || (decide ((14 : Int) < (b1.length : Int)))) || ((bAnd (b1.length : Int) 1) == 1)) || (decide (b2 < 0)), false)], vS (Instr.loadAt 3 (.pointer (some ⟨g1, 1, none⟩))), .int .i64 b2⟩] [none, none, none, none, none, none, none, none, none, none, none, none, none, some (.int .i64 b2), none, none, none, none, some (.int .i64 b2), none, none] [1, 30] [pl 1 (.pointer (some ⟨g1, 0, none⟩)), pl 30 (.bool (((((decide ((b1.length : Int) < 4)) || (decide ((14 : Int) < (b1.length : Int)))) || ((bAnd (b1.length : Int) 1) == 1)) || (decide (b2 < 0))) || (decide ((1 : Int) < b2))))] hF hS Fol (by kernel_rfl) (by kernel_rfl) (by kernel_rfl) ?_ (fun a w hF hS => ?_)
    · exact obs_cons (ob_load Agg3 (fun _ _ hS => (hS.at_ 0 rfl).cell rfl)) <| obs_cons (ob_load Agg3 (fun _ _ hS => (hS.at_ 0 rfl).cell rfl)) <| obs_nil
    refine cond_ev (t := 30) (b := ((((decide ((b1.length : Int) < 4)) || (decide ((14 : Int) < (b1.length : Int)))) || ((bAnd (b1.length : Int) 1) == 1)) || (decide (b2 < 0))) || (decide ((1 : Int) < b2))) hF (by kernel_rfl) (fun hb => ?_) (fun hb => ?_)
    · replace hm := if_t hm hb
      refine reg [] [] [2] [pl 2 (.bool false)] hF hS Fol (by kernel_rfl) (by kernel_rfl) (by kernel_rfl) ?_ (fun a w hF hS => ?_)
      · exact obs_nil
      refine wp_ret ?_
      refine then_r ?_
      have hS := hS.pickN 1 [] (by decide)
      have hm : some false = some r := hm
      obtain rfl := Option.some.inj hm
      exact retV (rs := [.tmp 2]) (vs := [.bool false]) hF rfl (rv_t (by kernel_rfl) <| rv_nil) rfl ⟨rfl, hS⟩
    · replace hm := if_f hm hb
      refine wp_skip ?_
      refine then_n ?_
      exact ⟨hF.weak [1] (by kernel_rfl), hS, hm⟩

noncomputable def gameroomref_within_m (n1 : Int) (low1 : Int) (high1 : Int) : Option Bool :=
  some ((decide (low1 ≤ n1)) && (decide (n1 ≤ high1)))

set_option maxRecDepth 100000 in
set_option maxHeartbeats 4000000 in
theorem gameroomref_within_w {n1 : Int} {low1 : Int} {high1 : Int} {r : Bool} {w0 w : World} {B : Nat} {fs : List HP} (hm : gameroomref_within_m n1 low1 high1 = some r) (hS : Sep w0 B w (fs)) :
    Calls Try.prog 90 #[.int .i64 n1, .int .i64 low1, .int .i64 high1] w fun e w' => e = .returned (.bool r) ∧ Sep w0 B w' (fs) := by
  unfold gameroomref_within_m at hm
  replace hm := start_b hm
  refine enter (l := [.int .i64 n1, .int .i64 low1, .int .i64 high1]) (n := 15) Try.func90 rfl rfl (by simp) (fun a hF => ?_)
  refine reg [] [] [0, 1, 2] [pl 0 (.int .i64 n1), pl 1 (.int .i64 low1), pl 2 (.int .i64 high1)] hF hS Fol (by kernel_rfl) (by kernel_rfl) (by kernel_rfl) ?_ (fun a w hF hS => ?_)
  · exact obs_nil
  refine reg [] [] [6] [pl 6 (.bool ((decide (low1 ≤ n1)) && (decide (n1 ≤ high1))))] hF hS Fol (by kernel_rfl) (by kernel_rfl) (by kernel_rfl) ?_ (fun a w hF hS => ?_)
  · exact obs_nil
  refine wp_ret ?_
  have hm : some ((decide (low1 ≤ n1)) && (decide (n1 ≤ high1))) = some r := hm
  obtain rfl := Option.some.inj hm
  exact retV (rs := [.tmp 6]) (vs := [.bool ((decide (low1 ≤ n1)) && (decide (n1 ≤ high1)))]) hF rfl (rv_t (by kernel_rfl) <| rv_nil) rfl ⟨rfl, hS⟩

noncomputable def gameroomref_MancalaMay_J4 (b1 : List Int) (sum1 : Int) (i1 : Int) : Option (St (Int × Int) (Fl Int Bool)) :=
  some (.next ((w64 (sum1 + (geti b1 i1))), (w64 (i1 + 1))))

noncomputable def gameroomref_MancalaMay_J5 (b1 : List Int) (sum1 : Int) (i1 : Int) : Option (St (Int × Int) (Fl Int Bool)) :=
  asrt (0 ≤ i1 ∧ i1 < (b1.length : Int)) <| (gameroomref_MancalaMay_J4 b1 sum1 i1)

noncomputable def gameroomref_MancalaMay_J3 (b1 : List Int) (sum1 : Int) (i1 : Int) : Option (St (Int × Int) (Fl Int Bool)) :=
  asrt (0 ≤ i1 ∧ i1 < (b1.length : Int)) <| (gameroomref_within_m (geti b1 i1) 0 1000).bind fun r3 => if (!r3) then (some (.done (.ret false))) else ((gameroomref_MancalaMay_J5 b1 sum1 i1))

noncomputable def gameroomref_MancalaMay_J2 (sum2 : Int) : Option Bool :=
  some (decide (sum2 ≤ 1000))

noncomputable def gameroomref_MancalaMay_K1 : (Fl Int Bool) → Option Bool :=
  fun (x : (Fl Int Bool)) => match x with | .go sum2 => gameroomref_MancalaMay_J2 sum2 | .ret x => some x

noncomputable def gameroomref_MancalaMay_L1 (b1 : List Int) : (Int × Int) → Option (St (Int × Int) (Fl Int Bool)) :=
  fun (x : (Int × Int)) => match x with | (sum1, i1) => if (decide (i1 < (b1.length : Int))) then ((gameroomref_MancalaMay_J3 b1 sum1 i1)) else (some (.done (.go sum1)))

noncomputable def gameroomref_MancalaMay_J1 (b1 : List Int) : Option Bool :=
  (loop (gameroomref_MancalaMay_L1 b1) (0, 0)).bind gameroomref_MancalaMay_K1

noncomputable def gameroomref_MancalaMay_m (b1 : List Int) (b2 : Int) : Option Bool :=
  (gameroomref_within_m (b1.length : Int) 4 14).bind fun r1 => ((if (!((!r1) || ((Int.tmod (b1.length : Int) 2) == 1))) then gameroomref_within_m b2 0 1 else some false)).bind fun r2 => if (((!r1) || ((Int.tmod (b1.length : Int) 2) == 1)) || (!r2)) then (some false) else ((gameroomref_MancalaMay_J1 b1))

set_option maxRecDepth 100000 in
set_option maxHeartbeats 4000000 in
theorem gameroomref_MancalaMay_w {A1 : Option Addr} {c1 : Nat} {n1 : Nat} {b1 : List Int} {b2 : Int} {r : Bool} {w0 w : World} {B : Nat} {fs : List HP} (hm : gameroomref_MancalaMay_m b1 b2 = some r) (hS : Sep w0 B w (fs)) (hr_b1 : RdF w0 B fs A1 (vI b1)) (_hc_b1 : b1.length ≤ c1) (_hn_b1 : n1 = b1.length) :
    Calls Try.prog 50 #[.agg #[.slice A1 n1 c1, .int .i64 b2]] w fun e w' => e = .returned (.bool r) ∧ Sep w0 B w' (fs) := by
  obtain ⟨i3, hi3, hz3, hs3, hb3⟩ := info_parts Info3
  obtain rfl := _hn_b1
  unfold gameroomref_MancalaMay_m at hm
  replace hm := start_b hm
  refine enter (l := [.agg #[.slice A1 b1.length c1, .int .i64 b2]]) (n := 44) Try.func50 rfl rfl (by simp) (fun a hF => ?_)
  refine seqR ?_
  refine at_do (d := 1) (s := vS (Instr.box 71 (.agg #[.slice A1 b1.length c1, .int .i64 b2]))) (v := .pointer (some ⟨w.heap.size, 0, none⟩)) (w' := w.alloc (.cells #[.slice A1 b1.length c1, .int .i64 b2] 71)) hF (by kernel_rfl) (by kernel_rfl) (by kernel_rfl) (fun a hF => ?_)
  have hS : Sep w0 B (w.alloc (.cells #[.slice A1 b1.length c1, .int .i64 b2] 71)) (blk w.heap.size 71 #[.slice A1 b1.length c1, .int .i64 b2] :: (fs)) := hS.box 71 #[.slice A1 b1.length c1, .int .i64 b2]
  generalize w.heap.size = g1 at hF hS
  generalize w.alloc (.cells #[.slice A1 b1.length c1, .int .i64 b2] 71) = w at hS ⊢
  refine at_run 1 [] [] [1] [pl 1 (.pointer (some ⟨g1, 0, none⟩))] hF hS (by kernel_rfl) (by kernel_rfl) ?_ (fun a w hF hS => ?_)
  · exact obs_nil
  refine at_end [1] [pl 1 (.pointer (some ⟨g1, 0, none⟩))] hF rfl (by kernel_rfl) (fun hF => ?_)
  refine then_n ?_
  refine reg [⟨false, [], vS (Instr.loadAt 40 (.pointer (some ⟨g1, 0, none⟩))), .slice A1 b1.length c1⟩] [none, some (.slice A1 b1.length c1), none, none] [1, 3] [pl 1 (.pointer (some ⟨g1, 0, none⟩)), pl 3 (.int .i64 (b1.length : Int))] hF hS Fol (by kernel_rfl) (by kernel_rfl) (by kernel_rfl) ?_ (fun a w hF hS => ?_)
  · exact obs_cons (ob_load Agg40 (fun _ _ hS => (hS.at_ 0 rfl).cell rfl)) <| obs_nil
  refine seq_cut (fun a w => Fr 44 [pl 1 (.pointer (some ⟨g1, 0, none⟩)), pl 3 (.int .i64 (b1.length : Int))] a ∧ Sep w0 B w (blk g1 71 #[.slice A1 b1.length c1, .int .i64 b2] :: fs) ∧ ((gameroomref_MancalaMay_J1 b1)).bind some = some r) ?_ ?_
  · rintro a w ⟨hF, hS, hm⟩
    unfold gameroomref_MancalaMay_J1 at hm
    refine reg [] [] [1, 3, 4] [pl 1 (.pointer (some ⟨g1, 0, none⟩)), pl 3 (.int .i64 (b1.length : Int)), pl 4 (.int .i64 0)] hF hS Fol (by kernel_rfl) (by kernel_rfl) (by kernel_rfl) ?_ (fun a w hF hS => ?_)
    · exact obs_nil
    refine seq_cut (fun a w => ∃ (sum2 : Int), Fr 44 [pl 4 (.int .i64 sum2)] a ∧ Sep w0 B w (fs) ∧ (gameroomref_MancalaMay_J2 sum2).bind some = some r) ?_ ?_
    · rintro a w ⟨sum2, hF, hS, hm⟩
      unfold gameroomref_MancalaMay_J2 at hm
      refine reg [] [] [2] [pl 2 (.bool (decide (sum2 ≤ 1000)))] hF hS Fol (by kernel_rfl) (by kernel_rfl) (by kernel_rfl) ?_ (fun a w hF hS => ?_)
      · exact obs_nil
      refine wp_ret ?_
      have hm : some (decide (sum2 ≤ 1000)) = some r := hm
      obtain rfl := Option.some.inj hm
      exact retV (rs := [.tmp 2]) (vs := [.bool (decide (sum2 ≤ 1000))]) hF rfl (rv_t (by kernel_rfl) <| rv_nil) rfl ⟨rfl, hS⟩
    · refine reg [] [] [1, 3, 4, 5] [pl 1 (.pointer (some ⟨g1, 0, none⟩)), pl 3 (.int .i64 (b1.length : Int)), pl 4 (.int .i64 0), pl 5 (.int .i64 0)] hF hS Fol (by kernel_rfl) (by kernel_rfl) (by kernel_rfl) ?_ (fun a w hF hS => ?_)
      · exact obs_nil
      refine wp_block ?_
      refine wp_loop_model (S := (Int × Int)) (R := (Fl Int Bool)) (gameroomref_MancalaMay_L1 b1) (fun x => (gameroomref_MancalaMay_K1 x).bind some) r (fun (x : (Int × Int)) a w => Fr 44 [pl 1 (.pointer (some ⟨g1, 0, none⟩)), pl 3 (.int .i64 (b1.length : Int)), pl 4 (.int .i64 x.1), pl 5 (.int .i64 x.2)] a ∧ Sep w0 B w (blk g1 71 #[.slice A1 b1.length c1, .int .i64 b2] :: fs)) (assoc_b hm) ⟨hF.weak [1, 3, 4, 5] (by kernel_rfl), hS⟩ ?_
      clear hF hS hm
      rintro nn1 ⟨sum1, i1⟩ a w ⟨hF, hS⟩ hm
      generalize hφ1 : stK (gameroomref_MancalaMay_L1 b1) nn1 (fun x => (gameroomref_MancalaMay_K1 x).bind some) = φ1 at hm
      unfold gameroomref_MancalaMay_L1 at hm
      dsimp only at hF hS hm
      refine seq_cut (fun a w => Fr 44 [pl 1 (.pointer (some ⟨g1, 0, none⟩)), pl 3 (.int .i64 (b1.length : Int)), pl 4 (.int .i64 sum1), pl 5 (.int .i64 i1)] a ∧ Sep w0 B w (blk g1 71 #[.slice A1 b1.length c1, .int .i64 b2] :: fs) ∧ ((gameroomref_MancalaMay_J3 b1 sum1 i1)).bind φ1 = some r) ?_ ?_
      · rintro a w ⟨hF, hS, hm⟩
        unfold gameroomref_MancalaMay_J3 at hm
        refine seq_cut (fun a w => Fr 44 [pl 1 (.pointer (some ⟨g1, 0, none⟩)), pl 3 (.int .i64 (b1.length : Int)), pl 4 (.int .i64 (w64 (sum1 + (geti b1 i1)))), pl 5 (.int .i64 i1)] a ∧ Sep w0 B w (blk g1 71 #[.slice A1 b1.length c1, .int .i64 b2] :: fs) ∧ ((gameroomref_MancalaMay_J4 b1 sum1 i1)).bind φ1 = some r) ?_ ?_
        · rintro a w ⟨hF, hS, hm⟩
          unfold gameroomref_MancalaMay_J4 at hm
          refine reg1 [] [] [1, 3, 4, 5] [pl 1 (.pointer (some ⟨g1, 0, none⟩)), pl 3 (.int .i64 (b1.length : Int)), pl 4 (.int .i64 (w64 (sum1 + (geti b1 i1)))), pl 5 (.int .i64 (w64 (i1 + 1)))] hF hS Fol (by kernel_rfl) (by kernel_rfl) (by kernel_rfl) ?_ (fun a w hF hS => ?_)
          · exact obs_nil
          refine then_n ?_
          rw [← hφ1] at hm
          exact ⟨((w64 (sum1 + (geti b1 i1))), (w64 (i1 + 1))), ⟨hF.weak [1, 3, 4, 5] (by kernel_rfl), hS⟩, hm⟩
        · refine wp_block ?_
          refine seq_cut (fun a w => Fr 44 [pl 1 (.pointer (some ⟨g1, 0, none⟩)), pl 3 (.int .i64 (b1.length : Int)), pl 4 (.int .i64 sum1), pl 5 (.int .i64 i1)] a ∧ Sep w0 B w (blk g1 71 #[.slice A1 b1.length c1, .int .i64 b2] :: fs) ∧ ((gameroomref_MancalaMay_J5 b1 sum1 i1)).bind φ1 = some r) ?_ ?_
          · rintro a w ⟨hF, hS, hm⟩
            unfold gameroomref_MancalaMay_J5 at hm
            obtain ⟨hp2, hm⟩ := asrt_b hm
            refine reg1 [⟨false, [], vS (Instr.loadAt 40 (.pointer (some ⟨g1, 0, none⟩))), .slice A1 b1.length c1⟩, ⟨true, [], vS (Instr.indexAt 40 (.slice A1 b1.length c1) (.int .i64 i1)), .pointer (some (sAddr A1 i1))⟩, ⟨false, [], vS (Instr.loadAt 3 (.pointer (some (sAddr A1 i1)))), .int .i64 (geti b1 i1)⟩] [none, none, some (.slice A1 b1.length c1), none, some (.pointer (some (sAddr A1 i1))), some (.int .i64 (geti b1 i1)), none, none] [1, 3, 4, 5] [pl 1 (.pointer (some ⟨g1, 0, none⟩)), pl 3 (.int .i64 (b1.length : Int)), pl 4 (.int .i64 (w64 (sum1 + (geti b1 i1)))), pl 5 (.int .i64 i1)] hF hS Fol (by kernel_rfl) (by kernel_rfl) (by kernel_rfl) ?_ (fun a w hF hS => ?_)
            · exact obs_cons (ob_load Agg40 (fun _ _ hS => (hS.at_ 0 rfl).cell rfl)) <| obs_cons (ob_ix1 (f := (Value.int .i64)) (m := b1) Und40 hi3 hs3 (hr_b1 _ (hS.dropN 1)) rfl (fun _ => hp2)) <| obs_cons (ob_get1 (n := b1.length) (m := b1) (Value.int .i64) (0 : Int) Agg3 (fun _ hS => ⟨_, (hr_b1 _ (hS.dropN 1))⟩) (fun _ hS => rfl) (fun _ => hp2)) <| obs_nil
            refine block_n ?_
            refine then_n ?_
            exact ⟨hF.weak [1, 3, 4, 5] (by kernel_rfl), hS, hm⟩
          · obtain ⟨hp1, hm⟩ := asrt_b hm
            obtain ⟨r3, hr3, hm⟩ := call_b hm
            refine reg [⟨false, [], vS (Instr.loadAt 40 (.pointer (some ⟨g1, 0, none⟩))), .slice A1 b1.length c1⟩, ⟨true, [], vS (Instr.indexAt 40 (.slice A1 b1.length c1) (.int .i64 i1)), .pointer (some (sAddr A1 i1))⟩, ⟨false, [], vS (Instr.loadAt 3 (.pointer (some (sAddr A1 i1)))), .int .i64 (geti b1 i1)⟩, ⟨false, [], callFunc 90 #[.int .i64 (geti b1 i1), .int .i64 0, .int .i64 1000], .bool r3⟩] [none, some (.slice A1 b1.length c1), none, some (.pointer (some (sAddr A1 i1))), some (.int .i64 (geti b1 i1)), some (.bool r3), none] [1, 3, 4, 5, 34] [pl 1 (.pointer (some ⟨g1, 0, none⟩)), pl 3 (.int .i64 (b1.length : Int)), pl 4 (.int .i64 sum1), pl 5 (.int .i64 i1), pl 34 (.bool (!r3))] hF hS Fol (by kernel_rfl) (by kernel_rfl) (by kernel_rfl) ?_ (fun a w hF hS => ?_)
            · exact obs_cons (ob_load Agg40 (fun _ _ hS => (hS.at_ 0 rfl).cell rfl)) <| obs_cons (ob_ix1 (f := (Value.int .i64)) (m := b1) Und40 hi3 hs3 (hr_b1 _ (hS.dropN 1)) rfl (fun _ => hp1)) <| obs_cons (ob_get1 (n := b1.length) (m := b1) (Value.int .i64) (0 : Int) Agg3 (fun _ hS => ⟨_, (hr_b1 _ (hS.dropN 1))⟩) (fun _ hS => rfl) (fun _ => hp1)) <| obs_cons (ob_call Try.func90 (by kernel_rfl) rfl (fun _ _ hS => gameroomref_within_w hr3 hS )) <| obs_nil
            refine cond_ev (t := 34) (b := !r3) hF (by kernel_rfl) (fun hb => ?_) (fun hb => ?_)
            · replace hm := if_t hm hb
              refine reg [] [] [2] [pl 2 (.bool false)] hF hS Fol (by kernel_rfl) (by kernel_rfl) (by kernel_rfl) ?_ (fun a w hF hS => ?_)
              · exact obs_nil
              refine wp_ret ?_
              refine then_r (block_r (then_r (then_r (block_r (then_r ?_)))))
              rw [← hφ1] at hm
              replace hm := done_b hm
              unfold gameroomref_MancalaMay_K1 at hm
              try dsimp only at hm
              have hS := hS.pickN 1 [] (by decide)
              have hm : some false = some r := hm
              obtain rfl := Option.some.inj hm
              exact retV (rs := [.tmp 2]) (vs := [.bool false]) hF rfl (rv_t (by kernel_rfl) <| rv_nil) rfl ⟨rfl, hS⟩
            · replace hm := if_f hm hb
              refine wp_skip ?_
              refine then_n ?_
              exact ⟨hF.weak [1, 3, 4, 5] (by kernel_rfl), hS, hm⟩
      · refine reg [] [] [1, 3, 4, 5, 25] [pl 1 (.pointer (some ⟨g1, 0, none⟩)), pl 3 (.int .i64 (b1.length : Int)), pl 4 (.int .i64 sum1), pl 5 (.int .i64 i1), pl 25 (.bool (decide (i1 < (b1.length : Int))))] hF hS Fol (by kernel_rfl) (by kernel_rfl) (by kernel_rfl) ?_ (fun a w hF hS => ?_)
        · exact obs_nil
        refine cond_ev (t := 25) (b := decide (i1 < (b1.length : Int))) hF (by kernel_rfl) (fun hb => ?_) (fun hb => ?_)
        · replace hm := if_t hm hb
          refine wp_skip ?_
          refine then_n ?_
          exact ⟨hF.weak [1, 3, 4, 5] (by kernel_rfl), hS, hm⟩
        · replace hm := if_f hm hb
          refine wp_exit ?_
          refine then_e (then_e (block_e (then_n ?_)))
          have hS := hS.pickN 1 [] (by decide)
          rw [← hφ1] at hm
          replace hm := done_b hm
          unfold gameroomref_MancalaMay_K1 at hm
          try dsimp only at hm
          have hm : (gameroomref_MancalaMay_J2 sum1).bind some = some r := hm
          exact ⟨sum1, hF.weak [4] (by kernel_rfl), hS, hm⟩
  · obtain ⟨r1, hr1, hm⟩ := call_b hm
    obtain ⟨r2, hr2, hm⟩ := call_b hm
    refine reg [⟨false, [], callFunc 90 #[.int .i64 (b1.length : Int), .int .i64 4, .int .i64 14], .bool r1⟩, ⟨false, [((!r1) || ((Int.tmod (b1.length : Int) 2) == 1), false)], vS (Instr.loadAt 3 (.pointer (some ⟨g1, 1, none⟩))), .int .i64 b2⟩, ⟨false, [((!r1) || ((Int.tmod (b1.length : Int) 2) == 1), false)], callFunc 90 #[.int .i64 b2, .int .i64 0, .int .i64 1], .bool r2⟩] [none, some (.bool r1), none, none, none, none, none, none, none, none, some (.int .i64 b2), some (.bool r2), none, none] [1, 3, 22] [pl 1 (.pointer (some ⟨g1, 0, none⟩)), pl 3 (.int .i64 (b1.length : Int)), pl 22 (.bool (((!r1) || ((Int.tmod (b1.length : Int) 2) == 1)) || (!r2)))] hF hS Fol (by kernel_rfl) (by kernel_rfl) (by kernel_rfl) ?_ (fun a w hF hS => ?_)
    · exact obs_cons (ob_call Try.func90 (by kernel_rfl) rfl (fun _ _ hS => gameroomref_within_w hr1 hS )) <| obs_cons (ob_load Agg3 (fun _ _ hS => (hS.at_ 0 rfl).cell rfl)) <| obs_cons (ob_call Try.func90 (by kernel_rfl) rfl (fun hy _ hS => gameroomref_within_w (ite_some hr2 (by rw [show ((!r1) || ((Int.tmod (b1.length : Int) 2) == 1)) = false from hy ((!r1) || ((Int.tmod (b1.length : Int) 2) == 1), false) (by simp)]; try rfl)) hS )) <| obs_nil
    refine cond_ev (t := 22) (b := ((!r1) || ((Int.tmod (b1.length : Int) 2) == 1)) || (!r2)) hF (by kernel_rfl) (fun hb => ?_) (fun hb => ?_)
    · replace hm := if_t hm hb
      refine reg [] [] [2] [pl 2 (.bool false)] hF hS Fol (by kernel_rfl) (by kernel_rfl) (by kernel_rfl) ?_ (fun a w hF hS => ?_)
      · exact obs_nil
      refine wp_ret ?_
      refine then_r ?_
      have hS := hS.pickN 1 [] (by decide)
      have hm : some false = some r := hm
      obtain rfl := Option.some.inj hm
      exact retV (rs := [.tmp 2]) (vs := [.bool false]) hF rfl (rv_t (by kernel_rfl) <| rv_nil) rfl ⟨rfl, hS⟩
    · replace hm := if_f hm hb
      refine wp_skip ?_
      refine then_n ?_
      exact ⟨hF.weak [1, 3] (by kernel_rfl), hS, hm⟩

noncomputable def gameroomlaw_sameInts_J4 (i1 : Int) : Option (St Int (Fl Unit Bool)) :=
  some (.next (w64 (i1 + 1)))

noncomputable def gameroomlaw_sameInts_J3 (a1 : List Int) (b1 : List Int) (i1 : Int) : Option (St Int (Fl Unit Bool)) :=
  asrt (0 ≤ i1 ∧ i1 < (a1.length : Int)) <| asrt (0 ≤ i1 ∧ i1 < (b1.length : Int)) <| if ((geti a1 i1) != (geti b1 i1)) then (some (.done (.ret false))) else ((gameroomlaw_sameInts_J4 i1))

noncomputable def gameroomlaw_sameInts_J2 : Option Bool :=
  some true

noncomputable def gameroomlaw_sameInts_K1 : (Fl Unit Bool) → Option Bool :=
  fun (x : (Fl Unit Bool)) => match x with | .go _ => gameroomlaw_sameInts_J2 | .ret x => some x

noncomputable def gameroomlaw_sameInts_L1 (a1 : List Int) (b1 : List Int) : Int → Option (St Int (Fl Unit Bool)) :=
  fun (x : Int) => match x with | i1 => if (decide (i1 < (a1.length : Int))) then ((gameroomlaw_sameInts_J3 a1 b1 i1)) else (some (.done (.go ())))

noncomputable def gameroomlaw_sameInts_J1 (a1 : List Int) (b1 : List Int) : Option Bool :=
  (loop (gameroomlaw_sameInts_L1 a1 b1) 0).bind gameroomlaw_sameInts_K1

noncomputable def gameroomlaw_sameInts_m (a1 : List Int) (b1 : List Int) : Option Bool :=
  if ((a1.length : Int) != (b1.length : Int)) then (some false) else ((gameroomlaw_sameInts_J1 a1 b1))

set_option maxRecDepth 100000 in
set_option maxHeartbeats 4000000 in
theorem gameroomlaw_sameInts_w {A1 : Option Addr} {c1 : Nat} {n1 : Nat} {a1 : List Int} {A2 : Option Addr} {c2 : Nat} {n2 : Nat} {b1 : List Int} {r : Bool} {w0 w : World} {B : Nat} {fs : List HP} (hm : gameroomlaw_sameInts_m a1 b1 = some r) (hS : Sep w0 B w (fs)) (hr_a1 : RdF w0 B fs A1 (vI a1)) (_hc_a1 : a1.length ≤ c1) (_hn_a1 : n1 = a1.length) (hr_b1 : RdF w0 B fs A2 (vI b1)) (_hc_b1 : b1.length ≤ c2) (_hn_b1 : n2 = b1.length) :
    Calls Try.prog 36 #[.slice A1 n1 c1, .slice A2 n2 c2] w fun e w' => e = .returned (.bool r) ∧ Sep w0 B w' (fs) := by
  obtain ⟨i3, hi3, hz3, hs3, hb3⟩ := info_parts Info3
  obtain rfl := _hn_a1
  obtain rfl := _hn_b1
  unfold gameroomlaw_sameInts_m at hm
  replace hm := start_b hm
  refine enter (l := [.slice A1 a1.length c1, .slice A2 b1.length c2]) (n := 26) Try.func36 rfl rfl (by simp) (fun a hF => ?_)
  refine reg [] [] [0, 1] [pl 0 (.slice A1 a1.length c1), pl 1 (.slice A2 b1.length c2)] hF hS Fol (by kernel_rfl) (by kernel_rfl) (by kernel_rfl) ?_ (fun a w hF hS => ?_)
  · exact obs_nil
  refine seq_cut (fun a w => Fr 26 [pl 0 (.slice A1 a1.length c1), pl 1 (.slice A2 b1.length c2)] a ∧ Sep w0 B w (fs) ∧ ((gameroomlaw_sameInts_J1 a1 b1)).bind some = some r) ?_ ?_
  · rintro a w ⟨hF, hS, hm⟩
    unfold gameroomlaw_sameInts_J1 at hm
    refine seq_cut (fun a w => Fr 26 [] a ∧ Sep w0 B w (fs) ∧ (gameroomlaw_sameInts_J2).bind some = some r) ?_ ?_
    · rintro a w ⟨hF, hS, hm⟩
      unfold gameroomlaw_sameInts_J2 at hm
      refine reg [] [] [4] [pl 4 (.bool true)] hF hS Fol (by kernel_rfl) (by kernel_rfl) (by kernel_rfl) ?_ (fun a w hF hS => ?_)
      · exact obs_nil
      refine wp_ret ?_
      have hm : some true = some r := hm
      obtain rfl := Option.some.inj hm
      exact retV (rs := [.tmp 4]) (vs := [.bool true]) hF rfl (rv_t (by kernel_rfl) <| rv_nil) rfl ⟨rfl, hS⟩
    · refine reg [] [] [0, 1, 5] [pl 0 (.slice A1 a1.length c1), pl 1 (.slice A2 b1.length c2), pl 5 (.int .i64 0)] hF hS Fol (by kernel_rfl) (by kernel_rfl) (by kernel_rfl) ?_ (fun a w hF hS => ?_)
      · exact obs_nil
      refine wp_block ?_
      refine wp_loop_model (S := Int) (R := (Fl Unit Bool)) (gameroomlaw_sameInts_L1 a1 b1) (fun x => (gameroomlaw_sameInts_K1 x).bind some) r (fun (x : Int) a w => Fr 26 [pl 0 (.slice A1 a1.length c1), pl 1 (.slice A2 b1.length c2), pl 5 (.int .i64 x)] a ∧ Sep w0 B w (fs)) (assoc_b hm) ⟨hF.weak [0, 1, 5] (by kernel_rfl), hS⟩ ?_
      clear hF hS hm
      rintro nn1 i1 a w ⟨hF, hS⟩ hm
      generalize hφ1 : stK (gameroomlaw_sameInts_L1 a1 b1) nn1 (fun x => (gameroomlaw_sameInts_K1 x).bind some) = φ1 at hm
      unfold gameroomlaw_sameInts_L1 at hm
      dsimp only at hm
      refine seq_cut (fun a w => Fr 26 [pl 0 (.slice A1 a1.length c1), pl 1 (.slice A2 b1.length c2), pl 5 (.int .i64 i1)] a ∧ Sep w0 B w (fs) ∧ ((gameroomlaw_sameInts_J3 a1 b1 i1)).bind φ1 = some r) ?_ ?_
      · rintro a w ⟨hF, hS, hm⟩
        unfold gameroomlaw_sameInts_J3 at hm
        refine seq_cut (fun a w => Fr 26 [pl 0 (.slice A1 a1.length c1), pl 1 (.slice A2 b1.length c2), pl 5 (.int .i64 i1)] a ∧ Sep w0 B w (fs) ∧ ((gameroomlaw_sameInts_J4 i1)).bind φ1 = some r) ?_ ?_
        · rintro a w ⟨hF, hS, hm⟩
          unfold gameroomlaw_sameInts_J4 at hm
          refine reg1 [] [] [0, 1, 5] [pl 0 (.slice A1 a1.length c1), pl 1 (.slice A2 b1.length c2), pl 5 (.int .i64 (w64 (i1 + 1)))] hF hS Fol (by kernel_rfl) (by kernel_rfl) (by kernel_rfl) ?_ (fun a w hF hS => ?_)
          · exact obs_nil
          refine then_n ?_
          rw [← hφ1] at hm
          exact ⟨(w64 (i1 + 1)), ⟨hF.weak [0, 1, 5] (by kernel_rfl), hS⟩, hm⟩
        · refine wp_block ?_
          obtain ⟨hp1, hm⟩ := asrt_b hm
          obtain ⟨hp2, hm⟩ := asrt_b hm
          refine reg [⟨true, [], vS (Instr.indexAt 40 (.slice A1 a1.length c1) (.int .i64 i1)), .pointer (some (sAddr A1 i1))⟩, ⟨false, [], vS (Instr.loadAt 3 (.pointer (some (sAddr A1 i1)))), .int .i64 (geti a1 i1)⟩, ⟨true, [], vS (Instr.indexAt 40 (.slice A2 b1.length c2) (.int .i64 i1)), .pointer (some (sAddr A2 i1))⟩, ⟨false, [], vS (Instr.loadAt 3 (.pointer (some (sAddr A2 i1)))), .int .i64 (geti b1 i1)⟩] [none, none, some (.pointer (some (sAddr A1 i1))), some (.int .i64 (geti a1 i1)), none, none, some (.pointer (some (sAddr A2 i1))), some (.int .i64 (geti b1 i1)), none] [0, 1, 5, 25] [pl 0 (.slice A1 a1.length c1), pl 1 (.slice A2 b1.length c2), pl 5 (.int .i64 i1), pl 25 (.bool ((geti a1 i1) != (geti b1 i1)))] hF hS Fol (by kernel_rfl) (by kernel_rfl) (by kernel_rfl) ?_ (fun a w hF hS => ?_)
          · exact obs_cons (ob_ix1 (f := (Value.int .i64)) (m := a1) Und40 hi3 hs3 (hr_a1 _ (hS.dropN 0)) rfl (fun _ => hp1)) <| obs_cons (ob_get1 (n := a1.length) (m := a1) (Value.int .i64) (0 : Int) Agg3 (fun _ hS => ⟨_, (hr_a1 _ (hS.dropN 0))⟩) (fun _ hS => rfl) (fun _ => hp1)) <| obs_cons (ob_ix1 (f := (Value.int .i64)) (m := b1) Und40 hi3 hs3 (hr_b1 _ (hS.dropN 0)) rfl (fun _ => hp2)) <| obs_cons (ob_get1 (n := b1.length) (m := b1) (Value.int .i64) (0 : Int) Agg3 (fun _ hS => ⟨_, (hr_b1 _ (hS.dropN 0))⟩) (fun _ hS => rfl) (fun _ => hp2)) <| obs_nil
          refine cond_ev (t := 25) (b := ((geti a1 i1) != (geti b1 i1))) hF (by kernel_rfl) (fun hb => ?_) (fun hb => ?_)
          · replace hm := if_t hm hb
            refine reg [] [] [4] [pl 4 (.bool false)] hF hS Fol (by kernel_rfl) (by kernel_rfl) (by kernel_rfl) ?_ (fun a w hF hS => ?_)
            · exact obs_nil
            refine wp_ret ?_
            refine block_r (then_r (then_r (block_r (then_r ?_))))
            rw [← hφ1] at hm
            replace hm := done_b hm
            unfold gameroomlaw_sameInts_K1 at hm
            try dsimp only at hm
            have hm : some false = some r := hm
            obtain rfl := Option.some.inj hm
            exact retV (rs := [.tmp 4]) (vs := [.bool false]) hF rfl (rv_t (by kernel_rfl) <| rv_nil) rfl ⟨rfl, hS⟩
          · replace hm := if_f hm hb
            refine wp_skip ?_
            refine block_n ?_
            refine then_n ?_
            exact ⟨hF.weak [0, 1, 5] (by kernel_rfl), hS, hm⟩
      · refine reg [] [] [0, 1, 5, 14] [pl 0 (.slice A1 a1.length c1), pl 1 (.slice A2 b1.length c2), pl 5 (.int .i64 i1), pl 14 (.bool (decide (i1 < (a1.length : Int))))] hF hS Fol (by kernel_rfl) (by kernel_rfl) (by kernel_rfl) ?_ (fun a w hF hS => ?_)
        · exact obs_nil
        refine cond_ev (t := 14) (b := decide (i1 < (a1.length : Int))) hF (by kernel_rfl) (fun hb => ?_) (fun hb => ?_)
        · replace hm := if_t hm hb
          refine wp_skip ?_
          refine then_n ?_
          exact ⟨hF.weak [0, 1, 5] (by kernel_rfl), hS, hm⟩
        · replace hm := if_f hm hb
          refine wp_exit ?_
          refine then_e (then_e (block_e (then_n ?_)))
          rw [← hφ1] at hm
          replace hm := done_b hm
          unfold gameroomlaw_sameInts_K1 at hm
          try dsimp only at hm
          have hm : (gameroomlaw_sameInts_J2).bind some = some r := hm
          exact ⟨hF.weak [] (by kernel_rfl), hS, hm⟩
  · refine reg [] [] [0, 1, 10] [pl 0 (.slice A1 a1.length c1), pl 1 (.slice A2 b1.length c2), pl 10 (.bool ((a1.length : Int) != (b1.length : Int)))] hF hS Fol (by kernel_rfl) (by kernel_rfl) (by kernel_rfl) ?_ (fun a w hF hS => ?_)
    · exact obs_nil
    refine cond_ev (t := 10) (b := ((a1.length : Int) != (b1.length : Int))) hF (by kernel_rfl) (fun hb => ?_) (fun hb => ?_)
    · replace hm := if_t hm hb
      refine reg [] [] [4] [pl 4 (.bool false)] hF hS Fol (by kernel_rfl) (by kernel_rfl) (by kernel_rfl) ?_ (fun a w hF hS => ?_)
      · exact obs_nil
      refine wp_ret ?_
      refine then_r ?_
      have hm : some false = some r := hm
      obtain rfl := Option.some.inj hm
      exact retV (rs := [.tmp 4]) (vs := [.bool false]) hF rfl (rv_t (by kernel_rfl) <| rv_nil) rfl ⟨rfl, hS⟩
    · replace hm := if_f hm hb
      refine wp_skip ?_
      refine then_n ?_
      exact ⟨hF.weak [0, 1] (by kernel_rfl), hS, hm⟩

noncomputable def gameroomlaw_MancalaNews_J6 (i1 : Int) (l3 : List Int) : Option (St (List Int × Int) (List Int)) :=
  some (.next (l3, (w64 (i1 + 1))))

noncomputable def gameroomlaw_MancalaNews_J5 (pits1 : Int) (many1 : Int) (l1 : List Int) (i1 : Int) : Option (St (List Int × Int) (List Int)) :=
  asrt ((w64 (pits1 + 1)) ≠ (0 : Int)) <| if ((Int.tmod i1 (w64 (pits1 + 1))) == pits1) then (asrt ((l1.length : Int) + 1 ≤ bigN) <| (gameroomlaw_MancalaNews_J6 i1) (l1 ++ ([0] : List Int))) else (asrt ((l1.length : Int) + 1 ≤ bigN) <| (gameroomlaw_MancalaNews_J6 i1) (l1 ++ ([many1] : List Int)))

noncomputable def gameroomlaw_MancalaNews_L1 (pits1 : Int) (many1 : Int) : (List Int × Int) → Option (St (List Int × Int) (List Int)) :=
  fun (x : (List Int × Int)) => match x with | (l1, i1) => if (decide (i1 < (w64 ((w64 (2 * pits1)) + 2)))) then ((gameroomlaw_MancalaNews_J5 pits1 many1 l1 i1)) else (some (.done l1))

noncomputable def gameroomlaw_MancalaNews_J4 (r1 : (List Int × Int × Int)) (l2 : List Int) : Option Bool :=
  ((if ((r1.2.2 == 0) && (r1.2.1 == 0)) then gameroomlaw_sameInts_m r1.1 l2 else some false)).bind fun r5 => some (((r1.2.2 == 0) && (r1.2.1 == 0)) && r5)

noncomputable def gameroomlaw_MancalaNews_K1 (r1 : (List Int × Int × Int)) : (List Int) → Option Bool :=
  fun (x : (List Int)) => match x with | l2 => (gameroomlaw_MancalaNews_J4 r1) l2

noncomputable def gameroomlaw_MancalaNews_J3 (pits1 : Int) (many1 : Int) (r1 : (List Int × Int × Int)) : Option Bool :=
  (loop (gameroomlaw_MancalaNews_L1 pits1 many1) (([] : List Int), 0)).bind (gameroomlaw_MancalaNews_K1 r1)

noncomputable def gameroomlaw_MancalaNews_J1 (pits1 : Int) (many1 : Int) (r1 : (List Int × Int × Int)) : Option Bool :=
  if ((((decide (pits1 < 1)) || (decide ((6 : Int) < pits1))) || (decide (many1 < 0))) || (decide ((10 : Int) < many1))) then (some (((r1.2.2 == 3) && ((r1.1.length : Int) == 0)) && (r1.2.1 == 0))) else ((gameroomlaw_MancalaNews_J3 pits1 many1 r1))

noncomputable def gameroomlaw_MancalaNews_J2 (pits1 : Int) (many1 : Int) (r1 : (List Int × Int × Int)) (z1 : Bool) : Option Bool :=
  if z1 then (some false) else ((gameroomlaw_MancalaNews_J1 pits1 many1 r1))

noncomputable def gameroomlaw_MancalaNews_m (pits1 : Int) (many1 : Int) (b1 : List Int) (b2 : Int) : Option Bool :=
  (mancala_New_m pits1 many1).bind fun r1 => (gameroomlaw_seeds_m b1 b2).bind fun r2 => (mancala_May_m r2.1 r2.2).bind fun r3 => (gameroomref_MancalaMay_m b1 b2).bind fun r4 => (gameroomlaw_MancalaNews_J2 pits1 many1 r1) (r3 != r4)

set_option maxRecDepth 100000 in
set_option maxHeartbeats 4000000 in
theorem gameroomlaw_MancalaNews_w {pits1 : Int} {many1 : Int} {A1 : Option Addr} {c1 : Nat} {n1 : Nat} {b1 : List Int} {b2 : Int} {r : Bool} {w0 w : World} {B : Nat} {fs : List HP} (hm : gameroomlaw_MancalaNews_m pits1 many1 b1 b2 = some r) (hS : Sep w0 B w (fs)) (hr_b1 : RdF w0 B fs A1 (vI b1)) (_hc_b1 : b1.length ≤ c1) (_hn_b1 : n1 = b1.length) :
    Calls Try.prog 8 #[.int .i64 pits1, .int .i64 many1, .agg #[.slice A1 n1 c1, .int .i64 b2]] w fun e w' => e = .returned (.bool r) ∧ Sep w0 B w' (fs) := by
  obtain ⟨i3, hi3, hz3, hs3, hb3⟩ := info_parts Info3
  obtain rfl := _hn_b1
  unfold gameroomlaw_MancalaNews_m at hm
  replace hm := start_b hm
  refine enter (l := [.int .i64 pits1, .int .i64 many1, .agg #[.slice A1 b1.length c1, .int .i64 b2]]) (n := 83) Try.func8 rfl rfl (by simp) (fun a hF => ?_)
  refine seqR ?_
  refine at_do (d := 5) (s := vS (Instr.box 71 (.agg #[.slice A1 b1.length c1, .int .i64 b2]))) (v := .pointer (some ⟨w.heap.size, 0, none⟩)) (w' := w.alloc (.cells #[.slice A1 b1.length c1, .int .i64 b2] 71)) hF (by kernel_rfl) (by kernel_rfl) (by kernel_rfl) (fun a hF => ?_)
  have hS : Sep w0 B (w.alloc (.cells #[.slice A1 b1.length c1, .int .i64 b2] 71)) (blk w.heap.size 71 #[.slice A1 b1.length c1, .int .i64 b2] :: (fs)) := hS.box 71 #[.slice A1 b1.length c1, .int .i64 b2]
  generalize w.heap.size = g1 at hF hS
  generalize w.alloc (.cells #[.slice A1 b1.length c1, .int .i64 b2] 71) = w at hS ⊢
  refine at_run 1 [] [] [0, 1, 5] [pl 0 (.int .i64 pits1), pl 1 (.int .i64 many1), pl 5 (.pointer (some ⟨g1, 0, none⟩))] hF hS (by kernel_rfl) (by kernel_rfl) ?_ (fun a w hF hS => ?_)
  · exact obs_nil
  refine at_end [0, 1, 5] [pl 0 (.int .i64 pits1), pl 1 (.int .i64 many1), pl 5 (.pointer (some ⟨g1, 0, none⟩))] hF rfl (by kernel_rfl) (fun hF => ?_)
  refine then_n ?_
  refine seqR ?_
  obtain ⟨r1, hr1, hm⟩ := call_b hm
  refine at_run 2 [] [] [0, 1, 5, 12, 13] [pl 0 (.int .i64 pits1), pl 1 (.int .i64 many1), pl 5 (.pointer (some ⟨g1, 0, none⟩)), pl 12 (.int .i64 pits1), pl 13 (.int .i64 many1)] hF hS (by kernel_rfl) (by kernel_rfl) ?_ (fun a w hF hS => ?_)
  · exact obs_nil
  refine at_call (f := 47) (args := #[.int .i64 pits1, .int .i64 many1]) (d := 14) hF (by kernel_rfl) (by kernel_rfl) Try.func47 (by kernel_rfl) rfl (mancala_New_w hr1 hS ) (fun v a w hR hF => ?_)
  clear hS
  obtain ⟨A2, c2, rfl, hS⟩ := hR
  have hS : Sep w0 B w (own 3 (.slice A2 r1.1.length c2) (vI r1.1) :: blk g1 71 #[.slice A1 b1.length c1, .int .i64 b2] :: fs) := hS
  refine at_run 3 [] [] [0, 1, 5, 15, 16] [pl 0 (.int .i64 pits1), pl 1 (.int .i64 many1), pl 5 (.pointer (some ⟨g1, 0, none⟩)), pl 15 (.agg #[.slice A2 r1.1.length c2, .int .i64 r1.2.1]), pl 16 (.int .i64 r1.2.2)] hF hS (by kernel_rfl) (by kernel_rfl) ?_ (fun a w hF hS => ?_)
  · exact obs_nil
  refine at_do (d := 7) (s := vS (Instr.alloc 71 true (.tuple #[]))) (v := .pointer (some ⟨w.heap.size, 0, none⟩)) (w' := w.alloc (.cells #[.slice none 0 0, .int .i64 0] 71)) hF (by kernel_rfl) (by kernel_rfl) (by kernel_rfl) (fun a hF => ?_)
  have hS : Sep w0 B (w.alloc (.cells #[.slice none 0 0, .int .i64 0] 71)) (blk w.heap.size 71 #[.slice none 0 0, .int .i64 0] :: (own 3 (.slice A2 r1.1.length c2) (vI r1.1) :: blk g1 71 #[.slice A1 b1.length c1, .int .i64 b2] :: fs)) := hS.box 71 #[.slice none 0 0, .int .i64 0]
  generalize w.heap.size = g2 at hF hS
  generalize w.alloc (.cells #[.slice none 0 0, .int .i64 0] 71) = w at hS ⊢
  obtain ⟨w, hrun, hS⟩ := run_putA (P := Try.prog) (t := 71) (us := #[.slice A2 r1.1.length c2, .int .i64 r1.2.1]) (o := 0) (hS.at_ 0 rfl) (by kernel_rfl) (all_one (by kernel_rfl)) (Nat.le_of_ble_eq_true (by kernel_rfl))
  refine at_skip hF (by kernel_rfl) hrun ?_
  have hS : Sep w0 B w (blk g2 71 #[.slice A2 r1.1.length c2, .int .i64 r1.2.1] :: own 3 (.slice A2 r1.1.length c2) (vI r1.1) :: blk g1 71 #[.slice A1 b1.length c1, .int .i64 b2] :: fs) := hS
  refine at_run 1 [] [] [0, 1, 5, 7, 8] [pl 0 (.int .i64 pits1), pl 1 (.int .i64 many1), pl 5 (.pointer (some ⟨g1, 0, none⟩)), pl 7 (.pointer (some ⟨g2, 0, none⟩)), pl 8 (.int .i64 r1.2.2)] hF hS (by kernel_rfl) (by kernel_rfl) ?_ (fun a w hF hS => ?_)
  · exact obs_nil
  refine at_end [0, 1, 5, 7, 8] [pl 0 (.int .i64 pits1), pl 1 (.int .i64 many1), pl 5 (.pointer (some ⟨g1, 0, none⟩)), pl 7 (.pointer (some ⟨g2, 0, none⟩)), pl 8 (.int .i64 r1.2.2)] hF rfl (by kernel_rfl) (fun hF => ?_)
  refine then_n ?_
  refine seq_cut (fun a w => Fr 83 [pl 0 (.int .i64 pits1), pl 1 (.int .i64 many1), pl 7 (.pointer (some ⟨g2, 0, none⟩)), pl 8 (.int .i64 r1.2.2)] a ∧ Sep w0 B w (blk g2 71 #[.slice A2 r1.1.length c2, .int .i64 r1.2.1] :: own 3 (.slice A2 r1.1.length c2) (vI r1.1) :: fs) ∧ ((gameroomlaw_MancalaNews_J1 pits1 many1 r1)).bind some = some r) ?_ ?_
  · rintro a w ⟨hF, hS, hm⟩
    unfold gameroomlaw_MancalaNews_J1 at hm
    refine seq_cut (fun a w => Fr 83 [pl 0 (.int .i64 pits1), pl 1 (.int .i64 many1), pl 7 (.pointer (some ⟨g2, 0, none⟩)), pl 8 (.int .i64 r1.2.2)] a ∧ Sep w0 B w (blk g2 71 #[.slice A2 r1.1.length c2, .int .i64 r1.2.1] :: own 3 (.slice A2 r1.1.length c2) (vI r1.1) :: fs) ∧ ((gameroomlaw_MancalaNews_J3 pits1 many1 r1)).bind some = some r) ?_ ?_
    · rintro a w ⟨hF, hS, hm⟩
      unfold gameroomlaw_MancalaNews_J3 at hm
      refine reg [] [] [0, 1, 7, 8, 9] [pl 0 (.int .i64 pits1), pl 1 (.int .i64 many1), pl 7 (.pointer (some ⟨g2, 0, none⟩)), pl 8 (.int .i64 r1.2.2), pl 9 (.slice none 0 0)] hF hS Fol (by kernel_rfl) (by kernel_rfl) (by kernel_rfl) ?_ (fun a w hF hS => ?_)
      · exact obs_nil
      refine seq_cut (fun a w => ∃ (l2 : List Int) (A6 : Option Addr) (c6 : Nat), Fr 83 [pl 7 (.pointer (some ⟨g2, 0, none⟩)), pl 8 (.int .i64 r1.2.2), pl 9 (.slice A6 l2.length c6)] a ∧ Sep w0 B w (blk g2 71 #[.slice A2 r1.1.length c2, .int .i64 r1.2.1] :: own 3 (.slice A2 r1.1.length c2) (vI r1.1) :: own 3 (.slice A6 l2.length c6) (vI l2) :: fs) ∧ ((gameroomlaw_MancalaNews_J4 r1) l2).bind some = some r) ?_ ?_
      · rintro a w ⟨l2, A6, c6, hF, hS, hm⟩
        unfold gameroomlaw_MancalaNews_J4 at hm
        obtain ⟨r5, hr5, hm⟩ := call_b hm
        refine reg [⟨false, [((r1.2.2 == 0), true)], vS (Instr.loadAt 3 (.pointer (some ⟨g2, 1, none⟩))), .int .i64 r1.2.1⟩, ⟨false, [((r1.2.2 == 0) && (r1.2.1 == 0), true)], vS (Instr.loadAt 40 (.pointer (some ⟨g2, 0, none⟩))), .slice A2 r1.1.length c2⟩, ⟨false, [((r1.2.2 == 0) && (r1.2.1 == 0), true)], callFunc 36 #[.slice A2 r1.1.length c2, .slice A6 l2.length c6], .bool r5⟩] [none, none, none, none, some (.int .i64 r1.2.1), none, none, none, none, some (.slice A2 r1.1.length c2), none, some (.bool r5), none, none] [6] [pl 6 (.bool (((r1.2.2 == 0) && (r1.2.1 == 0)) && r5))] hF hS Fol (by kernel_rfl) (by kernel_rfl) (by kernel_rfl) ?_ (fun a w hF hS => ?_)
        · exact obs_cons (ob_load Agg3 (fun _ _ hS => (hS.at_ 0 rfl).cell rfl)) <| obs_cons (ob_load Agg40 (fun _ _ hS => (hS.at_ 0 rfl).cell rfl)) <| obs_cons (ob_call Try.func36 (by kernel_rfl) rfl (fun hy _ hS => gameroomlaw_sameInts_w (ite_some hr5 (by rw [show ((r1.2.2 == 0) && (r1.2.1 == 0)) = true from hy ((r1.2.2 == 0) && (r1.2.1 == 0), true) (by simp)]; try rfl)) hS (fun _ hS => (hS.at_ 1 rfl).rd) ((hS.at_ 1 rfl).cap1) rfl (fun _ hS => (hS.at_ 2 rfl).rd) ((hS.at_ 2 rfl).cap1) rfl)) <| obs_nil
        refine wp_ret ?_
        have hS := hS.pickN 3 [] (by decide)
        have hm : some (((r1.2.2 == 0) && (r1.2.1 == 0)) && r5) = some r := hm
        obtain rfl := Option.some.inj hm
        exact retV (rs := [.tmp 6]) (vs := [.bool (((r1.2.2 == 0) && (r1.2.1 == 0)) && r5)]) hF rfl (rv_t (by kernel_rfl) <| rv_nil) rfl ⟨rfl, hS⟩
      · refine reg [] [] [0, 1, 7, 8, 9, 10] [pl 0 (.int .i64 pits1), pl 1 (.int .i64 many1), pl 7 (.pointer (some ⟨g2, 0, none⟩)), pl 8 (.int .i64 r1.2.2), pl 9 (.slice none 0 0), pl 10 (.int .i64 0)] hF hS Fol (by kernel_rfl) (by kernel_rfl) (by kernel_rfl) ?_ (fun a w hF hS => ?_)
        · exact obs_nil
        refine wp_block ?_
        have hS : Sep w0 B w (own 3 (.slice none 0 0) (vI ([] : List Int)) :: blk g2 71 #[.slice A2 r1.1.length c2, .int .i64 r1.2.1] :: own 3 (.slice A2 r1.1.length c2) (vI r1.1) :: fs) := hS.nil 3
        have hl1 := (hS.at_ 0 rfl).len1
        have hS := (hS.at_ 0 rfl).reN hl1
        have hS : Sep w0 B w (own 3 (.slice none (([] : List Int).length) 0) (vI ([] : List Int)) :: blk g2 71 #[.slice A2 r1.1.length c2, .int .i64 r1.2.1] :: own 3 (.slice A2 r1.1.length c2) (vI r1.1) :: fs) := hS
        have hF := hF.cast (t := 9) (v := .slice none 0 0) (v' := .slice none (([] : List Int).length) 0) rfl rfl (congrArg (fun k => Value.slice none k 0) hl1)
        have hS := hS.pickN 3 [1, 2, 0] (by decide)
        refine wp_loop_model (S := (List Int × Int)) (R := (List Int)) (gameroomlaw_MancalaNews_L1 pits1 many1) (fun x => ((gameroomlaw_MancalaNews_K1 r1) x).bind some) r (fun (x : (List Int × Int)) a w => ∃ (A5 : Option Addr) (c5 : Nat), Fr 83 [pl 0 (.int .i64 pits1), pl 1 (.int .i64 many1), pl 7 (.pointer (some ⟨g2, 0, none⟩)), pl 8 (.int .i64 r1.2.2), pl 9 (.slice A5 x.1.length c5), pl 10 (.int .i64 x.2)] a ∧ Sep w0 B w (blk g2 71 #[.slice A2 r1.1.length c2, .int .i64 r1.2.1] :: own 3 (.slice A2 r1.1.length c2) (vI r1.1) :: own 3 (.slice A5 x.1.length c5) (vI x.1) :: fs)) (assoc_b hm) ⟨none, 0, hF.weak [0, 1, 7, 8, 9, 10] (by kernel_rfl), hS⟩ ?_
        clear hF hS hm
        rintro nn1 ⟨l1, i1⟩ a w ⟨A5, c5, hF, hS⟩ hm
        generalize hφ1 : stK (gameroomlaw_MancalaNews_L1 pits1 many1) nn1 (fun x => ((gameroomlaw_MancalaNews_K1 r1) x).bind some) = φ1 at hm
        unfold gameroomlaw_MancalaNews_L1 at hm
        dsimp only at hF hS hm
        refine seq_cut (fun a w => Fr 83 [pl 0 (.int .i64 pits1), pl 1 (.int .i64 many1), pl 7 (.pointer (some ⟨g2, 0, none⟩)), pl 8 (.int .i64 r1.2.2), pl 9 (.slice A5 l1.length c5), pl 10 (.int .i64 i1)] a ∧ Sep w0 B w (blk g2 71 #[.slice A2 r1.1.length c2, .int .i64 r1.2.1] :: own 3 (.slice A2 r1.1.length c2) (vI r1.1) :: own 3 (.slice A5 l1.length c5) (vI l1) :: fs) ∧ ((gameroomlaw_MancalaNews_J5 pits1 many1 l1 i1)).bind φ1 = some r) ?_ ?_
        · rintro a w ⟨hF, hS, hm⟩
          unfold gameroomlaw_MancalaNews_J5 at hm
          refine seq_cut (fun a w => ∃ (l3 : List Int) (A8 : Option Addr) (c8 : Nat), Fr 83 [pl 0 (.int .i64 pits1), pl 1 (.int .i64 many1), pl 7 (.pointer (some ⟨g2, 0, none⟩)), pl 8 (.int .i64 r1.2.2), pl 9 (.slice A8 l3.length c8), pl 10 (.int .i64 i1)] a ∧ Sep w0 B w (blk g2 71 #[.slice A2 r1.1.length c2, .int .i64 r1.2.1] :: own 3 (.slice A2 r1.1.length c2) (vI r1.1) :: own 3 (.slice A8 l3.length c8) (vI l3) :: fs) ∧ ((gameroomlaw_MancalaNews_J6 i1) l3).bind φ1 = some r) ?_ ?_
          · rintro a w ⟨l3, A8, c8, hF, hS, hm⟩
            unfold gameroomlaw_MancalaNews_J6 at hm
            refine reg1 [] [] [0, 1, 7, 8, 9, 10] [pl 0 (.int .i64 pits1), pl 1 (.int .i64 many1), pl 7 (.pointer (some ⟨g2, 0, none⟩)), pl 8 (.int .i64 r1.2.2), pl 9 (.slice A8 l3.length c8), pl 10 (.int .i64 (w64 (i1 + 1)))] hF hS Fol (by kernel_rfl) (by kernel_rfl) (by kernel_rfl) ?_ (fun a w hF hS => ?_)
            · exact obs_nil
            refine then_n ?_
            rw [← hφ1] at hm
            exact ⟨(l3, (w64 (i1 + 1))), ⟨A8, c8, hF.weak [0, 1, 7, 8, 9, 10] (by kernel_rfl), hS⟩, hm⟩
          · refine wp_block ?_
            obtain ⟨hp1, hm⟩ := asrt_b hm
            refine reg [⟨true, [], vS (Op.intDiv .rem .i64 i1 (w64 (pits1 + 1))), .int .i64 (Int.tmod i1 (w64 (pits1 + 1)))⟩] [none, none, none, some (.int .i64 (Int.tmod i1 (w64 (pits1 + 1)))), none, none] [0, 1, 7, 8, 9, 10, 62] [pl 0 (.int .i64 pits1), pl 1 (.int .i64 many1), pl 7 (.pointer (some ⟨g2, 0, none⟩)), pl 8 (.int .i64 r1.2.2), pl 9 (.slice A5 l1.length c5), pl 10 (.int .i64 i1), pl 62 (.bool ((Int.tmod i1 (w64 (pits1 + 1))) == pits1))] hF hS Fol (by kernel_rfl) (by kernel_rfl) (by kernel_rfl) ?_ (fun a w hF hS => ?_)
            · exact obs_cons (ob_rem rfl (fun _ => hp1)) <| obs_nil
            refine cond_ev (t := 62) (b := ((Int.tmod i1 (w64 (pits1 + 1))) == pits1)) hF (by kernel_rfl) (fun hb => ?_) (fun hb => ?_)
            · replace hm := if_t hm hb
              refine oneR ?_
              obtain ⟨hp2, hm⟩ := asrt_b hm
              refine at_run 1 [] [] [0, 1, 7, 8, 10, 63] [pl 0 (.int .i64 pits1), pl 1 (.int .i64 many1), pl 7 (.pointer (some ⟨g2, 0, none⟩)), pl 8 (.int .i64 r1.2.2), pl 10 (.int .i64 i1), pl 63 (.slice A5 l1.length c5)] hF hS (by kernel_rfl) (by kernel_rfl) ?_ (fun a w hF hS => ?_)
              · exact obs_nil
              refine at_do (d := 64) (s := vS (Instr.buildSlice 40 1 #[(0, .int .i64 0)])) (v := .slice (some ⟨w.heap.size, 0, none⟩) 1 1) (w' := w.alloc (.cells #[.int .i64 0] 3)) hF (by kernel_rfl) (by kernel_rfl) (by kernel_rfl) (fun a hF => ?_)
              have hS : Sep w0 B (w.alloc (.cells #[.int .i64 0] 3)) (own 3 (.slice (some (⟨w.heap.size, 0, none⟩ : Addr)) 1 1) (vI ([0] : List Int)) :: (blk g2 71 #[.slice A2 r1.1.length c2, .int .i64 r1.2.1] :: own 3 (.slice A2 r1.1.length c2) (vI r1.1) :: own 3 (.slice A5 l1.length c5) (vI l1) :: fs)) := hS.lit 3 #[.int .i64 0] 1 rfl (by omega)
              generalize (some (⟨w.heap.size, 0, none⟩ : Addr)) = g3 at hF hS
              generalize w.alloc (.cells #[.int .i64 0] 3) = w at hS ⊢
              obtain ⟨A7, c7, w, hrun, hS⟩ := run_app1 (P := Try.prog) (t := 40) (m := l1) (ys := ([0] : List Int)) (A2 := g3) (m2 := 1) (c2 := 1) (Value.int .i64) (0 : Int) (hS.at_ 3 rfl) (hS.at_ 0 rfl).rd ((hS.at_ 0 rfl).len1) 40 Und40 hi3 hz3 hs3 (by omega) rfl (fun _ => rfl) hp2
              have hS : Sep w0 B w (own 3 (.slice g3 1 1) (vI ([0] : List Int)) :: blk g2 71 #[.slice A2 r1.1.length c2, .int .i64 r1.2.1] :: own 3 (.slice A2 r1.1.length c2) (vI r1.1) :: own 3 (.slice A7 ((l1 ++ ([0] : List Int)).length) c7) (vI (l1 ++ ([0] : List Int))) :: fs) := hS
              refine at_do (d := 65) hF (by kernel_rfl) (by kernel_rfl) hrun (fun a hF => ?_)
              refine at_run 1 [] [] [0, 1, 7, 8, 9, 10] [pl 0 (.int .i64 pits1), pl 1 (.int .i64 many1), pl 7 (.pointer (some ⟨g2, 0, none⟩)), pl 8 (.int .i64 r1.2.2), pl 9 (.slice A7 ((l1 ++ ([0] : List Int)).length) c7), pl 10 (.int .i64 i1)] hF hS (by kernel_rfl) (by kernel_rfl) ?_ (fun a w hF hS => ?_)
              · exact obs_nil
              refine at_end [0, 1, 7, 8, 9, 10] [pl 0 (.int .i64 pits1), pl 1 (.int .i64 many1), pl 7 (.pointer (some ⟨g2, 0, none⟩)), pl 8 (.int .i64 r1.2.2), pl 9 (.slice A7 ((l1 ++ ([0] : List Int)).length) c7), pl 10 (.int .i64 i1)] hF rfl (by kernel_rfl) (fun hF => ?_)
              refine block_n ?_
              refine then_n ?_
              have hS := hS.pickN 4 [1, 2, 3] (by decide)
              exact ⟨(l1 ++ ([0] : List Int)), A7, c7, hF.weak [0, 1, 7, 8, 9, 10] (by kernel_rfl), hS, hm⟩
            · replace hm := if_f hm hb
              refine oneR ?_
              obtain ⟨hp3, hm⟩ := asrt_b hm
              refine at_run 2 [] [] [0, 1, 7, 8, 10, 66, 67] [pl 0 (.int .i64 pits1), pl 1 (.int .i64 many1), pl 7 (.pointer (some ⟨g2, 0, none⟩)), pl 8 (.int .i64 r1.2.2), pl 10 (.int .i64 i1), pl 66 (.slice A5 l1.length c5), pl 67 (.int .i64 many1)] hF hS (by kernel_rfl) (by kernel_rfl) ?_ (fun a w hF hS => ?_)
              · exact obs_nil
              refine at_do (d := 68) (s := vS (Instr.buildSlice 40 1 #[(0, .int .i64 many1)])) (v := .slice (some ⟨w.heap.size, 0, none⟩) 1 1) (w' := w.alloc (.cells #[.int .i64 many1] 3)) hF (by kernel_rfl) (by kernel_rfl) (by kernel_rfl) (fun a hF => ?_)
              have hS : Sep w0 B (w.alloc (.cells #[.int .i64 many1] 3)) (own 3 (.slice (some (⟨w.heap.size, 0, none⟩ : Addr)) 1 1) (vI ([many1] : List Int)) :: (blk g2 71 #[.slice A2 r1.1.length c2, .int .i64 r1.2.1] :: own 3 (.slice A2 r1.1.length c2) (vI r1.1) :: own 3 (.slice A5 l1.length c5) (vI l1) :: fs)) := hS.lit 3 #[.int .i64 many1] 1 rfl (by omega)
              generalize (some (⟨w.heap.size, 0, none⟩ : Addr)) = g4 at hF hS
              generalize w.alloc (.cells #[.int .i64 many1] 3) = w at hS ⊢
              obtain ⟨A9, c9, w, hrun, hS⟩ := run_app1 (P := Try.prog) (t := 40) (m := l1) (ys := ([many1] : List Int)) (A2 := g4) (m2 := 1) (c2 := 1) (Value.int .i64) (0 : Int) (hS.at_ 3 rfl) (hS.at_ 0 rfl).rd ((hS.at_ 0 rfl).len1) 40 Und40 hi3 hz3 hs3 (by omega) rfl (fun _ => rfl) hp3
              have hS : Sep w0 B w (own 3 (.slice g4 1 1) (vI ([many1] : List Int)) :: blk g2 71 #[.slice A2 r1.1.length c2, .int .i64 r1.2.1] :: own 3 (.slice A2 r1.1.length c2) (vI r1.1) :: own 3 (.slice A9 ((l1 ++ ([many1] : List Int)).length) c9) (vI (l1 ++ ([many1] : List Int))) :: fs) := hS
              refine at_do (d := 69) hF (by kernel_rfl) (by kernel_rfl) hrun (fun a hF => ?_)
              refine at_run 1 [] [] [0, 1, 7, 8, 9, 10] [pl 0 (.int .i64 pits1), pl 1 (.int .i64 many1), pl 7 (.pointer (some ⟨g2, 0, none⟩)), pl 8 (.int .i64 r1.2.2), pl 9 (.slice A9 ((l1 ++ ([many1] : List Int)).length) c9), pl 10 (.int .i64 i1)] hF hS (by kernel_rfl) (by kernel_rfl) ?_ (fun a w hF hS => ?_)
              · exact obs_nil
              refine at_end [0, 1, 7, 8, 9, 10] [pl 0 (.int .i64 pits1), pl 1 (.int .i64 many1), pl 7 (.pointer (some ⟨g2, 0, none⟩)), pl 8 (.int .i64 r1.2.2), pl 9 (.slice A9 ((l1 ++ ([many1] : List Int)).length) c9), pl 10 (.int .i64 i1)] hF rfl (by kernel_rfl) (fun hF => ?_)
              refine block_n ?_
              refine then_n ?_
              have hS := hS.pickN 4 [1, 2, 3] (by decide)
              exact ⟨(l1 ++ ([many1] : List Int)), A9, c9, hF.weak [0, 1, 7, 8, 9, 10] (by kernel_rfl), hS, hm⟩
        · refine reg [] [] [0, 1, 7, 8, 9, 10, 54] [pl 0 (.int .i64 pits1), pl 1 (.int .i64 many1), pl 7 (.pointer (some ⟨g2, 0, none⟩)), pl 8 (.int .i64 r1.2.2), pl 9 (.slice A5 l1.length c5), pl 10 (.int .i64 i1), pl 54 (.bool (decide (i1 < (w64 ((w64 (2 * pits1)) + 2)))))] hF hS Fol (by kernel_rfl) (by kernel_rfl) (by kernel_rfl) ?_ (fun a w hF hS => ?_)
          · exact obs_nil
          refine cond_ev (t := 54) (b := decide (i1 < (w64 ((w64 (2 * pits1)) + 2)))) hF (by kernel_rfl) (fun hb => ?_) (fun hb => ?_)
          · replace hm := if_t hm hb
            refine wp_skip ?_
            refine then_n ?_
            exact ⟨hF.weak [0, 1, 7, 8, 9, 10] (by kernel_rfl), hS, hm⟩
          · replace hm := if_f hm hb
            refine wp_exit ?_
            refine then_e (then_e (block_e (then_n ?_)))
            rw [← hφ1] at hm
            replace hm := done_b hm
            unfold gameroomlaw_MancalaNews_K1 at hm
            try dsimp only at hm
            have hm : ((gameroomlaw_MancalaNews_J4 r1) l1).bind some = some r := hm
            exact ⟨l1, A5, c5, hF.weak [7, 8, 9] (by kernel_rfl), hS, hm⟩
    · refine reg [] [] [0, 1, 7, 8, 36] [pl 0 (.int .i64 pits1), pl 1 (.int .i64 many1), pl 7 (.pointer (some ⟨g2, 0, none⟩)), pl 8 (.int .i64 r1.2.2), pl 36 (.bool ((((decide (pits1 < 1)) || (decide ((6 : Int) < pits1))) || (decide (many1 < 0))) || (decide ((10 : Int) < many1))))] hF hS Fol (by kernel_rfl) (by kernel_rfl) (by kernel_rfl) ?_ (fun a w hF hS => ?_)
      · exact obs_nil
      refine cond_ev (t := 36) (b := (((decide (pits1 < 1)) || (decide ((6 : Int) < pits1))) || (decide (many1 < 0))) || (decide ((10 : Int) < many1))) hF (by kernel_rfl) (fun hb => ?_) (fun hb => ?_)
      · replace hm := if_t hm hb
        refine reg [⟨false, [((r1.2.2 == 3), true)], vS (Instr.loadAt 40 (.pointer (some ⟨g2, 0, none⟩))), .slice A2 r1.1.length c2⟩, ⟨false, [((r1.2.2 == 3) && ((r1.1.length : Int) == 0), true)], vS (Instr.loadAt 3 (.pointer (some ⟨g2, 1, none⟩))), .int .i64 r1.2.1⟩] [none, none, none, none, some (.slice A2 r1.1.length c2), none, none, none, none, none, some (.int .i64 r1.2.1), none, none, none] [6] [pl 6 (.bool (((r1.2.2 == 3) && ((r1.1.length : Int) == 0)) && (r1.2.1 == 0)))] hF hS Fol (by kernel_rfl) (by kernel_rfl) (by kernel_rfl) ?_ (fun a w hF hS => ?_)
        · exact obs_cons (ob_load Agg40 (fun _ _ hS => (hS.at_ 0 rfl).cell rfl)) <| obs_cons (ob_load Agg3 (fun _ _ hS => (hS.at_ 0 rfl).cell rfl)) <| obs_nil
        refine wp_ret ?_
        refine then_r ?_
        have hS := hS.pickN 2 [] (by decide)
        have hm : some (((r1.2.2 == 3) && ((r1.1.length : Int) == 0)) && (r1.2.1 == 0)) = some r := hm
        obtain rfl := Option.some.inj hm
        exact retV (rs := [.tmp 6]) (vs := [.bool (((r1.2.2 == 3) && ((r1.1.length : Int) == 0)) && (r1.2.1 == 0))]) hF rfl (rv_t (by kernel_rfl) <| rv_nil) rfl ⟨rfl, hS⟩
      · replace hm := if_f hm hb
        refine wp_skip ?_
        refine then_n ?_
        exact ⟨hF.weak [0, 1, 7, 8] (by kernel_rfl), hS, hm⟩
  · refine seq_cut (fun a w => ∃ (z1 : Bool), Fr 83 [pl 0 (.int .i64 pits1), pl 1 (.int .i64 many1), pl 7 (.pointer (some ⟨g2, 0, none⟩)), pl 8 (.int .i64 r1.2.2), pl 22 (.bool z1)] a ∧ Sep w0 B w (blk g2 71 #[.slice A2 r1.1.length c2, .int .i64 r1.2.1] :: own 3 (.slice A2 r1.1.length c2) (vI r1.1) :: fs) ∧ ((gameroomlaw_MancalaNews_J2 pits1 many1 r1) z1).bind some = some r) ?_ ?_
    · rintro a w ⟨z1, hF, hS, hm⟩
      unfold gameroomlaw_MancalaNews_J2 at hm
      refine cond_ev (t := 22) (b := z1) hF (by kernel_rfl) (fun hb => ?_) (fun hb => ?_)
      · replace hm := if_t hm hb
        refine reg [] [] [6] [pl 6 (.bool false)] hF hS Fol (by kernel_rfl) (by kernel_rfl) (by kernel_rfl) ?_ (fun a w hF hS => ?_)
        · exact obs_nil
        refine wp_ret ?_
        refine then_r ?_
        have hS := hS.pickN 2 [] (by decide)
        have hm : some false = some r := hm
        obtain rfl := Option.some.inj hm
        exact retV (rs := [.tmp 6]) (vs := [.bool false]) hF rfl (rv_t (by kernel_rfl) <| rv_nil) rfl ⟨rfl, hS⟩
      · replace hm := if_f hm hb
        refine wp_skip ?_
        refine then_n ?_
        exact ⟨hF.weak [0, 1, 7, 8] (by kernel_rfl), hS, hm⟩
    · obtain ⟨r2, hr2, hm⟩ := call_b hm
      obtain ⟨r3, hr3, hm⟩ := call_b hm
      obtain ⟨r4, hr4, hm⟩ := call_b hm
      refine regMix5 [0, 3] [] 4 #[true, false, false, true, false, false] [⟨false, [], vS (Instr.loadAt 71 (.pointer (some ⟨g1, 0, none⟩))), .agg #[.slice A1 b1.length c1, .int .i64 b2]⟩, ⟨false, [], vS (Instr.loadAt 71 (.pointer (some ⟨g1, 0, none⟩))), .agg #[.slice A1 b1.length c1, .int .i64 b2]⟩] [some (.agg #[.slice A1 b1.length c1, .int .i64 b2]), some (.agg #[.slice A1 b1.length c1, .int .i64 b2])] [0, 1, 7, 8, 17, 20] [pl 0 (.int .i64 pits1), pl 1 (.int .i64 many1), pl 7 (.pointer (some ⟨g2, 0, none⟩)), pl 8 (.int .i64 r1.2.2), pl 17 (.agg #[.slice A1 b1.length c1, .int .i64 b2]), pl 20 (.agg #[.slice A1 b1.length c1, .int .i64 b2])] hF hS Fol (by kernel_rfl) (by kernel_rfl) (by kernel_rfl) (by kernel_rfl) ?_ (fun a w hF hS => ?_)
      · exact obs_cons (ob_loadA (cs := #[.slice A1 b1.length c1, .int .i64 b2]) (by kernel_rfl) (by kernel_rfl) (fun _ _ hS => (hS.at_ 2 rfl).cellsAt 0 (by rfl))) <| obs_cons (ob_loadA (cs := #[.slice A1 b1.length c1, .int .i64 b2]) (by kernel_rfl) (by kernel_rfl) (fun _ _ hS => (hS.at_ 2 rfl).cellsAt 0 (by rfl))) <| obs_nil
      refine any_step [1] (by kernel_rfl) rfl ?_
      refine (all_cons ?_ all_nil)
      · refine any_op (listed' := #[true, true, false, true, false, false]) (by kernel_rfl) (by kernel_rfl) ?_
        refine at_call (f := 49) (args := #[.agg #[.slice A1 b1.length c1, .int .i64 b2]]) (d := 18) hF (by kernel_rfl) (by kernel_rfl) Try.func49 (by kernel_rfl) rfl (gameroomlaw_seeds_w hr2 hS (fun _ hS => (hr_b1 _ (hS.dropN 3))) _hc_b1 rfl) (fun v a w hR hF => ?_)
        clear hS
        obtain ⟨A4, c4, rfl, hS⟩ := hR
        have hS : Sep w0 B w (own 3 (.slice A4 r2.1.length c4) (vI r2.1) :: blk g2 71 #[.slice A2 r1.1.length c2, .int .i64 r1.2.1] :: own 3 (.slice A2 r1.1.length c2) (vI r1.1) :: blk g1 71 #[.slice A1 b1.length c1, .int .i64 b2] :: fs) := hS
        refine any_fin rfl (hS.pickN 4 [1, 2, 3] (by decide)) ?_
        refine any_step [2] (by kernel_rfl) rfl ?_
        refine (all_cons ?_ all_nil)
        · refine any_op (listed' := #[true, true, true, true, false, false]) (by kernel_rfl) (by kernel_rfl) ?_
          refine at_run 1 [⟨false, [], callFunc 48 #[.agg #[.slice A4 r2.1.length c4, .int .i64 r2.2]], .bool r3⟩] [some (.bool r3)] [0, 1, 7, 8, 19, 20] [pl 0 (.int .i64 pits1), pl 1 (.int .i64 many1), pl 7 (.pointer (some ⟨g2, 0, none⟩)), pl 8 (.int .i64 r1.2.2), pl 19 (.bool r3), pl 20 (.agg #[.slice A1 b1.length c1, .int .i64 b2])] hF hS (by kernel_rfl) (by kernel_rfl) ?_ (fun a w hF hS => ?_)
          · exact obs_cons (ob_call Try.func48 (by kernel_rfl) rfl (fun _ _ hS => mancala_May_w hr3 hS (fun _ hS => (hS.at_ 0 rfl).rd) ((hS.at_ 0 rfl).cap1) rfl)) <| obs_nil
          refine any_fin rfl (hS.pickN 4 [1, 2, 3] (by decide)) ?_
          refine any_step [4] (by kernel_rfl) rfl ?_
          refine (all_cons ?_ all_nil)
          · refine any_op (listed' := #[true, true, true, true, true, false]) (by kernel_rfl) (by kernel_rfl) ?_
            refine at_run 1 [⟨false, [], callFunc 50 #[.agg #[.slice A1 b1.length c1, .int .i64 b2]], .bool r4⟩] [some (.bool r4)] [0, 1, 7, 8, 19, 21] [pl 0 (.int .i64 pits1), pl 1 (.int .i64 many1), pl 7 (.pointer (some ⟨g2, 0, none⟩)), pl 8 (.int .i64 r1.2.2), pl 19 (.bool r3), pl 21 (.bool r4)] hF hS (by kernel_rfl) (by kernel_rfl) ?_ (fun a w hF hS => ?_)
            · exact obs_cons (ob_call Try.func50 (by kernel_rfl) rfl (fun _ _ hS => gameroomref_MancalaMay_w hr4 hS (fun _ hS => (hr_b1 _ (hS.dropN 4))) _hc_b1 rfl)) <| obs_nil
            refine any_fin rfl (hS.pickN 4 [1, 2, 3] (by decide)) ?_
            refine any_step [5] (by kernel_rfl) rfl ?_
            refine (all_cons ?_ all_nil)
            · refine any_op (listed' := #[true, true, true, true, true, true]) (by kernel_rfl) (by kernel_rfl) ?_
              refine at_runW 1 [] [] [0, 1, 7, 8, 22] [pl 0 (.int .i64 pits1), pl 1 (.int .i64 many1), pl 7 (.pointer (some ⟨g2, 0, none⟩)), pl 8 (.int .i64 r1.2.2), pl 22 (.bool (r3 != r4))] hF hS (by kernel_rfl) (by kernel_rfl) ?_ (fun a hF => ?_)
              · exact obs_nil
              refine any_finI rfl (fun h => h) ?_
              refine any_end (by kernel_rfl) ?_
              refine np_n ?_
              refine then_n ?_
              have hS := hS.pickN 4 [1, 2] (by decide)
              exact ⟨(r3 != r4), hF.weak [0, 1, 7, 8, 22] (by kernel_rfl), hS, hm⟩

end Go.Proofs.Ytbmhcapeikebgaa
