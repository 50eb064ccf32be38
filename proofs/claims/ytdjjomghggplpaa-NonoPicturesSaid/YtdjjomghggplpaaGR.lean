/-
  Room for rows: slices.Grow of a nil [][]int, walked by hand.
-/
import Derived.Test.YtdjjomghggplpaaFB
import Derived.Test.YtdjjomghggplpaaLibLs
import Derived.Test.YtdjjomghggplpaaLibP
namespace Go.Proofs.Ytdjjomghggplpaa
open Go Go.GL Go.RowKit
set_option maxRecDepth 100000 in
set_option maxHeartbeats 4000000 in
theorem growH_own {n1 : Int} {w0 w : World} {B : Nat} {fs : List HP} (hb : 0 ≤ n1 ∧ n1 ≤ bigR) (hS : Sep w0 B w (fs)) :
    Calls Try.prog 153 #[.slice none 0 0, .int .i64 n1] w fun e w' => ∃ v, e = .returned v ∧ ∃ (A3 : Option Addr) (c3 : Nat), v = .slice A3 ([] : List (List Int)).length c3 ∧ (([] : List (List Int)) = []) ∧ Sep w0 B w' (hdrs 22 A3 ([] : List (List Int)).length c3 [] [] :: fs) := by
  obtain ⟨i9, hi9, hz9, hs9, hb9⟩ := info_parts Info22
  have hw : (w64 (n1 - (w64 (0 - 0)))) = n1 := by rw [w64_of (x := 0 - 0) (by omega), w64_of (by unfold bigR at hb; omega)]; omega
  refine enter (l := [.slice none 0 0, .int .i64 n1]) (n := 27) Try.func153 rfl rfl (by simp) (fun a hF => ?_)
  refine reg [] [] [0, 1] [pl 0 (.slice none 0 0), pl 1 (.int .i64 n1)] hF hS Fol (by kernel_rfl) (by kernel_rfl) (by kernel_rfl) ?_ (fun a w hF hS => ?_)
  · exact obs_nil
  refine seq_cut (fun a w => Fr 27 [pl 0 (.slice none 0 0), pl 1 (.int .i64 n1)] a ∧ Sep w0 B w (fs)) ?_ ?_
  · rintro a w ⟨hF, hS⟩
    refine seq_cut (fun a w => ∃ (A2 : Option Addr) (c2 : Nat), Fr 27 [pl 0 (.slice A2 0 c2)] a ∧ Sep w0 B w (hdrs 22 A2 0 c2 [] [] :: fs)) ?_ ?_
    · rintro a w ⟨A2, c2, hF, hS⟩
      refine reg [] [] [4] [pl 4 (.slice A2 0 c2)] hF hS Fol (by kernel_rfl) (by kernel_rfl) (by kernel_rfl) ?_ (fun a w hF hS => ?_)
      · exact obs_nil
      refine wpIn_ret ?_
      exact retV (rs := [.tmp 4]) (vs := [.slice A2 0 c2]) hF rfl (rv_t (by kernel_rfl) <| rv_nil) rfl ⟨_, rfl, A2, c2, rfl, rfl, hS⟩
    · refine reg [] [] [0, 1] [pl 0 (.slice none 0 0), pl 1 (.int .i64 (w64 (n1 - (w64 (0 - 0)))))] hF hS Fol (by kernel_rfl) (by kernel_rfl) (by kernel_rfl) ?_ (fun a w hF hS => ?_)
      · exact obs_nil
      refine reg [] [] [0, 1, 16] [pl 0 (.slice none 0 0), pl 1 (.int .i64 (w64 (n1 - (w64 (0 - 0))))), pl 16 (.bool (decide ((0 : Int) < (w64 (n1 - (w64 (0 - 0)))))))] hF hS Fol (by kernel_rfl) (by kernel_rfl) (by kernel_rfl) ?_ (fun a w hF hS => ?_)
      · exact obs_nil
      refine cond_ev (t := 16) (b := decide ((0 : Int) < (w64 (n1 - (w64 (0 - 0)))))) hF (by kernel_rfl) (fun hbb => ?_) (fun hbb => ?_)
      · refine oneR ?_
        have hp1 : (0 : Int) ≤ (w64 (n1 - (w64 (0 - 0)))) ∧ (w64 (n1 - (w64 (0 - 0)))) ≤ bigR := by rw [hw]; exact hb
        have hp2 : 0 ≤ (0 : Int) ∧ (0 : Int) ≤ (0 : Int) ∧ (0 : Int) ≤ (((List.replicate (Int.toNat (w64 (n1 - (w64 (0 - 0))))) ()).length : Nat) : Int) := ⟨by omega, by omega, by omega⟩
        refine at_run 5 [⟨true, [], vS (Instr.sliceAt 36 (.slice none 0 0) none (some (.int .i64 0)) none), .slice none 0 0⟩] [none, none, none, some (.slice none 0 0), none] [0, 20, 21] [pl 0 (.slice none 0 0), pl 20 (.slice none 0 0), pl 21 (.int .i64 (w64 (n1 - (w64 (0 - 0)))))] hF hS (by kernel_rfl) (by kernel_rfl) ?_ (fun a w hF hS => ?_)
        · exact obs_cons (ob_cut (k := .i64) (k' := .i64) (A := none) (l := ([] : List Int)) (c := 0) (lo := 0) (hi := 0) Und36 hi9 hs9 (.inr ⟨rfl, rfl⟩) (.inl rfl) (fun _ => by simp) (Nat.le_refl _)) <| obs_nil
        obtain ⟨A1, c1, w, hrun, hS⟩ := run_app0R (P := Try.prog) (t := 36) (tx := 3) (ty := 36) hS Und36 Try.underlying3 hi9 hz9 hs9 hb9 hp1
        have hS : Sep w0 B w (own 22 (.slice A1 ((List.replicate (Int.toNat (w64 (n1 - (w64 (0 - 0))))) ()).length) c1) ((List.replicate (Int.toNat (w64 (n1 - (w64 (0 - 0))))) ()).map nilV) :: fs) := hS
        refine at_do (d := 22) hF (by kernel_rfl) (by kernel_rfl) hrun (fun a hF => ?_)
        refine at_run 4 [⟨true, [], vS (Instr.sliceAt 36 (.slice A1 ((List.replicate (Int.toNat (w64 (n1 - (w64 (0 - 0))))) ()).length) c1) none (some (.int .i64 (0 : Int))) none), .slice (cutAddr A1 c1 (0 : Int)) ((cut (List.replicate (Int.toNat (w64 (n1 - (w64 (0 - 0))))) ()) (0 : Int) (0 : Int)).length) (c1 - Int.toNat (0 : Int))⟩] [none, none, some (.slice (cutAddr A1 c1 (0 : Int)) ((cut (List.replicate (Int.toNat (w64 (n1 - (w64 (0 - 0))))) ()) (0 : Int) (0 : Int)).length) (c1 - Int.toNat (0 : Int))), none] [0] [pl 0 (.slice (cutAddr A1 c1 (0 : Int)) ((cut (List.replicate (Int.toNat (w64 (n1 - (w64 (0 - 0))))) ()) (0 : Int) (0 : Int)).length) (c1 - Int.toNat (0 : Int)))] hF hS (by kernel_rfl) (by kernel_rfl) ?_ (fun a w hF hS => ?_)
        · exact obs_cons (ob_cutn (l := (List.replicate (Int.toNat (w64 (n1 - (w64 (0 - 0))))) ())) (k := .i64) (k' := .i64) Und36 hi9 hs9 rfl (.inr ⟨rfl, rfl⟩) (.inl rfl) (fun _ => hp2) ((hS.at_ 0 rfl).cap1)) <| obs_nil
        refine at_end [0] [pl 0 (.slice (cutAddr A1 c1 (0 : Int)) ((cut (List.replicate (Int.toNat (w64 (n1 - (w64 (0 - 0))))) ()) (0 : Int) (0 : Int)).length) (c1 - Int.toNat (0 : Int)))] hF rfl (by kernel_rfl) (fun hF => ?_)
        refine then_n ?_
        have hS := (hS.at_ 0 rfl).prefixN (lo := 0) (hi := 0) rfl hp2
        have hnil : cut (List.replicate (Int.toNat (w64 (n1 - (w64 (0 - 0))))) ()) (0 : Int) (0 : Int) = [] := by simp [cut]
        rw [hnil] at hF hS
        exact ⟨_, _, hF.weak [0] (by kernel_rfl), (hS.at_ 0 rfl).toHdr0 rfl rfl⟩
      · refine wpIn_skip ?_
        refine then_n ?_
        have hS : Sep w0 B w (hdrs 22 none 0 0 [] [] :: fs) := hS.nilHdr 22
        exact ⟨none, 0, hF.weak [0] (by kernel_rfl), hS⟩
  · refine reg [] [] [0, 1, 6] [pl 0 (.slice none 0 0), pl 1 (.int .i64 n1), pl 6 (.bool (decide (n1 < 0)))] hF hS Fol (by kernel_rfl) (by kernel_rfl) (by kernel_rfl) ?_ (fun a w hF hS => ?_)
    · exact obs_nil
    refine cond_ev (t := 6) (b := decide (n1 < 0)) hF (by kernel_rfl) (fun hbb => ?_) (fun hbb => ?_)
    · rw [decide_eq_true_eq] at hbb
      omega
    · refine wpIn_skip ?_
      refine then_n ?_
      exact ⟨hF.weak [0, 1] (by kernel_rfl), hS⟩
end Go.Proofs.Ytdjjomghggplpaa
