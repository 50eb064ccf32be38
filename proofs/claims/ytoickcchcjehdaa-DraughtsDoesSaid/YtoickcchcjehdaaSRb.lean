/-
  slices.Compare at []int: what it tells; the world is as it was.
-/
import Derived.Test.YtoickcchcjehdaaSRa
import Derived.Lib.Small
import Derived.Lib.Walk
import Derived.Lib.SlBy
import Derived.Shelf.SlicesE.Kit
namespace Go.Proofs.Ytoickcchcjehdaa
open Go Go.GL Go.Shelf Go.RowKit Go.Lib Go.Sort Go.Proofs

theorem isNaNI (x : Int) (w : World) : Calls Try.prog 260 #[.int .i64 x] w fun e w' => e = .returned (.bool false) ∧ w' = w := by
  go_enter Try.func260, Try.ntmps260
  go_wp2
  go_ret
  exact ⟨by simp, rfl⟩

set_option maxHeartbeats 1000000 in
theorem compareI (x y : Int) (w : World) : Calls Try.prog 211 #[.int .i64 x, .int .i64 y] w fun e w' => e = .returned (.int .i64 (cmpI x y)) ∧ w' = w := by
  go_enter Try.func211, Try.ntmps211
  go_wp2_with (go_at_call 260; refine (isNaNI _ _).mono ?_; rintro e w' ⟨rfl, hw⟩; rw [hw])
  all_goals (go_ret; refine ⟨?_, rfl⟩; unfold cmpI; (repeat' split) <;> first | rfl | (exfalso; omega))

theorem cmpL_step {x y : List Int} {k : Nat} (hx : k < x.length) (hy : k < y.length) : cmpL (x.drop k) (y.drop k) = if cmpI x[k]! y[k]! = 0 then cmpL (x.drop (k + 1)) (y.drop (k + 1)) else cmpI x[k]! y[k]! := by
  rw [List.drop_eq_getElem_cons hx, List.drop_eq_getElem_cons hy, getElem!_pos x k hx, getElem!_pos y k hy]
  show (if x[k] < y[k] then -1 else if y[k] < x[k] then 1 else cmpL (x.drop (k + 1)) (y.drop (k + 1))) = _
  unfold cmpI
  by_cases h1 : x[k] < y[k]
  · simp [h1]
  · by_cases h2 : y[k] < x[k]
    · simp [h1, h2]
    · simp [h1, h2]

set_option maxHeartbeats 2000000 in
theorem cmpR_both (b1 o1 b2 o2 c1 c2 : Nat) (x y : List Int) (W : World) (hx : ∀ j, j < x.length → W.cell? ⟨b1, o1 + j, none⟩ = some (.int .i64 x[j]!)) (hy : ∀ j, j < y.length → W.cell? ⟨b2, o2 + j, none⟩ = some (.int .i64 y[j]!)) (lx : x.length ≤ 9223372036854775807) (_ly : y.length ≤ 9223372036854775807) :
    Calls Try.prog 133 #[.slice (some ⟨b1, o1, none⟩) x.length c1, .slice (some ⟨b2, o2, none⟩) y.length c2] W fun e w' => e = .returned (.int .i64 (cmpL x y)) ∧ w' = W := by
  generalize hR : cmpL x y = R
  generalize hnx : x.length = nx at *
  generalize hny : y.length = ny at *
  go_enter Try.func133, Try.ntmps133
  go_wp2
  go_loop [5, 6, 7, 8, 11] (fun _ _ _ _ i => ∃ k : Nat, k ≤ nx ∧ k ≤ ny ∧ i = .int .i64 k ∧ cmpL (x.drop k) (y.drop k) = R) (fun _ _ _ _ i => match i with | .int _ m => nx - m.toNat | _ => 0)
  case atStart => exact ⟨0, Nat.zero_le _, Nat.zero_le _, rfl, hR⟩
  case round =>
    obtain ⟨k, hk, hk2, rfl, hq⟩ := hrel
    have hcx : k < nx → W.cell? ⟨b1, o1 + k, none⟩ = some (.int .i64 x[k]!) := fun h => hx k h
    have hcy : ¬ ny ≤ k → W.cell? ⟨b2, o2 + k, none⟩ = some (.int .i64 y[k]!) := fun h => hy k (by omega)
    have hs : k < nx → k < ny → R = if cmpI x[k]! y[k]! = 0 then cmpL (x.drop (k + 1)) (y.drop (k + 1)) else cmpI x[k]! y[k]! := fun h1 h2 => by rw [← hq]; exact cmpL_step (by omega) (by omega)
    generalize x[k]! = xv at hcx hs
    generalize y[k]! = yv at hcy hs
    have hxe : k < nx → k = ny → R = 1 := fun h1 h2 => by
      rw [← hq, h2, ← hny, List.drop_length, List.drop_eq_getElem_cons (by omega)]
      rfl
    have hye : k = nx → R = if nx < ny then -1 else 0 := fun h1 => by
      rw [← hq, h1, ← hnx, List.drop_length]
      by_cases h : x.length < ny
      · rw [if_pos h, List.drop_eq_getElem_cons (by omega)]
        rfl
      · rw [if_neg h, List.drop_eq_nil_of_le (by omega)]
        rfl
    clear hx hy
    go_wp2_with (go_at_call 211; refine (compareI _ _ _).mono ?_; rintro e w' ⟨rfl, hw⟩; rw [hw])
    · have e := hxe (by assumption) (by omega)
      go_ret
      exact ⟨by rw [e]; rfl, rfl⟩
    · have hne : (cmpI xv yv != 0) = true := by assumption
      have e := hs (by assumption) (by omega)
      rw [if_neg (by simpa using hne)] at e
      go_ret
      exact ⟨by rw [e]; rfl, rfl⟩
    · have hne : (cmpI xv yv != 0) = false := by assumption
      have e := hs (by assumption) (by omega)
      rw [if_pos (by simpa using hne)] at e
      have hlt : k < nx := by assumption
      refine ⟨⟨k + 1, by omega, by omega, rfl, e.symm⟩, ?_⟩
      show nx - ((k : Int) + 1).toNat < nx - (k : Int).toNat
      omega
    · have e := hye (by omega)
      have hlt : nx < ny := by assumption
      rw [if_pos hlt] at e
      go_ret
      exact ⟨by rw [e]; rfl, rfl⟩
    · have e := hye (by omega)
      have hlt : ¬ nx < ny := by assumption
      rw [if_neg hlt] at e
      go_ret
      exact ⟨by rw [e]; rfl, rfl⟩

set_option maxHeartbeats 2000000 in
theorem cmpR_nilx (A1 A2 : Option Addr) (c1 c2 : Nat) (y : List Int) (W : World) : Calls Try.prog 133 #[.slice A1 0 c1, .slice A2 y.length c2] W fun e w' => e = .returned (.int .i64 (cmpL [] y)) ∧ w' = W := by
  have hR : cmpL [] y = if 0 < y.length then -1 else 0 := by
    cases y <;> rfl
  generalize cmpL [] y = R at hR ⊢
  generalize y.length = ny at *
  go_enter Try.func133, Try.ntmps133
  go_wp2
  go_loop [5, 6, 7, 8, 11] (fun _ _ _ _ i => i = .int .i64 0) (fun _ _ _ _ _ => 0)
  case atStart => exact rfl
  case round =>
    obtain rfl := hrel
    go_wp2
    · have hlt : 0 < ny := by omega
      rw [if_pos hlt] at hR
      go_ret
      exact ⟨rfl, rfl⟩
    · have hlt : ¬ 0 < ny := by omega
      rw [if_neg hlt] at hR
      go_ret
      exact ⟨rfl, rfl⟩

set_option maxHeartbeats 2000000 in
theorem cmpR_nily (b1 o1 c1 c2 : Nat) (A2 : Option Addr) (x : List Int) (hne : x ≠ []) (W : World) (hx : ∀ j, j < x.length → W.cell? ⟨b1, o1 + j, none⟩ = some (.int .i64 x[j]!)) (lx : x.length ≤ 9223372036854775807) : Calls Try.prog 133 #[.slice (some ⟨b1, o1, none⟩) x.length c1, .slice A2 0 c2] W fun e w' => e = .returned (.int .i64 (cmpL x [])) ∧ w' = W := by
  have hR : cmpL x [] = 1 := by
    cases x with
    | nil => exact absurd rfl hne
    | cons _ _ => rfl
  have hpos : 0 < x.length := List.length_pos_iff.2 hne
  rw [hR]
  have h0 := hx 0 hpos
  rw [Nat.add_zero] at h0
  generalize x[0]! = x0 at h0
  clear hx hR hne
  generalize x.length = nx at *
  go_enter Try.func133, Try.ntmps133
  go_wp2
  go_loop [5, 6, 7, 8, 11] (fun _ _ _ _ i => i = .int .i64 0) (fun _ _ _ _ _ => 0)
  case atStart => exact rfl
  case round =>
    obtain rfl := hrel
    go_wp2
    · go_ret
      exact ⟨rfl, rfl⟩

theorem SortRC : CmpR Try.prog 133 := fun A1 A2 c1 c2 x y W hx hy lx ly => by
  have lx' : x.length ≤ 9223372036854775807 := Nat.le_trans lx (by decide)
  have ly' : y.length ≤ 9223372036854775807 := Nat.le_trans ly (by decide)
  have fin : ∀ {w' : World}, w' = W → ∃ q os', w' = grow (W.drewN q) os' := fun h => ⟨0, #[], by rw [h, grow_empty]; rfl⟩
  rcases hx with rfl | ⟨b1, o1, rfl, hx⟩
  · exact (cmpR_nilx A1 A2 c1 c2 y W).mono fun e w' h => ⟨h.1, fin h.2⟩
  · by_cases hx0 : x = []
    · subst hx0
      exact (cmpR_nilx _ A2 c1 c2 y W).mono fun e w' h => ⟨h.1, fin h.2⟩
    · rcases hy with rfl | ⟨b2, o2, rfl, hy⟩
      · exact (cmpR_nily b1 o1 c1 c2 A2 x hx0 W hx lx').mono fun e w' h => ⟨h.1, fin h.2⟩
      · exact (cmpR_both b1 o1 b2 o2 c1 c2 x y W hx hy lx' ly').mono fun e w' h => ⟨h.1, fin h.2⟩
theorem SortRE : ∀ args w, (callFunc 133 args).run Try.prog w = .ok (.enter 133 args) w := fun args w => run_enter Try.func133 (by kernel_rfl) rfl args w
end Go.Proofs.Ytoickcchcjehdaa
