/-
  The shelf's laying of slices.SortFunc at this program's moves (printed by the kit's own command, in plain words).
-/
import Derived.Test.YtjfloofoobllaaaLibSJ
import Derived.Lib.Small
import Derived.Lib.Walk
import Derived.Lib.SlBy
import Derived.Shelf.SlicesE.Kit
import Derived.Test.YtjfloofoobllaaaFB
import Derived.Test.YtjfloofoobllaaaLibSF
namespace Go.Proofs.Ytjfloofoobllaaa
open Go Go.GL Go.Shelf Go.Lib Go.Sort Go.RowKit Go.Proofs

def SortFR : Go.Shelf.Ren := ⟨fun | 6 => 132 | 15 => 94 | 14 => 154 | 28 => 127 | 29 => 128 | 20 => 160 | 21 => 161 | 22 => 162 | 23 => 163 | 24 => 164 | 25 => 165 | 26 => 166 | 27 => 167 | 46 => 169 | 47 => 147 | 48 => 148 | 49 => 170 | 50 => 171 | 57 => 172 | n => n, fun | 22 => 114 | 24 => 119 | 25 => 181 | 3 => 3 | 39 => 146 | 0 => 0 | 53 => 173 | 55 => 175 | 4 => 4 | 46 => 166 | 45 => 165 | 50 => 58 | 5 => 5 | 9 => 9 | 66 => 190 | 70 => 194 | 76 => 209 | 77 => 210 | n => n, fun | n => n⟩
theorem SortFL : Go.Proofs.SlLaysF0.n6 Try.prog SortFR := {
  mixed := by kernel_rfl
  f6 := ⟨Try.f132.name, by decide, Try.func132.trans (congrArg some (by kernel_rfl))⟩
  f14 := ⟨Try.f154.name, by decide, Try.func154.trans (congrArg some (by kernel_rfl))⟩
  f15 := Try.func94.trans (congrArg some (by kernel_rfl))
  f20 := ⟨Try.f160.name, by decide, Try.func160.trans (congrArg some (by kernel_rfl))⟩
  f21 := ⟨Try.f161.name, by decide, Try.func161.trans (congrArg some (by kernel_rfl))⟩
  f22 := ⟨Try.f162.name, by decide, Try.func162.trans (congrArg some (by kernel_rfl))⟩
  f23 := ⟨Try.f163.name, by decide, Try.func163.trans (congrArg some (by kernel_rfl))⟩
  f24 := ⟨Try.f164.name, by decide, Try.func164.trans (congrArg some (by kernel_rfl))⟩
  f25 := ⟨Try.f165.name, by decide, Try.func165.trans (congrArg some (by kernel_rfl))⟩
  f26 := ⟨Try.f166.name, by decide, Try.func166.trans (congrArg some (by kernel_rfl))⟩
  f27 := ⟨Try.f167.name, by decide, Try.func167.trans (congrArg some (by kernel_rfl))⟩
  f28 := Try.func127.trans (congrArg some (by kernel_rfl))
  f29 := Try.func128.trans (congrArg some (by kernel_rfl))
  f46 := ⟨Try.f169.name, by decide, Try.func169.trans (congrArg some (by kernel_rfl))⟩
  f47 := Try.func147.trans (congrArg some (by kernel_rfl))
  f48 := Try.func148.trans (congrArg some (by kernel_rfl))
  f49 := ⟨Try.f170.name, by decide, Try.func170.trans (congrArg some (by kernel_rfl))⟩
  f50 := ⟨Try.f171.name, by decide, Try.func171.trans (congrArg some (by kernel_rfl))⟩
  f57 := ⟨Try.f172.name, by decide, Try.func172.trans (congrArg some (by kernel_rfl))⟩
  t0 := Try.underlying0
  a0 := Try.isAgg0
  z0 := Try.sizeOf0
  v0 := Try.zeroValue0
  t3 := Try.underlying3
  a3 := Try.isAgg3
  z3 := Try.sizeOf3
  v3 := Try.zeroValue3
  t4 := Try.underlying4
  a4 := Try.isAgg4
  z4 := Try.sizeOf4
  v4 := Try.zeroValue4
  t5 := Try.underlying5
  a5 := Try.isAgg5
  z5 := Try.sizeOf5
  v5 := Try.zeroValue5
  t9 := Try.underlying9
  a9 := Try.isAgg9
  z9 := Try.sizeOf9
  v9 := Try.zeroValue9
  t22 := Try.underlying114
  a22 := Try.isAgg114
  z22 := Try.sizeOf114
  v22 := Try.zeroValue114
  t25 := Try.underlying181
  a25 := Try.isAgg181
  z25 := Try.sizeOf181
  v25 := Try.zeroValue181
  t39 := Try.underlying146
  a39 := Try.isAgg146
  z39 := Try.sizeOf146
  v39 := Try.zeroValue146
  t45 := Try.underlying165
  a45 := Try.isAgg165
  z45 := Try.sizeOf165
  v45 := Try.zeroValue165
  t46 := Try.underlying166
  a46 := Try.isAgg166
  z46 := Try.sizeOf166
  v46 := Try.zeroValue166
  t50 := Try.underlying58
  a50 := Try.isAgg58
  z50 := Try.sizeOf58
  v50 := Try.zeroValue58
  t53 := Try.underlying173
  a53 := Try.isAgg173
  z53 := Try.sizeOf173
  v53 := Try.zeroValue173
  t55 := Try.underlying175
  a55 := Try.isAgg175
  z55 := Try.sizeOf175
  v55 := Try.zeroValue175
  t66 := Try.underlying190
  a66 := Try.isAgg190
  z66 := Try.sizeOf190
  v66 := Try.zeroValue190
  t70 := Try.underlying194
  a70 := Try.isAgg194
  z70 := Try.sizeOf194
  v70 := Try.zeroValue194
  t76 := Try.underlying209
  a76 := Try.isAgg209
  z76 := Try.sizeOf209
  v76 := Try.zeroValue209
  t77 := Try.underlying210
  a77 := Try.isAgg210
  z77 := Try.sizeOf210
  v77 := Try.zeroValue210 }
theorem orI_hit (zs : List Int) {k : Nat} (hk : k < 2) (hne : ∀ j, j < k → zs[j]! = 0) (h : zs[k]! ≠ 0) : zs[k]! = orI zs[0]! zs[1]! := by
  have : k = 0 ∨ k = 1 := by omega
  unfold orI
  rcases this with rfl | rfl
  · rw [if_neg h]
  · rw [if_pos (hne 0 (by omega))]
theorem orI_miss (zs : List Int) (hne : ∀ j, j < 2 → zs[j]! = 0) : orI zs[0]! zs[1]! = 0 := by
  unfold orI
  rw [if_pos (hne 0 (by omega)), hne 1 (by omega)]

set_option maxHeartbeats 1000000 in
theorem orI2 (b off : Nat) (zs : List Int) (hz : zs.length = 2) (w : World) (hc : ∀ j, j < zs.length → w.cell? ⟨b, off + j, none⟩ = some (.int .i64 zs[j]!)) :
    Calls Try.prog 111 #[.slice (some ⟨b, off, none⟩) 2 2] w fun e w' => e = .returned (.int .i64 (orI zs[0]! zs[1]!)) ∧ w' = w := by
  generalize hR : orI zs[0]! zs[1]! = R
  go_enter Try.func111, Try.ntmps111
  go_wp2
  go_loop [5, 8] (fun _ i => ∃ k : Nat, k ≤ 2 ∧ i = .int .i64 k ∧ ∀ j, j < k → zs[j]! = 0) (fun _ i => match i with | .int _ m => 2 - m.toNat | _ => 0)
  case atStart => exact ⟨0, Nat.zero_le _, rfl, fun j hj => absurd hj (Nat.not_lt_zero _)⟩
  case round =>
    obtain ⟨k, hk, rfl, hne⟩ := hrel
    have hcell : k < 2 → w.cell? ⟨b, off + k, none⟩ = some (.int .i64 zs[k]!) := fun _ => hc k (by omega)
    generalize hx : zs[k]! = x at hcell
    go_wp2
    · have hlt : k < 2 := by omega
      have hq : (x != 0) = true := by assumption
      go_ret
      refine ⟨?_, rfl⟩
      rw [← hR, ← orI_hit zs hlt hne (by rw [hx]; simpa using hq), hx]
      rfl
    · have hlt : k < 2 := by omega
      have hq0 : (x != 0) = false := by assumption
      have hq : x = 0 := by simpa using hq0
      refine ⟨⟨k + 1, by omega, rfl, fun j hj => ?_⟩, ?_⟩
      · by_cases e : j = k
        · subst e
          rw [hx]; exact hq
        · exact hne j (by omega)
      · show 2 - ((k : Int) + 1).toNat < 2 - (k : Int).toNat
        omega
    · have : k = 2 := by omega
      subst this
      go_ret
      refine ⟨?_, rfl⟩
      rw [← hR, orI_miss zs hne]
      rfl

theorem isNaNI (x : Int) (w : World) : Calls Try.prog 143 #[.int .i64 x] w fun e w' => e = .returned (.bool false) ∧ w' = w := by
  go_enter Try.func143, Try.ntmps143
  go_wp2
  go_ret
  exact ⟨by simp, rfl⟩

set_option maxHeartbeats 1000000 in
theorem compareI (x y : Int) (w : World) : Calls Try.prog 113 #[.int .i64 x, .int .i64 y] w fun e w' => e = .returned (.int .i64 (cmpI x y)) ∧ w' = w := by
  go_enter Try.func113, Try.ntmps113
  go_wp2_with (go_at_call 143; refine (isNaNI _ _).mono ?_; rintro e w' ⟨rfl, hw⟩; rw [hw])
  all_goals (go_ret; refine ⟨?_, rfl⟩; unfold cmpI; (repeat' split) <;> first | rfl | (exfalso; omega))

/-! Rules for regions over whatever class of worlds that draws do not leave. -/
theorem regMix5C {P : Program} {Q : Exit → Act → World → Prop} {l : List Oper} {a : Act} {w : World} {Ds : List Nat} {ro : Option Nat} {C : World → Prop} {n : Nat} {ρ : Env} {id : Nat} (hs ts : List Nat) (m : Nat) (l1 : Array Bool) (obs : List Ob) (orc : List (Option Value)) (sl : List Nat) (τ : Env) (hF : FrD Ds n ρ a) (hS : C w) (hdraw : ∀ w, C w → C w.drew)
    (hfol : P.follows .mixedOrders = true) (hB : (Region.noSelect l.toArray && decide (hs.length + m = l.toArray.size) && headsB5 l.toArray ts hs (Array.replicate l.toArray.size false) l1) = true) (hh : hs.map (l[·]?) = (sel? l hs).map some) (hdst : dstOk n (sel? l hs) = true)
    (hev : (evR P l.toArray (sel? l hs) orc ρ).map (fun x => (x.1.sel sl, x.2)) = some (τ, obs)) (hob : ∀ b ∈ obs, b.holds P C true)
    (hK : ∀ a' w', FrD Ds n τ a' → C w' → wpAnyG P l.toArray (noPanic Q) C (effT ts) m l1 a' w') : (Code.region id l.toArray true).wpIn (RF ro) 9 P Q a w := by
  cases hx : evR P l.toArray (sel? l hs) orc ρ with
  | none => rw [hx] at hev; simp at hev
  | some x =>
    rw [hx] at hev
    simp at hev
    obtain ⟨ρ1, obs1⟩ := x
    simp only at hev
    obtain ⟨e1, rfl⟩ := hev
    simp only [Bool.and_eq_true, decide_eq_true_eq] at hB
    obtain ⟨⟨hsel, hlen⟩, hheads⟩ := hB
    refine Go.Code.wpIn_mono (Q := noPanic Q) (fun e a w h => by cases e <;> first | exact h | exact h.elim) ?_
    refine regionR_any hfol (wpAny_of_G (S := C) (eff := effT ts) _ _ _ _ ?_)
    have hcl : Closed l.toArray (Array.replicate l.toArray.size false) := by
      intro j o _ hl
      rcases Nat.lt_or_ge j l.length with h | h <;> simp [h] at hl
    rw [← hlen] at hcl hheads ⊢
    refine anyG_heads5 hsel (fun c a w h => h) hs (sel? l hs) _ a _ (by simpa using hh) hcl hheads (hdraw _ hS) ?_
    exact evR_q (P := P) (ops := l.toArray) (C := C) (x := true) (sel? l hs) orc ρ ρ1 _ a hx hdst hob hF fun a' hF' => hK a' _ (hF'.weak sl e1) (hdraw _ hS)

theorem at_runC {P : Program} {Q : Exit → Act → World → Prop} {a : Act} {w : World} {Ds : List Nat} {C : World → Prop} {n : Nat} {ρ : Env} {arr : Array Oper} {l : List Oper} {k : Nat} (m : Nat) (obs : List Ob) (orc : List (Option Value)) (ts : List Nat) (τ : Env) (hF : FrD Ds n ρ a) (hS : C w) (hdst : dstOk n ((l.drop k).take m) = true)
    (hev : (evR P arr ((l.drop k).take m) orc ρ).map (fun x => (x.1.sel ts, x.2)) = some (τ, obs)) (hob : ∀ b ∈ obs, b.holds P C false)
    (hK : ∀ a' w', FrD Ds n τ a' → C w' → wpAt P arr l Q (k + m) a' w') : wpAt P arr l Q k a w := by
  unfold wpAt
  cases hx : evR P arr ((l.drop k).take m) orc ρ with
  | none => rw [hx] at hev; simp at hev
  | some x =>
    rw [hx] at hev
    simp at hev
    obtain ⟨ρ1, obs1⟩ := x
    simp only at hev
    obtain ⟨e1, e2⟩ := hev
    rw [← List.take_append_drop m (l.drop k)]
    refine list_run (C := C) _ orc ρ1 hF hS hdst hx (e2 ▸ hob) fun a' w' h1 h2 => ?_
    have := hK a' w' (h1.weak ts e1) h2
    unfold wpAt at this
    rw [List.drop_drop]
    exact this

set_option maxHeartbeats 4000000 in
set_option maxRecDepth 100000 in
/-- The comparison of jumps, in whatever world. -/
theorem SortFC : CmpOk Try.prog 133 enc119 cfJ := by
  rintro ⟨a1, a2, a3⟩ ⟨b1, b2, b3⟩ W
  show Calls Try.prog 133 #[.agg #[.int .i64 a1, .int .i64 a2, .int .i64 a3], .agg #[.int .i64 b1, .int .i64 b2, .int .i64 b3]] W _
  have hag : cfJ (a1, a2, a3) (b1, b2, b3) = orI (cmpI a1 b1) (cmpI a3 b3) := rfl
  rw [hag]
  generalize hW2 : grow W #[.cells #[.int .i64 a1, .int .i64 a2, .int .i64 a3] 119 (0, 0), .cells #[.int .i64 b1, .int .i64 b2, .int .i64 b3] 119 (0, 0)] = W2
  have hA : ∀ w, (∃ q os, w = grow (W2.drewN q) os) → ∀ (j : Nat) (v : Value), (#[.int .i64 a1, .int .i64 a2, .int .i64 a3] : Array Value)[j]? = some v → w.cell? ⟨W.heap.size, j, none⟩ = some v := by
    rintro w ⟨q, os, rfl⟩ j v hv
    subst hW2
    have h1 : ((grow (World.drewN (grow W #[.cells #[.int .i64 a1, .int .i64 a2, .int .i64 a3] 119 (0, 0), .cells #[.int .i64 b1, .int .i64 b2, .int .i64 b3] 119 (0, 0)]) q) os).heap)[W.heap.size]? = some (.cells #[.int .i64 a1, .int .i64 a2, .int .i64 a3] 119 (0, 0)) := by
      simp [grow, World.drewN, Array.getElem?_append]
    simp only [World.cell?, h1]
    simpa using hv
  have hB : ∀ w, (∃ q os, w = grow (W2.drewN q) os) → ∀ (j : Nat) (v : Value), (#[.int .i64 b1, .int .i64 b2, .int .i64 b3] : Array Value)[j]? = some v → w.cell? ⟨W.heap.size + 1, j, none⟩ = some v := by
    rintro w ⟨q, os, rfl⟩ j v hv
    subst hW2
    have h1 : ((grow (World.drewN (grow W #[.cells #[.int .i64 a1, .int .i64 a2, .int .i64 a3] 119 (0, 0), .cells #[.int .i64 b1, .int .i64 b2, .int .i64 b3] 119 (0, 0)]) q) os).heap)[W.heap.size + 1]? = some (.cells #[.int .i64 b1, .int .i64 b2, .int .i64 b3] 119 (0, 0)) := by
      simp [grow, World.drewN, Array.getElem?_append]
    simp only [World.cell?, h1]
    simpa using hv
  refine enter (l := [.agg #[.int .i64 a1, .int .i64 a2, .int .i64 a3], .agg #[.int .i64 b1, .int .i64 b2, .int .i64 b3]]) (n := 17) Try.func133 rfl rfl (by simp) (fun a hF => ?_)
  refine seqR ?_
  refine at_do (d := 2) (s := vS (Instr.box 119 (.agg #[.int .i64 a1, .int .i64 a2, .int .i64 a3]))) (v := .pointer (some ⟨W.heap.size, 0, none⟩)) (w' := W.alloc (.cells #[.int .i64 a1, .int .i64 a2, .int .i64 a3] 119)) hF (by kernel_rfl) (by kernel_rfl) (by kernel_rfl) (fun a hF => ?_)
  refine at_do (d := 3) (s := vS (Instr.box 119 (.agg #[.int .i64 b1, .int .i64 b2, .int .i64 b3]))) (v := .pointer (some ⟨(W.alloc (.cells #[.int .i64 a1, .int .i64 a2, .int .i64 a3] 119)).heap.size, 0, none⟩)) (w' := (W.alloc (.cells #[.int .i64 a1, .int .i64 a2, .int .i64 a3] 119)).alloc (.cells #[.int .i64 b1, .int .i64 b2, .int .i64 b3] 119)) hF (by kernel_rfl) (by kernel_rfl) (by kernel_rfl) (fun a hF => ?_)
  have e2 : (W.alloc (.cells #[.int .i64 a1, .int .i64 a2, .int .i64 a3] 119)).alloc (.cells #[.int .i64 b1, .int .i64 b2, .int .i64 b3] 119) = W2 := by
    rw [← hW2, alloc_eq_grow, alloc_eq_grow, grow_grow]; rfl
  have e1 : (W.alloc (.cells #[.int .i64 a1, .int .i64 a2, .int .i64 a3] 119)).heap.size = W.heap.size + 1 := by simp
  rw [e2]
  rw [e1] at hF
  have hC0 : ∃ q os, W2 = grow (W2.drewN q) os := ⟨0, #[], by rw [grow_empty]; rfl⟩
  have hdr : ∀ w, (∃ q os, w = grow (W2.drewN q) os) → ∃ q os, w.drew = grow (W2.drewN q) os := by
    rintro w ⟨q, os, rfl⟩
    exact ⟨q + 1, os, rfl⟩
  have hfin : ∀ w, (∃ q os, w = grow (W2.drewN q) os) → ∃ q os', w = grow (W.drewN q) os' := by
    rintro w ⟨q, os, rfl⟩
    refine ⟨q, #[.cells #[.int .i64 a1, .int .i64 a2, .int .i64 a3] 119 (0, 0), .cells #[.int .i64 b1, .int .i64 b2, .int .i64 b3] 119 (0, 0)] ++ os, ?_⟩
    rw [← hW2, ← grow_grow]; rfl
  generalize W.heap.size = g1 at hF hA hB
  generalize hg2 : g1 + 1 = g2 at hF hB
  clear e1 e2
  refine at_runC (C := fun w => ∃ q os, w = grow (W2.drewN q) os) 1 [] [] [2, 3] [pl 2 (.pointer (some ⟨g1, 0, none⟩)), pl 3 (.pointer (some ⟨g2, 0, none⟩))] hF hC0 (by kernel_rfl) (by kernel_rfl) ?_ (fun a w hF hS => ?_)
  · exact obs_nil
  refine at_end [2, 3] [pl 2 (.pointer (some ⟨g1, 0, none⟩)), pl 3 (.pointer (some ⟨g2, 0, none⟩))] hF rfl (by kernel_rfl) (fun hF => ?_)
  refine then_n ?_
  refine seq_cut (fun a w => Fr 17 [pl 4 (.int .i64 (orI (cmpI a1 b1) (cmpI a3 b3)))] a ∧ ∃ q os, w = grow (W2.drewN q) os) ?_ ?_
  · rintro a w ⟨hF, hS⟩
    refine wpIn_ret ?_
    exact retV (rs := [.tmp 4]) (vs := [.int .i64 (orI (cmpI a1 b1) (cmpI a3 b3))]) hF rfl (rv_t (by kernel_rfl) <| rv_nil) rfl ⟨rfl, hfin _ hS⟩
  · generalize hr1 : cmpI a1 b1 = r1
    generalize hr2 : cmpI a3 b3 = r2
    refine regMix5C (C := fun w => ∃ q os, w = grow (W2.drewN q) os) [0, 1, 2, 3, 5, 6, 7, 8] [] 5 #[true, true, true, true, false, true, true, true, true, false, false, false, false] [⟨false, [], vS (Instr.loadAt 3 (.pointer (some ⟨g1, 0, none⟩))), .int .i64 a1⟩, ⟨false, [], vS (Instr.loadAt 3 (.pointer (some ⟨g2, 0, none⟩))), .int .i64 b1⟩, ⟨false, [], vS (Instr.loadAt 3 (.pointer (some ⟨g1, 2, none⟩))), .int .i64 a3⟩, ⟨false, [], vS (Instr.loadAt 3 (.pointer (some ⟨g2, 2, none⟩))), .int .i64 b3⟩] [none, some (.int .i64 a1), none, some (.int .i64 b1), none, some (.int .i64 a3), none, some (.int .i64 b3)] [6, 8, 11, 13] [pl 6 (.int .i64 a1), pl 8 (.int .i64 b1), pl 11 (.int .i64 a3), pl 13 (.int .i64 b3)] hF hS hdr Fol (by kernel_rfl) (by kernel_rfl) (by kernel_rfl) (by kernel_rfl) ?_ (fun a w hF hS => ?_)
    · exact obs_cons (ob_load Agg3 (fun _ w hS => hA w hS 0 _ rfl)) <| obs_cons (ob_load Agg3 (fun _ w hS => hB w hS 0 _ rfl)) <| obs_cons (ob_load Agg3 (fun _ w hS => hA w hS 2 _ rfl)) <| obs_cons (ob_load Agg3 (fun _ w hS => hB w hS 2 _ rfl)) <| obs_nil
    refine any_step [4] (by kernel_rfl) rfl ?_
    refine (all_cons ?_ all_nil)
    · refine any_op (listed' := #[true, true, true, true, true, true, true, true, true, false, false, false, false]) (by kernel_rfl) (by kernel_rfl) ?_
      refine at_runC (C := fun w => ∃ q os, w = grow (W2.drewN q) os) 1 [⟨false, [], callFunc 113 #[.int .i64 a1, .int .i64 b1], .int .i64 r1⟩] [some (.int .i64 r1)] [9, 11, 13] [pl 9 (.int .i64 r1), pl 11 (.int .i64 a3), pl 13 (.int .i64 b3)] hF hS (by kernel_rfl) (by kernel_rfl) ?_ (fun a w hF hS => ?_)
      · exact obs_cons (ob_call Try.func113 (by kernel_rfl) rfl (fun _ w hS => (hr1 ▸ compareI a1 b1 w).mono (fun e w' h => ⟨h.1, h.2 ▸ hS⟩))) <| obs_nil
      refine any_fin rfl hS ?_
      refine any_step [9] (by kernel_rfl) rfl ?_
      refine (all_cons ?_ all_nil)
      · refine any_op (listed' := #[true, true, true, true, true, true, true, true, true, true, false, false, false]) (by kernel_rfl) (by kernel_rfl) ?_
        refine at_runC (C := fun w => ∃ q os, w = grow (W2.drewN q) os) 1 [⟨false, [], callFunc 113 #[.int .i64 a3, .int .i64 b3], .int .i64 r2⟩] [some (.int .i64 r2)] [9, 14] [pl 9 (.int .i64 r1), pl 14 (.int .i64 r2)] hF hS (by kernel_rfl) (by kernel_rfl) ?_ (fun a w hF hS => ?_)
        · exact obs_cons (ob_call Try.func113 (by kernel_rfl) rfl (fun _ w hS => (hr2 ▸ compareI a3 b3 w).mono (fun e w' h => ⟨h.1, h.2 ▸ hS⟩))) <| obs_nil
        refine any_fin rfl hS ?_
        refine any_step [10] (by kernel_rfl) rfl ?_
        refine (all_cons ?_ all_nil)
        · refine any_op (listed' := #[true, true, true, true, true, true, true, true, true, true, true, false, false]) (by kernel_rfl) (by kernel_rfl) ?_
          refine at_do (d := 15) (s := vS (Instr.buildSlice 22 2 #[(0, .int .i64 r1), (1, .int .i64 r2)])) (v := .slice (some ⟨w.heap.size, 0, none⟩) 2 2) (w' := w.alloc (.cells #[.int .i64 r1, .int .i64 r2] 3)) hF (by kernel_rfl) (by kernel_rfl) (by kernel_rfl) (fun a hF => ?_)
          have hS2 : ∃ q os, w.alloc (.cells #[.int .i64 r1, .int .i64 r2] 3) = grow (W2.drewN q) os := by
            obtain ⟨q, os, rfl⟩ := hS
            exact ⟨q, _, by rw [alloc_eq_grow, grow_grow]⟩
          have hcs : ∀ j : Nat, j < ([r1, r2] : List Int).length → (w.alloc (.cells #[.int .i64 r1, .int .i64 r2] 3)).cell? ⟨w.heap.size, 0 + j, none⟩ = some (.int .i64 ([r1, r2] : List Int)[j]!) := by
            intro j hj
            have h1 := heap_alloc_new w (.cells #[.int .i64 r1, .int .i64 r2] 3)
            simp only [World.cell?, h1]
            have : j = 0 ∨ j = 1 := by simp at hj; omega
            rcases this with rfl | rfl <;> rfl
          have hor := orI2 w.heap.size 0 [r1, r2] rfl (w.alloc (.cells #[.int .i64 r1, .int .i64 r2] 3)) hcs
          generalize w.heap.size = g3 at hF hor
          generalize w.alloc (.cells #[.int .i64 r1, .int .i64 r2] 3) = w3 at hS2 hor ⊢
          refine any_fin rfl hS2 ?_
          refine any_step [11] (by kernel_rfl) rfl ?_
          refine (all_cons ?_ all_nil)
          · refine any_op (listed' := #[true, true, true, true, true, true, true, true, true, true, true, true, false]) (by kernel_rfl) (by kernel_rfl) ?_
            refine at_runC (C := fun w => w = w3) 1 [⟨false, [], callFunc 111 #[.slice (some ⟨g3, 0, none⟩) 2 2], .int .i64 (orI r1 r2)⟩] [some (.int .i64 (orI r1 r2))] [16] [pl 16 (.int .i64 (orI r1 r2))] hF rfl (by kernel_rfl) (by kernel_rfl) ?_ (fun a w hF hS => ?_)
            · exact obs_cons (ob_call Try.func111 (by kernel_rfl) rfl (fun _ w hS => by rw [hS]; exact hor)) <| obs_nil
            subst hS
            refine any_fin rfl hS2 ?_
            refine any_step [12] (by kernel_rfl) rfl ?_
            refine (all_cons ?_ all_nil)
            · refine any_op (listed' := #[true, true, true, true, true, true, true, true, true, true, true, true, true]) (by kernel_rfl) (by kernel_rfl) ?_
              refine at_runC (C := fun w => ∃ q os, w = grow (W2.drewN q) os) 1 [] [] [4] [pl 4 (.int .i64 (orI r1 r2))] hF hS2 (by kernel_rfl) (by kernel_rfl) ?_ (fun a w hF hS => ?_)
              · exact obs_nil
              refine any_fin rfl hS ?_
              refine any_end (by kernel_rfl) ?_
              refine np_n ?_
              refine then_n ?_
              exact ⟨hF.weak [4] (by kernel_rfl), hS⟩

theorem SortFA : ∀ w, (isAgg (SortFR.t 24)).run Try.prog w = .ok true w := Try.isAgg119
theorem SortFZ : ∀ w, (Go.sizeOf (SortFR.t 24)).run Try.prog w = .ok 3 w := Try.sizeOf119
theorem SortFE : ∀ args w, (callFunc 133 args).run Try.prog w = .ok (.enter 133 args) w := fun args w => run_enter Try.func133 (by kernel_rfl) rfl args w
end Go.Proofs.Ytjfloofoobllaaa
