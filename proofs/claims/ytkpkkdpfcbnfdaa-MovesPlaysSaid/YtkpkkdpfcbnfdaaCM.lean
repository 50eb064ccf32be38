import Derived.Test.YtkpkkdpfcbnfdaaCA
import Derived.Test.YtkpkkdpfcbnfdaaLibST
namespace Go.Proofs.Ytkpkkdpfcbnfdaa
open Go Go.GL Go.RowKit
def cutR (p : List Int) (one : Bool) : List Nat → List Nat
 | [] => []
 | j :: r => j :: (if geti p j ≠ 0 ∨ one = true then [] else cutR p one r)
def reachL (p : List Int) (i : Nat) : List Nat :=
 if (geti p i).natAbs = 0 then [] else
 if (geti p i).natAbs = 1 then (mvO i (-1) (geti p i)).toList ++ (mvO i 1 (geti p i)).toList
 else (stepsL ((geti p i).natAbs : Int)).flatMap fun s => cutR p (oneK ((geti p i).natAbs : Int)) (ray 8 i s.1 s.2)
def ydRun {S : Type} (yd : Int → S → Option (S × Bool)) : List Nat → S → Option (Fl S S)
 | [], s => some (.go s)
 | x :: r, s => (yd (x : Int) s).bind fun q => if q.2 = true then ydRun yd r q.1 else some (.ret q.1)
def flV {S : Type} : Fl S S → S
 | .go s => s
 | .ret s => s
theorem ydRun_app {S : Type} {yd : Int → S → Option (S × Bool)} : ∀ {a b : List Nat} {s : S} {r : Fl S S}, ydRun yd (a ++ b) s = some r →
  (∃ s', ydRun yd a s = some (.go s') ∧ ydRun yd b s' = some r) ∨ (∃ s', r = .ret s' ∧ ydRun yd a s = some (.ret s'))
 | [], _, s, _, h => .inl ⟨s, rfl, h⟩
 | x :: a, b, s, r, h => by
  have h : ((yd (x : Int) s).bind fun q => if q.2 = true then ydRun yd (a ++ b) q.1 else some (.ret q.1)) = some r := h
  have e : ydRun yd (x :: a) s = ((yd (x : Int) s).bind fun q => if q.2 = true then ydRun yd a q.1 else some (.ret q.1)) := rfl
  rw [e]
  cases hq : yd (x : Int) s with
  | none => rw [hq] at h; simp at h
  | some q =>
   rw [hq, Option.bind_some] at h
   rw [Option.bind_some]
   cases h2 : q.2 with
   | true =>
    rw [h2, if_pos rfl] at h
    rw [if_pos rfl]
    exact ydRun_app h
   | false =>
    rw [h2, if_neg (by decide)] at h
    rw [if_neg (by decide)]
    injection h with h
    exact .inr ⟨_, h.symm, rfl⟩
section
variable {S : Type} {yd : Int → S → Option (S × Bool)} {p : List Int} {i : Nat}
theorem line_run (hp : p.length = 64) (k : Int) {r6 : List (Int × Int)} {z : Nat} {s : Int × Int} (hz : r6[z]? = some s) (hs : s ∈ dirs ++ hops) : ∀ (n : Nat) (j : Nat) (st : S) (r : Fl S S), j < 64 → (ray n j s.1 s.2).length < n →
  ydRun yd (cutR p (oneK k) (ray n j s.1 s.2)) st = some r → loop (board_Reach_1_L3 yd p k r6 z) (st, encO (mvO j s.1 s.2)) = some r
 | 0, _, _, _, _, h, _ => by simp at h
 | n + 1, j, st, r, hj, h, hr => by
  cases hm : mvO j s.1 s.2 with
  | none =>
   rw [ray_none hm] at hr
   have hr : some (Fl.go st) = some r := hr
   injection hr with hr
   subst hr
   refine loop_done ?_
   simp only [board_Reach_1_L3]
   rw [encN, if_neg (by decide)]
  | some q =>
   rw [ray_some hm] at h hr
   have hq := (mvO_bd hm).1
   have hr : ((yd (q : Int) st).bind fun u => if u.2 = true then ydRun yd (if geti p q ≠ 0 ∨ oneK k = true then [] else cutR p (oneK k) (ray n q s.1 s.2)) u.1 else some (.ret u.1)) = some r := hr
   rw [encS]
   have e0 : board_Reach_1_L3 yd p k r6 z (st, (q : Int)) = board_Reach_1_J7 yd p k r6 z st q := by
    simp only [board_Reach_1_L3]
    exact if_pos (decide_eq_true (by omega))
   unfold board_Reach_1_J7 at e0
   cases hy : yd (q : Int) st with
   | none => rw [hy] at hr; simp at hr
   | some u =>
    rw [hy, Option.bind_some] at hr e0
    cases h2 : u.2 with
    | false =>
     rw [h2, if_neg (by decide)] at hr
     rw [h2] at e0
     simp only [Bool.not_false, if_true] at e0
     rw [loop_done e0, hr]
    | true =>
     rw [h2, if_pos rfl] at hr
     rw [h2] at e0
     simp only [Bool.not_true, Bool.false_eq_true, if_false] at e0
     unfold board_Reach_1_J9 at e0
     rw [asrt_pos (by omega)] at e0
     by_cases hc : geti p q ≠ 0 ∨ oneK k = true
     ·rw [if_pos (by
       unfold oneK at hc
       simp only [Bool.or_eq_true, bne_iff_ne, beq_iff_eq] at hc ⊢
       rcases hc with h | h | h
       ·exact .inl (.inl h)
       ·exact .inl (.inr h)
       ·exact .inr h)] at e0
      rw [if_pos hc] at hr
      rw [loop_done e0, ← hr]
      rfl
     ·rw [if_neg (by
       unfold oneK at hc
       simp only [Bool.or_eq_true, bne_iff_ne, beq_iff_eq] at hc ⊢
       intro h
       apply hc
       rcases h with (h | h) | h
       ·exact .inl h
       ·exact .inr (.inl h)
       ·exact .inr (.inr h))] at e0
      unfold board_Reach_1_J8 at e0
      rw [getd_some hz, mv_p hq hs, Option.bind_some] at e0
      rw [if_neg hc] at hr
      exact loop_next' e0 (line_run hp k hz hs n q u.1 r hq (by simp only [List.length_cons] at h; omega) hr)
theorem steps_run (hp : p.length = 64) (hi : i < 64) (k : Int) : ∀ (ss : List (Int × Int)) (z : Nat) (st : S) (r : Fl S S), (stepsL k).drop z = ss →
  ydRun yd (ss.flatMap fun s => cutR p (oneK k) (ray 8 i s.1 s.2)) st = some r → loop (board_Reach_1_L2 yd p i k (stepsL k)) (st, (z : Int)) = some r
 | [], z, st, r, hd, hr => by
  have hz : (stepsL k).length ≤ z := by have := congrArg List.length hd; rw [List.length_drop] at this; simp at this; omega
  have hr : some (Fl.go st) = some r := hr
  injection hr with hr
  subst hr
  refine loop_done ?_
  simp only [board_Reach_1_L2]
  rw [if_neg (by simp; omega)]
 | s :: ss, z, st, r, hd, hr => by
  have hz : (stepsL k)[z]? = some s := by
   have := congrArg (fun l => l[0]?) hd
   simpa using this
  have hd2 : (stepsL k).drop (z + 1) = ss := by
   have := congrArg List.tail hd
   simpa using this
  have hzl := (List.getElem?_eq_some_iff.1 hz).1
  have hsl := steps_len k
  have hsm := steps_in (List.mem_of_getElem? hz)
  rw [List.flatMap_cons] at hr
  have e0 : board_Reach_1_L2 yd p i k (stepsL k) (st, (z : Int)) = board_Reach_1_J5 yd p i k (stepsL k) st z := by
   simp only [board_Reach_1_L2]
   exact if_pos (decide_eq_true (by omega))
  unfold board_Reach_1_J5 at e0
  have hg : getd ((0, 0) : Int × Int) (stepsL k) (z : Int) = s := getd_some hz
  rw [asrt_pos (by omega), hg, mv_p hi hsm, Option.bind_some] at e0
  rcases ydRun_app hr with ⟨s', h1, h2⟩ | ⟨s', rfl, h1⟩
  ·rw [line_run hp k hz hsm 8 i st _ hi (ray_short hi hsm) h1, Option.bind_some] at e0
   refine loop_next' (s' := (s', ((z + 1 : Nat) : Int))) (e0.trans ?_) (steps_run hp hi k ss (z + 1) s' r hd2 h2)
   simp only [board_Reach_1_K3, board_Reach_1_J6]
   rw [w64_of (by omega)]
   rfl
  ·rw [line_run hp k hz hsm 8 i st _ hi (ray_short hi hsm) h1, Option.bind_some] at e0
   exact loop_done e0
theorem reach_run (hp : p.length = 64) (hi : i < 64) (hx : -6 ≤ geti p i ∧ geti p i ≤ 6) {st : S} {r : Fl S S} (hr : ydRun yd (reachL p i) st = some r) : board_Reach_1_m yd st p (i : Int) = some (flV r) := by
 unfold board_Reach_1_m
 rw [asrt_pos (by omega), kind_small hx, Option.bind_some]
 unfold reachL at hr
 by_cases h0 : (geti p i).natAbs = 0
 ·rw [if_pos h0] at hr
  have hr : some (Fl.go st) = some r := hr
  injection hr with hr
  subst hr
  rw [if_pos (by simp [h0])]
  rfl
 rw [if_neg h0] at hr
 rw [if_neg (by simp; omega)]
 by_cases h1 : (geti p i).natAbs = 1
 ·rw [if_pos h1] at hr
  rw [if_pos (by simp [h1])]
  have hs : sideI (geti p i) = 0 ∧ geti p i = 1 ∨ sideI (geti p i) = 1 ∧ geti p i = -1 := by
   unfold sideI
   have : geti p i = 1 ∨ geti p i = -1 := by omega
   rcases this with h | h <;> rw [h] <;> decide
  have step : ∀ (z : Nat) (c : Int) (st : S) (r : Fl S S), z < 2 → geti ([-1, 1] : List Int) (z : Int) = c → (c, geti p i) ∈ dirs ++ hops → ydRun yd (mvO i c (geti p i)).toList st = some r → board_Reach_1_L1 yd p i (st, (z : Int)) = some (match r with | .go s => .next (s, ((z + 1 : Nat) : Int)) | .ret s => .done (.ret s)) := by
   intro z c st r hz hc hd hr
   simp only [board_Reach_1_L1]
   rw [if_pos (decide_eq_true (by omega))]
   unfold board_Reach_1_J2 board_Reach_1_J4 board_Reach_1_J3
   rw [asrt_pos (by omega), side_eq, Option.bind_some, forward_small (by unfold sideI; split <;> (try split) <;> omega), Option.bind_some, hc]
   have e : (1 - 2 * sideI (geti p i)) = geti p i := by
    rcases hs with ⟨h2, h3⟩ | ⟨h2, h3⟩ <;> rw [h2, h3] <;> rfl
   rw [e, mv_p hi hd, Option.bind_some, w64_of (by omega)]
   cases hm : mvO i c (geti p i) with
   | none =>
    rw [hm] at hr
    have hr : some (Fl.go st) = some r := hr
    injection hr with hr
    subst hr
    rw [encN]
    simp
   | some q =>
    rw [hm] at hr
    have hr : ((yd (q : Int) st).bind fun u => if u.2 = true then some (Fl.go u.1) else some (.ret u.1)) = some r := hr
    have hd : decide ((0 : Int) ≤ (q : Int)) = true := decide_eq_true (by omega)
    rw [encS, hd, if_pos rfl]
    cases hy : yd (q : Int) st with
    | none => rw [hy] at hr; simp at hr
    | some u =>
     rw [hy, Option.bind_some] at hr
     rw [Option.bind_some]
     cases h2 : u.2 with
     | false =>
      rw [h2, if_neg (by decide)] at hr
      injection hr with hr
      subst hr
      simp
     | true =>
      rw [h2, if_pos rfl] at hr
      injection hr with hr
      subst hr
      simp
  have d1 : ((-1 : Int), geti p i) ∈ dirs ++ hops ∧ ((1 : Int), geti p i) ∈ dirs ++ hops := by
   rcases hs with ⟨h2, h3⟩ | ⟨h2, h3⟩ <;> rw [h3] <;> decide
  rcases ydRun_app hr with ⟨s', h2, h3⟩ | ⟨s', rfl, h2⟩
  ·have s0 := step 0 (-1) st _ (by omega) rfl d1.1 h2
   have s1 := step 1 1 s' _ (by omega) rfl d1.2 h3
   cases r with
   | go s2 =>
    have s2' : board_Reach_1_L1 yd p i (s2, ((2 : Nat) : Int)) = some (.done (.go s2)) := by
     simp only [board_Reach_1_L1]
     exact if_neg (by decide)
    have h := loop_next' s0 (loop_next' s1 (loop_done s2'))
    rw [show (((0 : Nat) : Int)) = 0 from rfl] at h
    rw [h, Option.bind_some]
    rfl
   | ret s2 =>
    have h := loop_next' s0 (loop_done s1)
    rw [show (((0 : Nat) : Int)) = 0 from rfl] at h
    rw [h, Option.bind_some]
    rfl
  ·have s0 := step 0 (-1) st _ (by omega) rfl d1.1 h2
   have h := loop_done s0
   rw [show (((0 : Nat) : Int)) = 0 from rfl] at h
   rw [h, Option.bind_some]
   rfl
 ·rw [if_neg h1] at hr
  rw [if_neg (by simp; omega), steps_p, Option.bind_some]
  have h := steps_run (yd := yd) hp hi _ _ 0 st r (List.drop_zero) hr
  rw [show (((0 : Nat) : Int)) = 0 from rfl] at h
  rw [h, Option.bind_some]
  cases r <;> rfl
end
theorem scan_cut {p : List Int} {one : Bool} {t : Nat} : ∀ {r : List Nat}, scan p one t r = true ↔ t ∈ cutR p one r
 | [] => by simp [scan, cutR]
 | j :: r => by
  rw [scan_cons]
  unfold cutR
  by_cases h : j = t
  ·rw [if_pos h]; simp [h]
  ·rw [if_neg h]
   by_cases hc : geti p j ≠ 0 ∨ one = true
   ·rw [if_pos hc, if_pos hc]; simp [Ne.symm h]
   ·rw [if_neg hc, if_neg hc, scan_cut (r := r)]
    simp [Ne.symm h]
theorem reach_att {p : List Int} {i t : Nat} (h0 : geti p i ≠ 0) : t ∈ reachL p i ↔ attB p i t = true := by
 unfold reachL attB
 rw [if_neg (by omega)]
 by_cases h1 : (geti p i).natAbs = 1
 ·rw [if_pos h1, if_pos h1]
  simp
 ·rw [if_neg h1, if_neg h1, List.mem_flatMap, List.any_eq_true]
  constructor
  ·rintro ⟨s, hs, h⟩; exact ⟨s, hs, scan_cut.2 h⟩
  ·rintro ⟨s, hs, h⟩; exact ⟨s, hs, scan_cut.1 h⟩
theorem cut_sub (p : List Int) (one : Bool) : ∀ r : List Nat, (cutR p one r).Sublist r
 | [] => List.Sublist.slnil
 | j :: r => by
  unfold cutR
  refine List.Sublist.cons_cons _ ?_
  split
  ·exact List.nil_sublist _
  ·exact cut_sub p one r
theorem flatMap_sub {α : Type} {f g : α → List Nat} (h : ∀ a, (f a).Sublist (g a)) : ∀ l : List α, (l.flatMap f).Sublist (l.flatMap g)
 | [] => List.Sublist.slnil
 | a :: l => by rw [List.flatMap_cons, List.flatMap_cons]; exact (h a).append (flatMap_sub h l)
theorem rays_nodup : ((List.range 64).all fun i => decide ((dirs.flatMap fun s => ray 8 i s.1 s.2).Nodup) && (decide ((hops.flatMap fun s => (ray 8 i s.1 s.2).take 1).Nodup) && (decide (((dirs.take 4).flatMap fun s => ray 8 i s.1 s.2).Nodup) && (decide (((dirs.drop 4).flatMap fun s => ray 8 i s.1 s.2).Nodup))))) = true := by decide +kernel
theorem cut_one (p : List Int) (r : List Nat) : cutR p true r = r.take 1 := by
 cases r with
 | nil => rfl
 | cons j r => unfold cutR; rw [if_pos (.inr rfl)]; rfl
theorem mvO_ne {i : Nat} {q q' : Nat} {s : Int} (h : mvO i (-1) s = some q) (h' : mvO i 1 s = some q') : q ≠ q' := by
 have h1 := (mvO_bd h).2.2.1
 have h2 := (mvO_bd h').2.2.1
 intro e
 subst e
 omega
theorem reach_nodup (p : List Int) {i : Nat} (hi : i < 64) : (reachL p i).Nodup := by
 unfold reachL
 split
 ·exact List.nodup_nil
 split
 ·cases h : mvO i (-1) (geti p i) with
  | none => cases h' : mvO i 1 (geti p i) <;> simp
  | some q =>
   cases h' : mvO i 1 (geti p i) with
   | none => simp
   | some q' => simpa using mvO_ne h h'
 ·have hr := List.all_eq_true.1 rays_nodup i (List.mem_range.2 hi)
  simp only [Bool.and_eq_true, decide_eq_true_eq] at hr
  generalize hk : ((geti p i).natAbs : Int) = k
  unfold stepsL
  split
  ·rename_i h2
   have h2 : k = 2 := by simpa using h2
   subst h2
   have e : (fun s : Int × Int => cutR p (oneK 2) (ray 8 i s.1 s.2)) = fun s => (ray 8 i s.1 s.2).take 1 := by
    funext s; exact cut_one p _
   rw [e]; exact hr.2.1
  ·split
   ·exact hr.2.2.1.sublist (flatMap_sub (fun s => cut_sub p _ _) _)
   ·split
    ·exact hr.2.2.2.sublist (flatMap_sub (fun s => cut_sub p _ _) _)
    ·exact hr.1.sublist (flatMap_sub (fun s => cut_sub p _ _) _)
theorem ray_lt {n i j : Nat} {sx sy : Int} : j ∈ ray n i sx sy → j < 64 := by
 induction n generalizing i with
 | zero => intro h; simp [ray] at h
 | succ n ih =>
  cases hm : mvO i sx sy with
  | none => rw [ray_none hm]; intro h; simp at h
  | some q =>
   rw [ray_some hm]
   intro h
   rcases List.mem_cons.1 h with rfl | h
   ·exact (mvO_bd hm).1
   ·exact ih h
theorem reach_lt {p : List Int} {i t : Nat} (h : t ∈ reachL p i) : t < 64 := by
 unfold reachL at h
 split at h
 ·simp at h
 split at h
 ·rcases List.mem_append.1 h with h | h
  ·exact (mvO_bd (Option.mem_toList.1 h)).1
  ·exact (mvO_bd (Option.mem_toList.1 h)).1
 ·obtain ⟨s, _, h⟩ := List.mem_flatMap.1 h
  exact ray_lt ((cut_sub p _ _).subset h)
end Go.Proofs.Ytkpkkdpfcbnfdaa
namespace Go.Proofs.Ytkpkkdpfcbnfdaa
open Go Go.GL Go.RowKit
def sgn (t : Int) : Int := 1 - 2 * t
theorem side0 {x : Int} : sideI x = 0 ↔ 0 < x := by unfold sideI; split <;> (try split) <;> omega
theorem side1 {x : Int} : sideI x = 1 ↔ x < 0 := by unfold sideI; split <;> (try split) <;> omega
theorem side_cases (x : Int) : (sideI x = 0 ∧ 0 < x) ∨ (sideI x = 1 ∧ x < 0) ∨ (sideI x = -1 ∧ x = 0) := by unfold sideI; split <;> (try split) <;> omega
def cbit (c : Int) (n : Nat) : Bool := c.toNat.testBit n
def homeK (n : Nat) : Nat := if n < 2 then 4 else 60
def homeR (n : Nat) : Nat := if n = 0 then 7 else if n = 1 then 0 else if n = 2 then 63 else 56
def castTo (n : Nat) : Nat := if n = 0 then 6 else if n = 1 then 2 else if n = 2 then 62 else 58
def midC (n : Nat) : Nat := if n = 0 then 5 else if n = 1 then 3 else if n = 2 then 61 else 59
def betw (n : Nat) : List Nat := if n = 0 then [5, 6] else if n = 1 then [3, 2, 1] else if n = 2 then [61, 62] else [59, 58, 57]
def wayC (n : Nat) : List Nat := if n = 0 then [4, 5, 6] else if n = 1 then [4, 3, 2] else if n = 2 then [60, 61, 62] else [60, 59, 58]
structure Inv (p : List Int) (t c e h f : Int) : Prop where
 sm : Small p
 tt : t = 0 ∨ t = 1
 cc : 0 ≤ c ∧ c ≤ 15
 hh : 0 ≤ h ∧ h ≤ 999
 ff : 1 ≤ f ∧ f ≤ 999
 kg : ∀ s : Int, s = 0 ∨ s = 1 → ∃ k : Nat, k < 64 ∧ ∀ j : Nat, j < 64 → (geti p j = kingV s ↔ j = k)
 pw : ∀ j : Nat, j < 64 → (geti p j).natAbs = 1 → 8 ≤ j ∧ j < 56
 sf : inChk p (1 - t) = false
 cs : ∀ n : Nat, n < 4 → cbit c n = true → geti p (homeK n) = 6 * sgn ((n / 2 : Nat) : Int) ∧ geti p (homeR n) = 4 * sgn ((n / 2 : Nat) : Int)
 ep : e = -1 ∨ ∃ b : Nat, e = b ∧ ((b / 8 : Nat) : Int) = 5 - 3 * t ∧ geti p b = 0 ∧ geti p ((b : Int) - 8 * sgn t) = - sgn t
def aft (p : List Int) (t e : Int) (a b : Nat) (k : Int) : List Int :=
 if (geti p a).natAbs = 1 then
  if (b : Int) = e then ((p.set a 0).set b (geti p a)).set ((b : Int) - 8 * sgn t).toNat 0
  else if 0 < k then ((p.set a 0).set b (geti p a)).set b (k * sgn t) else (p.set a 0).set b (geti p a)
 else if (geti p a).natAbs = 6 ∧ ((b : Int) - a).natAbs = 2 then
  (((p.set a 0).set b (geti p a)).set ((a + b) / 2) (geti ((p.set a 0).set b (geti p a)) ((if a < b then a + 3 else a - 4 : Nat) : Int))).set (if a < b then a + 3 else a - 4) 0
 else (p.set a 0).set b (geti p a)
def Into (b : Nat) (k : Int) : Prop := if 8 ≤ b ∧ b < 56 then k = 0 else 2 ≤ k ∧ k ≤ 5
structure CastOk (p : List Int) (t c : Int) (n : Nat) : Prop where
 lt : n < 4
 side : ((n / 2 : Nat) : Int) = t
 bit : cbit c n = true
 free : ∀ j ∈ betw n, geti p (j : Int) = 0
 safe : ∀ j ∈ wayC n, attL p j (1 - t) 64 = []
inductive PL (p : List Int) (t c e : Int) : Nat → Nat → Int → Prop
 | pc {a b : Nat} : a < 64 → sideI (geti p a) = t → (geti p a).natAbs ≠ 1 → b ∈ reachL p a → sideI (geti p b) ≠ t → PL p t c e a b 0
 | cap {a b : Nat} {k : Int} : a < 64 → sideI (geti p a) = t → (geti p a).natAbs = 1 → b ∈ reachL p a → (sideI (geti p b) = 1 - t ∨ (b : Int) = e) → Into b k → PL p t c e a b k
 | push {a b : Nat} {k : Int} : a < 64 → sideI (geti p a) = t → (geti p a).natAbs = 1 → (b : Int) = a + 8 * sgn t → geti p b = 0 → Into b k → PL p t c e a b k
 | dbl {a b : Nat} : a < 64 → sideI (geti p a) = t → (geti p a).natAbs = 1 → (b : Int) = a + 16 * sgn t → ((a / 8 : Nat) : Int) = 1 + 5 * t → geti p ((a : Int) + 8 * sgn t) = 0 → geti p b = 0 → PL p t c e a b 0
 | castle {n : Nat} : CastOk p t c n → PL p t c e (homeK n) (castTo n) 0
theorem fidx_king {p : List Int} {v : Int} {k : Nat} (hl : p.length = 64) (hk : k < 64) (h : ∀ j : Nat, j < 64 → (geti p j = v ↔ j = k)) : fidx (fun y => decide (y = v)) p = (k : Int) := by
 unfold fidx
 cases hf : p.findIdx? (fun y => decide (y = v)) with
 | none =>
  rw [List.findIdx?_eq_none_iff] at hf
  have := hf _ (List.mem_of_getElem? (get_geti (l := p) (i := k) (by omega)))
  rw [(h k hk).2 rfl] at this
  simp at this
 | some i =>
  obtain ⟨h1, h2, _⟩ := List.findIdx?_eq_some_iff_getElem.1 hf
  have h3 : geti p (i : Int) = v := by rw [geti_some (List.getElem?_eq_getElem h1)]; exact of_decide_eq_true h2
  have := (h i (by omega)).1 h3
  simp [this]
theorem attL_mem {p : List Int} {j : Nat} {s : Int} {i : Nat} : ((i : Int) ∈ attL p j s 64) ↔ i < 64 ∧ sideI (geti p i) = s ∧ attB p i j = true := by
 unfold attL
 rw [List.mem_map]
 constructor
 ·rintro ⟨x, hx, e⟩
  have : x = i := by omega
  subst this
  rw [List.mem_filter, List.mem_range, Bool.and_eq_true, beq_iff_eq] at hx
  exact hx
 ·rintro ⟨h1, h2, h3⟩
  exact ⟨i, by rw [List.mem_filter, List.mem_range, Bool.and_eq_true, beq_iff_eq]; exact ⟨h1, h2, h3⟩, rfl⟩
section
variable {p : List Int} {t c e h f : Int} {a b : Nat} {k : Int}
theorem Inv.len (I : Inv p t c e h f) : p.length = 64 := I.sm.1
theorem Inv.notKing (I : Inv p t c e h f) (ha : a < 64) (hs : sideI (geti p a) = t) (hb : attB p a b = true) (hb64 : b < 64) : geti p b ≠ kingV (1 - t) := by
 intro hk
 obtain ⟨k, hk64, hu⟩ := I.kg (1 - t) (by have := I.tt; omega)
 have hbk := (hu b hb64).1 hk
 have hf := I.sf
 unfold inChk at hf
 rw [fidx_king I.len hk64 hu] at hf
 rw [Int.toNat_natCast] at hf
 have := attL_mem.2 ⟨ha, hs, hb⟩
 rw [hbk] at this
 have h2 := List.length_pos_of_mem this
 rw [show (1 - (1 - t)) = t by omega] at hf
 simp only [decide_eq_false_iff_not] at hf
 exact hf h2
theorem sgn_t (ht : t = 0 ∨ t = 1) : (t = 0 ∧ sgn t = 1) ∨ (t = 1 ∧ sgn t = -1) := by
 rcases ht with rfl | rfl
 ·exact .inl ⟨rfl, rfl⟩
 ·exact .inr ⟨rfl, rfl⟩
inductive Turned (p : List Int) (t c e : Int) (q : List Int) (a b : Nat) : Prop
 | one (v : Int) (_ : sideI v = t) (_ : v = geti p a ∨ ((geti p a).natAbs = 1 ∧ 2 ≤ v.natAbs ∧ v.natAbs ≤ 5)) (_ : v.natAbs = 1 → 8 ≤ b ∧ b < 56) (_ : sideI (geti p b) ≠ t) (_ : geti p b ≠ kingV (1 - t))
   (_ : ∀ j : Nat, j < 64 → geti q j = if j = b then v else if j = a then 0 else geti p j)
 | over (d : Nat) (_ : d < 64) (_ : d ≠ a) (_ : d ≠ b) (_ : geti p d = - sgn t) (_ : geti p b = 0) (_ : (geti p a).natAbs = 1) (_ : 8 ≤ b ∧ b < 56)
   (_ : ∀ j : Nat, j < 64 → geti q j = if j = d then 0 else if j = b then geti p a else if j = a then 0 else geti p j)
 | cast (n : Nat) (_ : CastOk p t c n) (_ : a = homeK n) (_ : b = castTo n) (_ : geti p (homeK n) = 6 * sgn t) (_ : geti p (homeR n) = 4 * sgn t)
   (_ : ∀ j : Nat, j < 64 → geti q j = if j = homeR n then 0 else if j = midC n then 4 * sgn t else if j = castTo n then 6 * sgn t else if j = homeK n then 0 else geti p j)
theorem set2_get (hl : p.length = 64) {x : Int} (ha : a < 64) (hb : b < 64) (j : Nat) : geti ((p.set a 0).set b x) (j : Int) = if j = b then x else if j = a then 0 else geti p j := by
 rw [geti_set' (by omega) (by rw [List.length_set, hl]; exact hb), geti_set' (by omega) (by rw [hl]; exact ha)]
 by_cases h1 : j = b
 ·rw [if_pos (by omega), if_pos h1]
 ·rw [if_neg (by omega), if_neg h1]
  by_cases h2 : j = a
  ·rw [if_pos (by omega), if_pos h2]
  ·rw [if_neg (by omega), if_neg h2]
theorem cast_get (hl : p.length = 64) {x y : Int} {mid r : Nat} (ha : a < 64) (hb : b < 64) (hm : mid < 64) (hr : r < 64) (hrb : r ≠ b) (hra : r ≠ a) (hy : geti p (r : Int) = y) (j : Nat) :
  geti ((((p.set a 0).set b x).set mid (geti ((p.set a 0).set b x) (r : Int))).set r 0) (j : Int) = if j = r then 0 else if j = mid then y else if j = b then x else if j = a then 0 else geti p j := by
 have h7 : geti ((p.set a 0).set b x) (r : Int) = y := by rw [set2_get hl ha hb, if_neg hrb, if_neg hra, hy]
 rw [h7, geti_set' (by omega) (by simp [hl]; exact hr), geti_set' (by omega) (by simp [hl]; exact hm), set2_get hl ha hb]
 have e1 : (j : Int) = (r : Int) ↔ j = r := by omega
 have e2 : (j : Int) = (mid : Int) ↔ j = mid := by omega
 simp only [e1, e2]
theorem aft_len (p : List Int) (t e : Int) (a b : Nat) (k : Int) : (aft p t e a b k).length = p.length := by
 unfold aft
 split
 ·split
  ·simp
  ·split <;> simp
 ·split <;> simp
theorem pawn_val (ht : t = 0 ∨ t = 1) {x : Int} (hs : sideI x = t) (h1 : x.natAbs = 1) : x = sgn t := by
 have := side_cases x
 rcases sgn_t ht with ⟨rfl, h⟩ | ⟨rfl, h⟩ <;> rw [h] <;> omega
theorem pawn_reach (h1 : (geti p a).natAbs = 1) (hb : b ∈ reachL p a) : (b : Int) / 8 = (a : Int) / 8 + geti p a ∧ ((b : Int) % 8 = (a : Int) % 8 - 1 ∨ (b : Int) % 8 = (a : Int) % 8 + 1) ∧ b < 64 := by
 unfold reachL at hb
 rw [if_neg (by omega), if_pos h1] at hb
 rcases List.mem_append.1 hb with h | h
 ·have := mvO_bd (Option.mem_toList.1 h); omega
 ·have := mvO_bd (Option.mem_toList.1 h); omega
theorem turned (I : Inv p t c e h f) (m : PL p t c e a b k) : Turned p t c e (aft p t e a b k) a b := by
 have hl := I.len
 have ht := I.tt
 cases m with
 | pc ha hs h1 hb ho =>
  have hb64 := reach_lt hb
  have h0 : geti p a ≠ 0 := by have := side_cases (geti p a); omega
  have hat := (reach_att h0).1 hb
  have hcast : ¬ ((geti p a).natAbs = 6 ∧ ((b : Int) - a).natAbs = 2) := by
   rintro ⟨h6, h2⟩
   unfold reachL at hb
   rw [if_neg (by omega), if_neg (by omega), h6] at hb
   obtain ⟨s, hs, hb⟩ := List.mem_flatMap.1 hb
   rw [show oneK ((6 : Nat) : Int) = true from rfl, cut_one] at hb
   have hs : s ∈ dirs := hs
   have hd : (s.1 = 0 ∨ s.1 = 1 ∨ s.1 = -1) ∧ (s.2 = 0 ∨ s.2 = 1 ∨ s.2 = -1) := by
    have : ∀ s ∈ dirs, (s.1 = 0 ∨ s.1 = 1 ∨ s.1 = -1) ∧ (s.2 = 0 ∨ s.2 = 1 ∨ s.2 = -1) := by decide
    exact this s hs
   cases hm : mvO a s.1 s.2 with
   | none => rw [ray_none hm] at hb; simp at hb
   | some q =>
    rw [ray_some hm] at hb
    simp at hb
    subst hb
    have := mvO_bd hm
    omega
  have ea : aft p t e a b 0 = (p.set a 0).set b (geti p a) := by
   unfold aft
   rw [if_neg h1, if_neg hcast]
  refine .one (geti p a) hs (.inl rfl) (fun h => absurd h h1) ho (I.notKing ha hs hat hb64) (fun j hj => ?_)
  rw [ea, set2_get hl ha hb64]
 | cap ha hs h1 hb ho hi =>
  have hpr := pawn_reach h1 hb
  have hb64 := reach_lt hb
  have hv := pawn_val ht hs h1
  have h0 : geti p a ≠ 0 := by omega
  have hat := (reach_att h0).1 hb
  by_cases hbe : (b : Int) = e
  ·have ea : aft p t e a b k = ((p.set a 0).set b (geti p a)).set ((b : Int) - 8 * sgn t).toNat 0 := by
    unfold aft
    rw [if_pos h1, if_pos hbe]
   rcases I.ep with he | ⟨b', he, hr, h0b, hd⟩
   ·omega
   have : b' = b := by omega
   subst this
   have hd64 : ∃ d : Nat, (d : Int) = (b' : Int) - 8 * sgn t ∧ d < 64 := by
    rcases sgn_t ht with ⟨rfl, h⟩ | ⟨rfl, h⟩ <;> rw [h]
    ·exact ⟨b' - 8, by omega, by omega⟩
    ·exact ⟨b' + 8, by omega, by omega⟩
   obtain ⟨d, hd1, hd2⟩ := hd64
   rw [← hd1] at hd
   have hsg : sgn t = 1 ∨ sgn t = -1 := by rcases sgn_t ht with h | h <;> omega
   refine .over d hd2 (fun h => by rw [h, hv] at hd; omega) (fun h => by omega) hd h0b h1 (by rcases sgn_t ht with ⟨rfl, _⟩ | ⟨rfl, _⟩ <;> omega) (fun j hj => ?_)
   rw [ea, ← hd1, Int.toNat_natCast, geti_set' (by omega) (by simp [hl]; exact hd2), set2_get hl ha hb64]
   by_cases hjd : j = d
   ·rw [if_pos (by omega), if_pos hjd]
   ·rw [if_neg (by omega), if_neg hjd]
  ·have ho : sideI (geti p b) = 1 - t := ho.resolve_right hbe
   by_cases hk : 0 < k
   ·have ea : aft p t e a b k = ((p.set a 0).set b (geti p a)).set b (k * sgn t) := by
     unfold aft
     rw [if_pos h1, if_neg hbe, if_pos hk]
    have hi2 : 2 ≤ k ∧ k ≤ 5 := by unfold Into at hi; split at hi <;> omega
    have hv2 : sideI (k * sgn t) = t ∧ 2 ≤ (k * sgn t).natAbs ∧ (k * sgn t).natAbs ≤ 5 := by
     rcases sgn_t ht with ⟨rfl, h⟩ | ⟨rfl, h⟩ <;> rw [h]
     ·rw [side0]; omega
     ·rw [side1]; omega
    refine .one (k * sgn t) hv2.1 (.inr ⟨h1, hv2.2⟩) (fun h => by omega) (by omega) (I.notKing ha hs hat hb64) (fun j hj => ?_)
    rw [ea, geti_set' (by omega) (by simp [hl]; exact hb64), set2_get hl ha hb64]
    by_cases hjb : j = b
    ·rw [if_pos (by omega), if_pos hjb]
    ·rw [if_neg (by omega), if_neg hjb, if_neg hjb]
   ·have ea : aft p t e a b k = (p.set a 0).set b (geti p a) := by
     unfold aft
     rw [if_pos h1, if_neg hbe, if_neg hk]
    refine .one (geti p a) hs (.inl rfl) (fun _ => by unfold Into at hi; split at hi <;> omega) (by omega) (I.notKing ha hs hat hb64) (fun j hj => ?_)
    rw [ea, set2_get hl ha hb64]
 | push ha hs h1 hb h0b hi =>
  have hv := pawn_val ht hs h1
  have hpw := I.pw a ha h1
  have hb64 : b < 64 := by rcases sgn_t ht with ⟨rfl, h⟩ | ⟨rfl, h⟩ <;> rw [h] at hb <;> omega
  have hbs : sideI (geti p b) ≠ t := by rw [h0b]; rcases ht with rfl | rfl <;> decide
  have hbk : geti p b ≠ kingV (1 - t) := by rw [h0b]; unfold kingV; split <;> decide
  by_cases hbe : (b : Int) = e
  ·-- no pawn stands in front of the place gone over
   rcases I.ep with he | ⟨b', he, hr, _, hd⟩
   ·omega
   have : b' = b := by omega
   subst this
   rw [show (b' : Int) - 8 * sgn t = (a : Int) by omega, hv] at hd
   have hsg : sgn t = 1 ∨ sgn t = -1 := by rcases sgn_t ht with h | h <;> omega
   omega
  by_cases hk : 0 < k
  ·have ea : aft p t e a b k = ((p.set a 0).set b (geti p a)).set b (k * sgn t) := by
    unfold aft
    rw [if_pos h1, if_neg hbe, if_pos hk]
   have hi2 : 2 ≤ k ∧ k ≤ 5 := by unfold Into at hi; split at hi <;> omega
   have hv2 : sideI (k * sgn t) = t ∧ 2 ≤ (k * sgn t).natAbs ∧ (k * sgn t).natAbs ≤ 5 := by
    rcases sgn_t ht with ⟨rfl, h⟩ | ⟨rfl, h⟩ <;> rw [h]
    ·rw [side0]; omega
    ·rw [side1]; omega
   refine .one (k * sgn t) hv2.1 (.inr ⟨h1, hv2.2⟩) (fun h => by omega) hbs hbk (fun j hj => ?_)
   rw [ea, geti_set' (by omega) (by simp [hl]; exact hb64), set2_get hl ha hb64]
   by_cases hjb : j = b
   ·rw [if_pos (by omega), if_pos hjb]
   ·rw [if_neg (by omega), if_neg hjb, if_neg hjb]
  ·have ea : aft p t e a b k = (p.set a 0).set b (geti p a) := by
    unfold aft
    rw [if_pos h1, if_neg hbe, if_neg hk]
   refine .one (geti p a) hs (.inl rfl) (fun _ => by unfold Into at hi; split at hi <;> omega) hbs hbk (fun j hj => ?_)
   rw [ea, set2_get hl ha hb64]
 | dbl ha hs h1 hb hrow hmid h0b =>
  have hv := pawn_val ht hs h1
  have hb64 : b < 64 ∧ 8 ≤ b ∧ b < 56 := by rcases sgn_t ht with ⟨rfl, h⟩ | ⟨rfl, h⟩ <;> rw [h] at hb <;> omega
  have hbs : sideI (geti p b) ≠ t := by rw [h0b]; rcases ht with rfl | rfl <;> decide
  have hbk : geti p b ≠ kingV (1 - t) := by rw [h0b]; unfold kingV; split <;> decide
  have hbe : ¬ (b : Int) = e := by
   rcases I.ep with he | ⟨b', he, hr, _, _⟩
   ·omega
   ·rcases sgn_t ht with ⟨rfl, h⟩ | ⟨rfl, h⟩ <;> rw [h] at hb <;> omega
  have ea : aft p t e a b 0 = (p.set a 0).set b (geti p a) := by
   unfold aft
   rw [if_pos h1, if_neg hbe, if_neg (by decide)]
  refine .one (geti p a) hs (.inl rfl) (fun _ => hb64.2) hbs hbk (fun j hj => ?_)
  rw [ea, set2_get hl ha hb64.1]
 | @castle n ho =>
  have hc := I.cs n ho.lt ho.bit
  rw [ho.side] at hc
  refine .cast n ho rfl rfl hc.1 hc.2 (fun j hj => ?_)
  have hsg : (6 * sgn t).natAbs = 6 := by rcases sgn_t ht with ⟨_, h⟩ | ⟨_, h⟩ <;> rw [h] <;> rfl
  have hn := ho.lt
  have hcases : n = 0 ∨ n = 1 ∨ n = 2 ∨ n = 3 := by omega
  unfold aft
  rw [hc.1]
  rcases hcases with rfl | rfl | rfl | rfl
  ·rw [if_neg (by omega), if_pos ⟨hsg, by decide⟩]
   exact cast_get hl (a := 4) (b := 6) (mid := 5) (r := 7) (by decide) (by decide) (by decide) (by decide) (by decide) (by decide) hc.2 j
  ·rw [if_neg (by omega), if_pos ⟨hsg, by decide⟩]
   exact cast_get hl (a := 4) (b := 2) (mid := 3) (r := 0) (by decide) (by decide) (by decide) (by decide) (by decide) (by decide) hc.2 j
  ·rw [if_neg (by omega), if_pos ⟨hsg, by decide⟩]
   exact cast_get hl (a := 60) (b := 62) (mid := 61) (r := 63) (by decide) (by decide) (by decide) (by decide) (by decide) (by decide) hc.2 j
  ·rw [if_neg (by omega), if_pos ⟨hsg, by decide⟩]
   exact cast_get hl (a := 60) (b := 58) (mid := 59) (r := 56) (by decide) (by decide) (by decide) (by decide) (by decide) (by decide) hc.2 j
end
end Go.Proofs.Ytkpkkdpfcbnfdaa
namespace Go.Proofs.Ytkpkkdpfcbnfdaa
open Go Go.GL Go.RowKit
def clr (c : Int) (n : Nat) (l : Bool) : Int := if (l && cbit c n) = true then c - 2 ^ n else c
def clr4 (c : Int) (l0 l1 l2 l3 : Bool) : Int := clr (clr (clr (clr c 0 l0) 1 l1) 2 l2) 3 l3
theorem clr_tab : ((List.range 16).all fun c => [false, true].all fun l0 => [false, true].all fun l1 => [false, true].all fun l2 => [false, true].all fun l3 =>
  decide (0 ≤ clr4 (c : Int) l0 l1 l2 l3 ∧ clr4 (c : Int) l0 l1 l2 l3 ≤ 15) && ((cbit (clr4 (c : Int) l0 l1 l2 l3) 0 == (cbit c 0 && !l0)) && ((cbit (clr4 (c : Int) l0 l1 l2 l3) 1 == (cbit c 1 && !l1)) && ((cbit (clr4 (c : Int) l0 l1 l2 l3) 2 == (cbit c 2 && !l2)) && (cbit (clr4 (c : Int) l0 l1 l2 l3) 3 == (cbit c 3 && !l3)))))) = true := by decide +kernel
theorem clr4_p {c : Int} (hc : 0 ≤ c ∧ c ≤ 15) (l : Nat → Bool) : (0 ≤ clr4 c (l 0) (l 1) (l 2) (l 3) ∧ clr4 c (l 0) (l 1) (l 2) (l 3) ≤ 15) ∧ ∀ n, n < 4 → cbit (clr4 c (l 0) (l 1) (l 2) (l 3)) n = (cbit c n && !l n) := by
 have bm : ∀ x : Bool, x ∈ [false, true] := fun x => by cases x <;> simp
 have h := List.all_eq_true.1 clr_tab c.toNat (List.mem_range.2 (by omega))
 have h := List.all_eq_true.1 h (l 0) (bm _)
 have h := List.all_eq_true.1 h (l 1) (bm _)
 have h := List.all_eq_true.1 h (l 2) (bm _)
 have h := List.all_eq_true.1 h (l 3) (bm _)
 rw [show ((c.toNat : Nat) : Int) = c by omega] at h
 simp only [Bool.and_eq_true, decide_eq_true_eq, beq_iff_eq] at h
 refine ⟨h.1, fun n hn => ?_⟩
 have : n = 0 ∨ n = 1 ∨ n = 2 ∨ n = 3 := by omega
 rcases this with rfl | rfl | rfl | rfl
 ·exact h.2.1
 ·exact h.2.2.1
 ·exact h.2.2.2.1
 ·exact h.2.2.2.2
def lost (p : List Int) (t : Int) (a b n : Nat) : Bool := decide ((geti p a).natAbs = 6 ∧ ((n / 2 : Nat) : Int) = t) || (decide (a = homeR n) || decide (b = homeR n))
def cAft (p : List Int) (t c : Int) (a b : Nat) : Int := clr4 c (lost p t a b 0) (lost p t a b 1) (lost p t a b 2) (lost p t a b 3)
def eAft (p : List Int) (t : Int) (a b : Nat) : Int := if (geti p a).natAbs = 1 ∧ (b : Int) - a = 16 * sgn t then (a : Int) + 8 * sgn t else -1
def hAft (p : List Int) (h : Int) (a b : Nat) : Int := if (geti p a).natAbs = 1 ∨ geti p b ≠ 0 then 0 else if h + 1 > 999 then 999 else h + 1
def fAft (f t : Int) : Int := if f + t > 999 then 999 else f + t
theorem kv {s : Int} (h : s = 0 ∨ s = 1) : kingV s = 6 * sgn s ∧ sideI (kingV s) = s ∧ (kingV s).natAbs = 6 := by
 rcases h with rfl | rfl <;> decide
section
variable {p : List Int} {t c e h f : Int} {a b : Nat} {k : Int}
theorem PL.bds (I : Inv p t c e h f) (m : PL p t c e a b k) : a < 64 ∧ b < 64 ∧ sideI (geti p a) = t ∧ a ≠ b ∧ sideI (geti p b) ≠ t := by
 have ht := I.tt
 cases m with
 | pc ha hs h1 hb ho => exact ⟨ha, reach_lt hb, hs, fun e => ho (by rw [← e]; exact hs), ho⟩
 | cap ha hs h1 hb ho hi =>
  refine ⟨ha, reach_lt hb, hs, ?_⟩
  have : sideI (geti p b) ≠ t := by
   rcases ho with ho | ho
   ·omega
   ·rcases I.ep with he | ⟨b', he, _, h0, _⟩
    ·omega
    ·have : b' = b := by omega
     subst this
     rw [h0]
     have : sideI 0 = -1 := rfl
     omega
  exact ⟨fun e => this (by rw [← e]; exact hs), this⟩
 | push ha hs h1 hb h0b hi =>
  have hpw := I.pw a ha h1
  have : sideI (geti p b) ≠ t := by
   rw [h0b]
   have : sideI 0 = -1 := rfl
   omega
  refine ⟨ha, ?_, hs, fun e => this (by rw [← e]; exact hs), this⟩
  rcases sgn_t ht with ⟨rfl, h⟩ | ⟨rfl, h⟩ <;> rw [h] at hb <;> omega
 | dbl ha hs h1 hb hrow hmid h0b =>
  have hpw := I.pw a ha h1
  have : sideI (geti p b) ≠ t := by
   rw [h0b]
   have : sideI 0 = -1 := rfl
   omega
  refine ⟨ha, ?_, hs, fun e => this (by rw [← e]; exact hs), this⟩
  rcases sgn_t ht with ⟨rfl, h⟩ | ⟨rfl, h⟩ <;> rw [h] at hb <;> omega
 | @castle n ho =>
  have hc := I.cs n ho.lt ho.bit
  rw [ho.side] at hc
  have h0 : geti p (castTo n) = 0 := by
   have := ho.lt
   have hcases : n = 0 ∨ n = 1 ∨ n = 2 ∨ n = 3 := by omega
   refine ho.free _ ?_
   rcases hcases with rfl | rfl | rfl | rfl <;> decide
  have hs : sideI (geti p (homeK n)) = t := by
   rw [hc.1, ← (kv ht).1]; exact (kv ht).2.1
  have : sideI (geti p (castTo n)) ≠ t := by
   rw [h0]
   have : sideI 0 = -1 := rfl
   omega
  refine ⟨by unfold homeK; split <;> omega, by unfold castTo; split <;> (try split) <;> (try split) <;> omega, hs, fun e => this (by rw [← e]; exact hs), this⟩
theorem eAft_dbl (I : Inv p t c e h f) (m : PL p t c e a b k) (h1 : (geti p a).natAbs = 1) (h16 : (b : Int) - a = 16 * sgn t) : geti p ((a : Int) + 8 * sgn t) = 0 ∧ ((a / 8 : Nat) : Int) = 1 + 5 * t ∧ k = 0 ∧ ¬ (b : Int) = e := by
 have ht := I.tt
 have hsg : sgn t = 1 ∨ sgn t = -1 := by rcases sgn_t ht with h | h <;> omega
 cases m with
 | pc ha hs h1' hb ho => exact absurd h1 h1'
 | cap ha hs h1 hb ho hi =>
  have hpr := pawn_reach h1 hb
  have hv := pawn_val ht hs h1
  omega
 | push ha hs h1 hb h0b hi => omega
 | dbl ha hs h1 hb hrow hmid h0b =>
  refine ⟨hmid, hrow, rfl, ?_⟩
  rcases I.ep with he | ⟨b', he, hr, _, _⟩
  ·omega
  ·rcases sgn_t ht with ⟨rfl, h⟩ | ⟨rfl, h⟩ <;> rw [h] at hb <;> omega
 | @castle n ho =>
  have hc := I.cs n ho.lt ho.bit
  rw [hc.1] at h1
  have : sgn ((n / 2 : Nat) : Int) = 1 ∨ sgn ((n / 2 : Nat) : Int) = -1 := by rw [ho.side]; exact hsg
  omega
theorem next_sm (I : Inv p t c e h f) (m : PL p t c e a b k) : Small (aft p t e a b k) := by
 refine ⟨by rw [aft_len]; exact I.len, fun j hj => ?_⟩
 have hb := m.bds I
 have hp := I.sm.2 j hj
 have hpa := I.sm.2 a hb.1
 have hsg : sgn t = 1 ∨ sgn t = -1 := by rcases sgn_t I.tt with h | h <;> omega
 cases turned I m with
 | one v hv hv' hpv hbs hbk hq =>
  rw [hq j hj]
  split
  ·omega
  ·split <;> omega
 | over d hd hda hdb hdp hb0 h1 hb8 hq =>
  rw [hq j hj]
  split
  ·omega
  ·split
   ·omega
   ·split <;> omega
 | cast n ho ha hb hk hr hq =>
  rw [hq j hj]
  split
  ·omega
  ·split
   ·omega
   ·split
    ·omega
    ·split <;> omega
theorem next_pw (I : Inv p t c e h f) (m : PL p t c e a b k) : ∀ j : Nat, j < 64 → (geti (aft p t e a b k) j).natAbs = 1 → 8 ≤ j ∧ j < 56 := by
 intro j hj
 have hp := I.pw j hj
 have hsg : sgn t = 1 ∨ sgn t = -1 := by rcases sgn_t I.tt with h | h <;> omega
 cases turned I m with
 | one v hv hv' hpv hbs hbk hq =>
  rw [hq j hj]
  split
  ·rename_i h; rw [h]; exact hpv
  ·split
   ·intro h; simp at h
   ·exact hp
 | over d hd hda hdb hdp hb0 h1 hb8 hq =>
  rw [hq j hj]
  split
  ·intro h; simp at h
  ·split
   ·rename_i h; rw [h]; exact fun _ => hb8
   ·split
    ·intro h; simp at h
    ·exact hp
 | cast n ho ha hb hk hr hq =>
  rw [hq j hj]
  split
  ·intro h; simp at h
  ·split
   ·intro h; omega
   ·split
    ·intro h; omega
    ·split
     ·intro h; simp at h
     ·exact hp
theorem cast_geo (n : Nat) (hn : n < 4) : homeR n ≠ homeK n ∧ homeR n ≠ castTo n ∧ homeR n ≠ midC n ∧ midC n ≠ homeK n ∧ midC n ≠ castTo n ∧ castTo n ≠ homeK n ∧ homeR n < 64 ∧ midC n < 64 ∧ castTo n < 64 ∧ homeK n < 64 ∧ midC n ∈ betw n ∧ castTo n ∈ betw n := by
 have hcases : n = 0 ∨ n = 1 ∨ n = 2 ∨ n = 3 := by omega
 rcases hcases with rfl | rfl | rfl | rfl <;> decide
theorem next_kg (I : Inv p t c e h f) (m : PL p t c e a b k) : ∀ s : Int, s = 0 ∨ s = 1 → ∃ k' : Nat, k' < 64 ∧ ∀ j : Nat, j < 64 → (geti (aft p t e a b k) j = kingV s ↔ j = k') := by
 intro s hs
 obtain ⟨k0, hk64, hu⟩ := I.kg s hs
 have hb := m.bds I
 have hkv := kv hs
 have hk0 := (hu k0 hk64).2 rfl
 have hsg : sgn t = 1 ∨ sgn t = -1 := by rcases sgn_t I.tt with h | h <;> omega
 have h0k : (0 : Int) ≠ kingV s := by intro e; rw [← e] at hkv; have := hkv.2.2; simp at this
 cases turned I m with
 | one v hv hv' hpv hbs hbk hq =>
  by_cases hst : s = t
  ·subst hst
   by_cases h6 : (geti p a).natAbs = 6
   ·have hva : v = geti p a := by rcases hv' with h | h <;> omega
    have hak : geti p a = kingV s := by
     rcases side_cases (geti p a) with q | q | q
     ·rcases hs with rfl | rfl <;> (unfold kingV; simp; omega)
     ·rcases hs with rfl | rfl <;> (unfold kingV; simp; omega)
     ·omega
    have hka := (hu a hb.1).1 hak
    refine ⟨b, hb.2.1, fun j hj => ?_⟩
    rw [hq j hj]
    by_cases h1 : j = b
    ·rw [if_pos h1, hva, hak]; simp [h1]
    ·rw [if_neg h1]
     by_cases h2 : j = a
     ·rw [if_pos h2]; simp [h1, h0k]
     ·rw [if_neg h2, hu j hj, ← hka]; simp [h1, h2]
   ·have hvn : v ≠ kingV s := by intro e; have := hkv.2.2; rw [← e] at this; rcases hv' with h | h <;> omega
    have hka : k0 ≠ a := by intro e; rw [e] at hk0; rw [hk0] at h6; exact h6 hkv.2.2
    have hkb : k0 ≠ b := by intro e; rw [e] at hk0; rw [hk0] at hbs; exact hbs hkv.2.1
    refine ⟨k0, hk64, fun j hj => ?_⟩
    rw [hq j hj]
    by_cases h1 : j = b
    ·rw [if_pos h1]; simp [hvn, h1, Ne.symm hkb]
    ·rw [if_neg h1]
     by_cases h2 : j = a
     ·rw [if_pos h2]; simp [h0k, h2, Ne.symm hka]
     ·rw [if_neg h2, hu j hj]
  ·have hs1 : s = 1 - t := by have := I.tt; omega
   subst hs1
   have hvn : v ≠ kingV (1 - t) := by intro e; rw [e] at hv; rw [hkv.2.1] at hv; exact hst hv
   have hka : k0 ≠ a := by intro e; rw [e] at hk0; have := hb.2.2.1; rw [hk0, hkv.2.1] at this; exact hst this
   have hkb : k0 ≠ b := by intro e; rw [e] at hk0; exact hbk hk0
   refine ⟨k0, hk64, fun j hj => ?_⟩
   rw [hq j hj]
   by_cases h1 : j = b
   ·rw [if_pos h1]; simp [hvn, h1, Ne.symm hkb]
   ·rw [if_neg h1]
    by_cases h2 : j = a
    ·rw [if_pos h2]; simp [h0k, h2, Ne.symm hka]
    ·rw [if_neg h2, hu j hj]
 | over d hd hda hdb hdp hb0 h1 hb8 hq =>
  have hkd : k0 ≠ d := by intro e; rw [e] at hk0; rw [hk0] at hdp; have := hkv.2.2; omega
  have hka : k0 ≠ a := by intro e; rw [e] at hk0; have := hkv.2.2; rw [← hk0] at this; omega
  have hkb : k0 ≠ b := by intro e; rw [e] at hk0; have := hkv.2.2; rw [← hk0] at this; omega
  have hpa : geti p a ≠ kingV s := by intro e; have := hkv.2.2; rw [← e] at this; omega
  refine ⟨k0, hk64, fun j hj => ?_⟩
  rw [hq j hj]
  by_cases h0 : j = d
  ·rw [if_pos h0]; simp [h0k, h0, Ne.symm hkd]
  ·rw [if_neg h0]
   by_cases h1 : j = b
   ·rw [if_pos h1]; simp [hpa, h1, Ne.symm hkb]
   ·rw [if_neg h1]
    by_cases h2 : j = a
    ·rw [if_pos h2]; simp [h0k, h2, Ne.symm hka]
    ·rw [if_neg h2, hu j hj]
 | cast n ho ha hb' hk hr hq =>
  have hg := cast_geo n ho.lt
  have hm0 := ho.free _ hg.2.2.2.2.2.2.2.2.2.2.1
  have ht0 := ho.free _ hg.2.2.2.2.2.2.2.2.2.2.2
  have h4 : 4 * sgn t ≠ kingV s := by intro e; have := hkv.2.2; rw [← e] at this; omega
  have hkr : k0 ≠ homeR n := by intro e; rw [e] at hk0; rw [hk0] at hr; exact h4 hr.symm
  have hkm : k0 ≠ midC n := by intro e; rw [e] at hk0; rw [hk0] at hm0; exact h0k hm0.symm
  have hkt : k0 ≠ castTo n := by intro e; rw [e] at hk0; rw [hk0] at ht0; exact h0k ht0.symm
  by_cases hst : s = t
  ·subst hst
   have hkk : k0 = homeK n := by
    have := (hu (homeK n) hg.2.2.2.2.2.2.2.2.2.1).1 (by rw [hk, hkv.1])
    omega
   refine ⟨castTo n, hg.2.2.2.2.2.2.2.2.1, fun j hj => ?_⟩
   rw [hq j hj]
   by_cases h0 : j = homeR n
   ·rw [if_pos h0]; simp [h0k, h0, hg.2.1]
   ·rw [if_neg h0]
    by_cases h1 : j = midC n
    ·rw [if_pos h1]; simp [h4, h1, hg.2.2.2.2.1]
    ·rw [if_neg h1]
     by_cases h2 : j = castTo n
     ·rw [if_pos h2]; simp [h2, hkv.1]
     ·rw [if_neg h2]
      by_cases h3 : j = homeK n
      ·rw [if_pos h3]; simp [h0k, h2]
      ·rw [if_neg h3, hu j hj, hkk]; simp [h2, h3]
  ·have h6 : 6 * sgn t ≠ kingV s := by rw [← (kv I.tt).1]; intro e; have := hkv.2.1; rw [← e, (kv I.tt).2.1] at this; exact hst this.symm
   have hkk : k0 ≠ homeK n := by intro e; rw [e] at hk0; rw [hk0] at hk; exact h6 hk.symm
   refine ⟨k0, hk64, fun j hj => ?_⟩
   rw [hq j hj]
   by_cases h0 : j = homeR n
   ·rw [if_pos h0]; simp [h0k, h0, Ne.symm hkr]
   ·rw [if_neg h0]
    by_cases h1 : j = midC n
    ·rw [if_pos h1]; simp [h4, h1, Ne.symm hkm]
    ·rw [if_neg h1]
     by_cases h2 : j = castTo n
     ·rw [if_pos h2]; simp [h6, h2, Ne.symm hkt]
     ·rw [if_neg h2]
      by_cases h3 : j = homeK n
      ·rw [if_pos h3]; simp [h0k, h3, Ne.symm hkk]
      ·rw [if_neg h3, hu j hj]
set_option maxHeartbeats 1000000 in
theorem next_cs (I : Inv p t c e h f) (m : PL p t c e a b k) : ∀ n : Nat, n < 4 → cbit (cAft p t c a b) n = true → geti (aft p t e a b k) (homeK n) = 6 * sgn ((n / 2 : Nat) : Int) ∧ geti (aft p t e a b k) (homeR n) = 4 * sgn ((n / 2 : Nat) : Int) := by
 intro n hn hc
 have hcl := (clr4_p I.cc (lost p t a b)).2 n hn
 unfold cAft at hc
 rw [hcl, Bool.and_eq_true, Bool.not_eq_true'] at hc
 have hp := I.cs n hn hc.1
 have hlo := hc.2
 unfold lost at hlo
 simp only [Bool.or_eq_false_iff, decide_eq_false_iff_not] at hlo
 obtain ⟨l1, l2, l3⟩ := hlo
 have hb := m.bds I
 have hsg : sgn t = 1 ∨ sgn t = -1 := by rcases sgn_t I.tt with h | h <;> omega
 have hn2 : ((n / 2 : Nat) : Int) = 0 ∨ ((n / 2 : Nat) : Int) = 1 := by omega
 have hkn := kv hn2
 have hg := cast_geo n hn
 have hR64 := hg.2.2.2.2.2.2.1
 have hK64 := hg.2.2.2.2.2.2.2.2.2.1
 have hkp : geti p (homeK n) = kingV ((n / 2 : Nat) : Int) := by rw [hp.1, hkn.1]
 have hka : homeK n ≠ a := by
  intro e
  rw [← e, hkp] at l1
  have h2 := hb.2.2.1
  rw [← e, hkp, hkn.2.1] at h2
  exact l1 ⟨hkn.2.2, h2⟩
 have hrs : sideI (4 * sgn ((n / 2 : Nat) : Int)) = ((n / 2 : Nat) : Int) := by rcases hn2 with h | h <;> rw [h] <;> rfl
 cases turned I m with
 | one v hv hv' hpv hbs hbk hq =>
  have hkb : homeK n ≠ b := by
   intro e
   rw [← e, hkp] at hbs hbk
   rw [hkn.2.1] at hbs
   have : ((n / 2 : Nat) : Int) = 1 - t := by have := I.tt; omega
   rw [this] at hbk
   exact hbk rfl
  rw [hq _ hK64, hq _ hR64, if_neg hkb, if_neg hka, if_neg (Ne.symm l3), if_neg (Ne.symm l2)]
  exact hp
 | over d hd hda hdb hdp hb0 h1 hb8 hq =>
  have hkb : homeK n ≠ b := by intro e; rw [← e, hkp] at hb0; have := hkn.2.2; rw [hb0] at this; simp at this
  have hkd : homeK n ≠ d := by intro e; rw [← e, hkp] at hdp; have := hkn.2.2; rw [hdp] at this; omega
  have hsn : sgn ((n / 2 : Nat) : Int) = 1 ∨ sgn ((n / 2 : Nat) : Int) = -1 := by rcases sgn_t hn2 with h | h <;> omega
  have hrd : homeR n ≠ d := by intro e; rw [← e, hp.2] at hdp; omega
  rw [hq _ hK64, hq _ hR64, if_neg hkd, if_neg hkb, if_neg hka, if_neg hrd, if_neg (Ne.symm l3), if_neg (Ne.symm l2)]
  exact hp
 | cast n' ho ha hb' hk hr hq =>
  have hne : ((n / 2 : Nat) : Int) ≠ t := by
   intro e
   apply l1
   rw [ha, hk]
   exact ⟨by omega, e⟩
  have hg' := cast_geo n' ho.lt
  have hm0 := ho.free _ hg'.2.2.2.2.2.2.2.2.2.2.1
  have ht0 := ho.free _ hg'.2.2.2.2.2.2.2.2.2.2.2
  have s6 : sideI (6 * sgn t) = t := by rw [← (kv I.tt).1]; exact (kv I.tt).2.1
  have s4 : sideI (4 * sgn t) = t := by rcases I.tt with rfl | rfl <;> rfl
  have s0 : sideI 0 = -1 := rfl
  have hdiff : ∀ x : Nat, sideI (geti p (x : Int)) = ((n / 2 : Nat) : Int) → x ≠ homeR n' ∧ x ≠ midC n' ∧ x ≠ castTo n' ∧ x ≠ homeK n' := by
   intro x hx
   refine ⟨?_, ?_, ?_, ?_⟩
   ·intro e; rw [e, hr, s4] at hx; omega
   ·intro e; rw [e, hm0, s0] at hx; omega
   ·intro e; rw [e, ht0, s0] at hx; omega
   ·intro e; rw [e, hk, s6] at hx; omega
  have dK := hdiff (homeK n) (by rw [hkp]; exact hkn.2.1)
  have dR := hdiff (homeR n) (by rw [hp.2]; exact hrs)
  rw [hq _ hK64, hq _ hR64, if_neg dK.1, if_neg dK.2.1, if_neg dK.2.2.1, if_neg dK.2.2.2, if_neg dR.1, if_neg dR.2.1, if_neg dR.2.2.1, if_neg dR.2.2.2]
  exact hp
theorem next_ep (I : Inv p t c e h f) (m : PL p t c e a b k) : eAft p t a b = -1 ∨ ∃ b' : Nat, eAft p t a b = b' ∧ ((b' / 8 : Nat) : Int) = 5 - 3 * (1 - t) ∧ geti (aft p t e a b k) b' = 0 ∧ geti (aft p t e a b k) ((b' : Int) - 8 * sgn (1 - t)) = - sgn (1 - t) := by
 unfold eAft
 by_cases hd : (geti p a).natAbs = 1 ∧ (b : Int) - a = 16 * sgn t
 ·rw [if_pos hd]
  right
  obtain ⟨q1, q2, q3, q4⟩ := eAft_dbl I m hd.1 hd.2
  have hb := m.bds I
  have hv := pawn_val I.tt hb.2.2.1 hd.1
  have hs1 : sgn (1 - t) = - sgn t := by unfold sgn; omega
  have ea : aft p t e a b k = (p.set a 0).set b (geti p a) := by
   unfold aft
   rw [if_pos hd.1, if_neg q4, if_neg (by omega)]
  obtain ⟨b', hb', hb1, hb2, hb3⟩ : ∃ b' : Nat, (b' : Int) = (a : Int) + 8 * sgn t ∧ b' ≠ a ∧ b' ≠ b ∧ ((b' / 8 : Nat) : Int) = 5 - 3 * (1 - t) := by
   rcases sgn_t I.tt with ⟨rfl, h⟩ | ⟨rfl, h⟩ <;> rw [h] at hd ⊢
   ·exact ⟨a + 8, by omega, by omega, by omega, by omega⟩
   ·exact ⟨a - 8, by omega, by omega, by omega, by omega⟩
  refine ⟨b', hb'.symm, hb3, ?_, ?_⟩
  ·rw [ea, set2_get I.len hb.1 hb.2.1, if_neg hb2, if_neg hb1, hb']
   exact q1
  ·rw [hs1, show (b' : Int) - 8 * -sgn t = (b : Int) by omega, ea, set2_get I.len hb.1 hb.2.1, if_pos rfl, hv]
   omega
 ·rw [if_neg hd]; exact .inl rfl
theorem Inv.next (I : Inv p t c e h f) (m : PL p t c e a b k) (hs : inChk (aft p t e a b k) t = false) : Inv (aft p t e a b k) (1 - t) (cAft p t c a b) (eAft p t a b) (hAft p h a b) (fAft f t) where
 sm := next_sm I m
 tt := by have := I.tt; omega
 cc := (clr4_p I.cc (lost p t a b)).1
 hh := by have := I.hh; unfold hAft; split <;> (try split) <;> omega
 ff := by have := I.ff; have := I.tt; unfold fAft; split <;> omega
 kg := next_kg I m
 pw := next_pw I m
 sf := by rw [show 1 - (1 - t) = t by omega]; exact hs
 cs := next_cs I m
 ep := next_ep I m
end
end Go.Proofs.Ytkpkkdpfcbnfdaa
namespace Go.Proofs.Ytkpkkdpfcbnfdaa
open Go Go.GL Go.RowKit
abbrev Mv := Int × Int × Int
def mv (a b : Nat) (k : Int) : Mv := ((a : Int), (b : Int), k)
theorem mv_inj {a b a' b' : Nat} {k k' : Int} (h : mv a b k = mv a' b' k') : a = a' ∧ b = b' ∧ k = k' := by
 unfold mv at h
 simp only [Prod.mk.injEq] at h
 omega
def intoL (b : Nat) : List Int := if 8 ≤ b ∧ b < 56 then [0] else [2, 3, 4, 5]
theorem intoL_mem {b : Nat} {k : Int} : k ∈ intoL b ↔ Into b k := by
 unfold intoL Into
 split
 ·simp
 ·simp only [List.mem_cons, List.not_mem_nil, or_false]; omega
def pushL (p : List Int) (t : Int) (a : Nat) : List Nat :=
 if geti p ((a : Int) + 8 * sgn t) = 0 then ((a : Int) + 8 * sgn t).toNat :: (if ((a / 8 : Nat) : Int) = 1 + 5 * t ∧ geti p ((a : Int) + 16 * sgn t) = 0 then [((a : Int) + 16 * sgn t).toNat] else []) else []
def pawnTo (p : List Int) (t e : Int) (a : Nat) : List Nat := (reachL p a).filter (fun (b : Nat) => (sideI (geti p b) == 1 - t) || ((b : Int) == e)) ++ pushL p t a
def fromL (p : List Int) (t e : Int) (a : Nat) : List Mv :=
 if sideI (geti p a) ≠ t then [] else if (geti p a).natAbs = 1 then (pawnTo p t e a).flatMap (fun b => (intoL b).map (mv a b))
 else ((reachL p a).filter (fun (b : Nat) => sideI (geti p b) != t)).map (fun b => mv a b 0)
def castB (p : List Int) (t c : Int) (n : Nat) : Bool :=
 (decide (((n / 2 : Nat) : Int) = t) && cbit c n) && ((betw n).all (fun (j : Nat) => geti p j == 0) && (wayC n).all (fun j => (attL p j (1 - t) 64).isEmpty))
def castL (p : List Int) (t c : Int) : List Mv := ([0, 1, 2, 3].filter (castB p t c)).map (fun n => mv (homeK n) (castTo n) 0)
def rawL (p : List Int) (t c e : Int) : List Mv := (List.range 64).flatMap (fromL p t e) ++ castL p t c
def safeB (p : List Int) (t e : Int) (m : Mv) : Bool := !inChk (aft p t e m.1.toNat m.2.1.toNat m.2.2) t
def progL (p : List Int) (t c e : Int) : List Mv := (rawL p t c e).filter (safeB p t e)
def mayB (p : List Int) (t e : Int) (a b : Nat) : Bool :=
 if (decide (geti p a * sgn t ≤ 0) || decide (0 < geti p b * sgn t)) = true then false
 else if geti p a * sgn t ≠ 1 then attB p a b
 else if attB p a b = true then (geti p b != 0) || ((b : Int) == e)
 else if (b : Int) = a + 8 * sgn t then geti p b == 0
 else (decide (((a / 8 : Nat) : Int) = 1 + 5 * t) && decide ((b : Int) = a + 16 * sgn t)) && ((geti p b == 0) && (geti p ((a : Int) + 8 * sgn t) == 0))
def plB (p : List Int) (t c e : Int) (a b : Nat) : Bool := mayB p t e a b || (decide ((geti p a).natAbs = 6) && [0, 1, 2, 3].any (fun n => castB p t c n && decide (castTo n = b)))
def kindsL (p : List Int) (a b : Nat) : List Int := if (geti p a).natAbs = 1 ∧ ¬ (8 ≤ b ∧ b < 56) then [2, 3, 4, 5] else [0]
def refTo (p : List Int) (t c e : Int) (a b : Nat) : List Mv := if (plB p t c e a b && !inChk (aft p t e a b 0) t) = true then (kindsL p a b).map (mv a b) else []
def refL (p : List Int) (t c e : Int) : List Mv := (List.range 64).flatMap (fun (a : Nat) => if sideI (geti p a) ≠ t then [] else (List.range 64).flatMap (refTo p t c e a))
theorem castB_iff {p : List Int} {t c : Int} {n : Nat} (hn : n < 4) : castB p t c n = true ↔ CastOk p t c n := by
 unfold castB
 simp only [Bool.and_eq_true, decide_eq_true_eq, List.all_eq_true, beq_iff_eq, List.isEmpty_iff]
 constructor
 ·rintro ⟨⟨h1, h2⟩, h3, h4⟩; exact ⟨hn, h1, h2, h3, h4⟩
 ·rintro ⟨_, h1, h2, h3, h4⟩; exact ⟨⟨h1, h2⟩, h3, h4⟩
section
variable {p : List Int} {t c e h f : Int} {a b : Nat} {k : Int}
theorem king_reach (h6 : (geti p a).natAbs = 6) (hb : b ∈ reachL p a) : ((b : Int) - a).natAbs ≠ 2 := by
 intro h2
 unfold reachL at hb
 rw [if_neg (by omega), if_neg (by omega), h6] at hb
 obtain ⟨s, hs, hb⟩ := List.mem_flatMap.1 hb
 rw [show oneK ((6 : Nat) : Int) = true from rfl, cut_one] at hb
 have hs : s ∈ dirs := hs
 have hd : (s.1 = 0 ∨ s.1 = 1 ∨ s.1 = -1) ∧ (s.2 = 0 ∨ s.2 = 1 ∨ s.2 = -1) := by
  have : ∀ s ∈ dirs, (s.1 = 0 ∨ s.1 = 1 ∨ s.1 = -1) ∧ (s.2 = 0 ∨ s.2 = 1 ∨ s.2 = -1) := by decide
  exact this s hs
 cases hm : mvO a s.1 s.2 with
 | none => rw [ray_none hm] at hb; simp at hb
 | some q =>
  rw [ray_some hm] at hb
  simp at hb
  subst hb
  have := mvO_bd hm
  omega
theorem push_mem (ht : t = 0 ∨ t = 1) (ha : 8 ≤ a ∧ a < 56) : b ∈ pushL p t a ↔ ((b : Int) = a + 8 * sgn t ∧ geti p b = 0) ∨ ((b : Int) = a + 16 * sgn t ∧ ((a / 8 : Nat) : Int) = 1 + 5 * t ∧ geti p ((a : Int) + 8 * sgn t) = 0 ∧ geti p b = 0) := by
 have hsg := sgn_t ht
 unfold pushL
 by_cases h0 : geti p ((a : Int) + 8 * sgn t) = 0
 ·rw [if_pos h0, List.mem_cons]
  by_cases h1 : ((a / 8 : Nat) : Int) = 1 + 5 * t ∧ geti p ((a : Int) + 16 * sgn t) = 0
  ·rw [if_pos h1, List.mem_singleton]
   constructor
   ·rintro (rfl | rfl)
    ·left; have : (((a : Int) + 8 * sgn t).toNat : Int) = (a : Int) + 8 * sgn t := by omega
     rw [this]; exact ⟨rfl, h0⟩
    ·right; have : (((a : Int) + 16 * sgn t).toNat : Int) = (a : Int) + 16 * sgn t := by omega
     rw [this]; exact ⟨rfl, h1.1, h0, h1.2⟩
   ·rintro (⟨q, _⟩ | ⟨q, _⟩)
    ·left; omega
    ·right; omega
  ·rw [if_neg h1]
   simp only [List.not_mem_nil, or_false]
   constructor
   ·rintro rfl
    left; have : (((a : Int) + 8 * sgn t).toNat : Int) = (a : Int) + 8 * sgn t := by omega
    rw [this]; exact ⟨rfl, h0⟩
   ·rintro (⟨q, _⟩ | ⟨q, q2, _, q4⟩)
    ·omega
    ·rw [q] at q4; exact absurd ⟨q2, q4⟩ h1
 ·rw [if_neg h0]
  simp only [List.not_mem_nil, false_iff]
  rintro (⟨q, q1⟩ | ⟨_, _, q, _⟩)
  ·rw [q] at q1; exact h0 q1
  ·exact h0 q
theorem raw_mem (I : Inv p t c e h f) {m : Mv} : m ∈ rawL p t c e ↔ ∃ a b k, m = mv a b k ∧ PL p t c e a b k := by
 unfold rawL
 rw [List.mem_append, List.mem_flatMap]
 constructor
 ·rintro (⟨a, ha, hm⟩ | hm)
  ·rw [List.mem_range] at ha
   unfold fromL at hm
   split at hm
   ·simp at hm
   rename_i hs
   have hs : sideI (geti p a) = t := by simpa using hs
   split at hm
   ·rename_i h1
    obtain ⟨b, hb, hm⟩ := List.mem_flatMap.1 hm
    obtain ⟨k, hk, rfl⟩ := List.mem_map.1 hm
    rw [intoL_mem] at hk
    refine ⟨a, b, k, rfl, ?_⟩
    rcases List.mem_append.1 hb with hb | hb
    ·rw [List.mem_filter, Bool.or_eq_true, beq_iff_eq, beq_iff_eq] at hb
     exact .cap ha hs h1 hb.1 hb.2 hk
    ·rcases (push_mem I.tt (I.pw a ha h1)).1 hb with ⟨q1, q2⟩ | ⟨q1, q2, q3, q4⟩
     ·exact .push ha hs h1 q1 q2 hk
     ·have : k = 0 := by
       unfold Into at hk
       rw [if_pos (by rcases sgn_t I.tt with ⟨rfl, h⟩ | ⟨rfl, h⟩ <;> rw [h] at q1 <;> omega)] at hk
       exact hk
      subst this
      exact .dbl ha hs h1 q1 q2 q3 q4
   ·rename_i h1
    obtain ⟨b, hb, rfl⟩ := List.mem_map.1 hm
    rw [List.mem_filter, bne_iff_ne] at hb
    exact ⟨a, b, 0, rfl, .pc ha hs h1 hb.1 hb.2⟩
  ·unfold castL at hm
   obtain ⟨n, hn, rfl⟩ := List.mem_map.1 hm
   rw [List.mem_filter] at hn
   have hn4 : n < 4 := by have := hn.1; simp at this; omega
   exact ⟨_, _, _, rfl, .castle ((castB_iff hn4).1 hn.2)⟩
 ·rintro ⟨a, b, k, rfl, m⟩
  cases m with
  | pc ha hs h1 hb ho =>
   refine .inl ⟨a, List.mem_range.2 ha, ?_⟩
   unfold fromL
   rw [if_neg (by simpa using hs), if_neg h1]
   exact List.mem_map.2 ⟨b, by rw [List.mem_filter, bne_iff_ne]; exact ⟨hb, ho⟩, rfl⟩
  | cap ha hs h1 hb ho hi =>
   refine .inl ⟨a, List.mem_range.2 ha, ?_⟩
   unfold fromL
   rw [if_neg (by simpa using hs), if_pos h1]
   refine List.mem_flatMap.2 ⟨b, List.mem_append.2 (.inl ?_), List.mem_map.2 ⟨k, intoL_mem.2 hi, rfl⟩⟩
   rw [List.mem_filter, Bool.or_eq_true, beq_iff_eq, beq_iff_eq]
   exact ⟨hb, ho⟩
  | push ha hs h1 hb h0b hi =>
   refine .inl ⟨a, List.mem_range.2 ha, ?_⟩
   unfold fromL
   rw [if_neg (by simpa using hs), if_pos h1]
   exact List.mem_flatMap.2 ⟨b, List.mem_append.2 (.inr ((push_mem I.tt (I.pw a ha h1)).2 (.inl ⟨hb, h0b⟩))), List.mem_map.2 ⟨k, intoL_mem.2 hi, rfl⟩⟩
  | dbl ha hs h1 hb hrow hmid h0b =>
   refine .inl ⟨a, List.mem_range.2 ha, ?_⟩
   unfold fromL
   rw [if_neg (by simpa using hs), if_pos h1]
   refine List.mem_flatMap.2 ⟨b, List.mem_append.2 (.inr ((push_mem I.tt (I.pw a ha h1)).2 (.inr ⟨hb, hrow, hmid, h0b⟩))), List.mem_map.2 ⟨0, intoL_mem.2 ?_, rfl⟩⟩
   unfold Into
   rw [if_pos (by rcases sgn_t I.tt with ⟨rfl, h⟩ | ⟨rfl, h⟩ <;> rw [h] at hb <;> omega)]
  | @castle n ho =>
   right
   unfold castL
   refine List.mem_map.2 ⟨n, ?_, rfl⟩
   rw [List.mem_filter]
   refine ⟨?_, (castB_iff ho.lt).2 ho⟩
   have := ho.lt
   have hcases : n = 0 ∨ n = 1 ∨ n = 2 ∨ n = 3 := by omega
   rcases hcases with rfl | rfl | rfl | rfl <;> simp
theorem push_nodup (ht : t = 0 ∨ t = 1) (ha : 8 ≤ a ∧ a < 56) : (pushL p t a).Nodup := by
 have hsg := sgn_t ht
 unfold pushL
 split
 ·split
  ·simp; omega
  ·simp
 ·simp
theorem from_nodup (I : Inv p t c e h f) (ha : a < 64) : (fromL p t e a).Nodup := by
 unfold fromL
 split
 ·exact List.nodup_nil
 split
 ·rename_i h1
  have ha8 := I.pw a ha h1
  unfold List.Nodup
  rw [List.pairwise_flatMap]
  constructor
  ·intro b _
   rw [List.pairwise_map]
   refine List.Pairwise.imp (R := (· ≠ ·)) (fun {x y} hxy e => hxy (mv_inj e).2.2) ?_
   show (intoL b).Nodup
   unfold intoL
   split <;> decide
  ·have hn : (pawnTo p t e a).Nodup := by
    unfold pawnTo
    rw [List.nodup_append]
    refine ⟨(reach_nodup p ha).sublist List.filter_sublist, push_nodup I.tt ha8, fun x hx y hy e => ?_⟩
    subst e
    have hr := pawn_reach h1 (List.mem_filter.1 hx).1
    rcases (push_mem I.tt ha8).1 hy with ⟨q, _⟩ | ⟨q, _⟩ <;> rcases sgn_t I.tt with ⟨_, h⟩ | ⟨_, h⟩ <;> rw [h] at q <;> omega
   refine List.Pairwise.imp (fun {x y} hxy => ?_) hn
   intro u hu v hv e
   obtain ⟨k1, _, rfl⟩ := List.mem_map.1 hu
   obtain ⟨k2, _, rfl⟩ := List.mem_map.1 hv
   exact hxy (mv_inj e).2.1
 ·unfold List.Nodup
  rw [List.pairwise_map]
  refine List.Pairwise.imp (fun {x y} hxy e => hxy (mv_inj e).2.1) ((reach_nodup p ha).sublist List.filter_sublist)
theorem fromL_fst {m : Mv} (hm : m ∈ fromL p t e a) : ∃ b k, m = mv a b k := by
 unfold fromL at hm
 split at hm
 ·simp at hm
 split at hm
 ·obtain ⟨b, _, hm⟩ := List.mem_flatMap.1 hm
  obtain ⟨k, _, rfl⟩ := List.mem_map.1 hm
  exact ⟨b, k, rfl⟩
 ·obtain ⟨b, _, rfl⟩ := List.mem_map.1 hm
  exact ⟨b, 0, rfl⟩
theorem raw_nodup (I : Inv p t c e h f) : (rawL p t c e).Nodup := by
 unfold rawL
 rw [List.nodup_append]
 refine ⟨?_, ?_, ?_⟩
 ·unfold List.Nodup
  rw [List.pairwise_flatMap]
  refine ⟨fun a ha => from_nodup I (List.mem_range.1 ha), ?_⟩
  refine List.Pairwise.imp (fun {x y} hxy => ?_) List.nodup_range
  intro u hu v hv e
  obtain ⟨b1, k1, rfl⟩ := fromL_fst hu
  obtain ⟨b2, k2, rfl⟩ := fromL_fst hv
  exact hxy (mv_inj e).1
 ·unfold castL List.Nodup
  rw [List.pairwise_map]
  have hd : ([0, 1, 2, 3] : List Nat).Pairwise (fun x y => ¬ mv (homeK x) (castTo x) 0 = mv (homeK y) (castTo y) 0) := by decide
  exact hd.sublist List.filter_sublist
 ·intro u hu v hv e
  subst e
  obtain ⟨a, ha, hu⟩ := List.mem_flatMap.1 hu
  obtain ⟨n, hn, e⟩ := List.mem_map.1 hv
  rw [List.mem_filter] at hn
  have hn4 : n < 4 := by have := hn.1; simp at this; omega
  have ho := (castB_iff hn4).1 hn.2
  have hc := I.cs n ho.lt ho.bit
  have hsg : (6 * sgn ((n / 2 : Nat) : Int)).natAbs = 6 := by
   have : ((n / 2 : Nat) : Int) = 0 ∨ ((n / 2 : Nat) : Int) = 1 := by omega
   rcases this with h | h <;> rw [h] <;> rfl
  have h6 : (geti p (homeK n)).natAbs = 6 := by rw [hc.1]; exact hsg
  unfold fromL at hu
  split at hu
  ·simp at hu
  split at hu
  ·rename_i h1
   obtain ⟨b, _, hm⟩ := List.mem_flatMap.1 hu
   obtain ⟨k, _, e2⟩ := List.mem_map.1 hm
   have := mv_inj (e2.trans e.symm)
   rw [this.1] at h1
   omega
  ·obtain ⟨b, hb, e2⟩ := List.mem_map.1 hu
   have hi := mv_inj (e2.trans e.symm)
   have hb := (List.mem_filter.1 hb).1
   rw [hi.1] at hb
   have := king_reach h6 hb
   rw [hi.2.1] at this
   have hcases : n = 0 ∨ n = 1 ∨ n = 2 ∨ n = 3 := by omega
   rcases hcases with rfl | rfl | rfl | rfl <;> exact this (by decide)
theorem scan_congr {q : List Int} {one : Bool} {x : Nat} : ∀ {r : List Nat}, (∀ j ∈ r, geti p (j : Int) = 0 ↔ geti q (j : Int) = 0) → scan p one x r = scan q one x r
 | [], _ => rfl
 | j :: r, h => by
  rw [scan_cons, scan_cons, scan_congr (r := r) (fun j hj => h j (List.mem_cons_of_mem _ hj))]
  have := h j (by simp)
  by_cases h1 : j = x
  ·rw [if_pos h1, if_pos h1]
  ·rw [if_neg h1, if_neg h1]
   by_cases h2 : geti p (j : Int) = 0
   ·have h3 := this.1 h2
    simp [h2, h3]
   ·have h3 : ¬ geti q (j : Int) = 0 := fun e => h2 (this.2 e)
    simp [h2, h3]
theorem attB_congr {q : List Int} {i x : Nat} (he : geti p i = geti q i) (hz : ∀ j : Nat, j < 64 → (geti p (j : Int) = 0 ↔ geti q (j : Int) = 0)) : attB p i x = attB q i x := by
 unfold attB
 rw [he]
 split
 ·rfl
 ·congr 1
  funext s
  exact scan_congr (fun j hj => hz j (ray_lt hj))
theorem fidx_congr {q : List Int} (hl : p.length = 64) (hq : q.length = 64) {v : Int} (hv : ∀ j : Nat, j < 64 → (geti p j = v ↔ geti q j = v)) : fidx (fun y => decide (y = v)) p = fidx (fun y => decide (y = v)) q := by
 unfold fidx
 have : p.findIdx? (fun y => decide (y = v)) = q.findIdx? (fun y => decide (y = v)) := by
  have e : p.map (fun y => decide (y = v)) = q.map (fun y => decide (y = v)) := by
   apply List.ext_getElem (by simp [hl, hq])
   intro j h1 h2
   simp only [List.length_map] at h1 h2
   simp only [List.getElem_map]
   have := hv j (by omega)
   rw [geti_some (List.getElem?_eq_getElem h1), geti_some (List.getElem?_eq_getElem h2)] at this
   rw [Bool.eq_iff_iff, decide_eq_true_eq, decide_eq_true_eq]
   exact this
  have f1 : ∀ l : List Int, l.findIdx? (fun y => decide (y = v)) = (l.map (fun y => decide (y = v))).findIdx? id := by
   intro l
   rw [List.findIdx?_map]
   rfl
  rw [f1, f1, e]
 rw [this]
theorem inChk_congr {q : List Int} (hl : p.length = 64) (hq : q.length = 64) (ht : t = 0 ∨ t = 1) (hc : ∀ j : Nat, j < 64 → geti p j = geti q j ∨ (sideI (geti p j) = t ∧ sideI (geti q j) = t ∧ geti p j ≠ kingV t ∧ geti q j ≠ kingV t)) : inChk p t = inChk q t := by
 unfold inChk
 have e1 : fidx (fun y => decide (y = kingV t)) p = fidx (fun y => decide (y = kingV t)) q := by
  refine fidx_congr hl hq (fun j hj => ?_)
  rcases hc j hj with h | ⟨_, _, h3, h4⟩
  ·rw [h]
  ·exact ⟨fun e => absurd e h3, fun e => absurd e h4⟩
 rw [e1]
 generalize (fidx (fun y => decide (y = kingV t)) q).toNat = x
 have hz : ∀ j : Nat, j < 64 → (geti p (j : Int) = 0 ↔ geti q (j : Int) = 0) := by
  intro j hj
  rcases hc j hj with h | ⟨h1, h2, _, _⟩
  ·rw [h]
  ·have a1 := side_cases (geti p j)
   have a2 := side_cases (geti q j)
   omega
 have e2 : attL p x (1 - t) 64 = attL q x (1 - t) 64 := by
  unfold attL
  congr 1
  refine List.filter_congr (fun i hi => ?_)
  rw [List.mem_range] at hi
  rcases hc i hi with h | ⟨h1, h2, _, _⟩
  ·rw [h, attB_congr h hz]
  ·rw [h1, h2]
   have : (t == 1 - t) = false := by rcases ht with rfl | rfl <;> rfl
   rw [this]; rfl
 rw [e2]
theorem safe_into (I : Inv p t c e h f) (m : PL p t c e a b k) : inChk (aft p t e a b k) t = inChk (aft p t e a b 0) t := by
 have hb := m.bds I
 by_cases hk : k = 0
 ·rw [hk]
 have hin : (geti p a).natAbs = 1 ∧ ¬ (b : Int) = e ∧ 2 ≤ k ∧ k ≤ 5 := by
  have key : Into b k → (geti p a).natAbs = 1 → (geti p a).natAbs = 1 ∧ ¬ (b : Int) = e ∧ 2 ≤ k ∧ k ≤ 5 := by
   intro hi h1
   unfold Into at hi
   split at hi
   ·exact absurd hi hk
   ·rename_i hr
    refine ⟨h1, fun he => ?_, hi⟩
    rcases I.ep with he' | ⟨b', he', hr', _, _⟩
    ·omega
    ·rcases I.tt with rfl | rfl <;> omega
  cases m with
  | pc ha hs h1 hb ho => exact absurd rfl hk
  | cap ha hs h1 hb ho hi => exact key hi h1
  | push ha hs h1 hb h0b hi => exact key hi h1
  | dbl ha hs h1 hb hrow hmid h0b => exact absurd rfl hk
  | castle ho => exact absurd rfl hk
 obtain ⟨h1, he, h2, h3⟩ := hin
 refine inChk_congr (by rw [aft_len]; exact I.len) (by rw [aft_len]; exact I.len) I.tt (fun j hj => ?_)
 have e1 : aft p t e a b k = ((p.set a 0).set b (geti p a)).set b (k * sgn t) := by
  unfold aft
  rw [if_pos h1, if_neg he, if_pos (by omega)]
 have e2 : aft p t e a b 0 = (p.set a 0).set b (geti p a) := by
  unfold aft
  rw [if_pos h1, if_neg he, if_neg (by omega)]
 rw [e1, e2, geti_set' (by omega) (by simp [I.len]; exact hb.2.1)]
 by_cases hjb : (j : Int) = (b : Int)
 ·right
  rw [if_pos hjb]
  have hjb' : j = b := by omega
  rw [set2_get I.len hb.1 hb.2.1, if_pos hjb']
  refine ⟨?_, hb.2.2.1, ?_, ?_⟩
  ·rcases sgn_t I.tt with ⟨rfl, h⟩ | ⟨rfl, h⟩ <;> rw [h]
   ·rw [side0]; omega
   ·rw [side1]; omega
  ·have hk6 := (kv I.tt).2.2
   intro e
   rw [← e] at hk6
   rcases sgn_t I.tt with ⟨_, h⟩ | ⟨_, h⟩ <;> rw [h] at hk6 <;> omega
  ·have hk6 := (kv I.tt).2.2
   intro e
   rw [← e] at hk6
   omega
 ·left; rw [if_neg hjb]
theorem pl_iff (I : Inv p t c e h f) : PL p t c e a b k ↔ a < 64 ∧ b < 64 ∧ sideI (geti p a) = t ∧ plB p t c e a b = true ∧ k ∈ kindsL p a b := by
 have ht := I.tt
 have s0 : sideI 0 = -1 := rfl
 constructor
 ·intro m
  have hb := m.bds I
  refine ⟨hb.1, hb.2.1, hb.2.2.1, ?_, ?_⟩
  ·unfold plB
   rw [Bool.or_eq_true]
   have hx : 0 < geti p a * sgn t := by
    have h1 := hb.2.2.1
    rcases sgn_t ht with ⟨rfl, h⟩ | ⟨rfl, h⟩ <;> rw [h]
    ·rw [side0] at h1; omega
    ·rw [side1] at h1; omega
   have hy : geti p b * sgn t ≤ 0 := by
    have h1 := hb.2.2.2.2
    have := side_cases (geti p b)
    rcases sgn_t ht with ⟨rfl, h⟩ | ⟨rfl, h⟩ <;> rw [h] <;> omega
   have hmay : mayB p t e a b = if geti p a * sgn t ≠ 1 then attB p a b
     else if attB p a b = true then (geti p b != 0) || ((b : Int) == e)
     else if (b : Int) = a + 8 * sgn t then geti p b == 0
     else (decide (((a / 8 : Nat) : Int) = 1 + 5 * t) && decide ((b : Int) = a + 16 * sgn t)) && ((geti p b == 0) && (geti p ((a : Int) + 8 * sgn t) == 0)) := by
    unfold mayB
    exact if_neg (by simp only [Bool.or_eq_true, decide_eq_true_eq]; omega)
   have hp1 : (geti p a).natAbs = 1 → geti p a * sgn t = 1 := by
    intro h1
    rw [pawn_val ht hb.2.2.1 h1]
    rcases sgn_t ht with ⟨_, h⟩ | ⟨_, h⟩ <;> rw [h] <;> rfl
   have hnz : geti p a ≠ 0 := by intro e0; rw [e0] at hx; simp at hx
   cases m with
   | pc ha hs h1 hb' ho =>
    left
    rw [hmay, if_pos (by rcases sgn_t ht with ⟨_, h⟩ | ⟨_, h⟩ <;> rw [h] at hx ⊢ <;> omega)]
    exact (reach_att hnz).1 hb'
   | cap ha hs h1 hb' ho hi =>
    left
    rw [hmay, if_neg (by simpa using hp1 h1), if_pos ((reach_att hnz).1 hb'), Bool.or_eq_true, bne_iff_ne, beq_iff_eq]
    rcases ho with ho | ho
    ·left; intro e0; rw [e0, s0] at ho; omega
    ·exact .inr ho
   | push ha hs h1 hb' h0b hi =>
    left
    have hna : ¬ attB p a b = true := by
     intro q
     have := pawn_reach h1 ((reach_att hnz).2 q)
     rcases sgn_t ht with ⟨_, h⟩ | ⟨_, h⟩ <;> rw [h] at hb' <;> omega
    rw [hmay, if_neg (by simpa using hp1 h1), if_neg hna, if_pos hb', h0b]
    rfl
   | dbl ha hs h1 hb' hrow hmid h0b =>
    left
    have hna : ¬ attB p a b = true := by
     intro q
     have := pawn_reach h1 ((reach_att hnz).2 q)
     rcases sgn_t ht with ⟨_, h⟩ | ⟨_, h⟩ <;> rw [h] at hb' <;> omega
    rw [hmay, if_neg (by simpa using hp1 h1), if_neg hna, if_neg (by rcases sgn_t ht with ⟨_, h⟩ | ⟨_, h⟩ <;> rw [h] at hb' ⊢ <;> omega), h0b, hmid, decide_eq_true hrow, decide_eq_true hb']
    rfl
   | @castle n ho =>
    right
    have hc := I.cs n ho.lt ho.bit
    have hsg : (6 * sgn ((n / 2 : Nat) : Int)).natAbs = 6 := by
     rw [ho.side]
     rcases sgn_t ht with ⟨_, h⟩ | ⟨_, h⟩ <;> rw [h] <;> rfl
    rw [Bool.and_eq_true, decide_eq_true_eq, List.any_eq_true, hc.1]
    refine ⟨hsg, n, ?_, ?_⟩
    ·have := ho.lt
     have hcases : n = 0 ∨ n = 1 ∨ n = 2 ∨ n = 3 := by omega
     rcases hcases with rfl | rfl | rfl | rfl <;> simp
    ·rw [Bool.and_eq_true, decide_eq_true_eq]
     exact ⟨(castB_iff ho.lt).2 ho, rfl⟩
  ·unfold kindsL
   cases m with
   | pc ha hs h1 hb' ho => rw [if_neg (fun q => h1 q.1)]; simp
   | cap ha hs h1 hb' ho hi =>
    unfold Into at hi
    split at hi
    ·rename_i hr; rw [if_neg (fun q => q.2 hr), hi]; simp
    ·rename_i hr; rw [if_pos ⟨h1, hr⟩]; simp only [List.mem_cons, List.not_mem_nil, or_false]; omega
   | push ha hs h1 hb' h0b hi =>
    unfold Into at hi
    split at hi
    ·rename_i hr; rw [if_neg (fun q => q.2 hr), hi]; simp
    ·rename_i hr; rw [if_pos ⟨h1, hr⟩]; simp only [List.mem_cons, List.not_mem_nil, or_false]; omega
   | dbl ha hs h1 hb' hrow hmid h0b =>
    rw [if_neg (fun q => q.2 (by rcases sgn_t ht with ⟨rfl, h⟩ | ⟨rfl, h⟩ <;> rw [h] at hb' <;> omega))]
    simp
   | @castle n ho =>
    have hc := I.cs n ho.lt ho.bit
    have hsg : (6 * sgn ((n / 2 : Nat) : Int)).natAbs = 6 := by
     rw [ho.side]
     rcases sgn_t ht with ⟨_, h⟩ | ⟨_, h⟩ <;> rw [h] <;> rfl
    rw [if_neg (fun q => by rw [hc.1] at q; omega)]
    simp
 ·rintro ⟨ha, hb, hs, hp, hk⟩
  unfold plB at hp
  rw [Bool.or_eq_true] at hp
  have hnz : geti p a ≠ 0 := by intro e0; rw [e0, s0] at hs; omega
  rcases hp with hp | hp
  ·unfold mayB at hp
   split at hp
   ·cases hp
   rename_i hxy
   simp only [Bool.or_eq_true, decide_eq_true_eq, not_or] at hxy
   have hsb : sideI (geti p b) ≠ t := by
    intro q
    apply hxy.2
    rcases sgn_t ht with ⟨rfl, h⟩ | ⟨rfl, h⟩ <;> rw [h]
    ·rw [side0] at q; omega
    ·rw [side1] at q; omega
   split at hp
   ·rename_i hn1
    have h1 : (geti p a).natAbs ≠ 1 := by
     intro h1
     rw [pawn_val ht hs h1] at hn1
     rcases sgn_t ht with ⟨_, h⟩ | ⟨_, h⟩ <;> rw [h] at hn1 <;> exact hn1 rfl
    have : k = 0 := by
     unfold kindsL at hk
     rw [if_neg (fun q => h1 q.1)] at hk
     simpa using hk
    subst this
    exact .pc ha hs h1 ((reach_att hnz).2 hp) hsb
   ·rename_i hn1
    have h1 : (geti p a).natAbs = 1 := by
     have : geti p a * sgn t = 1 := by simpa using hn1
     rcases sgn_t ht with ⟨_, h⟩ | ⟨_, h⟩ <;> rw [h] at this <;> omega
    have hi : Into b k := by
     unfold kindsL at hk
     unfold Into
     by_cases hr : 8 ≤ b ∧ b < 56
     ·rw [if_neg (fun q => q.2 hr)] at hk
      rw [if_pos hr]
      simpa using hk
     ·rw [if_pos ⟨h1, hr⟩] at hk
      rw [if_neg hr]
      simp only [List.mem_cons, List.not_mem_nil, or_false] at hk
      omega
    split at hp
    ·rename_i hat
     rw [Bool.or_eq_true, bne_iff_ne, beq_iff_eq] at hp
     refine .cap ha hs h1 ((reach_att hnz).2 hat) ?_ hi
     rcases hp with hp | hp
     ·left
      have := side_cases (geti p b)
      omega
     ·exact .inr hp
    ·split at hp
     ·rename_i hb8
      exact .push ha hs h1 hb8 (by simpa using hp) hi
     ·simp only [Bool.and_eq_true, decide_eq_true_eq, beq_iff_eq] at hp
      obtain ⟨⟨q1, q2⟩, q3, q4⟩ := hp
      have : k = 0 := by
       unfold Into at hi
       rw [if_pos (by rcases sgn_t ht with ⟨rfl, h⟩ | ⟨rfl, h⟩ <;> rw [h] at q2 <;> omega)] at hi
       exact hi
      subst this
      exact .dbl ha hs h1 q2 q1 q4 q3
  ·rw [Bool.and_eq_true, decide_eq_true_eq, List.any_eq_true] at hp
   obtain ⟨h6, n, hn, hp⟩ := hp
   rw [Bool.and_eq_true, decide_eq_true_eq] at hp
   have hn4 : n < 4 := by simp at hn; omega
   have ho := (castB_iff hn4).1 hp.1
   have hc := I.cs n ho.lt ho.bit
   rw [ho.side, ← (kv ht).1] at hc
   obtain ⟨k0, hk0, hu⟩ := I.kg t ht
   have e1 := (hu (homeK n) (by unfold homeK; split <;> omega)).1 hc.1
   have e2 := (hu a ha).1 (by
    rw [(kv ht).1]
    have := side_cases (geti p a)
    rcases sgn_t ht with ⟨rfl, h⟩ | ⟨rfl, h⟩ <;> rw [h] <;> omega)
   have : k = 0 := by
    unfold kindsL at hk
    rw [if_neg (fun q => by omega)] at hk
    simpa using hk
   subst this
   have ea : a = homeK n := by omega
   rw [ea, ← hp.2]
   exact .castle ho
theorem refL_mem (I : Inv p t c e h f) {m : Mv} : m ∈ refL p t c e ↔ ∃ a b k, m = mv a b k ∧ PL p t c e a b k ∧ inChk (aft p t e a b 0) t = false := by
 unfold refL
 rw [List.mem_flatMap]
 constructor
 ·rintro ⟨a, ha, hm⟩
  rw [List.mem_range] at ha
  split at hm
  ·simp at hm
  rename_i hs
  obtain ⟨b, hb, hm⟩ := List.mem_flatMap.1 hm
  rw [List.mem_range] at hb
  unfold refTo at hm
  split at hm
  ·rename_i hp
   rw [Bool.and_eq_true, Bool.not_eq_true'] at hp
   obtain ⟨k, hk, rfl⟩ := List.mem_map.1 hm
   exact ⟨a, b, k, rfl, (pl_iff I).2 ⟨ha, hb, by simpa using hs, hp.1, hk⟩, hp.2⟩
  ·simp at hm
 ·rintro ⟨a, b, k, rfl, m, hs⟩
  obtain ⟨ha, hb, hs', hp, hk⟩ := (pl_iff I).1 m
  refine ⟨a, List.mem_range.2 ha, ?_⟩
  rw [if_neg (by simpa using hs')]
  refine List.mem_flatMap.2 ⟨b, List.mem_range.2 hb, ?_⟩
  unfold refTo
  rw [if_pos (by rw [hp, hs]; rfl)]
  exact List.mem_map.2 ⟨k, hk, rfl⟩
theorem refL_lt (p : List Int) (t c e : Int) : (refL p t c e).Pairwise LtMv := by
 unfold refL
 rw [List.pairwise_flatMap]
 have hto : ∀ {a b : Nat} {m : Mv}, m ∈ refTo p t c e a b → m.1 = a ∧ m.2.1 = b := by
  intro a b m hm
  unfold refTo at hm
  split at hm
  ·obtain ⟨k, _, rfl⟩ := List.mem_map.1 hm; exact ⟨rfl, rfl⟩
  ·simp at hm
 constructor
 ·intro a _
  split
  ·exact List.Pairwise.nil
  rw [List.pairwise_flatMap]
  constructor
  ·intro b _
   unfold refTo
   split
   ·rw [List.pairwise_map]
    have : (kindsL p a b).Pairwise (· < ·) := by unfold kindsL; split <;> decide
    exact this.imp (fun {x y} hxy => .inr ⟨rfl, .inr ⟨rfl, hxy⟩⟩)
   ·exact List.Pairwise.nil
  ·refine List.Pairwise.imp (fun {x y} hxy => ?_) (List.pairwise_lt_range (n := 64))
   intro u hu v hv
   have h1 := hto hu
   have h2 := hto hv
   right
   refine ⟨by rw [h1.1, h2.1], .inl ?_⟩
   rw [h1.2, h2.2]; omega
 ·refine List.Pairwise.imp (fun {x y} hxy => ?_) (List.pairwise_lt_range (n := 64))
  intro u hu v hv
  have g : ∀ {a : Nat} {m : Mv}, m ∈ (if sideI (geti p a) ≠ t then [] else (List.range 64).flatMap (refTo p t c e a)) → m.1 = a := by
   intro a m hm
   split at hm
   ·simp at hm
   ·obtain ⟨b, _, hm⟩ := List.mem_flatMap.1 hm
    exact (hto hm).1
  left
  rw [g hu, g hv]; omega
theorem moves_eq (I : Inv p t c e h f) : sortK cfMv (progL p t c e) = refL p t c e := by
 refine sortK_eq cfMv_swo cfMv_tot ((raw_nodup I).sublist List.filter_sublist) ((refL_lt p t c e).imp (fun {x y} hxy => (cfMv_lt x y).2 hxy)) (fun m => ?_)
 unfold progL
 rw [List.mem_filter, raw_mem I, refL_mem I]
 constructor
 ·rintro ⟨⟨a, b, k, rfl, m⟩, hs⟩
  refine ⟨a, b, k, rfl, m, ?_⟩
  unfold safeB mv at hs
  simp only [Int.toNat_natCast, Bool.not_eq_true'] at hs
  rw [← safe_into I m]; exact hs
 ·rintro ⟨a, b, k, rfl, m, hs⟩
  refine ⟨⟨a, b, k, rfl, m⟩, ?_⟩
  unfold safeB mv
  simp only [Int.toNat_natCast, Bool.not_eq_true']
  rw [safe_into I m]; exact hs
end
end Go.Proofs.Ytkpkkdpfcbnfdaa
namespace Go.Proofs.Ytkpkkdpfcbnfdaa
open Go Go.GL Go.RowKit
theorem cnt_uniq {q : Nat → Bool} : ∀ n, cntN q n = 1 → ∃ k, k < n ∧ ∀ j, j < n → (q j = true ↔ j = k)
 | 0, h => by simp [cntN] at h
 | n + 1, h => by
  simp only [cntN] at h
  by_cases hq : q n = true
  ·rw [if_pos hq] at h
   have h0 : cntN q n = 0 := by omega
   have hz : ∀ j, j < n → q j = false := by
    intro j hj
    cases hj' : q j with
    | false => rfl
    | true =>
     have : ∀ m, j < m → cntN q m ≠ 0 := by
      intro m
      induction m with
      | zero => intro h; omega
      | succ m ih =>
       intro hjm
       simp only [cntN]
       by_cases e : j = m
       ·subst e; rw [if_pos hj']; omega
       ·have := ih (by omega); omega
     exact absurd h0 (this n hj)
   refine ⟨n, by omega, fun j hj => ?_⟩
   by_cases e : j = n
   ·subst e; simp [hq]
   ·rw [hz j (by omega)]; simp [e]
  ·rw [if_neg hq] at h
   obtain ⟨k, hk, hu⟩ := cnt_uniq n h
   refine ⟨k, by omega, fun j hj => ?_⟩
   by_cases e : j = n
   ·subst e
    have : ¬ j = k := by omega
    simp [hq, this]
   ·exact hu j (by omega)
theorem bit_tab : ((List.range 16).all fun c => (List.range 4).all fun n => ((bAnd (shrK .i64 (c : Int) (n : Int)) 1 == 1) == cbit (c : Int) n)) = true := by decide +kernel
theorem bit_p {c : Int} (hc : 0 ≤ c ∧ c ≤ 15) {n : Nat} (hn : n < 4) : (bAnd (shrK .i64 c (n : Int)) 1 == 1) = cbit c n := by
 have h := List.all_eq_true.1 (List.all_eq_true.1 bit_tab c.toNat (List.mem_range.2 (by omega))) n (List.mem_range.2 hn)
 rw [show ((c.toNat : Nat) : Int) = c by omega] at h
 simpa using h
section
variable {p : List Int}
theorem cast_cases (hl : p.length = 64) (p3 : Int) : loop (board_May_L2 p p3) 0 = some (Fl.ret false) ∨ (castC p p3 0 4 7 1 = false ∧ castC p p3 1 4 0 1 = false ∧ castC p p3 2 60 63 (-1) = false ∧ castC p p3 3 60 56 (-1) = false) := by
 have e0 := cast0_p hl p3
 have e1 := cast1_p hl p3
 have e2 := cast2_p hl p3
 have e3 := cast3_p hl p3
 by_cases c0 : castC p p3 0 4 7 1 = true
 ·rw [if_pos c0] at e0
  exact .inl (loop_done e0)
 rw [if_neg c0] at e0
 by_cases c1 : castC p p3 1 4 0 1 = true
 ·rw [if_pos c1] at e1
  exact .inl (loop_next' e0 (loop_done e1))
 rw [if_neg c1] at e1
 by_cases c2 : castC p p3 2 60 63 (-1) = true
 ·rw [if_pos c2] at e2
  exact .inl (loop_next' e0 (loop_next' e1 (loop_done e2)))
 rw [if_neg c2] at e2
 by_cases c3 : castC p p3 3 60 56 (-1) = true
 ·rw [if_pos c3] at e3
  exact .inl (loop_next' e0 (loop_next' e1 (loop_next' e2 (loop_done e3))))
 exact .inr ⟨by simpa using c0, by simpa using c1, by simpa using c2, by simpa using c3⟩
theorem pass_facts (hl : p.length = 64) {p2 : Int} (h2 : p2 = 0 ∨ p2 = 1) {p3 p4 p5 p6 : Int} (h : board_passant_m p p2 p3 p4 p5 p6 = some true) : ∃ b : Nat, p4 = b ∧ ((b / 8 : Nat) : Int) = 5 - 3 * p2 ∧ geti p b = 0 ∧ geti p ((b : Int) - 8 * sgn p2) = - sgn p2 := by
 unfold board_passant_m at h
 rcases h2 with rfl | rfl
 ·rw [forward_small (by decide), show (1 - 2 * (0 : Int)) = 1 from rfl] at h
  simp only [Option.bind_some] at h
  rw [show w64 (5 - w64 (3 * 0)) = ((5 : Nat) : Int) by decide, rank_b p4 5 (by decide), show w64 (8 * 1) = 8 by decide, show w64 (w64 (0 - 1) * 1) = -1 by decide, show (8 * ((5 : Nat) : Int)) = 40 from rfl, show ((40 : Int) + 7) = 47 from rfl] at h
  by_cases hb : (decide ((40 : Int) ≤ p4) && decide (p4 ≤ 47)) = true
  ·have hb' := hb
   rw [Bool.and_eq_true, decide_eq_true_eq, decide_eq_true_eq] at hb'
   rw [w64_of (x := p4 - 8) (by omega), w64_of (x := p4 + 8) (by omega)] at h
   repeat rw [asrt_pos (fun _ => by omega)] at h
   injection h with h
   simp only [Bool.and_eq_true, decide_eq_true_eq, beq_iff_eq] at h
   obtain ⟨b, rfl⟩ : ∃ b : Nat, p4 = b := ⟨p4.toNat, by omega⟩
   exact ⟨b, rfl, by omega, h.1.1.2, h.1.2⟩
  ·rw [Bool.not_eq_true] at hb
   rw [hb] at h
   simp [asrt] at h
 ·rw [forward_small (by decide), show (1 - 2 * (1 : Int)) = -1 from rfl] at h
  simp only [Option.bind_some] at h
  rw [show w64 (5 - w64 (3 * 1)) = ((2 : Nat) : Int) by decide, rank_b p4 2 (by decide), show w64 (8 * -1) = -8 by decide, show w64 (w64 (0 - -1) * 1) = 1 by decide, show (8 * ((2 : Nat) : Int)) = 16 from rfl, show ((16 : Int) + 7) = 23 from rfl] at h
  by_cases hb : (decide ((16 : Int) ≤ p4) && decide (p4 ≤ 23)) = true
  ·have hb' := hb
   rw [Bool.and_eq_true, decide_eq_true_eq, decide_eq_true_eq] at hb'
   rw [w64_of (x := p4 - -8) (by omega), w64_of (x := p4 + -8) (by omega)] at h
   repeat rw [asrt_pos (fun _ => by omega)] at h
   injection h with h
   simp only [Bool.and_eq_true, decide_eq_true_eq, beq_iff_eq] at h
   obtain ⟨b, rfl⟩ : ∃ b : Nat, p4 = b := ⟨p4.toNat, by omega⟩
   exact ⟨b, rfl, by omega, h.1.1.2, h.1.2⟩
  ·rw [Bool.not_eq_true] at hb
   rw [hb] at h
   simp [asrt] at h
theorem may_inv (hin : ∀ y ∈ p, inI y) {t c e h f : Int} (hm : board_May_m p t c e h f = some true) : Inv p t c e h f := by
 unfold board_May_m at hm
 split at hm
 ·injection hm with hm; cases hm
 rename_i hg
 simp only [Bool.or_eq_true, bne_iff_ne, decide_eq_true_eq, not_or, Decidable.not_not] at hg
 have hl : p.length = 64 := by omega
 have ht : t = 0 ∨ t = 1 := by omega
 have hc15 : 0 ≤ c ∧ c ≤ 15 := by omega
 unfold board_May_J1 at hm
 rw [show List.replicate 2 (0 : Int) = [0, 0] from rfl] at hm
 rcases loops1 hl (fun b hb => hin _ (List.mem_of_getElem? (get_geti (by omega)))) with ⟨q1, _⟩ | ⟨⟨hs, hbad⟩, q1, _⟩
 ·rw [q1] at hm
  have hm : some false = some true := hm
  cases hm
 rw [q1, Option.bind_some] at hm
 simp only [board_May_K1] at hm
 unfold board_May_J2 at hm
 have g0 : ∀ a b : Int, geti [a, b] 0 = a ∧ geti [a, b] 1 = b := fun a b => ⟨rfl, rfl⟩
 rw [(g0 _ _).1, (g0 _ _).2, (g0 _ _).1, (g0 _ _).2] at hm
 by_cases hk : cntV p 6 64 = 1 ∧ cntV p (-6) 64 = 1
 ·rw [hk.1, hk.2] at hm
  obtain ⟨k6, hk6, u6⟩ := cnt_uniq (q := fun i => decide (geti p i = 6)) 64 hk.1
  obtain ⟨km, hkm, um⟩ := cnt_uniq (q := fun i => decide (geti p i = -6)) 64 hk.2
  have hkg : ∀ s : Int, s = 0 ∨ s = 1 → ∃ k : Nat, k < 64 ∧ ∀ j : Nat, j < 64 → (geti p j = kingV s ↔ j = k) := by
   rintro s (rfl | rfl)
   ·exact ⟨k6, hk6, fun j hj => by have := u6 j hj; simpa [kingV] using this⟩
   ·exact ⟨km, hkm, fun j hj => by have := um j hj; simpa [kingV] using this⟩
  have hck := check_both hs (side := 1 - t) (by omega) (by
   obtain ⟨k, h1, h2⟩ := hkg (1 - t) (by omega)
   exact ⟨k, h1, (h2 k h1).2 rfl⟩)
  rw [w64_of (by omega), hck.1] at hm
  cases hc : inChk p (1 - t) with
  | true =>
   rw [hc] at hm
   have hm : some false = some true := hm
   cases hm
  | false =>
   rw [hc] at hm
   have hm : board_May_J6 p t c e h f = some true := hm
   unfold board_May_J6 at hm
   rcases cast_cases hl c with hr | ⟨c0, c1, c2, c3⟩
   ·rw [hr] at hm
    have hm : some false = some true := hm
    cases hm
   ·have hcs : ∀ n : Nat, n < 4 → cbit c n = true → geti p (homeK n) = 6 * sgn ((n / 2 : Nat) : Int) ∧ geti p (homeR n) = 4 * sgn ((n / 2 : Nat) : Int) := by
     intro n hn hb
     have key : ∀ (k r f : Int), castC p c (n : Int) k r f = false → geti p k = 6 * f ∧ geti p r = 4 * f := by
      intro k r f h
      unfold castC at h
      rw [bit_p hc15 hn, hb] at h
      simp only [Bool.true_and, Bool.or_eq_false_iff, bne_eq_false_iff_eq] at h
      exact h
     have hcases : n = 0 ∨ n = 1 ∨ n = 2 ∨ n = 3 := by omega
     rcases hcases with rfl | rfl | rfl | rfl
     ·exact key 4 7 1 c0
     ·exact key 4 0 1 c1
     ·exact key 60 63 (-1) c2
     ·exact key 60 56 (-1) c3
    obtain ⟨b, d1, _⟩ := cast_both hl c
    rw [d1] at hm
    cases b with
    | true =>
     have hm : some false = some true := hm
     cases hm
    | false =>
     simp only [Bool.false_eq_true, if_false, Option.bind_some, board_May_K2] at hm
     unfold board_May_J7 at hm
     refine ⟨hs, ht, hc15, by omega, by omega, hkg, fun j hj h1 => ?_, hc, hcs, ?_⟩
     ·have := hbad j hj
      unfold badP at this
      simp only [Bool.or_eq_false_iff, Bool.and_eq_false_iff, decide_eq_false_iff_not, Bool.not_eq_false'] at this
      rcases this.2 with h | h
      ·exact absurd h1 h
      ·omega
     ·by_cases h9 : e = -1
      ·exact .inl h9
      ·right
       have e9 : (e == -1) = false := by simpa using h9
       rw [e9] at hm
       simp only [Bool.not_false, if_true, Bool.false_or] at hm
       cases hp : board_passant_m p t c e h f with
       | none => rw [hp] at hm; simp at hm
       | some b =>
        rw [hp, Option.bind_some] at hm
        injection hm with hm
        subst hm
        exact pass_facts hl ht hp
 ·have hw : ((((cntV p 6 64 : Nat) : Int) == 1) && (((cntV p (-6) 64 : Nat) : Int) == 1)) = false := by
   rw [Bool.eq_false_iff]
   intro q
   simp only [Bool.and_eq_true, beq_iff_eq] at q
   omega
  rw [hw] at hm
  have hm : some false = some true := hm
  cases hm
end
end Go.Proofs.Ytkpkkdpfcbnfdaa
namespace Go.Proofs.Ytkpkkdpfcbnfdaa
open Go Go.GL Go.RowKit
theorem right_p : board_Right_m 0 = some (4, 7) ∧ board_Right_m 1 = some (4, 0) ∧ board_Right_m 2 = some (60, 63) ∧ board_Right_m 3 = some (60, 56) := by
 refine ⟨?_, ?_, ?_, ?_⟩ <;> (unfold board_Right_m; decide)
def stepC (c : Int) (n : Nat) (l : Bool) : Int := if l = true then bAndN c (shlK .i64 1 (n : Int)) else c
def stepC4 (c : Int) (l0 l1 l2 l3 : Bool) : Int := stepC (stepC (stepC (stepC c 0 l0) 1 l1) 2 l2) 3 l3
theorem stepC_tab : ((List.range 16).all fun c => [false, true].all fun l0 => [false, true].all fun l1 => [false, true].all fun l2 => [false, true].all fun l3 =>
  (stepC4 (c : Int) l0 l1 l2 l3 == clr4 (c : Int) l0 l1 l2 l3) && ((stepC4 (bAndN (c : Int) (shlK .i64 3 (w64 (2 * 0)))) l0 l1 l2 l3 == clr4 (c : Int) true true l2 l3) && (stepC4 (bAndN (c : Int) (shlK .i64 3 (w64 (2 * 1)))) l0 l1 l2 l3 == clr4 (c : Int) l0 l1 true true))) = true := by decide +kernel
theorem stepC_p {c : Int} (hc : 0 ≤ c ∧ c ≤ 15) (l0 l1 l2 l3 : Bool) : stepC4 c l0 l1 l2 l3 = clr4 c l0 l1 l2 l3 ∧ stepC4 (bAndN c (shlK .i64 3 (w64 (2 * 0)))) l0 l1 l2 l3 = clr4 c true true l2 l3 ∧ stepC4 (bAndN c (shlK .i64 3 (w64 (2 * 1)))) l0 l1 l2 l3 = clr4 c l0 l1 true true := by
 have bm : ∀ x : Bool, x ∈ [false, true] := fun x => by cases x <;> simp
 have h := List.all_eq_true.1 stepC_tab c.toNat (List.mem_range.2 (by omega))
 have h := List.all_eq_true.1 h l0 (bm _)
 have h := List.all_eq_true.1 h l1 (bm _)
 have h := List.all_eq_true.1 h l2 (bm _)
 have h := List.all_eq_true.1 h l3 (bm _)
 rw [show ((c.toNat : Nat) : Int) = c by omega] at h
 simpa only [Bool.and_eq_true, beq_iff_eq] using h
theorem after_loop (m1 m2 c : Int) : loop (board_After_L1 m1 m2) (c, 0) = some (stepC4 c ((m1 == 7) || (m2 == 7)) ((m1 == 0) || (m2 == 0)) ((m1 == 63) || (m2 == 63)) ((m1 == 56) || (m2 == 56))) := by
 obtain ⟨r0, r1, r2, r3⟩ := right_p
 have step : ∀ (n : Nat) (c k r : Int), n < 4 → board_Right_m (n : Int) = some (k, r) → board_After_L1 m1 m2 (c, (n : Int)) = some (.next (stepC c n ((m1 == r) || (m2 == r)), ((n + 1 : Nat) : Int))) := by
  intro n c k r hn hr
  simp only [board_After_L1]
  rw [if_pos (decide_eq_true (by omega))]
  unfold board_After_J8 board_After_J9
  rw [hr, Option.bind_some, w64_of (by omega), asrt_pos (by omega)]
  unfold stepC
  cases ((m1 == r) || (m2 == r)) <;> rfl
 have e4 : ∀ c, board_After_L1 m1 m2 (c, ((4 : Nat) : Int)) = some (.done c) := fun c => by
  simp only [board_After_L1]
  exact if_neg (by decide)
 exact loop_next' (step 0 _ _ _ (by omega) r0) (loop_next' (step 1 _ _ _ (by omega) r1) (loop_next' (step 2 _ _ _ (by omega) r2) (loop_next' (step 3 _ _ _ (by omega) r3) (loop_done (e4 _)))))
section
variable {p : List Int} {t c e h f : Int} {a b : Nat} {k : Int}
theorem home_iff (a : Nat) : (((a : Int) == 7) = decide (a = homeR 0)) ∧ (((a : Int) == 0) = decide (a = homeR 1)) ∧ (((a : Int) == 63) = decide (a = homeR 2)) ∧ (((a : Int) == 56) = decide (a = homeR 3)) := by
 refine ⟨?_, ?_, ?_, ?_⟩ <;> (rw [Bool.eq_iff_iff, beq_iff_eq, decide_eq_true_eq]; simp only [homeR]; simp; try omega)
theorem rights_p (hc : 0 ≤ c ∧ c ≤ 15) (ht : t = 0 ∨ t = 1) (p : List Int) (a b : Nat) : stepC4 (if (geti p a).natAbs = 6 then bAndN c (shlK .i64 3 (w64 (2 * t))) else c) (((a : Int) == 7) || ((b : Int) == 7)) (((a : Int) == 0) || ((b : Int) == 0)) (((a : Int) == 63) || ((b : Int) == 63)) (((a : Int) == 56) || ((b : Int) == 56)) = cAft p t c a b := by
 obtain ⟨a0, a1, a2, a3⟩ := home_iff a
 obtain ⟨b0, b1, b2, b3⟩ := home_iff b
 rw [a0, a1, a2, a3, b0, b1, b2, b3]
 unfold cAft lost
 have hs := stepC_p hc (decide (a = homeR 0) || decide (b = homeR 0)) (decide (a = homeR 1) || decide (b = homeR 1)) (decide (a = homeR 2) || decide (b = homeR 2)) (decide (a = homeR 3) || decide (b = homeR 3))
 by_cases h6 : (geti p a).natAbs = 6
 ·rw [if_pos h6]
  rcases ht with rfl | rfl
  ·rw [hs.2.1]
   simp [h6]
  ·rw [hs.2.2]
   simp [h6]
 ·rw [if_neg h6, hs.1]
  simp [h6]
theorem clone_p (hl : p.length = 64) : slices_Clone_m p = some p := by
 unfold slices_Clone_m slices_Clone_J1
 rw [asrt_pos (by unfold bigN; omega)]
 simp
theorem forward_t (ht : t = 0 ∨ t = 1) : board_forward_m t = some (sgn t) := by
 rw [forward_small (by omega)]; rfl
theorem after_end (I : Inv p t c e h f) (q : List Int) (e' h' : Int) (hh : h' = if (geti p a).natAbs = 1 then 0 else minI (w64 (h + 1)) 999) :
  board_After_J3 p t f a b q (if (geti p a).natAbs = 6 then bAndN c (shlK .i64 3 (w64 (2 * t))) else c) e' h' = some (q, 1 - t, cAft p t c a b, e', hAft p h a b, fAft f t) := by
 have ht := I.tt
 have hhh := I.hh
 have hff := I.ff
 have key : ∀ x, board_After_J6 t f a b q (if (geti p a).natAbs = 6 then bAndN c (shlK .i64 3 (w64 (2 * t))) else c) e' x = some (q, 1 - t, cAft p t c a b, e', x, fAft f t) := by
  intro x
  unfold board_After_J6
  rw [after_loop, Option.bind_some, rights_p I.cc ht]
  simp only [board_After_K1]
  unfold board_After_J7 fAft minI
  rw [w64_of (x := 1 - t) (by omega), w64_of (x := f + t) (by omega)]
 unfold board_After_J3
 by_cases hb : geti p b = 0
 ·rw [if_neg (by simp [hb]), key, hh]
  unfold hAft
  by_cases h1 : (geti p a).natAbs = 1
  ·rw [if_pos h1, if_pos (.inl h1)]
  ·rw [if_neg h1, if_neg (by rintro (q | q) <;> contradiction)]
   unfold minI
   rw [w64_of (by omega)]
 ·rw [if_pos (by simpa using hb), key]
  unfold hAft
  rw [if_pos (.inr hb)]
theorem after_p (I : Inv p t c e h f) (m : PL p t c e a b k) : board_After_m p t c e h f a b k = some (aft p t e a b k, 1 - t, cAft p t c a b, eAft p t a b, hAft p h a b, fAft f t) := by
 have hl := I.len
 have ht := I.tt
 have hb := m.bds I
 have hsg : sgn t = 1 ∨ sgn t = -1 := by rcases sgn_t ht with h | h <;> omega
 have hsa := I.sm.2 a hb.1
 unfold board_After_m
 rw [forward_t ht, Option.bind_some, asrt_pos (by omega), asrt_pos (by omega), clone_p hl, Option.bind_some]
 unfold board_After_J1
 rw [asrt_pos (by omega), asrt_pos (by omega)]
 unfold board_After_J2
 rw [kind_small hsa, Option.bind_some, Int.toNat_natCast, Int.toNat_natCast]
 have hw : w64 ((b : Int) - a) = (b : Int) - a := w64_of (by omega)
 have hn6 : ∀ x : Int, (geti p a).natAbs ≠ 6 → (if (geti p a).natAbs = 6 then bAndN c (shlK .i64 3 (w64 (2 * t))) else c) = c := fun x hx => if_neg hx
 by_cases h1 : (geti p a).natAbs = 1
 ·rw [if_pos (by simp [h1])]
  have hc6 := hn6 0 (by omega)
  have hend := fun q e' => after_end (a := a) (b := b) I q e' 0 (by rw [if_pos h1])
  rw [hc6] at hend
  by_cases hbe : (b : Int) = e
  ·rw [if_pos (by simp [hbe])]
   have hnd : ¬ ((b : Int) - a = 16 * sgn t) := fun hd => (eAft_dbl I m h1 hd).2.2.2 hbe
   have hd64 : 0 ≤ (b : Int) - 8 * sgn t ∧ (b : Int) - 8 * sgn t < 64 := by
    rcases I.ep with he | ⟨b', he, hr, _, _⟩
    ·omega
    ·rcases sgn_t ht with ⟨rfl, h⟩ | ⟨rfl, h⟩ <;> rw [h] <;> omega
   rw [w64_of (x := 8 * sgn t) (by omega), w64_of (x := (b : Int) - 8 * sgn t) (by omega), asrt_pos (by omega), hend]
   unfold aft eAft
   rw [if_pos h1, if_pos hbe, if_neg (fun q => hnd q.2)]
  ·rw [if_neg (by simpa using hbe), hw, w64_of (x := 16 * sgn t) (by omega)]
   by_cases hd : (b : Int) - a = 16 * sgn t
   ·have hk0 := (eAft_dbl I m h1 hd).2.2.1
    rw [if_pos (by simp [hd]), w64_of (x := 8 * sgn t) (by omega), w64_of (x := (a : Int) + 8 * sgn t) (by omega), hend]
    unfold aft eAft
    rw [if_pos h1, if_neg hbe, if_neg (by omega), if_pos ⟨h1, hd⟩]
   ·rw [if_neg (by simpa using hd)]
    by_cases hk : 0 < k
    ·have hk5 : k ≤ 5 := by
      have := ((pl_iff I).1 m).2.2.2.2
      unfold kindsL at this
      split at this <;> simp only [List.mem_cons, List.not_mem_nil, or_false] at this <;> omega
     rw [if_pos (decide_eq_true hk), asrt_pos (by omega), w64_of (x := k * sgn t) (by rcases hsg with h | h <;> rw [h] <;> omega), hend]
     unfold aft eAft
     rw [if_pos h1, if_neg hbe, if_pos hk, if_neg (fun q => hd q.2)]
    ·rw [if_neg (by simpa using hk), hend]
     unfold aft eAft
     rw [if_pos h1, if_neg hbe, if_neg hk, if_neg (fun q => hd q.2)]
 ·rw [if_neg (by simp; omega)]
  have he0 : eAft p t a b = -1 := by unfold eAft; rw [if_neg (fun q => h1 q.1)]
  rw [he0]
  by_cases h6 : (geti p a).natAbs = 6
  ·rw [if_pos (by simp [h6]), hw]
   have hend := fun q => after_end (a := a) (b := b) I q (-1) (minI (w64 (h + 1)) 999) (by rw [if_neg h1])
   rw [if_pos h6] at hend
   have hj4 : ∀ q, board_After_J4 p t c h f a b q = some (q, 1 - t, cAft p t c a b, -1, hAft p h a b, fAft f t) := by
    intro q
    unfold board_After_J4
    rw [asrt_pos (by rw [w64_of (by omega)]; omega), hend]
   by_cases h2 : ((b : Int) - a).natAbs = 2
   ·have hcast : ∃ n, n < 4 ∧ a = homeK n ∧ b = castTo n := by
     cases m with
     | pc ha hs h1' hb' ho => exact absurd h2 (king_reach h6 hb')
     | cap ha hs h1' hb' ho hi => exact absurd h1' h1
     | push ha hs h1' hb' h0b hi => exact absurd h1' h1
     | dbl ha hs h1' hb' hrow hmid h0b => exact absurd h1' h1
     | @castle n ho => exact ⟨n, ho.lt, rfl, rfl⟩
    rw [if_pos (by simp only [Bool.or_eq_true, beq_iff_eq]; omega)]
    have hj5 : ∀ r : Nat, r < 64 → ∀ md : Nat, md < 64 → (md : Int) = a + Int.tdiv ((b : Int) - a) 2 → board_After_J5 p t c h f a b p (r : Int) = some ((((p.set a 0).set b (geti p a)).set md (geti ((p.set a 0).set b (geti p a)) (r : Int))).set r 0, 1 - t, cAft p t c a b, -1, hAft p h a b, fAft f t) := by
     intro r hr md hmd hmde
     have hz : w64 ((a : Int) + w64 (Int.tdiv (w64 ((b : Int) - a)) 2)) = (md : Int) := by
      rw [hw, w64_of (x := Int.tdiv ((b : Int) - a) 2) (by omega), ← hmde, w64_of (by omega)]
     unfold board_After_J5
     rw [hz, asrt_pos (by omega), asrt_pos (by omega), asrt_pos (by omega), hj4, Int.toNat_natCast, Int.toNat_natCast, Int.toNat_natCast, Int.toNat_natCast]
    obtain ⟨n, hn, ha', hb'⟩ := hcast
    have hcases : n = 0 ∨ n = 1 ∨ n = 2 ∨ n = 3 := by omega
    have haft : aft p t e a b k = (((p.set a 0).set b (geti p a)).set ((a + b) / 2) (geti ((p.set a 0).set b (geti p a)) ((if a < b then a + 3 else a - 4 : Nat) : Int))).set (if a < b then a + 3 else a - 4) 0 := by
     unfold aft
     rw [if_neg h1, if_pos ⟨h6, h2⟩]
    rw [haft]
    rcases hcases with rfl | rfl | rfl | rfl <;> (simp only [homeK, castTo] at ha' hb'; simp at ha' hb'; subst ha' hb')
    ·rw [if_neg (by decide), show w64 (((4 : Nat) : Int) + 3) = ((7 : Nat) : Int) by decide]
     exact hj5 7 (by omega) 5 (by omega) (by decide)
    ·rw [if_pos (by decide), show w64 (((4 : Nat) : Int) - 4) = ((0 : Nat) : Int) by decide]
     exact hj5 0 (by omega) 3 (by omega) (by decide)
    ·rw [if_neg (by decide), show w64 (((60 : Nat) : Int) + 3) = ((63 : Nat) : Int) by decide]
     exact hj5 63 (by omega) 61 (by omega) (by decide)
    ·rw [if_pos (by decide), show w64 (((60 : Nat) : Int) - 4) = ((56 : Nat) : Int) by decide]
     exact hj5 56 (by omega) 59 (by omega) (by decide)
   ·rw [if_neg (by simp only [Bool.or_eq_true, beq_iff_eq]; omega), hj4]
    unfold aft
    rw [if_neg h1, if_neg (fun q => h2 q.2)]
  ·rw [if_neg (by simp; omega)]
   have hend := fun q => after_end (a := a) (b := b) I q (-1) (minI (w64 (h + 1)) 999) (by rw [if_neg h1])
   rw [if_neg h6] at hend
   rw [hend]
   unfold aft
   rw [if_neg h1, if_neg (fun q => h6 q.1)]
end
end Go.Proofs.Ytkpkkdpfcbnfdaa
namespace Go.Proofs.Ytkpkkdpfcbnfdaa
open Go Go.GL Go.RowKit
section
variable {p : List Int} {t c e h f : Int} {a b : Nat} {k : Int}
def addS (p : List Int) (t e : Int) (l ms : List Mv) : List Mv := l ++ ms.filter (safeB p t e)
theorem addS_len (p : List Int) (t e : Int) (l ms : List Mv) : (addS p t e l ms).length ≤ l.length + ms.length := by
 unfold addS
 rw [List.length_append]
 have := List.length_filter_le (safeB p t e) ms
 omega
theorem addS_app (p : List Int) (t e : Int) (l ms ns : List Mv) : addS p t e (addS p t e l ms) ns = addS p t e l (ms ++ ns) := by
 unfold addS
 rw [List.filter_append, List.append_assoc]
theorem addS_nil (p : List Int) (t e : Int) (l : List Mv) : addS p t e l [] = l := by simp [addS]
theorem addS_one (p : List Int) (t e : Int) (l : List Mv) (m : Mv) : addS p t e l [m] = if safeB p t e m = true then l ++ [m] else l := by
 unfold addS
 by_cases h : safeB p t e m = true
 ·rw [if_pos h]; simp [h]
 ·rw [if_neg h]; simp [h]
theorem add_p (I : Inv p t c e h f) (m : PL p t c e a b k) {l : List Mv} (hl : l.length ≤ 1000000) : board_Moves_1_m a b k p t c e h f l = some (true, addS p t e l [mv a b k]) := by
 unfold board_Moves_1_m
 rw [after_p I m, Option.bind_some]
 have hs := next_sm I m
 have hkg := next_kg I m t I.tt
 rw [(check_both hs I.tt (by obtain ⟨k, h1, h2⟩ := hkg; exact ⟨k, h1, (h2 k h1).2 rfl⟩)).1, Option.bind_some]
 unfold board_Moves_1_J2 board_Moves_1_J1
 rw [addS_one]
 have hse : safeB p t e (mv a b k) = !inChk (aft p t e a b k) t := by unfold safeB mv; simp only [Int.toNat_natCast]
 rw [hse]
 cases inChk (aft p t e a b k) t with
 | true => rfl
 | false =>
  simp only [Bool.not_false, if_true]
  rw [asrt_pos (by unfold bigT; omega)]
  rfl
theorem crown_p (I : Inv p t c e h f) (m : ∀ k, Into b k → PL p t c e a b k) {l : List Mv} (hl : l.length ≤ 900000) : board_crown_m a b p t c e h f l = some (true, addS p t e l ((intoL b).map (mv a b))) := by
 unfold board_crown_m
 by_cases hb : 8 ≤ b ∧ b < 56
 ·rw [if_pos (by simp only [Bool.and_eq_true, decide_eq_true_eq]; omega), add_p I (m 0 (by unfold Into; rw [if_pos hb])) (by omega), Option.bind_some]
  unfold intoL
  rw [if_pos hb]
  rfl
 ·rw [if_neg (by simp only [Bool.and_eq_true, decide_eq_true_eq]; omega)]
  have hi : intoL b = [2, 3, 4, 5] := by unfold intoL; rw [if_neg hb]
  rw [hi]
  unfold board_crown_J1
  have step : ∀ (l : List Mv) (k : Int), l.length ≤ 999999 → 2 ≤ k → k ≤ 5 → board_crown_L1 a b p t c e h f (l, k) = some (.next (addS p t e l [mv a b k], k + 1)) := by
   intro l k hl hk hk5
   simp only [board_crown_L1]
   rw [if_pos (decide_eq_true hk5)]
   unfold board_crown_J3 board_crown_J4
   rw [add_p I (m k (by unfold Into; rw [if_neg hb]; exact ⟨hk, hk5⟩)) (by omega), Option.bind_some]
   rw [w64_of (by omega)]
   rfl
  have l1 := addS_len p t e l [mv a b 2]
  have l2 := addS_len p t e (addS p t e l [mv a b 2]) [mv a b 3]
  have l3 := addS_len p t e (addS p t e (addS p t e l [mv a b 2]) [mv a b 3]) [mv a b 4]
  simp only [List.length_singleton] at l1 l2 l3
  have s1 := step l 2 (by omega) (by omega) (by omega)
  have s2 := step _ 3 (show (addS p t e l [mv a b 2]).length ≤ 999999 by omega) (by omega) (by omega)
  have s3 := step _ 4 (show (addS p t e (addS p t e l [mv a b 2]) [mv a b 3]).length ≤ 999999 by omega) (by omega) (by omega)
  have s4 := step _ 5 (show (addS p t e (addS p t e (addS p t e l [mv a b 2]) [mv a b 3]) [mv a b 4]).length ≤ 999999 by omega) (by omega) (by omega)
  have s5 : ∀ l, board_crown_L1 a b p t c e h f (l, 6) = some (.done (.go l)) := fun l => by
   simp only [board_crown_L1]
   exact if_neg (by decide)
  rw [loop_next' s1 (loop_next' s2 (loop_next' s3 (loop_next' s4 (loop_done (s5 _))))), Option.bind_some]
  simp only [board_crown_K1, board_crown_J2]
  rw [addS_app, addS_app, addS_app]
  rfl
theorem tell_p (I : Inv p t c e h f) (m : ∀ k, Into b k → PL p t c e a b k) {l : List Mv} (hl : l.length ≤ 900000) : board_Moves_2_m b a p t c e h f l = some (addS p t e l ((intoL b).map (mv a b))) := by
 unfold board_Moves_2_m
 rw [crown_p I m hl, Option.bind_some]
 rfl
theorem run_add {p : List Int} {t e : Int} {R : Type} {yd : Int → St (List Mv) R → Option (St (List Mv) R × Bool)} {g : Nat → List Mv} {M : Nat} : ∀ (L : List Nat) (l : List Mv), (∀ x ∈ L, (g x).length ≤ 4) → l.length + 4 * L.length ≤ M →
  (∀ x ∈ L, ∀ l : List Mv, l.length ≤ M → yd (x : Int) (.next l) = some (.next (addS p t e l (g x)), true)) → ydRun yd L (.next l) = some (.go (.next (addS p t e l (L.flatMap g))))
 | [], l, _, _, _ => by rw [List.flatMap_nil, addS_nil]; rfl
 | x :: L, l, hg, hM, hy => by
  simp only [List.length_cons] at hM
  have e0 : ydRun yd (x :: L) (.next l) = ((yd (x : Int) (.next l)).bind fun q => if q.2 = true then ydRun yd L q.1 else some (.ret q.1)) := rfl
  have hgx := hg x (by simp)
  have hal := addS_len p t e l (g x)
  rw [e0, hy x (by simp) l (by omega), Option.bind_some, if_pos rfl, run_add L _ (fun y hy' => hg y (by simp [hy'])) (by omega) (fun y hy' => hy y (by simp [hy'])), addS_app, List.flatMap_cons]
theorem nodup_len : ∀ (n : Nat) (l : List Nat), l.Nodup → (∀ x ∈ l, x < n) → l.length ≤ n
 | 0, l, _, h => by
  cases l with
  | nil => simp
  | cons x l => exact absurd (h x (by simp)) (by omega)
 | n + 1, l, hn, h => by
  have h1 := nodup_len n (l.filter (· ≠ n)) (hn.sublist List.filter_sublist) (fun x hx => by
   rw [List.mem_filter] at hx
   have := h x hx.1
   have h2 : x ≠ n := by simpa using hx.2
   omega)
  have h2 : (l.filter (· == n)).length ≤ 1 := by
   have h3 : (l.filter (· == n)).Nodup := hn.sublist List.filter_sublist
   cases hf : l.filter (· == n) with
   | nil => simp
   | cons x r =>
    cases r with
    | nil => simp
    | cons y r =>
     rw [hf] at h3
     have hx : x ∈ l.filter (· == n) := by rw [hf]; simp
     have hy : y ∈ l.filter (· == n) := by rw [hf]; simp
     rw [List.mem_filter, beq_iff_eq] at hx hy
     simp [hx.2, hy.2] at h3
  have h4 : ∀ l : List Nat, l.length = (l.filter (· == n)).length + (l.filter (· ≠ n)).length := by
   intro l
   induction l with
   | nil => rfl
   | cons x l ih =>
    by_cases hx : x = n
    ·simp [hx, ih]; omega
    ·simp [hx, ih]; omega
  have := h4 l
  omega
theorem reach_len (p : List Int) {i : Nat} (hi : i < 64) : (reachL p i).length ≤ 64 := nodup_len 64 _ (reach_nodup p hi) (fun _ hx => reach_lt hx)
theorem intoL_len (b : Nat) : (intoL b).length ≤ 4 := by unfold intoL; split <;> decide
theorem flatMap_len_le {α β : Type} {g : α → List β} {n : Nat} : ∀ L : List α, (∀ x ∈ L, (g x).length ≤ n) → (L.flatMap g).length ≤ n * L.length
 | [], _ => by simp
 | x :: L, h => by
  rw [List.flatMap_cons, List.length_append, List.length_cons, Nat.mul_add, Nat.mul_one]
  have h1 := h x (by simp)
  have h2 := flatMap_len_le L (fun y hy => h y (by simp [hy]))
  omega
theorem reachm_p (x : Int) : board_Reach_m p x = some x := rfl
theorem filter_flat {q : Nat → Bool} {g : Nat → List Mv} : ∀ L : List Nat, L.flatMap (fun x => if q x = true then g x else []) = (L.filter q).flatMap g
 | [] => rfl
 | x :: L => by
  rw [List.flatMap_cons, filter_flat L]
  cases hq : q x <;> simp [hq]
theorem shr3 (n : Nat) (_hn : n < 64) : shrK .i64 (n : Int) 3 = ((n / 8 : Nat) : Int) := shr_nat n 3 (by decide)
theorem pawn_p (I : Inv p t c e h f) (ha : a < 64) (hs : sideI (geti p a) = t) (h1 : (geti p a).natAbs = 1) {l : List Mv} (hl : l.length ≤ 800000) :
  board_pawn_m p t c e h f a a p t c e h f l = some (addS p t e l (fromL p t e a)) := by
 have hlen := I.len
 have ht := I.tt
 have hp8 := I.pw a ha h1
 have hsg : sgn t = 1 ∨ sgn t = -1 := by rcases sgn_t ht with h | h <;> omega
 have hfrom : fromL p t e a = ((reachL p a).filter (fun (b : Nat) => (sideI (geti p b) == 1 - t) || ((b : Int) == e))).flatMap (fun b => (intoL b).map (mv a b)) ++ (pushL p t a).flatMap (fun b => (intoL b).map (mv a b)) := by
  unfold fromL
  rw [if_neg (by simpa using hs), if_pos h1]
  unfold pawnTo
  rw [List.flatMap_append]
 rw [hfrom, ← addS_app]
 unfold board_pawn_m
 rw [forward_t ht, Option.bind_some, reachm_p, Option.bind_some]
 have hrl := reach_len p ha
 have hrun := run_add (p := p) (t := t) (e := e) (R := Unit) (M := 900000) (yd := ydOf (fun x s => (board_pawn_L1 p t e a p t c e h f) (x, s))) (g := fun b => if ((sideI (geti p b) == 1 - t) || ((b : Int) == e)) = true then (intoL b).map (mv a b) else []) (reachL p a) l (fun x _ => by
  have := intoL_len x
  split
  ·rw [List.length_map]; exact this
  ·simp) (by omega) (fun x hx l hl => by
   have hx64 := reach_lt hx
   simp only [ydOf, board_pawn_L1]
   rw [asrt_pos (by omega), side_eq, Option.bind_some, w64_of (by omega)]
   by_cases hq : ((sideI (geti p x) == 1 - t) || ((x : Int) == e)) = true
   ·rw [if_pos hq, if_pos hq]
    have hq' : sideI (geti p x) = 1 - t ∨ (x : Int) = e := by simpa using hq
    rw [tell_p I (fun k hk => .cap ha hs h1 hx hq' hk) hl, Option.bind_some]
    rfl
   ·rw [if_neg hq, if_neg hq, addS_nil]
    rfl)
 rw [filter_flat] at hrun
 rw [reach_run hlen ha (I.sm.2 a ha) hrun, Option.bind_some]
 have hcl : (addS p t e l (((reachL p a).filter (fun (b : Nat) => (sideI (geti p b) == 1 - t) || ((b : Int) == e))).flatMap (fun b => (intoL b).map (mv a b)))).length ≤ 800256 := by
  have q1 := addS_len p t e l (((reachL p a).filter (fun (b : Nat) => (sideI (geti p b) == 1 - t) || ((b : Int) == e))).flatMap (fun b => (intoL b).map (mv a b)))
  have q2 := flatMap_len_le (n := 4) (g := fun b => (intoL b).map (mv a b)) ((reachL p a).filter (fun (b : Nat) => (sideI (geti p b) == 1 - t) || ((b : Int) == e))) (fun x _ => by rw [List.length_map]; exact intoL_len x)
  have q3 := List.length_filter_le (fun (b : Nat) => (sideI (geti p b) == 1 - t) || ((b : Int) == e)) (reachL p a)
  omega
 generalize addS p t e l (((reachL p a).filter (fun (b : Nat) => (sideI (geti p b) == 1 - t) || ((b : Int) == e))).flatMap (fun b => (intoL b).map (mv a b))) = l1 at hcl ⊢
 simp only [flV, board_pawn_K1]
 unfold board_pawn_J2
 obtain ⟨b1, hb1, hb64⟩ : ∃ b1 : Nat, (b1 : Int) = (a : Int) + 8 * sgn t ∧ b1 < 64 := by
  rcases sgn_t ht with ⟨rfl, h⟩ | ⟨rfl, h⟩ <;> rw [h]
  ·exact ⟨a + 8, by omega, by omega⟩
  ·exact ⟨a - 8, by omega, by omega⟩
 have w8 : w64 (8 * sgn t) = 8 * sgn t := w64_of (by omega)
 have w16 : w64 (2 * (8 * sgn t)) = 16 * sgn t := by rw [w64_of (by omega)]; omega
 have wa8 : w64 ((a : Int) + 8 * sgn t) = (b1 : Int) := by rw [w64_of (by omega), hb1]
 have wa16 : w64 ((a : Int) + 16 * sgn t) = (a : Int) + 16 * sgn t := w64_of (by omega)
 unfold board_pawn_J3 board_pawn_J1 pushL
 rw [w8, w16, wa8, wa16, asrt_pos (by omega), ← hb1, Int.toNat_natCast]
 by_cases h0 : geti p (b1 : Int) = 0
 ·rw [if_neg (by simp [h0]), if_pos h0, tell_p I (fun k hk => .push ha hs h1 hb1 h0 hk) (by omega), Option.bind_some]
  have hrow : (shrK .i64 (a : Int) 3 == w64 (1 + w64 (5 * t))) = decide (((a / 8 : Nat) : Int) = 1 + 5 * t) := by
   rw [shr3 a ha, w64_of (x := 5 * t) (by omega), w64_of (by omega), Bool.eq_iff_iff, beq_iff_eq, decide_eq_true_eq]
  rw [hrow]
  by_cases hr : ((a / 8 : Nat) : Int) = 1 + 5 * t
  ·obtain ⟨b2, hb2, hb264⟩ : ∃ b2 : Nat, (b2 : Int) = (a : Int) + 16 * sgn t ∧ b2 < 64 := by
    rcases sgn_t ht with ⟨rfl, h⟩ | ⟨rfl, h⟩ <;> rw [h]
    ·exact ⟨a + 16, by omega, by omega⟩
    ·exact ⟨a - 16, by omega, by omega⟩
   rw [asrt_pos (by omega), decide_eq_true hr, ← hb2, Int.toNat_natCast]
   by_cases h2 : geti p (b2 : Int) = 0
   ·rw [if_pos (by simp [h2]), if_pos ⟨hr, h2⟩]
    have hq := addS_len p t e l1 ((intoL b1).map (mv a b1))
    rw [List.length_map] at hq
    have := intoL_len b1
    rw [tell_p I (fun k hk => by
     have : k = 0 := by
      unfold Into at hk
      rw [if_pos (by rcases sgn_t ht with ⟨rfl, h⟩ | ⟨rfl, h⟩ <;> rw [h] at hb2 <;> omega)] at hk
      exact hk
     subst this
     exact .dbl ha hs h1 hb2 hr (by rw [← hb1]; exact h0) h2) (by omega), Option.bind_some, addS_app]
    simp
   ·rw [if_neg (by simp [h2]), if_neg (fun q => h2 q.2)]
    simp
  ·rw [asrt_pos (by intro q; exact absurd (of_decide_eq_true q) hr), decide_eq_false hr, if_neg (by simp), if_neg (fun q => hr q.1)]
   simp
 ·rw [if_pos (by simpa using h0), if_neg h0]
  simp [addS_nil]
theorem bit_tab0 : ((List.range 16).all fun c => (List.range 4).all fun n => ((bAnd (shrK .i64 (c : Int) (n : Int)) 1 == 0) == !cbit (c : Int) n)) = true := by decide +kernel
theorem bit_tab01 {c : Int} (hc : 0 ≤ c ∧ c ≤ 15) {n : Nat} (hn : n < 4) : (bAnd (shrK .i64 c (n : Int)) 1 == 0) = !cbit c n := by
 have h := List.all_eq_true.1 (List.all_eq_true.1 bit_tab0 c.toNat (List.mem_range.2 (by omega))) n (List.mem_range.2 hn)
 rw [show ((c.toNat : Nat) : Int) = c by omega] at h
 simpa using h
def PathTo (n : Nat) (R : Int) (way : Int) : List Nat → Int → Prop
 | [], x => x = R
 | b :: r, x => x = (b : Int) ∧ (b : Int) ≠ R ∧ b < 64 ∧ PathTo n R way r ((b : Int) + way)
theorem path_run (hl : p.length = 64) {n : Nat} {K R way : Int} (hw : w64 (1 - w64 (2 * bAnd (n : Int) 1)) = way) (hway : -10 ≤ way ∧ way ≤ 10) : ∀ (bs : List Nat) (x : Int) (free : Bool), PathTo n R way bs x →
  loop (board_castles_L2 p n (K, R)) (free, x) = some (free && bs.all (fun (j : Nat) => geti p j == 0))
 | [], x, free, hp => by
  have hp : x = R := hp
  subst hp
  refine loop_done ?_
  simp only [board_castles_L2]
  rw [if_neg (by simp)]
  simp
 | b :: bs, x, free, hp => by
  obtain ⟨rfl, hR, hb, hp⟩ := hp
  have e0 : board_castles_L2 p n (K, R) (free, (b : Int)) = some (.next (free && (geti p b == 0), (b : Int) + way)) := by
   simp only [board_castles_L2]
   rw [if_pos (by simpa using hR)]
   unfold board_castles_J6 board_castles_J7
   rw [asrt_pos (by omega), hw, w64_of (by omega)]
  refine loop_next' e0 ?_
  rw [path_run hl hw hway bs _ _ hp, List.all_cons, Bool.and_assoc]
theorem att_step (hs : Small p) (ht : t = 0 ∨ t = 1) {n : Nat} {K R way : Int} (hw : w64 (1 - w64 (2 * bAnd (n : Int) 1)) = way) (hway : -10 ≤ way ∧ way ≤ 10) {z j : Nat} (hz : z < 3) (hK : 0 ≤ K ∧ K ≤ 64) (hj : (j : Int) = K + z * way) (free : Bool) :
  board_castles_L3 p t n (K, R) (free, (z : Int)) = some (.next (free && (attL p j (1 - t) 64).isEmpty, ((z + 1 : Nat) : Int))) := by
 simp only [board_castles_L3]
 rw [if_pos (decide_eq_true (by omega))]
 unfold board_castles_J9 board_castles_J10
 have hzw : -30 ≤ (z : Int) * way ∧ (z : Int) * way ≤ 30 := by
  have : z = 0 ∨ z = 1 ∨ z = 2 := by omega
  rcases this with rfl | rfl | rfl <;> omega
 rw [hw, w64_of (x := (z : Int) * way) (by omega), w64_of (x := K + (z : Int) * way) (by omega), ← hj, w64_of (x := 1 - t) (by omega), w64_of (x := (z : Int) + 1) (by omega), attackers_p hs (by omega), Option.bind_some]
 cases free with
 | false => rfl
 | true =>
  simp only [if_true, Bool.true_and]
  congr 4
  cases attL p j (1 - t) 64 with
  | nil => rfl
  | cons x r => rw [Bool.eq_iff_iff, beq_iff_eq]; simp; omega
theorem castle_turn (I : Inv p t c e h f) {n : Nat} (hn : n < 4) (hnt : ((n / 2 : Nat) : Int) = t) {l : List Mv} (hl : l.length ≤ 900000) : board_castles_L1 p t c p t c e h f (l, (n : Int)) = some (.next (addS p t e l (if castB p t c n = true then [mv (homeK n) (castTo n) 0] else []), ((n + 1 : Nat) : Int))) := by
 have ht := I.tt
 simp only [board_castles_L1]
 rw [if_pos (decide_eq_true (by rw [w64_of (x := 2 * t) (by omega), w64_of (by omega)]; omega))]
 unfold board_castles_J2 board_castles_J3
 have hw1 : w64 ((n : Int) + 1) = ((n + 1 : Nat) : Int) := by rw [w64_of (by omega)]; omega
 rw [hw1]
 have hbit := bit_p I.cc hn
 have hcb : castB p t c n = (cbit c n && ((betw n).all (fun (j : Nat) => geti p j == 0) && (wayC n).all (fun j => (attL p j (1 - t) 64).isEmpty))) := by
  unfold castB
  rw [decide_eq_true hnt, Bool.true_and]
 have hb01 : (bAnd (shrK .i64 c (n : Int)) 1 == 0) = !cbit c n := by
  have := bit_tab01 I.cc hn
  exact this
 have main : ∀ (K R way : Int) (k r : Nat), board_Right_m (n : Int) = some (K, R) → w64 (1 - w64 (2 * bAnd (n : Int) 1)) = way → (way = 1 ∨ way = -1) → K = (homeK n : Int) → PathTo n R way (betw n) (K + way) → (wayC n = [homeK n, k, r]) → (k : Int) = K + way → (r : Int) = K + 2 * way → r = castTo n →
   ((board_Right_m (n : Int)).bind fun r1 => asrt ((0 : Int) ≤ n) <| if ((bAnd (shrK .i64 c n) 1) == 0) = true then (some (.next (l, ((n + 1 : Nat) : Int)))) else (board_castles_J4 p t p t c e h f l n r1)) = some (.next (addS p t e l (if castB p t c n = true then [mv (homeK n) (castTo n) 0] else []), ((n + 1 : Nat) : Int))) := by
  intro K R way k r hR hw hway hK hpath hwc hk hr hrc
  rw [hR, Option.bind_some, asrt_pos (by omega), hb01, hcb]
  cases hbt : cbit c n with
  | false => simp [addS_nil]
  | true =>
   simp only [Bool.not_true, Bool.false_eq_true, if_false, Bool.true_and]
   have hK64 : 0 ≤ K ∧ K ≤ 64 := by rw [hK]; unfold homeK; split <;> omega
   unfold board_castles_J4
   rw [hw, w64_of (x := K + way) (by omega), path_run I.len hw (by omega) _ _ _ hpath, Option.bind_some]
   simp only [board_castles_K2, Bool.true_and]
   unfold board_castles_J5
   generalize hf : (betw n).all (fun (j : Nat) => geti p j == 0) = free
   have a0 := att_step (p := p) (R := R) I.sm ht hw (by omega) (z := 0) (j := homeK n) (by omega) hK64 (by omega) free
   have a1 := att_step (p := p) (R := R) I.sm ht hw (by omega) (z := 1) (j := k) (by omega) hK64 (by omega) (free && (attL p (homeK n) (1 - t) 64).isEmpty)
   have a2 := att_step (p := p) (R := R) I.sm ht hw (by omega) (z := 2) (j := r) (by omega) hK64 (by omega) ((free && (attL p (homeK n) (1 - t) 64).isEmpty) && (attL p k (1 - t) 64).isEmpty)
   have a3 : ∀ x, board_castles_L3 p t n (K, R) (x, ((3 : Nat) : Int)) = some (.done x) := fun x => by
    simp only [board_castles_L3]
    exact if_neg (by decide)
   have hloop := loop_next' a0 (loop_next' a1 (loop_next' a2 (loop_done (a3 _))))
   rw [show (((0 : Nat) : Int)) = 0 from rfl] at hloop
   rw [hloop, Option.bind_some]
   simp only [board_castles_K3]
   unfold board_castles_J8 board_castles_J3
   rw [hw1, hwc]
   simp only [List.all_cons, List.all_nil, Bool.and_true, Bool.and_assoc]
   cases hall : (free && ((attL p (homeK n) (1 - t) 64).isEmpty && ((attL p k (1 - t) 64).isEmpty && (attL p r (1 - t) 64).isEmpty))) with
   | false => simp [addS_nil]
   | true =>
    simp only [if_true]
    have ho : CastOk p t c n := (castB_iff hn).1 (by
     rw [hcb, hbt, hf, hwc]
     simp only [List.all_cons, List.all_nil, Bool.and_true, Bool.true_and]
     exact hall)
    have hto : w64 (K + w64 (2 * way)) = ((castTo n : Nat) : Int) := by
     rw [w64_of (x := 2 * way) (by omega), w64_of (by omega), ← hrc, hr]
    rw [hw, hto, hK]
    unfold board_Moves_3_m
    rw [add_p I (.castle ho) (by omega), Option.bind_some]
    rfl
 obtain ⟨r0, r1, r2, r3⟩ := right_p
 have hcases : n = 0 ∨ n = 1 ∨ n = 2 ∨ n = 3 := by omega
 rcases hcases with rfl | rfl | rfl | rfl
 ·exact main 4 7 1 5 6 r0 (by decide) (by decide) rfl (by simp [PathTo, betw]) rfl (by decide) (by decide) rfl
 ·exact main 4 0 (-1) 3 2 r1 (by decide) (by decide) rfl (by simp [PathTo, betw]) rfl (by decide) (by decide) rfl
 ·exact main 60 63 1 61 62 r2 (by decide) (by decide) rfl (by simp [PathTo, betw]) rfl (by decide) (by decide) rfl
 ·exact main 60 56 (-1) 59 58 r3 (by decide) (by decide) rfl (by simp [PathTo, betw]) rfl (by decide) (by decide) rfl
theorem castles_p (I : Inv p t c e h f) {l : List Mv} (hl : l.length ≤ 800000) : board_castles_m p t c e h f p t c e h f l = some (addS p t e l (castL p t c)) := by
 have ht := I.tt
 have hoff : ∀ n : Nat, ((n / 2 : Nat) : Int) ≠ t → castB p t c n = false := fun n hn => by unfold castB; rw [decide_eq_false hn]; rfl
 have hend : ∀ (l : List Mv) (n : Nat), (n : Int) = 2 * t + 2 → board_castles_L1 p t c p t c e h f (l, (n : Int)) = some (.done l) := fun l n hn => by
  simp only [board_castles_L1]
  exact if_neg (by rw [w64_of (x := 2 * t) (by omega), w64_of (by omega)]; simp; omega)
 unfold board_castles_m
 have hone : ∀ n, (if castB p t c n = true then [mv (homeK n) (castTo n) 0] else ([] : List Mv)).length ≤ 1 := fun n => by split <;> simp
 rcases ht with rfl | rfl
 ·have s0 := castle_turn I (n := 0) (by omega) (by decide) (l := l) (by omega)
  have q0 := addS_len p 0 e l (if castB p 0 c 0 = true then [mv (homeK 0) (castTo 0) 0] else [])
  have := hone 0
  have s1 := castle_turn I (n := 1) (by omega) (by decide) (l := addS p 0 e l (if castB p 0 c 0 = true then [mv (homeK 0) (castTo 0) 0] else [])) (by omega)
  rw [show w64 (2 * 0) = ((0 : Nat) : Int) by decide, loop_next' s0 (loop_next' s1 (loop_done (hend _ 2 (by decide)))), Option.bind_some, addS_app]
  simp only [board_castles_K1, board_castles_J1]
  congr 2
  unfold castL
  rw [List.filter_cons, List.filter_cons, List.filter_cons, List.filter_cons, hoff 2 (by decide), hoff 3 (by decide)]
  cases castB p 0 c 0 <;> cases castB p 0 c 1 <;> simp
 ·have s0 := castle_turn I (n := 2) (by omega) (by decide) (l := l) (by omega)
  have q0 := addS_len p 1 e l (if castB p 1 c 2 = true then [mv (homeK 2) (castTo 2) 0] else [])
  have := hone 2
  have s1 := castle_turn I (n := 3) (by omega) (by decide) (l := addS p 1 e l (if castB p 1 c 2 = true then [mv (homeK 2) (castTo 2) 0] else [])) (by omega)
  rw [show w64 (2 * 1) = ((2 : Nat) : Int) by decide, loop_next' s0 (loop_next' s1 (loop_done (hend _ 4 (by decide)))), Option.bind_some, addS_app]
  simp only [board_castles_K1, board_castles_J1]
  congr 2
  unfold castL
  rw [List.filter_cons, List.filter_cons, List.filter_cons, List.filter_cons, hoff 0 (by decide), hoff 1 (by decide)]
  cases castB p 1 c 2 <;> cases castB p 1 c 3 <;> simp
theorem from_len (I : Inv p t c e h f) (ha : a < 64) : (fromL p t e a).length ≤ 264 := by
 have hr := reach_len p ha
 have hf : ∀ q : Nat → Bool, ((reachL p a).filter q).length ≤ 64 := fun q => Nat.le_trans (List.length_filter_le _ _) hr
 unfold fromL
 split
 ·simp
 split
 ·have h2 : (pawnTo p t e a).length ≤ 66 := by
   unfold pawnTo
   rw [List.length_append]
   have : (pushL p t a).length ≤ 2 := by unfold pushL; split <;> (try split) <;> simp
   have := hf (fun (b : Nat) => (sideI (geti p b) == 1 - t) || ((b : Int) == e))
   omega
  have := flatMap_len_le (n := 4) (g := fun b => (intoL b).map (mv a b)) (pawnTo p t e a) (fun x _ => by rw [List.length_map]; exact intoL_len x)
  omega
 ·rw [List.length_map]
  have := hf (fun (b : Nat) => sideI (geti p b) != t)
  omega
theorem from_turn (I : Inv p t c e h f) (ha : a < 64) {l : List Mv} (hl : l.length ≤ 700000) : board_Moves_L1 p t c e h f (l, (a : Int)) = some (.next (addS p t e l (fromL p t e a), ((a + 1 : Nat) : Int))) := by
 have hlen := I.len
 have ht := I.tt
 simp only [board_Moves_L1]
 rw [if_pos (decide_eq_true (by omega))]
 unfold board_Moves_J2 board_Moves_J3
 have hw1 : w64 ((a : Int) + 1) = ((a + 1 : Nat) : Int) := by rw [w64_of (by omega)]; omega
 rw [asrt_pos (by omega), side_eq, Option.bind_some, hw1]
 by_cases hs : sideI (geti p a) = t
 ·rw [if_neg (by simpa using hs), kind_small (I.sm.2 a ha), Option.bind_some]
  by_cases h1 : (geti p a).natAbs = 1
  ·rw [if_pos (by simp [h1]), pawn_p I ha hs h1 (by omega), Option.bind_some]
  ·rw [if_neg (by simp; omega), reachm_p, Option.bind_some]
   have hrl := reach_len p ha
   have hrun := run_add (p := p) (t := t) (e := e) (R := Unit) (M := 900000) (yd := ydOf (fun x s => (board_Moves_L2 p t c e h f a) (x, s))) (g := fun b => if (sideI (geti p b) != t) = true then [mv a b 0] else []) (reachL p a) l (fun x _ => by split <;> simp) (by omega) (fun x hx l hl => by
    have hx64 := reach_lt hx
    simp only [ydOf, board_Moves_L2]
    rw [asrt_pos (by omega), side_eq, Option.bind_some]
    by_cases hq : (sideI (geti p x) != t) = true
    ·rw [if_pos hq, if_pos hq]
     have hq' : sideI (geti p x) ≠ t := by simpa using hq
     rw [add_p I (.pc ha hs h1 hx hq') (by omega), Option.bind_some]
     rfl
    ·rw [if_neg hq, if_neg hq, addS_nil]
     rfl)
   rw [filter_flat] at hrun
   rw [reach_run hlen ha (I.sm.2 a ha) hrun, Option.bind_some]
   simp only [flV, board_Moves_K2, board_Moves_J3]
   rw [hw1]
   congr 4
   unfold fromL
   rw [if_neg (by simpa using hs), if_neg h1]
   induction (reachL p a).filter (fun (b : Nat) => sideI (geti p b) != t) with
   | nil => rfl
   | cons x r ih => rw [List.flatMap_cons, ih]; rfl
 ·rw [if_pos (by simpa using hs)]
  unfold fromL
  rw [if_pos hs, addS_nil]
theorem moves_loop (I : Inv p t c e h f) : loop (board_Moves_L1 p t c e h f) ([], 0) = some (addS p t e [] ((List.range 64).flatMap (fromL p t e))) := by
 have hst : ∀ n : Nat, n ≤ 64 → (addS p t e [] ((List.range n).flatMap (fromL p t e))).length ≤ 264 * n := by
  intro n hn
  have q1 := addS_len p t e [] ((List.range n).flatMap (fromL p t e))
  have q2 := flatMap_len_le (n := 264) (g := fromL p t e) (List.range n) (fun x hx => from_len I (by have := List.mem_range.1 hx; omega))
  simp only [List.length_nil, List.length_range] at q1 q2
  omega
 refine loop_from (fun n : Nat => (addS p t e [] ((List.range n).flatMap (fromL p t e)), (n : Int))) 64 (by simp [addS_nil]) (fun i hi => ?_) ?_
 ·have := hst i (by omega)
  rw [from_turn I hi (by omega), addS_app, List.range_succ, List.flatMap_append]
  simp
 ·simp only [board_Moves_L1]
  rw [if_neg (by rw [I.len]; simp)]
theorem moves_p (I : Inv p t c e h f) : board_Moves_m p t c e h f = some (refL p t c e) := by
 unfold board_Moves_m
 rw [moves_loop I, Option.bind_some]
 simp only [board_Moves_K1]
 unfold board_Moves_J1
 have q1 := addS_len p t e [] ((List.range 64).flatMap (fromL p t e))
 have q2 := flatMap_len_le (n := 264) (g := fromL p t e) (List.range 64) (fun x hx => from_len I (List.mem_range.1 hx))
 simp only [List.length_nil, List.length_range] at q1 q2
 rw [castles_p I (by omega), Option.bind_some, addS_app]
 have hprog : addS p t e [] ((List.range 64).flatMap (fromL p t e) ++ castL p t c) = progL p t c e := by
  unfold addS progL rawL
  simp
 rw [hprog]
 unfold api_Move_2_m
 have hpl : (progL p t c e).length ≤ 100000 := by
  rw [← hprog]
  have q3 := addS_len p t e [] ((List.range 64).flatMap (fromL p t e) ++ castL p t c)
  rw [List.length_append] at q3
  have q4 : (castL p t c).length ≤ 4 := by
   unfold castL
   rw [List.length_map]
   exact Nat.le_trans (List.length_filter_le _ _) (by simp)
  simp only [List.length_nil] at q3
  omega
 rw [asrt_pos (by unfold bigN; omega), Option.bind_some, moves_eq I]
theorem refL_len (I : Inv p t c e h f) : (refL p t c e).length ≤ 20000 := by
 rw [← moves_eq I, sortK_length]
 unfold progL
 have q1 := List.length_filter_le (safeB p t e) (rawL p t c e)
 have q2 := flatMap_len_le (n := 264) (g := fromL p t e) (List.range 64) (fun x hx => from_len I (List.mem_range.1 hx))
 have q4 : (castL p t c).length ≤ 4 := by
  unfold castL
  rw [List.length_map]
  exact Nat.le_trans (List.length_filter_le _ _) (by simp)
 simp only [List.length_range] at q2
 have q5 : (rawL p t c e).length = ((List.range 64).flatMap (fromL p t e)).length + (castL p t c).length := by unfold rawL; rw [List.length_append]
 omega
end
end Go.Proofs.Ytkpkkdpfcbnfdaa
namespace Go.Proofs.Ytkpkkdpfcbnfdaa
open Go Go.GL Go.RowKit
section
variable {p : List Int} {t c e h f : Int} {a b : Nat} {k : Int}
theorem chessOf_p (hl : p.length = 64) (t c e h f : Int) : rf_ChessOf_m p t c e h f = some (p, t, c, e, h, f) := by
 unfold rf_ChessOf_m rf_Ints_m
 rw [asrt_pos (by unfold bigN; omega)]
 simp
theorem sign_t (ht : t = 0 ∨ t = 1) : rf_SideSign_m t = some (sgn t) := by
 unfold rf_SideSign_m
 rw [w64_of (x := 2 * t) (by omega), w64_of (by omega)]
 rfl
theorem clr_tab1 : ((List.range 16).all fun c => (List.range 4).all fun n => [false, true].all fun l => decide (0 ≤ clr (c : Int) n l ∧ clr (c : Int) n l ≤ 15) && ((w64 ((c : Int) - shlK .i64 1 (n : Int)) == (c : Int) - 2 ^ n) && ((bAnd (shrK .i64 (c : Int) (n : Int)) 1 == 1) == cbit (c : Int) n))) = true := by decide +kernel
theorem clr_p {c : Int} (hc : 0 ≤ c ∧ c ≤ 15) {n : Nat} (hn : n < 4) (l : Bool) : (0 ≤ clr c n l ∧ clr c n l ≤ 15) ∧ w64 (c - shlK .i64 1 (n : Int)) = c - 2 ^ n ∧ (bAnd (shrK .i64 c (n : Int)) 1 == 1) = cbit c n := by
 have bm : l ∈ [false, true] := by cases l <;> simp
 have h := List.all_eq_true.1 (List.all_eq_true.1 (List.all_eq_true.1 clr_tab1 c.toNat (List.mem_range.2 (by omega))) n (List.mem_range.2 hn)) l bm
 rw [show ((c.toNat : Nat) : Int) = c by omega] at h
 simpa only [Bool.and_eq_true, decide_eq_true_eq, beq_iff_eq] using h
theorem rooks_p (n : Nat) (hn : n < 4) : geti ([7, 0, 63, 56] : List Int) (n : Int) = ((homeR n : Nat) : Int) ∧ decide ((0 : Int) ≤ geti ([4, 4, 60, 60] : List Int) (n : Int)) = true ∧ w64 (Int.tdiv (n : Int) 2) = ((n / 2 : Nat) : Int) := by
 have hcases : n = 0 ∨ n = 1 ∨ n = 2 ∨ n = 3 := by omega
 rcases hcases with rfl | rfl | rfl | rfl <;> decide
theorem done_step (hsz : -6 ≤ geti p a ∧ geti p a ≤ 6) {q : Int} (hq : 0 ≤ q ∧ q ≤ 15) {n : Nat} (hn : n < 4) : rf_MoveDone_L1 p t a b (q, (n : Int)) = some (.next (clr q n (lost p t a b n), ((n + 1 : Nat) : Int))) := by
 simp only [rf_MoveDone_L1]
 rw [if_pos (decide_eq_true (by omega))]
 unfold rf_MoveDone_J7 rf_MoveDone_J8
 obtain ⟨hr, hk, hd⟩ := rooks_p n hn
 obtain ⟨hcb, hw, hbit⟩ := clr_p hq hn (lost p t a b n)
 rw [hr, hk, hd, w64_of (x := (n : Int) + 1) (by omega), asrt_pos (by omega), asrt_pos (fun _ => by omega), size_small (by omega)]
 have ea : ((a : Int) == ((homeR n : Nat) : Int)) = decide (a = homeR n) := by rw [Bool.eq_iff_iff, beq_iff_eq, decide_eq_true_eq]; omega
 have eb : ((b : Int) == ((homeR n : Nat) : Int)) = decide (b = homeR n) := by rw [Bool.eq_iff_iff, beq_iff_eq, decide_eq_true_eq]; omega
 rw [ea, eb, hbit, hw]
 have hcast : (n : Int) + 1 = ((n + 1 : Nat) : Int) := by omega
 rw [hcast]
 have e6 : (((((geti p a).natAbs : Nat) : Int) == 6) && (((n / 2 : Nat) : Int) == t)) = decide ((geti p a).natAbs = 6 ∧ ((n / 2 : Nat) : Int) = t) := by
  rw [Bool.eq_iff_iff, Bool.and_eq_true, beq_iff_eq, beq_iff_eq, decide_eq_true_eq]; omega
 unfold clr lost
 cases hab : (decide (a = homeR n) || decide (b = homeR n)) with
 | true =>
  simp only [Bool.not_true, Bool.false_eq_true, if_false, Option.bind_some, Bool.true_or, Bool.or_true, Bool.true_and]
  rw [asrt_pos (fun _ => by simp), asrt_pos (fun _ => by omega)]
  cases cbit q n with
  | true => simp only [if_true]; rw [asrt_pos (by omega)]
  | false => rfl
 | false =>
  simp only [Bool.not_false, if_true, Option.bind_some, Bool.false_or, Bool.or_false, Bool.and_true]
  rw [e6, asrt_pos (fun _ _ => by omega), asrt_pos (fun _ => by omega)]
  cases (decide ((geti p a).natAbs = 6 ∧ ((n / 2 : Nat) : Int) = t) && cbit q n) with
  | true => simp only [if_true]; rw [asrt_pos (by omega)]
  | false => rfl
theorem done_loop (hsz : -6 ≤ geti p a ∧ geti p a ≤ 6) (hc : 0 ≤ c ∧ c ≤ 15) : loop (rf_MoveDone_L1 p t a b) (c, 0) = some (cAft p t c a b) := by
 have b0 := (clr_p hc (n := 0) (by omega) (lost p t a b 0)).1
 have b1 := (clr_p b0 (n := 1) (by omega) (lost p t a b 1)).1
 have b2 := (clr_p b1 (n := 2) (by omega) (lost p t a b 2)).1
 have e4 : ∀ q, rf_MoveDone_L1 p t a b (q, ((4 : Nat) : Int)) = some (.done q) := fun q => by
  simp only [rf_MoveDone_L1]
  exact if_neg (by decide)
 exact loop_next' (done_step hsz hc (n := 0) (by omega)) (loop_next' (done_step hsz b0 (n := 1) (by omega)) (loop_next' (done_step hsz b1 (n := 2) (by omega)) (loop_next' (done_step hsz b2 (n := 3) (by omega)) (loop_done (e4 _)))))
theorem pawn_far (I : Inv p t c e h f) (m : PL p t c e a b k) (h1 : (geti p a).natAbs = 1) : ((b : Int) - a).natAbs = 16 ↔ (b : Int) - a = 16 * sgn t := by
 have hb := m.bds I
 have hv := pawn_val I.tt hb.2.2.1 h1
 have hsg : sgn t = 1 ∨ sgn t = -1 := by rcases sgn_t I.tt with h | h <;> omega
 constructor
 ·intro h16
  cases m with
  | pc ha hs h1' hb' ho => exact absurd h1 h1'
  | cap ha hs h1' hb' ho hi =>
   have := pawn_reach h1 hb'
   omega
  | push ha hs h1' hb' h0b hi => omega
  | dbl ha hs h1' hb' hrow hmid h0b => omega
  | @castle n ho =>
   have hc := I.cs n ho.lt ho.bit
   rw [hc.1, ho.side] at h1
   omega
 ·intro h16; omega
theorem done_end (I : Inv p t c e h f) (m : PL p t c e a b k) (q : List Int) : rf_MoveDone_J3 p t a b (p, t, c, e, h, f) ((geti p a).natAbs : Int) q = some (q, 1 - t, cAft p t c a b, eAft p t a b, hAft p h a b, fAft f t) := by
 have ht := I.tt
 have hb := m.bds I
 have hh := I.hh
 have hf := I.ff
 have hsz := I.sm.2 a hb.1
 have hsg : sgn t = 1 ∨ sgn t = -1 := by rcases sgn_t ht with h | h <;> omega
 have k10 : ∀ (x e' : Int), rf_MoveDone_J10 t (p, t, c, e, h, f) q e' (cAft p t c a b) x = some (q, 1 - t, cAft p t c a b, e', x, fAft f t) := by
  intro x e'
  unfold rf_MoveDone_J10 rf_MoveDone_J11 fAft
  rw [w64_of (x := 1 - t) (by omega)]
  simp only
  rcases ht with rfl | rfl
  ·rw [if_neg (by simp), if_neg (by omega)]
   congr 6
   omega
  ·by_cases h9 : f < 999
   ·rw [if_pos (by simp [h9]), w64_of (by omega), if_neg (by omega)]
   ·rw [if_neg (by simp [h9]), if_pos (by omega)]
    congr 6
    omega
 have k9 : ∀ (e' x : Int), rf_MoveDone_J9 p t b (p, t, c, e, h, f) ((geti p a).natAbs : Int) q e' (cAft p t c a b) x = some (q, 1 - t, cAft p t c a b, e', (if (geti p a).natAbs = 1 ∨ geti p b ≠ 0 then 0 else x), fAft f t) := by
  intro e' x
  unfold rf_MoveDone_J9
  rw [asrt_pos (fun _ => by rw [I.len]; omega), k10, k10]
  by_cases hq : (geti p a).natAbs = 1 ∨ geti p b ≠ 0
  ·rw [if_pos (by simp only [Bool.or_eq_true, beq_iff_eq, bne_iff_ne]; omega), if_pos hq]
  ·rw [if_neg (by simp only [Bool.or_eq_true, beq_iff_eq, bne_iff_ne]; omega), if_neg hq]
 have k5 : ∀ e' : Int, rf_MoveDone_J5 p t a b (p, t, c, e, h, f) ((geti p a).natAbs : Int) q e' = some (q, 1 - t, cAft p t c a b, e', hAft p h a b, fAft f t) := by
  intro e'
  unfold rf_MoveDone_J5
  simp only
  rw [done_loop hsz I.cc, Option.bind_some]
  simp only [rf_MoveDone_K1]
  unfold rf_MoveDone_J6 hAft
  simp only
  rw [w64_of (x := h + 1) (by omega), k9, k9]
  by_cases h9 : (999 : Int) < h + 1
  ·rw [if_pos (decide_eq_true h9)]
   by_cases hq : (geti p a).natAbs = 1 ∨ geti p b ≠ 0
   ·rw [if_pos hq, if_pos hq]
   ·rw [if_neg hq, if_neg hq, if_pos (by omega)]
  ·rw [if_neg (by simpa using h9)]
   by_cases hq : (geti p a).natAbs = 1 ∨ geti p b ≠ 0
   ·rw [if_pos hq, if_pos hq]
   ·rw [if_neg hq, if_neg hq, if_neg (by omega)]
 unfold rf_MoveDone_J3
 rw [k5, k5, w64_of (x := (b : Int) - a) (by omega), size_small (by omega)]
 by_cases h1 : (geti p a).natAbs = 1
 ·have hpf := pawn_far I m h1
  rw [h1]
  simp only [show (((1 : Nat) : Int) == 1) = true from rfl, if_true, Option.bind_some, Bool.true_and]
  unfold eAft
  by_cases h16 : ((b : Int) - a).natAbs = 16
  ·rw [if_pos (by simp [h16]), if_pos ⟨h1, hpf.1 h16⟩]
   have hd := hpf.1 h16
   have : w64 (Int.tdiv (w64 ((a : Int) + b)) 2) = (a : Int) + 8 * sgn t := by
    rw [w64_of (x := (a : Int) + b) (by omega), show (a : Int) + b = ((a + b : Nat) : Int) by omega, show Int.tdiv ((a + b : Nat) : Int) 2 = (((a + b) / 2 : Nat) : Int) from tdiv_nat (a + b) 2, w64_of (by omega)]
    omega
   rw [this]
  ·rw [if_neg (by simp; omega), if_neg (fun q => h16 (hpf.2 q.2))]
 ·have e1 : ((((geti p a).natAbs : Nat) : Int) == 1) = false := by simpa using (by omega : ¬ (((geti p a).natAbs : Nat) : Int) = 1)
  rw [e1]
  simp only [Bool.false_eq_true, if_false, Option.bind_some, Bool.false_and]
  unfold eAft
  rw [if_neg (fun q => h1 q.1)]
theorem done_p (I : Inv p t c e h f) (m : PL p t c e a b k) {k' : Int} (hk' : k' = k ∨ k' = 0) : rf_MoveDone_m p t c e h f a b k' = some (aft p t e a b k', 1 - t, cAft p t c a b, eAft p t a b, hAft p h a b, fAft f t) := by
 have hl := I.len
 have ht := I.tt
 have hb := m.bds I
 have hsg : sgn t = 1 ∨ sgn t = -1 := by rcases sgn_t ht with h | h <;> omega
 have hsa := I.sm.2 a hb.1
 have hkk := ((pl_iff I).1 m).2.2.2.2
 unfold rf_MoveDone_m
 rw [chessOf_p hl, Option.bind_some, sign_t ht, Option.bind_some, asrt_pos (by omega), size_small (by omega), Option.bind_some]
 simp only
 rw [asrt_pos (by omega), asrt_pos (by omega), Int.toNat_natCast, Int.toNat_natCast]
 have k2 : ∀ q, ¬ ((geti p a).natAbs = 6 ∧ ((b : Int) - a).natAbs = 2) → rf_MoveDone_J2 p t a b (p, t, c, e, h, f) ((geti p a).natAbs : Int) q = some (q, 1 - t, cAft p t c a b, eAft p t a b, hAft p h a b, fAft f t) := by
  intro q hn
  unfold rf_MoveDone_J2
  rw [size_small (by omega), Option.bind_some, w64_of (x := (b : Int) - a) (by omega), size_small (by omega), done_end I m]
  by_cases h6 : (geti p a).natAbs = 6
  ·rw [if_pos (by simp [h6]), Option.bind_some, if_neg (by simp only [Bool.and_eq_true, beq_iff_eq]; omega)]
  ·rw [if_neg (by simp; omega), Option.bind_some, if_neg (by simp)]
 by_cases h1 : (geti p a).natAbs = 1
 ·have hn6 : ¬ ((geti p a).natAbs = 6 ∧ ((b : Int) - a).natAbs = 2) := by omega
  have hk5 : k' ≤ 5 := by
   unfold kindsL at hkk
   split at hkk <;> simp only [List.mem_cons, List.not_mem_nil, or_false] at hkk <;> omega
  by_cases hbe : (b : Int) = e
  ·have hb8 : 8 ≤ b ∧ b < 56 := by
    rcases I.ep with he | ⟨b', he, hr, _, _⟩
    ·omega
    ·rcases ht with rfl | rfl <;> omega
   have hk0 : k' = 0 := by
    unfold kindsL at hkk
    rw [if_neg (fun q => q.2 hb8)] at hkk
    simp at hkk
    omega
   have hd64 : 0 ≤ (b : Int) - 8 * sgn t ∧ (b : Int) - 8 * sgn t < 64 := by
    rcases hsg with h | h <;> rw [h] <;> omega
   rw [if_neg (by simp [hk0])]
   unfold rf_MoveDone_J1
   rw [if_pos (by simp [h1, hbe]), w64_of (x := 8 * sgn t) (by omega), w64_of (x := (b : Int) - 8 * sgn t) (by omega)]
   simp only
   rw [asrt_pos (by omega), k2 _ hn6]
   unfold aft
   rw [if_pos h1, if_pos hbe]
  ·have haft : aft p t e a b k' = if 0 < k' then ((p.set a 0).set b (geti p a)).set b (k' * sgn t) else (p.set a 0).set b (geti p a) := by
    unfold aft
    rw [if_pos h1, if_neg hbe]
   rw [haft]
   have hnb : ¬ ((((geti p a).natAbs : Nat) : Int) == 1 && (b : Int) == e) = true := by simp [hbe]
   unfold rf_MoveDone_J1
   by_cases hk : 0 < k'
   ·rw [if_pos (decide_eq_true hk), if_pos hk, asrt_pos (by omega), if_neg hnb, k2 _ hn6, w64_of (by rcases hsg with h | h <;> rw [h] <;> omega), Int.mul_comm]
   ·rw [if_neg (by simpa using hk), if_neg hk, if_neg hnb, k2 _ hn6]
 ·have hk0 : k' = 0 := by
   unfold kindsL at hkk
   rw [if_neg (fun q => h1 q.1)] at hkk
   simp at hkk
   omega
  subst hk0
  rw [if_neg (by decide)]
  unfold rf_MoveDone_J1
  rw [if_neg (by simp; omega)]
  by_cases h62 : (geti p a).natAbs = 6 ∧ ((b : Int) - a).natAbs = 2
  ·obtain ⟨h6, h2⟩ := h62
   have hcast : ∃ n, n < 4 ∧ a = homeK n ∧ b = castTo n := by
    cases m with
    | pc ha hs h1' hb' ho => exact absurd h2 (king_reach h6 hb')
    | cap ha hs h1' hb' ho hi => exact absurd h1' h1
    | push ha hs h1' hb' h0b hi => exact absurd h1' h1
    | dbl ha hs h1' hb' hrow hmid h0b => exact absurd h1' h1
    | @castle n ho => exact ⟨n, ho.lt, rfl, rfl⟩
   have j4 : ∀ (q : List Int) (r md : Nat), q.length = 64 → r < 64 → md < 64 → w64 (Int.tdiv (w64 ((a : Int) + b)) 2) = (md : Int) → rf_MoveDone_J4 p t a b (p, t, c, e, h, f) ((geti p a).natAbs : Int) q (r : Int) = some ((q.set md (geti q (r : Int))).set r 0, 1 - t, cAft p t c a b, eAft p t a b, hAft p h a b, fAft f t) := by
    intro q r md hq hr hmd hmde
    unfold rf_MoveDone_J4
    simp only
    rw [hmde, asrt_pos (by omega), asrt_pos (by omega), asrt_pos (by omega), done_end I m, Int.toNat_natCast, Int.toNat_natCast]
   unfold rf_MoveDone_J2
   rw [size_small (by omega), Option.bind_some, w64_of (x := (b : Int) - a) (by omega), size_small (by omega), if_pos (by simp [h6]), Option.bind_some, if_pos (by simp [h6, h2])]
   have haft : aft p t e a b 0 = (((p.set a 0).set b (geti p a)).set ((a + b) / 2) (geti ((p.set a 0).set b (geti p a)) ((if a < b then a + 3 else a - 4 : Nat) : Int))).set (if a < b then a + 3 else a - 4) 0 := by
    unfold aft
    rw [if_neg h1, if_pos ⟨h6, h2⟩]
   rw [haft]
   have hql : ((p.set a 0).set b (geti p a)).length = 64 := by simp [hl]
   obtain ⟨n, hn, ha', hb'⟩ := hcast
   have hcases : n = 0 ∨ n = 1 ∨ n = 2 ∨ n = 3 := by omega
   rcases hcases with rfl | rfl | rfl | rfl <;> (simp only [homeK, castTo] at ha' hb'; simp at ha' hb'; subst ha' hb')
   ·rw [if_neg (by decide), show w64 (w64 (w64 (Int.tdiv ((4 : Nat) : Int) 8) * 8) + 7) = ((7 : Nat) : Int) by decide]
    exact j4 _ 7 5 hql (by omega) (by omega) (by decide)
   ·rw [if_pos (by decide), show w64 (w64 (Int.tdiv ((4 : Nat) : Int) 8) * 8) = ((0 : Nat) : Int) by decide]
    exact j4 _ 0 3 hql (by omega) (by omega) (by decide)
   ·rw [if_neg (by decide), show w64 (w64 (w64 (Int.tdiv ((60 : Nat) : Int) 8) * 8) + 7) = ((63 : Nat) : Int) by decide]
    exact j4 _ 63 61 hql (by omega) (by omega) (by decide)
   ·rw [if_pos (by decide), show w64 (w64 (Int.tdiv ((60 : Nat) : Int) 8) * 8) = ((56 : Nat) : Int) by decide]
    exact j4 _ 56 59 hql (by omega) (by omega) (by decide)
  ·rw [k2 _ h62]
   unfold aft
   rw [if_neg h1, if_neg h62]
end
end Go.Proofs.Ytkpkkdpfcbnfdaa
namespace Go.Proofs.Ytkpkkdpfcbnfdaa
open Go Go.GL Go.RowKit
section
variable {p : List Int} {t c e h f : Int} {a b : Nat} {k : Int}
theorem mayGo_p (I : Inv p t c e h f) (ha : a < 64) (hb : b < 64) (hs : sideI (geti p a) = t) : rf_mayGo_m p t c e h f a b = some (mayB p t e a b) := by
 have hl := I.len
 have ht := I.tt
 have hsg : sgn t = 1 ∨ sgn t = -1 := by rcases sgn_t ht with h | h <;> omega
 have hsa := I.sm.2 a ha
 have hsb := I.sm.2 b hb
 have hnz : geti p a ≠ 0 := by intro e0; rw [e0] at hs; have : sideI 0 = -1 := rfl; omega
 have hatt : rf_Attacks_m p (a : Int) (b : Int) = some (attB p a b) := attacks_r hl ha hb ⟨hsa, hnz⟩
 unfold rf_mayGo_m
 have wa : w64 (geti p a * sgn t) = geti p a * sgn t := w64_of (by rcases hsg with h | h <;> rw [h] <;> omega)
 have wb : w64 (geti p b * sgn t) = geti p b * sgn t := w64_of (by rcases hsg with h | h <;> rw [h] <;> omega)
 rw [sign_t ht, Option.bind_some, asrt_pos (by omega), asrt_pos (fun _ => by omega), wa, wb]
 unfold mayB
 by_cases h0 : (decide (geti p a * sgn t ≤ 0) || decide (0 < geti p b * sgn t)) = true
 ·rw [if_pos h0, if_pos h0]
 rw [if_neg h0, if_neg h0]
 unfold rf_mayGo_J1
 rw [wa]
 by_cases h1 : geti p a * sgn t = 1
 ·rw [if_neg (by simp [h1]), if_neg (by simp [h1])]
  unfold rf_mayGo_J2
  rw [hatt, Option.bind_some]
  cases hab : attB p a b with
  | true =>
   simp only [if_true]
   rw [asrt_pos (by omega)]
  | false =>
   simp only [Bool.false_eq_true, if_false]
   have hn1 : (geti p a).natAbs = 1 := by rcases hsg with h | h <;> rw [h] at h1 <;> omega
   have hp8 := I.pw a ha hn1
   unfold rf_mayGo_J3
   rw [w64_of (x := 8 * sgn t) (by omega), w64_of (x := (a : Int) + 8 * sgn t) (by omega)]
   by_cases h8 : (b : Int) = a + 8 * sgn t
   ·rw [if_pos (by simp [h8]), if_pos h8, asrt_pos (by omega)]
   ·rw [if_neg (by simpa using h8), if_neg h8]
    have key : ∀ first : Int, first = 1 + 5 * t → rf_mayGo_J5 p a b (sgn t) first = some ((decide (((a / 8 : Nat) : Int) = 1 + 5 * t) && decide ((b : Int) = a + 16 * sgn t)) && ((geti p b == 0) && (geti p ((a : Int) + 8 * sgn t) == 0))) := by
     intro first hfirst
     unfold rf_mayGo_J5
     rw [w64_of (x := 8 * sgn t) (by omega), w64_of (x := (a : Int) + 8 * sgn t) (by omega), w64_of (x := 16 * sgn t) (by omega), w64_of (x := (a : Int) + 16 * sgn t) (by omega), show Int.tdiv (a : Int) 8 = ((a / 8 : Nat) : Int) from tdiv_nat a 8, w64_of (x := ((a / 8 : Nat) : Int)) (by omega), asrt_pos (fun _ => by omega), asrt_pos (fun _ => by omega), hfirst]
     have e1 : (((a / 8 : Nat) : Int) == 1 + 5 * t) = decide (((a / 8 : Nat) : Int) = 1 + 5 * t) := by rw [Bool.eq_iff_iff, beq_iff_eq, decide_eq_true_eq]
     have e2 : ((b : Int) == (a : Int) + 16 * sgn t) = decide ((b : Int) = a + 16 * sgn t) := by rw [Bool.eq_iff_iff, beq_iff_eq, decide_eq_true_eq]
     rw [e1, e2, Bool.and_assoc]
    unfold rf_mayGo_J4
    rcases sgn_t ht with ⟨rfl, hh⟩ | ⟨rfl, hh⟩
    ·rw [if_neg (by rw [hh]; decide), key 1 (by decide)]
    ·rw [if_pos (by rw [hh]; decide), key 6 (by decide)]
 ·rw [if_pos (by simpa using h1), if_pos h1, hatt, Option.bind_some]
theorem seek_all {step : Int → Option (St Int (Fl Unit Int))} {good : Nat → Bool} {cells : List Nat} (hstep : ∀ (i x : Nat), cells[i]? = some x → step (i : Int) = some (if good x = true then .next ((i + 1 : Nat) : Int) else .done (.ret (-1)))) (hend : step (cells.length : Int) = some (.done (.go ()))) :
  loop step 0 = some (if cells.all good = true then .go () else .ret (-1)) := by
 have key : ∀ (r : List Nat) (i : Nat), cells.drop i = r → i + r.length = cells.length → loop step (i : Int) = some (if r.all good = true then .go () else .ret (-1)) := by
  intro r
  induction r with
  | nil =>
   intro i _ hi
   simp only [List.length_nil, Nat.add_zero] at hi
   rw [hi]
   exact loop_done hend
  | cons x r ih =>
   intro i hd hi
   have hx : cells[i]? = some x := by
    have := congrArg (fun l => l[0]?) hd
    simpa using this
   have hd2 : cells.drop (i + 1) = r := by
    have := congrArg List.tail hd
    simpa using this
   have e0 := hstep i x hx
   cases hg : good x with
   | true =>
    rw [hg, if_pos rfl] at e0
    rw [loop_next' e0 (ih (i + 1) hd2 (by simp only [List.length_cons] at hi; omega))]
    simp [hg]
   | false =>
    rw [hg, if_neg (by decide)] at e0
    rw [loop_done e0]
    simp [hg]
 exact key cells 0 (List.drop_zero) (by omega)
theorem castle_r (I : Inv p t c e h f) {n : Nat} (hn : n < 4) : rf_castleTo_m p t c e h f n = some (if castB p t c n = true then (castTo n : Int) else -1) := by
 have ht := I.tt
 have hl := I.len
 unfold rf_castleTo_m
 have hb01 := bit_tab01 I.cc hn
 have hd : w64 (Int.tdiv (n : Int) 2) = ((n / 2 : Nat) : Int) := (rooks_p n hn).2.2
 rw [asrt_pos (by omega), hb01, hd]
 by_cases h0 : (!cbit c n || (((n / 2 : Nat) : Int) != t)) = true
 ·rw [if_pos h0]
  have : castB p t c n = false := by
   unfold castB
   simp only [Bool.or_eq_true, Bool.not_eq_true', bne_iff_ne] at h0
   rcases h0 with h0 | h0
   ·rw [h0]; simp
   ·rw [decide_eq_false h0]; simp
  rw [this]
  rfl
 ·rw [if_neg h0]
  simp only [Bool.or_eq_true, Bool.not_eq_true', bne_iff_ne, not_or, Bool.not_eq_false, Decidable.not_not] at h0
  obtain ⟨hbit, hside⟩ := h0
  have hcb : castB p t c n = ((betw n).all (fun (j : Nat) => geti p j == 0) && (wayC n).all (fun j => (attL p j (1 - t) 64).isEmpty)) := by
   unfold castB
   rw [decide_eq_true hside, hbit]; rfl
  have main : ∀ (bs : List Nat) (K way : Int), geti2 ([([5, 6] : List Int), ([1, 2, 3] : List Int), ([61, 62] : List Int), ([57, 58, 59] : List Int)] : List (List Int)) (n : Int) = bs.map (fun (j : Nat) => (j : Int)) → bs.length ≤ 3 → (∀ j ∈ bs, j < 64) → bs.all (fun (j : Nat) => geti p j == 0) = (betw n).all (fun (j : Nat) => geti p j == 0) →
    geti ([4, 4, 60, 60] : List Int) (n : Int) = K → geti ([1, (-1), 1, (-1)] : List Int) (n : Int) = way → (way = 1 ∨ way = -1) → 0 ≤ K ∧ K ≤ 60 → (∀ (i j : Nat), (wayC n)[i]? = some j → (j : Int) = K + i * way ∧ j < 64) → (wayC n).length = 3 → (castTo n : Int) = K + 2 * way →
    rf_castleTo_J1 p t n = some (if castB p t c n = true then (castTo n : Int) else -1) := by
   intro bs K way hbs hbl hb64 hball hK hway hw hK60 hwc hwl hto
   unfold rf_castleTo_J1
   rw [asrt_pos (by omega), asrt_pos (by omega)]
   have l1 : loop (rf_castleTo_L1 p n) 0 = some (if bs.all (fun (j : Nat) => geti p j == 0) = true then .go () else .ret (-1)) := by
    refine seek_all (fun i x hx => ?_) ?_
    ·have hil := (List.getElem?_eq_some_iff.1 hx).1
     have hx64 := hb64 x (List.mem_of_getElem? hx)
     simp only [rf_castleTo_L1]
     rw [hbs, List.length_map, if_pos (decide_eq_true (by omega))]
     unfold rf_castleTo_J3 rf_castleTo_J4
     have hg : geti (bs.map (fun (j : Nat) => (j : Int))) (i : Int) = (x : Int) := geti_some (by rw [List.getElem?_map, hx]; rfl)
     rw [hbs, hg, List.length_map, asrt_pos (by omega), asrt_pos (by omega), w64_of (by omega)]
     by_cases h0 : geti p (x : Int) = 0
     ·rw [if_neg (by simp [h0]), if_pos (by simp [h0])]; rfl
     ·rw [if_pos (by simpa using h0), if_neg (by simpa using h0)]
    ·simp only [rf_castleTo_L1]
     rw [hbs, List.length_map, if_neg (by simp)]
   rw [l1, Option.bind_some, hcb, hball]
   cases (betw n).all (fun (j : Nat) => geti p j == 0) with
   | false => rfl
   | true =>
    simp only [if_true, Bool.true_and, rf_castleTo_K1]
    unfold rf_castleTo_J2
    rw [asrt_pos (by omega)]
    have l2 : loop (rf_castleTo_L2 p t n) 0 = some (if (wayC n).all (fun j => (attL p j (1 - t) 64).isEmpty) = true then .go () else .ret (-1)) := by
     refine seek_all (fun i x hx => ?_) ?_
     ·have hil := (List.getElem?_eq_some_iff.1 hx).1
      obtain ⟨hxe, hx64⟩ := hwc i x hx
      simp only [rf_castleTo_L2]
      rw [if_pos (decide_eq_true (by omega))]
      unfold rf_castleTo_J6 rf_castleTo_J7
      have hiw : -10 ≤ (i : Int) * way ∧ (i : Int) * way ≤ 10 := by
       have : i = 0 ∨ i = 1 ∨ i = 2 := by omega
       rcases this with rfl | rfl | rfl <;> omega
      rw [hK, hway, w64_of (x := (i : Int) * way) (by omega), w64_of (x := K + (i : Int) * way) (by omega), ← hxe, w64_of (x := 1 - t) (by omega), attackers_r I.sm hx64 (by omega), Option.bind_some, w64_of (x := (i : Int) + 1) (by omega)]
      cases hat : attL p x (1 - t) 64 with
      | nil => rfl
      | cons y r =>
       rw [if_pos (decide_eq_true (by simp only [List.length_cons]; omega))]
       rfl
     ·simp only [rf_castleTo_L2]
      rw [hwl, if_neg (by decide)]
    rw [l2, Option.bind_some]
    cases (wayC n).all (fun j => (attL p j (1 - t) 64).isEmpty) with
    | false => rfl
    | true =>
     simp only [if_true, rf_castleTo_K2]
     unfold rf_castleTo_J5
     rw [hK, hway, w64_of (x := 2 * way) (by omega), w64_of (by omega), hto]
  have hcases : n = 0 ∨ n = 1 ∨ n = 2 ∨ n = 3 := by omega
  have wc : ∀ (x y z : Nat) (K way : Int), (x : Int) = K → (y : Int) = K + way → (z : Int) = K + 2 * way → x < 64 → y < 64 → z < 64 → ∀ (i j : Nat), ([x, y, z] : List Nat)[i]? = some j → (j : Int) = K + i * way ∧ j < 64 := by
   intro x y z K way hx hy hz h1 h2 h3 i j hij
   have hil := (List.getElem?_eq_some_iff.1 hij).1
   simp only [List.length_cons, List.length_nil] at hil
   have : i = 0 ∨ i = 1 ∨ i = 2 := by omega
   rcases this with rfl | rfl | rfl <;> (simp at hij; subst hij; constructor <;> omega)
  rcases hcases with rfl | rfl | rfl | rfl
  ·exact main [5, 6] 4 1 rfl (by decide) (by decide) rfl rfl rfl (by decide) (by decide) (wc 4 5 6 4 1 (by decide) (by decide) (by decide) (by decide) (by decide) (by decide)) rfl rfl
  ·exact main [1, 2, 3] 4 (-1) rfl (by decide) (by decide) (by simp [betw]; rw [Bool.eq_iff_iff]; simp only [Bool.and_eq_true]; exact ⟨fun h => ⟨h.2.2, h.2.1, h.1⟩, fun h => ⟨h.2.2, h.2.1, h.1⟩⟩) rfl rfl (by decide) (by decide) (wc 4 3 2 4 (-1) (by decide) (by decide) (by decide) (by decide) (by decide) (by decide)) rfl rfl
  ·exact main [61, 62] 60 1 rfl (by decide) (by decide) rfl rfl rfl (by decide) (by decide) (wc 60 61 62 60 1 (by decide) (by decide) (by decide) (by decide) (by decide) (by decide)) rfl rfl
  ·exact main [57, 58, 59] 60 (-1) rfl (by decide) (by decide) (by simp [betw]; rw [Bool.eq_iff_iff]; simp only [Bool.and_eq_true]; exact ⟨fun h => ⟨h.2.2, h.2.1, h.1⟩, fun h => ⟨h.2.2, h.2.1, h.1⟩⟩) rfl rfl (by decide) (by decide) (wc 60 59 58 60 (-1) (by decide) (by decide) (by decide) (by decide) (by decide) (by decide)) rfl rfl
theorem ok_loop (I : Inv p t c e h f) (ha : a < 64) (ok : Bool) : loop (rf_MovesAll_L3 p t c e h f a b) (ok, 0) = some (ok || (decide ((geti p a).natAbs = 6) && [0, 1, 2, 3].any (fun n => castB p t c n && decide (castTo n = b)))) := by
 have hsa := I.sm.2 a ha
 by_cases h6 : (geti p a).natAbs = 6
 ·have step : ∀ (n : Nat) (ok : Bool), n < 4 → rf_MovesAll_L3 p t c e h f a b (ok, (n : Int)) = some (.next (ok || (castB p t c n && decide (castTo n = b)), ((n + 1 : Nat) : Int))) := by
   intro n ok hn
   simp only [rf_MovesAll_L3]
   have hd : decide ((n : Int) < 4) = true := decide_eq_true (by omega)
   rw [hd, asrt_pos (fun _ => by rw [I.len]; omega), if_pos rfl, size_small (by omega), Option.bind_some, if_pos (by simp [h6])]
   unfold rf_MovesAll_J8 rf_MovesAll_J9
   rw [castle_r I hn, w64_of (by omega)]
   cases ok with
   | true => rfl
   | false =>
    simp only [Bool.not_false, if_true, Option.bind_some, Bool.false_or]
    congr 4
    cases castB p t c n with
    | true =>
     simp only [if_true, Bool.true_and]
     rw [Bool.eq_iff_iff, beq_iff_eq, decide_eq_true_eq]; omega
    | false =>
     simp only [Bool.false_eq_true, if_false, Bool.false_and]
     rw [Bool.eq_false_iff]; simp
  have e4 : ∀ ok, rf_MovesAll_L3 p t c e h f a b (ok, ((4 : Nat) : Int)) = some (.done ok) := fun ok => by
   simp only [rf_MovesAll_L3]
   have hd : decide (((4 : Nat) : Int) < 4) = false := by decide
   rw [hd, asrt_pos (fun h => by cases h)]
   rfl
  have := loop_next' (step 0 ok (by omega)) (loop_next' (step 1 _ (by omega)) (loop_next' (step 2 _ (by omega)) (loop_next' (step 3 _ (by omega)) (loop_done (e4 _)))))
  rw [show (((0 : Nat) : Int)) = 0 from rfl] at this
  rw [this, decide_eq_true h6]
  congr 1
  simp only [List.any_cons, List.any_nil, Bool.or_false, Bool.true_and, Bool.or_assoc]
 ·rw [decide_eq_false h6]
  refine loop_done ?_
  simp only [rf_MovesAll_L3]
  rw [show decide ((0 : Int) < 4) = true from rfl, asrt_pos (fun _ => by rw [I.len]; omega), if_pos rfl, size_small (by omega), Option.bind_some, if_neg (by simp; omega)]
  simp
theorem safe0 (I : Inv p t c e h f) (m : PL p t c e a b k) : Small (aft p t e a b 0) ∧ ∃ k' : Nat, k' < 64 ∧ geti (aft p t e a b 0) k' = kingV t := by
 have hb := m.bds I
 have hs := next_sm I m
 obtain ⟨k', h1, h2⟩ := next_kg I m t I.tt
 have hk := (h2 k' h1).2 rfl
 have hsg : sgn t = 1 ∨ sgn t = -1 := by rcases sgn_t I.tt with h | h <;> omega
 by_cases hk0 : k = 0
 ·rw [hk0] at hs hk; exact ⟨hs, k', h1, hk⟩
 have hkk := ((pl_iff I).1 m).2.2.2.2
 unfold kindsL at hkk
 split at hkk
 ·rename_i hq
  have hbe : ¬ (b : Int) = e := by
   intro he
   apply hq.2
   rcases I.ep with he' | ⟨b', he', hr, _, _⟩
   ·omega
   ·rcases I.tt with rfl | rfl <;> omega
  have hk25 : 2 ≤ k ∧ k ≤ 5 := by simp only [List.mem_cons, List.not_mem_nil, or_false] at hkk; omega
  have e1 : aft p t e a b k = ((p.set a 0).set b (geti p a)).set b (k * sgn t) := by
   unfold aft
   rw [if_pos hq.1, if_neg hbe, if_pos (by omega)]
  have e2 : aft p t e a b 0 = (p.set a 0).set b (geti p a) := by
   unfold aft
   rw [if_pos hq.1, if_neg hbe, if_neg (by decide)]
  have hl2 : b < ((p.set a 0).set b (geti p a)).length := by simp [I.len]; exact hb.2.1
  have hg : ∀ j : Nat, j ≠ b → geti (aft p t e a b 0) j = geti (aft p t e a b k) j := by
   intro j hj
   rw [e1, e2, geti_set' (i := b) (by omega) hl2, if_neg (by omega)]
  have hgb : geti (aft p t e a b 0) b = geti p a := by rw [e2, set2_get I.len hb.1 hb.2.1, if_pos rfl]
  have hgb' : geti (aft p t e a b k) b = k * sgn t := by rw [e1, geti_set' (by omega) hl2, if_pos rfl]
  have hkb : k' ≠ b := by
   intro h
   rw [h, hgb'] at hk
   have h6 := (kv I.tt).2.2
   rw [← hk] at h6
   rcases hsg with q | q <;> rw [q] at h6 <;> omega
  refine ⟨⟨by rw [aft_len]; exact I.len, fun j hj => ?_⟩, k', h1, by rw [hg k' hkb]; exact hk⟩
  by_cases hjb : j = b
  ·rw [hjb, hgb]; exact I.sm.2 a hb.1
  ·rw [hg j hjb]; exact hs.2 j hj
 ·simp at hkk; exact absurd hkk hk0
theorem to_turn (I : Inv p t c e h f) (ha : a < 64) (hb : b < 64) (hs : sideI (geti p a) = t) {l : List Mv} (hl : l.length ≤ 900000) : rf_MovesAll_L2 p t c e h f a (l, (b : Int)) = some (.next (l ++ refTo p t c e a b, ((b + 1 : Nat) : Int))) := by
 have ht := I.tt
 have hsa := I.sm.2 a ha
 simp only [rf_MovesAll_L2]
 rw [if_pos (decide_eq_true (by omega))]
 unfold rf_MovesAll_J5
 rw [mayGo_p I ha hb hs, Option.bind_some, ok_loop I ha, Option.bind_some]
 simp only [rf_MovesAll_K3]
 have hpl : (mayB p t e a b || (decide ((geti p a).natAbs = 6) && [0, 1, 2, 3].any (fun n => castB p t c n && decide (castTo n = b)))) = plB p t c e a b := rfl
 rw [hpl]
 have hw1 : w64 ((b : Int) + 1) = ((b + 1 : Nat) : Int) := by rw [w64_of (by omega)]; omega
 unfold rf_MovesAll_J7 refTo
 cases hq : plB p t c e a b with
 | false =>
  simp only [Bool.not_false, if_true, Bool.not_true, Bool.false_eq_true, if_false, Option.bind_some, Bool.true_or, Bool.false_and]
  unfold rf_MovesAll_J11 rf_MovesAll_J6
  rw [if_pos rfl, hw1]
  simp
 | true =>
  simp only [Bool.not_true, Bool.false_eq_true, if_false, Bool.not_false, if_true, Bool.true_and, Bool.false_or]
  obtain ⟨k, m⟩ : ∃ k, PL p t c e a b k := by
   have : ∃ k, k ∈ kindsL p a b := by unfold kindsL; split <;> exact ⟨_, List.mem_cons_self⟩
   obtain ⟨k, hk⟩ := this
   exact ⟨k, (pl_iff I).2 ⟨ha, hb, hs, hq, hk⟩⟩
  have h0 := safe0 I m
  rw [done_p I m (.inr rfl), Option.bind_some]
  simp only
  rw [(check_both h0.1 ht h0.2).2, Option.bind_some]
  unfold rf_MovesAll_J11 rf_MovesAll_J10 rf_MovesAll_J6
  cases hc : inChk (aft p t e a b 0) t with
  | true =>
   rw [if_pos rfl, hw1]
   simp
  | false =>
   rw [if_neg (by decide), asrt_pos (by rw [I.len]; omega), size_small (by omega), Option.bind_some, hw1]
   simp only [Bool.not_false, if_true]
   unfold kindsL
   by_cases hk : (geti p a).natAbs = 1 ∧ ¬ (8 ≤ b ∧ b < 56)
   ·rw [if_pos hk, if_pos (by simp only [Bool.and_eq_true, Bool.or_eq_true, beq_iff_eq, decide_eq_true_eq]; omega)]
    have step : ∀ (l : List Mv) (k : Int), l.length ≤ 999999 → 2 ≤ k → k ≤ 5 → rf_MovesAll_L4 a b (l, k) = some (.next (l ++ [mv a b k], k + 1)) := by
     intro l k hl hk2 hk5
     simp only [rf_MovesAll_L4]
     rw [if_pos (decide_eq_true hk5)]
     unfold rf_MovesAll_J12 rf_MovesAll_J13
     rw [asrt_pos (by unfold bigT; omega), w64_of (by omega)]
     rfl
    have s5 : ∀ l, rf_MovesAll_L4 a b (l, 6) = some (.done l) := fun l => by
     simp only [rf_MovesAll_L4]
     exact if_neg (by decide)
    have s1 := step l 2 (by omega) (by omega) (by omega)
    have s2 := step (l ++ [mv a b 2]) 3 (by simp; omega) (by omega) (by omega)
    have s3 := step (l ++ [mv a b 2] ++ [mv a b 3]) 4 (by simp; omega) (by omega) (by omega)
    have s4 := step (l ++ [mv a b 2] ++ [mv a b 3] ++ [mv a b 4]) 5 (by simp; omega) (by omega) (by omega)
    rw [loop_next' s1 (loop_next' s2 (loop_next' s3 (loop_next' s4 (loop_done (s5 _))))), Option.bind_some]
    simp only [rf_MovesAll_K4]
    unfold rf_MovesAll_J6
    rw [hw1]
    simp
   ·rw [if_neg hk, if_neg (by simp only [Bool.and_eq_true, Bool.or_eq_true, beq_iff_eq, decide_eq_true_eq]; omega), asrt_pos (by unfold bigT; omega)]
    rfl
theorem refTo_len (p : List Int) (t c e : Int) (a b : Nat) : (refTo p t c e a b).length ≤ 4 := by
 unfold refTo
 split
 ·rw [List.length_map]; unfold kindsL; split <;> decide
 ·simp
theorem all_p (I : Inv p t c e h f) : rf_MovesAll_m p t c e h f = some (refL p t c e) := by
 have ht := I.tt
 unfold rf_MovesAll_m
 let g := fun (a : Nat) => if sideI (geti p a) ≠ t then [] else (List.range 64).flatMap (refTo p t c e a)
 have hg : ∀ a, (g a).length ≤ 256 := by
  intro a
  show (if sideI (geti p a) ≠ t then [] else (List.range 64).flatMap (refTo p t c e a)).length ≤ 256
  split
  ·simp
  ·have := flatMap_len_le (n := 4) (g := refTo p t c e a) (List.range 64) (fun x _ => refTo_len p t c e a x)
   simpa using this
 have hgl : ∀ n, ((List.range n).flatMap g).length ≤ 256 * n := by
  intro n
  have := flatMap_len_le (n := 256) (g := g) (List.range n) (fun x _ => hg x)
  simpa using this
 have turn : ∀ (a : Nat) (l : List Mv), a < 64 → l.length ≤ 800000 → rf_MovesAll_L1 p t c e h f (l, (a : Int)) = some (.next (l ++ g a, ((a + 1 : Nat) : Int))) := by
  intro a l ha hl
  simp only [rf_MovesAll_L1]
  rw [if_pos (decide_eq_true (by omega))]
  unfold rf_MovesAll_J2 rf_MovesAll_J3
  have hw1 : w64 ((a : Int) + 1) = ((a + 1 : Nat) : Int) := by rw [w64_of (by omega)]; omega
  rw [asrt_pos (by rw [I.len]; omega), sideR_eq, Option.bind_some, hw1]
  have hgd : g a = if sideI (geti p a) ≠ t then [] else (List.range 64).flatMap (refTo p t c e a) := rfl
  rw [hgd]
  by_cases hs : sideI (geti p a) = t
  ·rw [if_neg (by simpa using hs), if_neg (by simpa using hs)]
   unfold rf_MovesAll_J4
   have hin : loop (rf_MovesAll_L2 p t c e h f a) (l, 0) = some (l ++ (List.range 64).flatMap (refTo p t c e a)) := by
    refine loop_from (fun n : Nat => (l ++ (List.range n).flatMap (refTo p t c e a), (n : Int))) 64 (by simp) (fun i hi => ?_) ?_
    ·have q := flatMap_len_le (n := 4) (g := refTo p t c e a) (List.range i) (fun x _ => refTo_len p t c e a x)
     simp only [List.length_range] at q
     rw [to_turn I ha hi hs (by rw [List.length_append]; omega), List.range_succ, List.flatMap_append]
     simp
    ·simp only [rf_MovesAll_L2]
     exact if_neg (by decide)
   rw [hin, Option.bind_some]
   simp only [rf_MovesAll_K2]
   unfold rf_MovesAll_J3
   rw [hw1]
  ·rw [if_pos (by simpa using hs), if_pos hs]
   simp
 have hout : loop (rf_MovesAll_L1 p t c e h f) ([], 0) = some ((List.range 64).flatMap g) := by
  refine loop_from (fun n : Nat => ((List.range n).flatMap g, (n : Int))) 64 (by simp) (fun i hi => ?_) ?_
  ·have q := hgl i
   rw [turn i _ hi (by omega), List.range_succ, List.flatMap_append]
   simp
  ·simp only [rf_MovesAll_L1]
   exact if_neg (by decide)
 rw [hout, Option.bind_some]
 rfl
theorem ref_pl (I : Inv p t c e h f) {m : Mv} (hm : m ∈ refL p t c e) : ∃ a b k, m = mv a b k ∧ PL p t c e a b k ∧ inChk (aft p t e a b k) t = false := by
 obtain ⟨a, b, k, rfl, m, hs⟩ := (refL_mem I).1 hm
 exact ⟨a, b, k, rfl, m, by rw [safe_into I m]; exact hs⟩
end
end Go.Proofs.Ytkpkkdpfcbnfdaa
