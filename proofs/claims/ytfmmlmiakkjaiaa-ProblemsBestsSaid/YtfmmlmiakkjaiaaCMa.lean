import Derived.Test.YtfmmlmiakkjaiaaCAc
namespace Go.Proofs.Ytfmmlmiakkjaiaa
open Go Go.GL Go.RowKit
def cutR (p : List Int) (one : Bool) : List Nat → List Nat
 | [] => []
 | j :: r => j :: (if geti p j ≠ 0 ∨ one = true then [] else cutR p one r)
def reachL (p : List Int) (i : Nat) : List Nat :=
 if (geti p i).natAbs = 0 then [] else
 if (geti p i).natAbs = 1 then (mvO i (-1) (geti p i)).toList ++ (mvO i 1 (geti p i)).toList
 else (stepsL ((geti p i).natAbs : Int)).flatMap fun s => cutR p (oneK ((geti p i).natAbs : Int)) (ray 8 i s.1 s.2)
def ydRun {S : Type} (yd : Int → S → Option (S × Bool)) : List Nat → S → Option (Fl S S)
 | [], s => some (.go s)
 | x :: r, s => (yd (x : Int) s).bind fun q => if q.2 = true then ydRun yd r q.1 else some (.ret q.1)
def flV {S : Type} : Fl S S → S
 | .go s => s
 | .ret s => s
theorem ydRun_app {S : Type} {yd : Int → S → Option (S × Bool)} : ∀ {a b : List Nat} {s : S} {r : Fl S S}, ydRun yd (a ++ b) s = some r →
  (∃ s', ydRun yd a s = some (.go s') ∧ ydRun yd b s' = some r) ∨ (∃ s', r = .ret s' ∧ ydRun yd a s = some (.ret s'))
 | [], _, s, _, h => .inl ⟨s, rfl, h⟩
 | x :: a, b, s, r, h => by
  have h : ((yd (x : Int) s).bind fun q => if q.2 = true then ydRun yd (a ++ b) q.1 else some (.ret q.1)) = some r := h
  have e : ydRun yd (x :: a) s = ((yd (x : Int) s).bind fun q => if q.2 = true then ydRun yd a q.1 else some (.ret q.1)) := rfl
  rw [e]
  cases hq : yd (x : Int) s with
  | none => rw [hq] at h; simp at h
  | some q =>
   rw [hq, Option.bind_some] at h
   rw [Option.bind_some]
   cases h2 : q.2 with
   | true =>
    rw [h2, if_pos rfl] at h
    rw [if_pos rfl]
    exact ydRun_app h
   | false =>
    rw [h2, if_neg (by decide)] at h
    rw [if_neg (by decide)]
    injection h with h
    exact .inr ⟨_, h.symm, rfl⟩
section
variable {S : Type} {yd : Int → S → Option (S × Bool)} {p : List Int} {i : Nat}
theorem line_run (hp : p.length = 64) (k : Int) {r6 : List (Int × Int)} {z : Nat} {s : Int × Int} (hz : r6[z]? = some s) (hs : s ∈ dirs ++ hops) : ∀ (n : Nat) (j : Nat) (st : S) (r : Fl S S), j < 64 → (ray n j s.1 s.2).length < n →
  ydRun yd (cutR p (oneK k) (ray n j s.1 s.2)) st = some r → loop (board_Reach_1_L3 yd p k r6 z) (st, encO (mvO j s.1 s.2)) = some r
 | 0, _, _, _, _, h, _ => by simp at h
 | n + 1, j, st, r, hj, h, hr => by
  cases hm : mvO j s.1 s.2 with
  | none =>
   rw [ray_none hm] at hr
   have hr : some (Fl.go st) = some r := hr
   injection hr with hr
   subst hr
   refine loop_done ?_
   simp only [board_Reach_1_L3]
   rw [encN, if_neg (by decide)]
  | some q =>
   rw [ray_some hm] at h hr
   have hq := (mvO_bd hm).1
   have hr : ((yd (q : Int) st).bind fun u => if u.2 = true then ydRun yd (if geti p q ≠ 0 ∨ oneK k = true then [] else cutR p (oneK k) (ray n q s.1 s.2)) u.1 else some (.ret u.1)) = some r := hr
   rw [encS]
   have e0 : board_Reach_1_L3 yd p k r6 z (st, (q : Int)) = board_Reach_1_J7 yd p k r6 z st q := by
    simp only [board_Reach_1_L3]
    exact if_pos (decide_eq_true (by omega))
   unfold board_Reach_1_J7 at e0
   cases hy : yd (q : Int) st with
   | none => rw [hy] at hr; simp at hr
   | some u =>
    rw [hy, Option.bind_some] at hr e0
    cases h2 : u.2 with
    | false =>
     rw [h2, if_neg (by decide)] at hr
     rw [h2] at e0
     simp only [Bool.not_false, if_true] at e0
     rw [loop_done e0, hr]
    | true =>
     rw [h2, if_pos rfl] at hr
     rw [h2] at e0
     simp only [Bool.not_true, Bool.false_eq_true, if_false] at e0
     unfold board_Reach_1_J9 at e0
     rw [asrt_pos (by omega)] at e0
     by_cases hc : geti p q ≠ 0 ∨ oneK k = true
     ·rw [if_pos (by
       unfold oneK at hc
       simp only [Bool.or_eq_true, bne_iff_ne, beq_iff_eq] at hc ⊢
       rcases hc with h | h | h
       ·exact .inl (.inl h)
       ·exact .inl (.inr h)
       ·exact .inr h)] at e0
      rw [if_pos hc] at hr
      rw [loop_done e0, ← hr]
      rfl
     ·rw [if_neg (by
       unfold oneK at hc
       simp only [Bool.or_eq_true, bne_iff_ne, beq_iff_eq] at hc ⊢
       intro h
       apply hc
       rcases h with (h | h) | h
       ·exact .inl h
       ·exact .inr (.inl h)
       ·exact .inr (.inr h))] at e0
      unfold board_Reach_1_J8 at e0
      rw [getd_some hz, mv_p hq hs, Option.bind_some] at e0
      rw [if_neg hc] at hr
      exact loop_next' e0 (line_run hp k hz hs n q u.1 r hq (by simp only [List.length_cons] at h; omega) hr)
theorem steps_run (hp : p.length = 64) (hi : i < 64) (k : Int) : ∀ (ss : List (Int × Int)) (z : Nat) (st : S) (r : Fl S S), (stepsL k).drop z = ss →
  ydRun yd (ss.flatMap fun s => cutR p (oneK k) (ray 8 i s.1 s.2)) st = some r → loop (board_Reach_1_L2 yd p i k (stepsL k)) (st, (z : Int)) = some r
 | [], z, st, r, hd, hr => by
  have hz : (stepsL k).length ≤ z := by have := congrArg List.length hd; rw [List.length_drop] at this; simp at this; omega
  have hr : some (Fl.go st) = some r := hr
  injection hr with hr
  subst hr
  refine loop_done ?_
  simp only [board_Reach_1_L2]
  rw [if_neg (by simp; omega)]
 | s :: ss, z, st, r, hd, hr => by
  have hz : (stepsL k)[z]? = some s := by
   have := congrArg (fun l => l[0]?) hd
   simpa using this
  have hd2 : (stepsL k).drop (z + 1) = ss := by
   have := congrArg List.tail hd
   simpa using this
  have hzl := (List.getElem?_eq_some_iff.1 hz).1
  have hsl := steps_len k
  have hsm := steps_in (List.mem_of_getElem? hz)
  rw [List.flatMap_cons] at hr
  have e0 : board_Reach_1_L2 yd p i k (stepsL k) (st, (z : Int)) = board_Reach_1_J5 yd p i k (stepsL k) st z := by
   simp only [board_Reach_1_L2]
   exact if_pos (decide_eq_true (by omega))
  unfold board_Reach_1_J5 at e0
  have hg : getd ((0, 0) : Int × Int) (stepsL k) (z : Int) = s := getd_some hz
  rw [asrt_pos (by omega), hg, mv_p hi hsm, Option.bind_some] at e0
  rcases ydRun_app hr with ⟨s', h1, h2⟩ | ⟨s', rfl, h1⟩
  ·rw [line_run hp k hz hsm 8 i st _ hi (ray_short hi hsm) h1, Option.bind_some] at e0
   refine loop_next' (s' := (s', ((z + 1 : Nat) : Int))) (e0.trans ?_) (steps_run hp hi k ss (z + 1) s' r hd2 h2)
   simp only [board_Reach_1_K3, board_Reach_1_J6]
   rw [w64_of (by omega)]
   rfl
  ·rw [line_run hp k hz hsm 8 i st _ hi (ray_short hi hsm) h1, Option.bind_some] at e0
   exact loop_done e0
theorem reach_run (hp : p.length = 64) (hi : i < 64) (hx : -6 ≤ geti p i ∧ geti p i ≤ 6) {st : S} {r : Fl S S} (hr : ydRun yd (reachL p i) st = some r) : board_Reach_1_m yd st p (i : Int) = some (flV r) := by
 unfold board_Reach_1_m
 rw [asrt_pos (by omega), kind_small hx, Option.bind_some]
 unfold reachL at hr
 by_cases h0 : (geti p i).natAbs = 0
 ·rw [if_pos h0] at hr
  have hr : some (Fl.go st) = some r := hr
  injection hr with hr
  subst hr
  rw [if_pos (by simp [h0])]
  rfl
 rw [if_neg h0] at hr
 rw [if_neg (by simp; omega)]
 by_cases h1 : (geti p i).natAbs = 1
 ·rw [if_pos h1] at hr
  rw [if_pos (by simp [h1])]
  have hs : sideI (geti p i) = 0 ∧ geti p i = 1 ∨ sideI (geti p i) = 1 ∧ geti p i = -1 := by
   unfold sideI
   have : geti p i = 1 ∨ geti p i = -1 := by omega
   rcases this with h | h <;> rw [h] <;> decide
  have step : ∀ (z : Nat) (c : Int) (st : S) (r : Fl S S), z < 2 → geti ([-1, 1] : List Int) (z : Int) = c → (c, geti p i) ∈ dirs ++ hops → ydRun yd (mvO i c (geti p i)).toList st = some r → board_Reach_1_L1 yd p i (st, (z : Int)) = some (match r with | .go s => .next (s, ((z + 1 : Nat) : Int)) | .ret s => .done (.ret s)) := by
   intro z c st r hz hc hd hr
   simp only [board_Reach_1_L1]
   rw [if_pos (decide_eq_true (by omega))]
   unfold board_Reach_1_J2 board_Reach_1_J4 board_Reach_1_J3
   rw [asrt_pos (by omega), side_eq, Option.bind_some, forward_small (by unfold sideI; split <;> (try split) <;> omega), Option.bind_some, hc]
   have e : (1 - 2 * sideI (geti p i)) = geti p i := by
    rcases hs with ⟨h2, h3⟩ | ⟨h2, h3⟩ <;> rw [h2, h3] <;> rfl
   rw [e, mv_p hi hd, Option.bind_some, w64_of (by omega)]
   cases hm : mvO i c (geti p i) with
   | none =>
    rw [hm] at hr
    have hr : some (Fl.go st) = some r := hr
    injection hr with hr
    subst hr
    rw [encN]
    simp
   | some q =>
    rw [hm] at hr
    have hr : ((yd (q : Int) st).bind fun u => if u.2 = true then some (Fl.go u.1) else some (.ret u.1)) = some r := hr
    have hd : decide ((0 : Int) ≤ (q : Int)) = true := decide_eq_true (by omega)
    rw [encS, hd, if_pos rfl]
    cases hy : yd (q : Int) st with
    | none => rw [hy] at hr; simp at hr
    | some u =>
     rw [hy, Option.bind_some] at hr
     rw [Option.bind_some]
     cases h2 : u.2 with
     | false =>
      rw [h2, if_neg (by decide)] at hr
      injection hr with hr
      subst hr
      simp
     | true =>
      rw [h2, if_pos rfl] at hr
      injection hr with hr
      subst hr
      simp
  have d1 : ((-1 : Int), geti p i) ∈ dirs ++ hops ∧ ((1 : Int), geti p i) ∈ dirs ++ hops := by
   rcases hs with ⟨h2, h3⟩ | ⟨h2, h3⟩ <;> rw [h3] <;> decide
  rcases ydRun_app hr with ⟨s', h2, h3⟩ | ⟨s', rfl, h2⟩
  ·have s0 := step 0 (-1) st _ (by omega) rfl d1.1 h2
   have s1 := step 1 1 s' _ (by omega) rfl d1.2 h3
   cases r with
   | go s2 =>
    have s2' : board_Reach_1_L1 yd p i (s2, ((2 : Nat) : Int)) = some (.done (.go s2)) := by
     simp only [board_Reach_1_L1]
     exact if_neg (by decide)
    have h := loop_next' s0 (loop_next' s1 (loop_done s2'))
    rw [show (((0 : Nat) : Int)) = 0 from rfl] at h
    rw [h, Option.bind_some]
    rfl
   | ret s2 =>
    have h := loop_next' s0 (loop_done s1)
    rw [show (((0 : Nat) : Int)) = 0 from rfl] at h
    rw [h, Option.bind_some]
    rfl
  ·have s0 := step 0 (-1) st _ (by omega) rfl d1.1 h2
   have h := loop_done s0
   rw [show (((0 : Nat) : Int)) = 0 from rfl] at h
   rw [h, Option.bind_some]
   rfl
 ·rw [if_neg h1] at hr
  rw [if_neg (by simp; omega), steps_p, Option.bind_some]
  have h := steps_run (yd := yd) hp hi _ _ 0 st r (List.drop_zero) hr
  rw [show (((0 : Nat) : Int)) = 0 from rfl] at h
  rw [h, Option.bind_some]
  cases r <;> rfl
end
theorem scan_cut {p : List Int} {one : Bool} {t : Nat} : ∀ {r : List Nat}, scan p one t r = true ↔ t ∈ cutR p one r
 | [] => by simp [scan, cutR]
 | j :: r => by
  rw [scan_cons]
  unfold cutR
  by_cases h : j = t
  ·rw [if_pos h]; simp [h]
  ·rw [if_neg h]
   by_cases hc : geti p j ≠ 0 ∨ one = true
   ·rw [if_pos hc, if_pos hc]; simp [Ne.symm h]
   ·rw [if_neg hc, if_neg hc, scan_cut (r := r)]
    simp [Ne.symm h]
theorem reach_att {p : List Int} {i t : Nat} (h0 : geti p i ≠ 0) : t ∈ reachL p i ↔ attB p i t = true := by
 unfold reachL attB
 rw [if_neg (by omega)]
 by_cases h1 : (geti p i).natAbs = 1
 ·rw [if_pos h1, if_pos h1]
  simp
 ·rw [if_neg h1, if_neg h1, List.mem_flatMap, List.any_eq_true]
  constructor
  ·rintro ⟨s, hs, h⟩; exact ⟨s, hs, scan_cut.2 h⟩
  ·rintro ⟨s, hs, h⟩; exact ⟨s, hs, scan_cut.1 h⟩
theorem cut_sub (p : List Int) (one : Bool) : ∀ r : List Nat, (cutR p one r).Sublist r
 | [] => List.Sublist.slnil
 | j :: r => by
  unfold cutR
  refine List.Sublist.cons_cons _ ?_
  split
  ·exact List.nil_sublist _
  ·exact cut_sub p one r
theorem flatMap_sub {α : Type} {f g : α → List Nat} (h : ∀ a, (f a).Sublist (g a)) : ∀ l : List α, (l.flatMap f).Sublist (l.flatMap g)
 | [] => List.Sublist.slnil
 | a :: l => by rw [List.flatMap_cons, List.flatMap_cons]; exact (h a).append (flatMap_sub h l)
theorem rays_nodup : ((List.range 64).all fun i => decide ((dirs.flatMap fun s => ray 8 i s.1 s.2).Nodup) && (decide ((hops.flatMap fun s => (ray 8 i s.1 s.2).take 1).Nodup) && (decide (((dirs.take 4).flatMap fun s => ray 8 i s.1 s.2).Nodup) && (decide (((dirs.drop 4).flatMap fun s => ray 8 i s.1 s.2).Nodup))))) = true := by decide +kernel
theorem cut_one (p : List Int) (r : List Nat) : cutR p true r = r.take 1 := by
 cases r with
 | nil => rfl
 | cons j r => unfold cutR; rw [if_pos (.inr rfl)]; rfl
theorem mvO_ne {i : Nat} {q q' : Nat} {s : Int} (h : mvO i (-1) s = some q) (h' : mvO i 1 s = some q') : q ≠ q' := by
 have h1 := (mvO_bd h).2.2.1
 have h2 := (mvO_bd h').2.2.1
 intro e
 subst e
 omega
theorem reach_nodup (p : List Int) {i : Nat} (hi : i < 64) : (reachL p i).Nodup := by
 unfold reachL
 split
 ·exact List.nodup_nil
 split
 ·cases h : mvO i (-1) (geti p i) with
  | none => cases h' : mvO i 1 (geti p i) <;> simp
  | some q =>
   cases h' : mvO i 1 (geti p i) with
   | none => simp
   | some q' => simpa using mvO_ne h h'
 ·have hr := List.all_eq_true.1 rays_nodup i (List.mem_range.2 hi)
  simp only [Bool.and_eq_true, decide_eq_true_eq] at hr
  generalize hk : ((geti p i).natAbs : Int) = k
  unfold stepsL
  split
  ·rename_i h2
   have h2 : k = 2 := by simpa using h2
   subst h2
   have e : (fun s : Int × Int => cutR p (oneK 2) (ray 8 i s.1 s.2)) = fun s => (ray 8 i s.1 s.2).take 1 := by
    funext s; exact cut_one p _
   rw [e]; exact hr.2.1
  ·split
   ·exact hr.2.2.1.sublist (flatMap_sub (fun s => cut_sub p _ _) _)
   ·split
    ·exact hr.2.2.2.sublist (flatMap_sub (fun s => cut_sub p _ _) _)
    ·exact hr.1.sublist (flatMap_sub (fun s => cut_sub p _ _) _)
theorem ray_lt {n i j : Nat} {sx sy : Int} : j ∈ ray n i sx sy → j < 64 := by
 induction n generalizing i with
 | zero => intro h; simp [ray] at h
 | succ n ih =>
  cases hm : mvO i sx sy with
  | none => rw [ray_none hm]; intro h; simp at h
  | some q =>
   rw [ray_some hm]
   intro h
   rcases List.mem_cons.1 h with rfl | h
   ·exact (mvO_bd hm).1
   ·exact ih h
theorem reach_lt {p : List Int} {i t : Nat} (h : t ∈ reachL p i) : t < 64 := by
 unfold reachL at h
 split at h
 ·simp at h
 split at h
 ·rcases List.mem_append.1 h with h | h
  ·exact (mvO_bd (Option.mem_toList.1 h)).1
  ·exact (mvO_bd (Option.mem_toList.1 h)).1
 ·obtain ⟨s, _, h⟩ := List.mem_flatMap.1 h
  exact ray_lt ((cut_sub p _ _).subset h)
end Go.Proofs.Ytfmmlmiakkjaiaa
