import Derived.Test.YtfmmlmiakkjaiaaCMb
namespace Go.Proofs.Ytfmmlmiakkjaiaa
open Go Go.GL Go.RowKit
def clr (c : Int) (n : Nat) (l : Bool) : Int := if (l && cbit c n) = true then c - 2 ^ n else c
def clr4 (c : Int) (l0 l1 l2 l3 : Bool) : Int := clr (clr (clr (clr c 0 l0) 1 l1) 2 l2) 3 l3
theorem clr_tab : ((List.range 16).all fun c => [false, true].all fun l0 => [false, true].all fun l1 => [false, true].all fun l2 => [false, true].all fun l3 =>
  decide (0 ≤ clr4 (c : Int) l0 l1 l2 l3 ∧ clr4 (c : Int) l0 l1 l2 l3 ≤ 15) && ((cbit (clr4 (c : Int) l0 l1 l2 l3) 0 == (cbit c 0 && !l0)) && ((cbit (clr4 (c : Int) l0 l1 l2 l3) 1 == (cbit c 1 && !l1)) && ((cbit (clr4 (c : Int) l0 l1 l2 l3) 2 == (cbit c 2 && !l2)) && (cbit (clr4 (c : Int) l0 l1 l2 l3) 3 == (cbit c 3 && !l3)))))) = true := by decide +kernel
theorem clr4_p {c : Int} (hc : 0 ≤ c ∧ c ≤ 15) (l : Nat → Bool) : (0 ≤ clr4 c (l 0) (l 1) (l 2) (l 3) ∧ clr4 c (l 0) (l 1) (l 2) (l 3) ≤ 15) ∧ ∀ n, n < 4 → cbit (clr4 c (l 0) (l 1) (l 2) (l 3)) n = (cbit c n && !l n) := by
 have bm : ∀ x : Bool, x ∈ [false, true] := fun x => by cases x <;> simp
 have h := List.all_eq_true.1 clr_tab c.toNat (List.mem_range.2 (by omega))
 have h := List.all_eq_true.1 h (l 0) (bm _)
 have h := List.all_eq_true.1 h (l 1) (bm _)
 have h := List.all_eq_true.1 h (l 2) (bm _)
 have h := List.all_eq_true.1 h (l 3) (bm _)
 rw [show ((c.toNat : Nat) : Int) = c by omega] at h
 simp only [Bool.and_eq_true, decide_eq_true_eq, beq_iff_eq] at h
 refine ⟨h.1, fun n hn => ?_⟩
 have : n = 0 ∨ n = 1 ∨ n = 2 ∨ n = 3 := by omega
 rcases this with rfl | rfl | rfl | rfl
 ·exact h.2.1
 ·exact h.2.2.1
 ·exact h.2.2.2.1
 ·exact h.2.2.2.2
def lost (p : List Int) (t : Int) (a b n : Nat) : Bool := decide ((geti p a).natAbs = 6 ∧ ((n / 2 : Nat) : Int) = t) || (decide (a = homeR n) || decide (b = homeR n))
def cAft (p : List Int) (t c : Int) (a b : Nat) : Int := clr4 c (lost p t a b 0) (lost p t a b 1) (lost p t a b 2) (lost p t a b 3)
def eAft (p : List Int) (t : Int) (a b : Nat) : Int := if (geti p a).natAbs = 1 ∧ (b : Int) - a = 16 * sgn t then (a : Int) + 8 * sgn t else -1
def hAft (p : List Int) (h : Int) (a b : Nat) : Int := if (geti p a).natAbs = 1 ∨ geti p b ≠ 0 then 0 else if h + 1 > 999 then 999 else h + 1
def fAft (f t : Int) : Int := if f + t > 999 then 999 else f + t
theorem kv {s : Int} (h : s = 0 ∨ s = 1) : kingV s = 6 * sgn s ∧ sideI (kingV s) = s ∧ (kingV s).natAbs = 6 := by
 rcases h with rfl | rfl <;> decide
section
variable {p : List Int} {t c e h f : Int} {a b : Nat} {k : Int}
theorem PL.bds (I : Inv p t c e h f) (m : PL p t c e a b k) : a < 64 ∧ b < 64 ∧ sideI (geti p a) = t ∧ a ≠ b ∧ sideI (geti p b) ≠ t := by
 have ht := I.tt
 cases m with
 | pc ha hs h1 hb ho => exact ⟨ha, reach_lt hb, hs, fun e => ho (by rw [← e]; exact hs), ho⟩
 | cap ha hs h1 hb ho hi =>
  refine ⟨ha, reach_lt hb, hs, ?_⟩
  have : sideI (geti p b) ≠ t := by
   rcases ho with ho | ho
   ·omega
   ·rcases I.ep with he | ⟨b', he, _, h0, _⟩
    ·omega
    ·have : b' = b := by omega
     subst this
     rw [h0]
     have : sideI 0 = -1 := rfl
     omega
  exact ⟨fun e => this (by rw [← e]; exact hs), this⟩
 | push ha hs h1 hb h0b hi =>
  have hpw := I.pw a ha h1
  have : sideI (geti p b) ≠ t := by
   rw [h0b]
   have : sideI 0 = -1 := rfl
   omega
  refine ⟨ha, ?_, hs, fun e => this (by rw [← e]; exact hs), this⟩
  rcases sgn_t ht with ⟨rfl, h⟩ | ⟨rfl, h⟩ <;> rw [h] at hb <;> omega
 | dbl ha hs h1 hb hrow hmid h0b =>
  have hpw := I.pw a ha h1
  have : sideI (geti p b) ≠ t := by
   rw [h0b]
   have : sideI 0 = -1 := rfl
   omega
  refine ⟨ha, ?_, hs, fun e => this (by rw [← e]; exact hs), this⟩
  rcases sgn_t ht with ⟨rfl, h⟩ | ⟨rfl, h⟩ <;> rw [h] at hb <;> omega
 | @castle n ho =>
  have hc := I.cs n ho.lt ho.bit
  rw [ho.side] at hc
  have h0 : geti p (castTo n) = 0 := by
   have := ho.lt
   have hcases : n = 0 ∨ n = 1 ∨ n = 2 ∨ n = 3 := by omega
   refine ho.free _ ?_
   rcases hcases with rfl | rfl | rfl | rfl <;> decide
  have hs : sideI (geti p (homeK n)) = t := by
   rw [hc.1, ← (kv ht).1]; exact (kv ht).2.1
  have : sideI (geti p (castTo n)) ≠ t := by
   rw [h0]
   have : sideI 0 = -1 := rfl
   omega
  refine ⟨by unfold homeK; split <;> omega, by unfold castTo; split <;> (try split) <;> (try split) <;> omega, hs, fun e => this (by rw [← e]; exact hs), this⟩
theorem eAft_dbl (I : Inv p t c e h f) (m : PL p t c e a b k) (h1 : (geti p a).natAbs = 1) (h16 : (b : Int) - a = 16 * sgn t) : geti p ((a : Int) + 8 * sgn t) = 0 ∧ ((a / 8 : Nat) : Int) = 1 + 5 * t ∧ k = 0 ∧ ¬ (b : Int) = e := by
 have ht := I.tt
 have hsg : sgn t = 1 ∨ sgn t = -1 := by rcases sgn_t ht with h | h <;> omega
 cases m with
 | pc ha hs h1' hb ho => exact absurd h1 h1'
 | cap ha hs h1 hb ho hi =>
  have hpr := pawn_reach h1 hb
  have hv := pawn_val ht hs h1
  omega
 | push ha hs h1 hb h0b hi => omega
 | dbl ha hs h1 hb hrow hmid h0b =>
  refine ⟨hmid, hrow, rfl, ?_⟩
  rcases I.ep with he | ⟨b', he, hr, _, _⟩
  ·omega
  ·rcases sgn_t ht with ⟨rfl, h⟩ | ⟨rfl, h⟩ <;> rw [h] at hb <;> omega
 | @castle n ho =>
  have hc := I.cs n ho.lt ho.bit
  rw [hc.1] at h1
  have : sgn ((n / 2 : Nat) : Int) = 1 ∨ sgn ((n / 2 : Nat) : Int) = -1 := by rw [ho.side]; exact hsg
  omega
theorem next_sm (I : Inv p t c e h f) (m : PL p t c e a b k) : Small (aft p t e a b k) := by
 refine ⟨by rw [aft_len]; exact I.len, fun j hj => ?_⟩
 have hb := m.bds I
 have hp := I.sm.2 j hj
 have hpa := I.sm.2 a hb.1
 have hsg : sgn t = 1 ∨ sgn t = -1 := by rcases sgn_t I.tt with h | h <;> omega
 cases turned I m with
 | one v hv hv' hpv hbs hbk hq =>
  rw [hq j hj]
  split
  ·omega
  ·split <;> omega
 | over d hd hda hdb hdp hb0 h1 hb8 hq =>
  rw [hq j hj]
  split
  ·omega
  ·split
   ·omega
   ·split <;> omega
 | cast n ho ha hb hk hr hq =>
  rw [hq j hj]
  split
  ·omega
  ·split
   ·omega
   ·split
    ·omega
    ·split <;> omega
theorem next_pw (I : Inv p t c e h f) (m : PL p t c e a b k) : ∀ j : Nat, j < 64 → (geti (aft p t e a b k) j).natAbs = 1 → 8 ≤ j ∧ j < 56 := by
 intro j hj
 have hp := I.pw j hj
 have hsg : sgn t = 1 ∨ sgn t = -1 := by rcases sgn_t I.tt with h | h <;> omega
 cases turned I m with
 | one v hv hv' hpv hbs hbk hq =>
  rw [hq j hj]
  split
  ·rename_i h; rw [h]; exact hpv
  ·split
   ·intro h; simp at h
   ·exact hp
 | over d hd hda hdb hdp hb0 h1 hb8 hq =>
  rw [hq j hj]
  split
  ·intro h; simp at h
  ·split
   ·rename_i h; rw [h]; exact fun _ => hb8
   ·split
    ·intro h; simp at h
    ·exact hp
 | cast n ho ha hb hk hr hq =>
  rw [hq j hj]
  split
  ·intro h; simp at h
  ·split
   ·intro h; omega
   ·split
    ·intro h; omega
    ·split
     ·intro h; simp at h
     ·exact hp
theorem cast_geo (n : Nat) (hn : n < 4) : homeR n ≠ homeK n ∧ homeR n ≠ castTo n ∧ homeR n ≠ midC n ∧ midC n ≠ homeK n ∧ midC n ≠ castTo n ∧ castTo n ≠ homeK n ∧ homeR n < 64 ∧ midC n < 64 ∧ castTo n < 64 ∧ homeK n < 64 ∧ midC n ∈ betw n ∧ castTo n ∈ betw n := by
 have hcases : n = 0 ∨ n = 1 ∨ n = 2 ∨ n = 3 := by omega
 rcases hcases with rfl | rfl | rfl | rfl <;> decide
theorem next_kg (I : Inv p t c e h f) (m : PL p t c e a b k) : ∀ s : Int, s = 0 ∨ s = 1 → ∃ k' : Nat, k' < 64 ∧ ∀ j : Nat, j < 64 → (geti (aft p t e a b k) j = kingV s ↔ j = k') := by
 intro s hs
 obtain ⟨k0, hk64, hu⟩ := I.kg s hs
 have hb := m.bds I
 have hkv := kv hs
 have hk0 := (hu k0 hk64).2 rfl
 have hsg : sgn t = 1 ∨ sgn t = -1 := by rcases sgn_t I.tt with h | h <;> omega
 have h0k : (0 : Int) ≠ kingV s := by intro e; rw [← e] at hkv; have := hkv.2.2; simp at this
 cases turned I m with
 | one v hv hv' hpv hbs hbk hq =>
  by_cases hst : s = t
  ·subst hst
   by_cases h6 : (geti p a).natAbs = 6
   ·have hva : v = geti p a := by rcases hv' with h | h <;> omega
    have hak : geti p a = kingV s := by
     rcases side_cases (geti p a) with q | q | q
     ·rcases hs with rfl | rfl <;> (unfold kingV; simp; omega)
     ·rcases hs with rfl | rfl <;> (unfold kingV; simp; omega)
     ·omega
    have hka := (hu a hb.1).1 hak
    refine ⟨b, hb.2.1, fun j hj => ?_⟩
    rw [hq j hj]
    by_cases h1 : j = b
    ·rw [if_pos h1, hva, hak]; simp [h1]
    ·rw [if_neg h1]
     by_cases h2 : j = a
     ·rw [if_pos h2]; simp [h1, h0k]
     ·rw [if_neg h2, hu j hj, ← hka]; simp [h1, h2]
   ·have hvn : v ≠ kingV s := by intro e; have := hkv.2.2; rw [← e] at this; rcases hv' with h | h <;> omega
    have hka : k0 ≠ a := by intro e; rw [e] at hk0; rw [hk0] at h6; exact h6 hkv.2.2
    have hkb : k0 ≠ b := by intro e; rw [e] at hk0; rw [hk0] at hbs; exact hbs hkv.2.1
    refine ⟨k0, hk64, fun j hj => ?_⟩
    rw [hq j hj]
    by_cases h1 : j = b
    ·rw [if_pos h1]; simp [hvn, h1, Ne.symm hkb]
    ·rw [if_neg h1]
     by_cases h2 : j = a
     ·rw [if_pos h2]; simp [h0k, h2, Ne.symm hka]
     ·rw [if_neg h2, hu j hj]
  ·have hs1 : s = 1 - t := by have := I.tt; omega
   subst hs1
   have hvn : v ≠ kingV (1 - t) := by intro e; rw [e] at hv; rw [hkv.2.1] at hv; exact hst hv
   have hka : k0 ≠ a := by intro e; rw [e] at hk0; have := hb.2.2.1; rw [hk0, hkv.2.1] at this; exact hst this
   have hkb : k0 ≠ b := by intro e; rw [e] at hk0; exact hbk hk0
   refine ⟨k0, hk64, fun j hj => ?_⟩
   rw [hq j hj]
   by_cases h1 : j = b
   ·rw [if_pos h1]; simp [hvn, h1, Ne.symm hkb]
   ·rw [if_neg h1]
    by_cases h2 : j = a
    ·rw [if_pos h2]; simp [h0k, h2, Ne.symm hka]
    ·rw [if_neg h2, hu j hj]
 | over d hd hda hdb hdp hb0 h1 hb8 hq =>
  have hkd : k0 ≠ d := by intro e; rw [e] at hk0; rw [hk0] at hdp; have := hkv.2.2; omega
  have hka : k0 ≠ a := by intro e; rw [e] at hk0; have := hkv.2.2; rw [← hk0] at this; omega
  have hkb : k0 ≠ b := by intro e; rw [e] at hk0; have := hkv.2.2; rw [← hk0] at this; omega
  have hpa : geti p a ≠ kingV s := by intro e; have := hkv.2.2; rw [← e] at this; omega
  refine ⟨k0, hk64, fun j hj => ?_⟩
  rw [hq j hj]
  by_cases h0 : j = d
  ·rw [if_pos h0]; simp [h0k, h0, Ne.symm hkd]
  ·rw [if_neg h0]
   by_cases h1 : j = b
   ·rw [if_pos h1]; simp [hpa, h1, Ne.symm hkb]
   ·rw [if_neg h1]
    by_cases h2 : j = a
    ·rw [if_pos h2]; simp [h0k, h2, Ne.symm hka]
    ·rw [if_neg h2, hu j hj]
 | cast n ho ha hb' hk hr hq =>
  have hg := cast_geo n ho.lt
  have hm0 := ho.free _ hg.2.2.2.2.2.2.2.2.2.2.1
  have ht0 := ho.free _ hg.2.2.2.2.2.2.2.2.2.2.2
  have h4 : 4 * sgn t ≠ kingV s := by intro e; have := hkv.2.2; rw [← e] at this; omega
  have hkr : k0 ≠ homeR n := by intro e; rw [e] at hk0; rw [hk0] at hr; exact h4 hr.symm
  have hkm : k0 ≠ midC n := by intro e; rw [e] at hk0; rw [hk0] at hm0; exact h0k hm0.symm
  have hkt : k0 ≠ castTo n := by intro e; rw [e] at hk0; rw [hk0] at ht0; exact h0k ht0.symm
  by_cases hst : s = t
  ·subst hst
   have hkk : k0 = homeK n := by
    have := (hu (homeK n) hg.2.2.2.2.2.2.2.2.2.1).1 (by rw [hk, hkv.1])
    omega
   refine ⟨castTo n, hg.2.2.2.2.2.2.2.2.1, fun j hj => ?_⟩
   rw [hq j hj]
   by_cases h0 : j = homeR n
   ·rw [if_pos h0]; simp [h0k, h0, hg.2.1]
   ·rw [if_neg h0]
    by_cases h1 : j = midC n
    ·rw [if_pos h1]; simp [h4, h1, hg.2.2.2.2.1]
    ·rw [if_neg h1]
     by_cases h2 : j = castTo n
     ·rw [if_pos h2]; simp [h2, hkv.1]
     ·rw [if_neg h2]
      by_cases h3 : j = homeK n
      ·rw [if_pos h3]; simp [h0k, h2]
      ·rw [if_neg h3, hu j hj, hkk]; simp [h2, h3]
  ·have h6 : 6 * sgn t ≠ kingV s := by rw [← (kv I.tt).1]; intro e; have := hkv.2.1; rw [← e, (kv I.tt).2.1] at this; exact hst this.symm
   have hkk : k0 ≠ homeK n := by intro e; rw [e] at hk0; rw [hk0] at hk; exact h6 hk.symm
   refine ⟨k0, hk64, fun j hj => ?_⟩
   rw [hq j hj]
   by_cases h0 : j = homeR n
   ·rw [if_pos h0]; simp [h0k, h0, Ne.symm hkr]
   ·rw [if_neg h0]
    by_cases h1 : j = midC n
    ·rw [if_pos h1]; simp [h4, h1, Ne.symm hkm]
    ·rw [if_neg h1]
     by_cases h2 : j = castTo n
     ·rw [if_pos h2]; simp [h6, h2, Ne.symm hkt]
     ·rw [if_neg h2]
      by_cases h3 : j = homeK n
      ·rw [if_pos h3]; simp [h0k, h3, Ne.symm hkk]
      ·rw [if_neg h3, hu j hj]
set_option maxHeartbeats 1000000 in
theorem next_cs (I : Inv p t c e h f) (m : PL p t c e a b k) : ∀ n : Nat, n < 4 → cbit (cAft p t c a b) n = true → geti (aft p t e a b k) (homeK n) = 6 * sgn ((n / 2 : Nat) : Int) ∧ geti (aft p t e a b k) (homeR n) = 4 * sgn ((n / 2 : Nat) : Int) := by
 intro n hn hc
 have hcl := (clr4_p I.cc (lost p t a b)).2 n hn
 unfold cAft at hc
 rw [hcl, Bool.and_eq_true, Bool.not_eq_true'] at hc
 have hp := I.cs n hn hc.1
 have hlo := hc.2
 unfold lost at hlo
 simp only [Bool.or_eq_false_iff, decide_eq_false_iff_not] at hlo
 obtain ⟨l1, l2, l3⟩ := hlo
 have hb := m.bds I
 have hsg : sgn t = 1 ∨ sgn t = -1 := by rcases sgn_t I.tt with h | h <;> omega
 have hn2 : ((n / 2 : Nat) : Int) = 0 ∨ ((n / 2 : Nat) : Int) = 1 := by omega
 have hkn := kv hn2
 have hg := cast_geo n hn
 have hR64 := hg.2.2.2.2.2.2.1
 have hK64 := hg.2.2.2.2.2.2.2.2.2.1
 have hkp : geti p (homeK n) = kingV ((n / 2 : Nat) : Int) := by rw [hp.1, hkn.1]
 have hka : homeK n ≠ a := by
  intro e
  rw [← e, hkp] at l1
  have h2 := hb.2.2.1
  rw [← e, hkp, hkn.2.1] at h2
  exact l1 ⟨hkn.2.2, h2⟩
 have hrs : sideI (4 * sgn ((n / 2 : Nat) : Int)) = ((n / 2 : Nat) : Int) := by rcases hn2 with h | h <;> rw [h] <;> rfl
 cases turned I m with
 | one v hv hv' hpv hbs hbk hq =>
  have hkb : homeK n ≠ b := by
   intro e
   rw [← e, hkp] at hbs hbk
   rw [hkn.2.1] at hbs
   have : ((n / 2 : Nat) : Int) = 1 - t := by have := I.tt; omega
   rw [this] at hbk
   exact hbk rfl
  rw [hq _ hK64, hq _ hR64, if_neg hkb, if_neg hka, if_neg (Ne.symm l3), if_neg (Ne.symm l2)]
  exact hp
 | over d hd hda hdb hdp hb0 h1 hb8 hq =>
  have hkb : homeK n ≠ b := by intro e; rw [← e, hkp] at hb0; have := hkn.2.2; rw [hb0] at this; simp at this
  have hkd : homeK n ≠ d := by intro e; rw [← e, hkp] at hdp; have := hkn.2.2; rw [hdp] at this; omega
  have hsn : sgn ((n / 2 : Nat) : Int) = 1 ∨ sgn ((n / 2 : Nat) : Int) = -1 := by rcases sgn_t hn2 with h | h <;> omega
  have hrd : homeR n ≠ d := by intro e; rw [← e, hp.2] at hdp; omega
  rw [hq _ hK64, hq _ hR64, if_neg hkd, if_neg hkb, if_neg hka, if_neg hrd, if_neg (Ne.symm l3), if_neg (Ne.symm l2)]
  exact hp
 | cast n' ho ha hb' hk hr hq =>
  have hne : ((n / 2 : Nat) : Int) ≠ t := by
   intro e
   apply l1
   rw [ha, hk]
   exact ⟨by omega, e⟩
  have hg' := cast_geo n' ho.lt
  have hm0 := ho.free _ hg'.2.2.2.2.2.2.2.2.2.2.1
  have ht0 := ho.free _ hg'.2.2.2.2.2.2.2.2.2.2.2
  have s6 : sideI (6 * sgn t) = t := by rw [← (kv I.tt).1]; exact (kv I.tt).2.1
  have s4 : sideI (4 * sgn t) = t := by rcases I.tt with rfl | rfl <;> rfl
  have s0 : sideI 0 = -1 := rfl
  have hdiff : ∀ x : Nat, sideI (geti p (x : Int)) = ((n / 2 : Nat) : Int) → x ≠ homeR n' ∧ x ≠ midC n' ∧ x ≠ castTo n' ∧ x ≠ homeK n' := by
   intro x hx
   refine ⟨?_, ?_, ?_, ?_⟩
   ·intro e; rw [e, hr, s4] at hx; omega
   ·intro e; rw [e, hm0, s0] at hx; omega
   ·intro e; rw [e, ht0, s0] at hx; omega
   ·intro e; rw [e, hk, s6] at hx; omega
  have dK := hdiff (homeK n) (by rw [hkp]; exact hkn.2.1)
  have dR := hdiff (homeR n) (by rw [hp.2]; exact hrs)
  rw [hq _ hK64, hq _ hR64, if_neg dK.1, if_neg dK.2.1, if_neg dK.2.2.1, if_neg dK.2.2.2, if_neg dR.1, if_neg dR.2.1, if_neg dR.2.2.1, if_neg dR.2.2.2]
  exact hp
theorem next_ep (I : Inv p t c e h f) (m : PL p t c e a b k) : eAft p t a b = -1 ∨ ∃ b' : Nat, eAft p t a b = b' ∧ ((b' / 8 : Nat) : Int) = 5 - 3 * (1 - t) ∧ geti (aft p t e a b k) b' = 0 ∧ geti (aft p t e a b k) ((b' : Int) - 8 * sgn (1 - t)) = - sgn (1 - t) := by
 unfold eAft
 by_cases hd : (geti p a).natAbs = 1 ∧ (b : Int) - a = 16 * sgn t
 ·rw [if_pos hd]
  right
  obtain ⟨q1, q2, q3, q4⟩ := eAft_dbl I m hd.1 hd.2
  have hb := m.bds I
  have hv := pawn_val I.tt hb.2.2.1 hd.1
  have hs1 : sgn (1 - t) = - sgn t := by unfold sgn; omega
  have ea : aft p t e a b k = (p.set a 0).set b (geti p a) := by
   unfold aft
   rw [if_pos hd.1, if_neg q4, if_neg (by omega)]
  obtain ⟨b', hb', hb1, hb2, hb3⟩ : ∃ b' : Nat, (b' : Int) = (a : Int) + 8 * sgn t ∧ b' ≠ a ∧ b' ≠ b ∧ ((b' / 8 : Nat) : Int) = 5 - 3 * (1 - t) := by
   rcases sgn_t I.tt with ⟨rfl, h⟩ | ⟨rfl, h⟩ <;> rw [h] at hd ⊢
   ·exact ⟨a + 8, by omega, by omega, by omega, by omega⟩
   ·exact ⟨a - 8, by omega, by omega, by omega, by omega⟩
  refine ⟨b', hb'.symm, hb3, ?_, ?_⟩
  ·rw [ea, set2_get I.len hb.1 hb.2.1, if_neg hb2, if_neg hb1, hb']
   exact q1
  ·rw [hs1, show (b' : Int) - 8 * -sgn t = (b : Int) by omega, ea, set2_get I.len hb.1 hb.2.1, if_pos rfl, hv]
   omega
 ·rw [if_neg hd]; exact .inl rfl
theorem Inv.next (I : Inv p t c e h f) (m : PL p t c e a b k) (hs : inChk (aft p t e a b k) t = false) : Inv (aft p t e a b k) (1 - t) (cAft p t c a b) (eAft p t a b) (hAft p h a b) (fAft f t) where
 sm := next_sm I m
 tt := by have := I.tt; omega
 cc := (clr4_p I.cc (lost p t a b)).1
 hh := by have := I.hh; unfold hAft; split <;> (try split) <;> omega
 ff := by have := I.ff; have := I.tt; unfold fAft; split <;> omega
 kg := next_kg I m
 pw := next_pw I m
 sf := by rw [show 1 - (1 - t) = t by omega]; exact hs
 cs := next_cs I m
 ep := next_ep I m
end
end Go.Proofs.Ytfmmlmiakkjaiaa
