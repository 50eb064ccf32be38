import Derived.Test.YtfmmlmiakkjaiaaCMa
import Derived.Test.YtfmmlmiakkjaiaaCAd
namespace Go.Proofs.Ytfmmlmiakkjaiaa
open Go Go.GL Go.RowKit
def sgn (t : Int) : Int := 1 - 2 * t
theorem side0 {x : Int} : sideI x = 0 ↔ 0 < x := by unfold sideI; split <;> (try split) <;> omega
theorem side1 {x : Int} : sideI x = 1 ↔ x < 0 := by unfold sideI; split <;> (try split) <;> omega
theorem side_cases (x : Int) : (sideI x = 0 ∧ 0 < x) ∨ (sideI x = 1 ∧ x < 0) ∨ (sideI x = -1 ∧ x = 0) := by unfold sideI; split <;> (try split) <;> omega
def cbit (c : Int) (n : Nat) : Bool := c.toNat.testBit n
def homeK (n : Nat) : Nat := if n < 2 then 4 else 60
def homeR (n : Nat) : Nat := if n = 0 then 7 else if n = 1 then 0 else if n = 2 then 63 else 56
def castTo (n : Nat) : Nat := if n = 0 then 6 else if n = 1 then 2 else if n = 2 then 62 else 58
def midC (n : Nat) : Nat := if n = 0 then 5 else if n = 1 then 3 else if n = 2 then 61 else 59
def betw (n : Nat) : List Nat := if n = 0 then [5, 6] else if n = 1 then [3, 2, 1] else if n = 2 then [61, 62] else [59, 58, 57]
def wayC (n : Nat) : List Nat := if n = 0 then [4, 5, 6] else if n = 1 then [4, 3, 2] else if n = 2 then [60, 61, 62] else [60, 59, 58]
structure Inv (p : List Int) (t c e h f : Int) : Prop where
 sm : Small p
 tt : t = 0 ∨ t = 1
 cc : 0 ≤ c ∧ c ≤ 15
 hh : 0 ≤ h ∧ h ≤ 999
 ff : 1 ≤ f ∧ f ≤ 999
 kg : ∀ s : Int, s = 0 ∨ s = 1 → ∃ k : Nat, k < 64 ∧ ∀ j : Nat, j < 64 → (geti p j = kingV s ↔ j = k)
 pw : ∀ j : Nat, j < 64 → (geti p j).natAbs = 1 → 8 ≤ j ∧ j < 56
 sf : inChk p (1 - t) = false
 cs : ∀ n : Nat, n < 4 → cbit c n = true → geti p (homeK n) = 6 * sgn ((n / 2 : Nat) : Int) ∧ geti p (homeR n) = 4 * sgn ((n / 2 : Nat) : Int)
 ep : e = -1 ∨ ∃ b : Nat, e = b ∧ ((b / 8 : Nat) : Int) = 5 - 3 * t ∧ geti p b = 0 ∧ geti p ((b : Int) - 8 * sgn t) = - sgn t
def aft (p : List Int) (t e : Int) (a b : Nat) (k : Int) : List Int :=
 if (geti p a).natAbs = 1 then
  if (b : Int) = e then ((p.set a 0).set b (geti p a)).set ((b : Int) - 8 * sgn t).toNat 0
  else if 0 < k then ((p.set a 0).set b (geti p a)).set b (k * sgn t) else (p.set a 0).set b (geti p a)
 else if (geti p a).natAbs = 6 ∧ ((b : Int) - a).natAbs = 2 then
  (((p.set a 0).set b (geti p a)).set ((a + b) / 2) (geti ((p.set a 0).set b (geti p a)) ((if a < b then a + 3 else a - 4 : Nat) : Int))).set (if a < b then a + 3 else a - 4) 0
 else (p.set a 0).set b (geti p a)
def Into (b : Nat) (k : Int) : Prop := if 8 ≤ b ∧ b < 56 then k = 0 else 2 ≤ k ∧ k ≤ 5
structure CastOk (p : List Int) (t c : Int) (n : Nat) : Prop where
 lt : n < 4
 side : ((n / 2 : Nat) : Int) = t
 bit : cbit c n = true
 free : ∀ j ∈ betw n, geti p (j : Int) = 0
 safe : ∀ j ∈ wayC n, attL p j (1 - t) 64 = []
inductive PL (p : List Int) (t c e : Int) : Nat → Nat → Int → Prop
 | pc {a b : Nat} : a < 64 → sideI (geti p a) = t → (geti p a).natAbs ≠ 1 → b ∈ reachL p a → sideI (geti p b) ≠ t → PL p t c e a b 0
 | cap {a b : Nat} {k : Int} : a < 64 → sideI (geti p a) = t → (geti p a).natAbs = 1 → b ∈ reachL p a → (sideI (geti p b) = 1 - t ∨ (b : Int) = e) → Into b k → PL p t c e a b k
 | push {a b : Nat} {k : Int} : a < 64 → sideI (geti p a) = t → (geti p a).natAbs = 1 → (b : Int) = a + 8 * sgn t → geti p b = 0 → Into b k → PL p t c e a b k
 | dbl {a b : Nat} : a < 64 → sideI (geti p a) = t → (geti p a).natAbs = 1 → (b : Int) = a + 16 * sgn t → ((a / 8 : Nat) : Int) = 1 + 5 * t → geti p ((a : Int) + 8 * sgn t) = 0 → geti p b = 0 → PL p t c e a b 0
 | castle {n : Nat} : CastOk p t c n → PL p t c e (homeK n) (castTo n) 0
theorem fidx_king {p : List Int} {v : Int} {k : Nat} (hl : p.length = 64) (hk : k < 64) (h : ∀ j : Nat, j < 64 → (geti p j = v ↔ j = k)) : fidx (fun y => decide (y = v)) p = (k : Int) := by
 unfold fidx
 cases hf : p.findIdx? (fun y => decide (y = v)) with
 | none =>
  rw [List.findIdx?_eq_none_iff] at hf
  have := hf _ (List.mem_of_getElem? (get_geti (l := p) (i := k) (by omega)))
  rw [(h k hk).2 rfl] at this
  simp at this
 | some i =>
  obtain ⟨h1, h2, _⟩ := List.findIdx?_eq_some_iff_getElem.1 hf
  have h3 : geti p (i : Int) = v := by rw [geti_some (List.getElem?_eq_getElem h1)]; exact of_decide_eq_true h2
  have := (h i (by omega)).1 h3
  simp [this]
theorem attL_mem {p : List Int} {j : Nat} {s : Int} {i : Nat} : ((i : Int) ∈ attL p j s 64) ↔ i < 64 ∧ sideI (geti p i) = s ∧ attB p i j = true := by
 unfold attL
 rw [List.mem_map]
 constructor
 ·rintro ⟨x, hx, e⟩
  have : x = i := by omega
  subst this
  rw [List.mem_filter, List.mem_range, Bool.and_eq_true, beq_iff_eq] at hx
  exact hx
 ·rintro ⟨h1, h2, h3⟩
  exact ⟨i, by rw [List.mem_filter, List.mem_range, Bool.and_eq_true, beq_iff_eq]; exact ⟨h1, h2, h3⟩, rfl⟩
section
variable {p : List Int} {t c e h f : Int} {a b : Nat} {k : Int}
theorem Inv.len (I : Inv p t c e h f) : p.length = 64 := I.sm.1
theorem Inv.notKing (I : Inv p t c e h f) (ha : a < 64) (hs : sideI (geti p a) = t) (hb : attB p a b = true) (hb64 : b < 64) : geti p b ≠ kingV (1 - t) := by
 intro hk
 obtain ⟨k, hk64, hu⟩ := I.kg (1 - t) (by have := I.tt; omega)
 have hbk := (hu b hb64).1 hk
 have hf := I.sf
 unfold inChk at hf
 rw [fidx_king I.len hk64 hu] at hf
 rw [Int.toNat_natCast] at hf
 have := attL_mem.2 ⟨ha, hs, hb⟩
 rw [hbk] at this
 have h2 := List.length_pos_of_mem this
 rw [show (1 - (1 - t)) = t by omega] at hf
 simp only [decide_eq_false_iff_not] at hf
 exact hf h2
theorem sgn_t (ht : t = 0 ∨ t = 1) : (t = 0 ∧ sgn t = 1) ∨ (t = 1 ∧ sgn t = -1) := by
 rcases ht with rfl | rfl
 ·exact .inl ⟨rfl, rfl⟩
 ·exact .inr ⟨rfl, rfl⟩
inductive Turned (p : List Int) (t c e : Int) (q : List Int) (a b : Nat) : Prop
 | one (v : Int) (_ : sideI v = t) (_ : v = geti p a ∨ ((geti p a).natAbs = 1 ∧ 2 ≤ v.natAbs ∧ v.natAbs ≤ 5)) (_ : v.natAbs = 1 → 8 ≤ b ∧ b < 56) (_ : sideI (geti p b) ≠ t) (_ : geti p b ≠ kingV (1 - t))
   (_ : ∀ j : Nat, j < 64 → geti q j = if j = b then v else if j = a then 0 else geti p j)
 | over (d : Nat) (_ : d < 64) (_ : d ≠ a) (_ : d ≠ b) (_ : geti p d = - sgn t) (_ : geti p b = 0) (_ : (geti p a).natAbs = 1) (_ : 8 ≤ b ∧ b < 56)
   (_ : ∀ j : Nat, j < 64 → geti q j = if j = d then 0 else if j = b then geti p a else if j = a then 0 else geti p j)
 | cast (n : Nat) (_ : CastOk p t c n) (_ : a = homeK n) (_ : b = castTo n) (_ : geti p (homeK n) = 6 * sgn t) (_ : geti p (homeR n) = 4 * sgn t)
   (_ : ∀ j : Nat, j < 64 → geti q j = if j = homeR n then 0 else if j = midC n then 4 * sgn t else if j = castTo n then 6 * sgn t else if j = homeK n then 0 else geti p j)
theorem set2_get (hl : p.length = 64) {x : Int} (ha : a < 64) (hb : b < 64) (j : Nat) : geti ((p.set a 0).set b x) (j : Int) = if j = b then x else if j = a then 0 else geti p j := by
 rw [geti_set' (by omega) (by rw [List.length_set, hl]; exact hb), geti_set' (by omega) (by rw [hl]; exact ha)]
 by_cases h1 : j = b
 ·rw [if_pos (by omega), if_pos h1]
 ·rw [if_neg (by omega), if_neg h1]
  by_cases h2 : j = a
  ·rw [if_pos (by omega), if_pos h2]
  ·rw [if_neg (by omega), if_neg h2]
theorem cast_get (hl : p.length = 64) {x y : Int} {mid r : Nat} (ha : a < 64) (hb : b < 64) (hm : mid < 64) (hr : r < 64) (hrb : r ≠ b) (hra : r ≠ a) (hy : geti p (r : Int) = y) (j : Nat) :
  geti ((((p.set a 0).set b x).set mid (geti ((p.set a 0).set b x) (r : Int))).set r 0) (j : Int) = if j = r then 0 else if j = mid then y else if j = b then x else if j = a then 0 else geti p j := by
 have h7 : geti ((p.set a 0).set b x) (r : Int) = y := by rw [set2_get hl ha hb, if_neg hrb, if_neg hra, hy]
 rw [h7, geti_set' (by omega) (by simp [hl]; exact hr), geti_set' (by omega) (by simp [hl]; exact hm), set2_get hl ha hb]
 have e1 : (j : Int) = (r : Int) ↔ j = r := by omega
 have e2 : (j : Int) = (mid : Int) ↔ j = mid := by omega
 simp only [e1, e2]
theorem aft_len (p : List Int) (t e : Int) (a b : Nat) (k : Int) : (aft p t e a b k).length = p.length := by
 unfold aft
 split
 ·split
  ·simp
  ·split <;> simp
 ·split <;> simp
theorem pawn_val (ht : t = 0 ∨ t = 1) {x : Int} (hs : sideI x = t) (h1 : x.natAbs = 1) : x = sgn t := by
 have := side_cases x
 rcases sgn_t ht with ⟨rfl, h⟩ | ⟨rfl, h⟩ <;> rw [h] <;> omega
theorem pawn_reach (h1 : (geti p a).natAbs = 1) (hb : b ∈ reachL p a) : (b : Int) / 8 = (a : Int) / 8 + geti p a ∧ ((b : Int) % 8 = (a : Int) % 8 - 1 ∨ (b : Int) % 8 = (a : Int) % 8 + 1) ∧ b < 64 := by
 unfold reachL at hb
 rw [if_neg (by omega), if_pos h1] at hb
 rcases List.mem_append.1 hb with h | h
 ·have := mvO_bd (Option.mem_toList.1 h); omega
 ·have := mvO_bd (Option.mem_toList.1 h); omega
theorem turned (I : Inv p t c e h f) (m : PL p t c e a b k) : Turned p t c e (aft p t e a b k) a b := by
 have hl := I.len
 have ht := I.tt
 cases m with
 | pc ha hs h1 hb ho =>
  have hb64 := reach_lt hb
  have h0 : geti p a ≠ 0 := by have := side_cases (geti p a); omega
  have hat := (reach_att h0).1 hb
  have hcast : ¬ ((geti p a).natAbs = 6 ∧ ((b : Int) - a).natAbs = 2) := by
   rintro ⟨h6, h2⟩
   unfold reachL at hb
   rw [if_neg (by omega), if_neg (by omega), h6] at hb
   obtain ⟨s, hs, hb⟩ := List.mem_flatMap.1 hb
   rw [show oneK ((6 : Nat) : Int) = true from rfl, cut_one] at hb
   have hs : s ∈ dirs := hs
   have hd : (s.1 = 0 ∨ s.1 = 1 ∨ s.1 = -1) ∧ (s.2 = 0 ∨ s.2 = 1 ∨ s.2 = -1) := by
    have : ∀ s ∈ dirs, (s.1 = 0 ∨ s.1 = 1 ∨ s.1 = -1) ∧ (s.2 = 0 ∨ s.2 = 1 ∨ s.2 = -1) := by decide
    exact this s hs
   cases hm : mvO a s.1 s.2 with
   | none => rw [ray_none hm] at hb; simp at hb
   | some q =>
    rw [ray_some hm] at hb
    simp at hb
    subst hb
    have := mvO_bd hm
    omega
  have ea : aft p t e a b 0 = (p.set a 0).set b (geti p a) := by
   unfold aft
   rw [if_neg h1, if_neg hcast]
  refine .one (geti p a) hs (.inl rfl) (fun h => absurd h h1) ho (I.notKing ha hs hat hb64) (fun j hj => ?_)
  rw [ea, set2_get hl ha hb64]
 | cap ha hs h1 hb ho hi =>
  have hpr := pawn_reach h1 hb
  have hb64 := reach_lt hb
  have hv := pawn_val ht hs h1
  have h0 : geti p a ≠ 0 := by omega
  have hat := (reach_att h0).1 hb
  by_cases hbe : (b : Int) = e
  ·have ea : aft p t e a b k = ((p.set a 0).set b (geti p a)).set ((b : Int) - 8 * sgn t).toNat 0 := by
    unfold aft
    rw [if_pos h1, if_pos hbe]
   rcases I.ep with he | ⟨b', he, hr, h0b, hd⟩
   ·omega
   have : b' = b := by omega
   subst this
   have hd64 : ∃ d : Nat, (d : Int) = (b' : Int) - 8 * sgn t ∧ d < 64 := by
    rcases sgn_t ht with ⟨rfl, h⟩ | ⟨rfl, h⟩ <;> rw [h]
    ·exact ⟨b' - 8, by omega, by omega⟩
    ·exact ⟨b' + 8, by omega, by omega⟩
   obtain ⟨d, hd1, hd2⟩ := hd64
   rw [← hd1] at hd
   have hsg : sgn t = 1 ∨ sgn t = -1 := by rcases sgn_t ht with h | h <;> omega
   refine .over d hd2 (fun h => by rw [h, hv] at hd; omega) (fun h => by omega) hd h0b h1 (by rcases sgn_t ht with ⟨rfl, _⟩ | ⟨rfl, _⟩ <;> omega) (fun j hj => ?_)
   rw [ea, ← hd1, Int.toNat_natCast, geti_set' (by omega) (by simp [hl]; exact hd2), set2_get hl ha hb64]
   by_cases hjd : j = d
   ·rw [if_pos (by omega), if_pos hjd]
   ·rw [if_neg (by omega), if_neg hjd]
  ·have ho : sideI (geti p b) = 1 - t := ho.resolve_right hbe
   by_cases hk : 0 < k
   ·have ea : aft p t e a b k = ((p.set a 0).set b (geti p a)).set b (k * sgn t) := by
     unfold aft
     rw [if_pos h1, if_neg hbe, if_pos hk]
    have hi2 : 2 ≤ k ∧ k ≤ 5 := by unfold Into at hi; split at hi <;> omega
    have hv2 : sideI (k * sgn t) = t ∧ 2 ≤ (k * sgn t).natAbs ∧ (k * sgn t).natAbs ≤ 5 := by
     rcases sgn_t ht with ⟨rfl, h⟩ | ⟨rfl, h⟩ <;> rw [h]
     ·rw [side0]; omega
     ·rw [side1]; omega
    refine .one (k * sgn t) hv2.1 (.inr ⟨h1, hv2.2⟩) (fun h => by omega) (by omega) (I.notKing ha hs hat hb64) (fun j hj => ?_)
    rw [ea, geti_set' (by omega) (by simp [hl]; exact hb64), set2_get hl ha hb64]
    by_cases hjb : j = b
    ·rw [if_pos (by omega), if_pos hjb]
    ·rw [if_neg (by omega), if_neg hjb, if_neg hjb]
   ·have ea : aft p t e a b k = (p.set a 0).set b (geti p a) := by
     unfold aft
     rw [if_pos h1, if_neg hbe, if_neg hk]
    refine .one (geti p a) hs (.inl rfl) (fun _ => by unfold Into at hi; split at hi <;> omega) (by omega) (I.notKing ha hs hat hb64) (fun j hj => ?_)
    rw [ea, set2_get hl ha hb64]
 | push ha hs h1 hb h0b hi =>
  have hv := pawn_val ht hs h1
  have hpw := I.pw a ha h1
  have hb64 : b < 64 := by rcases sgn_t ht with ⟨rfl, h⟩ | ⟨rfl, h⟩ <;> rw [h] at hb <;> omega
  have hbs : sideI (geti p b) ≠ t := by rw [h0b]; rcases ht with rfl | rfl <;> decide
  have hbk : geti p b ≠ kingV (1 - t) := by rw [h0b]; unfold kingV; split <;> decide
  by_cases hbe : (b : Int) = e
  ·-- no pawn stands in front of the place gone over
   rcases I.ep with he | ⟨b', he, hr, _, hd⟩
   ·omega
   have : b' = b := by omega
   subst this
   rw [show (b' : Int) - 8 * sgn t = (a : Int) by omega, hv] at hd
   have hsg : sgn t = 1 ∨ sgn t = -1 := by rcases sgn_t ht with h | h <;> omega
   omega
  by_cases hk : 0 < k
  ·have ea : aft p t e a b k = ((p.set a 0).set b (geti p a)).set b (k * sgn t) := by
    unfold aft
    rw [if_pos h1, if_neg hbe, if_pos hk]
   have hi2 : 2 ≤ k ∧ k ≤ 5 := by unfold Into at hi; split at hi <;> omega
   have hv2 : sideI (k * sgn t) = t ∧ 2 ≤ (k * sgn t).natAbs ∧ (k * sgn t).natAbs ≤ 5 := by
    rcases sgn_t ht with ⟨rfl, h⟩ | ⟨rfl, h⟩ <;> rw [h]
    ·rw [side0]; omega
    ·rw [side1]; omega
   refine .one (k * sgn t) hv2.1 (.inr ⟨h1, hv2.2⟩) (fun h => by omega) hbs hbk (fun j hj => ?_)
   rw [ea, geti_set' (by omega) (by simp [hl]; exact hb64), set2_get hl ha hb64]
   by_cases hjb : j = b
   ·rw [if_pos (by omega), if_pos hjb]
   ·rw [if_neg (by omega), if_neg hjb, if_neg hjb]
  ·have ea : aft p t e a b k = (p.set a 0).set b (geti p a) := by
    unfold aft
    rw [if_pos h1, if_neg hbe, if_neg hk]
   refine .one (geti p a) hs (.inl rfl) (fun _ => by unfold Into at hi; split at hi <;> omega) hbs hbk (fun j hj => ?_)
   rw [ea, set2_get hl ha hb64]
 | dbl ha hs h1 hb hrow hmid h0b =>
  have hv := pawn_val ht hs h1
  have hb64 : b < 64 ∧ 8 ≤ b ∧ b < 56 := by rcases sgn_t ht with ⟨rfl, h⟩ | ⟨rfl, h⟩ <;> rw [h] at hb <;> omega
  have hbs : sideI (geti p b) ≠ t := by rw [h0b]; rcases ht with rfl | rfl <;> decide
  have hbk : geti p b ≠ kingV (1 - t) := by rw [h0b]; unfold kingV; split <;> decide
  have hbe : ¬ (b : Int) = e := by
   rcases I.ep with he | ⟨b', he, hr, _, _⟩
   ·omega
   ·rcases sgn_t ht with ⟨rfl, h⟩ | ⟨rfl, h⟩ <;> rw [h] at hb <;> omega
  have ea : aft p t e a b 0 = (p.set a 0).set b (geti p a) := by
   unfold aft
   rw [if_pos h1, if_neg hbe, if_neg (by decide)]
  refine .one (geti p a) hs (.inl rfl) (fun _ => hb64.2) hbs hbk (fun j hj => ?_)
  rw [ea, set2_get hl ha hb64.1]
 | @castle n ho =>
  have hc := I.cs n ho.lt ho.bit
  rw [ho.side] at hc
  refine .cast n ho rfl rfl hc.1 hc.2 (fun j hj => ?_)
  have hsg : (6 * sgn t).natAbs = 6 := by rcases sgn_t ht with ⟨_, h⟩ | ⟨_, h⟩ <;> rw [h] <;> rfl
  have hn := ho.lt
  have hcases : n = 0 ∨ n = 1 ∨ n = 2 ∨ n = 3 := by omega
  unfold aft
  rw [hc.1]
  rcases hcases with rfl | rfl | rfl | rfl
  ·rw [if_neg (by omega), if_pos ⟨hsg, by decide⟩]
   exact cast_get hl (a := 4) (b := 6) (mid := 5) (r := 7) (by decide) (by decide) (by decide) (by decide) (by decide) (by decide) hc.2 j
  ·rw [if_neg (by omega), if_pos ⟨hsg, by decide⟩]
   exact cast_get hl (a := 4) (b := 2) (mid := 3) (r := 0) (by decide) (by decide) (by decide) (by decide) (by decide) (by decide) hc.2 j
  ·rw [if_neg (by omega), if_pos ⟨hsg, by decide⟩]
   exact cast_get hl (a := 60) (b := 62) (mid := 61) (r := 63) (by decide) (by decide) (by decide) (by decide) (by decide) (by decide) hc.2 j
  ·rw [if_neg (by omega), if_pos ⟨hsg, by decide⟩]
   exact cast_get hl (a := 60) (b := 58) (mid := 59) (r := 56) (by decide) (by decide) (by decide) (by decide) (by decide) (by decide) hc.2 j
end
end Go.Proofs.Ytfmmlmiakkjaiaa
