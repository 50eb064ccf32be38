import Derived.Test.YtfmmlmiakkjaiaaCMc
import Derived.Test.YtfmmlmiakkjaiaaLibST
namespace Go.Proofs.Ytfmmlmiakkjaiaa
open Go Go.GL Go.RowKit
abbrev Mv := Int × Int × Int
def mv (a b : Nat) (k : Int) : Mv := ((a : Int), (b : Int), k)
theorem mv_inj {a b a' b' : Nat} {k k' : Int} (h : mv a b k = mv a' b' k') : a = a' ∧ b = b' ∧ k = k' := by
 unfold mv at h
 simp only [Prod.mk.injEq] at h
 omega
def intoL (b : Nat) : List Int := if 8 ≤ b ∧ b < 56 then [0] else [2, 3, 4, 5]
theorem intoL_mem {b : Nat} {k : Int} : k ∈ intoL b ↔ Into b k := by
 unfold intoL Into
 split
 ·simp
 ·simp only [List.mem_cons, List.not_mem_nil, or_false]; omega
def pushL (p : List Int) (t : Int) (a : Nat) : List Nat :=
 if geti p ((a : Int) + 8 * sgn t) = 0 then ((a : Int) + 8 * sgn t).toNat :: (if ((a / 8 : Nat) : Int) = 1 + 5 * t ∧ geti p ((a : Int) + 16 * sgn t) = 0 then [((a : Int) + 16 * sgn t).toNat] else []) else []
def pawnTo (p : List Int) (t e : Int) (a : Nat) : List Nat := (reachL p a).filter (fun (b : Nat) => (sideI (geti p b) == 1 - t) || ((b : Int) == e)) ++ pushL p t a
def fromL (p : List Int) (t e : Int) (a : Nat) : List Mv :=
 if sideI (geti p a) ≠ t then [] else if (geti p a).natAbs = 1 then (pawnTo p t e a).flatMap (fun b => (intoL b).map (mv a b))
 else ((reachL p a).filter (fun (b : Nat) => sideI (geti p b) != t)).map (fun b => mv a b 0)
def castB (p : List Int) (t c : Int) (n : Nat) : Bool :=
 (decide (((n / 2 : Nat) : Int) = t) && cbit c n) && ((betw n).all (fun (j : Nat) => geti p j == 0) && (wayC n).all (fun j => (attL p j (1 - t) 64).isEmpty))
def castL (p : List Int) (t c : Int) : List Mv := ([0, 1, 2, 3].filter (castB p t c)).map (fun n => mv (homeK n) (castTo n) 0)
def rawL (p : List Int) (t c e : Int) : List Mv := (List.range 64).flatMap (fromL p t e) ++ castL p t c
def safeB (p : List Int) (t e : Int) (m : Mv) : Bool := !inChk (aft p t e m.1.toNat m.2.1.toNat m.2.2) t
def progL (p : List Int) (t c e : Int) : List Mv := (rawL p t c e).filter (safeB p t e)
def mayB (p : List Int) (t e : Int) (a b : Nat) : Bool :=
 if (decide (geti p a * sgn t ≤ 0) || decide (0 < geti p b * sgn t)) = true then false
 else if geti p a * sgn t ≠ 1 then attB p a b
 else if attB p a b = true then (geti p b != 0) || ((b : Int) == e)
 else if (b : Int) = a + 8 * sgn t then geti p b == 0
 else (decide (((a / 8 : Nat) : Int) = 1 + 5 * t) && decide ((b : Int) = a + 16 * sgn t)) && ((geti p b == 0) && (geti p ((a : Int) + 8 * sgn t) == 0))
def plB (p : List Int) (t c e : Int) (a b : Nat) : Bool := mayB p t e a b || (decide ((geti p a).natAbs = 6) && [0, 1, 2, 3].any (fun n => castB p t c n && decide (castTo n = b)))
def kindsL (p : List Int) (a b : Nat) : List Int := if (geti p a).natAbs = 1 ∧ ¬ (8 ≤ b ∧ b < 56) then [2, 3, 4, 5] else [0]
def refTo (p : List Int) (t c e : Int) (a b : Nat) : List Mv := if (plB p t c e a b && !inChk (aft p t e a b 0) t) = true then (kindsL p a b).map (mv a b) else []
def refL (p : List Int) (t c e : Int) : List Mv := (List.range 64).flatMap (fun (a : Nat) => if sideI (geti p a) ≠ t then [] else (List.range 64).flatMap (refTo p t c e a))
theorem castB_iff {p : List Int} {t c : Int} {n : Nat} (hn : n < 4) : castB p t c n = true ↔ CastOk p t c n := by
 unfold castB
 simp only [Bool.and_eq_true, decide_eq_true_eq, List.all_eq_true, beq_iff_eq, List.isEmpty_iff]
 constructor
 ·rintro ⟨⟨h1, h2⟩, h3, h4⟩; exact ⟨hn, h1, h2, h3, h4⟩
 ·rintro ⟨_, h1, h2, h3, h4⟩; exact ⟨⟨h1, h2⟩, h3, h4⟩
section
variable {p : List Int} {t c e h f : Int} {a b : Nat} {k : Int}
theorem king_reach (h6 : (geti p a).natAbs = 6) (hb : b ∈ reachL p a) : ((b : Int) - a).natAbs ≠ 2 := by
 intro h2
 unfold reachL at hb
 rw [if_neg (by omega), if_neg (by omega), h6] at hb
 obtain ⟨s, hs, hb⟩ := List.mem_flatMap.1 hb
 rw [show oneK ((6 : Nat) : Int) = true from rfl, cut_one] at hb
 have hs : s ∈ dirs := hs
 have hd : (s.1 = 0 ∨ s.1 = 1 ∨ s.1 = -1) ∧ (s.2 = 0 ∨ s.2 = 1 ∨ s.2 = -1) := by
  have : ∀ s ∈ dirs, (s.1 = 0 ∨ s.1 = 1 ∨ s.1 = -1) ∧ (s.2 = 0 ∨ s.2 = 1 ∨ s.2 = -1) := by decide
  exact this s hs
 cases hm : mvO a s.1 s.2 with
 | none => rw [ray_none hm] at hb; simp at hb
 | some q =>
  rw [ray_some hm] at hb
  simp at hb
  subst hb
  have := mvO_bd hm
  omega
theorem push_mem (ht : t = 0 ∨ t = 1) (ha : 8 ≤ a ∧ a < 56) : b ∈ pushL p t a ↔ ((b : Int) = a + 8 * sgn t ∧ geti p b = 0) ∨ ((b : Int) = a + 16 * sgn t ∧ ((a / 8 : Nat) : Int) = 1 + 5 * t ∧ geti p ((a : Int) + 8 * sgn t) = 0 ∧ geti p b = 0) := by
 have hsg := sgn_t ht
 unfold pushL
 by_cases h0 : geti p ((a : Int) + 8 * sgn t) = 0
 ·rw [if_pos h0, List.mem_cons]
  by_cases h1 : ((a / 8 : Nat) : Int) = 1 + 5 * t ∧ geti p ((a : Int) + 16 * sgn t) = 0
  ·rw [if_pos h1, List.mem_singleton]
   constructor
   ·rintro (rfl | rfl)
    ·left; have : (((a : Int) + 8 * sgn t).toNat : Int) = (a : Int) + 8 * sgn t := by omega
     rw [this]; exact ⟨rfl, h0⟩
    ·right; have : (((a : Int) + 16 * sgn t).toNat : Int) = (a : Int) + 16 * sgn t := by omega
     rw [this]; exact ⟨rfl, h1.1, h0, h1.2⟩
   ·rintro (⟨q, _⟩ | ⟨q, _⟩)
    ·left; omega
    ·right; omega
  ·rw [if_neg h1]
   simp only [List.not_mem_nil, or_false]
   constructor
   ·rintro rfl
    left; have : (((a : Int) + 8 * sgn t).toNat : Int) = (a : Int) + 8 * sgn t := by omega
    rw [this]; exact ⟨rfl, h0⟩
   ·rintro (⟨q, _⟩ | ⟨q, q2, _, q4⟩)
    ·omega
    ·rw [q] at q4; exact absurd ⟨q2, q4⟩ h1
 ·rw [if_neg h0]
  simp only [List.not_mem_nil, false_iff]
  rintro (⟨q, q1⟩ | ⟨_, _, q, _⟩)
  ·rw [q] at q1; exact h0 q1
  ·exact h0 q
theorem raw_mem (I : Inv p t c e h f) {m : Mv} : m ∈ rawL p t c e ↔ ∃ a b k, m = mv a b k ∧ PL p t c e a b k := by
 unfold rawL
 rw [List.mem_append, List.mem_flatMap]
 constructor
 ·rintro (⟨a, ha, hm⟩ | hm)
  ·rw [List.mem_range] at ha
   unfold fromL at hm
   split at hm
   ·simp at hm
   rename_i hs
   have hs : sideI (geti p a) = t := by simpa using hs
   split at hm
   ·rename_i h1
    obtain ⟨b, hb, hm⟩ := List.mem_flatMap.1 hm
    obtain ⟨k, hk, rfl⟩ := List.mem_map.1 hm
    rw [intoL_mem] at hk
    refine ⟨a, b, k, rfl, ?_⟩
    rcases List.mem_append.1 hb with hb | hb
    ·rw [List.mem_filter, Bool.or_eq_true, beq_iff_eq, beq_iff_eq] at hb
     exact .cap ha hs h1 hb.1 hb.2 hk
    ·rcases (push_mem I.tt (I.pw a ha h1)).1 hb with ⟨q1, q2⟩ | ⟨q1, q2, q3, q4⟩
     ·exact .push ha hs h1 q1 q2 hk
     ·have : k = 0 := by
       unfold Into at hk
       rw [if_pos (by rcases sgn_t I.tt with ⟨rfl, h⟩ | ⟨rfl, h⟩ <;> rw [h] at q1 <;> omega)] at hk
       exact hk
      subst this
      exact .dbl ha hs h1 q1 q2 q3 q4
   ·rename_i h1
    obtain ⟨b, hb, rfl⟩ := List.mem_map.1 hm
    rw [List.mem_filter, bne_iff_ne] at hb
    exact ⟨a, b, 0, rfl, .pc ha hs h1 hb.1 hb.2⟩
  ·unfold castL at hm
   obtain ⟨n, hn, rfl⟩ := List.mem_map.1 hm
   rw [List.mem_filter] at hn
   have hn4 : n < 4 := by have := hn.1; simp at this; omega
   exact ⟨_, _, _, rfl, .castle ((castB_iff hn4).1 hn.2)⟩
 ·rintro ⟨a, b, k, rfl, m⟩
  cases m with
  | pc ha hs h1 hb ho =>
   refine .inl ⟨a, List.mem_range.2 ha, ?_⟩
   unfold fromL
   rw [if_neg (by simpa using hs), if_neg h1]
   exact List.mem_map.2 ⟨b, by rw [List.mem_filter, bne_iff_ne]; exact ⟨hb, ho⟩, rfl⟩
  | cap ha hs h1 hb ho hi =>
   refine .inl ⟨a, List.mem_range.2 ha, ?_⟩
   unfold fromL
   rw [if_neg (by simpa using hs), if_pos h1]
   refine List.mem_flatMap.2 ⟨b, List.mem_append.2 (.inl ?_), List.mem_map.2 ⟨k, intoL_mem.2 hi, rfl⟩⟩
   rw [List.mem_filter, Bool.or_eq_true, beq_iff_eq, beq_iff_eq]
   exact ⟨hb, ho⟩
  | push ha hs h1 hb h0b hi =>
   refine .inl ⟨a, List.mem_range.2 ha, ?_⟩
   unfold fromL
   rw [if_neg (by simpa using hs), if_pos h1]
   exact List.mem_flatMap.2 ⟨b, List.mem_append.2 (.inr ((push_mem I.tt (I.pw a ha h1)).2 (.inl ⟨hb, h0b⟩))), List.mem_map.2 ⟨k, intoL_mem.2 hi, rfl⟩⟩
  | dbl ha hs h1 hb hrow hmid h0b =>
   refine .inl ⟨a, List.mem_range.2 ha, ?_⟩
   unfold fromL
   rw [if_neg (by simpa using hs), if_pos h1]
   refine List.mem_flatMap.2 ⟨b, List.mem_append.2 (.inr ((push_mem I.tt (I.pw a ha h1)).2 (.inr ⟨hb, hrow, hmid, h0b⟩))), List.mem_map.2 ⟨0, intoL_mem.2 ?_, rfl⟩⟩
   unfold Into
   rw [if_pos (by rcases sgn_t I.tt with ⟨rfl, h⟩ | ⟨rfl, h⟩ <;> rw [h] at hb <;> omega)]
  | @castle n ho =>
   right
   unfold castL
   refine List.mem_map.2 ⟨n, ?_, rfl⟩
   rw [List.mem_filter]
   refine ⟨?_, (castB_iff ho.lt).2 ho⟩
   have := ho.lt
   have hcases : n = 0 ∨ n = 1 ∨ n = 2 ∨ n = 3 := by omega
   rcases hcases with rfl | rfl | rfl | rfl <;> simp
theorem push_nodup (ht : t = 0 ∨ t = 1) (ha : 8 ≤ a ∧ a < 56) : (pushL p t a).Nodup := by
 have hsg := sgn_t ht
 unfold pushL
 split
 ·split
  ·simp; omega
  ·simp
 ·simp
theorem from_nodup (I : Inv p t c e h f) (ha : a < 64) : (fromL p t e a).Nodup := by
 unfold fromL
 split
 ·exact List.nodup_nil
 split
 ·rename_i h1
  have ha8 := I.pw a ha h1
  unfold List.Nodup
  rw [List.pairwise_flatMap]
  constructor
  ·intro b _
   rw [List.pairwise_map]
   refine List.Pairwise.imp (R := (· ≠ ·)) (fun {x y} hxy e => hxy (mv_inj e).2.2) ?_
   show (intoL b).Nodup
   unfold intoL
   split <;> decide
  ·have hn : (pawnTo p t e a).Nodup := by
    unfold pawnTo
    rw [List.nodup_append]
    refine ⟨(reach_nodup p ha).sublist List.filter_sublist, push_nodup I.tt ha8, fun x hx y hy e => ?_⟩
    subst e
    have hr := pawn_reach h1 (List.mem_filter.1 hx).1
    rcases (push_mem I.tt ha8).1 hy with ⟨q, _⟩ | ⟨q, _⟩ <;> rcases sgn_t I.tt with ⟨_, h⟩ | ⟨_, h⟩ <;> rw [h] at q <;> omega
   refine List.Pairwise.imp (fun {x y} hxy => ?_) hn
   intro u hu v hv e
   obtain ⟨k1, _, rfl⟩ := List.mem_map.1 hu
   obtain ⟨k2, _, rfl⟩ := List.mem_map.1 hv
   exact hxy (mv_inj e).2.1
 ·unfold List.Nodup
  rw [List.pairwise_map]
  refine List.Pairwise.imp (fun {x y} hxy e => hxy (mv_inj e).2.1) ((reach_nodup p ha).sublist List.filter_sublist)
theorem fromL_fst {m : Mv} (hm : m ∈ fromL p t e a) : ∃ b k, m = mv a b k := by
 unfold fromL at hm
 split at hm
 ·simp at hm
 split at hm
 ·obtain ⟨b, _, hm⟩ := List.mem_flatMap.1 hm
  obtain ⟨k, _, rfl⟩ := List.mem_map.1 hm
  exact ⟨b, k, rfl⟩
 ·obtain ⟨b, _, rfl⟩ := List.mem_map.1 hm
  exact ⟨b, 0, rfl⟩
theorem raw_nodup (I : Inv p t c e h f) : (rawL p t c e).Nodup := by
 unfold rawL
 rw [List.nodup_append]
 refine ⟨?_, ?_, ?_⟩
 ·unfold List.Nodup
  rw [List.pairwise_flatMap]
  refine ⟨fun a ha => from_nodup I (List.mem_range.1 ha), ?_⟩
  refine List.Pairwise.imp (fun {x y} hxy => ?_) List.nodup_range
  intro u hu v hv e
  obtain ⟨b1, k1, rfl⟩ := fromL_fst hu
  obtain ⟨b2, k2, rfl⟩ := fromL_fst hv
  exact hxy (mv_inj e).1
 ·unfold castL List.Nodup
  rw [List.pairwise_map]
  have hd : ([0, 1, 2, 3] : List Nat).Pairwise (fun x y => ¬ mv (homeK x) (castTo x) 0 = mv (homeK y) (castTo y) 0) := by decide
  exact hd.sublist List.filter_sublist
 ·intro u hu v hv e
  subst e
  obtain ⟨a, ha, hu⟩ := List.mem_flatMap.1 hu
  obtain ⟨n, hn, e⟩ := List.mem_map.1 hv
  rw [List.mem_filter] at hn
  have hn4 : n < 4 := by have := hn.1; simp at this; omega
  have ho := (castB_iff hn4).1 hn.2
  have hc := I.cs n ho.lt ho.bit
  have hsg : (6 * sgn ((n / 2 : Nat) : Int)).natAbs = 6 := by
   have : ((n / 2 : Nat) : Int) = 0 ∨ ((n / 2 : Nat) : Int) = 1 := by omega
   rcases this with h | h <;> rw [h] <;> rfl
  have h6 : (geti p (homeK n)).natAbs = 6 := by rw [hc.1]; exact hsg
  unfold fromL at hu
  split at hu
  ·simp at hu
  split at hu
  ·rename_i h1
   obtain ⟨b, _, hm⟩ := List.mem_flatMap.1 hu
   obtain ⟨k, _, e2⟩ := List.mem_map.1 hm
   have := mv_inj (e2.trans e.symm)
   rw [this.1] at h1
   omega
  ·obtain ⟨b, hb, e2⟩ := List.mem_map.1 hu
   have hi := mv_inj (e2.trans e.symm)
   have hb := (List.mem_filter.1 hb).1
   rw [hi.1] at hb
   have := king_reach h6 hb
   rw [hi.2.1] at this
   have hcases : n = 0 ∨ n = 1 ∨ n = 2 ∨ n = 3 := by omega
   rcases hcases with rfl | rfl | rfl | rfl <;> exact this (by decide)
theorem scan_congr {q : List Int} {one : Bool} {x : Nat} : ∀ {r : List Nat}, (∀ j ∈ r, geti p (j : Int) = 0 ↔ geti q (j : Int) = 0) → scan p one x r = scan q one x r
 | [], _ => rfl
 | j :: r, h => by
  rw [scan_cons, scan_cons, scan_congr (r := r) (fun j hj => h j (List.mem_cons_of_mem _ hj))]
  have := h j (by simp)
  by_cases h1 : j = x
  ·rw [if_pos h1, if_pos h1]
  ·rw [if_neg h1, if_neg h1]
   by_cases h2 : geti p (j : Int) = 0
   ·have h3 := this.1 h2
    simp [h2, h3]
   ·have h3 : ¬ geti q (j : Int) = 0 := fun e => h2 (this.2 e)
    simp [h2, h3]
theorem attB_congr {q : List Int} {i x : Nat} (he : geti p i = geti q i) (hz : ∀ j : Nat, j < 64 → (geti p (j : Int) = 0 ↔ geti q (j : Int) = 0)) : attB p i x = attB q i x := by
 unfold attB
 rw [he]
 split
 ·rfl
 ·congr 1
  funext s
  exact scan_congr (fun j hj => hz j (ray_lt hj))
theorem fidx_congr {q : List Int} (hl : p.length = 64) (hq : q.length = 64) {v : Int} (hv : ∀ j : Nat, j < 64 → (geti p j = v ↔ geti q j = v)) : fidx (fun y => decide (y = v)) p = fidx (fun y => decide (y = v)) q := by
 unfold fidx
 have : p.findIdx? (fun y => decide (y = v)) = q.findIdx? (fun y => decide (y = v)) := by
  have e : p.map (fun y => decide (y = v)) = q.map (fun y => decide (y = v)) := by
   apply List.ext_getElem (by simp [hl, hq])
   intro j h1 h2
   simp only [List.length_map] at h1 h2
   simp only [List.getElem_map]
   have := hv j (by omega)
   rw [geti_some (List.getElem?_eq_getElem h1), geti_some (List.getElem?_eq_getElem h2)] at this
   rw [Bool.eq_iff_iff, decide_eq_true_eq, decide_eq_true_eq]
   exact this
  have f1 : ∀ l : List Int, l.findIdx? (fun y => decide (y = v)) = (l.map (fun y => decide (y = v))).findIdx? id := by
   intro l
   rw [List.findIdx?_map]
   rfl
  rw [f1, f1, e]
 rw [this]
theorem inChk_congr {q : List Int} (hl : p.length = 64) (hq : q.length = 64) (ht : t = 0 ∨ t = 1) (hc : ∀ j : Nat, j < 64 → geti p j = geti q j ∨ (sideI (geti p j) = t ∧ sideI (geti q j) = t ∧ geti p j ≠ kingV t ∧ geti q j ≠ kingV t)) : inChk p t = inChk q t := by
 unfold inChk
 have e1 : fidx (fun y => decide (y = kingV t)) p = fidx (fun y => decide (y = kingV t)) q := by
  refine fidx_congr hl hq (fun j hj => ?_)
  rcases hc j hj with h | ⟨_, _, h3, h4⟩
  ·rw [h]
  ·exact ⟨fun e => absurd e h3, fun e => absurd e h4⟩
 rw [e1]
 generalize (fidx (fun y => decide (y = kingV t)) q).toNat = x
 have hz : ∀ j : Nat, j < 64 → (geti p (j : Int) = 0 ↔ geti q (j : Int) = 0) := by
  intro j hj
  rcases hc j hj with h | ⟨h1, h2, _, _⟩
  ·rw [h]
  ·have a1 := side_cases (geti p j)
   have a2 := side_cases (geti q j)
   omega
 have e2 : attL p x (1 - t) 64 = attL q x (1 - t) 64 := by
  unfold attL
  congr 1
  refine List.filter_congr (fun i hi => ?_)
  rw [List.mem_range] at hi
  rcases hc i hi with h | ⟨h1, h2, _, _⟩
  ·rw [h, attB_congr h hz]
  ·rw [h1, h2]
   have : (t == 1 - t) = false := by rcases ht with rfl | rfl <;> rfl
   rw [this]; rfl
 rw [e2]
theorem safe_into (I : Inv p t c e h f) (m : PL p t c e a b k) : inChk (aft p t e a b k) t = inChk (aft p t e a b 0) t := by
 have hb := m.bds I
 by_cases hk : k = 0
 ·rw [hk]
 have hin : (geti p a).natAbs = 1 ∧ ¬ (b : Int) = e ∧ 2 ≤ k ∧ k ≤ 5 := by
  have key : Into b k → (geti p a).natAbs = 1 → (geti p a).natAbs = 1 ∧ ¬ (b : Int) = e ∧ 2 ≤ k ∧ k ≤ 5 := by
   intro hi h1
   unfold Into at hi
   split at hi
   ·exact absurd hi hk
   ·rename_i hr
    refine ⟨h1, fun he => ?_, hi⟩
    rcases I.ep with he' | ⟨b', he', hr', _, _⟩
    ·omega
    ·rcases I.tt with rfl | rfl <;> omega
  cases m with
  | pc ha hs h1 hb ho => exact absurd rfl hk
  | cap ha hs h1 hb ho hi => exact key hi h1
  | push ha hs h1 hb h0b hi => exact key hi h1
  | dbl ha hs h1 hb hrow hmid h0b => exact absurd rfl hk
  | castle ho => exact absurd rfl hk
 obtain ⟨h1, he, h2, h3⟩ := hin
 refine inChk_congr (by rw [aft_len]; exact I.len) (by rw [aft_len]; exact I.len) I.tt (fun j hj => ?_)
 have e1 : aft p t e a b k = ((p.set a 0).set b (geti p a)).set b (k * sgn t) := by
  unfold aft
  rw [if_pos h1, if_neg he, if_pos (by omega)]
 have e2 : aft p t e a b 0 = (p.set a 0).set b (geti p a) := by
  unfold aft
  rw [if_pos h1, if_neg he, if_neg (by omega)]
 rw [e1, e2, geti_set' (by omega) (by simp [I.len]; exact hb.2.1)]
 by_cases hjb : (j : Int) = (b : Int)
 ·right
  rw [if_pos hjb]
  have hjb' : j = b := by omega
  rw [set2_get I.len hb.1 hb.2.1, if_pos hjb']
  refine ⟨?_, hb.2.2.1, ?_, ?_⟩
  ·rcases sgn_t I.tt with ⟨rfl, h⟩ | ⟨rfl, h⟩ <;> rw [h]
   ·rw [side0]; omega
   ·rw [side1]; omega
  ·have hk6 := (kv I.tt).2.2
   intro e
   rw [← e] at hk6
   rcases sgn_t I.tt with ⟨_, h⟩ | ⟨_, h⟩ <;> rw [h] at hk6 <;> omega
  ·have hk6 := (kv I.tt).2.2
   intro e
   rw [← e] at hk6
   omega
 ·left; rw [if_neg hjb]
theorem pl_iff (I : Inv p t c e h f) : PL p t c e a b k ↔ a < 64 ∧ b < 64 ∧ sideI (geti p a) = t ∧ plB p t c e a b = true ∧ k ∈ kindsL p a b := by
 have ht := I.tt
 have s0 : sideI 0 = -1 := rfl
 constructor
 ·intro m
  have hb := m.bds I
  refine ⟨hb.1, hb.2.1, hb.2.2.1, ?_, ?_⟩
  ·unfold plB
   rw [Bool.or_eq_true]
   have hx : 0 < geti p a * sgn t := by
    have h1 := hb.2.2.1
    rcases sgn_t ht with ⟨rfl, h⟩ | ⟨rfl, h⟩ <;> rw [h]
    ·rw [side0] at h1; omega
    ·rw [side1] at h1; omega
   have hy : geti p b * sgn t ≤ 0 := by
    have h1 := hb.2.2.2.2
    have := side_cases (geti p b)
    rcases sgn_t ht with ⟨rfl, h⟩ | ⟨rfl, h⟩ <;> rw [h] <;> omega
   have hmay : mayB p t e a b = if geti p a * sgn t ≠ 1 then attB p a b
     else if attB p a b = true then (geti p b != 0) || ((b : Int) == e)
     else if (b : Int) = a + 8 * sgn t then geti p b == 0
     else (decide (((a / 8 : Nat) : Int) = 1 + 5 * t) && decide ((b : Int) = a + 16 * sgn t)) && ((geti p b == 0) && (geti p ((a : Int) + 8 * sgn t) == 0)) := by
    unfold mayB
    exact if_neg (by simp only [Bool.or_eq_true, decide_eq_true_eq]; omega)
   have hp1 : (geti p a).natAbs = 1 → geti p a * sgn t = 1 := by
    intro h1
    rw [pawn_val ht hb.2.2.1 h1]
    rcases sgn_t ht with ⟨_, h⟩ | ⟨_, h⟩ <;> rw [h] <;> rfl
   have hnz : geti p a ≠ 0 := by intro e0; rw [e0] at hx; simp at hx
   cases m with
   | pc ha hs h1 hb' ho =>
    left
    rw [hmay, if_pos (by rcases sgn_t ht with ⟨_, h⟩ | ⟨_, h⟩ <;> rw [h] at hx ⊢ <;> omega)]
    exact (reach_att hnz).1 hb'
   | cap ha hs h1 hb' ho hi =>
    left
    rw [hmay, if_neg (by simpa using hp1 h1), if_pos ((reach_att hnz).1 hb'), Bool.or_eq_true, bne_iff_ne, beq_iff_eq]
    rcases ho with ho | ho
    ·left; intro e0; rw [e0, s0] at ho; omega
    ·exact .inr ho
   | push ha hs h1 hb' h0b hi =>
    left
    have hna : ¬ attB p a b = true := by
     intro q
     have := pawn_reach h1 ((reach_att hnz).2 q)
     rcases sgn_t ht with ⟨_, h⟩ | ⟨_, h⟩ <;> rw [h] at hb' <;> omega
    rw [hmay, if_neg (by simpa using hp1 h1), if_neg hna, if_pos hb', h0b]
    rfl
   | dbl ha hs h1 hb' hrow hmid h0b =>
    left
    have hna : ¬ attB p a b = true := by
     intro q
     have := pawn_reach h1 ((reach_att hnz).2 q)
     rcases sgn_t ht with ⟨_, h⟩ | ⟨_, h⟩ <;> rw [h] at hb' <;> omega
    rw [hmay, if_neg (by simpa using hp1 h1), if_neg hna, if_neg (by rcases sgn_t ht with ⟨_, h⟩ | ⟨_, h⟩ <;> rw [h] at hb' ⊢ <;> omega), h0b, hmid, decide_eq_true hrow, decide_eq_true hb']
    rfl
   | @castle n ho =>
    right
    have hc := I.cs n ho.lt ho.bit
    have hsg : (6 * sgn ((n / 2 : Nat) : Int)).natAbs = 6 := by
     rw [ho.side]
     rcases sgn_t ht with ⟨_, h⟩ | ⟨_, h⟩ <;> rw [h] <;> rfl
    rw [Bool.and_eq_true, decide_eq_true_eq, List.any_eq_true, hc.1]
    refine ⟨hsg, n, ?_, ?_⟩
    ·have := ho.lt
     have hcases : n = 0 ∨ n = 1 ∨ n = 2 ∨ n = 3 := by omega
     rcases hcases with rfl | rfl | rfl | rfl <;> simp
    ·rw [Bool.and_eq_true, decide_eq_true_eq]
     exact ⟨(castB_iff ho.lt).2 ho, rfl⟩
  ·unfold kindsL
   cases m with
   | pc ha hs h1 hb' ho => rw [if_neg (fun q => h1 q.1)]; simp
   | cap ha hs h1 hb' ho hi =>
    unfold Into at hi
    split at hi
    ·rename_i hr; rw [if_neg (fun q => q.2 hr), hi]; simp
    ·rename_i hr; rw [if_pos ⟨h1, hr⟩]; simp only [List.mem_cons, List.not_mem_nil, or_false]; omega
   | push ha hs h1 hb' h0b hi =>
    unfold Into at hi
    split at hi
    ·rename_i hr; rw [if_neg (fun q => q.2 hr), hi]; simp
    ·rename_i hr; rw [if_pos ⟨h1, hr⟩]; simp only [List.mem_cons, List.not_mem_nil, or_false]; omega
   | dbl ha hs h1 hb' hrow hmid h0b =>
    rw [if_neg (fun q => q.2 (by rcases sgn_t ht with ⟨rfl, h⟩ | ⟨rfl, h⟩ <;> rw [h] at hb' <;> omega))]
    simp
   | @castle n ho =>
    have hc := I.cs n ho.lt ho.bit
    have hsg : (6 * sgn ((n / 2 : Nat) : Int)).natAbs = 6 := by
     rw [ho.side]
     rcases sgn_t ht with ⟨_, h⟩ | ⟨_, h⟩ <;> rw [h] <;> rfl
    rw [if_neg (fun q => by rw [hc.1] at q; omega)]
    simp
 ·rintro ⟨ha, hb, hs, hp, hk⟩
  unfold plB at hp
  rw [Bool.or_eq_true] at hp
  have hnz : geti p a ≠ 0 := by intro e0; rw [e0, s0] at hs; omega
  rcases hp with hp | hp
  ·unfold mayB at hp
   split at hp
   ·cases hp
   rename_i hxy
   simp only [Bool.or_eq_true, decide_eq_true_eq, not_or] at hxy
   have hsb : sideI (geti p b) ≠ t := by
    intro q
    apply hxy.2
    rcases sgn_t ht with ⟨rfl, h⟩ | ⟨rfl, h⟩ <;> rw [h]
    ·rw [side0] at q; omega
    ·rw [side1] at q; omega
   split at hp
   ·rename_i hn1
    have h1 : (geti p a).natAbs ≠ 1 := by
     intro h1
     rw [pawn_val ht hs h1] at hn1
     rcases sgn_t ht with ⟨_, h⟩ | ⟨_, h⟩ <;> rw [h] at hn1 <;> exact hn1 rfl
    have : k = 0 := by
     unfold kindsL at hk
     rw [if_neg (fun q => h1 q.1)] at hk
     simpa using hk
    subst this
    exact .pc ha hs h1 ((reach_att hnz).2 hp) hsb
   ·rename_i hn1
    have h1 : (geti p a).natAbs = 1 := by
     have : geti p a * sgn t = 1 := by simpa using hn1
     rcases sgn_t ht with ⟨_, h⟩ | ⟨_, h⟩ <;> rw [h] at this <;> omega
    have hi : Into b k := by
     unfold kindsL at hk
     unfold Into
     by_cases hr : 8 ≤ b ∧ b < 56
     ·rw [if_neg (fun q => q.2 hr)] at hk
      rw [if_pos hr]
      simpa using hk
     ·rw [if_pos ⟨h1, hr⟩] at hk
      rw [if_neg hr]
      simp only [List.mem_cons, List.not_mem_nil, or_false] at hk
      omega
    split at hp
    ·rename_i hat
     rw [Bool.or_eq_true, bne_iff_ne, beq_iff_eq] at hp
     refine .cap ha hs h1 ((reach_att hnz).2 hat) ?_ hi
     rcases hp with hp | hp
     ·left
      have := side_cases (geti p b)
      omega
     ·exact .inr hp
    ·split at hp
     ·rename_i hb8
      exact .push ha hs h1 hb8 (by simpa using hp) hi
     ·simp only [Bool.and_eq_true, decide_eq_true_eq, beq_iff_eq] at hp
      obtain ⟨⟨q1, q2⟩, q3, q4⟩ := hp
      have : k = 0 := by
       unfold Into at hi
       rw [if_pos (by rcases sgn_t ht with ⟨rfl, h⟩ | ⟨rfl, h⟩ <;> rw [h] at q2 <;> omega)] at hi
       exact hi
      subst this
      exact .dbl ha hs h1 q2 q1 q4 q3
  ·rw [Bool.and_eq_true, decide_eq_true_eq, List.any_eq_true] at hp
   obtain ⟨h6, n, hn, hp⟩ := hp
   rw [Bool.and_eq_true, decide_eq_true_eq] at hp
   have hn4 : n < 4 := by simp at hn; omega
   have ho := (castB_iff hn4).1 hp.1
   have hc := I.cs n ho.lt ho.bit
   rw [ho.side, ← (kv ht).1] at hc
   obtain ⟨k0, hk0, hu⟩ := I.kg t ht
   have e1 := (hu (homeK n) (by unfold homeK; split <;> omega)).1 hc.1
   have e2 := (hu a ha).1 (by
    rw [(kv ht).1]
    have := side_cases (geti p a)
    rcases sgn_t ht with ⟨rfl, h⟩ | ⟨rfl, h⟩ <;> rw [h] <;> omega)
   have : k = 0 := by
    unfold kindsL at hk
    rw [if_neg (fun q => by omega)] at hk
    simpa using hk
   subst this
   have ea : a = homeK n := by omega
   rw [ea, ← hp.2]
   exact .castle ho
theorem refL_mem (I : Inv p t c e h f) {m : Mv} : m ∈ refL p t c e ↔ ∃ a b k, m = mv a b k ∧ PL p t c e a b k ∧ inChk (aft p t e a b 0) t = false := by
 unfold refL
 rw [List.mem_flatMap]
 constructor
 ·rintro ⟨a, ha, hm⟩
  rw [List.mem_range] at ha
  split at hm
  ·simp at hm
  rename_i hs
  obtain ⟨b, hb, hm⟩ := List.mem_flatMap.1 hm
  rw [List.mem_range] at hb
  unfold refTo at hm
  split at hm
  ·rename_i hp
   rw [Bool.and_eq_true, Bool.not_eq_true'] at hp
   obtain ⟨k, hk, rfl⟩ := List.mem_map.1 hm
   exact ⟨a, b, k, rfl, (pl_iff I).2 ⟨ha, hb, by simpa using hs, hp.1, hk⟩, hp.2⟩
  ·simp at hm
 ·rintro ⟨a, b, k, rfl, m, hs⟩
  obtain ⟨ha, hb, hs', hp, hk⟩ := (pl_iff I).1 m
  refine ⟨a, List.mem_range.2 ha, ?_⟩
  rw [if_neg (by simpa using hs')]
  refine List.mem_flatMap.2 ⟨b, List.mem_range.2 hb, ?_⟩
  unfold refTo
  rw [if_pos (by rw [hp, hs]; rfl)]
  exact List.mem_map.2 ⟨k, hk, rfl⟩
theorem refL_lt (p : List Int) (t c e : Int) : (refL p t c e).Pairwise LtMv := by
 unfold refL
 rw [List.pairwise_flatMap]
 have hto : ∀ {a b : Nat} {m : Mv}, m ∈ refTo p t c e a b → m.1 = a ∧ m.2.1 = b := by
  intro a b m hm
  unfold refTo at hm
  split at hm
  ·obtain ⟨k, _, rfl⟩ := List.mem_map.1 hm; exact ⟨rfl, rfl⟩
  ·simp at hm
 constructor
 ·intro a _
  split
  ·exact List.Pairwise.nil
  rw [List.pairwise_flatMap]
  constructor
  ·intro b _
   unfold refTo
   split
   ·rw [List.pairwise_map]
    have : (kindsL p a b).Pairwise (· < ·) := by unfold kindsL; split <;> decide
    exact this.imp (fun {x y} hxy => .inr ⟨rfl, .inr ⟨rfl, hxy⟩⟩)
   ·exact List.Pairwise.nil
  ·refine List.Pairwise.imp (fun {x y} hxy => ?_) (List.pairwise_lt_range (n := 64))
   intro u hu v hv
   have h1 := hto hu
   have h2 := hto hv
   right
   refine ⟨by rw [h1.1, h2.1], .inl ?_⟩
   rw [h1.2, h2.2]; omega
 ·refine List.Pairwise.imp (fun {x y} hxy => ?_) (List.pairwise_lt_range (n := 64))
  intro u hu v hv
  have g : ∀ {a : Nat} {m : Mv}, m ∈ (if sideI (geti p a) ≠ t then [] else (List.range 64).flatMap (refTo p t c e a)) → m.1 = a := by
   intro a m hm
   split at hm
   ·simp at hm
   ·obtain ⟨b, _, hm⟩ := List.mem_flatMap.1 hm
    exact (hto hm).1
  left
  rw [g hu, g hv]; omega
theorem moves_eq (I : Inv p t c e h f) : sortK cfMv (progL p t c e) = refL p t c e := by
 refine sortK_eq cfMv_swo cfMv_tot ((raw_nodup I).sublist List.filter_sublist) ((refL_lt p t c e).imp (fun {x y} hxy => (cfMv_lt x y).2 hxy)) (fun m => ?_)
 unfold progL
 rw [List.mem_filter, raw_mem I, refL_mem I]
 constructor
 ·rintro ⟨⟨a, b, k, rfl, m⟩, hs⟩
  refine ⟨a, b, k, rfl, m, ?_⟩
  unfold safeB mv at hs
  simp only [Int.toNat_natCast, Bool.not_eq_true'] at hs
  rw [← safe_into I m]; exact hs
 ·rintro ⟨a, b, k, rfl, m, hs⟩
  refine ⟨⟨a, b, k, rfl, m⟩, ?_⟩
  unfold safeB mv
  simp only [Int.toNat_natCast, Bool.not_eq_true']
  rw [safe_into I m]; exact hs
end
end Go.Proofs.Ytfmmlmiakkjaiaa
