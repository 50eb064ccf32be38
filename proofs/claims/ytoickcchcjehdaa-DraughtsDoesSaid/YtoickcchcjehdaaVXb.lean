/-
  DraughtsDoes: what ways the moves are; the board behind a way is a board again.
-/
import Derived.Test.YtoickcchcjehdaaVXa
namespace Go.Proofs.Ytoickcchcjehdaa
open Go Go.GL

def Chn (w : List Int) : Prop := ∀ i, i + 1 < w.length → ∃ P Q : Nat, geti w (i : Int) = (P : Int) ∧ geti w ((i + 1 : Nat) : Int) = (Q : Int) ∧ pairOk P Q
theorem geti_left {a c : List Int} {i : Nat} (h : i < a.length) : geti (a ++ c) (i : Int) = geti a (i : Int) := by
  rw [geti_nat, geti_nat, List.getD_eq_getElem?_getD, List.getD_eq_getElem?_getD, List.getElem?_append_left h]
theorem geti_end {a : List Int} {x : Int} : geti (a ++ [x]) (a.length : Int) = x := by
  rw [geti_nat, List.getD_eq_getElem?_getD, List.getElem?_append_right (Nat.le_refl _), Nat.sub_self]
  rfl
theorem Chn.snoc {w : List Int} {p q : Nat} (h : Chn w) (h0 : 0 < w.length) (hl : geti w ((w.length - 1 : Nat) : Int) = (p : Int)) (hp : pairOk p q) : Chn (w ++ [(q : Int)]) := fun i hi => by
  rw [List.length_append, List.length_singleton] at hi
  by_cases e : i + 1 < w.length
  · obtain ⟨P, Q, e1, e2, h3⟩ := h i e
    exact ⟨P, Q, by rw [geti_left (by omega), e1], by rw [geti_left e, e2], h3⟩
  · have e1 : i = w.length - 1 := by omega
    refine ⟨p, q, by rw [geti_left (by omega), e1, hl], ?_, hp⟩
    rw [show i + 1 = w.length by omega, geti_end]

theorem JS_way {t : Nat → Int} {crown : Nat → Bool} {ds : List Nat} {st : Nat} (hd : ∀ d ∈ ds, d < 4) : ∀ (n p : Nat) (way over : List Int), 1 ≤ p → p < 33 → Chn way → 0 < way.length → geti way ((way.length - 1 : Nat) : Int) = (p : Int) →
    ∀ x ∈ JS t crown ds st n p way over, Chn x ∧ way.length + 1 ≤ x.length ∧ geti x 0 = geti way 0
  | 0, _, _, _, _, _, _, _, _ => fun x hx => by simp [JS] at hx
  | n + 1, p, way, over, hp1, hp2, hc, h0, hl => fun x hx => by
    rw [JS_succ, List.mem_flatMap] at hx
    obtain ⟨d, hdm, hx⟩ := hx
    have hd4 := hd d hdm
    unfold GJ at hx
    cases hk : okJ t st over p d with
    | false => rw [hk] at hx; cases hx
    | true =>
      rw [hk, if_pos rfl] at hx
      unfold okJ at hk
      simp only [Bool.and_eq_true, bne_iff_ne, ne_eq] at hk
      have z1 : nx p d ≠ 0 := hk.1.1.1.1
      have z2 : nx (nx p d) d ≠ 0 := hk.1.2
      obtain ⟨_, m2⟩ := nx_m p hp2 d hd4 hp1
      obtain ⟨_, k2⟩ := nx_m (nx p d) m2 d hd4 (by omega)
      have hpr : pairOk p (nx (nx p d) d) := ⟨⟨hp1, hp2, by omega, k2⟩, d, hd4, .inr (by unfold nx2; rw [if_neg z1])⟩
      have hc2 := hc.snoc h0 hl hpr
      have e0 : geti (way ++ [((nx (nx p d) d : Nat) : Int)]) 0 = geti way 0 := by
        have := geti_left (a := way) (c := [((nx (nx p d) d : Nat) : Int)]) h0
        exact this
      have hone : x = way ++ [((nx (nx p d) d : Nat) : Int)] → Chn x ∧ way.length + 1 ≤ x.length ∧ geti x 0 = geti way 0 := fun e => by
        rw [e]
        exact ⟨hc2, by simp, e0⟩
      split at hx
      · exact hone (List.mem_singleton.1 hx)
      · split at hx
        · exact hone (List.mem_singleton.1 hx)
        · obtain ⟨r1, r2, r3⟩ := JS_way hd n _ _ _ (by omega) k2 hc2 (by simp) (by rw [List.length_append, List.length_singleton, Nat.add_sub_cancel, geti_end]) x hx
          rw [List.length_append, List.length_singleton] at r2
          exact ⟨r1, by omega, r3.trans e0⟩

/-- A way of the moves. -/
structure MvOk (b : List Int) (s : Int) (w : List Int) : Prop where
  way : WayOk w
  own : ∃ P : Nat, geti w 0 = (P : Int) ∧ 1 ≤ P ∧ P < 33 ∧ 0 < tof b s P
theorem allOf_mem1 {f : Nat → List (List Int)} {k : Nat} {x : List Int} (h : x ∈ allOf f k) : ∃ p, 1 ≤ p ∧ p ≤ k ∧ x ∈ f p := by
  unfold allOf at h
  obtain ⟨i, hi, hx⟩ := List.mem_flatMap.1 h
  exact ⟨i + 1, by omega, by have := List.mem_range.1 hi; omega, hx⟩
theorem moves_ok {b : List Int} {s : Int} {w : List Int} (h : w ∈ movesS b s) : MvOk b s w := by
  unfold movesS at h
  split at h
  · rw [compR_mem, sortK_mem] at h
    obtain ⟨p, p1, p2, hx⟩ := allOf_mem1 h
    unfold sAt at hx
    split at hx
    · rename_i ht
      obtain ⟨d, hd, hx⟩ := List.mem_flatMap.1 hx
      split at hx
      · rename_i hn
        rw [Bool.and_eq_true, bne_iff_ne] at hn
        have hd4 := (dirs_lt s (tof b s p)).2 d hd
        obtain ⟨_, m2⟩ := nx_m p (by omega) d hd4 p1
        rw [List.mem_singleton] at hx
        subst hx
        refine ⟨⟨by simp, by simp, fun i hi => ?_⟩, p, rfl, p1, by omega, ht⟩
        obtain rfl : i = 0 := by simp at hi; omega
        exact ⟨p, nx p d, rfl, rfl, ⟨p1, by omega, by omega, m2⟩, d, hd4, .inl rfl⟩
      · cases hx
    · cases hx
  · rw [compR_mem, sortK_mem] at h
    obtain ⟨p, p1, p2, hx⟩ := allOf_mem1 h
    have hrow := jAt_row p w hx
    unfold jAt at hx
    split at hx
    · rename_i ht
      obtain ⟨r1, r2, r3⟩ := JS_way (dirs_lt s (tof b s p)).2 13 p [(p : Int)] [] p1 (by omega) (fun i hi => by simp at hi) (by simp) rfl w hx
      exact ⟨⟨by simpa using r2, hrow, r1⟩, p, r3, p1, by omega, ht⟩
    · cases hx

/-- How many numbers of a kind. -/
def cnt (f : Int → Bool) (b : List Int) (n : Nat) : Nat := (List.range n).countP fun (q : Nat) => f (geti b (q : Int))
theorem cnt_succ (f : Int → Bool) (b : List Int) (n : Nat) : cnt f b (n + 1) = cnt f b n + (if f (geti b (n : Int)) then 1 else 0) := by
  unfold cnt
  rw [List.range_succ, List.countP_append, List.countP_singleton]
theorem geti_set {b : List Int} {m q : Nat} {v : Int} (hm : m < b.length) : geti (b.set m v) (q : Int) = if q = m then v else geti b (q : Int) := by
  rw [geti_nat, geti_nat, List.getD_eq_getElem?_getD, List.getD_eq_getElem?_getD, List.getElem?_set]
  by_cases e : q = m
  · rw [if_pos e, if_pos e.symm, if_pos (by omega)]; rfl
  · rw [if_neg e, if_neg (fun h => e h.symm)]
theorem cnt_hi {f : Int → Bool} {b : List Int} {m : Nat} {v : Int} (hm : m < b.length) : ∀ {n : Nat}, n ≤ m → cnt f (b.set m v) n = cnt f b n
  | 0, _ => rfl
  | n + 1, h => by rw [cnt_succ, cnt_succ, cnt_hi hm (by omega), geti_set hm, if_neg (show ¬ n = m by omega)]
theorem cnt_set {f : Int → Bool} {b : List Int} {m : Nat} {v : Int} (hm : m < b.length) : ∀ {n : Nat}, m < n → cnt f (b.set m v) n + (if f (geti b (m : Int)) then 1 else 0) = cnt f b n + (if f v then 1 else 0)
  | 0, h => by omega
  | n + 1, h => by
    rw [cnt_succ, cnt_succ, geti_set hm]
    by_cases e : n = m
    · subst e
      rw [if_pos rfl, cnt_hi hm (Nat.le_refl _)]
      omega
    · rw [if_neg e]
      have := cnt_set (f := f) (v := v) hm (n := n) (by omega)
      omega

/-- A board on which each side has few pieces. -/
structure Good (b : List Int) (s : Int) : Prop where
  brd : Brd b s
  own : cnt (fun x => decide (0 < s * x)) b 33 ≤ 12
  oth : cnt (fun x => decide (s * x < 0)) b 33 ≤ 12
theorem good_rem {b : List Int} {s : Int} (h : Good b s) : rem (tof b s) [] < 13 := by
  have := h.oth
  have e : rem (tof b s) [] = cnt (fun x => decide (s * x < 0)) b 33 := by
    unfold rem cnt tof
    congr 1
    funext q
    simp
  omega

theorem clr_keep {w b : List Int} (hb : b.length = 33) (hw : WayOk w) (hv : ∀ q : Nat, q < 33 → -2 ≤ geti b (q : Int) ∧ geti b (q : Int) ≤ 2) (h0 : geti b 0 = 0) {f : Int → Bool} (hf : f 0 = false) : ∀ i, i < w.length → (∀ q : Nat, q < 33 → -2 ≤ geti (clr w b i) (q : Int) ∧ geti (clr w b i) (q : Int) ≤ 2) ∧ geti (clr w b i) 0 = 0 ∧ cnt f (clr w b i) 33 ≤ cnt f b 33
  | 0, _ => ⟨hv, h0, Nat.le_refl _⟩
  | i + 1, hi => by
    obtain ⟨i1, i2, i3⟩ := clr_keep hb hw hv h0 hf i (by omega)
    obtain ⟨P, Q, e1, e2, hpq⟩ := hw.prs i hi
    have hm := pair_mid hpq
    unfold clr
    dsimp only
    rw [e1, e2, Int.toNat_natCast, Int.toNat_natCast]
    generalize midS P Q = m at *
    have hl : m < (clr w b i).length := by rw [clr_len, hb]; exact hm
    by_cases z : m = 0
    · rw [if_pos z]; exact ⟨i1, i2, i3⟩
    · rw [if_neg z]
      refine ⟨fun q hq => ?_, ?_, ?_⟩
      · rw [geti_set hl]
        split
        · omega
        · exact i1 q hq
      · have := geti_set (b := clr w b i) (q := 0) (v := 0) hl
        rw [if_neg (by omega)] at this
        exact this.trans i2
      · have := cnt_set (f := f) (v := 0) hl (n := 33) hm
        rw [hf] at this
        simp only [Bool.false_eq_true, if_false] at this
        omega

/-- The board behind a way, for the other side. -/
theorem good_do {b : List Int} {s : Int} (h : Good b s) {w : List Int} (hw : MvOk b s w) : Good (doS b s w) (-s) := by
  obtain ⟨P0, e0, p1, p2, hown⟩ := hw.own
  have hb := h.brd.len
  have hW := hw.way
  have h2 := hW.two
  obtain ⟨PL, q1, q2, eL⟩ := way_at hb hW (i := w.length - 1) (by omega)
  have hset : (b.set P0 0).length = 33 := by rw [List.length_set, hb]
  have hP0 : P0 < b.length := by omega
  have hv0 : ∀ q : Nat, q < 33 → -2 ≤ geti (b.set P0 0) (q : Int) ∧ geti (b.set P0 0) (q : Int) ≤ 2 := fun q hq => by
    rw [geti_set hP0]
    split
    · omega
    · exact h.brd.val q hq
  have hz0 : geti (b.set P0 0) 0 = 0 := by
    have := geti_set (b := b) (q := 0) (v := 0) hP0
    rw [if_neg (by omega)] at this
    exact this.trans h.brd.zero
  have hlen : (clr w (b.set P0 0) (w.length - 1)).length = 33 := by rw [clr_len, hset]
  have hPL : PL < (clr w (b.set P0 0) (w.length - 1)).length := by omega
  have hpc := h.brd.val P0 p2
  have hs := h.brd.sgn
  obtain ⟨x, hx, hxv⟩ : ∃ x, doS b s w = (clr w (b.set P0 0) (w.length - 1)).set PL x ∧ (0 < s * x ∧ -2 ≤ x ∧ x ≤ 2) := by
    refine ⟨if rowS s (lastOf w) then 2 * s else geti b (geti w 0), ?_, ?_⟩
    · unfold doS lastOf
      rw [eL, e0, Int.toNat_natCast, Int.toNat_natCast]
    · unfold tof at hown
      split
      · rcases hs with e | e <;> rw [e] <;> decide
      · rw [e0]; exact ⟨hown, hpc⟩
  rw [hx]
  have cO := (clr_keep (w := w) hset hW hv0 hz0 (f := fun x => decide (0 < s * x)) (by simp) (w.length - 1) (by omega)).2.2
  obtain ⟨cv, cz, cE⟩ := clr_keep (w := w) hset hW hv0 hz0 (f := fun x => decide (s * x < 0)) (by simp) (w.length - 1) (by omega)
  have sO := cnt_set (f := fun x => decide (0 < s * x)) (v := 0) hP0 (n := 33) p2
  have sE := cnt_set (f := fun x => decide (s * x < 0)) (v := 0) hP0 (n := 33) p2
  have lO := cnt_set (f := fun x => decide (0 < s * x)) (v := x) hPL (n := 33) q2
  have lE := cnt_set (f := fun x => decide (s * x < 0)) (v := x) hPL (n := 33) q2
  have hO := h.own
  have hE := h.oth
  unfold tof at hown
  have d1 : decide (0 < s * geti b (P0 : Int)) = true := decide_eq_true hown
  have d2 : decide (s * geti b (P0 : Int) < 0) = false := decide_eq_false (by omega)
  have d3 : decide (0 < s * x) = true := decide_eq_true hxv.1
  have d4 : decide (s * x < 0) = false := decide_eq_false (by omega)
  simp only [d1, Int.mul_zero, Int.lt_irrefl, decide_false, Bool.false_eq_true, if_false, if_true] at sO
  simp only [d2, Int.mul_zero, Int.lt_irrefl, decide_false, Bool.false_eq_true, if_false] at sE
  simp only [d3, if_true] at lO
  simp only [d4, Bool.false_eq_true, if_false] at lE
  refine ⟨⟨by rw [List.length_set, hlen], ?_, fun q hq => ?_, by omega⟩, ?_, ?_⟩
  · have := geti_set (b := clr w (b.set P0 0) (w.length - 1)) (q := 0) (v := x) hPL
    rw [if_neg (by omega)] at this
    exact this.trans cz
  · rw [geti_set hPL]
    split
    · omega
    · exact cv q hq
  · have e : (fun y : Int => decide (0 < -s * y)) = fun y => decide (s * y < 0) := by
      funext y
      rw [Bool.eq_iff_iff, decide_eq_true_eq, decide_eq_true_eq, Int.neg_mul]
      omega
    rw [e]
    split at lE <;> omega
  · have e : (fun y : Int => decide (-s * y < 0)) = fun y => decide (0 < s * y) := by
      funext y
      rw [Bool.eq_iff_iff, decide_eq_true_eq, decide_eq_true_eq, Int.neg_mul]
      omega
    rw [e]
    split at lO <;> omega
end Go.Proofs.Ytoickcchcjehdaa
