/-
  BridgeAuctions: the auction so far, as its calls tell it.
-/
import Derived.Test.YtnplejebgbdfpaaPG
namespace Go.Proofs.Ytnplejebgbdfpaa
open Go Go.GL

/-- A bid of a side in a strain. -/
def MB (l : List Int) (s t : Int) (j : Nat) : Prop := (j : Int) % 2 = s ∧ 3 ≤ geti l j ∧ (geti l j - 3) % 5 = t
def FirstOf (l : List Int) (i : Nat) (s t v : Int) : Prop :=
  (v = -1 ∧ ∀ j : Nat, j < i → ¬ MB l s t j) ∨ ∃ j : Nat, j < i ∧ MB l s t j ∧ (∀ k : Nat, k < j → ¬ MB l s t k) ∧ v = (j : Int) % 4

structure Au where
  bid : Int
  bidder : Int
  doubled : Int
  last : Int
  passes : Int
  first : List Int
  calls : Int

structure InvA (l : List Int) (i : Nat) (a : Au) : Prop where
  hc : a.calls = i
  hf : a.first.length = 10 ∧ ∀ s t : Int, 0 ≤ s → s < 2 → 0 ≤ t → t < 5 → FirstOf l i s t (geti a.first (s * 5 + t))
  hr : ∀ j : Nat, j < i → 0 ≤ geti l j ∧ geti l j ≤ 37
  hb : (a.bid = -1 ∧ a.passes = i ∧ i ≤ 4 ∧ ∀ j : Nat, j < i → geti l j = 0) ∨
    ∃ b L : Nat, b ≤ L ∧ L < i ∧ a.bid = geti l b - 3 ∧ 3 ≤ geti l b ∧ a.bidder = (b : Int) % 4 ∧ a.last = (L : Int) % 4 ∧ a.passes = (i : Int) - L - 1 ∧ a.passes ≤ 3 ∧ geti l L ≠ 0 ∧
      (∀ j : Nat, L < j → j < i → geti l j = 0) ∧ (∀ j : Nat, j < i → geti l j ≤ geti l b) ∧ (∀ j : Nat, b < j → j < i → geti l j < 3) ∧ a.doubled = (if 3 ≤ geti l L then 0 else geti l L)

theorem first_grow {l : List Int} {i : Nat} {s t v : Int} (h : FirstOf l i s t v) (hn : ¬ MB l s t i ∨ 0 ≤ v) : FirstOf l (i + 1) s t v := by
  rcases h with ⟨h1, h2⟩ | ⟨j, h1, h2, h3, h4⟩
  · left
    refine ⟨h1, fun j hj => ?_⟩
    by_cases e : j = i
    · subst e
      rcases hn with hn | hn
      · exact hn
      · omega
    · exact h2 j (by omega)
  · exact Or.inr ⟨j, by omega, h2, h3, h4⟩

def overA (a : Au) : Bool := (a.passes == 4) || (decide (0 ≤ a.bid) && a.passes == 3)

theorem over_p (a : Au) : bridge_auction_over_m a.bid a.bidder a.doubled a.last a.passes a.first a.calls = some (overA a) := rfl

theorem take_len {l : List Int} {i : Nat} (h : i ≤ l.length) : (l.take i).length = i := by simp; omega

theorem over_r {l : List Int} {i : Nat} {a : Au} (hl : l.length ≤ 17592186044416) (hi : i ≤ l.length) (h : InvA l i a) : gameroomref_auctionOver_m (cut l 0 (i : Int)) = some (overA a) := by
  rw [cut0, aOver_eq _ (by rw [take_len hi]; omega), take_len hi]
  congr 1
  rw [Bool.eq_iff_iff]
  unfold overA
  simp only [Bool.or_eq_true, Bool.and_eq_true, decide_eq_true_eq, beq_iff_eq]
  rcases h.hb with ⟨h1, h2, h3, h4⟩ | ⟨b, L, h1, h2, h3, h4, h5, h6, h7, h8, h9, h10, h11, h12, h13⟩
  · constructor
    · rintro ⟨h5, -⟩; left; omega
    · intro h5
      have : i = 4 := by omega
      subst this
      refine ⟨by omega, ?_, ?_, ?_⟩ <;> (rw [geti_take (by omega)]; exact h4 _ (by omega))
  · constructor
    · rintro ⟨h14, h15, h16, h17⟩
      right
      rw [geti_take (by omega)] at h15 h16 h17
      refine ⟨by omega, ?_⟩
      have e1 : L ≠ i - 1 := fun e => h9 (e ▸ h17)
      have e2 : L ≠ i - 2 := fun e => h9 (e ▸ h16)
      have e3 : L ≠ i - 3 := fun e => h9 (e ▸ h15)
      omega
    · intro h14
      have h15 : a.passes = 3 := by rcases h14 with h | ⟨-, h⟩ <;> omega
      refine ⟨by omega, ?_, ?_, ?_⟩ <;> (rw [geti_take (by omega)]; exact h10 _ (by omega) (by omega))

theorem w64_small {x : Int} (h : -1000000 ≤ x ∧ x ≤ 1000000) : w64 x = x := w64_of (by omega)

/-- May a call be: as the reference says it of what was called. -/
def mayA (a : Au) (i c : Int) : Bool :=
  if c = 0 then true else if c = 1 then decide (0 ≤ a.bid ∧ (i % 4 - a.last) % 2 = 1 ∧ a.doubled = 0) else if c = 2 then decide (0 ≤ a.bid ∧ (i % 4 - a.last) % 2 = 1 ∧ a.doubled = 1) else decide (a.bid < c - 3)

theorem may_r {l : List Int} {i : Nat} {a : Au} (hl : l.length ≤ 17592186044416) (hi : i < l.length) (h : InvA l i a) (c : Int) (hc : 0 ≤ c ∧ c ≤ 37) :
    gameroomref_callMay_m (cut l 0 (i : Int)) c = some (mayA a i c) := by
  rw [cut0]
  have hlen := take_len (l := l) (i := i) (by omega)
  unfold mayA
  rcases h.hb with ⟨h1, h2, h3, h4⟩ | ⟨b, L, h1, h2, h3, h4, h5, h6, h7, h8, h9, h10, h11, h12, h13⟩
  · rw [may_eq (l.take i) c (-1) (by omega) (by omega) (by omega) (by intro j _ hj; rw [hlen] at hj; rw [geti_take hj]; exact h4 j hj) (by intro h; omega)]
    congr 1
    by_cases c0 : c = 0
    · rw [if_pos c0, if_pos c0]
    rw [if_neg c0, if_neg c0]
    by_cases c1 : c = 1
    · rw [if_pos c1, if_pos c1, decide_eq_false (by omega), decide_eq_false (by omega)]
    rw [if_neg c1, if_neg c1]
    by_cases c2 : c = 2
    · rw [if_pos c2, if_pos c2, decide_eq_false (by omega), decide_eq_false (by omega)]
    rw [if_neg c2, if_neg c2, decide_eq_true (by omega)]
    have : (l.take i).any (fun x => decide (c ≤ x)) = false := by
      rw [List.any_eq_false]
      intro x hx
      obtain ⟨j, hj, rfl⟩ := List.getElem_of_mem hx
      have e := h4 j (by omega)
      rw [← geti_take (i := i) (by omega), geti_some (List.getElem?_eq_getElem hj)] at e
      simp only [decide_eq_true_eq]; omega
    rw [this]; rfl
  · rw [may_eq (l.take i) c (L : Int) (by omega) (by omega) (by omega) (by intro j hLj hj; rw [hlen] at hj; rw [geti_take hj]; exact h10 j (by omega) hj) (by intro _; rw [geti_take (by omega)]; exact h9), hlen, geti_take (by omega)]
    congr 1
    have hL := h.hr L h2
    by_cases c0 : c = 0
    · rw [if_pos c0, if_pos c0]
    rw [if_neg c0, if_neg c0]
    have ed : a.doubled = 0 ↔ 3 ≤ geti l L := by rw [h13]; split <;> omega
    have ed1 : a.doubled = 1 ↔ geti l L = 1 := by rw [h13]; split <;> omega
    by_cases c1 : c = 1
    · rw [if_pos c1, if_pos c1, Bool.eq_iff_iff]
      simp only [decide_eq_true_eq]
      rw [ed, h6]
      constructor <;> rintro ⟨q1, q2, q3⟩ <;> exact ⟨by omega, by omega, q3⟩
    rw [if_neg c1, if_neg c1]
    by_cases c2 : c = 2
    · rw [if_pos c2, if_pos c2, Bool.eq_iff_iff]
      simp only [decide_eq_true_eq]
      rw [ed1, h6]
      constructor <;> rintro ⟨q1, q2, q3⟩ <;> exact ⟨by omega, by omega, q3⟩
    rw [if_neg c2, if_neg c2, Bool.eq_iff_iff]
    simp only [Bool.not_eq_true', List.any_eq_false, decide_eq_true_eq]
    constructor
    · intro q
      have hb : (l.take i)[b]? = some (geti l b) := by
        rw [List.getElem?_take_of_lt (by omega), List.getElem?_eq_getElem (by omega)]
        congr 1
        exact (geti_some (List.getElem?_eq_getElem (by omega))).symm
      have := q _ (List.mem_of_getElem? hb)
      omega
    · intro q x hx
      obtain ⟨j, hj, rfl⟩ := List.getElem_of_mem hx
      have e := h11 j (by omega)
      rw [← geti_take (i := i) (by omega), geti_some (List.getElem?_eq_getElem hj)] at e
      omega

/-- The auction behind a call. -/
def nextA (a : Au) (i : Nat) (c : Int) : Au :=
  if c = 0 then { a with passes := a.passes + 1, calls := a.calls + 1 }
  else if c = 1 then { a with doubled := 1, last := (i : Int) % 4, passes := 0, calls := a.calls + 1 }
  else if c = 2 then { a with doubled := 2, last := (i : Int) % 4, passes := 0, calls := a.calls + 1 }
  else { bid := c - 3, bidder := (i : Int) % 4, doubled := 0, last := (i : Int) % 4, passes := 0, calls := a.calls + 1,
         first := if geti a.first (((i : Int) % 2) * 5 + (c - 3) % 5) < 0 then a.first.set (((i : Int) % 2) * 5 + (c - 3) % 5).toNat ((i : Int) % 4) else a.first }

def tupA (a : Au) : Int × Int × Int × Int × Int × List Int × Int := (a.bid, a.bidder, a.doubled, a.last, a.passes, a.first, a.calls)

theorem call_p {l : List Int} {i : Nat} {a : Au} (hl : l.length ≤ 17592186044416) (hi : i < l.length) (h : InvA l i a) (c : Int) (hc : 0 ≤ c ∧ c ≤ 37) :
    bridge_auction_call_m a.bid a.bidder a.doubled a.last a.passes a.first a.calls c = some (if mayA a i c then (true, tupA (nextA a i c)) else (false, tupA a)) := by
  have hcc := h.hc
  have hbp : a.bid = -1 ∨ (0 ≤ a.last ∧ a.last < 4) := by
    rcases h.hb with ⟨h1, _⟩ | ⟨b, L, _, _, _, _, _, h6, _⟩
    · exact Or.inl h1
    · right; omega
  have hpp : 0 ≤ a.passes ∧ a.passes ≤ 4 := by
    rcases h.hb with ⟨h1, h2, h3, h4⟩ | ⟨b, L, h1, h2, h3, h4, h5, h6, h7, h8, _⟩ <;> omega
  have tm : Int.tmod a.calls 4 = (i : Int) % 4 := by rw [hcc, Int.tmod_eq_emod_of_nonneg (by omega)]
  have hoth : 0 ≤ a.bid → bAnd (w64 ((i : Int) % 4 - a.last)) 1 = ((i : Int) % 4 - a.last) % 2 := by
    intro hb
    exact band1i _ (by omega)
  have hw : w64 (a.calls + 1) = a.calls + 1 := w64_of (by omega)
  have ec : ((decide ((0 : Int) ≤ a.bid)) && ((bAnd (w64 ((i : Int) % 4 - a.last)) 1) == 1)) = decide (0 ≤ a.bid ∧ ((i : Int) % 4 - a.last) % 2 = 1) := by
    by_cases hb : 0 ≤ a.bid
    · rw [hoth hb, Bool.eq_iff_iff]
      simp only [Bool.and_eq_true, decide_eq_true_eq, beq_iff_eq]
    · simp [hb]
  unfold bridge_auction_call_m mayA nextA
  rw [tm, ec]
  by_cases c0 : c = 0
  · rw [if_pos (by simpa using c0), if_pos c0, if_pos c0, if_pos rfl, hw, w64_of (by omega)]
    rfl
  rw [if_neg (by simpa using c0), if_neg c0, if_neg c0]
  by_cases c1 : c = 1
  · rw [if_pos (by simpa using c1), if_pos c1, if_pos c1]
    by_cases q : 0 ≤ a.bid ∧ ((i : Int) % 4 - a.last) % 2 = 1 ∧ a.doubled = 0
    · rw [if_neg (by simp [q]), if_pos (decide_eq_true q)]
      simp only [bridge_auction_call_J2, bridge_auction_call_J1]
      rw [tm, hw]
      rfl
    · rw [if_pos, if_neg (by simpa using q)]
      · rfl
      · simp only [Bool.or_eq_true, Bool.not_eq_true', decide_eq_false_iff_not, bne_iff_ne]
        by_cases q2 : a.doubled = 0
        · left; intro q3; exact q ⟨q3.1, q3.2, q2⟩
        · exact Or.inr q2
  rw [if_neg (by simpa using c1), if_neg c1, if_neg c1]
  by_cases c2 : c = 2
  · rw [if_pos (by simpa using c2), if_pos c2, if_pos c2]
    by_cases q : 0 ≤ a.bid ∧ ((i : Int) % 4 - a.last) % 2 = 1 ∧ a.doubled = 1
    · rw [if_neg (by simp [q]), if_pos (decide_eq_true q)]
      simp only [bridge_auction_call_J3, bridge_auction_call_J1]
      rw [tm, hw]
      rfl
    · rw [if_pos, if_neg (by simpa using q)]
      · rfl
      · simp only [Bool.or_eq_true, Bool.not_eq_true', decide_eq_false_iff_not, bne_iff_ne]
        by_cases q2 : a.doubled = 1
        · left; intro q3; exact q ⟨q3.1, q3.2, q2⟩
        · exact Or.inr q2
  rw [if_neg (by simpa using c2), if_neg c2, if_neg c2]
  have e3 : w64 (c - 3) = c - 3 := w64_of (by omega)
  rw [e3]
  by_cases q : a.bid < c - 3
  · rw [if_neg (by simp; omega), if_pos (decide_eq_true q)]
    simp only [bridge_auction_call_J4]
    have eb : bAnd ((i : Int) % 4) 1 = (i : Int) % 2 := by
      have := band1i ((i : Int) % 4) (by omega)
      rw [w64_of (by omega)] at this
      rw [this]; omega
    rw [tm, e3, eb, Int.tmod_eq_emod_of_nonneg (a := c - 3) (by omega), asrt_pos (by omega), asrt_pos (by omega)]
    by_cases q2 : geti a.first ((i : Int) % 2 * 5 + (c - 3) % 5) < 0
    · rw [if_pos (decide_eq_true q2), if_pos q2, asrt_pos (by rw [h.hf.1]; omega)]
      simp only [bridge_auction_call_J1]
      rw [tm, hw]
      rfl
    · rw [if_neg (by simpa using q2), if_neg q2]
      simp only [bridge_auction_call_J1]
      rw [tm, hw]
      rfl
  · rw [if_pos (decide_eq_true (by omega)), if_neg (by simpa using q)]
    rfl
end Go.Proofs.Ytnplejebgbdfpaa
