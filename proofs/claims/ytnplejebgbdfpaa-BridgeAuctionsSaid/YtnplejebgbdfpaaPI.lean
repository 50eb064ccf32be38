/-
  BridgeAuctions: both go through the calls alike.
-/
import Derived.Test.YtnplejebgbdfpaaPH
namespace Go.Proofs.Ytnplejebgbdfpaa
open Go Go.GL

theorem set_geti {l : List Int} {i : Nat} {v j : Int} (hj : 0 ≤ j) (hi : i < l.length) : geti (l.set i v) j = if j = i then v else geti l j := by
  obtain ⟨q, rfl⟩ : ∃ q : Nat, j = q := ⟨j.toNat, by omega⟩
  rw [geti_nat, geti_nat, List.getD_eq_getElem?_getD, List.getD_eq_getElem?_getD, List.getElem?_set]
  by_cases e : i = q
  · subst e; simp [hi]
  · rw [if_neg e, if_neg (by omega)]

theorem inv_next {l : List Int} {i : Nat} {a : Au} (hi : i < l.length) (h : InvA l i a) (ho : overA a = false) (hc : 0 ≤ geti l i ∧ geti l i ≤ 37) (hm : mayA a i (geti l i) = true) : InvA l (i + 1) (nextA a i (geti l i)) := by
  have hr : ∀ j : Nat, j < i + 1 → 0 ≤ geti l j ∧ geti l j ≤ 37 := by
    intro j hj
    by_cases e : j = i
    · subst e; exact hc
    · exact h.hr j (by omega)
  unfold overA at ho
  simp only [Bool.or_eq_false_iff, Bool.and_eq_false_iff, beq_eq_false_iff_ne, decide_eq_false_iff_not] at ho
  unfold mayA at hm
  unfold nextA
  have hcc := h.hc
  by_cases c0 : geti l i = 0
  · rw [if_pos c0]
    refine ⟨by simp only []; omega, ⟨h.hf.1, fun s t h1 h2 h3 h4 => first_grow (h.hf.2 s t h1 h2 h3 h4) (Or.inl ?_)⟩, hr, ?_⟩
    · rintro ⟨-, q, -⟩; omega
    · rcases h.hb with ⟨h1, h2, h3, h4⟩ | ⟨b, L, h1, h2, h3, h4, h5, h6, h7, h8, h9, h10, h11, h12, h13⟩
      · left
        refine ⟨h1, by simp only []; omega, by omega, fun j hj => ?_⟩
        by_cases e : j = i
        · subst e; exact c0
        · exact h4 j (by omega)
      · right
        refine ⟨b, L, h1, by omega, h3, h4, h5, h6, by simp only []; omega, by simp only []; omega, h9, ?_, ?_, ?_, h13⟩
        · intro j q1 q2
          by_cases e : j = i
          · subst e; exact c0
          · exact h10 j q1 (by omega)
        · intro j q2
          by_cases e : j = i
          · subst e; omega
          · exact h11 j (by omega)
        · intro j q1 q2
          by_cases e : j = i
          · subst e; omega
          · exact h12 j q1 (by omega)
  rw [if_neg c0] at hm
  rw [if_neg c0]
  have dbl : ∀ d : Int, (d = 1 ∨ d = 2) → geti l i = d → 0 ≤ a.bid → InvA l (i + 1) { a with doubled := d, last := (i : Int) % 4, passes := 0, calls := a.calls + 1 } := by
    intro d hd he hb0
    refine ⟨by simp only []; omega, ⟨h.hf.1, fun s t h1 h2 h3 h4 => first_grow (h.hf.2 s t h1 h2 h3 h4) (Or.inl ?_)⟩, hr, ?_⟩
    · rintro ⟨-, q, -⟩; omega
    · rcases h.hb with ⟨h1, h2, h3, h4⟩ | ⟨b, L, h1, h2, h3, h4, h5, h6, h7, h8, h9, h10, h11, h12, h13⟩
      · omega
      · right
        refine ⟨b, i, by omega, by omega, h3, h4, h5, rfl, by simp only []; omega, by simp only []; omega, by omega, fun j q1 q2 => by omega, ?_, ?_, ?_⟩
        · intro j q2
          by_cases e : j = i
          · subst e; omega
          · exact h11 j (by omega)
        · intro j q1 q2
          by_cases e : j = i
          · subst e; omega
          · exact h12 j q1 (by omega)
        · simp only []
          rw [if_neg (by omega), he]
  by_cases c1 : geti l i = 1
  · rw [if_pos c1] at hm
    rw [if_pos c1]
    exact dbl 1 (Or.inl rfl) c1 (of_decide_eq_true hm).1
  rw [if_neg c1] at hm
  rw [if_neg c1]
  by_cases c2 : geti l i = 2
  · rw [if_pos c2] at hm
    rw [if_pos c2]
    exact dbl 2 (Or.inr rfl) c2 (of_decide_eq_true hm).1
  rw [if_neg c2] at hm
  rw [if_neg c2]
  have hm := of_decide_eq_true hm
  refine ⟨by simp only []; omega, ⟨?_, ?_⟩, hr, ?_⟩
  · simp only []
    split
    · rw [List.length_set]; exact h.hf.1
    · exact h.hf.1
  · intro s t h1 h2 h3 h4
    simp only []
    have old := h.hf.2 s t h1 h2 h3 h4
    by_cases e : s = (i : Int) % 2 ∧ t = (geti l i - 3) % 5
    · obtain ⟨rfl, rfl⟩ := e
      by_cases q : geti a.first ((i : Int) % 2 * 5 + (geti l i - 3) % 5) < 0
      · rw [if_pos q, set_geti (by omega) (by rw [h.hf.1]; omega), if_pos (by omega)]
        right
        refine ⟨i, by omega, ⟨rfl, by omega, rfl⟩, ?_, rfl⟩
        rcases old with ⟨-, o⟩ | ⟨j, o1, o2, o3, o4⟩
        · exact o
        · omega
      · rw [if_neg q]
        exact first_grow old (Or.inr (by omega))
    · have hn : ¬ MB l s t i := fun hM => e ⟨hM.1.symm, hM.2.2.symm⟩
      by_cases q : geti a.first ((i : Int) % 2 * 5 + (geti l i - 3) % 5) < 0
      · rw [if_pos q, set_geti (by omega) (by rw [h.hf.1]; omega), if_neg (by omega)]
        exact first_grow old (Or.inl hn)
      · rw [if_neg q]
        exact first_grow old (Or.inl hn)
  · right
    refine ⟨i, i, by omega, by omega, rfl, by omega, rfl, rfl, by simp only []; omega, by simp only []; omega, by omega, fun j q1 q2 => by omega, ?_, fun j q1 q2 => by omega, ?_⟩
    · intro j q2
      by_cases e : j = i
      · subst e; omega
      · rcases h.hb with ⟨h1, h2, h3, h4⟩ | ⟨b, L, h1, h2, h3, h4, h5, h6, h7, h8, h9, h10, h11, h12, h13⟩
        · have := h4 j (by omega); omega
        · have := h11 j (by omega); omega
    · simp only []
      rw [if_pos (by omega)]

/-! ## The end -/

theorem first_loop (l : List Int) (b : Nat) (hl : l.length ≤ 17592186044416) (hb : b < l.length) (h3 : 3 ≤ geti l b) (hr : ∀ j : Nat, j < l.length → 0 ≤ geti l j ∧ geti l j ≤ 37) : ∀ (m : Nat) (i : Int) (F : Nat), -2 ≤ i → i < 2 * m → i ≤ b → (i - b) % 2 = 0 → F ≤ b →
    MB l ((b : Int) % 2) ((geti l b - 3) % 5) F → (∀ j : Nat, i < j → j < F → ¬ MB l ((b : Int) % 2) ((geti l b - 3) % 5) j) →
    ∃ v : Nat, loop (gameroomref_AuctionOf_L3 l b) ((F : Int), i) = some (v : Int) ∧ v ≤ b ∧ MB l ((b : Int) % 2) ((geti l b - 3) % 5) v ∧ ∀ j : Nat, j < v → ¬ MB l ((b : Int) % 2) ((geti l b - 3) % 5) j := by
  intro m
  induction m with
  | zero =>
    intro i F h1 h2 h4 h5 h6 h7 h8
    refine ⟨F, loop_done ?_, h6, h7, fun j hj => h8 j (by omega) hj⟩
    simp only [gameroomref_AuctionOf_L3]
    rw [if_neg (by simp; omega)]
  | succ m ih =>
    intro i F h1 h2 h4 h5 h6 h7 h8
    by_cases hi : 0 ≤ i
    · obtain ⟨q, rfl⟩ : ∃ q : Nat, i = q := ⟨i.toNat, by omega⟩
      have e1 : w64 (geti l (q : Int) - 3) = geti l (q : Int) - 3 := w64_of (by have := hr q (by omega); omega)
      have e2 : w64 (geti l (b : Int) - 3) = geti l (b : Int) - 3 := w64_of (by have := hr b (by omega); omega)
      by_cases hM : MB l ((b : Int) % 2) ((geti l b - 3) % 5) q
      · obtain ⟨v, hv, hv2⟩ := ih ((q : Int) - 2) q (by omega) (by omega) (by omega) (by omega) (by omega) hM (by
          intro j q1 q2 hj
          have := hj.1
          omega)
        refine ⟨v, loop_next' ?_ hv, hv2⟩
        simp only [gameroomref_AuctionOf_L3, gameroomref_AuctionOf_J13, gameroomref_AuctionOf_J14]
        rw [if_pos (decide_eq_true (by omega)), asrt_pos (by omega), asrt_pos (by intro _; omega), e1, e2, Int.tmod_eq_emod_of_nonneg (a := geti l (q : Int) - 3) (by have := hM.2.1; omega), Int.tmod_eq_emod_of_nonneg (a := geti l (b : Int) - 3) (by omega), if_pos (by simp only [Bool.and_eq_true, decide_eq_true_eq, beq_iff_eq]; exact ⟨hM.2.1, hM.2.2⟩), w64_of (by omega)]
      · obtain ⟨v, hv, hv2⟩ := ih ((q : Int) - 2) F (by omega) (by omega) (by omega) (by omega) h6 h7 (by
          intro j q1 q2 hj
          by_cases e : j = q
          · subst e; exact hM hj
          · by_cases e : (q : Int) < j
            · exact h8 j e q2 hj
            · have := hj.1
              omega)
        refine ⟨v, loop_next' ?_ hv, hv2⟩
        simp only [gameroomref_AuctionOf_L3, gameroomref_AuctionOf_J13, gameroomref_AuctionOf_J14]
        rw [if_pos (decide_eq_true (by omega)), asrt_pos (by omega), asrt_pos (by intro _; omega), e1, e2, Int.tmod_eq_emod_of_nonneg (a := geti l (b : Int) - 3) (by omega), if_neg, w64_of (by omega)]
        simp only [Bool.and_eq_true, decide_eq_true_eq, beq_iff_eq]
        rintro ⟨q1, q2⟩
        rw [Int.tmod_eq_emod_of_nonneg (by omega)] at q2
        exact hM ⟨by omega, q1, q2⟩
    · refine ⟨F, loop_done ?_, h6, h7, fun j hj => h8 j (by omega) hj⟩
      simp only [gameroomref_AuctionOf_L3]
      rw [if_neg (by simpa using hi)]

/-- The last bid and whether it is doubled, of so many calls. -/
def LastB (l : List Int) (i : Nat) (x : Int × Int) : Prop :=
  ((x.1 = -1 ∧ ∀ j : Nat, j < i → geti l j < 3) ∨ ∃ b : Nat, b < i ∧ x.1 = b ∧ 3 ≤ geti l b ∧ ∀ j : Nat, b < j → j < i → geti l j < 3) ∧
  ((x.2 = 0 ∧ ∀ j : Nat, j < i → geti l j = 0) ∨ ∃ L : Nat, L < i ∧ geti l L ≠ 0 ∧ (∀ j : Nat, L < j → j < i → geti l j = 0) ∧ x.2 = (if 3 ≤ geti l L then 0 else geti l L))

theorem last_loop (l : List Int) (hl : l.length ≤ 17592186044416) (hr : ∀ j : Nat, j < l.length → 0 ≤ geti l j ∧ geti l j ≤ 37) : ∃ r, loop (gameroomref_AuctionOf_L2 l) ((-1), 0, 0) = some r ∧ LastB l l.length r := by
  refine count_loop (step := gameroomref_AuctionOf_L2 l) (fun (s : Int × Int) (i : Nat) => (s.1, s.2, (i : Int))) (LastB l) (LastB l l.length) l.length ((-1), 0) ?_ ?_ ?_
  · exact ⟨Or.inl ⟨rfl, fun j hj => by omega⟩, Or.inl ⟨rfl, fun j hj => by omega⟩⟩
  · rintro i ⟨x, d⟩ hi ⟨h1, h2⟩
    left
    have hc := hr i hi
    refine ⟨((if 3 ≤ geti l i then (i : Int) else x), (if 3 ≤ geti l i then 0 else if geti l i = 0 then d else geti l i)), ?_, ?_, ?_⟩
    · simp only [gameroomref_AuctionOf_L2, gameroomref_AuctionOf_J8]
      rw [if_pos (decide_eq_true (by omega)), asrt_pos (by omega)]
      by_cases c3 : 3 ≤ geti l i
      · rw [if_pos (decide_eq_true c3), if_pos c3, if_pos c3]
        simp only [gameroomref_AuctionOf_J10, gameroomref_AuctionOf_J9]
        rw [asrt_pos (by omega), asrt_pos (by intro _; omega), if_neg (by simp; omega), w64_of (by omega)]
        simp
      · rw [if_neg (by simpa using c3), if_neg c3, if_neg c3]
        simp only [gameroomref_AuctionOf_J10, gameroomref_AuctionOf_J9]
        rw [asrt_pos (by omega), asrt_pos (by intro _; omega)]
        by_cases c0 : geti l i = 0
        · rw [if_neg (by simp; omega), if_pos c0, w64_of (by omega)]
          simp
        · rw [if_pos (by simp; omega), if_neg c0, asrt_pos (by omega), w64_of (by omega)]
          simp
    · by_cases c3 : 3 ≤ geti l i
      · right
        exact ⟨i, by omega, if_pos c3, c3, fun j q1 q2 => by omega⟩
      · simp only [if_neg c3]
        rcases h1 with ⟨h3, h4⟩ | ⟨b, h3, h4, h5, h6⟩
        · left
          refine ⟨h3, fun j hj => ?_⟩
          by_cases e : j = i
          · subst e; omega
          · exact h4 j (by omega)
        · right
          refine ⟨b, by omega, h4, h5, fun j q1 q2 => ?_⟩
          by_cases e : j = i
          · subst e; omega
          · exact h6 j q1 (by omega)
    · by_cases c0 : geti l i = 0
      · simp only [if_pos c0, if_neg (show ¬ 3 ≤ geti l i by omega)]
        rcases h2 with ⟨h3, h4⟩ | ⟨b, h3, h4, h5, h6⟩
        · left
          refine ⟨h3, fun j hj => ?_⟩
          by_cases e : j = i
          · subst e; omega
          · exact h4 j (by omega)
        · right
          refine ⟨b, by omega, h4, fun j q1 q2 => ?_, h6⟩
          by_cases e : j = i
          · subst e; omega
          · exact h5 j q1 (by omega)
      · right
        exact ⟨i, by omega, c0, fun j q1 q2 => by omega, by simp only [if_neg c0]⟩
  · rintro ⟨x, d⟩ h
    refine ⟨(x, d), ?_, h⟩
    simp only [gameroomref_AuctionOf_L2]
    rw [if_neg (by simp)]

theorem end_eq {l : List Int} {a : Au} (hl : l.length ≤ 17592186044416) (h : InvA l l.length a) : ∃ r, bridge_Auction_J6 a.bid a.bidder a.doubled a.last a.passes a.first a.calls = some r ∧ gameroomref_AuctionOf_J1 l = some r := by
  have hov := over_r hl (Nat.le_refl _) h
  rw [cut0, List.take_length] at hov
  unfold bridge_Auction_J6 gameroomref_AuctionOf_J1
  rw [over_p, hov]
  simp only [Option.bind_some]
  by_cases ho : overA a = true
  · rw [ho]
    simp only [Bool.not_true, Bool.false_eq_true, if_false]
    unfold gameroomref_AuctionOf_J6
    obtain ⟨⟨x, d⟩, hx, hx1, hx2⟩ := last_loop l hl h.hr
    rw [hx]
    simp only [Option.bind_some, gameroomref_AuctionOf_K2]
    unfold gameroomref_AuctionOf_J7
    rcases h.hb with ⟨h1, h2, h3, h4⟩ | ⟨b, L, h1, h2, h3, h4, h5, h6, h7, h8, h9, h10, h11, h12, h13⟩
    · have : x = -1 := by
        rcases hx1 with ⟨q, -⟩ | ⟨b, q1, q2, q3, -⟩
        · exact q
        · have := h4 b q1; omega
      rw [if_pos (decide_eq_true (by omega)), if_pos (decide_eq_true (by omega))]
      exact ⟨_, rfl, rfl⟩
    · have hb : x = b := by
        rcases hx1 with ⟨q, q2⟩ | ⟨b', q1, q2, q3, q4⟩
        · have := q2 b (by omega); omega
        · simp only at q2
          rcases Nat.lt_trichotomy b b' with e | e | e
          · have := h12 b' e q1; omega
          · omega
          · have := q4 b e (by omega); omega
      have hd : d = a.doubled := by
        rw [h13]
        rcases hx2 with ⟨q, q2⟩ | ⟨L', q1, q2, q3, q4⟩
        · exact absurd (q2 L h2) h9
        · simp only at q4
          rcases Nat.lt_trichotomy L L' with e | e | e
          · exact absurd (h10 L' e q1) q2
          · rw [q4, e]
          · exact absurd (q3 L e h2) h9
      have hbr := h.hr b (by omega)
      subst hb hd
      rw [if_neg (by simp; omega), if_neg (by simp)]
      unfold bridge_Auction_J9 gameroomref_AuctionOf_J11
      have eb : bAnd a.bidder 1 = (b : Int) % 2 := by
        have := band1i a.bidder (by omega)
        rw [w64_of (by omega)] at this
        rw [this]; omega
      obtain ⟨v, hv, hv1, hv2, hv3⟩ := first_loop l b hl (by omega) h4 h.hr (b + 1) b b (by omega) (by omega) (by omega) (by omega) (by omega) ⟨rfl, h4, rfl⟩ (fun j q1 q2 => by omega)
      rw [hv, eb, asrt_pos (by omega), h3, Int.tmod_eq_emod_of_nonneg (a := geti l (b : Int) - 3) (by omega), asrt_pos (by omega), asrt_pos (by omega)]
      simp only [Option.bind_some, gameroomref_AuctionOf_K3, gameroomref_AuctionOf_J12]
      rw [asrt_pos (by omega), w64_of (x := geti l (b : Int) - 3) (by omega), Int.tmod_eq_emod_of_nonneg (a := geti l (b : Int) - 3) (by omega), Int.tmod_eq_emod_of_nonneg (a := (v : Int)) (by omega)]
      refine ⟨_, rfl, ?_⟩
      have : (v : Int) % 4 = geti a.first ((b : Int) % 2 * 5 + (geti l b - 3) % 5) := by
        rcases h.hf.2 ((b : Int) % 2) ((geti l b - 3) % 5) (by omega) (by omega) (by omega) (by omega) with ⟨-, q⟩ | ⟨j, q1, q2, q3, q4⟩
        · exact absurd ⟨rfl, h4, rfl⟩ (q b (by omega))
        · rw [q4]
          rcases Nat.lt_trichotomy v j with e | e | e
          · exact absurd hv2 (q3 v e)
          · rw [e]
          · exact absurd q2 (hv3 j e)
      rw [this]
  · rw [if_pos (by simpa using ho), if_pos (by simpa using ho)]
    exact ⟨_, rfl, rfl⟩

/-! ## The calls -/

def stA (a : Au) (i : Nat) : Int × Int × Int × Int × Int × List Int × Int × Int := (a.bid, a.bidder, a.doubled, a.last, a.passes, a.first, a.calls, (i : Int))

theorem bind_of_next {S R T : Type} {step : S → Option (St S R)} {s s' : S} {K : R → Option T} {r : T} (h : step s = some (.next s')) (hr : (loop step s').bind K = some r) : (loop step s).bind K = some r := by
  cases hl : loop step s' with
  | none => rw [hl] at hr; cases hr
  | some x => rw [loop_next' h hl]; rw [hl] at hr; exact hr

theorem both (l : List Int) (hl : l.length ≤ 17592186044416) : ∀ (m i : Nat) (a : Au), i + m = l.length → InvA l i a →
    ∃ r, (loop (bridge_Auction_L3 l) (stA a i)).bind bridge_Auction_K3 = some r ∧ (loop (gameroomref_AuctionOf_L1 l) (i : Int)).bind (gameroomref_AuctionOf_K1 l) = some r := by
  intro m
  induction m with
  | zero =>
    intro i a hi h
    obtain rfl : i = l.length := by omega
    obtain ⟨r, h1, h2⟩ := end_eq hl h
    refine ⟨r, ?_, ?_⟩
    · rw [loop_done (r := .go (tupA a))]
      · exact h1
      · exact if_neg (by simp)
    · rw [loop_done (r := .go ())]
      · exact h2
      · simp only [gameroomref_AuctionOf_L1]
        rw [if_neg (by simp)]
  | succ m ih =>
    intro i a hi h
    have hil : i < l.length := by omega
    have p1 : bridge_Auction_L3 l (stA a i) = bridge_Auction_J7 l a.bid a.bidder a.doubled a.last a.passes a.first a.calls i := by
      exact if_pos (decide_eq_true (by omega))
    have r1 : gameroomref_AuctionOf_L1 l i = gameroomref_AuctionOf_J2 l i := by
      simp only [gameroomref_AuctionOf_L1]
      rw [if_pos (decide_eq_true (by omega))]
    unfold bridge_Auction_J7 at p1
    unfold gameroomref_AuctionOf_J2 at r1
    rw [asrt_pos (by omega)] at p1 r1
    simp only [gameroomref_within_m, Option.bind_some] at r1
    by_cases hc : 0 ≤ geti l i ∧ geti l i ≤ 37
    · rw [if_neg (by simp; omega)] at p1
      rw [if_neg (by simp; omega)] at r1
      unfold gameroomref_AuctionOf_J4 at r1
      rw [asrt_pos (by omega), over_r hl (by omega) h] at r1
      rw [over_p] at p1
      simp only [Option.bind_some] at p1 r1
      by_cases ho : overA a = true
      · rw [if_pos ho] at p1 r1
        refine ⟨(0, 0, 0, 0, 9), ?_, ?_⟩
        · rw [loop_done p1]; rfl
        · rw [loop_done r1]; rfl
      · rw [if_neg ho] at p1 r1
        unfold gameroomref_AuctionOf_J5 at r1
        rw [asrt_pos (by omega), asrt_pos (by omega), may_r hl hil h _ hc] at r1
        rw [call_p hl hil h _ hc] at p1
        simp only [Option.bind_some] at p1 r1
        by_cases hm : mayA a i (geti l i) = true
        · rw [hm] at p1 r1
          simp only [if_true] at p1
          rw [if_neg (by decide)] at p1 r1
          simp only [gameroomref_AuctionOf_J3] at r1
          unfold bridge_Auction_J8 at p1
          rw [w64_of (by omega)] at p1 r1
          obtain ⟨r, h1, h2⟩ := ih (i + 1) _ (by omega) (inv_next hil h (by simpa using ho) hc hm)
          refine ⟨r, bind_of_next p1 ?_, bind_of_next r1 ?_⟩
          · have e : ((i + 1 : Nat) : Int) = (i : Int) + 1 := by omega
            simp only [stA, e] at h1
            exact h1
          · have e : ((i + 1 : Nat) : Int) = (i : Int) + 1 := by omega
            rw [e] at h2
            exact h2
        · rw [Bool.not_eq_true] at hm
          rw [hm] at p1 r1
          simp only [Bool.false_eq_true, if_false] at p1
          rw [if_pos (by decide)] at p1 r1
          refine ⟨(0, 0, 0, 0, 8), ?_, ?_⟩
          · rw [loop_done p1]; rfl
          · rw [loop_done r1]; rfl
    · rw [if_pos (by simp; omega)] at p1
      rw [if_pos (by simp; omega)] at r1
      refine ⟨(0, 0, 0, 0, 3), ?_, ?_⟩
      · rw [loop_done p1]; rfl
      · rw [loop_done r1]; rfl

/-! ## The beginning -/

theorem init_step (z : Int) (hz : z = 0 ∨ z = 1) (k : Nat) (hk : k < 5) (a : List Int) (ha : a.length = 10) : bridge_Auction_L2 z (a, (k : Int)) = some (.next (a.set (z * 5 + k).toNat (-1), ((k + 1 : Nat) : Int))) := by
  simp only [bridge_Auction_L2, bridge_Auction_J4, bridge_Auction_J5]
  rw [if_pos (decide_eq_true (by omega)), asrt_pos (by omega), asrt_pos (by omega), asrt_pos (by rw [ha]; omega), w64_of (by omega)]
  rfl

theorem init_in (z : Int) (hz : z = 0 ∨ z = 1) (a : List Int) (ha : a.length = 10) : loop (bridge_Auction_L2 z) (a, 0) =
    some (((((a.set (z * 5 + (0 : Nat)).toNat (-1)).set (z * 5 + (1 : Nat)).toNat (-1)).set (z * 5 + (2 : Nat)).toNat (-1)).set (z * 5 + (3 : Nat)).toNat (-1)).set (z * 5 + (4 : Nat)).toNat (-1)) := by
  refine loop_next' (init_step z hz 0 (by omega) a ha) ?_
  refine loop_next' (init_step z hz 1 (by omega) _ (by simpa using ha)) ?_
  refine loop_next' (init_step z hz 2 (by omega) _ (by simpa using ha)) ?_
  refine loop_next' (init_step z hz 3 (by omega) _ (by simpa using ha)) ?_
  refine loop_next' (init_step z hz 4 (by omega) _ (by simpa using ha)) ?_
  refine loop_done ?_
  simp only [bridge_Auction_L2]
  rw [if_neg (by decide)]

theorem init_eq : loop bridge_Auction_L1 ((List.replicate 10 (0 : Int)), 0) = some (List.replicate 10 (-1)) := by
  refine loop_next' (s' := ([-1, -1, -1, -1, -1, 0, 0, 0, 0, 0], 1)) ?_ (loop_next' (s' := (List.replicate 10 (-1), 2)) ?_ (loop_done ?_))
  · simp only [bridge_Auction_L1]
    rw [if_pos (by decide)]
    unfold bridge_Auction_J2
    rw [init_in 0 (Or.inl rfl) _ (by simp)]
    simp only [Option.bind_some, bridge_Auction_K2, bridge_Auction_J3]
    rw [w64_of (by omega)]
    rfl
  · simp only [bridge_Auction_L1]
    rw [if_pos (by decide)]
    unfold bridge_Auction_J2
    rw [init_in 1 (Or.inr rfl) _ (by simp)]
    simp only [Option.bind_some, bridge_Auction_K2, bridge_Auction_J3]
    rw [w64_of (by omega)]
    rfl
  · simp only [bridge_Auction_L1]
    rw [if_neg (by decide)]

theorem inv_init (l : List Int) : InvA l 0 ⟨-1, 0, 0, 0, 0, List.replicate 10 (-1), 0⟩ := by
  refine ⟨rfl, ⟨by simp, ?_⟩, fun j hj => by omega, Or.inl ⟨rfl, rfl, by omega, fun j hj => by omega⟩⟩
  intro s t h1 h2 h3 h4
  left
  refine ⟨?_, fun j hj => by omega⟩
  obtain ⟨q, hq⟩ : ∃ q : Nat, s * 5 + t = q := ⟨(s * 5 + t).toNat, by omega⟩
  rw [hq, geti_nat, List.getD_eq_getElem?_getD, List.getElem?_replicate, if_pos (by omega)]
  rfl

theorem true_BridgeAuctions (calls : List Int) (hl : calls.length ≤ 17592186043904) (_hy : ∀ y ∈ calls, inI y) : gameroomlaw_BridgeAuctions_m calls = some true := by
  have hl' : calls.length ≤ 17592186044416 := by omega
  unfold gameroomlaw_BridgeAuctions_m
  rw [ba_ints_eq hl']
  obtain ⟨r, h1, h2⟩ := both calls hl' calls.length 0 _ (by omega) (inv_init calls)
  have e1 : bridge_Auction_m calls = some r := by
    unfold bridge_Auction_m
    rw [init_eq]
    simp only [Option.bind_some, bridge_Auction_K1]
    exact h1
  have e2 : gameroomref_AuctionOf_m calls = some r := h2
  rw [Option.bind_some, e1, Option.bind_some, e2, Option.bind_some]
  simp
end Go.Proofs.Ytnplejebgbdfpaa
