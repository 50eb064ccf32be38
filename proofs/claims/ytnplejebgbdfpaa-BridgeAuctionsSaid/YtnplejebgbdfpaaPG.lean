/-
  BridgeAuctions: the plain law.
-/
import Derived.Test.YtnplejebgbdfpaaNG
import Derived.Test.YtnplejebgbdfpaaLibX
namespace Go.Proofs.Ytnplejebgbdfpaa
open Go Go.GL

theorem ba_ints_eq {l : List Int} (h : l.length ≤ 17592186044416) : gameroomlaw_ints_m l = some l := by
  unfold gameroomlaw_ints_m
  rw [asrt_pos (by unfold bigN; omega)]
  simp

theorem band1i (x : Int) (h : -1000 ≤ x ∧ x ≤ 1000) : bAnd (w64 x) 1 = x % 2 := by
  rw [w64_of (by omega)]
  have key : ∀ n : Fin 2001, bAnd ((n.1 : Int) - 1000) 1 = ((n.1 : Int) - 1000) % 2 := by decide +kernel
  have := key ⟨(x + 1000).toNat, by omega⟩
  have e : ((x + 1000).toNat : Int) - 1000 = x := by omega
  simp only [e] at this
  exact this

theorem geti_take {l : List Int} {i j : Nat} (h : j < i) : geti (l.take i) (j : Int) = geti l (j : Int) := by
  rw [geti_nat, geti_nat, List.getD_eq_getElem?_getD, List.getD_eq_getElem?_getD, List.getElem?_take_of_lt h]
theorem cut0 {l : List Int} {i : Nat} : cut l 0 (i : Int) = l.take i := by
  unfold cut; simp

/-! ## The reference's end and its last call that is no pass -/

theorem aOver_eq (p : List Int) (hp : p.length ≤ 17592186044416) :
    gameroomref_auctionOver_m p = some (decide (4 ≤ p.length ∧ geti p ((p.length - 3 : Nat) : Int) = 0 ∧ geti p ((p.length - 2 : Nat) : Int) = 0 ∧ geti p ((p.length - 1 : Nat) : Int) = 0)) := by
  unfold gameroomref_auctionOver_m
  by_cases h : p.length < 4
  · rw [if_pos (decide_eq_true (by omega))]
    congr 1
    symm
    exact decide_eq_false (by omega)
  rw [if_neg (by simp; omega)]
  unfold gameroomref_auctionOver_J1
  obtain ⟨n, hn⟩ : ∃ n, p.length = n + 4 := ⟨p.length - 4, by omega⟩
  rw [show w64 ((p.length : Int) - 3) = ((n + 1 : Nat) : Int) by rw [w64_of (by omega)]; omega]
  have st : ∀ k : Nat, k < n + 4 → geti p (k : Int) = 0 → gameroomref_auctionOver_L1 p (k : Int) = some (.next ((k + 1 : Nat) : Int)) := by
    intro k hk h0
    simp only [gameroomref_auctionOver_L1, gameroomref_auctionOver_J3]
    rw [if_pos (decide_eq_true (by omega)), asrt_pos (by omega), h0, if_neg (by decide)]
    simp only [gameroomref_auctionOver_J4]
    rw [w64_of (by omega)]
    simp
  have bad : ∀ k : Nat, k < n + 4 → ¬ geti p (k : Int) = 0 → gameroomref_auctionOver_L1 p (k : Int) = some (.done (.ret false)) := by
    intro k hk h0
    simp only [gameroomref_auctionOver_L1, gameroomref_auctionOver_J3]
    rw [if_pos (decide_eq_true (by omega)), asrt_pos (by omega), if_pos (by simpa using h0)]
  have en : gameroomref_auctionOver_L1 p ((n + 4 : Nat) : Int) = some (.done (.go ())) := by
    simp only [gameroomref_auctionOver_L1]
    rw [if_neg (by simp; omega)]
  simp only [hn, show n + 4 - 3 = n + 1 by omega, show n + 4 - 2 = n + 2 by omega, show n + 4 - 1 = n + 3 by omega]
  by_cases h1 : geti p ((n + 1 : Nat) : Int) = 0
  · by_cases h2 : geti p ((n + 2 : Nat) : Int) = 0
    · by_cases h3 : geti p ((n + 3 : Nat) : Int) = 0
      · rw [loop_next' (st _ (by omega) h1) (loop_next' (st _ (by omega) h2) (loop_next' (st _ (by omega) h3) (loop_done en)))]
        simp only [Option.bind_some, gameroomref_auctionOver_K1, gameroomref_auctionOver_J2]
        congr 1
        exact (decide_eq_true ⟨by omega, h1, h2, h3⟩).symm
      · rw [loop_next' (st _ (by omega) h1) (loop_next' (st _ (by omega) h2) (loop_done (bad _ (by omega) h3)))]
        simp only [Option.bind_some, gameroomref_auctionOver_K1]
        congr 1
        exact (decide_eq_false (by rintro ⟨-, -, -, h⟩; exact h3 h)).symm
    · rw [loop_next' (st _ (by omega) h1) (loop_done (bad _ (by omega) h2))]
      simp only [Option.bind_some, gameroomref_auctionOver_K1]
      congr 1
      exact (decide_eq_false (by rintro ⟨-, -, h, -⟩; exact h2 h)).symm
  · rw [loop_done (bad _ (by omega) h1)]
    simp only [Option.bind_some, gameroomref_auctionOver_K1]
    congr 1
    exact (decide_eq_false (by rintro ⟨-, h, -, -⟩; exact h1 h)).symm

/-- Down to the last call that is no pass. -/
theorem last_eq (p : List Int) (hp : p.length ≤ 17592186044416) (L : Int) (h0 : -1 ≤ L) (h1 : L < p.length) (hz : ∀ j : Nat, L < j → j < p.length → geti p (j : Int) = 0) (hL : 0 ≤ L → geti p L ≠ 0) :
    ∀ (m : Nat) (k : Int), k = L + m → k < p.length → loop (gameroomref_callMay_L1 p) k = some L := by
  intro m
  induction m with
  | zero =>
    intro k hk hkl
    obtain rfl : k = L := by omega
    apply loop_done
    simp only [gameroomref_callMay_L1]
    rw [asrt_pos (by intro h; have := of_decide_eq_true h; omega), if_neg]
    simp only [Bool.and_eq_true, decide_eq_true_eq, beq_iff_eq]
    rintro ⟨h2, h3⟩
    exact hL h2 h3
  | succ m ih =>
    intro k hk hkl
    have hk0 : 0 ≤ k := by omega
    obtain ⟨q, rfl⟩ : ∃ q : Nat, k = q := ⟨k.toNat, by omega⟩
    refine loop_next' (s' := (q : Int) - 1) ?_ (ih _ (by omega) (by omega))
    simp only [gameroomref_callMay_L1]
    rw [asrt_pos (by intro _; omega), hz q (by omega) (by omega), if_pos (by simp)]
    simp only [gameroomref_callMay_J3]
    rw [w64_of (by omega)]

/-- The loop over all bids. -/
theorem big_eq (p : List Int) (c : Int) (hp : p.length ≤ 17592186044416) : gameroomref_callMay_J5 p c = some (!p.any (fun x => decide (c ≤ x))) := by
  unfold gameroomref_callMay_J5
  rw [search_loop (l := p) (fun x => decide (c ≤ x)) (fun _ => Fl.ret false) (Fl.go ()) ?_ ?_ ?_]
  · cases hf : p.findIdx? (fun x => decide (c ≤ x)) with
    | none =>
      rw [List.findIdx?_eq_none_iff] at hf
      have : p.any (fun x => decide (c ≤ x)) = false := by
        rw [List.any_eq_false]
        intro x hx; simp [hf x hx]
      rw [this]; rfl
    | some i =>
      obtain ⟨h1, h2, _⟩ := List.findIdx?_eq_some_iff_getElem.1 hf
      have : p.any (fun x => decide (c ≤ x)) = true := List.any_eq_true.2 ⟨_, List.getElem_mem h1, h2⟩
      rw [this]; rfl
  · intro i x hx hp
    have hb := idx_bd hx
    simp only [gameroomref_callMay_L2, gameroomref_callMay_J7]
    rw [if_pos (by simpa using hb.2), asrt_pos hb, geti_some hx, if_pos hp]
  · intro i x hx hp
    have hb := idx_bd hx
    simp only [gameroomref_callMay_L2, gameroomref_callMay_J7]
    rw [if_pos (by simpa using hb.2), asrt_pos hb, geti_some hx, if_neg (by simpa using hp)]
    simp only [gameroomref_callMay_J8]
    rw [w64_succ (by omega)]
  · simp only [gameroomref_callMay_L2]
    rw [if_neg (by simp)]

/-- What the reference says of a call, by the last that is no pass. -/
theorem may_eq (p : List Int) (c L : Int) (hp : p.length ≤ 17592186044416) (h0 : -1 ≤ L) (h1 : L < p.length) (hz : ∀ j : Nat, L < j → j < p.length → geti p (j : Int) = 0) (hL : 0 ≤ L → geti p L ≠ 0) :
    gameroomref_callMay_m p c = some (if c = 0 then true else if c = 1 then decide (0 ≤ L ∧ ((p.length : Int) - L) % 2 = 1 ∧ 3 ≤ geti p L) else if c = 2 then decide (0 ≤ L ∧ ((p.length : Int) - L) % 2 = 1 ∧ geti p L = 1) else !p.any (fun x => decide (c ≤ x))) := by
  unfold gameroomref_callMay_m
  by_cases c0 : c = 0
  · rw [if_pos (by simpa using c0), if_pos c0]
  rw [if_neg (by simpa using c0), if_neg c0]
  unfold gameroomref_callMay_J1
  rw [w64_of (by omega), last_eq p hp L h0 h1 hz hL ((p.length : Int) - 1 - L).toNat _ (by omega) (by omega)]
  simp only [Option.bind_some, gameroomref_callMay_K1, gameroomref_callMay_J2, gameroomref_callMay_J4]
  rw [w64_of (by omega), Int.tmod_eq_emod_of_nonneg (by omega)]
  have hasr : ((decide ((0 : Int) ≤ L)) && (((p.length : Int) - L) % 2 == 1)) = true → 0 ≤ L ∧ L < (p.length : Int) := by
    intro h
    simp only [Bool.and_eq_true, decide_eq_true_eq] at h
    omega
  by_cases c1 : c = 1
  · rw [if_pos (by simpa using c1), if_pos c1, asrt_pos hasr]
    congr 1
    rw [Bool.eq_iff_iff]
    simp only [Bool.and_eq_true, decide_eq_true_eq, beq_iff_eq, and_assoc]
  rw [if_neg (by simpa using c1), if_neg c1]
  by_cases c2 : c = 2
  · rw [if_pos (by simpa using c2), if_pos c2, asrt_pos hasr]
    congr 1
    rw [Bool.eq_iff_iff]
    simp only [Bool.and_eq_true, decide_eq_true_eq, beq_iff_eq, and_assoc]
  rw [if_neg (by simpa using c2), if_neg c2, big_eq p c hp]
end Go.Proofs.Ytnplejebgbdfpaa
