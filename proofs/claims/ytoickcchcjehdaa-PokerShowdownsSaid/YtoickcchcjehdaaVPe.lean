/-
  PokerValues: a hand's value by how many there are of each rank.
-/
import Derived.Test.YtoickcchcjehdaaVPd
namespace Go.Proofs.Ytoickcchcjehdaa
open Go Go.GL

theorem len1 {l : List Int} (h : l.length = 1) : ∃ a, l = [a] := match l, h with | [a], _ => ⟨a, rfl⟩
theorem len2 {l : List Int} (h : l.length = 2) : ∃ a b, l = [a, b] := match l, h with | [a, b], _ => ⟨a, b, rfl⟩
theorem len3 {l : List Int} (h : l.length = 3) : ∃ a b c, l = [a, b, c] := match l, h with | [a, b, c], _ => ⟨a, b, c, rfl⟩
theorem len5 {l : List Int} (h : l.length = 5) : ∃ a b c d e, l = [a, b, c, d, e] := match l, h with | [a, b, c, d, e], _ => ⟨a, b, c, d, e, rfl⟩
theorem len0 {l : List Int} (h : l.length = 0) : l = [] := List.eq_nil_of_length_eq_zero h

theorem geti_bd {s : List Int} (h : ∀ x ∈ s, 0 ≤ x ∧ x ≤ 12) (k : Nat) : 0 ≤ geti s (k : Int) ∧ geti s (k : Int) ≤ 12 := by
  by_cases hk : k < s.length
  · exact h _ (List.mem_of_getElem? (get_geti hk))
  · unfold geti
    rw [Int.toNat_natCast, List.getD_eq_getElem?_getD, List.getElem?_eq_none (by omega)]
    simp

theorem valOf_nonneg {s : List Int} (h : ∀ x ∈ s, 0 ≤ x ∧ x ≤ 12) {c : Int} (hc : 0 ≤ c) : 0 ≤ valOf c s := by
  have g0 := geti_bd h 0
  have g1 := geti_bd h 1
  have g2 := geti_bd h 2
  have g3 := geti_bd h 3
  have g4 := geti_bd h 4
  have e0 : ((0 : Nat) : Int) = 0 := rfl
  have e1 : ((1 : Nat) : Int) = 1 := rfl
  have e2 : ((2 : Nat) : Int) = 2 := rfl
  have e3 : ((3 : Nat) : Int) = 3 := rfl
  have e4 : ((4 : Nat) : Int) = 4 := rfl
  rw [e0] at g0
  rw [e1] at g1
  rw [e2] at g2
  rw [e3] at g3
  rw [e4] at g4
  unfold valOf
  omega

theorem sum_by (m : List Int) : ∀ (L : List Int), (∀ r ∈ L, 0 ≤ geti m r ∧ geti m r ≤ 4) →
    (L.map (geti m)).sum = 4 * ((L.filter (fun r => geti m r == 4)).length : Int) + 3 * ((L.filter (fun r => geti m r == 3)).length : Int) + 2 * ((L.filter (fun r => geti m r == 2)).length : Int) + ((L.filter (fun r => geti m r == 1)).length : Int)
  | [], _ => by simp
  | x :: L, h => by
    have ih := sum_by m L (fun r hr => h r (by simp [hr]))
    have hx := h x (by simp)
    rw [List.map_cons, List.sum_cons, ih]
    have hc : geti m x = 4 ∨ geti m x = 3 ∨ geti m x = 2 ∨ geti m x = 1 ∨ geti m x = 0 := by omega
    rcases hc with hc | hc | hc | hc | hc <;> simp [hc] <;> omega

theorem byM_pos (m : List Int) (L : List Int) : byM m (L.filter fun r => decide ((0 : Int) < geti m r)) = byM m L := by
  have h : ∀ t : Int, 0 < t → (L.filter fun r => decide ((0 : Int) < geti m r)).filter (fun r => geti m r == t) = L.filter (fun r => geti m r == t) := fun t ht => by
    rw [List.filter_filter]
    refine List.filter_congr fun x _ => ?_
    by_cases e : geti m x = t
    · simp [e, ht]
    · simp [e]
  unfold byM
  rw [h 4 (by omega), h 3 (by omega), h 2 (by omega), h 1 (by omega)]

set_option maxHeartbeats 2000000 in
theorem J1_eq {m : List Int} (hm : m.length = 13) (hb : ∀ r, 0 ≤ r → r ≤ 12 → 0 ≤ geti m r ∧ geti m r ≤ 4) (hs : (dn.map (geti m)).sum = 5) (f : Bool) :
    ∃ v, 0 ≤ v ∧ (loop (poker_value_L2 m) (([] : List Int), 12)).bind (poker_value_K2 m f) = some v ∧ (loop (gameroomref_HandValue_L2 m) (([] : List Int), 4)).bind (gameroomref_HandValue_K2 m f) = some v := by
  rw [signs_p, signs_r, Option.bind_some, Option.bind_some]
  simp only [poker_value_K2, gameroomref_HandValue_K2]
  have hpos : ∀ x ∈ dn.filter (fun r => decide ((0 : Int) < geti m r)), (0 ≤ x ∧ x ≤ 12) ∧ 1 ≤ geti m x ∧ geti m x ≤ 4 := fun x hx => by
    rw [List.mem_filter, decide_eq_true_eq, dn_mem] at hx
    have := hb x hx.1.1 hx.1.2
    omega
  have hsort := sort_p hm (l := dn.filter fun r => decide ((0 : Int) < geti m r)) (List.length_filter_le _ dn) hpos
  have hlen0 := byM_len (m := m) (l := dn.filter fun r => decide ((0 : Int) < geti m r)) (fun x hx => (hpos x hx).2)
  rw [byM_pos] at hsort hlen0
  have hsum := sum_by m dn (fun r hr => hb r (dn_mem.1 hr).1 (dn_mem.1 hr).2)
  rw [hs] at hsum
  have htop := top_one m
  simp only at htop
  have hTr := top_r m
  unfold gameroomref_HandValue_J4
  rw [hTr, Option.bind_some]
  simp only [gameroomref_HandValue_K4]
  clear hTr
  unfold poker_value_J4
  rw [hsort, Option.bind_some]
  generalize dn.filter (fun r => decide ((0 : Int) < geti m r)) = S0 at *
  have hmem : ∀ (t : Int) (x : Int), x ∈ dn.filter (fun r => geti m r == t) → (0 ≤ x ∧ x ≤ 12) ∧ geti m x = t := fun t x hx => by
    rw [List.mem_filter, beq_iff_eq, dn_mem] at hx
    exact hx
  have m4 := hmem 4
  have m3 := hmem 3
  have m2 := hmem 2
  have m1 := hmem 1
  have hdesc : (dn.filter (fun r => geti m r == 1)).Pairwise (· > ·) := dn_gt.sublist List.filter_sublist
  unfold byM at *
  generalize dn.filter (fun r => geti m r == 4) = f4 at *
  generalize dn.filter (fun r => geti m r == 3) = f3 at *
  generalize dn.filter (fun r => geti m r == 2) = f2 at *
  generalize dn.filter (fun r => geti m r == 1) = f1 at *
  generalize topF (fun x => geti m x == 1) 10 = top at *
  clear hsort hpos hmem hb hm hs
  have hcase : (f4.length = 1 ∧ f3.length = 0 ∧ f2.length = 0 ∧ f1.length = 1) ∨ (f4.length = 0 ∧ f3.length = 1 ∧ f2.length = 1 ∧ f1.length = 0) ∨ (f4.length = 0 ∧ f3.length = 1 ∧ f2.length = 0 ∧ f1.length = 2) ∨ (f4.length = 0 ∧ f3.length = 0 ∧ f2.length = 2 ∧ f1.length = 1) ∨ (f4.length = 0 ∧ f3.length = 0 ∧ f2.length = 1 ∧ f1.length = 3) ∨ (f4.length = 0 ∧ f3.length = 0 ∧ f2.length = 0 ∧ f1.length = 5) := by
    have b4 : f4.length = 0 ∨ f4.length = 1 := by omega
    have b3 : f3.length = 0 ∨ f3.length = 1 := by omega
    have b2 : f2.length = 0 ∨ f2.length = 1 ∨ f2.length = 2 := by omega
    rcases b4 with h4 | h4 <;> rcases b3 with h3 | h3 <;> rcases b2 with h2 | h2 | h2 <;> rw [h4, h3, h2] at hsum ⊢ <;> omega
  rcases hcase with ⟨l4, l3, l2, l1⟩ | ⟨l4, l3, l2, l1⟩ | ⟨l4, l3, l2, l1⟩ | ⟨l4, l3, l2, l1⟩ | ⟨l4, l3, l2, l1⟩ | ⟨l4, l3, l2, l1⟩
  · obtain ⟨a, rfl⟩ := len1 l4
    obtain rfl := len0 l3
    obtain rfl := len0 l2
    obtain ⟨b, rfl⟩ := len1 l1
    obtain ⟨⟨ha0, ha1⟩, ka⟩ := m4 a (by simp)
    obtain ⟨⟨hb0, hb1⟩, kb⟩ := m1 b (by simp)
    have ht := htop.1 (by simp)
    subst ht
    have hl : (S0.length : Int) = 2 := by simp at hlen0; omega
    have hS : ∀ x ∈ ([a, b] : List Int), 0 ≤ x ∧ x ≤ 12 := by simp; omega
    refine ⟨valOf 7 [a, b], valOf_nonneg hS (by omega), ?_, ?_⟩
    · have : poker_value_J8 [a, b] 7 = some (valOf 7 [a, b]) := val_p (fun k _ => geti_bd hS k) (by omega)
      rw [← this]
      simp [asrt, hl, poker_value_J7, geti, ha0, show a < 13 by omega] at ka ⊢
      try simp [ka]
    · have : gameroomref_HandValue_J16 7 [a, b] = some (valOf 7 [a, b]) := val_r (by simp) (fun k _ => geti_bd hS k) (by omega)
      rw [← this]
      simp [asrt, gameroomref_HandValue_J9, gameroomref_HandValue_J15, geti, ha0, show a < 13 by omega, hb0, show b < 13 by omega] at ka kb ⊢
      try simp [ka, kb]
  · obtain rfl := len0 l4
    obtain ⟨a, rfl⟩ := len1 l3
    obtain ⟨b, rfl⟩ := len1 l2
    obtain rfl := len0 l1
    obtain ⟨⟨ha0, ha1⟩, ka⟩ := m3 a (by simp)
    obtain ⟨⟨hb0, hb1⟩, kb⟩ := m2 b (by simp)
    have ht := htop.1 (by simp)
    subst ht
    have hl : (S0.length : Int) = 2 := by simp at hlen0; omega
    have hS : ∀ x ∈ ([a, b] : List Int), 0 ≤ x ∧ x ≤ 12 := by simp; omega
    refine ⟨valOf 6 [a, b], valOf_nonneg hS (by omega), ?_, ?_⟩
    · have : poker_value_J8 [a, b] 6 = some (valOf 6 [a, b]) := val_p (fun k _ => geti_bd hS k) (by omega)
      rw [← this]
      simp [asrt, hl, poker_value_J7, geti, ha0, show a < 13 by omega] at ka ⊢
      try simp [ka]
    · have : gameroomref_HandValue_J16 6 [a, b] = some (valOf 6 [a, b]) := val_r (by simp) (fun k _ => geti_bd hS k) (by omega)
      rw [← this]
      simp [asrt, gameroomref_HandValue_J9, gameroomref_HandValue_J15, geti, ha0, show a < 13 by omega, hb0, show b < 13 by omega] at ka kb ⊢
      try simp [ka, kb]
  · obtain rfl := len0 l4
    obtain ⟨a, rfl⟩ := len1 l3
    obtain rfl := len0 l2
    obtain ⟨b, c, rfl⟩ := len2 l1
    obtain ⟨⟨ha0, ha1⟩, ka⟩ := m3 a (by simp)
    obtain ⟨⟨hb0, hb1⟩, kb⟩ := m1 b (by simp)
    obtain ⟨⟨hc0, hc1⟩, kc⟩ := m1 c (by simp)
    have ht := htop.1 (by simp)
    subst ht
    have hl : (S0.length : Int) = 3 := by simp at hlen0; omega
    have hS : ∀ x ∈ ([a, b, c] : List Int), 0 ≤ x ∧ x ≤ 12 := by simp; omega
    cases f
    · refine ⟨valOf 3 [a, b, c], valOf_nonneg hS (by omega), ?_, ?_⟩
      · have : poker_value_J8 [a, b, c] 3 = some (valOf 3 [a, b, c]) := val_p (fun k _ => geti_bd hS k) (by omega)
        rw [← this]
        simp [asrt, hl, poker_value_J7, geti, ha0, show a < 13 by omega] at ka ⊢
        try simp [ka]
      · have : gameroomref_HandValue_J16 3 [a, b, c] = some (valOf 3 [a, b, c]) := val_r (by simp) (fun k _ => geti_bd hS k) (by omega)
        rw [← this]
        simp [asrt, gameroomref_HandValue_J9, gameroomref_HandValue_J15, geti, ha0, show a < 13 by omega, hb0, show b < 13 by omega] at ka kb ⊢
        try simp [ka, kb]
    · refine ⟨valOf 5 [a, b, c], valOf_nonneg hS (by omega), ?_, ?_⟩
      · have : poker_value_J8 [a, b, c] 5 = some (valOf 5 [a, b, c]) := val_p (fun k _ => geti_bd hS k) (by omega)
        rw [← this]
        simp [asrt, hl, poker_value_J7, geti, ha0, show a < 13 by omega] at ka ⊢
        try simp [ka]
      · have : gameroomref_HandValue_J16 5 [a, b, c] = some (valOf 5 [a, b, c]) := val_r (by simp) (fun k _ => geti_bd hS k) (by omega)
        rw [← this]
        simp [asrt, gameroomref_HandValue_J9, gameroomref_HandValue_J15, geti, ha0, show a < 13 by omega, hb0, show b < 13 by omega] at ka kb ⊢
        try simp [ka, kb]
  · obtain rfl := len0 l4
    obtain rfl := len0 l3
    obtain ⟨a, b, rfl⟩ := len2 l2
    obtain ⟨c, rfl⟩ := len1 l1
    obtain ⟨⟨ha0, ha1⟩, ka⟩ := m2 a (by simp)
    obtain ⟨⟨hb0, hb1⟩, kb⟩ := m2 b (by simp)
    obtain ⟨⟨hc0, hc1⟩, kc⟩ := m1 c (by simp)
    have ht := htop.1 (by simp)
    subst ht
    have hl : (S0.length : Int) = 3 := by simp at hlen0; omega
    have hS : ∀ x ∈ ([a, b, c] : List Int), 0 ≤ x ∧ x ≤ 12 := by simp; omega
    cases f
    · refine ⟨valOf 2 [a, b, c], valOf_nonneg hS (by omega), ?_, ?_⟩
      · have : poker_value_J8 [a, b, c] 2 = some (valOf 2 [a, b, c]) := val_p (fun k _ => geti_bd hS k) (by omega)
        rw [← this]
        simp [asrt, hl, poker_value_J7, geti, ha0, show a < 13 by omega] at ka ⊢
        try simp [ka]
      · have : gameroomref_HandValue_J16 2 [a, b, c] = some (valOf 2 [a, b, c]) := val_r (by simp) (fun k _ => geti_bd hS k) (by omega)
        rw [← this]
        simp [asrt, gameroomref_HandValue_J9, gameroomref_HandValue_J15, geti, ha0, show a < 13 by omega, hb0, show b < 13 by omega] at ka kb ⊢
        try simp [ka, kb]
    · refine ⟨valOf 5 [a, b, c], valOf_nonneg hS (by omega), ?_, ?_⟩
      · have : poker_value_J8 [a, b, c] 5 = some (valOf 5 [a, b, c]) := val_p (fun k _ => geti_bd hS k) (by omega)
        rw [← this]
        simp [asrt, hl, poker_value_J7, geti, ha0, show a < 13 by omega] at ka ⊢
        try simp [ka]
      · have : gameroomref_HandValue_J16 5 [a, b, c] = some (valOf 5 [a, b, c]) := val_r (by simp) (fun k _ => geti_bd hS k) (by omega)
        rw [← this]
        simp [asrt, gameroomref_HandValue_J9, gameroomref_HandValue_J15, geti, ha0, show a < 13 by omega, hb0, show b < 13 by omega] at ka kb ⊢
        try simp [ka, kb]
  · obtain rfl := len0 l4
    obtain rfl := len0 l3
    obtain ⟨a, rfl⟩ := len1 l2
    obtain ⟨b, c, d, rfl⟩ := len3 l1
    obtain ⟨⟨ha0, ha1⟩, ka⟩ := m2 a (by simp)
    obtain ⟨⟨hb0, hb1⟩, kb⟩ := m1 b (by simp)
    obtain ⟨⟨hc0, hc1⟩, kc⟩ := m1 c (by simp)
    obtain ⟨⟨hd0, hd1⟩, kd⟩ := m1 d (by simp)
    have ht := htop.1 (by simp)
    subst ht
    have hl : (S0.length : Int) = 4 := by simp at hlen0; omega
    have hS : ∀ x ∈ ([a, b, c, d] : List Int), 0 ≤ x ∧ x ≤ 12 := by simp; omega
    cases f
    · refine ⟨valOf 1 [a, b, c, d], valOf_nonneg hS (by omega), ?_, ?_⟩
      · have : poker_value_J8 [a, b, c, d] 1 = some (valOf 1 [a, b, c, d]) := val_p (fun k _ => geti_bd hS k) (by omega)
        rw [← this]
        simp [asrt, hl, poker_value_J7, geti, ha0, show a < 13 by omega] at ka ⊢
        try simp [ka]
      · have : gameroomref_HandValue_J16 1 [a, b, c, d] = some (valOf 1 [a, b, c, d]) := val_r (by simp) (fun k _ => geti_bd hS k) (by omega)
        rw [← this]
        simp [asrt, gameroomref_HandValue_J9, gameroomref_HandValue_J15, geti, ha0, show a < 13 by omega, hb0, show b < 13 by omega] at ka kb ⊢
        try simp [ka, kb]
    · refine ⟨valOf 5 [a, b, c, d], valOf_nonneg hS (by omega), ?_, ?_⟩
      · have : poker_value_J8 [a, b, c, d] 5 = some (valOf 5 [a, b, c, d]) := val_p (fun k _ => geti_bd hS k) (by omega)
        rw [← this]
        simp [asrt, hl, poker_value_J7, geti, ha0, show a < 13 by omega] at ka ⊢
        try simp [ka]
      · have : gameroomref_HandValue_J16 5 [a, b, c, d] = some (valOf 5 [a, b, c, d]) := val_r (by simp) (fun k _ => geti_bd hS k) (by omega)
        rw [← this]
        simp [asrt, gameroomref_HandValue_J9, gameroomref_HandValue_J15, geti, ha0, show a < 13 by omega, hb0, show b < 13 by omega] at ka kb ⊢
        try simp [ka, kb]
  · obtain rfl := len0 l4
    obtain rfl := len0 l3
    obtain rfl := len0 l2
    obtain ⟨a, b, c, d, e, rfl⟩ := len5 l1
    obtain ⟨⟨ha0, ha1⟩, ka⟩ := m1 a (by simp)
    obtain ⟨⟨hb0, hb1⟩, kb⟩ := m1 b (by simp)
    obtain ⟨⟨hc0, hc1⟩, kc⟩ := m1 c (by simp)
    obtain ⟨⟨hd0, hd1⟩, kd⟩ := m1 d (by simp)
    obtain ⟨⟨he0, he1⟩, ke⟩ := m1 e (by simp)
    have ht := htop.2 (by simp)
    subst ht
    have hl : (S0.length : Int) = 5 := by simp at hlen0; omega
    have hS : ∀ x ∈ ([a, b, c, d, e] : List Int), 0 ≤ x ∧ x ≤ 12 := by simp; omega
    have hA : ∀ x ∈ ([a] : List Int), 0 ≤ x ∧ x ≤ 12 := by simp; omega
    have hB : ∀ x ∈ ([b] : List Int), 0 ≤ x ∧ x ≤ 12 := by simp; omega
    have w1 : w64 (a - e) = a - e := w64_of (by omega)
    by_cases h1 : a = 12 ∧ b = 3
    · obtain ⟨rfl, rfl⟩ := h1
      have hT : topP [12, 3, c, d, e] = 3 := by simp [topP, geti]
      rw [hT]
      cases f
      · refine ⟨valOf 4 [3], valOf_nonneg hB (by omega), ?_, ?_⟩
        · have : poker_value_J8 [3] 4 = some (valOf 4 [3]) := val_p (fun k _ => geti_bd hB k) (by omega)
          rw [← this]
          simp [asrt, hl, poker_value_J7, geti, cut] at kb ⊢
          simp [kb]
        · have : gameroomref_HandValue_J16 4 [3] = some (valOf 4 [3]) := val_r (by simp) (fun k _ => geti_bd hB k) (by omega)
          rw [← this]
          simp [asrt, gameroomref_HandValue_J9, gameroomref_HandValue_J15, geti] at ka kb ⊢
          simp [ka]
      · refine ⟨valOf 8 [3], valOf_nonneg hB (by omega), ?_, ?_⟩
        · have : poker_value_J8 [3] 8 = some (valOf 8 [3]) := val_p (fun k _ => geti_bd hB k) (by omega)
          rw [← this]
          simp [asrt, hl, poker_value_J7, geti, cut]
        · have : gameroomref_HandValue_J16 8 [3] = some (valOf 8 [3]) := val_r (by simp) (fun k _ => geti_bd hB k) (by omega)
          rw [← this]
          simp [gameroomref_HandValue_J9, gameroomref_HandValue_J15]
    · by_cases h2 : a - e = 4
      · have hT : topP [a, b, c, d, e] = a := by
          have e1 : ¬ (a = 12 ∧ b = 3) := h1
          simp [topP, geti, e1, h2]
        rw [hT]
        cases f
        · refine ⟨valOf 4 [a], valOf_nonneg hA (by omega), ?_, ?_⟩
          · have : poker_value_J8 [a] 4 = some (valOf 4 [a]) := val_p (fun k _ => geti_bd hA k) (by omega)
            rw [← this]
            simp [asrt, hl, poker_value_J7, geti, cut, h1, show w64 4 = 4 by decide, h2, ha0, show a < 13 by omega] at ka ⊢
            simp [ka]
          · have : gameroomref_HandValue_J16 4 [a] = some (valOf 4 [a]) := val_r (by simp) (fun k _ => geti_bd hA k) (by omega)
            rw [← this]
            simp [asrt, gameroomref_HandValue_J9, gameroomref_HandValue_J15, geti, ha0, show a < 13 by omega] at ka ⊢
            simp [ka]
        · refine ⟨valOf 8 [a], valOf_nonneg hA (by omega), ?_, ?_⟩
          · have : poker_value_J8 [a] 8 = some (valOf 8 [a]) := val_p (fun k _ => geti_bd hA k) (by omega)
            rw [← this]
            simp [asrt, hl, poker_value_J7, geti, cut, h1, show w64 4 = 4 by decide, h2]
          · have : gameroomref_HandValue_J16 8 [a] = some (valOf 8 [a]) := val_r (by simp) (fun k _ => geti_bd hA k) (by omega)
            rw [← this]
            simp [gameroomref_HandValue_J9, gameroomref_HandValue_J15, ha0]
      · have hT : topP [a, b, c, d, e] = -1 := by
          have e1 : ¬ (a = 12 ∧ b = 3) := h1
          simp [topP, geti, e1, h2]
        rw [hT]
        cases f
        · refine ⟨valOf 0 [a, b, c, d, e], valOf_nonneg hS (by omega), ?_, ?_⟩
          · have : poker_value_J8 [a, b, c, d, e] 0 = some (valOf 0 [a, b, c, d, e]) := val_p (fun k _ => geti_bd hS k) (by omega)
            rw [← this]
            simp [asrt, hl, poker_value_J7, geti, h1, w1, h2, ha0, show a < 13 by omega] at ka ⊢
            simp [ka]
          · have : gameroomref_HandValue_J16 0 [a, b, c, d, e] = some (valOf 0 [a, b, c, d, e]) := val_r (by simp) (fun k _ => geti_bd hS k) (by omega)
            rw [← this]
            simp [asrt, gameroomref_HandValue_J9, gameroomref_HandValue_J15, geti, ha0, show a < 13 by omega] at ka ⊢
            simp [ka]
        · refine ⟨valOf 5 [a, b, c, d, e], valOf_nonneg hS (by omega), ?_, ?_⟩
          · have : poker_value_J8 [a, b, c, d, e] 5 = some (valOf 5 [a, b, c, d, e]) := val_p (fun k _ => geti_bd hS k) (by omega)
            rw [← this]
            simp [asrt, hl, poker_value_J7, geti, h1, w1, h2, ha0, show a < 13 by omega] at ka ⊢
            simp [ka]
          · have : gameroomref_HandValue_J16 5 [a, b, c, d, e] = some (valOf 5 [a, b, c, d, e]) := val_r (by simp) (fun k _ => geti_bd hS k) (by omega)
            rw [← this]
            simp [asrt, gameroomref_HandValue_J9, gameroomref_HandValue_J15, geti, ha0, show a < 13 by omega] at ka ⊢
            simp [ka]
end Go.Proofs.Ytoickcchcjehdaa
