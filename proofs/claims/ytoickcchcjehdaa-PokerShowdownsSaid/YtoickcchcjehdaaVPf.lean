/-
  PokerValues: the value of five cards; all fives of some cards.
-/
import Derived.Test.YtoickcchcjehdaaVPe
namespace Go.Proofs.Ytoickcchcjehdaa
open Go Go.GL

theorem nodup_len {l : List Int} {L : Nat} (h : l.Nodup) (hb : ∀ q ∈ l, ∃ b : Nat, b < L ∧ q = b) : l.length ≤ L := by
  have e : sortI l = ((List.range L).filter (fun (b : Nat) => decide ((b : Int) ∈ l))).map (fun (b : Nat) => (b : Int)) := by
    refine strict_ext (sortI_lt h) (filt_lt _ _) fun q => ?_
    rw [sortI_mem, List.mem_map]
    constructor
    · intro hq
      obtain ⟨b, h1, rfl⟩ := hb q hq
      exact ⟨b, by rw [List.mem_filter, List.mem_range, decide_eq_true_eq]; exact ⟨h1, hq⟩, rfl⟩
    · rintro ⟨b, h1, rfl⟩
      rw [List.mem_filter, decide_eq_true_eq] at h1
      exact h1.2
  have := congrArg List.length e
  rw [sortI_length, List.length_map] at this
  rw [this]
  refine Nat.le_trans (List.length_filter_le _ _) ?_
  rw [List.length_range]
  exact Nat.le_refl _

theorem rank4 {l : List Int} (hn : l.Nodup) (r : Int) : l.countP (fun x => decide (x / 4 = r)) ≤ 4 := by
  rw [List.countP_eq_length_filter]
  have hf : (l.filter fun x => decide (x / 4 = r)).Nodup := List.filter_sublist.nodup hn
  have hm : ((l.filter fun x => decide (x / 4 = r)).map fun x => x - 4 * r).Nodup := List.pairwise_map.2 (hf.imp fun {a b} h e => h (by omega))
  have := nodup_len (L := 4) hm (fun q hq => by
    rw [List.mem_map] at hq
    obtain ⟨x, hx, rfl⟩ := hq
    rw [List.mem_filter, decide_eq_true_eq] at hx
    exact ⟨(x - 4 * r).toNat, by omega, by omega⟩)
  rwa [List.length_map] at this

theorem manyL_get {l : List Int} {r : Int} (h0 : 0 ≤ r) (h1 : r ≤ 12) : geti (manyL l) r = ((l.countP (fun x => decide (x / 4 = r)) : Nat) : Int) := by
  obtain ⟨k, rfl⟩ := Int.eq_ofNat_of_zero_le h0
  unfold manyL
  rw [mr_geti (by omega)]

theorem many_sum : ∀ {l : List Int}, (∀ x ∈ l, 0 ≤ x ∧ x ≤ 51) → (dn.map fun r => ((l.countP (fun x => decide (x / 4 = r)) : Nat) : Int)).sum = l.length
  | [], _ => by simp [dn]
  | x :: l, h => by
    have ih := many_sum (l := l) (fun y hy => h y (by simp [hy]))
    have hx := h x (by simp)
    have hc : x / 4 = 0 ∨ x / 4 = 1 ∨ x / 4 = 2 ∨ x / 4 = 3 ∨ x / 4 = 4 ∨ x / 4 = 5 ∨ x / 4 = 6 ∨ x / 4 = 7 ∨ x / 4 = 8 ∨ x / 4 = 9 ∨ x / 4 = 10 ∨ x / 4 = 11 ∨ x / 4 = 12 := by omega
    simp only [dn, List.map_cons, List.map_nil, List.sum_cons, List.sum_nil, List.countP_cons, List.length_cons] at ih ⊢
    rcases hc with e | e | e | e | e | e | e | e | e | e | e | e | e <;> simp [e] at ih ⊢ <;> omega

/-- The value of five. -/
theorem value_eq {l : List Int} (hl : l.length = 5) (hr : ∀ x ∈ l, 0 ≤ x ∧ x ≤ 51) (hn : l.Nodup) : ∃ v, 0 ≤ v ∧ poker_value_m l = some v ∧ gameroomref_HandValue_m l = some v := by
  have hb : ∀ r, 0 ≤ r → r ≤ 12 → 0 ≤ geti (manyL l) r ∧ geti (manyL l) r ≤ 4 := fun r h0 h1 => by
    rw [manyL_get h0 h1]
    have := rank4 hn r
    omega
  have hs : (dn.map (geti (manyL l))).sum = 5 := by
    have := many_sum hr
    rw [hl] at this
    rw [← show ((5 : Nat) : Int) = 5 from rfl, ← this]
    exact congrArg List.sum (List.map_congr_left fun r hr => manyL_get (dn_mem.1 hr).1 (dn_mem.1 hr).2)
  obtain ⟨v, h0, h1, h2⟩ := J1_eq (m := manyL l) (by unfold manyL; rw [mr_length]) hb hs (flushL l)
  refine ⟨v, h0, ?_, ?_⟩
  · unfold poker_value_m
    rw [many_p hl hr, Option.bind_some]
    exact h1
  · unfold gameroomref_HandValue_m
    rw [asrt_pos (by unfold bigN; omega), many_r hl hr, Option.bind_some]
    exact h2
end Go.Proofs.Ytoickcchcjehdaa
