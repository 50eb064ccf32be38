/-
  DeckRiffles and DeckDeals: the plain laws.
-/
import Derived.Test.YtnplejebgbdfpaaNE
import Derived.Test.YtnplejebgbdfpaaPD
namespace Go.Proofs.Ytnplejebgbdfpaa
open Go Go.GL

theorem ba1 (l : List Int) (h : l.length ≤ 17592186044416) : bAnd (l.length : Int) 1 = ((l.length % 2 : Nat) : Int) := by
  unfold bAnd
  have e : (BitVec.ofInt 64 (l.length : Int) &&& BitVec.ofInt 64 1).toNat = l.length % 2 := by
    rw [BitVec.toNat_and]
    have h1 : (BitVec.ofInt 64 (l.length : Int)).toNat = l.length := by rw [BitVec.toNat_ofInt]; omega
    have h2 : (BitVec.ofInt 64 1).toNat = 1 := by decide
    rw [h1, h2]
    exact Nat.and_one_is_mod _
  rw [e]
  exact w64_of (by omega)

theorem cut_ok (l : List Int) (n : Int) (hl : l.length ≤ 104) (hn : 0 ≤ n ∧ n ≤ l.length) : deck_Cut_m l n = some (l.drop n.toNat ++ l.take n.toNat, 0) := by
  obtain ⟨k, rfl⟩ := Int.eq_ofNat_of_zero_le hn.1
  have hk : k ≤ l.length := by omega
  unfold deck_Cut_m deck_Cut_J1
  rw [if_neg (by simp; omega), if_neg (by simp; omega), asrt_pos ⟨by omega, by omega, by omega⟩, asrt_pos ⟨by omega, by omega, by omega⟩, cut_take, cut_drop l k hk,
    concat_ok _ (by unfold bigN; simp) (by unfold bigN; simp [tot]; omega)]
  simp

theorem true_DeckRiffles (l : List Int) (b : Bool) (n : Int) (hl : l.length ≤ 17592186043904) (_ : ∀ y ∈ l, inI y) (_ : inI n) : gameroomlaw_DeckRiffles_m l b n = some true := by
  have hbig : (l.length : Int) ≤ bigN := by unfold bigN; omega
  have tm : Int.tmod (l.length : Int) 2 = ((l.length % 2 : Nat) : Int) := tmod_nat _ 2
  -- the second half
  have part2 : ∀ r4, deck_Cut_m l n = some r4 → gameroomlaw_DeckRiffles_J1 l n r4 = some true := by
    intro r4 h4
    unfold gameroomlaw_DeckRiffles_J1
    by_cases h1 : 104 < l.length
    · unfold deck_Cut_m at h4
      rw [if_pos (by simp; omega)] at h4
      obtain rfl := Option.some.inj h4
      rw [if_pos (by simp; omega)]
      rfl
    · rw [if_neg (by simp; omega)]
      unfold gameroomlaw_DeckRiffles_J3
      by_cases h2 : n < 0 ∨ (l.length : Int) < n
      · unfold deck_Cut_m at h4
        rw [if_neg (by simp; omega), if_pos (by simpa using h2)] at h4
        obtain rfl := Option.some.inj h4
        rw [if_pos (by simpa using h2)]
        rfl
      · rw [cut_ok l n (by omega) (by omega)] at h4
        obtain rfl := Option.some.inj h4
        rw [if_neg (by simpa using h2)]
        obtain ⟨k, rfl⟩ : ∃ k : Nat, n = k := ⟨n.toNat, by omega⟩
        have hk : k ≤ l.length := by omega
        unfold gameroomlaw_DeckRiffles_J4 gameroomlaw_DeckRiffles_J5
        simp only [beq_self_eq_true, if_true, Bool.true_and, forall_const]
        rw [asrt_pos ⟨by omega, by omega, by omega⟩, asrt_pos ⟨by omega, by omega, by omega⟩, cut_take, cut_drop l k hk, ints_ok _ (by unfold bigN; simp; omega)]
        simp only [Option.bind_some, Int.toNat_natCast]
        rw [asrt_pos (by unfold bigN; simp; omega), sameInts_ok _ _ (by unfold bigN; simp; omega)]
        simp
  unfold gameroomlaw_DeckRiffles_m
  rw [ints_ok l hbig]
  simp only [Option.bind_some]
  -- what a cut answers
  have hcut : ∃ r4, deck_Cut_m l n = some r4 := by
    by_cases h1 : 104 < l.length
    · exact ⟨_, by unfold deck_Cut_m; rw [if_pos (by simp; omega)]⟩
    · by_cases h2 : n < 0 ∨ (l.length : Int) < n
      · exact ⟨_, by unfold deck_Cut_m; rw [if_neg (by simp; omega), if_pos (by simpa using h2)]⟩
      · exact ⟨_, cut_ok l n (by omega) (by omega)⟩
  obtain ⟨r4, h4⟩ := hcut
  have p2 := part2 r4 h4
  by_cases hodd : l.length % 2 = 1 ∨ 104 < l.length
  · have hr : deck_Riffle_m l b = some ([], 2) := by
      unfold deck_Riffle_m
      rw [ba1 l (by omega), if_pos (by simp; omega)]
    rw [hr, h4, tm]
    simp only [Option.bind_some]
    rw [if_pos (by simp; omega), if_neg (by simp)]
    exact p2
  · obtain ⟨h, hh⟩ : ∃ h, l.length = 2 * h := ⟨l.length / 2, by omega⟩
    have hr : deck_Riffle_m l b = some (rif h b l, 0) := by
      unfold deck_Riffle_m
      rw [ba1 l (by omega), if_neg (by simp; omega)]
      unfold deck_Riffle_J1
      rw [riffle_ok h (by omega) b l hh]
      rfl
    have hlen : (rif h b l).length = 2 * h := by unfold rif; rw [il_length b _ _ (by simp; omega)]; simp; omega
    rw [hr, h4, tm]
    simp only [Option.bind_some]
    rw [if_neg (by simp; omega), riffleOf_ok h (by omega) b l hh]
    simp only [bne_self_eq_false, Bool.not_false, if_true, Option.bind_some]
    rw [sameInts_ok _ _ (by unfold bigN; omega)]
    simp only [decide_true, Option.bind_some, Bool.not_true, Bool.or_false]
    unfold gameroomlaw_DeckRiffles_J2
    rw [if_neg (by simp)]
    exact p2

end Go.Proofs.Ytnplejebgbdfpaa
