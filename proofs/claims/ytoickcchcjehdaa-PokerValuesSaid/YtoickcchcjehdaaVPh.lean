/-
  PokerValues: the law.
-/
import Derived.Test.YtoickcchcjehdaaVPg
import Derived.Test.YtoickcchcjehdaaLibT
namespace Go.Proofs.Ytoickcchcjehdaa
open Go Go.GL

theorem same_r {r : List Int} (hl : r.length ≤ 1000) : gameroomlaw_sameInts_m r r = some true := by
  unfold gameroomlaw_sameInts_m gameroomlaw_sameInts_J1
  rw [if_neg (by simp)]
  have e : loop (gameroomlaw_sameInts_L1 r r) 0 = some (.go ()) := by
    refine loop_from (f := fun i => (i : Int)) r.length (by rfl) (fun i hi => ?_) ?_
    · simp only [gameroomlaw_sameInts_L1]
      rw [if_pos (decide_eq_true (by omega))]
      unfold gameroomlaw_sameInts_J3 gameroomlaw_sameInts_J4
      rw [asrt_pos (by omega), asrt_pos (by omega), if_neg (by simp), w64_of (by omega)]; rfl
    · simp only [gameroomlaw_sameInts_L1]
      rw [if_neg (by simp)]
  rw [e]; rfl

theorem FL_ind {σ : Type} (P : σ → Prop) (f : Nat → σ → σ) (n : Nat) (hf : ∀ j s, j < n → P s → P (f j s)) : ∀ (m i : Nat) (s : σ), i + m = n → P s → P (FL f m i s) := by
  intro m
  induction m with
  | zero => intro i s _ h; exact h
  | succ m ih => intro i s hi h; exact ih (i + 1) _ (by omega) (hf i s (by omega) h)

theorem FF_len (l : List Int) : ∀ (k : Nat) (pre : List Int) (i : Nat) (s : Int × List Int), pre.length + k = 5 → i ≤ l.length → s.2.length ≤ 5 → (FF l k pre i s).2.length ≤ 5 := by
  intro k
  induction k with
  | zero =>
    intro pre i s hp _ hs
    unfold FF upd
    split
    · simp only; omega
    · exact hs
  | succ k ih =>
    intro pre i s hp hi hs
    unfold FF
    exact FL_ind (fun s => s.2.length ≤ 5) _ l.length (fun j s hj h => ih _ (j + 1) s (by rw [List.length_append]; simp only [List.length_cons, List.length_nil]; omega) (by omega) h) (l.length - i) i s (by omega) hs

/-- What is told of some cards. -/
noncomputable def toldOf (l : List Int) : Int × List Int × Int := if l.length < 5 ∨ 7 < l.length then (0, [], 11) else if wrong l = 0 then ((FF l 5 [] 0 (-1, [])).1, (FF l 5 [] 0 (-1, [])).2, 0) else (0, [], wrong l)

theorem told_p (l : List Int) : poker_told_m l = some (toldOf l) := by
  unfold poker_told_m toldOf
  by_cases h : l.length < 5 ∨ 7 < l.length
  · rw [if_pos (by rw [Bool.or_eq_true, decide_eq_true_eq, decide_eq_true_eq]; omega), if_pos h]
  · rw [if_neg (by rw [Bool.or_eq_true, decide_eq_true_eq, decide_eq_true_eq]; omega), if_neg h]
    unfold poker_told_J1
    rw [check_p (by omega), Option.bind_some]
    by_cases hw : wrong l = 0
    · rw [if_neg (by simp [hw]), if_pos hw]
      unfold poker_told_J2
      obtain ⟨h1, h2⟩ := wrong_0 hw
      rw [best_p (by omega) h1 h2, Option.bind_some]
    · rw [if_pos (by simpa using hw), if_neg hw]

theorem law_p (l : List Int) (h8 : l.length ≤ 17592186043904) : gameroomlaw_PokerValues_J1 l ((toldOf l).1, (toldOf l).2.2) ((toldOf l).2.1, (toldOf l).2.2) = some true := by
  unfold gameroomlaw_PokerValues_J1 toldOf
  by_cases h : l.length < 5 ∨ 7 < l.length
  · rw [if_neg (by rw [Bool.and_eq_true, decide_eq_true_eq, decide_eq_true_eq]; omega), if_pos h]
    rfl
  · rw [if_pos (by rw [Bool.and_eq_true, decide_eq_true_eq, decide_eq_true_eq]; omega), if_neg h, cards_r h8, Option.bind_some]
    unfold gameroomlaw_PokerValues_J2
    by_cases hw : wrong l = 0
    · rw [if_neg (by simp [hw]), if_pos hw]
      unfold gameroomlaw_PokerValues_J3
      obtain ⟨h1, h2⟩ := wrong_0 hw
      have hlen := FF_len l 5 [] 0 (-1, []) rfl (by omega) (by simp)
      rw [best_r (by omega) h1 h2, Option.bind_some, if_pos (by simp)]
      have hs := same_r (r := (FF l 5 [] 0 (-1, [])).2) (by omega)
      rw [show gameroomlaw_sameInts_m (((FF l 5 [] 0 (-1, [])).1, (FF l 5 [] 0 (-1, [])).2, (0 : Int)).2.1, ((FF l 5 [] 0 (-1, [])).1, (FF l 5 [] 0 (-1, [])).2, (0 : Int)).2.2).1 (FF l 5 [] 0 (-1, [])).2 = some true from hs, Option.bind_some]
      simp
    · rw [if_pos (by simpa using hw), if_neg hw]
      simp

theorem true_PokerValues (l : List Int) (value : Int) (hl : l.length ≤ 17592186043904) (_hy : ∀ y ∈ l, inI y) (hv : inI value) : gameroomlaw_PokerValues_m l value = some true := by
  unfold inI at hv
  unfold gameroomlaw_PokerValues_m gameroomlaw_ints_m
  rw [asrt_pos (by unfold bigN; omega), Option.bind_some, List.nil_append]
  unfold poker_Value_m poker_Best_m
  rw [told_p, Option.bind_some, Option.bind_some, Option.bind_some, told_p, Option.bind_some, Option.bind_some]
  have law := law_p l hl
  have hc : poker_Class_m value = some (if value < 0 ∨ 3341637 ≤ value then (0, 3) else (Int.tdiv value 371293, 0)) := by
    unfold poker_Class_m poker_Class_J1
    by_cases h0 : value < 0
    · rw [if_pos (by simp [h0]), if_pos (.inl h0)]
    · have e : Int.tdiv value 371293 = value / 371293 := Int.tdiv_eq_ediv_of_nonneg (by omega)
      have e2 : w64 (Int.tdiv value 371293) = value / 371293 := by rw [e, w64_of (by omega)]
      rw [e2, e]
      by_cases h1 : 3341637 ≤ value
      · rw [if_pos (by rw [Bool.or_eq_true, decide_eq_true_eq, decide_eq_true_eq]; omega), if_pos (.inr h1)]
      · rw [if_neg (by rw [Bool.or_eq_true, decide_eq_true_eq, decide_eq_true_eq]; omega), if_neg (by omega)]
  rw [hc, Option.bind_some]
  by_cases h : value < 0 ∨ 3341637 ≤ value
  · rw [if_pos (by rw [Bool.or_eq_true, decide_eq_true_eq, decide_eq_true_eq]; exact h), if_pos h, if_neg (by simp)]
    exact law
  · rw [if_neg (by rw [Bool.or_eq_true, decide_eq_true_eq, decide_eq_true_eq]; exact h), if_neg h]
    have e : Int.tdiv value 371293 = value / 371293 := Int.tdiv_eq_ediv_of_nonneg (by omega)
    have e2 : w64 (Int.tdiv value 371293) = Int.tdiv value 371293 := w64_of (by rw [e]; omega)
    rw [e2, if_neg (by simp)]
    exact law
end Go.Proofs.Ytoickcchcjehdaa
