/-
  BridgeBests: the document's search.
-/
import Derived.Test.YtlpaklmfgldkoaaBBb
namespace Go.Proofs.Ytlpaklmfgldkoaa
open Go Go.GL

structure Rel (d : List Int) (hands : List (List Int)) : Prop where
  len : hands.length = 4
  row : ∀ p : Nat, p < 4 → (geti2 hands (p : Int)).Perm (handOf d p)

def CardsOk (l : List Int) : Prop := ∀ x ∈ l, 0 ≤ x ∧ x ≤ 51

theorem win_v {l : List Int} (s : Int) (hl : l.length = 4) (hc : CardsOk l) : wv l s < 4 ∧ bridge_winner_m l s = some ((wv l s : Nat) : Int) ∧ gameroomref_TrickWinner_m l s = some ((wv l s : Nat) : Int) := by
  obtain ⟨v, hv, e1, e2⟩ := win_both (s := s) hl (fun i hi => hc _ (List.mem_of_getElem? (get_geti (l := l) (i := i) (by omega))))
  have e : wv l s = v := by
    unfold wv
    rw [e1]
    simp
  rw [e]
  exact ⟨hv, e1, e2⟩

theorem tmod4 (a : Nat) : Int.tmod (a : Int) 4 = ((a % 4 : Nat) : Int) := tmod_nat a 4
theorem tmod2 (a : Nat) : Int.tmod (a : Int) 2 = ((a % 2 : Nat) : Int) := tmod_nat a 2
theorem w64_add {a b : Nat} (h : a + b ≤ 1000) : w64 ((a : Int) + (b : Int)) = ((a + b : Nat) : Int) := by
  rw [w64_of (by omega)]; omega
theorem take_nextI {l : List Int} {i : Nat} (h : i < l.length) : l.take (i + 1) = l.take i ++ [geti l (i : Int)] := by
  have g := get_geti h
  rw [List.getElem?_eq_getElem h] at g
  rw [List.take_succ_eq_append_getElem h, Option.some.inj g]
theorem split_at {l : List Int} {i : Nat} (h : i < l.length) : l = l.take i ++ geti l (i : Int) :: l.drop (i + 1) := by
  have g := get_geti h
  rw [List.getElem?_eq_getElem h] at g
  have : l.drop i = geti l (i : Int) :: l.drop (i + 1) := by rw [List.drop_eq_getElem_cons h, Option.some.inj g]
  rw [← this, List.take_append_drop]
theorem ints_r {l : List Int} (h : l.length ≤ 1000) : gameroomref_Ints_m l = some l := by
  unfold gameroomref_Ints_m
  rw [asrt_pos (by unfold bigN; omega)]; rfl

/-- The hands behind a play. -/
def behind (hands : List (List Int)) (who i : Nat) : List (List Int) := (List.range 4).map fun k => if k = who then (geti2 hands (k : Int)).take i ++ (geti2 hands (k : Int)).drop (i + 1) else geti2 hands (k : Int)
theorem behind_get {hands : List (List Int)} {who i k : Nat} (h : k < 4) : geti2 (behind hands who i) (k : Int) = if k = who then (geti2 hands (k : Int)).take i ++ (geti2 hands (k : Int)).drop (i + 1) else geti2 hands (k : Int) := by
  unfold geti2 behind
  rw [Int.toNat_natCast, List.getD_eq_getElem?_getD, List.getElem?_map, List.getElem?_range h]; rfl

theorem Rel.next {d : List Int} {hands : List (List Int)} (H : Rel d hands) (hd : d.length = 52) {who i : Nat} (hw : who < 4) (hi : i < (geti2 hands (who : Int)).length) : Rel (d.set (geti (geti2 hands (who : Int)) (i : Int)).toNat 4) (behind hands who i) := by
  have hm : geti (geti2 hands (who : Int)) (i : Int) ∈ geti2 hands (who : Int) := List.mem_of_getElem? (get_geti hi)
  have hc := mem_hand.1 ((H.row who hw).mem_iff.1 hm)
  refine ⟨by simp [behind], fun p hp => ?_⟩
  rw [behind_get hp, hand_set hd hc.1 hp]
  by_cases e : p = who
  · subst e
    rw [if_pos rfl]
    have h1 : (geti (geti2 hands (p : Int)) (i : Int) :: ((geti2 hands (p : Int)).take i ++ (geti2 hands (p : Int)).drop (i + 1))).Perm (geti2 hands (p : Int)) := by
      have := List.perm_middle (a := geti (geti2 hands (p : Int)) (i : Int)) (l₁ := (geti2 hands (p : Int)).take i) (l₂ := (geti2 hands (p : Int)).drop (i + 1))
      rw [← split_at hi] at this
      exact this.symm
    have h2 := (h1.trans (H.row p hp)).trans (List.perm_cons_erase ((H.row p hp).mem_iff.1 hm))
    exact h2.cons_inv
  · rw [if_neg e, List.erase_of_not_mem (fun h => by
      have := (mem_hand.1 h).2
      rw [hc.2] at this
      omega)]
    exact H.row p hp

theorem next_loop {d : List Int} {hands : List (List Int)} (H : Rel d hands) {ld : Nat} {l : List Int} {i : Nat} (hld : ld < 4) (hl : l.length < 4) (hi : i < (geti2 hands (((ld + l.length) % 4 : Nat) : Int)).length) :
    loop (gameroomref_BestTricks_L2 hands ld l i) (([] : List (List Int)), 0) = some (behind hands ((ld + l.length) % 4) i) := by
  have hrow : ∀ p : Nat, p < 4 → (geti2 hands (p : Int)).length ≤ 52 := fun p hp => by
    rw [(H.row p hp).length_eq]
    exact hand_len d p
  refine loop_from (f := fun k => ((List.range k).map fun k => if k = (ld + l.length) % 4 then (geti2 hands (k : Int)).take i ++ (geti2 hands (k : Int)).drop (i + 1) else geti2 hands (k : Int), (k : Int))) 4 (by rfl) (fun k hk => ?_) ?_
  · have hlen := H.len
    have hrk := hrow k hk
    simp only [gameroomref_BestTricks_L2]
    rw [if_pos (decide_eq_true (by omega))]
    unfold gameroomref_BestTricks_J10
    rw [w64_add (by omega), tmod4]
    unfold gameroomref_BestTricks_J11
    rw [List.range_succ, List.map_append, w64_of (by omega)]
    by_cases e : k = (ld + l.length) % 4
    · rw [if_neg (by simp; omega)]
      unfold gameroomref_BestTricks_J12 gameroomref_BestTricks_J11
      rw [← e] at hi
      have e1 : cut (geti2 hands (k : Int)) 0 (i : Int) = (geti2 hands (k : Int)).take i := by simp [cut]
      have e2 : cut (geti2 hands (k : Int)) ((i : Int) + 1) (((geti2 hands (k : Int)).length : Nat) : Int) = (geti2 hands (k : Int)).drop (i + 1) := by
        unfold cut
        rw [show ((i : Int) + 1).toNat = i + 1 by omega]
        exact List.take_of_length_le (by rw [List.length_drop]; omega)
      rw [asrt_pos (by omega), asrt_pos (by omega), asrt_pos (by omega), w64_of (x := (i : Int) + 1) (by omega), asrt_pos (by omega), e1, e2, ints_r (by rw [List.length_take]; omega), Option.bind_some, asrt_pos (by rw [List.length_take, List.length_drop]; unfold bigN; omega), asrt_pos (by simp; unfold bigR; omega), w64_of (by omega)]
      simp only [List.map_cons, List.map_nil]
      rw [if_pos e]; rfl
    · rw [if_pos (by simp; omega), asrt_pos (by omega), asrt_pos (by simp; unfold bigR; omega)]
      simp only [List.map_cons, List.map_nil]
      rw [if_neg e]; rfl
  · simp only [gameroomref_BestTricks_L2]
    rw [if_neg (by decide)]
    rfl

theorem stepM_if {α : Type} (who : Nat) (b x : Int) (f : Int → α) : (if (((decide (b < 0)) || (((((who % 2 : Nat) : Int)) == 0) && (decide (b < x)))) || (((((who % 2 : Nat) : Int)) == 1) && (decide (x < b)))) = true then f x else f b) = f (stepM who b x) := by
  unfold stepM
  by_cases h : (b < 0 ∨ (who % 2 = 0 ∧ b < x)) ∨ (who % 2 = 1 ∧ x < b)
  · rw [if_pos h, if_pos]
    simp only [Bool.or_eq_true, Bool.and_eq_true, decide_eq_true_eq, beq_iff_eq]
    omega
  · rw [if_neg h, if_neg]
    simp only [Bool.or_eq_true, Bool.and_eq_true, decide_eq_true_eq, beq_iff_eq]
    omega

theorem doc_r (s : Int) : ∀ (n : Nat) (d : List Int) (ld : Nat) (l : List Int) (h : Nat) (hands : List (List Int)), Rel d hands → Bal d ld l h → CardsOk l → h ≤ 4 → 8 * h - l.length < n → gameroomref_BestTricks_mF n hands s ld l = some (V s n d ld l)
  | 0, _, _, _, _, _, _, _, _, _, h => absurd h (by omega)
  | n + 1, d, ld, l, h, hands, R, H, hcd, h4, hn => by
    have hl4 := H.l4
    have hld := H.ld4
    have hh1 := H.h1
    have hlen := R.len
    show gameroomref_BestTricks_B (gameroomref_BestTricks_mF n) hands s ld l = _
    unfold gameroomref_BestTricks_B
    simp only [V]
    by_cases hl : l.length = 4
    · obtain ⟨v4, _, hw⟩ := win_v s hl hcd
      rw [if_pos (by rw [beq_iff_eq]; omega), if_pos hl, hw, Option.bind_some]
      have hww : (ld + wv l s) % 4 < 4 := Nat.mod_lt _ (by omega)
      have hrow := (R.row _ hww)
      have key : ∀ k : Nat, k ≤ 1 → gameroomref_BestTricks_J2 (gameroomref_BestTricks_mF n) hands s ld (wv l s : Int) (k : Int) = some ((k : Int) + if handOf d ((ld + wv l s) % 4) = [] then 0 else V s n d ((ld + wv l s) % 4) []) := by
        intro k hk
        unfold gameroomref_BestTricks_J2 gameroomref_BestTricks_J3
        rw [w64_add (by omega), tmod4, asrt_pos (by omega), hrow.length_eq]
        by_cases he : handOf d ((ld + wv l s) % 4) = []
        · rw [if_pos (by rw [he]; rfl), if_pos he]
          simp
        · have hp := List.length_pos_iff.2 he
          have := H.end_ hl _ hww
          have hT := H.trick hl hww (by omega)
          have hb := V_bd s n d _ [] (h - 1) hT (by simp only [List.length_nil]; omega)
          rw [if_neg (by rw [beq_iff_eq]; omega), if_neg he, doc_r s n d _ [] (h - 1) hands R hT (by intro x hx; cases hx) (by omega) (by simp only [List.length_nil]; omega), Option.bind_some, w64_of (by omega)]
      rw [w64_add (by omega), tmod4, tmod2]
      have h2 : (ld + wv l s) % 4 % 2 = 0 ∨ (ld + wv l s) % 4 % 2 = 1 := by omega
      rcases h2 with e | e
      · rw [if_pos (by rw [e]; rfl), e]
        exact key 1 (by omega)
      · rw [if_neg (by rw [e]; decide), e]
        exact key 0 (by omega)
    · have hw4 : (ld + l.length) % 4 < 4 := Nat.mod_lt _ (by omega)
      rw [if_neg (by rw [beq_iff_eq]; omega), if_neg hl]
      have hrow := R.row _ hw4
      have hhand := H.hand (by omega)
      have hhl := hrow.length_eq
      have hJ4 : gameroomref_BestTricks_J1 (gameroomref_BestTricks_mF n) hands s ld l = gameroomref_BestTricks_J4 (gameroomref_BestTricks_mF n) hands s ld l (ledOf l) := by
        unfold gameroomref_BestTricks_J1 ledOf
        by_cases h0 : 0 < l.length
        · rw [if_pos (decide_eq_true (by omega)), if_pos h0, asrt_pos (by omega)]
        · rw [if_neg (by rw [decide_eq_true_eq]; omega), if_neg h0]
      rw [hJ4]
      unfold gameroomref_BestTricks_J4
      let hand := geti2 hands (((ld + l.length) % 4 : Nat) : Int)
      let g : Int → Int := fun c => V s n (d.set c.toNat 4) ld (l ++ [c])
      have hloop : loop (gameroomref_BestTricks_L1 (gameroomref_BestTricks_mF n) hands s ld l (ledOf l)) ((-1), 0) = some (mm ((ld + l.length) % 4) ((hand.filter (mayB hand (ledOf l))).map g)) := by
        refine loop_from (f := fun i => (mm ((ld + l.length) % 4) (((hand.take i).filter (mayB hand (ledOf l))).map g), (i : Int))) hand.length (by rfl) (fun i hi => ?_) ?_
        · have hi' : i < (geti2 hands (((ld + l.length) % 4 : Nat) : Int)).length := hi
          simp only [gameroomref_BestTricks_L1]
          rw [w64_add (by omega), tmod4, asrt_pos (by omega), if_pos (decide_eq_true (by omega))]
          unfold gameroomref_BestTricks_J6
          rw [w64_add (by omega), tmod4, asrt_pos (by omega), asrt_pos (by omega), asrt_pos (by omega), play_r _ _ (by omega), may_p _ _ (by omega), Option.bind_some]
          have hx : geti (geti2 hands (((ld + l.length) % 4 : Nat) : Int)) (i : Int) = geti hand (i : Int) := rfl
          have hm : geti hand (i : Int) ∈ handOf d ((ld + l.length) % 4) := hrow.mem_iff.1 (List.mem_of_getElem? (get_geti hi'))
          have hmc := mem_hand.1 hm
          unfold gameroomref_BestTricks_J7
          rw [hx, take_nextI hi, List.filter_append, List.map_append, w64_of (by omega)]
          show (if (!(mayB hand (ledOf l) (geti hand (i : Int)))) = true then _ else _) = _
          cases hmay : mayB hand (ledOf l) (geti hand (i : Int)) with
          | false =>
            rw [if_pos (show (!false) = true from rfl), List.filter_cons_of_neg (by rw [hmay]; decide), List.filter_nil, List.map_nil, List.append_nil]
            rfl
          | true =>
            rw [if_neg (by decide), List.filter_cons_of_pos hmay, List.filter_nil, List.map_cons, List.map_nil, mm_snoc]
            unfold gameroomref_BestTricks_J8
            rw [next_loop R hld (by omega) hi', Option.bind_some]
            simp only [gameroomref_BestTricks_K2]
            unfold gameroomref_BestTricks_J9
            rw [ints_r (by omega), Option.bind_some, asrt_pos (by unfold bigN; omega), w64_add (by omega), tmod4, hx]
            have hR := R.next H.dl hw4 hi'
            have hIH := doc_r s n _ ld (l ++ [geti hand (i : Int)]) h _ hR (H.next (by omega) hm) (fun x hx => by
              rcases List.mem_append.1 hx with h | h
              · exact hcd x h
              · rw [List.mem_singleton] at h
                omega) h4 (by simp; omega)
            have hIH' : gameroomref_BestTricks_mF n (behind hands ((ld + l.length) % 4) i) s ld (l ++ [geti hand (i : Int)]) = some (g (geti hand (i : Int))) := hIH
            rw [hIH', Option.bind_some]
            unfold gameroomref_BestTricks_J7
            rw [tmod2, w64_of (by omega)]
            exact stepM_if ((ld + l.length) % 4) _ _ (fun y => some (St.next (y, ((i + 1 : Nat) : Int))))
        · simp only [gameroomref_BestTricks_L1]
          rw [w64_add (by omega), tmod4, asrt_pos (by omega), if_neg (by rw [decide_eq_true_eq]; exact Int.lt_irrefl _), List.take_length]
      rw [hloop]
      show some _ = _
      congr 1
      refine mm_perm ?_ ?_
      · refine List.Perm.map _ ?_
        have e : hand.filter (mayB hand (ledOf l)) = hand.filter (mayB (handOf d ((ld + l.length) % 4)) (ledOf l)) := List.filter_congr (fun x _ => may_perm hrow _ _)
        rw [e]
        exact hrow.filter _
      · intro x hx
        obtain ⟨c, hc, rfl⟩ := List.mem_map.1 hx
        exact (V_bd s n (d.set c.toNat 4) ld (l ++ [c]) h (H.next (by omega) (hrow.mem_iff.1 (List.mem_filter.1 hc).1)) (by simp; omega)).1
end Go.Proofs.Ytlpaklmfgldkoaa
