/-
  BridgeBests: hands, what a play is worth.
-/
import Derived.Test.YtlpaklmfgldkoaaBBa
namespace Go.Proofs.Ytlpaklmfgldkoaa
open Go Go.GL

def handOf (d : List Int) (p : Nat) : List Int := ((List.range 52).filter fun c : Nat => decide (geti d (c : Int) = (p : Int))).map fun (c : Nat) => (c : Int)

theorem mem_hand {d : List Int} {p : Nat} {x : Int} : x ∈ handOf d p ↔ (0 ≤ x ∧ x < 52) ∧ geti d x = p := by
  unfold handOf
  rw [List.mem_map]
  constructor
  · rintro ⟨c, hc, rfl⟩
    rw [List.mem_filter, List.mem_range, decide_eq_true_eq] at hc
    exact ⟨by omega, hc.2⟩
  · rintro ⟨h1, h2⟩
    refine ⟨x.toNat, ?_, by omega⟩
    rw [List.mem_filter, List.mem_range, decide_eq_true_eq, Int.toNat_of_nonneg h1.1]
    exact ⟨by omega, h2⟩
theorem hand_nodup (d : List Int) (p : Nat) : (handOf d p).Nodup := by
  unfold handOf
  rw [List.Nodup, List.pairwise_map]
  refine (List.Pairwise.filter _ List.pairwise_lt_range).imp (fun h => by omega)
theorem hand_len (d : List Int) (p : Nat) : (handOf d p).length ≤ 52 := by
  unfold handOf
  rw [List.length_map]
  exact Nat.le_trans (List.length_filter_le _ _) (by rw [List.length_range]; exact Nat.le_refl _)

theorem geti_set4 {d : List Int} (hl : d.length = 52) {c x : Int} (hc : 0 ≤ c ∧ c < 52) (hx : 0 ≤ x ∧ x < 52) : geti (d.set c.toNat 4) x = if x = c then 4 else geti d x := by
  obtain ⟨a, rfl⟩ : ∃ a : Nat, c = (a : Int) := ⟨c.toNat, by omega⟩
  obtain ⟨b, rfl⟩ : ∃ b : Nat, x = (b : Int) := ⟨x.toNat, by omega⟩
  rw [Int.toNat_natCast, geti_nat, geti_nat, List.getD_eq_getElem?_getD, List.getD_eq_getElem?_getD, List.getElem?_set]
  by_cases h : a = b
  · rw [if_pos h, if_pos (by omega), if_pos (by omega)]; rfl
  · rw [if_neg h, if_neg (by omega)]

theorem hand_set {d : List Int} {p : Nat} {c : Int} (hl : d.length = 52) (hc : 0 ≤ c ∧ c < 52) (hp : p < 4) : handOf (d.set c.toNat 4) p = (handOf d p).erase c := by
  rw [(hand_nodup d p).erase_eq_filter]
  unfold handOf
  rw [List.filter_map, List.filter_filter]
  congr 1
  refine List.filter_congr (fun x hx => ?_)
  rw [List.mem_range] at hx
  rw [geti_set4 hl hc (by omega)]
  by_cases h : (x : Int) = c
  · rw [if_pos h]
    simp [h]; omega
  · rw [if_neg h]
    simp [h]

/-! ### The best of some values -/
def stepM (who : Nat) (top n : Int) : Int := if (top < 0 ∨ (who % 2 = 0 ∧ top < n)) ∨ (who % 2 = 1 ∧ n < top) then n else top
def mm (who : Nat) (l : List Int) : Int := l.foldl (stepM who) (-1)
def good (who : Nat) (n r : Int) : Prop := if who % 2 = 0 then n ≤ r else r ≤ n

theorem fold_spec (who : Nat) : ∀ (l : List Int) (top : Int), (∀ n ∈ l, 0 ≤ n) → 0 ≤ top → (l.foldl (stepM who) top = top ∨ l.foldl (stepM who) top ∈ l) ∧ good who top (l.foldl (stepM who) top) ∧ ∀ n ∈ l, good who n (l.foldl (stepM who) top)
  | [], top, _, _ => ⟨.inl rfl, by unfold good; split <;> exact Int.le_refl _, by simp⟩
  | x :: l, top, h, ht => by
    have hx := h x (by simp)
    have hst : (stepM who top x = top ∨ stepM who top x = x) ∧ good who top (stepM who top x) ∧ good who x (stepM who top x) ∧ 0 ≤ stepM who top x := by
      unfold good
      have : who % 2 = 0 ∨ who % 2 = 1 := by omega
      by_cases hc : (top < 0 ∨ (who % 2 = 0 ∧ top < x)) ∨ (who % 2 = 1 ∧ x < top)
      · have e0 : stepM who top x = x := if_pos hc
        rw [e0]
        refine ⟨.inr rfl, ?_, ?_, hx⟩ <;> split <;> omega
      · have e0 : stepM who top x = top := if_neg hc
        rw [e0]
        refine ⟨.inl rfl, ?_, ?_, ht⟩ <;> split <;> omega
    obtain ⟨h1, h2, h3, h4⟩ := hst
    obtain ⟨i1, i2, i3⟩ := fold_spec who l (stepM who top x) (fun n hn => h n (by simp [hn])) h4
    have tr : ∀ {a b c : Int}, good who a b → good who b c → good who a c := fun hab hbc => by
      unfold good at *
      split at hab <;> rename_i e
      · rw [if_pos e] at hbc ⊢; omega
      · rw [if_neg e] at hbc ⊢; omega
    refine ⟨?_, tr h2 i2, fun n hn => ?_⟩
    · show List.foldl _ (stepM who top x) l = top ∨ List.foldl _ (stepM who top x) l ∈ _
      rcases i1 with i1 | i1
      · rw [i1]
        rcases h1 with h1 | h1
        · exact .inl h1
        · rw [h1]; exact .inr (by simp)
      · exact .inr (List.mem_cons_of_mem _ i1)
    · rcases List.mem_cons.1 hn with rfl | hn
      · exact tr h3 i2
      · exact i3 n hn

theorem mm_spec {who : Nat} {l : List Int} (h : ∀ n ∈ l, 0 ≤ n) (hne : l ≠ []) : mm who l ∈ l ∧ ∀ n ∈ l, good who n (mm who l) := by
  match l, hne with
  | x :: l, _ =>
    have hx : stepM who (-1) x = x := if_pos (.inl (.inl (by decide)))
    have := fold_spec who l x (fun n hn => h n (by simp [hn])) (h x (by simp))
    have e : mm who (x :: l) = l.foldl (stepM who) x := by
      unfold mm
      rw [List.foldl_cons, hx]
    rw [e]
    refine ⟨?_, fun n hn => ?_⟩
    · rcases this.1 with h | h
      · rw [h]; simp
      · exact List.mem_cons_of_mem _ h
    · rcases List.mem_cons.1 hn with rfl | hn
      · exact this.2.1
      · exact this.2.2 n hn

theorem mm_perm {who : Nat} {a b : List Int} (hp : a.Perm b) (h : ∀ n ∈ a, 0 ≤ n) : mm who a = mm who b := by
  by_cases hne : a = []
  · subst hne
    rw [List.nil_perm.1 hp]
  · have hb : ∀ n ∈ b, 0 ≤ n := fun n hn => h n (hp.mem_iff.2 hn)
    have hneb : b ≠ [] := fun e => hne (by rw [e] at hp; exact List.perm_nil.1 hp)
    obtain ⟨a1, a2⟩ := mm_spec (who := who) h hne
    obtain ⟨b1, b2⟩ := mm_spec (who := who) hb hneb
    have g1 := a2 _ (hp.mem_iff.2 b1)
    have g2 := b2 _ (hp.mem_iff.1 a1)
    unfold good at g1 g2
    split at g1 <;> rename_i e
    · rw [if_pos e] at g2; omega
    · rw [if_neg e] at g2; omega
theorem mm_snoc (who : Nat) (l : List Int) (x : Int) : mm who (l ++ [x]) = stepM who (mm who l) x := by
  unfold mm
  rw [List.foldl_append]; rfl

/-! ### What may be played -/
def mayB (hand : List Int) (led c : Int) : Bool := (decide (led < 0) || (Int.tmod c 4 == Int.tmod led 4)) || !(hand.any fun x => Int.tmod x 4 == Int.tmod led 4)
theorem may_p {hand : List Int} (led c : Int) (h : hand.length ≤ 17592186044416) : bridge_may_m hand led c = some (mayB hand led c) := by
  unfold bridge_may_m mayB
  rw [contains2_p led h]
  cases (decide (led < 0) || Int.tmod c 4 == Int.tmod led 4) <;> rfl
theorem may_some {hand : List Int} (led : Int) (hne : hand ≠ []) : hand.filter (mayB hand led) ≠ [] := by
  intro e
  rw [List.filter_eq_nil_iff] at e
  by_cases h : (hand.any fun x => Int.tmod x 4 == Int.tmod led 4) = true
  · obtain ⟨x, hx, hm⟩ := List.any_eq_true.1 h
    refine e x hx ?_
    unfold mayB
    rw [hm, Bool.or_true, Bool.true_or]
  · obtain ⟨x, hx⟩ := List.exists_mem_of_ne_nil _ hne
    refine e x hx ?_
    unfold mayB
    rw [Bool.eq_false_iff.2 h]; simp
theorem may_perm {a b : List Int} (hp : a.Perm b) (led c : Int) : mayB a led c = mayB b led c := by
  unfold mayB
  rw [hp.any_eq]

def ledOf (l : List Int) : Int := if 0 < l.length then geti l 0 else -1
noncomputable def wv (l : List Int) (s : Int) : Nat := ((bridge_winner_m l s).getD 0).toNat

/-- What is to come from here on. -/
noncomputable def V (s : Int) : Nat → List Int → Nat → List Int → Int
  | 0, _, _, _ => 0
  | n + 1, d, ld, l =>
    if l.length = 4 then (1 - (((ld + wv l s) % 4 % 2 : Nat) : Int)) + (if handOf d ((ld + wv l s) % 4) = [] then 0 else V s n d ((ld + wv l s) % 4) [])
    else mm ((ld + l.length) % 4) (((handOf d ((ld + l.length) % 4)).filter (mayB (handOf d ((ld + l.length) % 4)) (ledOf l))).map (fun c => V s n (d.set c.toNat 4) ld (l ++ [c])))

structure Bal (d : List Int) (ld : Nat) (l : List Int) (h : Nat) : Prop where
  ld4 : ld < 4
  l4 : l.length ≤ 4
  dl : d.length = 52
  h1 : 1 ≤ h
  all : ∀ j, j < 4 → (handOf d ((ld + j) % 4)).length + (if j < l.length then 1 else 0) = h

theorem Bal.next {d : List Int} {ld : Nat} {l : List Int} {h : Nat} (H : Bal d ld l h) (hl : l.length < 4) {c : Int} (hc : c ∈ handOf d ((ld + l.length) % 4)) : Bal (d.set c.toNat 4) ld (l ++ [c]) h := by
  have hm := mem_hand.1 hc
  refine ⟨H.ld4, by simp; omega, by rw [List.length_set, H.dl], H.h1, fun j hj => ?_⟩
  have ha := H.all j hj
  rw [hand_set H.dl hm.1 (by omega), List.length_append, List.length_singleton]
  by_cases e : j = l.length
  · subst e
    rw [if_neg (by omega)] at ha
    rw [if_pos (by omega), List.length_erase_of_mem hc]
    have := H.h1
    omega
  · have hne : c ∉ handOf d ((ld + j) % 4) := fun h' => by
      have := (mem_hand.1 h').2
      rw [hm.2] at this
      have := H.ld4
      omega
    rw [List.erase_of_not_mem hne]
    by_cases hjl : j < l.length
    · rw [if_pos hjl] at ha
      rw [if_pos (by omega)]; exact ha
    · rw [if_neg hjl] at ha
      rw [if_neg (by omega)]; exact ha
theorem Bal.hand {d : List Int} {ld : Nat} {l : List Int} {h : Nat} (H : Bal d ld l h) (hl : l.length < 4) : (handOf d ((ld + l.length) % 4)).length = h := by
  have := H.all l.length hl
  rw [if_neg (by omega)] at this
  exact this
theorem Bal.end_ {d : List Int} {ld : Nat} {l : List Int} {h : Nat} (H : Bal d ld l h) (hl : l.length = 4) (p : Nat) (hp : p < 4) : (handOf d p).length + 1 = h := by
  have hld := H.ld4
  have := H.all ((p + 4 - ld) % 4) (by omega)
  rw [if_pos (by omega), show (ld + (p + 4 - ld) % 4) % 4 = p by omega] at this
  exact this
theorem Bal.trick {d : List Int} {ld : Nat} {l : List Int} {h : Nat} (H : Bal d ld l h) (hl : l.length = 4) {who : Nat} (hw : who < 4) (hh : 2 ≤ h) : Bal d who [] (h - 1) := by
  refine ⟨hw, by simp, H.dl, by omega, fun j hj => ?_⟩
  have := H.end_ hl ((who + j) % 4) (by omega)
  rw [if_neg (by simp)]
  omega

theorem V_st (s : Int) : ∀ (n n' : Nat) (d : List Int) (ld : Nat) (l : List Int) (h : Nat), Bal d ld l h → 8 * h - l.length < n → 8 * h - l.length < n' → V s n d ld l = V s n' d ld l
  | 0, _, _, _, _, _, _, h, _ => absurd h (by omega)
  | _ + 1, 0, _, _, _, _, _, _, h => absurd h (by omega)
  | n + 1, n' + 1, d, ld, l, h, H, hn, hn' => by
    have hl4 := H.l4
    have hh1 := H.h1
    simp only [V]
    by_cases hl : l.length = 4
    · rw [if_pos hl, if_pos hl]
      have hw : (ld + wv l s) % 4 < 4 := Nat.mod_lt _ (by omega)
      by_cases he : handOf d ((ld + wv l s) % 4) = []
      · rw [if_pos he, if_pos he]
      · rw [if_neg he, if_neg he]
        have hp := List.length_pos_iff.2 he
        have := H.end_ hl _ hw
        have hT := H.trick hl hw (by omega)
        rw [V_st s n n' d _ [] (h - 1) hT (by simp only [List.length_nil]; omega) (by simp only [List.length_nil]; omega)]
    · rw [if_neg hl, if_neg hl]
      congr 1
      refine List.map_congr_left (fun c hc => ?_)
      have hc' := (List.mem_filter.1 hc).1
      exact V_st s n n' _ ld _ h (H.next (by omega) hc') (by simp; omega) (by simp; omega)

theorem V_bd (s : Int) : ∀ (n : Nat) (d : List Int) (ld : Nat) (l : List Int) (h : Nat), Bal d ld l h → 8 * h - l.length < n → 0 ≤ V s n d ld l ∧ V s n d ld l ≤ h
  | 0, _, _, _, _, _, h => absurd h (by omega)
  | n + 1, d, ld, l, h, H, hn => by
    have hl4 := H.l4
    have hh1 := H.h1
    simp only [V]
    by_cases hl : l.length = 4
    · rw [if_pos hl]
      have hw : (ld + wv l s) % 4 < 4 := Nat.mod_lt _ (by omega)
      by_cases he : handOf d ((ld + wv l s) % 4) = []
      · rw [if_pos he]
        omega
      · rw [if_neg he]
        have hp := List.length_pos_iff.2 he
        have := H.end_ hl _ hw
        have hT := H.trick hl hw (by omega)
        have := V_bd s n d _ [] (h - 1) hT (by simp only [List.length_nil]; omega)
        omega
    · rw [if_neg hl]
      have hlen := H.hand (by omega)
      have hne : handOf d ((ld + l.length) % 4) ≠ [] := fun e => by rw [e] at hlen; simp at hlen; omega
      have hv : ∀ x ∈ ((handOf d ((ld + l.length) % 4)).filter (mayB (handOf d ((ld + l.length) % 4)) (ledOf l))).map (fun c => V s n (d.set c.toNat 4) ld (l ++ [c])), 0 ≤ x ∧ x ≤ (h : Int) := fun x hx => by
        obtain ⟨c, hc, rfl⟩ := List.mem_map.1 hx
        exact V_bd s n _ ld _ h (H.next (by omega) (List.mem_filter.1 hc).1) (by simp; omega)
      have hm := (mm_spec (who := (ld + l.length) % 4) (fun x hx => (hv x hx).1) (by
        rw [Ne, List.map_eq_nil_iff]
        exact may_some _ hne)).1
      exact hv _ hm
end Go.Proofs.Ytlpaklmfgldkoaa
