/-
  Gammon: a step as the document tells it, and the law.
-/
import Derived.Test.YtbmhcapeikebgaaGSa
namespace Go.Proofs.Ytbmhcapeikebgaa
open Go Go.GL

/-- The point at a distance, and back. -/
def pt (t : Int) (j : Nat) : Nat := if t = 0 then j else 25 - j

theorem of_p {b : List Int} (W K t : Int) (hl : b.length ≤ 17592186043904) : gameroomref_GammonOf_m b W K t = some (b, W, K, t) := by
  unfold gameroomref_GammonOf_m gameroomref_Ints_m
  rw [asrt_pos (by unfold bigN; omega)]; rfl

theorem menAt_p {b : List Int} {W K t : Int} (h : MayB b W K t) {j : Nat} (hj : 1 ≤ j ∧ j ≤ 24) : gameroomref_menAt_m b W K t ((pt t j : Nat) : Int) = some (mn t b j) := by
  obtain ⟨hl, h0, h25, hW, hK, ht, hok, -⟩ := h
  unfold gameroomref_menAt_m gameroomref_menAt_J1 pt mn
  rcases ht with rfl | rfl
  · rw [if_pos (by decide), if_pos rfl, if_pos rfl, asrt_pos (by omega)]
  · have := hok (25 - j) (by omega)
    rw [if_neg (by decide), if_neg (by decide), if_neg (by decide), asrt_pos (by omega), w64_of (by omega)]
    congr 1
    omega

theorem home_p {b : List Int} {W K t : Int} (h : MayB b W K t) {j : Nat} (hj : 1 ≤ j ∧ j ≤ 24) : gameroomref_homeward_m t ((pt t j : Nat) : Int) = some (j : Int) := by
  obtain ⟨hl, h0, h25, hW, hK, ht, hok, -⟩ := h
  unfold gameroomref_homeward_m gameroomref_homeward_J1 pt
  rcases ht with rfl | rfl
  · rw [if_pos (by decide), if_pos rfl]
  · rw [if_neg (by decide), if_neg (by decide), w64_of (by omega)]
    congr 1
    omega

theorem pt_pt {t : Int} {j : Nat} (hj : j ≤ 25) : pt t (pt t j) = j := by
  unfold pt; split <;> omega
theorem pt_bd {t : Int} {j : Nat} (hj : 1 ≤ j ∧ j ≤ 24) : 1 ≤ pt t j ∧ pt t j ≤ 24 := by
  unfold pt; split <;> omega

theorem mn_pt {t : Int} {b : List Int} {j : Nat} (hj : j ≤ 25) : geti b ((pt t j : Nat) : Int) = if t = 0 then mn t b j else - mn t b j := by
  unfold pt mn
  by_cases h : t = 0
  · simp only [h, if_true]
  · simp only [h, if_false]; omega

/-- A list by its points. -/
theorem by_points {c : List Int} {t : Int} {σ : Nat → Int} (ht : t = 0 ∨ t = 1) (hl : c.length = 26) (h0 : geti c 0 = 0) (h25 : geti c 25 = 0)
    (h : ∀ j : Nat, 1 ≤ j → j ≤ 24 → geti c ((pt t j : Nat) : Int) = if t = 0 then σ j else - σ j) : c = mr 26 (brd t σ) := by
  refine ext_geti (by rw [hl, mr_length]) (fun i hi => ?_)
  rw [mr_geti (by omega)]
  unfold brd
  by_cases e : i = 0 ∨ i = 25
  · rw [if_pos e]
    rcases e with rfl | rfl
    · exact h0
    · exact h25
  · rw [if_neg e]
    have hp := pt_bd (t := t) (j := i) (by omega)
    have := h (pt t i) hp.1 hp.2
    rw [pt_pt (by omega)] at this
    rw [this]
    rcases ht with rfl | rfl
    · simp [pt]
    · simp [pt]

theorem pt_ne {t : Int} {i j : Nat} (hi : i ≤ 25) (hj : j ≤ 25) : (((pt t i : Nat) : Int) = ((pt t j : Nat) : Int)) ↔ i = j := by
  unfold pt; split <;> omega

/-- What the document's step answers. -/
noncomputable def ans (b : List Int) (W K t : Int) (q : Option ((Nat → Int) × Int)) : List Int × Int × Int × Int × Bool :=
  match q with
  | none => (b, W, K, t, false)
  | some (σ, o) => (mr 26 (brd t σ), if t = 0 then σ 25 else o, if t = 0 then o else σ 25, t, true)

section
variable {b : List Int} {W K t : Int} (h : MayB b W K t)
include h

theorem scan_p {at_ pips : Nat} (ha : 1 ≤ at_ ∧ at_ ≤ 24) (hp : 1 ≤ pips ∧ pips ≤ 6) (hle : at_ ≤ pips) : ∃ x, loop (gameroomref_StepOf_L1 b W K t pips (b, W, K, t) at_) 1 = some x ∧
    ((∃ i, 1 ≤ i ∧ i ≤ 24 ∧ 0 < mn t b i ∧ (6 < i ∨ (at_ < pips ∧ at_ < i))) ∧ x = .ret (b, W, K, t, false) ∨ (¬ ∃ i, 1 ≤ i ∧ i ≤ 24 ∧ 0 < mn t b i ∧ (6 < i ∨ (at_ < pips ∧ at_ < i))) ∧ x = .go ()) := by
  refine count_loop (step := gameroomref_StepOf_L1 b W K t pips (b, W, K, t) at_) (fun (_ : Unit) (k : Nat) => ((k + 1 : Nat) : Int)) (fun k _ => ∀ i, 1 ≤ i → i ≤ k → ¬ (0 < mn t b (pt t i) ∧ (6 < pt t i ∨ (at_ < pips ∧ at_ < pt t i)))) _ 24 () (fun i h1 h2 => by omega) ?_ ?_
  · rintro k - hk hI
    have e1 : gameroomref_StepOf_L1 b W K t pips (b, W, K, t) at_ ((k + 1 : Nat) : Int) = gameroomref_StepOf_J6 b W K t pips (b, W, K, t) at_ ((k + 1 : Nat) : Int) := if_pos (decide_eq_true (by omega))
    have hb := pt_bd (t := t) (j := k + 1) (by omega)
    have em := menAt_p h (j := pt t (k + 1)) hb
    have eh := home_p h (j := pt t (k + 1)) hb
    rw [pt_pt (by omega)] at em eh
    rw [e1]
    unfold gameroomref_StepOf_J6 gameroomref_StepOf_J7
    rw [em, Option.bind_some, eh]
    by_cases c1 : 0 < mn t b (pt t (k + 1))
    · rw [if_pos (decide_eq_true c1), Option.bind_some]
      by_cases c2 : at_ < pips ∧ ¬ 6 < pt t (k + 1)
      · rw [if_pos (by simp only [Bool.and_eq_true, decide_eq_true_eq, Bool.not_eq_true', decide_eq_false_iff_not]; omega), Option.bind_some]
        by_cases c3 : at_ < pt t (k + 1)
        · right
          refine ⟨_, by rw [if_pos (by simp only [Bool.and_eq_true, Bool.or_eq_true, decide_eq_true_eq]; omega)], Or.inl ⟨⟨pt t (k + 1), hb.1, hb.2, c1, Or.inr ⟨c2.1, c3⟩⟩, rfl⟩⟩
        · left
          refine ⟨(), by rw [if_neg (by simp only [Bool.and_eq_true, Bool.or_eq_true, decide_eq_true_eq]; omega), w64_of (by omega)]; rfl, fun i h1 h2 => ?_⟩
          by_cases e : i = k + 1
          · rw [e]; intro z; omega
          · exact hI i h1 (by omega)
      · rw [if_neg (by simp only [Bool.and_eq_true, decide_eq_true_eq, Bool.not_eq_true', decide_eq_false_iff_not]; omega), Option.bind_some]
        by_cases c3 : 6 < pt t (k + 1)
        · right
          refine ⟨_, by rw [if_pos (by simp only [Bool.and_eq_true, Bool.or_eq_true, decide_eq_true_eq]; omega)], Or.inl ⟨⟨pt t (k + 1), hb.1, hb.2, c1, Or.inl c3⟩, rfl⟩⟩
        · left
          refine ⟨(), by rw [if_neg (by simp only [Bool.and_eq_true, Bool.or_eq_true, decide_eq_true_eq]; omega), w64_of (by omega)]; rfl, fun i h1 h2 => ?_⟩
          by_cases e : i = k + 1
          · rw [e]; intro z; omega
          · exact hI i h1 (by omega)
    · rw [if_neg (by simpa using c1), Option.bind_some, if_neg (by simp only [Bool.and_eq_true, decide_eq_true_eq]; omega), Option.bind_some]
      left
      refine ⟨(), by rw [if_neg (by simp only [Bool.and_eq_true, Bool.or_eq_true, decide_eq_true_eq]; omega), w64_of (by omega)]; rfl, fun i h1 h2 => ?_⟩
      by_cases e : i = k + 1
      · rw [e]; intro z; exact c1 z.1
      · exact hI i h1 (by omega)
  · rintro - hI
    refine ⟨.go (), by simp only [gameroomref_StepOf_L1]; rw [if_neg (by simp)], Or.inr ⟨?_, rfl⟩⟩
    rintro ⟨i, h1, h2, h3, h4⟩
    have hb := pt_bd (t := t) (j := i) ⟨h1, h2⟩
    refine hI (pt t i) hb.1 hb.2 ?_
    rw [pt_pt (by omega)]
    exact ⟨h3, h4⟩

theorem mn_bd {j : Nat} (hj : j ≤ 25) : -15 ≤ mn t b j ∧ mn t b j ≤ 15 := by
  have hok := h.2.2.2.2.2.2.1
  unfold mn
  split
  · exact hok j (by omega)
  · have := hok (25 - j) (by omega); omega

theorem mn_0 : mn t b 0 = 0 := by
  unfold mn
  split
  · exact h.2.1
  · have := h.2.2.1
    show - geti b 25 = 0
    omega

/-- Own and the others' bar. -/
theorem J11_p {f at_ to : Nat} {one x : Int} {c : List Int} {o2 o3 : Int} (ho : one = if t = 0 then 1 else -1) (hc : c.length = 26) (h0 : geti c 0 = 0) (h25 : geti c 25 = 0) (hto : 1 ≤ to ∧ to ≤ 24)
    (hf : f = 0 ∧ at_ = 25 ∨ 1 ≤ at_ ∧ at_ ≤ 24 ∧ f = pt t at_) (hne : at_ ≠ to)
    (h1 : ∀ j : Nat, 1 ≤ j → j ≤ 24 → geti c ((pt t j : Nat) : Int) = if j = to then x else if t = 0 then mn t b j else - mn t b j)
    (hx : -16 ≤ x ∧ x ≤ 16) (h2 : 0 ≤ o2 ∧ o2 ≤ 16) (h3 : 0 ≤ o3 ∧ o3 ≤ 16) :
    gameroomref_StepOf_J11 t f (b, W, K, t) one ((pt t to : Nat) : Int) c o2 o3 = some (mr 26 (brd t (fun j => if j = at_ then mn t b at_ - 1 else if j = to then (if t = 0 then x + 1 else 1 - x) else mn t b j)), if f = 0 ∧ t = 0 then o2 - 1 else o2, if f = 0 ∧ t = 1 then o3 - 1 else o3, t, true) := by
  have ht := h.2.2.2.2.2.1
  have hl := h.1
  have pb := pt_bd (t := t) hto
  have hlen : ∀ (i : Nat) (v : Int), (c.set i v).length = 26 := fun i v => by rw [List.length_set, hc]
  have ex : geti c ((pt t to : Nat) : Int) = x := by rw [h1 to hto.1 hto.2, if_pos rfl]
  have b1 : one = 1 ∨ one = -1 := by rw [ho]; split <;> simp
  unfold gameroomref_StepOf_J11 gameroomref_StepOf_J12
  dsimp only
  rw [asrt_pos (by omega), asrt_pos (by omega), ex, w64_of (x := x + one) (by omega), Int.toNat_natCast]
  rcases hf with ⟨rfl, rfl⟩ | ⟨ha1, ha2, rfl⟩
  · have hlist : c.set (pt t to) (x + one) = mr 26 (brd t (fun j => if j = 25 then mn t b 25 - 1 else if j = to then (if t = 0 then x + 1 else 1 - x) else mn t b j)) := by
      refine by_points ht (hlen _ _) ?_ ?_ ?_
      · rw [geti_set' (by omega) (by omega), if_neg (by omega), h0]
      · rw [geti_set' (by omega) (by omega), if_neg (by omega), h25]
      · intro j j1 j2
        rw [geti_set' (by omega) (by omega)]
        rw [if_neg (show ¬ j = 25 by omega)]
        by_cases e : j = to
        · rw [if_pos ((pt_ne (by omega) (by omega)).2 e), if_pos e, ho]
          rcases ht with rfl | rfl
          · simp
          · simp; omega
        · rw [if_neg (fun z => e ((pt_ne (by omega) (by omega)).1 z)), if_neg e, h1 j j1 j2, if_neg e]
    rw [if_neg (by simp), hlist]
    rcases ht with rfl | rfl
    · rw [if_pos (by decide), w64_of (by omega), if_pos (show (0 : Nat) = 0 ∧ (0 : Int) = 0 from ⟨rfl, rfl⟩), if_neg (show ¬ ((0 : Nat) = 0 ∧ (0 : Int) = 1) by decide)]
    · rw [if_neg (by decide), w64_of (by omega), if_neg (show ¬ ((0 : Nat) = 0 ∧ (1 : Int) = 0) by decide), if_pos (show (0 : Nat) = 0 ∧ (1 : Int) = 1 from ⟨rfl, rfl⟩)]
  · have pa := pt_bd (t := t) (j := at_) ⟨ha1, ha2⟩
    have ea : geti (c.set (pt t to) (x + one)) ((pt t at_ : Nat) : Int) = if t = 0 then mn t b at_ else - mn t b at_ := by
      rw [geti_set' (by omega) (by omega), if_neg (fun z => hne ((pt_ne (by omega) (by omega)).1 z)), h1 at_ ha1 ha2, if_neg hne]
    have mb := mn_bd h (j := at_) (by omega)
    have hlist : (c.set (pt t to) (x + one)).set (pt t at_) ((if t = 0 then mn t b at_ else - mn t b at_) - one) = mr 26 (brd t (fun j => if j = at_ then mn t b at_ - 1 else if j = to then (if t = 0 then x + 1 else 1 - x) else mn t b j)) := by
      refine by_points ht (by rw [List.length_set, hlen]) ?_ ?_ ?_
      · rw [geti_set' (by omega) (by rw [hlen]; omega), if_neg (by omega), geti_set' (by omega) (by omega), if_neg (by omega), h0]
      · rw [geti_set' (by omega) (by rw [hlen]; omega), if_neg (by omega), geti_set' (by omega) (by omega), if_neg (by omega), h25]
      · intro j j1 j2
        rw [geti_set' (by omega) (by rw [hlen]; omega), geti_set' (by omega) (by omega)]
        by_cases e : j = at_
        · rw [if_pos ((pt_ne (by omega) (by omega)).2 e), if_pos e, ho]
          rcases ht with rfl | rfl
          · simp
          · simp; omega
        · rw [if_neg (fun z => e ((pt_ne (by omega) (by omega)).1 z)), if_neg e]
          by_cases e2 : j = to
          · rw [if_pos ((pt_ne (by omega) (by omega)).2 e2), if_pos e2, ho]
            rcases ht with rfl | rfl
            · simp
            · simp; omega
          · rw [if_neg (fun z => e2 ((pt_ne (by omega) (by omega)).1 z)), if_neg e2, h1 j j1 j2, if_neg e2]
    rw [if_pos (by simp; omega), asrt_pos (by omega), asrt_pos (by omega), ea, Int.toNat_natCast, w64_of (by split <;> omega), hlist, if_neg (show ¬ (pt t at_ = 0 ∧ t = 0) by omega), if_neg (show ¬ (pt t at_ = 0 ∧ t = 1) by omega)]

theorem J4_p {f at_ pips : Nat} {one : Int} (ho : one = if t = 0 then 1 else -1) (hp : 1 ≤ pips ∧ pips ≤ 6) (hlt : pips < at_)
    (hf : f = 0 ∧ at_ = 25 ∨ 1 ≤ at_ ∧ at_ ≤ 24 ∧ f = pt t at_) (hbar : f = 0 ↔ 0 < (if t = 0 then W else K)) (hown : at_ ≠ 25 → 0 < mn t b at_) :
    gameroomref_StepOf_J4 b W K t f pips (b, W, K, t) one at_ = some (ans b W K t (stp (sd t (if t = 0 then W else K) b) (if t = 0 then K else W) at_ pips)) := by
  have ht := h.2.2.2.2.2.1
  have hl := h.1
  have hto : 1 ≤ at_ - pips ∧ at_ - pips ≤ 24 := by omega
  have h0 := h.2.1
  have h25 := h.2.2.1
  have hW := h.2.2.2.1
  have hK := h.2.2.2.2.1
  have pb := pt_bd (t := t) hto
  have eto : w64 ((at_ : Int) - pips) = ((at_ - pips : Nat) : Int) := by rw [w64_of (by omega)]; omega
  have e4 : gameroomref_StepOf_J4 b W K t f pips (b, W, K, t) one at_ = gameroomref_StepOf_J9 b W K t f (b, W, K, t) one ((pt t (at_ - pips) : Nat) : Int) := by
    unfold gameroomref_StepOf_J4
    rw [eto]
    rcases ht with rfl | rfl
    · rw [if_neg (by decide)]; rfl
    · rw [if_pos (by decide), w64_of (by omega)]
      congr 1
      unfold pt
      rw [if_neg (by decide)]; omega
  have s25 : sd t (if t = 0 then W else K) b 25 = if t = 0 then W else K := by unfold sd; rw [if_pos rfl]
  have sj : ∀ j, j ≤ 24 → sd t (if t = 0 then W else K) b j = mn t b j := fun j hj => by unfold sd; rw [if_neg (by omega)]
  have nb : ¬ (sd t (if t = 0 then W else K) b at_ < 1 ∨ (0 < sd t (if t = 0 then W else K) b 25 ∧ at_ ≠ 25)) := by
    rw [s25]
    rcases hf with ⟨rfl, rfl⟩ | ⟨ha1, ha2, rfl⟩
    · rw [s25]; have := hbar.1 rfl; omega
    · rw [sj _ ha2]
      have := hown (by omega)
      have pa := pt_bd (t := t) (j := at_) ⟨ha1, ha2⟩
      intro z
      rcases z with z | z
      · omega
      · have := hbar.2 z.1; omega
  have mb := mn_bd h (j := at_ - pips) (by omega)
  have gb : ∀ j : Nat, 1 ≤ j → j ≤ 24 → geti b ((pt t j : Nat) : Int) = if t = 0 then mn t b j else - mn t b j := fun j _ h2 => mn_pt (by omega)
  rw [e4]
  unfold stp gameroomref_StepOf_J9 gameroomref_StepOf_J10
  rw [if_neg nb, if_neg (show ¬ at_ ≤ pips by omega), sj _ hto.2, menAt_p h hto, Option.bind_some]
  by_cases c1 : mn t b (at_ - pips) < -1
  · rw [if_pos c1, if_pos (decide_eq_true c1)]; rfl
  · rw [if_neg c1, if_neg (by simpa using c1), Option.bind_some]
    -- what is at a place, behind all
    have fin : ∀ (y o' : Int) (o2 o3 : Int), (if t = 0 then o2 else o3) = (if t = 0 then W else K) → (if t = 0 then o3 else o2) = o' →
        some (mr 26 (brd t (fun j => if j = at_ then mn t b at_ - 1 else if j = at_ - pips then y else mn t b j)), (if f = 0 ∧ t = 0 then o2 - 1 else o2), (if f = 0 ∧ t = 1 then o3 - 1 else o3), t, true)
          = some (ans b W K t (some (fun j => if j = at_ then sd t (if t = 0 then W else K) b at_ - 1 else if j = at_ - pips then y else sd t (if t = 0 then W else K) b j, o'))) := by
      intro y o' o2 o3 k1 k2
      have hbr : mr 26 (brd t (fun j => if j = at_ then mn t b at_ - 1 else if j = at_ - pips then y else mn t b j)) = mr 26 (brd t (fun j => if j = at_ then sd t (if t = 0 then W else K) b at_ - 1 else if j = at_ - pips then y else sd t (if t = 0 then W else K) b j)) := by
        refine mr_congr fun i hi => ?_
        unfold brd
        by_cases e : i = 0 ∨ i = 25
        · rw [if_pos e, if_pos e]
        · rw [if_neg e, if_neg e]
          have key : ∀ j : Nat, 1 ≤ j → j ≤ 24 → (if j = at_ then mn t b at_ - 1 else if j = at_ - pips then y else mn t b j) = (if j = at_ then sd t (if t = 0 then W else K) b at_ - 1 else if j = at_ - pips then y else sd t (if t = 0 then W else K) b j) := fun j j1 j2 => by
            rw [sj j j2]
            by_cases e2 : j = at_
            · subst e2; rw [if_pos rfl, if_pos rfl, sj _ j2]
            · rw [if_neg e2, if_neg e2]
          dsimp only
          rw [key i (by omega) (by omega), key (25 - i) (by omega) (by omega)]
      unfold ans
      dsimp only
      rw [hbr, if_neg (show ¬ 25 = at_ - pips by omega)]
      rcases hf with ⟨rfl, rfl⟩ | ⟨ha1, ha2, rfl⟩
      · rw [if_pos rfl, s25]
        rcases ht with rfl | rfl
        · simp only [if_true] at k1 k2; rw [k1, k2]; simp
        · simp only [show ¬ (1 : Int) = 0 by decide, if_false] at k1 k2; rw [k1, k2]; simp
      · have pa := pt_bd (t := t) (j := at_) ⟨ha1, ha2⟩
        rw [if_neg (show ¬ 25 = at_ by omega), s25, if_neg (show ¬ (pt t at_ = 0 ∧ t = 0) by omega), if_neg (show ¬ (pt t at_ = 0 ∧ t = 1) by omega)]
        rcases ht with rfl | rfl
        · simp only [if_true] at k1 k2; rw [k1, k2]; simp
        · simp only [show ¬ (1 : Int) = 0 by decide, if_false] at k1 k2; rw [k1, k2]; simp
    have hne : at_ ≠ at_ - pips := by omega
    dsimp only
    by_cases c2 : mn t b (at_ - pips) = -1
    · rw [if_pos c2, if_pos (by rw [c2]; decide), asrt_pos (by show _ ∧ _ < (b.length : Int); omega), Int.toNat_natCast]
      have g0 : ∀ j : Nat, 1 ≤ j → j ≤ 24 → geti (b.set (pt t (at_ - pips)) 0) ((pt t j : Nat) : Int) = if j = at_ - pips then 0 else if t = 0 then mn t b j else - mn t b j := fun j j1 j2 => by
        rw [geti_set' (by omega) (by omega)]
        by_cases e : j = at_ - pips
        · rw [if_pos ((pt_ne (by omega) (by omega)).2 e), if_pos e]
        · rw [if_neg (fun z => e ((pt_ne (by omega) (by omega)).1 z)), if_neg e, gb j j1 j2]
      have z0 : geti (b.set (pt t (at_ - pips)) 0) 0 = 0 := by rw [geti_set' (by omega) (by omega), if_neg (by omega), h0]
      have z25 : geti (b.set (pt t (at_ - pips)) 0) 25 = 0 := by rw [geti_set' (by omega) (by omega), if_neg (by omega), h25]
      rcases ht with rfl | rfl
      · rw [if_pos (by decide), w64_of (by omega), J11_p h ho (by rw [List.length_set, hl]) z0 z25 hto hf hne g0 (by omega) (by omega) (by omega)]
        exact fin 1 (K + 1) W (K + 1) rfl rfl
      · rw [if_neg (by decide), w64_of (by omega), J11_p h ho (by rw [List.length_set, hl]) z0 z25 hto hf hne g0 (by omega) (by omega) (by omega)]
        exact fin 1 (W + 1) (W + 1) K rfl rfl
    · rw [if_neg c2, if_neg (by simpa using c2), J11_p h (x := if t = 0 then mn t b (at_ - pips) else - mn t b (at_ - pips)) ho hl h0 h25 hto hf hne (fun j j1 j2 => by
        by_cases e : j = at_ - pips
        · rw [if_pos e, e, gb _ hto.1 hto.2]
        · rw [if_neg e, gb j j1 j2]) (by split <;> omega) (by omega) (by omega)]
      have ey : (if t = 0 then (if t = 0 then mn t b (at_ - pips) else - mn t b (at_ - pips)) + 1 else 1 - (if t = 0 then mn t b (at_ - pips) else - mn t b (at_ - pips))) = mn t b (at_ - pips) + 1 := by
        split <;> omega
      rw [ey]
      exact fin (mn t b (at_ - pips) + 1) _ W K rfl rfl

theorem J1_p {f pips : Nat} (hf : f ≤ 24) (hp : 1 ≤ pips ∧ pips ≤ 6) {bar one : Int} (hbar : bar = if t = 0 then W else K) (ho : one = if t = 0 then 1 else -1) :
    gameroomref_StepOf_J1 b W K t f pips (b, W, K, t) bar one = some (ans b W K t (stp (sd t (if t = 0 then W else K) b) (if t = 0 then K else W) (if f = 0 then 25 else pt t f) pips)) := by
  have ht := h.2.2.2.2.2.1
  have hl := h.1
  have h0 := h.2.1
  have h25 := h.2.2.1
  have hW := h.2.2.2.1
  have hK := h.2.2.2.2.1
  have hb0 : 0 ≤ bar := by rw [hbar]; split <;> omega
  have s25 : sd t (if t = 0 then W else K) b 25 = bar := by unfold sd; rw [if_pos rfl, hbar]
  have sj : ∀ j, j ≤ 24 → sd t (if t = 0 then W else K) b j = mn t b j := fun j hj => by unfold sd; rw [if_neg (by omega)]
  unfold gameroomref_StepOf_J1
  by_cases f0 : f = 0
  · subst f0
    rw [if_pos rfl, if_neg (by simp), Option.bind_some]
    by_cases c : bar = 0
    · rw [if_pos (by simp [c])]
      unfold stp
      rw [if_pos (by rw [s25]; omega)]
      rfl
    · rw [if_neg (by simp [c])]
      unfold gameroomref_StepOf_J2 gameroomref_StepOf_J3
      rw [if_neg (by simp), if_neg (by simp; omega)]
      exact J4_p h ho hp (at_ := 25) (by omega) (Or.inl ⟨rfl, rfl⟩) ⟨fun _ => by rw [← hbar]; omega, fun _ => rfl⟩ (fun z => absurd rfl z)
  · have pf := pt_bd (t := t) (j := f) (by omega)
    rw [if_neg f0]
    by_cases c : bar = 0
    · have em := menAt_p h (j := pt t f) pf
      have eh := home_p h (j := pt t f) pf
      rw [pt_pt (by omega)] at em eh
      rw [if_pos (by simp [c]; omega), em, Option.bind_some]
      by_cases c2 : mn t b (pt t f) < 1
      · rw [if_pos (by simp [c]; omega)]
        unfold stp
        rw [if_pos (by rw [sj _ pf.2]; omega)]
        rfl
      · rw [if_neg (by simp [c]; omega)]
        unfold gameroomref_StepOf_J2
        rw [if_pos (by simp; omega), eh, Option.bind_some]
        unfold gameroomref_StepOf_J3
        by_cases c3 : pt t f ≤ pips
        · rw [if_pos (by simp; omega)]
          obtain ⟨x, hx, hx2⟩ := scan_p h pf hp c3
          rw [hx, Option.bind_some]
          unfold stp
          rw [if_neg (by rw [s25, sj _ pf.2]; omega), if_pos c3]
          have ei : (∃ i, 1 ≤ i ∧ i ≤ 24 ∧ 0 < mn t b i ∧ (6 < i ∨ (pt t f < pips ∧ pt t f < i))) ↔ ((∃ i, i ≤ 25 ∧ 6 < i ∧ 0 < sd t (if t = 0 then W else K) b i) ∨ (pt t f < pips ∧ ∃ i, i ≤ 25 ∧ pt t f < i ∧ 0 < sd t (if t = 0 then W else K) b i)) := by
            constructor
            · rintro ⟨i, i1, i2, i3, i4⟩
              rcases i4 with i4 | i4
              · exact Or.inl ⟨i, by omega, i4, by rw [sj i i2]; exact i3⟩
              · exact Or.inr ⟨i4.1, i, by omega, i4.2, by rw [sj i i2]; exact i3⟩
            · have aux : ∀ i, i ≤ 25 → 0 < sd t (if t = 0 then W else K) b i → i ≤ 24 ∧ 0 < mn t b i := fun i i1 i2 => by
                by_cases e : i = 25
                · subst e; rw [s25] at i2; omega
                · rw [sj i (by omega)] at i2; exact ⟨by omega, i2⟩
              rintro (⟨i, i1, i2, i3⟩ | ⟨i0, i, i1, i2, i3⟩)
              · have := aux i i1 i3; exact ⟨i, by omega, this.1, this.2, Or.inl i2⟩
              · have := aux i i1 i3; exact ⟨i, by omega, this.1, this.2, Or.inr ⟨i0, i2⟩⟩
          rcases hx2 with ⟨q, rfl⟩ | ⟨q, rfl⟩
          · rw [if_pos (ei.1 q)]; rfl
          · rw [if_neg (fun z => q (ei.2 z))]
            clear q ei hx
            simp only [gameroomref_StepOf_K1]
            unfold gameroomref_StepOf_J5 gameroomref_StepOf_J8
            have gf : geti b (f : Int) = if t = 0 then mn t b (pt t f) else - mn t b (pt t f) := by
              have := mn_pt (t := t) (b := b) (j := pt t f) (by omega)
              rwa [pt_pt (by omega)] at this
            have mb := mn_bd h (j := pt t f) (by omega)
            have b1 : one = 1 ∨ one = -1 := by rw [ho]; split <;> simp
            dsimp only
            rw [if_neg (by simp; omega), asrt_pos (by omega), asrt_pos (by omega), gf, w64_of (by split <;> omega), Int.toNat_natCast]
            have hlist : b.set f ((if t = 0 then mn t b (pt t f) else - mn t b (pt t f)) - one) = mr 26 (brd t (fun j => if j = pt t f then sd t (if t = 0 then W else K) b (pt t f) - 1 else sd t (if t = 0 then W else K) b j)) := by
              refine by_points ht (by rw [List.length_set, hl]) ?_ ?_ ?_
              · rw [geti_set' (by omega) (by omega), if_neg (by omega), h0]
              · rw [geti_set' (by omega) (by omega), if_neg (by omega), h25]
              · intro j j1 j2
                rw [geti_set' (by omega) (by omega)]
                have ej : (((pt t j : Nat) : Int) = (f : Int)) ↔ j = pt t f := by
                  have := pt_ne (t := t) (i := j) (j := pt t f) (by omega) (by omega)
                  rwa [pt_pt (by omega)] at this
                by_cases e : j = pt t f
                · rw [if_pos (ej.2 e), if_pos e, sj _ pf.2, ho]
                  rcases ht with rfl | rfl
                  · simp
                  · simp; omega
                · rw [if_neg (fun z => e (ej.1 z)), if_neg e, sj j j2, mn_pt (by omega)]
            rw [hlist]
            unfold ans
            dsimp only
            rw [if_neg (show ¬ 25 = pt t f by omega), s25, hbar]
            rcases ht with rfl | rfl
            · simp
            · simp
        · rw [if_neg (by simp; omega)]
          have pff : pt t (pt t f) = f := pt_pt (by omega)
          exact J4_p h ho hp (at_ := pt t f) (by omega) (Or.inr ⟨pf.1, pf.2, pff.symm⟩) ⟨fun z => absurd z f0, fun z => by rw [← hbar] at z; omega⟩ (fun _ => by omega)
    · rw [if_neg (by simp [c]; omega), Option.bind_some, if_pos (by simp; omega)]
      unfold stp
      rw [if_pos (by rw [s25]; omega)]
      rfl

theorem stepOf_p {f pips : Nat} (hf : f ≤ 24) (hp : 1 ≤ pips ∧ pips ≤ 6) : gameroomref_StepOf_m b W K t f pips = some (ans b W K t (stp (sd t (if t = 0 then W else K) b) (if t = 0 then K else W) (if f = 0 then 25 else pt t f) pips)) := by
  have ht := h.2.2.2.2.2.1
  unfold gameroomref_StepOf_m
  rw [of_p W K t (by have := h.1; omega), Option.bind_some]
  rcases ht with rfl | rfl
  · rw [if_neg (by decide)]
    exact J1_p h hf hp rfl rfl
  · rw [if_pos (by decide)]
    exact J1_p h hf hp rfl rfl

omit h in
theorem stp_bd {σ : Nat → Int} {o : Int} {at_ pips : Nat} {σ' : Nat → Int} {o' : Int} (hσ : ∀ i, i ≤ 25 → -15 ≤ σ i ∧ σ i ≤ 15) (ha : at_ ≤ 25) (hs : stp σ o at_ pips = some (σ', o')) : ∀ i, i ≤ 25 → -17 ≤ σ' i ∧ σ' i ≤ 17 := by
  intro i hi
  have bi := hσ i hi
  have ba := hσ _ ha
  have bt := hσ (at_ - pips) (by omega)
  unfold stp at hs
  split at hs
  · cases hs
  · split at hs
    · split at hs
      · cases hs
      · cases hs
        dsimp only
        split <;> omega
    · split at hs
      · cases hs
      · split at hs
        · cases hs
          dsimp only
          split
          · omega
          · split <;> omega
        · cases hs
          dsimp only
          split
          · omega
          · split <;> omega

theorem Step_p {f pips : Nat} (hf : f ≤ 24) (hp : 1 ≤ pips ∧ pips ≤ 6) : gammon_Step_m b W K t f pips = some (match stp (sd t (if t = 0 then W else K) b) (if t = 0 then K else W) (if f = 0 then 25 else pt t f) pips with
    | none => ([], 0, 0, 0, 8) | some (σ, o) => (mr 26 (brd t σ), if t = 0 then σ 25 else o, if t = 0 then o else σ 25, t, 0)) := by
  classical
  have ht := h.2.2.2.2.2.1
  have hW := h.2.2.2.1
  have hK := h.2.2.2.2.1
  have hat : 1 ≤ (if f = 0 then 25 else pt t f) ∧ (if f = 0 then 25 else pt t f) ≤ 25 := by
    split
    · omega
    · have := pt_bd (t := t) (j := f) (by omega); omega
  have e1 : gammon_Step_J1 b W K t f pips = gammon_Step_J2 b W K t pips ((if f = 0 then 25 else pt t f : Nat) : Int) := by
    unfold gammon_Step_J1
    by_cases f0 : f = 0
    · subst f0; rw [if_pos (by decide), if_pos rfl]; rfl
    · rw [if_neg (by simp; omega), if_neg f0]
      rcases ht with rfl | rfl
      · rw [if_neg (by decide)]; rfl
      · rw [if_pos (by decide), w64_of (by omega)]
        congr 1
        unfold pt
        rw [if_neg (by decide)]; omega
  have sb : ∀ i, i ≤ 25 → -15 ≤ sd t (if t = 0 then W else K) b i ∧ sd t (if t = 0 then W else K) b i ≤ 15 := fun i hi => by
    unfold sd
    by_cases e : i = 25
    · rw [if_pos e]; split <;> omega
    · rw [if_neg e]; exact mn_bd h (by omega)
  unfold gammon_Step_m
  rw [may_m, Option.bind_some, decide_eq_true h, if_neg (by simp), if_neg (by simp; omega), e1]
  unfold gammon_Step_J2
  rw [side_p h, Option.bind_some]
  dsimp only
  obtain ⟨q, hq, hq1, hq2⟩ := step_p (o := if t = 0 then K else W) sb (by split <;> omega) hat hp
  rw [hq, Option.bind_some]
  cases hs : stp (sd t (if t = 0 then W else K) b) (if t = 0 then K else W) (if f = 0 then 25 else pt t f) pips with
  | none => rw [hq1 hs]; rfl
  | some p =>
    obtain ⟨σ, o⟩ := p
    obtain rfl := hq2 σ o hs
    dsimp only
    rw [if_neg (by simp)]
    unfold gammon_Step_J3
    dsimp only
    have sb2 := stp_bd sb hat.2 hs
    rw [board_p ht sb2, Option.bind_some]
end

theorem same_p (c : List Int) (x y z : Int) (hl : c.length ≤ 17592186043904) : gameroomref_SameGammon_m c x y z c x y z = some true := by
  unfold gameroomref_SameGammon_m gameroomref_SameGammon_J1
  rw [if_neg (by simp)]
  have h := loop_from (step := gameroomref_SameGammon_L1 c c) (s0 := 0) (r := Fl.go ()) (fun k => ((k : Nat) : Int)) c.length rfl (by
    intro k hk
    simp only [gameroomref_SameGammon_L1, gameroomref_SameGammon_J3, gameroomref_SameGammon_J4]
    rw [if_pos (decide_eq_true (by omega)), asrt_pos (by omega), asrt_pos (by omega), if_neg (by simp), w64_of (by omega)]; rfl) (by
    simp only [gameroomref_SameGammon_L1]; rw [if_neg (by simp)])
  rw [h]; rfl

theorem true_GammonSteps (b : List Int) (W K t f p : Int) (hl : b.length ≤ 17592186043904) (_hy : ∀ y ∈ b, inI y) (_h1 : inI W) (_h2 : inI K) (_h3 : inI t) (_h4 : inI f) (_h5 : inI p) : gameroomlaw_GammonSteps_m b W K t f p = some true := by
  classical
  unfold gameroomlaw_GammonSteps_m
  rw [of_p W K t hl, Option.bind_some]
  dsimp only
  rw [may_m, may_rm, Option.bind_some, Option.bind_some]
  dsimp only
  by_cases h : MayB b W K t
  · rw [decide_eq_true h]
    by_cases hr : (0 ≤ f ∧ f ≤ 24) ∧ (1 ≤ p ∧ p ≤ 6)
    · obtain ⟨f, rfl⟩ : ∃ n : Nat, f = (n : Int) := ⟨f.toNat, by omega⟩
      obtain ⟨p, rfl⟩ : ∃ n : Nat, p = (n : Int) := ⟨p.toNat, by omega⟩
      rw [Step_p h (by omega) (by omega), Option.bind_some, Option.bind_some, if_neg (by simp)]
      unfold gameroomlaw_GammonSteps_J1 gameroomlaw_GammonSteps_J2 gameroomlaw_GammonSteps_J3 gameroomlaw_GammonSteps_J4
      rw [if_neg (by simp), if_neg (by simp; omega), stepOf_p h (by omega) (by omega), Option.bind_some]
      cases hs : stp (sd t (if t = 0 then W else K) b) (if t = 0 then K else W) (if f = 0 then 25 else pt t f) p with
      | none => rfl
      | some q =>
        obtain ⟨σ, o⟩ := q
        dsimp only [ans]
        rw [if_neg (by simp), if_pos (by simp), same_p _ _ _ _ (by rw [mr_length]; omega)]
        rfl
    · have e : gammon_Step_m b W K t f p = some ([], 0, 0, 0, 3) := by
        unfold gammon_Step_m
        rw [may_m, Option.bind_some, decide_eq_true h, if_neg (by simp), if_pos (by simp; omega)]
      rw [e, Option.bind_some, Option.bind_some, if_neg (by simp)]
      unfold gameroomlaw_GammonSteps_J1 gameroomlaw_GammonSteps_J2
      rw [if_neg (by simp), if_pos (by simp; omega)]
      rfl
  · have e : gammon_Step_m b W K t f p = some ([], 0, 0, 0, 12) := by
      unfold gammon_Step_m
      rw [may_m, Option.bind_some, decide_eq_false h]; rfl
    rw [decide_eq_false h, e, Option.bind_some, Option.bind_some]
    rfl
end Go.Proofs.Ytbmhcapeikebgaa
