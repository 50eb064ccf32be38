/-
  BridgeBests: the program's search, and what it remembers.
-/
import Derived.Test.YtlpaklmfgldkoaaBBc
import Derived.Test.YtlpaklmfgldkoaaLibBt
namespace Go.Proofs.Ytlpaklmfgldkoaa
open Go Go.GL

/-! ### The state's mask -/
def orM : List Nat → Nat
  | [] => 0
  | v :: l => 2 ^ v ||| orM l
theorem orM_bit (j : Nat) : ∀ l, (orM l).testBit j = decide (j ∈ l)
  | [] => by simp [orM]
  | v :: l => by
    rw [orM, Nat.testBit_or, Nat.testBit_two_pow, orM_bit j l, ← Bool.decide_or, decide_eq_decide, List.mem_cons]
    constructor
    · rintro (h | h)
      · exact .inl h.symm
      · exact .inr h
    · rintro (h | h)
      · exact .inl h.symm
      · exact .inr h
theorem orM_lt : ∀ {l : List Nat}, (∀ v ∈ l, v < 52) → orM l < 2 ^ 52
  | [], _ => by simp [orM]
  | v :: l, h => by
    have h1 := h v (by simp)
    have h2 := orM_lt (l := l) (fun x hx => h x (by simp [hx]))
    exact Nat.or_lt_two_pow (n := 52) (Nat.pow_lt_pow_right (by omega) h1) h2
theorem orM_snoc (v : Nat) : ∀ l, orM (l ++ [v]) = orM l ||| 2 ^ v
  | [] => by simp [orM]
  | x :: l => by
    rw [List.cons_append, orM, orM, orM_snoc v l, Nat.or_assoc]

def mask (d : List Int) : Nat := orM ((List.range 52).filter fun c : Nat => decide (geti d (c : Int) < 4))
theorem mask_bit (d : List Int) (c : Nat) : (mask d).testBit c = decide (c < 52 ∧ geti d (c : Int) < 4) := by
  unfold mask
  rw [orM_bit, decide_eq_decide, List.mem_filter, List.mem_range, decide_eq_true_eq]

theorem state_p (s : Int) (kn : List ((Int × Int) × Int)) (d : List Int) (ld : Int) : bridge_table_state_m s kn d ld = some (((mask d : Nat) : Int), ld) := by
  unfold bridge_table_state_m
  have h : loop (bridge_table_state_L1 d) (0, 0) = some ((mask d : Nat) : Int) := by
    refine loop_from (f := fun z => (((orM ((List.range z).filter fun c : Nat => decide (geti d (c : Int) < 4)) : Nat) : Int), (z : Int))) 52 (by rfl) (fun z hz => ?_) ?_
    · have hb : orM ((List.range z).filter fun c : Nat => decide (geti d (c : Int) < 4)) < 2 ^ 52 := orM_lt (fun v hv => by
        have := List.mem_range.1 (List.mem_filter.1 hv).1
        omega)
      simp only [bridge_table_state_L1]
      rw [if_pos (decide_eq_true (by omega))]
      unfold bridge_table_state_J2 bridge_table_state_J3
      rw [asrt_pos (by omega), List.range_succ, List.filter_append, w64_of (by omega)]
      by_cases h : geti d (z : Int) < 4
      · rw [if_pos (decide_eq_true h), asrt_pos (by omega), show List.filter (fun c : Nat => decide (geti d (c : Int) < 4)) [z] = [z] by simp [h], orM_snoc, shlN (by omega), orN (by omega) (pow_lt (by omega))]
        rfl
      · rw [if_neg (by simpa using h), show List.filter (fun c : Nat => decide (geti d (c : Int) < 4)) [z] = [] by simp [h], List.append_nil]
        rfl
    · simp only [bridge_table_state_L1]
      rw [if_neg (by decide)]
      rfl
  rw [h]; rfl

/-- What is left of a deal. -/
structure Cons (D d : List Int) : Prop where
  len : d.length = 52
  cell : ∀ c : Nat, c < 52 → geti d (c : Int) = 4 ∨ (geti d (c : Int) = geti D (c : Int) ∧ 0 ≤ geti D (c : Int) ∧ geti D (c : Int) < 4)

theorem Cons.inj {D d d' : List Int} (h : Cons D d) (h' : Cons D d') (hm : mask d = mask d') : d = d' := by
  refine List.ext_getElem? (fun i => ?_)
  by_cases hi : i < 52
  · rw [get_geti (by rw [h.len]; exact hi), get_geti (by rw [h'.len]; exact hi)]
    have hb := congrArg (fun x => x.testBit i) hm
    simp only [mask_bit] at hb
    rw [decide_eq_decide] at hb
    have h1 := h.cell i hi
    have h2 := h'.cell i hi
    congr 1
    rcases h1 with h1 | h1 <;> rcases h2 with h2 | h2
    · omega
    · exfalso
      have := hb.2 ⟨hi, by omega⟩
      omega
    · exfalso
      have := hb.1 ⟨hi, by omega⟩
      omega
    · omega
  · rw [List.getElem?_eq_none (by rw [h.len]; omega), List.getElem?_eq_none (by rw [h'.len]; omega)]

theorem Cons.set {D d : List Int} (h : Cons D d) {c : Int} (hc : 0 ≤ c ∧ c < 52) : Cons D (d.set c.toNat 4) := by
  refine ⟨by rw [List.length_set, h.len], fun x hx => ?_⟩
  rw [geti_set4 h.len hc (by omega)]
  split
  · exact .inl rfl
  · exact h.cell x hx

noncomputable def bv (s : Int) (h0 : Nat) (d : List Int) (ld : Nat) : Int := if h0 = 0 then 0 else V s (8 * h0 + 1) d ld []

/-- What is remembered is true. -/
def KOk (s : Int) (D : List Int) (kn : List ((Int × Int) × Int)) : Prop := ∀ (d : List Int) (ld h : Nat), Cons D d → Bal d ld [] h → mhas (((mask d : Nat) : Int), (ld : Int)) kn = true → mget (0 : Int) (((mask d : Nat) : Int), (ld : Int)) kn = V s (8 * h + 1) d ld []

theorem KOk.put {s : Int} {D d : List Int} {kn : List ((Int × Int) × Int)} {ld h : Nat} (H : KOk s D kn) (hc : Cons D d) (hb : Bal d ld [] h) : KOk s D (mput (((mask d : Nat) : Int), (ld : Int)) (V s (8 * h + 1) d ld []) kn) := by
  intro d' ld' h' hc' hb' hm
  rw [mget_mput]
  by_cases e : ((((mask d' : Nat) : Int), (ld' : Int)) : Int × Int) = (((mask d : Nat) : Int), (ld : Int))
  · rw [if_pos e]
    injection e with e1 e2
    have ed := hc'.inj hc (by omega)
    have el : ld' = ld := by omega
    subst ed; subst el
    have := hb.all 0 (by omega)
    have := hb'.all 0 (by omega)
    have eh : h = h' := by omega
    rw [eh]
  · rw [if_neg e]
    rw [mhas_mput, decide_eq_false e, Bool.false_or] at hm
    exact H d' ld' h' hc' hb' hm

theorem bAnd1 {a : Nat} (h : a < 4) : bAnd (a : Int) 1 = ((a % 2 : Nat) : Int) := by
  have : ∀ a : Fin 4, bAnd ((a.val : Nat) : Int) 1 = ((a.val % 2 : Nat) : Int) := by decide
  exact this ⟨a, h⟩

theorem hand_p {d : List Int} (_hl : d.length = 52) {ld : Nat} {l : List Int} (hld : ld < 4) (hl4 : l.length ≤ 4) : loop (bridge_table_play_L1 d ld l) (([] : List Int), 0) = some (handOf d ((ld + l.length) % 4)) := by
  refine loop_from (f := fun z => (((List.range z).filter fun c : Nat => decide (geti d (c : Int) = (((ld + l.length) % 4 : Nat) : Int))).map (fun (c : Nat) => (c : Int)), (z : Int))) 52 (by rfl) (fun z hz => ?_) ?_
  · have hle : ((List.range z).filter fun c : Nat => decide (geti d (c : Int) = (((ld + l.length) % 4 : Nat) : Int))).length ≤ z := Nat.le_trans (List.length_filter_le _ _) (by rw [List.length_range]; exact Nat.le_refl _)
    simp only [bridge_table_play_L1]
    rw [if_pos (decide_eq_true (by omega))]
    unfold bridge_table_play_J3 bridge_table_play_J4
    rw [asrt_pos (by omega), w64_add (by omega), tmod4, List.range_succ, List.filter_append, List.map_append, w64_of (by omega)]
    by_cases h : geti d (z : Int) = (((ld + l.length) % 4 : Nat) : Int)
    · rw [if_pos (by rw [beq_iff_eq]; exact h), asrt_pos (by rw [List.length_map]; unfold bigN; omega), show List.filter (fun c : Nat => decide (geti d (c : Int) = (((ld + l.length) % 4 : Nat) : Int))) [z] = [z] by simp [h]]
      rfl
    · rw [if_neg (by rw [beq_iff_eq]; exact h), show List.filter (fun c : Nat => decide (geti d (c : Int) = (((ld + l.length) % 4 : Nat) : Int))) [z] = [] from List.filter_eq_nil_iff.2 (fun a ha => by rw [List.mem_singleton] at ha; subst ha; rw [decide_eq_true_eq]; exact h), List.map_nil, List.append_nil]
      rfl
  · simp only [bridge_table_play_L1]
    rw [if_neg (by decide)]
    rfl

theorem play_p (s : Int) (D : List Int) (rc : Int → List ((Int × Int) × Int) → List Int → Int → Option (Int × List ((Int × Int) × Int) × List Int)) (N : Nat)
    (hrec : ∀ (d : List Int) (ld : Nat) (kn : List ((Int × Int) × Int)) (h0 : Nat), Cons D d → ld < 4 → (∀ p, p < 4 → (handOf d p).length = h0) → h0 ≤ 4 → h0 < N → KOk s D kn → ∃ kn', rc s kn d ld = some (bv s h0 d ld, kn', d) ∧ KOk s D kn') :
    ∀ (m : Nat) (d : List Int) (ld : Nat) (l : List Int) (kn : List ((Int × Int) × Int)) (h : Nat), l.length + m = 4 → Cons D d → Bal d ld l h → CardsOk l → h ≤ 4 → h ≤ N → KOk s D kn → ∃ kn', bridge_table_play_mF rc (m + 1) s kn d ld l = some (V s (8 * h - l.length + 1) d ld l, kn', d) ∧ KOk s D kn'
  | 0, d, ld, l, kn, h, hlm, hC, H, hcd, h4, hN, hK => by
    have hl : l.length = 4 := by omega
    have hld := H.ld4
    have hh1 := H.h1
    obtain ⟨v4, hw, _⟩ := win_v s hl hcd
    have hww : (ld + wv l s) % 4 < 4 := Nat.mod_lt _ (by omega)
    obtain ⟨kn', e, hK'⟩ := hrec d ((ld + wv l s) % 4) kn (h - 1) hC hww (fun p hp => by have := H.end_ hl p hp; omega) (by omega) (by omega) hK
    refine ⟨kn', ?_, hK'⟩
    show bridge_table_play_B rc (bridge_table_play_mF rc 0) s kn d ld l = _
    unfold bridge_table_play_B
    rw [if_pos (by rw [beq_iff_eq]; omega), hw, Option.bind_some, w64_add (by omega), tmod4, e, Option.bind_some, bAnd1 hww]
    have hbv : bv s (h - 1) d ((ld + wv l s) % 4) = if handOf d ((ld + wv l s) % 4) = [] then 0 else V s (8 * h - l.length) d ((ld + wv l s) % 4) [] := by
      have hen := H.end_ hl _ hww
      unfold bv
      by_cases he : handOf d ((ld + wv l s) % 4) = []
      · rw [if_pos he, if_pos (by rw [he] at hen; simp at hen; omega)]
      · have hp := List.length_pos_iff.2 he
        rw [if_neg he, if_neg (by omega)]
        exact V_st s _ _ _ _ _ (h - 1) (H.trick hl hww (by omega)) (by simp only [List.length_nil]; omega) (by simp only [List.length_nil]; omega)
    have hbd : 0 ≤ bv s (h - 1) d ((ld + wv l s) % 4) ∧ bv s (h - 1) d ((ld + wv l s) % 4) ≤ 4 := by
      unfold bv
      split
      · omega
      · have hT := H.trick hl hww (by omega)
        have := V_bd s (8 * (h - 1) + 1) d _ [] (h - 1) hT (by simp only [List.length_nil]; omega)
        omega
    simp only [V]
    rw [if_pos hl, ← hbv, w64_of (x := 1 - (((ld + wv l s) % 4 % 2 : Nat) : Int)) (by omega), w64_of (by omega)]
  | m + 1, d, ld, l, kn, h, hlm, hC, H, hcd, h4, hN, hK => by
    have hl4 := H.l4
    have hld := H.ld4
    have hh1 := H.h1
    have hdl := hC.len
    show ∃ kn', bridge_table_play_B rc (bridge_table_play_mF rc (m + 1)) s kn d ld l = _ ∧ _
    unfold bridge_table_play_B
    rw [if_neg (by rw [beq_iff_eq]; omega)]
    unfold bridge_table_play_J1
    rw [hand_p hdl hld hl4, Option.bind_some]
    simp only [bridge_table_play_K1]
    have hhand := H.hand (by omega)
    have hw4 : (ld + l.length) % 4 < 4 := Nat.mod_lt _ (by omega)
    have hJ2 : bridge_table_play_J2 (bridge_table_play_mF rc (m + 1)) s kn d ld l (handOf d ((ld + l.length) % 4)) = bridge_table_play_J5 (bridge_table_play_mF rc (m + 1)) s kn d ld l (handOf d ((ld + l.length) % 4)) (ledOf l) := by
      unfold bridge_table_play_J2 ledOf
      by_cases h0 : 0 < l.length
      · rw [if_pos (decide_eq_true (by omega)), if_pos h0, asrt_pos (by omega)]
      · rw [if_neg (by rw [decide_eq_true_eq]; omega), if_neg h0]
    rw [hJ2]
    unfold bridge_table_play_J5
    simp only [V]
    rw [if_neg (by omega)]
    let hand := handOf d ((ld + l.length) % 4)
    let g : Int → Int := fun c => V s (8 * h - l.length) (d.set c.toNat 4) ld (l ++ [c])
    have hhl : hand.length ≤ 52 := hand_len d _
    obtain ⟨r, er, hr1, hr2, hr3⟩ := count_loop (step := bridge_table_play_L2 (bridge_table_play_mF rc (m + 1)) s ld l hand (ledOf l)) (mk := fun (kn : List ((Int × Int) × Int)) i => (kn, d, mm ((ld + l.length) % 4) (((hand.take i).filter (mayB hand (ledOf l))).map g), (i : Int)))
      (I := fun _ kn => KOk s D kn) (Post := fun (r : Int × List ((Int × Int) × Int) × List Int) => r.1 = mm ((ld + l.length) % 4) ((hand.filter (mayB hand (ledOf l))).map g) ∧ r.2.2 = d ∧ KOk s D r.2.1) hand.length kn hK (fun i z hi hI => by
        left
        have hm : geti hand (i : Int) ∈ hand := List.mem_of_getElem? (get_geti hi)
        have hmc := mem_hand.1 hm
        simp only [bridge_table_play_L2]
        rw [if_pos (decide_eq_true (by omega))]
        unfold bridge_table_play_J7
        rw [asrt_pos (by omega), may_p _ _ (by omega), Option.bind_some, take_nextI hi, List.filter_append, List.map_append]
        cases hmay : mayB hand (ledOf l) (geti hand (i : Int)) with
        | false =>
          rw [if_pos (show (!false) = true from rfl), List.filter_cons_of_neg (by rw [hmay]; decide), List.filter_nil, List.map_nil, List.append_nil]
          unfold bridge_table_play_J8
          rw [w64_of (by omega)]
          exact ⟨z, rfl, hI⟩
        | true =>
          rw [if_neg (by decide), List.filter_cons_of_pos hmay, List.filter_nil, List.map_cons, List.map_nil, mm_snoc]
          obtain ⟨kn', e, hK'⟩ := play_p s D rc N hrec m (d.set (geti hand (i : Int)).toNat 4) ld (l ++ [geti hand (i : Int)]) z h (by simp; omega) (hC.set hmc.1) (H.next (by omega) hm) (fun x hx => by
            rcases List.mem_append.1 hx with h | h
            · exact hcd x h
            · rw [List.mem_singleton] at h
              omega) h4 hN hI
          have ef : 8 * h - (l ++ [geti hand (i : Int)]).length + 1 = 8 * h - l.length := by simp; omega
          rw [ef] at e
          refine ⟨kn', ?_, hK'⟩
          unfold bridge_table_play_J9
          have hback : (d.set (geti hand (i : Int)).toNat 4).set (geti hand (i : Int)).toNat (((ld + l.length) % 4 : Nat) : Int) = d := by
            rw [List.set_set]
            refine List.ext_getElem? (fun j => ?_)
            rw [List.getElem?_set]
            split
            · rename_i hj
              subst hj
              rw [if_pos (by omega), get_geti (by omega), Int.toNat_of_nonneg hmc.1.1, hmc.2]
            · rfl
          rw [asrt_pos (by omega), asrt_pos (by omega), asrt_pos (by unfold bigN; omega), e, Option.bind_some, asrt_pos (by omega), asrt_pos (by rw [List.length_set]; omega)]
          simp only
          rw [w64_add (by omega), tmod4, bAnd1 hw4, hback]
          unfold bridge_table_play_J8
          rw [w64_of (by omega)]
          exact stepM_if ((ld + l.length) % 4) _ _ (fun y => some (St.next (kn', d, y, ((i + 1 : Nat) : Int))))) (fun z hI => ⟨(mm ((ld + l.length) % 4) ((hand.filter (mayB hand (ledOf l))).map g), z, d), by
        simp only [bridge_table_play_L2]
        rw [if_neg (by simp), List.take_length], rfl, rfl, hI⟩)
    obtain ⟨r1, r2, r3⟩ := r
    simp only at hr1 hr2 hr3
    subst hr2
    have er' : loop (bridge_table_play_L2 (bridge_table_play_mF rc (m + 1)) s ld l hand (ledOf l)) (kn, r3, -1, 0) = some (r1, r2, r3) := er
    refine ⟨r2, ?_, hr3⟩
    have er2 : loop (bridge_table_play_L2 (bridge_table_play_mF rc (m + 1)) s ld l (handOf r3 ((ld + l.length) % 4)) (ledOf l)) (kn, r3, -1, 0) = some (r1, r2, r3) := er'
    rw [er2, Option.bind_some, hr1]
    rfl

theorem best_p (s : Int) (D : List Int) : ∀ (N : Nat) (d : List Int) (ld : Nat) (kn : List ((Int × Int) × Int)) (h0 : Nat), Cons D d → ld < 4 → (∀ p, p < 4 → (handOf d p).length = h0) → h0 ≤ 4 → h0 < N → KOk s D kn → ∃ kn', bridge_table_best_mF N s kn d ld = some (bv s h0 d ld, kn', d) ∧ KOk s D kn'
  | 0, _, _, _, _, _, _, _, _, h, _ => absurd h (by omega)
  | N + 1, d, ld, kn, h0, hC, hld, hall, h4, hN, hK => by
    show ∃ kn', bridge_table_best_B (bridge_table_best_mF N) s kn d ld = _ ∧ _
    unfold bridge_table_best_B
    rw [state_p, Option.bind_some]
    by_cases hz : h0 = 0
    · have hm0 : mask d = 0 := by
        refine Nat.eq_of_testBit_eq (fun c => ?_)
        rw [mask_bit, Nat.zero_testBit, decide_eq_false]
        rintro ⟨h52, hlt⟩
        have hcell := hC.cell c h52
        have hp := hall (geti d (c : Int)).toNat (by omega)
        have hmem : (c : Int) ∈ handOf d (geti d (c : Int)).toNat := mem_hand.2 ⟨by omega, by omega⟩
        have := List.length_pos_of_mem hmem
        omega
      rw [if_pos (by rw [hm0]; rfl)]
      refine ⟨kn, ?_, hK⟩
      unfold bv
      rw [if_pos hz]
    · have hB : Bal d ld [] h0 := ⟨hld, by simp, hC.len, by omega, fun j hj => by
        rw [hall _ (by omega), if_neg (by simp)]; rfl⟩
      have hm0 : mask d ≠ 0 := fun e => by
        have hne : handOf d ld ≠ [] := fun he => by
          have := hall ld hld
          rw [he] at this
          simp at this
          omega
        obtain ⟨x, hx⟩ := List.exists_mem_of_ne_nil _ hne
        have hxx := mem_hand.1 hx
        have hbit := mask_bit d x.toNat
        rw [e, Nat.zero_testBit, Int.toNat_of_nonneg hxx.1.1] at hbit
        have := of_decide_eq_false hbit.symm
        exact this ⟨by omega, by rw [hxx.2]; omega⟩
      rw [if_neg (by rw [beq_iff_eq]; omega)]
      unfold bridge_table_best_J1 bridge_table_best_J2
      have hbv : bv s h0 d ld = V s (8 * h0 + 1) d ld [] := if_neg hz
      rw [hbv]
      by_cases hm : mhas (((mask d : Nat) : Int), (ld : Int)) kn = true
      · rw [if_pos hm]
        exact ⟨kn, by rw [hK d ld h0 hC hB hm], hK⟩
      · rw [if_neg hm]
        obtain ⟨kn', e, hK'⟩ := play_p s D (bridge_table_best_mF N) N (fun d ld kn h0 a b c d' e f => best_p s D N d ld kn h0 a b c d' e f) 4 d ld [] kn h0 (by simp) hC hB (by intro x hx; cases hx) h4 (by omega) hK
        have e2 : bridge_table_play_m (bridge_table_best_mF N) s kn d ld [] = _ := recM_mono (fun n => bridge_table_play_mF_le (bridge_table_best_mF N) n _ _ _ _ _) e
        have e3 : bridge_table_play_m (bridge_table_best_mF N) s kn d ld ([] : List Int) = some (V s (8 * h0 - ([] : List Int).length + 1) d ld [], kn', d) := e2
        rw [e3, Option.bind_some]
        simp only [List.length_nil, Nat.sub_zero]
        exact ⟨_, rfl, hK'.put hC hB⟩
end Go.Proofs.Ytlpaklmfgldkoaa
