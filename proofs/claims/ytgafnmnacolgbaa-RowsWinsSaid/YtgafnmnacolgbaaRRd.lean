/-
  RowsWins: the places in rows, and the law.
-/
import Derived.Test.YtgafnmnacolgbaaRRc
import Derived.Test.YtgafnmnacolgbaaLibY
import Derived.Test.YtgafnmnacolgbaaLibT
import Derived.Test.YtgafnmnacolgbaaLibE
namespace Go.Proofs.Ytgafnmnacolgbaa
open Go Go.GL

def offG (x : Int) : Bool := decide (x < 0) || decide ((2 : Int) < x)
theorem offG_in (x : Int) : offG x = !(decide (0 ≤ x) && decide (x ≤ 2)) := by
  unfold offG
  by_cases h1 : 0 ≤ x <;> by_cases h2 : x ≤ 2 <;> simp [h1, h2, Int.not_lt.2] <;> omega

theorem indexFunc_g {s : List Int} (hs : s.length ≤ 17592186044416) : slices_IndexFunc_m s = some (fidx offG s) := by
  unfold slices_IndexFunc_m
  rw [search_loop (l := s) offG (fun i => Fl.ret (i : Int)) (Fl.go ()) ?_ ?_ ?_]
  · unfold fidx
    cases s.findIdx? offG <;> rfl
  · intro i x hx hp
    have hb := idx_bd hx
    simp only [slices_IndexFunc_L1, slices_IndexFunc_J2]
    rw [if_pos (by simpa using hb.2), asrt_pos hb, geti_some hx]
    simp only [rows_May_1_m, Option.bind_some]
    exact if_pos hp
  · intro i x hx hp
    have hb := idx_bd hx
    simp only [slices_IndexFunc_L1, slices_IndexFunc_J2]
    rw [if_pos (by simpa using hb.2), asrt_pos hb, geti_some hx]
    simp only [rows_May_1_m, Option.bind_some]
    rw [if_neg (by unfold offG at hp; rw [hp]; simp)]
    simp only [slices_IndexFunc_J3]
    rw [w64_succ (by omega)]
  · simp only [slices_IndexFunc_L1]
    rw [if_neg (by simp)]

def dimG (W H : Int) (c : List Int) : Prop := 1 ≤ W ∧ W ≤ 10 ∧ 1 ≤ H ∧ H ≤ 10 ∧ (c.length : Int) = W * H
instance (W H : Int) (c : List Int) : Decidable (dimG W H c) := by unfold dimG; infer_instance
def okG (W H : Int) (c : List Int) : Bool := decide (dimG W H c) && !c.any offG

theorem dim_b (W H : Int) (c : List Int) : (((((decide ((1 : Int) ≤ W)) && (decide (W ≤ 10))) && (decide ((1 : Int) ≤ H))) && (decide (H ≤ 10))) && ((c.length : Int) == (w64 (W * H)))) = decide (dimG W H c) := by
  unfold dimG
  by_cases h : 1 ≤ W ∧ W ≤ 10 ∧ 1 ≤ H ∧ H ≤ 10
  · have hm := mul_bd' (b := W) (W := H) (by omega) (by omega)
    rw [w64_of (by omega), Bool.eq_iff_iff]
    simp only [Bool.and_eq_true, decide_eq_true_eq, beq_iff_eq, and_assoc]
    exact decide_eq_true_iff.symm
  · rw [decide_eq_false (p := 1 ≤ W ∧ W ≤ 10 ∧ 1 ≤ H ∧ H ≤ 10 ∧ (c.length : Int) = W * H) (fun h2 => h ⟨h2.1, h2.2.1, h2.2.2.1, h2.2.2.2.1⟩)]
    rw [Bool.and_eq_false_iff]
    left
    simp only [← Bool.decide_and, decide_eq_false_iff_not]
    omega

theorem may_p (W H : Int) {c : List Int} (hs : c.length ≤ 17592186044416) : rows_May_m W H c = some (okG W H c) := by
  unfold rows_May_m
  rw [dim_b]
  unfold okG
  by_cases h : dimG W H c
  · rw [decide_eq_true h, if_pos rfl]
    unfold slices_ContainsFunc_m
    rw [indexFunc_g hs]
    simp only [Option.bind_some, Bool.true_and]
    congr 2
    rw [Bool.eq_iff_iff, decide_eq_true_eq]
    exact fidx_neg offG c
  · rw [decide_eq_false h, if_neg (by decide)]
    rfl

theorem gridMay_eq (W H : Int) {c : List Int} (hs : c.length ≤ 17592186044416) : gameroomref_GridMay_m W H c = some (okG W H c) := by
  unfold gameroomref_GridMay_m gameroomref_within_m okG
  have hd := dim_b W H c
  by_cases h : dimG W H c
  · have h' := h
    obtain ⟨h1, h2, h3, h4, h5⟩ := h'
    have hm := mul_bd' (b := W) (W := H) (by omega) (by omega)
    rw [decide_eq_true h1, decide_eq_true h2, decide_eq_true h3, decide_eq_true h4, decide_eq_true h, w64_of (x := W * H) (by omega), ← h5]
    simp only [Option.bind_some, Bool.and_self, Bool.not_true, Bool.not_false, if_true, Bool.or_false, bne_self_eq_false, Bool.false_eq_true, if_false, Bool.true_and]
    unfold gameroomref_GridMay_J1
    rw [search_loop (l := c) offG (fun _ => Fl.ret false) (Fl.go ()) ?_ ?_ ?_]
    · have hn := fidx_neg offG c
      unfold fidx at hn
      cases hf : c.findIdx? offG with
      | none =>
        rw [hf] at hn
        have : c.any offG = false := by
          rw [Bool.eq_false_iff]
          intro h; have := hn.2 h; simp at this
        rw [this]; rfl
      | some i =>
        rw [hf] at hn
        have : c.any offG = true := hn.1 (by simp)
        rw [this]; rfl
    · intro i x hx hp
      have hb := idx_bd hx
      simp only [gameroomref_GridMay_L1, gameroomref_GridMay_J3]
      rw [if_pos (by simpa using hb.2), asrt_pos hb, geti_some hx]
      simp only [gameroomref_within_m, Option.bind_some]
      rw [if_pos (by rw [← offG_in]; exact hp)]
    · intro i x hx hp
      have hb := idx_bd hx
      simp only [gameroomref_GridMay_L1, gameroomref_GridMay_J3]
      rw [if_pos (by simpa using hb.2), asrt_pos hb, geti_some hx]
      simp only [gameroomref_within_m, Option.bind_some]
      rw [if_neg (by rw [← offG_in, hp]; simp)]
      simp only [gameroomref_GridMay_J4]
      rw [w64_succ (by omega)]
    · simp only [gameroomref_GridMay_L1]
      rw [if_neg (by simp)]
  · rw [decide_eq_false h] at hd ⊢
    simp only [Option.bind_some, Bool.not_not, Bool.false_and]
    by_cases q1 : (decide ((1 : Int) ≤ W) && decide (W ≤ 10)) = true
    · rw [q1] at hd ⊢
      simp only [if_true, Option.bind_some, Bool.not_true, Bool.false_or]
      rw [if_pos]
      rw [Bool.true_and] at hd
      rw [Bool.or_eq_true]
      by_cases q2 : (decide ((1 : Int) ≤ H) && decide (H ≤ 10)) = true
      · right
        rw [q2, Bool.true_and] at hd
        simpa using hd
      · left
        rw [Bool.not_eq_true] at q2
        rw [q2]; rfl
    · rw [Bool.not_eq_true] at q1
      rw [q1]
      simp


theorem okG_dim {W H : Int} {c : List Int} (h : okG W H c = true) : dimG W H c := by
  unfold okG at h
  rw [Bool.and_eq_true] at h
  exact of_decide_eq_true h.1
theorem okG_dm {W H : Int} {c : List Int} (h : okG W H c = true) : Dm W H c := by
  obtain ⟨h1, h2, h3, h4, h5⟩ := okG_dim h
  exact ⟨⟨h1, h2⟩, ⟨h3, h4⟩, h5⟩
theorem okG_in {W H : Int} {c : List Int} (h : okG W H c = true) (i : Nat) (hi : i < c.length) : 0 ≤ geti c i ∧ geti c i ≤ 2 := by
  unfold okG at h
  rw [Bool.and_eq_true, Bool.not_eq_true'] at h
  have hx := List.any_eq_false.1 h.2 (geti c i) (List.mem_of_getElem? (get_geti hi))
  unfold offG at hx
  simp only [Bool.or_eq_true, decide_eq_true_eq, not_or] at hx
  omega

theorem sameInts_eq {a b : List Int} (ha : a.length ≤ 17592186044416) : gameroomlaw_sameInts_m a b = some (decide (a = b)) := by
  unfold gameroomlaw_sameInts_m
  by_cases hl : a.length = b.length
  · rw [if_neg (by simp [hl])]
    unfold gameroomlaw_sameInts_J1
    have h := count_loop (step := gameroomlaw_sameInts_L1 a b) (fun (_ : Unit) k => (k : Int)) (fun k _ => ∀ i, i < k → a[i]? = b[i]?) (fun r => gameroomlaw_sameInts_K1 r = some (decide (a = b))) a.length () (fun i hi => by omega) ?_ ?_
    · obtain ⟨r, h1, h2⟩ := h
      have h1' : loop (gameroomlaw_sameInts_L1 a b) 0 = some r := h1
      rw [h1']
      exact h2
    · intro i _ hi hI
      obtain ⟨x, hx⟩ : ∃ x, a[i]? = some x := ⟨_, List.getElem?_eq_getElem hi⟩
      obtain ⟨y, hy⟩ : ∃ y, b[i]? = some y := ⟨_, List.getElem?_eq_getElem (by omega)⟩
      simp only [gameroomlaw_sameInts_L1, gameroomlaw_sameInts_J3]
      rw [if_pos (by simpa using hi), asrt_pos (idx_bd hx), asrt_pos (idx_bd hy), geti_some hx, geti_some hy]
      by_cases hxy : x = y
      · left
        rw [if_neg (by simp [hxy])]
        refine ⟨(), by simp only [gameroomlaw_sameInts_J4]; rw [w64_succ (by omega)]; rfl, fun j hj => ?_⟩
        by_cases hji : j = i
        · subst hji; rw [hx, hy, hxy]
        · exact hI j (by omega)
      · right
        rw [if_pos (by simp [hxy])]
        refine ⟨_, rfl, ?_⟩
        have hne : a ≠ b := fun h => hxy (by rw [h, hy] at hx; exact (Option.some.inj hx).symm)
        simp [gameroomlaw_sameInts_K1, hne]
    · intro _ hI
      refine ⟨Fl.go (), ?_, ?_⟩
      · simp only [gameroomlaw_sameInts_L1]
        rw [if_neg (by simp)]
      · have : a = b := by
          apply List.ext_getElem?
          intro i
          by_cases hi : i < a.length
          · exact hI i hi
          · rw [List.getElem?_eq_none (by omega), List.getElem?_eq_none (by omega)]
        simp [gameroomlaw_sameInts_K1, gameroomlaw_sameInts_J2, this]
  · rw [if_pos (by simp; omega)]
    have : a ≠ b := fun h => hl (by rw [h])
    simp [this]
section
variable {W H k : Int} {c : List Int}

theorem inRow_line (B : Bd W H c k) {Ls : List (List Int)} (hD : DescL W H k (AllS W H) 400 Ls) (p : Nat) :
    InRow W H c k p ↔ ∃ l ∈ Ls, ∃ who, 0 < who ∧ rows_match_owner_m c Ls l = some who ∧ (p : Int) ∈ l := by
  have hk := B.k
  have mem : ∀ {y x d : Int}, (p : Int) ∈ lineP W k y x d ↔ ∃ i : Nat, (i : Int) < k ∧ (p : Int) = ppl W y x d i := by
    intro y x d
    unfold lineP
    rw [List.mem_map]
    constructor
    · rintro ⟨i, hi, e⟩
      rw [List.mem_range] at hi
      exact ⟨i, by omega, e.symm⟩
    · rintro ⟨i, hi, e⟩
      exact ⟨i, by rw [List.mem_range]; omega, e.symm⟩
  have prog : (∃ l ∈ Ls, ∃ who, 0 < who ∧ rows_match_owner_m c Ls l = some who ∧ (p : Int) ∈ l) ↔ ∃ y x d : Int, ∃ i : Nat, ∃ who : Int, AllS W H y x d ∧ 0 < who ∧ LineAt W H c k x y (PX d) (PY d) who ∧ (i : Int) < k ∧ (p : Int) = ppl W y x d i := by
    constructor
    · rintro ⟨l, hl, who, h0, ho, hp⟩
      obtain ⟨y, x, d, hS, hf, rfl⟩ := hD.sound l hl
      rw [owner_eq B Ls hS hf] at ho
      injection ho with ho
      obtain ⟨i, hi, e⟩ := mem.1 hp
      exact ⟨y, x, d, i, who, hS, h0, (rowV_iff hk.1 (by omega)).1 ho, hi, e⟩
    · rintro ⟨y, x, d, i, who, hS, h0, h, hi, e⟩
      have hf := line_fit hk.1 h
      exact ⟨_, hD.all y x d hS hf, who, h0, by rw [owner_eq B Ls hS hf, (rowV_iff hk.1 (by omega)).2 h], mem.2 ⟨i, hi, e⟩⟩
  rw [prog]
  unfold InRow rv plc ppl
  constructor
  · rintro ⟨y, x, d, i, hS, hi, h0, e⟩
    generalize hw : rowV W H c k x y (DX d) (DY d) = who at h0
    have h := (rowV_iff hk.1 (show who ≠ 0 by omega)).1 hw
    obtain ⟨hy, hx, hd⟩ := hS
    obtain rfl | rfl | rfl | rfl : d = 0 ∨ d = 1 ∨ d = 2 ∨ d = 3 := by omega
    · exact ⟨y, x, 0, i, who, ⟨hy, hx, hd⟩, h0, h, hi, e⟩
    · exact ⟨y, x, 1, i, who, ⟨hy, hx, hd⟩, h0, h, hi, e⟩
    · exact ⟨y, x, 2, i, who, ⟨hy, hx, hd⟩, h0, h, hi, e⟩
    · have h' := line_flip' h
      have hh := h' 0 (by omega)
      simp only [Int.natCast_zero, Int.mul_zero, Int.add_zero] at hh
      refine ⟨y - (k - 1), x + (k - 1), 3, (k - 1 - i).toNat, who, ⟨by omega, by omega, by omega⟩, h0, h', by omega, ?_⟩
      rw [e, show (((k - 1 - (i : Int)).toNat : Nat) : Int) = k - 1 - i by omega, show PX 3 = -1 from rfl, show PY 3 = 1 from rfl, show DX 3 = 1 from rfl, show DY 3 = -1 from rfl]
      rw [show y - (k - 1) + 1 * (k - 1 - (i : Int)) = y + -1 * i by omega, show x + (k - 1) + -1 * (k - 1 - (i : Int)) = x + 1 * i by omega]
  · rintro ⟨y, x, d, i, who, hS, h0, h, hi, e⟩
    obtain ⟨hy, hx, hd⟩ := hS
    have rp : ∀ {x y dx dy : Int}, LineAt W H c k x y dx dy who → 0 < rowV W H c k x y dx dy := fun h => by rw [(rowV_iff hk.1 (show who ≠ 0 by omega)).2 h]; exact h0
    obtain rfl | rfl | rfl | rfl : d = 0 ∨ d = 1 ∨ d = 2 ∨ d = 3 := by omega
    · exact ⟨y, x, 0, i, ⟨hy, hx, hd⟩, hi, rp h, e⟩
    · exact ⟨y, x, 1, i, ⟨hy, hx, hd⟩, hi, rp h, e⟩
    · exact ⟨y, x, 2, i, ⟨hy, hx, hd⟩, hi, rp h, e⟩
    · have h' := line_flip h
      have hh := h' 0 (by omega)
      simp only [Int.natCast_zero, Int.mul_zero, Int.add_zero] at hh
      refine ⟨y + (k - 1), x - (k - 1), 3, (k - 1 - i).toNat, ⟨by omega, by omega, by omega⟩, by omega, rp h', ?_⟩
      rw [e, show (((k - 1 - (i : Int)).toNat : Nat) : Int) = k - 1 - i by omega, show PX 3 = -1 from rfl, show PY 3 = 1 from rfl, show DX 3 = 1 from rfl, show DY 3 = -1 from rfl]
      rw [show y + (k - 1) + -1 * (k - 1 - (i : Int)) = y + 1 * i by omega, show x - (k - 1) + 1 * (k - 1 - (i : Int)) = x + -1 * i by omega]

theorem places_scan (B : Bd W H c k) {Ls : List (List Int)} (hD : DescL W H k (AllS W H) 400 Ls) :
    ∃ P, loop (rows_Won_L1 c Ls) ([], 0) = some P ∧ P.length ≤ 4000 ∧ ∀ q : Int, q ∈ P ↔ ∃ l ∈ Ls, ∃ who, 0 < who ∧ rows_match_owner_m c Ls l = some who ∧ q ∈ l := by
  have hlen := hD.len
  have hk := B.k
  have hg : ∀ i : Nat, i < Ls.length → Ls[i]? = some (geti2 Ls (i : Int)) := by
    intro i hi
    unfold geti2
    rw [Int.toNat_natCast, List.getD_eq_getElem?_getD, List.getElem?_eq_getElem hi]
    rfl
  have hown : ∀ i : Nat, i < Ls.length → (∃ v, rows_match_owner_m c Ls (geti2 Ls (i : Int)) = some v) ∧ (geti2 Ls (i : Int)).length ≤ 10 := by
    intro i hi
    obtain ⟨y, x, d, hS, hf, e⟩ := hD.sound _ (List.mem_of_getElem? (hg i hi))
    rw [e, owner_eq B Ls hS hf]
    exact ⟨⟨_, rfl⟩, by unfold lineP; rw [List.length_map, List.length_range]; omega⟩
  have key := count_loop (step := rows_Won_L1 c Ls) (fun (s : List Int) (i : Nat) => (s, (i : Int)))
    (fun n s => s.length ≤ 10 * n ∧ ∀ q : Int, q ∈ s ↔ ∃ i : Nat, i < n ∧ ∃ who, 0 < who ∧ rows_match_owner_m c Ls (geti2 Ls (i : Int)) = some who ∧ q ∈ geti2 Ls (i : Int))
    (fun r => r.length ≤ 4000 ∧ ∀ q : Int, q ∈ r ↔ ∃ l ∈ Ls, ∃ who, 0 < who ∧ rows_match_owner_m c Ls l = some who ∧ q ∈ l) Ls.length [] ⟨by simp, fun q => ⟨by simp, fun ⟨i, hi, _⟩ => by omega⟩⟩ (by
      rintro i s hi ⟨hl, hI⟩
      left
      obtain ⟨⟨v, hv⟩, h10⟩ := hown i hi
      have e1 : rows_Won_L1 c Ls (s, (i : Int)) = rows_Won_J4 c Ls s i := if_pos (decide_eq_true (by omega))
      rw [e1]
      unfold rows_Won_J4 rows_Won_J5
      rw [asrt_pos (by omega), hv, Option.bind_some, w64_of (x := (i : Int) + 1) (by omega)]
      have more : ∀ q : Int, (∃ j : Nat, j < i + 1 ∧ ∃ who, 0 < who ∧ rows_match_owner_m c Ls (geti2 Ls (j : Int)) = some who ∧ q ∈ geti2 Ls (j : Int)) ↔ q ∈ s ∨ (0 < v ∧ q ∈ geti2 Ls (i : Int)) := by
        intro q
        rw [hI q]
        constructor
        · rintro ⟨j, hj, who, h1, h2, h3⟩
          by_cases e : j = i
          · subst e
            rw [hv] at h2; injection h2 with h2
            exact Or.inr ⟨by omega, h3⟩
          · exact Or.inl ⟨j, by omega, who, h1, h2, h3⟩
        · rintro (⟨j, hj, h⟩ | ⟨h1, h2⟩)
          · exact ⟨j, by omega, h⟩
          · exact ⟨i, by omega, v, h1, hv, h2⟩
      by_cases h0 : 0 < v
      · rw [if_pos (decide_eq_true h0), asrt_pos (by unfold bigN; omega)]
        refine ⟨s ++ geti2 Ls (i : Int), rfl, by rw [List.length_append]; omega, fun q => ?_⟩
        rw [more q, List.mem_append]
        constructor
        · rintro (h | h)
          · exact Or.inl h
          · exact Or.inr ⟨h0, h⟩
        · rintro (h | h)
          · exact Or.inl h
          · exact Or.inr h.2
      · rw [if_neg (by simpa using h0)]
        refine ⟨s, rfl, by omega, fun q => ?_⟩
        rw [more q]
        constructor
        · exact Or.inl
        · rintro (h | h)
          · exact h
          · exact absurd h.1 h0) (by
      rintro s ⟨hl, hI⟩
      refine ⟨s, ?_, by omega, fun q => ?_⟩
      · simp only [rows_Won_L1]
        rw [if_neg (by simp)]
      · rw [hI q]
        constructor
        · rintro ⟨i, hi, who, h⟩
          exact ⟨_, List.mem_of_getElem? (hg i hi), who, h⟩
        · rintro ⟨l, hl, who, h1, h2, h3⟩
          obtain ⟨i, hi, e⟩ := List.getElem_of_mem hl
          have : geti2 Ls (i : Int) = l := by
            have := hg i hi
            rw [List.getElem?_eq_getElem hi] at this
            injection this with this
            rw [← this, e]
          refine ⟨i, hi, who, h1, ?_, ?_⟩
          · rw [this]; exact h2
          · rw [this]; exact h3)
  obtain ⟨r, hr, h1, h2⟩ := key
  exact ⟨r, hr, h1, h2⟩

theorem wonP_eq (B : Bd W H c k) (hv : ∀ x ∈ c, 0 ≤ x ∧ x ≤ 2) : rows_Won_J1 W H c k = some (wonN W H c k, wonL W H c k, 0) := by
  have hsm := B.small
  obtain ⟨Ls, hl, hD⟩ := lines_eq B.w B.h B.k
  obtain ⟨P, hP, hPl, hPm⟩ := places_scan B hD
  unfold rows_Won_J1 rows_Won_J2
  rw [hl, Option.bind_some, hP, Option.bind_some]
  simp only [rows_Won_K1]
  unfold rows_Won_J3 slices_Sort_2_m slices_Compact_2_m
  rw [asrt_pos (by unfold bigN; omega), Option.bind_some, won_eq B hv hD, Option.bind_some, asrt_pos (by have := sortI_length P; unfold bigN; omega), Option.bind_some]
  have hlist : compI (sortI P) = wonL W H c k := by
    classical
    unfold wonL
    refine strict_ext (compI_lt (sortI_le P)) (filt_lt _ _) fun q => ?_
    rw [compI_mem, sortI_mem, hPm q, List.mem_map]
    constructor
    · rintro ⟨l, h1, who, h2, h3, h4⟩
      obtain ⟨y, x, d, hS, hf, e⟩ := hD.sound l h1
      have hq : ∃ p : Nat, p < c.length ∧ q = p := by
        subst e
        unfold lineP at h4
        rw [List.mem_map] at h4
        obtain ⟨i, hi, e⟩ := h4
        rw [List.mem_range] at hi
        have hin := fit_in B.k hS.2.1 hS.1 hS.2.2 hf (i := i) (by omega)
        have := B.idx ⟨hin.1, hin.2.1⟩ ⟨hin.2.2.1, hin.2.2.2⟩
        unfold ppl at e
        exact ⟨q.toNat, by omega, by omega⟩
      obtain ⟨p, hp, rfl⟩ := hq
      refine ⟨p, ?_, rfl⟩
      rw [List.mem_filter, List.mem_range, decide_eq_true_eq]
      exact ⟨hp, (inRow_line B hD p).2 ⟨l, h1, who, h2, h3, h4⟩⟩
    · rintro ⟨p, hp, rfl⟩
      rw [List.mem_filter, List.mem_range, decide_eq_true_eq] at hp
      exact (inRow_line B hD p).1 hp.2
  rw [hlist]
end

theorem true_RowsWins (W H : Int) (c : List Int) (k : Int) (_hw : inI W) (_hh : inI H) (hl : c.length ≤ 17592186043904) (_hy : ∀ y ∈ c, inI y) (_h1 : inI k) : gameroomlaw_RowsWins_m W H c k = some true := by
  have hl' : c.length ≤ 17592186044416 := by omega
  have hgo : gameroomref_GridOf_m W H c = some (W, H, c) := by
    unfold gameroomref_GridOf_m gameroomref_Ints_m
    rw [asrt_pos (by unfold bigN; omega), Option.bind_some, List.nil_append]
  unfold gameroomlaw_RowsWins_m rows_Won_m
  rw [hgo, Option.bind_some]
  simp only
  rw [may_p W H hl', gridMay_eq W H hl', Option.bind_some]
  by_cases h1 : okG W H c = true
  · have D := okG_dm h1
    have hin := okG_in h1
    rw [h1]
    simp only [Bool.not_true, Bool.false_eq_true, if_false]
    by_cases h2 : ((decide (k < 1)) || (decide ((10 : Int) < k))) = true
    · rw [if_pos h2]
      simp only [Option.bind_some, Bool.not_true, Bool.false_eq_true, if_false]
      rw [if_pos h2]
      rfl
    · rw [if_neg h2]
      have hk : 1 ≤ k ∧ k ≤ 10 := by
        simp only [Bool.or_eq_true, decide_eq_true_eq, not_or] at h2
        omega
      have B : Bd W H c k := ⟨D.w, D.h, D.len, hk⟩
      have hsm := B.small
      rw [wonP_eq B (fun x hx => by
        obtain ⟨i, hi, e⟩ := List.getElem_of_mem hx
        have := hin i hi
        rw [geti_some (List.getElem?_eq_getElem hi), e] at this
        exact this)]
      simp only [Option.bind_some, Bool.not_true, Bool.false_eq_true, if_false]
      rw [if_neg h2]
      unfold gameroomlaw_RowsWins_J1
      rw [if_neg (by decide)]
      unfold gameroomlaw_RowsWins_J2
      rw [WonOf_eq B, Option.bind_some]
      simp only [beq_self_eq_true, Bool.and_self, if_true]
      have hwl : (wonL W H c k).length ≤ 300 := by
        classical
        unfold wonL
        rw [List.length_map]
        refine Nat.le_trans (List.length_filter_le _ _) ?_
        rw [List.length_range]; exact hsm
      rw [sameInts_eq (by omega), decide_eq_true rfl]
      rfl
  · rw [Bool.not_eq_true] at h1
    rw [h1]
    rfl
end Go.Proofs.Ytgafnmnacolgbaa
