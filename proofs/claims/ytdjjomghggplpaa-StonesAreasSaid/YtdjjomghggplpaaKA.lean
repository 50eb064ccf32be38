/-
  Stones: places beside one another, what is joined, and what the program finds.
-/
import Derived.Test.YtdjjomghggplpaaNSA
import Derived.Test.YtdjjomghggplpaaLibY
import Derived.Test.YtdjjomghggplpaaLibE
import Derived.Test.YtdjjomghggplpaaLibT
namespace Go.Proofs.Ytdjjomghggplpaa
open Go Go.GL

def offG (x : Int) : Bool := decide (x < 0) || decide ((2 : Int) < x)
theorem offG_in (x : Int) : offG x = !(decide (0 ≤ x) && decide (x ≤ 2)) := by
  unfold offG
  by_cases h1 : 0 ≤ x <;> by_cases h2 : x ≤ 2 <;> simp [h1, h2, Int.not_lt.2] <;> omega

theorem indexFunc_g {s : List Int} (hs : s.length ≤ 17592186044416) : slices_IndexFunc_m s = some (fidx offG s) := by
  unfold slices_IndexFunc_m
  rw [search_loop (l := s) offG (fun i => Fl.ret (i : Int)) (Fl.go ()) ?_ ?_ ?_]
  · unfold fidx
    cases s.findIdx? offG <;> rfl
  · intro i x hx hp
    have hb := idx_bd hx
    simp only [slices_IndexFunc_L1, slices_IndexFunc_J2]
    rw [if_pos (by simpa using hb.2), asrt_pos hb, geti_some hx]
    simp only [rows_May_1_m, Option.bind_some]
    exact if_pos hp
  · intro i x hx hp
    have hb := idx_bd hx
    simp only [slices_IndexFunc_L1, slices_IndexFunc_J2]
    rw [if_pos (by simpa using hb.2), asrt_pos hb, geti_some hx]
    simp only [rows_May_1_m, Option.bind_some]
    rw [if_neg (by unfold offG at hp; rw [hp]; simp)]
    simp only [slices_IndexFunc_J3]
    rw [w64_succ (by omega)]
  · simp only [slices_IndexFunc_L1]
    rw [if_neg (by simp)]

def dimG (W H : Int) (c : List Int) : Prop := 1 ≤ W ∧ W ≤ 10 ∧ 1 ≤ H ∧ H ≤ 10 ∧ (c.length : Int) = W * H
instance (W H : Int) (c : List Int) : Decidable (dimG W H c) := by unfold dimG; infer_instance
def okG (W H : Int) (c : List Int) : Bool := decide (dimG W H c) && !c.any offG

theorem dim_b (W H : Int) (c : List Int) : (((((decide ((1 : Int) ≤ W)) && (decide (W ≤ 10))) && (decide ((1 : Int) ≤ H))) && (decide (H ≤ 10))) && ((c.length : Int) == (w64 (W * H)))) = decide (dimG W H c) := by
  unfold dimG
  by_cases h : 1 ≤ W ∧ W ≤ 10 ∧ 1 ≤ H ∧ H ≤ 10
  · have hm := mul_bd' (b := W) (W := H) (by omega) (by omega)
    rw [w64_of (by omega), Bool.eq_iff_iff]
    simp only [Bool.and_eq_true, decide_eq_true_eq, beq_iff_eq, and_assoc]
    exact decide_eq_true_iff.symm
  · rw [decide_eq_false (p := 1 ≤ W ∧ W ≤ 10 ∧ 1 ≤ H ∧ H ≤ 10 ∧ (c.length : Int) = W * H) (fun h2 => h ⟨h2.1, h2.2.1, h2.2.2.1, h2.2.2.2.1⟩)]
    rw [Bool.and_eq_false_iff]
    left
    simp only [← Bool.decide_and, decide_eq_false_iff_not]
    omega

theorem may_p (W H : Int) {c : List Int} (hs : c.length ≤ 17592186044416) : rows_May_m W H c = some (okG W H c) := by
  unfold rows_May_m
  rw [dim_b]
  unfold okG
  by_cases h : dimG W H c
  · rw [decide_eq_true h, if_pos rfl]
    unfold slices_ContainsFunc_m
    rw [indexFunc_g hs]
    simp only [Option.bind_some, Bool.true_and]
    congr 2
    rw [Bool.eq_iff_iff, decide_eq_true_eq]
    exact fidx_neg offG c
  · rw [decide_eq_false h, if_neg (by decide)]
    rfl

theorem gridMay_eq (W H : Int) {c : List Int} (hs : c.length ≤ 17592186044416) : gameroomref_GridMay_m W H c = some (okG W H c) := by
  unfold gameroomref_GridMay_m gameroomref_within_m okG
  have hd := dim_b W H c
  by_cases h : dimG W H c
  · have h' := h
    obtain ⟨h1, h2, h3, h4, h5⟩ := h'
    have hm := mul_bd' (b := W) (W := H) (by omega) (by omega)
    rw [decide_eq_true h1, decide_eq_true h2, decide_eq_true h3, decide_eq_true h4, decide_eq_true h, w64_of (x := W * H) (by omega), ← h5]
    simp only [Option.bind_some, Bool.and_self, Bool.not_true, Bool.not_false, if_true, Bool.or_false, bne_self_eq_false, Bool.false_eq_true, if_false, Bool.true_and]
    unfold gameroomref_GridMay_J1
    rw [search_loop (l := c) offG (fun _ => Fl.ret false) (Fl.go ()) ?_ ?_ ?_]
    · have hn := fidx_neg offG c
      unfold fidx at hn
      cases hf : c.findIdx? offG with
      | none =>
        rw [hf] at hn
        have : c.any offG = false := by
          rw [Bool.eq_false_iff]
          intro h; have := hn.2 h; simp at this
        rw [this]; rfl
      | some i =>
        rw [hf] at hn
        have : c.any offG = true := hn.1 (by simp)
        rw [this]; rfl
    · intro i x hx hp
      have hb := idx_bd hx
      simp only [gameroomref_GridMay_L1, gameroomref_GridMay_J3]
      rw [if_pos (by simpa using hb.2), asrt_pos hb, geti_some hx]
      simp only [gameroomref_within_m, Option.bind_some]
      rw [if_pos (by rw [← offG_in]; exact hp)]
    · intro i x hx hp
      have hb := idx_bd hx
      simp only [gameroomref_GridMay_L1, gameroomref_GridMay_J3]
      rw [if_pos (by simpa using hb.2), asrt_pos hb, geti_some hx]
      simp only [gameroomref_within_m, Option.bind_some]
      rw [if_neg (by rw [← offG_in, hp]; simp)]
      simp only [gameroomref_GridMay_J4]
      rw [w64_succ (by omega)]
    · simp only [gameroomref_GridMay_L1]
      rw [if_neg (by simp)]
  · rw [decide_eq_false h] at hd ⊢
    simp only [Option.bind_some, Bool.not_not, Bool.false_and]
    by_cases q1 : (decide ((1 : Int) ≤ W) && decide (W ≤ 10)) = true
    · rw [q1] at hd ⊢
      simp only [if_true, Option.bind_some, Bool.not_true, Bool.false_or]
      rw [if_pos]
      rw [Bool.true_and] at hd
      rw [Bool.or_eq_true]
      by_cases q2 : (decide ((1 : Int) ≤ H) && decide (H ≤ 10)) = true
      · right
        rw [q2, Bool.true_and] at hd
        simpa using hd
      · left
        rw [Bool.not_eq_true] at q2
        rw [q2]; rfl
    · rw [Bool.not_eq_true] at q1
      rw [q1]
      simp


theorem okG_dim {W H : Int} {c : List Int} (h : okG W H c = true) : dimG W H c := by
  unfold okG at h
  rw [Bool.and_eq_true] at h
  exact of_decide_eq_true h.1
theorem okG_dm {W H : Int} {c : List Int} (h : okG W H c = true) : Dm W H c := by
  obtain ⟨h1, h2, h3, h4, h5⟩ := okG_dim h
  exact ⟨⟨h1, h2⟩, ⟨h3, h4⟩, h5⟩
theorem okG_in {W H : Int} {c : List Int} (h : okG W H c = true) (i : Nat) (hi : i < c.length) : 0 ≤ geti c i ∧ geti c i ≤ 2 := by
  unfold okG at h
  rw [Bool.and_eq_true, Bool.not_eq_true'] at h
  have hx := List.any_eq_false.1 h.2 (geti c i) (List.mem_of_getElem? (get_geti hi))
  unfold offG at hx
  simp only [Bool.or_eq_true, decide_eq_true_eq, not_or] at hx
  omega

theorem sameInts_r {a b : List Int} (ha : a.length ≤ 17592186044416) : gameroomlaw_sameInts_m a b = some (decide (a = b)) := by
  unfold gameroomlaw_sameInts_m
  by_cases hl : a.length = b.length
  · rw [if_neg (by simp [hl])]
    unfold gameroomlaw_sameInts_J1
    have h := count_loop (step := gameroomlaw_sameInts_L1 a b) (fun (_ : Unit) k => (k : Int)) (fun k _ => ∀ i, i < k → a[i]? = b[i]?) (fun r => gameroomlaw_sameInts_K1 r = some (decide (a = b))) a.length () (fun i hi => by omega) ?_ ?_
    · obtain ⟨r, h1, h2⟩ := h
      have h1' : loop (gameroomlaw_sameInts_L1 a b) 0 = some r := h1
      rw [h1']
      exact h2
    · intro i _ hi hI
      obtain ⟨x, hx⟩ : ∃ x, a[i]? = some x := ⟨_, List.getElem?_eq_getElem hi⟩
      obtain ⟨y, hy⟩ : ∃ y, b[i]? = some y := ⟨_, List.getElem?_eq_getElem (by omega)⟩
      simp only [gameroomlaw_sameInts_L1, gameroomlaw_sameInts_J3]
      rw [if_pos (by simpa using hi), asrt_pos (idx_bd hx), asrt_pos (idx_bd hy), geti_some hx, geti_some hy]
      by_cases hxy : x = y
      · left
        rw [if_neg (by simp [hxy])]
        refine ⟨(), by simp only [gameroomlaw_sameInts_J4]; rw [w64_succ (by omega)]; rfl, fun j hj => ?_⟩
        by_cases hji : j = i
        · subst hji; rw [hx, hy, hxy]
        · exact hI j (by omega)
      · right
        rw [if_pos (by simp [hxy])]
        refine ⟨_, rfl, ?_⟩
        have hne : a ≠ b := fun h => hxy (by rw [h, hy] at hx; exact (Option.some.inj hx).symm)
        simp [gameroomlaw_sameInts_K1, hne]
    · intro _ hI
      refine ⟨Fl.go (), ?_, ?_⟩
      · simp only [gameroomlaw_sameInts_L1]
        rw [if_neg (by simp)]
      · have : a = b := by
          apply List.ext_getElem?
          intro i
          by_cases hi : i < a.length
          · exact hI i hi
          · rw [List.getElem?_eq_none (by omega), List.getElem?_eq_none (by omega)]
        simp [gameroomlaw_sameInts_K1, gameroomlaw_sameInts_J2, this]
  · rw [if_pos (by simp; omega)]
    have : a ≠ b := fun h => hl (by rw [h])
    simp [this]

theorem yx_inj {W y1 x1 y2 x2 : Int} (_hW : 1 ≤ W ∧ W ≤ 10) (h1 : 0 ≤ x1 ∧ x1 < W) (h2 : 0 ≤ x2 ∧ x2 < W) (h : y1 * W + x1 = y2 * W + x2) : y1 = y2 ∧ x1 = x2 := by
  have : y1 = y2 := by
    rcases Int.lt_trichotomy y1 y2 with h3 | h3 | h3
    · have := Int.mul_nonneg (show 0 ≤ y2 - y1 - 1 by omega) (show 0 ≤ W by omega)
      rw [Int.sub_mul, Int.sub_mul] at this
      omega
    · exact h3
    · have := Int.mul_nonneg (show 0 ≤ y1 - y2 - 1 by omega) (show 0 ≤ W by omega)
      rw [Int.sub_mul, Int.sub_mul] at this
      omega
  subst this
  exact ⟨rfl, by omega⟩

/-- Neighbours. -/
def Adj (W : Int) (a b : Nat) : Prop := ((a : Int) % W = (b : Int) % W ∧ ((a : Int) / W - (b : Int) / W = 1 ∨ (a : Int) / W - (b : Int) / W = -1)) ∨ ((a : Int) / W = (b : Int) / W ∧ ((a : Int) % W - (b : Int) % W = 1 ∨ (a : Int) % W - (b : Int) % W = -1))
theorem Adj.symm {W : Int} {a b : Nat} (h : Adj W a b) : Adj W b a := by unfold Adj at h ⊢; omega

/-- Joined through marked places. -/
inductive Reach (adj : Nat → Nat → Prop) (mk : Nat → Prop) (p : Nat) : Nat → Prop
  | base : Reach adj mk p p
  | step {a b : Nat} : Reach adj mk p a → adj a b → mk b → Reach adj mk p b

theorem Reach.trans {adj : Nat → Nat → Prop} {mk : Nat → Prop} {p q b : Nat} (h1 : Reach adj mk p q) (h2 : Reach adj mk q b) : Reach adj mk p b := by
  induction h2 with
  | base => exact h1
  | step _ h3 h4 ih => exact .step ih h3 h4
theorem Reach.mk_of {adj : Nat → Nat → Prop} {mk : Nat → Prop} {p b : Nat} (hp : mk p) (h : Reach adj mk p b) : mk b := by
  cases h with
  | base => exact hp
  | step _ _ h => exact h

section
variable {W H : Int} {c : List Int}

theorem adj_iff (B : Dm W H c) {a b : Nat} (ha : a < c.length) (hb : b < c.length) :
    Adj W a b ↔ (0 < (a : Int) % W ∧ (b : Int) = a - 1) ∨ ((a : Int) % W < W - 1 ∧ (b : Int) = a + 1) ∨ (W ≤ a ∧ (b : Int) = a - W) ∨ ((a : Int) + W < c.length ∧ (b : Int) = a + W) := by
  have hW := B.w
  obtain ⟨x1, y1, e1⟩ := B.xy (p := (a : Int)) (by omega)
  obtain ⟨x2, y2, e2⟩ := B.xy (p := (b : Int)) (by omega)
  unfold Adj
  generalize (a : Int) % W = xa at *
  generalize (a : Int) / W = ya at *
  generalize (b : Int) % W = xb at *
  generalize (b : Int) / W = yb at *
  constructor
  · rintro (⟨h1, h2 | h2⟩ | ⟨h1, h2 | h2⟩)
    · have : ya * W = yb * W + W := by rw [show ya = yb + 1 by omega, Int.add_mul, Int.one_mul]
      have h0 := Int.mul_nonneg y2.1 (show 0 ≤ W by omega)
      omega
    · have : yb * W = ya * W + W := by rw [show yb = ya + 1 by omega, Int.add_mul, Int.one_mul]
      omega
    · subst h1; omega
    · subst h1; omega
  · rintro (⟨h1, h2⟩ | ⟨h1, h2⟩ | ⟨h1, h2⟩ | ⟨h1, h2⟩)
    · obtain ⟨g1, g2⟩ := yx_inj hW (y1 := yb) (x1 := xb) (y2 := ya) (x2 := xa - 1) x2 (by omega) (by omega)
      omega
    · obtain ⟨g1, g2⟩ := yx_inj hW (y1 := yb) (x1 := xb) (y2 := ya) (x2 := xa + 1) x2 (by omega) (by omega)
      omega
    · obtain ⟨g1, g2⟩ := yx_inj hW (y1 := yb) (x1 := xb) (y2 := ya - 1) (x2 := xa) x2 x1 (by rw [Int.sub_mul, Int.one_mul]; omega)
      omega
    · obtain ⟨g1, g2⟩ := yx_inj hW (y1 := yb) (x1 := xb) (y2 := ya + 1) (x2 := xa) x2 x1 (by rw [Int.add_mul, Int.one_mul]; omega)
      omega

theorem near_p (B : Dm W H c) {a : Nat} (ha : a < c.length) : ∃ l, stones_near_m W H c a = some l ∧ l.length ≤ 4 ∧ ∀ q : Int, q ∈ l ↔ ∃ b : Nat, b < c.length ∧ q = b ∧ Adj W a b := by
  have hW := B.w
  have hsm := B.small
  obtain ⟨x1, y1, e1⟩ := B.xy (p := (a : Int)) (by omega)
  have spec : ∀ q : Int, (∃ b : Nat, b < c.length ∧ q = b ∧ Adj W a b) ↔ (0 < (a : Int) % W ∧ q = a - 1) ∨ ((a : Int) % W < W - 1 ∧ q = a + 1) ∨ (W ≤ a ∧ q = a - W) ∨ ((a : Int) + W < c.length ∧ q = a + W) := by
    intro q
    constructor
    · rintro ⟨b, hb, rfl, h⟩
      exact (adj_iff B ha hb).1 h
    · intro h
      have hq : 0 ≤ q ∧ q < c.length := by
        rcases h with ⟨h1, h2⟩ | ⟨h1, h2⟩ | ⟨h1, h2⟩ | ⟨h1, h2⟩
        · have := Int.mul_nonneg y1.1 (show 0 ≤ W by omega)
          omega
        · have := B.idx (x := (a : Int) % W + 1) (y := (a : Int) / W) (by omega) y1
          omega
        · omega
        · omega
      exact ⟨q.toNat, by omega, by omega, (adj_iff B ha (by omega)).2 (by rw [show ((q.toNat : Nat) : Int) = q by omega]; exact h)⟩
  have et : Int.tmod (a : Int) W = (a : Int) % W := Int.tmod_eq_emod_of_nonneg (by omega)
  unfold stones_near_m stones_near_J1 stones_near_J2 stones_near_J3 stones_near_J4
  have hb : ∀ (l : List Int), l.length ≤ 5 → ∀ {α : Type} (x : Option α), asrt ((l.length : Int) + 1 ≤ bigN) x = x := fun l hl {α} x => asrt_pos (by unfold bigN; omega)
  have h0 : ∀ {α : Type} (x : Option α), asrt ((0 : Int) + 1 ≤ bigN) x = x := fun x => asrt_pos (by unfold bigN; omega)
  rw [asrt_pos (by omega), et, w64_of (x := W - 1) (by omega), w64_of (x := (a : Int) - 1) (by omega), w64_of (x := (a : Int) + 1) (by omega), w64_of (x := (a : Int) - W) (by omega), w64_of (x := (a : Int) + W) (by omega)]
  simp only [spec]
  by_cases c1 : 0 < (a : Int) % W <;> by_cases c2 : (a : Int) % W < W - 1 <;> by_cases c3 : W ≤ (a : Int) <;> by_cases c4 : (a : Int) + W < c.length
  all_goals
    simp only [c1, c2, c3, c4, decide_true, decide_false, Bool.false_eq_true, if_true, if_false, List.nil_append, List.cons_append]
    (repeat (first | rw [h0] | rw [hb _ (by simp)] | rw [asrt_pos (by omega)]))
    refine ⟨_, rfl, by simp, fun q => ?_⟩
    simp only [List.mem_cons, List.not_mem_nil, or_false, false_and, true_and, false_or]
end
end Go.Proofs.Ytdjjomghggplpaa
