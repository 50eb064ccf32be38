/-
  OthelloPuts: what may be asked, who is to move, lists that are the same.
-/
import Derived.Test.YtogecbgngnjhgaaQOc
import Derived.Test.YtogecbgngnjhgaaLibT
namespace Go.Proofs.Ytogecbgngnjhgaa
open Go Go.GL

section
variable {W H : Int} {c : List Int} {who : Int}

noncomputable def nextW (W H : Int) (c : List Int) (who : Int) : Int := if plcs W H c who c.length ≠ [] then who else if plcs W H c (3 - who) c.length ≠ [] then 3 - who else 0

theorem mover_p (B : Dm W H c) (hw : who = 1 ∨ who = 2) : othello_mover_m W H c who = some (nextW W H c who) := by
  unfold othello_mover_m nextW
  have s0 : othello_mover_L1 W H c who 0 = if plcs W H c who c.length ≠ [] then some (.done (.ret who)) else some (.next 1) := by
    simp only [othello_mover_L1]
    rw [if_pos (by decide)]
    unfold othello_mover_J2 othello_mover_J3
    rw [asrt_pos (by decide), show geti [who, w64 (3 - who)] 0 = who from rfl, places_p B hw, Option.bind_some]
    by_cases h : plcs W H c who c.length = []
    · rw [h, if_neg (by simp), if_neg (by simp), w64_of (by omega)]; rfl
    · have := List.length_pos_iff.2 h
      rw [if_pos (decide_eq_true (by omega)), if_pos h]
  have s1 : othello_mover_L1 W H c who 1 = if plcs W H c (3 - who) c.length ≠ [] then some (.done (.ret (3 - who))) else some (.next 2) := by
    simp only [othello_mover_L1]
    rw [if_pos (by decide)]
    unfold othello_mover_J2 othello_mover_J3
    rw [asrt_pos (by decide), show geti [who, w64 (3 - who)] 1 = w64 (3 - who) from rfl, w64_of (x := 3 - who) (by omega), places_p B (who := 3 - who) (by omega), Option.bind_some]
    by_cases h : plcs W H c (3 - who) c.length = []
    · rw [h, if_neg (by simp), if_neg (by simp), w64_of (by omega)]; rfl
    · have := List.length_pos_iff.2 h
      rw [if_pos (decide_eq_true (by omega)), if_pos h]
  have s2 : othello_mover_L1 W H c who 2 = some (.done (.go ())) := by
    simp only [othello_mover_L1]
    rw [if_neg (by decide)]
  by_cases h0 : plcs W H c who c.length ≠ []
  · rw [if_pos h0] at s0 ⊢
    rw [loop_done s0]; rfl
  · rw [if_neg h0] at s0 ⊢
    by_cases h1 : plcs W H c (3 - who) c.length ≠ []
    · rw [if_pos h1] at s1 ⊢
      rw [loop_next' s0 (loop_done s1)]; rfl
    · rw [if_neg h1] at s1 ⊢
      rw [loop_next' s0 (loop_next' s1 (loop_done s2))]; rfl


end

def offG (x : Int) : Bool := decide (x < 0) || decide ((2 : Int) < x)
theorem offG_in (x : Int) : offG x = !(decide (0 ≤ x) && decide (x ≤ 2)) := by
  unfold offG
  by_cases h1 : 0 ≤ x <;> by_cases h2 : x ≤ 2 <;> simp [h1, h2, Int.not_lt.2] <;> omega

theorem indexFunc_g {s : List Int} (hs : s.length ≤ 17592186044416) : slices_IndexFunc_m s = some (fidx offG s) := by
  unfold slices_IndexFunc_m
  rw [search_loop (l := s) offG (fun i => Fl.ret (i : Int)) (Fl.go ()) ?_ ?_ ?_]
  · unfold fidx
    cases s.findIdx? offG <;> rfl
  · intro i x hx hp
    have hb := idx_bd hx
    simp only [slices_IndexFunc_L1, slices_IndexFunc_J2]
    rw [if_pos (by simpa using hb.2), asrt_pos hb, geti_some hx]
    simp only [rows_May_1_m, Option.bind_some]
    exact if_pos hp
  · intro i x hx hp
    have hb := idx_bd hx
    simp only [slices_IndexFunc_L1, slices_IndexFunc_J2]
    rw [if_pos (by simpa using hb.2), asrt_pos hb, geti_some hx]
    simp only [rows_May_1_m, Option.bind_some]
    rw [if_neg (by unfold offG at hp; rw [hp]; simp)]
    simp only [slices_IndexFunc_J3]
    rw [w64_succ (by omega)]
  · simp only [slices_IndexFunc_L1]
    rw [if_neg (by simp)]

def dimG (W H : Int) (c : List Int) : Prop := 1 ≤ W ∧ W ≤ 10 ∧ 1 ≤ H ∧ H ≤ 10 ∧ (c.length : Int) = W * H
instance (W H : Int) (c : List Int) : Decidable (dimG W H c) := by unfold dimG; infer_instance
def okG (W H : Int) (c : List Int) : Bool := decide (dimG W H c) && !c.any offG

theorem dim_b (W H : Int) (c : List Int) : (((((decide ((1 : Int) ≤ W)) && (decide (W ≤ 10))) && (decide ((1 : Int) ≤ H))) && (decide (H ≤ 10))) && ((c.length : Int) == (w64 (W * H)))) = decide (dimG W H c) := by
  unfold dimG
  by_cases h : 1 ≤ W ∧ W ≤ 10 ∧ 1 ≤ H ∧ H ≤ 10
  · have hm := mul_bd' (b := W) (W := H) (by omega) (by omega)
    rw [w64_of (by omega), Bool.eq_iff_iff]
    simp only [Bool.and_eq_true, decide_eq_true_eq, beq_iff_eq, and_assoc]
    exact decide_eq_true_iff.symm
  · rw [decide_eq_false (p := 1 ≤ W ∧ W ≤ 10 ∧ 1 ≤ H ∧ H ≤ 10 ∧ (c.length : Int) = W * H) (fun h2 => h ⟨h2.1, h2.2.1, h2.2.2.1, h2.2.2.2.1⟩)]
    rw [Bool.and_eq_false_iff]
    left
    simp only [← Bool.decide_and, decide_eq_false_iff_not]
    omega

theorem may_p (W H : Int) {c : List Int} (hs : c.length ≤ 17592186044416) : rows_May_m W H c = some (okG W H c) := by
  unfold rows_May_m
  rw [dim_b]
  unfold okG
  by_cases h : dimG W H c
  · rw [decide_eq_true h, if_pos rfl]
    unfold slices_ContainsFunc_m
    rw [indexFunc_g hs]
    simp only [Option.bind_some, Bool.true_and]
    congr 2
    rw [Bool.eq_iff_iff, decide_eq_true_eq]
    exact fidx_neg offG c
  · rw [decide_eq_false h, if_neg (by decide)]
    rfl

theorem gridMay_eq (W H : Int) {c : List Int} (hs : c.length ≤ 17592186044416) : gameroomref_GridMay_m W H c = some (okG W H c) := by
  unfold gameroomref_GridMay_m gameroomref_within_m okG
  have hd := dim_b W H c
  by_cases h : dimG W H c
  · have h' := h
    obtain ⟨h1, h2, h3, h4, h5⟩ := h'
    have hm := mul_bd' (b := W) (W := H) (by omega) (by omega)
    rw [decide_eq_true h1, decide_eq_true h2, decide_eq_true h3, decide_eq_true h4, decide_eq_true h, w64_of (x := W * H) (by omega), ← h5]
    simp only [Option.bind_some, Bool.and_self, Bool.not_true, Bool.not_false, if_true, Bool.or_false, bne_self_eq_false, Bool.false_eq_true, if_false, Bool.true_and]
    unfold gameroomref_GridMay_J1
    rw [search_loop (l := c) offG (fun _ => Fl.ret false) (Fl.go ()) ?_ ?_ ?_]
    · have hn := fidx_neg offG c
      unfold fidx at hn
      cases hf : c.findIdx? offG with
      | none =>
        rw [hf] at hn
        have : c.any offG = false := by
          rw [Bool.eq_false_iff]
          intro h; have := hn.2 h; simp at this
        rw [this]; rfl
      | some i =>
        rw [hf] at hn
        have : c.any offG = true := hn.1 (by simp)
        rw [this]; rfl
    · intro i x hx hp
      have hb := idx_bd hx
      simp only [gameroomref_GridMay_L1, gameroomref_GridMay_J3]
      rw [if_pos (by simpa using hb.2), asrt_pos hb, geti_some hx]
      simp only [gameroomref_within_m, Option.bind_some]
      rw [if_pos (by rw [← offG_in]; exact hp)]
    · intro i x hx hp
      have hb := idx_bd hx
      simp only [gameroomref_GridMay_L1, gameroomref_GridMay_J3]
      rw [if_pos (by simpa using hb.2), asrt_pos hb, geti_some hx]
      simp only [gameroomref_within_m, Option.bind_some]
      rw [if_neg (by rw [← offG_in, hp]; simp)]
      simp only [gameroomref_GridMay_J4]
      rw [w64_succ (by omega)]
    · simp only [gameroomref_GridMay_L1]
      rw [if_neg (by simp)]
  · rw [decide_eq_false h] at hd ⊢
    simp only [Option.bind_some, Bool.not_not, Bool.false_and]
    by_cases q1 : (decide ((1 : Int) ≤ W) && decide (W ≤ 10)) = true
    · rw [q1] at hd ⊢
      simp only [if_true, Option.bind_some, Bool.not_true, Bool.false_or]
      rw [if_pos]
      rw [Bool.true_and] at hd
      rw [Bool.or_eq_true]
      by_cases q2 : (decide ((1 : Int) ≤ H) && decide (H ≤ 10)) = true
      · right
        rw [q2, Bool.true_and] at hd
        simpa using hd
      · left
        rw [Bool.not_eq_true] at q2
        rw [q2]; rfl
    · rw [Bool.not_eq_true] at q1
      rw [q1]
      simp


def okO (W H : Int) (c : List Int) : Bool := okG W H c && decide (4 ≤ W ∧ W ≤ 8 ∧ W % 2 = 0) && decide (4 ≤ H ∧ H ≤ 8 ∧ H % 2 = 0)

theorem okG_dim {W H : Int} {c : List Int} (h : okG W H c = true) : dimG W H c := by
  unfold okG at h
  rw [Bool.and_eq_true] at h
  exact of_decide_eq_true h.1

theorem odd_eq {n : Int} (h : 1 ≤ n ∧ n ≤ 10) : othello_odd_m n = some (!decide (4 ≤ n ∧ n ≤ 8 ∧ n % 2 = 0)) := by
  unfold othello_odd_m
  obtain ⟨q, rfl⟩ : ∃ q : Nat, n = q := ⟨n.toNat, by omega⟩
  rw [band1 q (by omega)]
  congr 1
  rw [Bool.eq_iff_iff]
  simp only [Bool.or_eq_true, decide_eq_true_eq, beq_iff_eq, Bool.not_eq_true', decide_eq_false_iff_not]
  omega

theorem check_o (W H : Int) {c : List Int} (hs : c.length ≤ 17592186044416) (who : Int) : othello_check_m W H c who = some (if okO W H c then (if who = 1 ∨ who = 2 then 0 else 4) else 12) := by
  unfold othello_check_m okO
  rw [may_p W H hs]
  have tail : ∀ b : Bool, (if b = true then (some 12 : Option Int) else if (who != 1 && who != 2) = true then some 4 else othello_check_J1) = some (if (!b) = true then (if who = 1 ∨ who = 2 then 0 else 4) else 12) := by
    intro b
    cases b with
    | true => rfl
    | false =>
      simp only [Bool.false_eq_true, if_false, Bool.not_false, if_true]
      by_cases h : who = 1 ∨ who = 2
      · rw [if_pos h, if_neg (by simp; omega)]; rfl
      · rw [if_neg h, if_pos (by simp; omega)]
  by_cases h : okG W H c = true
  · obtain ⟨d1, d2, d3, d4, _⟩ := okG_dim h
    rw [h]
    simp only [Option.bind_some, Bool.not_true, if_true, odd_eq ⟨d1, d2⟩, odd_eq ⟨d3, d4⟩, Bool.false_or, Bool.true_and, Bool.not_not]
    by_cases hw : (decide (4 ≤ W ∧ W ≤ 8 ∧ W % 2 = 0)) = true
    · rw [hw]
      simp only [Bool.not_true, if_true, Option.bind_some, Bool.false_or, Bool.true_and]
      rw [tail]
      simp only [Bool.not_not]
    · rw [Bool.not_eq_true] at hw
      rw [hw]
      simp only [Bool.not_false, Bool.false_eq_true, if_false, Option.bind_some, Bool.true_or, Bool.false_and]
      rfl
  · rw [Bool.not_eq_true] at h
    rw [h]
    rfl

theorem may_o (W H : Int) {c : List Int} (hs : c.length ≤ 17592186044416) : gameroomref_OthelloMay_m W H c = some (okO W H c) := by
  unfold gameroomref_OthelloMay_m okO
  rw [gridMay_eq W H hs]
  by_cases h : okG W H c = true
  · obtain ⟨d1, d2, d3, d4, _⟩ := okG_dim h
    rw [h]
    simp only [Option.bind_some, if_true, gameroomref_within_m, Bool.true_and]
    rw [Int.tmod_eq_emod_of_nonneg (by omega), Int.tmod_eq_emod_of_nonneg (by omega)]
    by_cases hw : (decide (4 ≤ W) && decide (W ≤ 8)) = true
    · rw [hw]
      simp only [if_true, Option.bind_some, Bool.true_and]
      congr 1
      rw [Bool.eq_iff_iff]
      simp only [Bool.and_eq_true, decide_eq_true_eq, beq_iff_eq] at hw ⊢
      omega
    · rw [Bool.not_eq_true] at hw
      rw [hw]
      simp only [Bool.false_eq_true, if_false, Option.bind_some, Bool.false_and]
      congr 1
      symm
      rw [Bool.and_eq_false_iff]
      left
      rw [Bool.and_eq_false_iff, decide_eq_false_iff_not, decide_eq_false_iff_not] at hw
      rw [decide_eq_false_iff_not]
      omega
  · rw [Bool.not_eq_true] at h
    rw [h]
    rfl

theorem sameInts_eq {a b : List Int} (ha : a.length ≤ 17592186044416) : gameroomlaw_sameInts_m a b = some (decide (a = b)) := by
  unfold gameroomlaw_sameInts_m
  by_cases hl : a.length = b.length
  · rw [if_neg (by simp [hl])]
    unfold gameroomlaw_sameInts_J1
    have h := count_loop (step := gameroomlaw_sameInts_L1 a b) (fun (_ : Unit) k => (k : Int)) (fun k _ => ∀ i, i < k → a[i]? = b[i]?) (fun r => gameroomlaw_sameInts_K1 r = some (decide (a = b))) a.length () (fun i hi => by omega) ?_ ?_
    · obtain ⟨r, h1, h2⟩ := h
      have h1' : loop (gameroomlaw_sameInts_L1 a b) 0 = some r := h1
      rw [h1']
      exact h2
    · intro i _ hi hI
      obtain ⟨x, hx⟩ : ∃ x, a[i]? = some x := ⟨_, List.getElem?_eq_getElem hi⟩
      obtain ⟨y, hy⟩ : ∃ y, b[i]? = some y := ⟨_, List.getElem?_eq_getElem (by omega)⟩
      simp only [gameroomlaw_sameInts_L1, gameroomlaw_sameInts_J3]
      rw [if_pos (by simpa using hi), asrt_pos (idx_bd hx), asrt_pos (idx_bd hy), geti_some hx, geti_some hy]
      by_cases hxy : x = y
      · left
        rw [if_neg (by simp [hxy])]
        refine ⟨(), by simp only [gameroomlaw_sameInts_J4]; rw [w64_succ (by omega)]; rfl, fun j hj => ?_⟩
        by_cases hji : j = i
        · subst hji; rw [hx, hy, hxy]
        · exact hI j (by omega)
      · right
        rw [if_pos (by simp [hxy])]
        refine ⟨_, rfl, ?_⟩
        have hne : a ≠ b := fun h => hxy (by rw [h, hy] at hx; exact (Option.some.inj hx).symm)
        simp [gameroomlaw_sameInts_K1, hne]
    · intro _ hI
      refine ⟨Fl.go (), ?_, ?_⟩
      · simp only [gameroomlaw_sameInts_L1]
        rw [if_neg (by simp)]
      · have : a = b := by
          apply List.ext_getElem?
          intro i
          by_cases hi : i < a.length
          · exact hI i hi
          · rw [List.getElem?_eq_none (by omega), List.getElem?_eq_none (by omega)]
        simp [gameroomlaw_sameInts_K1, gameroomlaw_sameInts_J2, this]
  · rw [if_pos (by simp; omega)]
    have : a ≠ b := fun h => hl (by rw [h])
    simp [this]
theorem sameInts_r {a b : List Int} (ha : a.length ≤ 17592186044416) : gameroomref_sameInts_m a b = some (decide (a = b)) := by
  unfold gameroomref_sameInts_m
  by_cases hl : a.length = b.length
  · rw [if_neg (by simp [hl])]
    unfold gameroomref_sameInts_J1
    have h := count_loop (step := gameroomref_sameInts_L1 a b) (fun (_ : Unit) k => (k : Int)) (fun k _ => ∀ i, i < k → a[i]? = b[i]?) (fun r => gameroomref_sameInts_K1 r = some (decide (a = b))) a.length () (fun i hi => by omega) ?_ ?_
    · obtain ⟨r, h1, h2⟩ := h
      have h1' : loop (gameroomref_sameInts_L1 a b) 0 = some r := h1
      rw [h1']
      exact h2
    · intro i _ hi hI
      obtain ⟨x, hx⟩ : ∃ x, a[i]? = some x := ⟨_, List.getElem?_eq_getElem hi⟩
      obtain ⟨y, hy⟩ : ∃ y, b[i]? = some y := ⟨_, List.getElem?_eq_getElem (by omega)⟩
      simp only [gameroomref_sameInts_L1, gameroomref_sameInts_J3]
      rw [if_pos (by simpa using hi), asrt_pos (idx_bd hx), asrt_pos (idx_bd hy), geti_some hx, geti_some hy]
      by_cases hxy : x = y
      · left
        rw [if_neg (by simp [hxy])]
        refine ⟨(), by simp only [gameroomref_sameInts_J4]; rw [w64_succ (by omega)]; rfl, fun j hj => ?_⟩
        by_cases hji : j = i
        · subst hji; rw [hx, hy, hxy]
        · exact hI j (by omega)
      · right
        rw [if_pos (by simp [hxy])]
        refine ⟨_, rfl, ?_⟩
        have hne : a ≠ b := fun h => hxy (by rw [h, hy] at hx; exact (Option.some.inj hx).symm)
        simp [gameroomref_sameInts_K1, hne]
    · intro _ hI
      refine ⟨Fl.go (), ?_, ?_⟩
      · simp only [gameroomref_sameInts_L1]
        rw [if_neg (by simp)]
      · have : a = b := by
          apply List.ext_getElem?
          intro i
          by_cases hi : i < a.length
          · exact hI i hi
          · rw [List.getElem?_eq_none (by omega), List.getElem?_eq_none (by omega)]
        simp [gameroomref_sameInts_K1, gameroomref_sameInts_J2, this]
  · rw [if_pos (by simp; omega)]
    have : a ≠ b := fun h => hl (by rw [h])
    simp [this]

end Go.Proofs.Ytogecbgngnjhgaa
