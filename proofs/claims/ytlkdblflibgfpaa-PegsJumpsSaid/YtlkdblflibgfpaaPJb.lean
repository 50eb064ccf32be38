/-
  Grids: what may be.
-/
import Derived.Test.YtlkdblflibgfpaaNPJ
import Derived.Test.YtlkdblflibgfpaaLibY
import Derived.Test.YtlkdblflibgfpaaLibE
import Derived.Test.YtlkdblflibgfpaaLibT
namespace Go.Proofs.Ytlkdblflibgfpaa
open Go Go.GL

def offG (x : Int) : Bool := decide (x < 0) || decide ((2 : Int) < x)
theorem offG_in (x : Int) : offG x = !(decide (0 ≤ x) && decide (x ≤ 2)) := by
  unfold offG
  by_cases h1 : 0 ≤ x <;> by_cases h2 : x ≤ 2 <;> simp [h1, h2, Int.not_lt.2] <;> omega

theorem indexFunc_g {s : List Int} (hs : s.length ≤ 17592186044416) : slices_IndexFunc_m s = some (fidx offG s) := by
  unfold slices_IndexFunc_m
  rw [search_loop (l := s) offG (fun i => Fl.ret (i : Int)) (Fl.go ()) ?_ ?_ ?_]
  · unfold fidx
    cases s.findIdx? offG <;> rfl
  · intro i x hx hp
    have hb := idx_bd hx
    simp only [slices_IndexFunc_L1, slices_IndexFunc_J2]
    rw [if_pos (by simpa using hb.2), asrt_pos hb, geti_some hx]
    simp only [rows_May_1_m, Option.bind_some]
    exact if_pos hp
  · intro i x hx hp
    have hb := idx_bd hx
    simp only [slices_IndexFunc_L1, slices_IndexFunc_J2]
    rw [if_pos (by simpa using hb.2), asrt_pos hb, geti_some hx]
    simp only [rows_May_1_m, Option.bind_some]
    rw [if_neg (by unfold offG at hp; rw [hp]; simp)]
    simp only [slices_IndexFunc_J3]
    rw [w64_succ (by omega)]
  · simp only [slices_IndexFunc_L1]
    rw [if_neg (by simp)]

def dimG (W H : Int) (c : List Int) : Prop := 1 ≤ W ∧ W ≤ 10 ∧ 1 ≤ H ∧ H ≤ 10 ∧ (c.length : Int) = W * H
instance (W H : Int) (c : List Int) : Decidable (dimG W H c) := by unfold dimG; infer_instance
def okG (W H : Int) (c : List Int) : Bool := decide (dimG W H c) && !c.any offG

theorem dim_b (W H : Int) (c : List Int) : (((((decide ((1 : Int) ≤ W)) && (decide (W ≤ 10))) && (decide ((1 : Int) ≤ H))) && (decide (H ≤ 10))) && ((c.length : Int) == (w64 (W * H)))) = decide (dimG W H c) := by
  unfold dimG
  by_cases h : 1 ≤ W ∧ W ≤ 10 ∧ 1 ≤ H ∧ H ≤ 10
  · have hm := mul_bd' (b := W) (W := H) (by omega) (by omega)
    rw [w64_of (by omega), Bool.eq_iff_iff]
    simp only [Bool.and_eq_true, decide_eq_true_eq, beq_iff_eq, and_assoc]
    exact decide_eq_true_iff.symm
  · rw [decide_eq_false (p := 1 ≤ W ∧ W ≤ 10 ∧ 1 ≤ H ∧ H ≤ 10 ∧ (c.length : Int) = W * H) (fun h2 => h ⟨h2.1, h2.2.1, h2.2.2.1, h2.2.2.2.1⟩)]
    rw [Bool.and_eq_false_iff]
    left
    simp only [← Bool.decide_and, decide_eq_false_iff_not]
    omega

theorem may_p (W H : Int) {c : List Int} (hs : c.length ≤ 17592186044416) : rows_May_m W H c = some (okG W H c) := by
  unfold rows_May_m
  rw [dim_b]
  unfold okG
  by_cases h : dimG W H c
  · rw [decide_eq_true h, if_pos rfl]
    unfold slices_ContainsFunc_m
    rw [indexFunc_g hs]
    simp only [Option.bind_some, Bool.true_and]
    congr 2
    rw [Bool.eq_iff_iff, decide_eq_true_eq]
    exact fidx_neg offG c
  · rw [decide_eq_false h, if_neg (by decide)]
    rfl

theorem gridMay_eq (W H : Int) {c : List Int} (hs : c.length ≤ 17592186044416) : gameroomref_GridMay_m W H c = some (okG W H c) := by
  unfold gameroomref_GridMay_m gameroomref_within_m okG
  have hd := dim_b W H c
  by_cases h : dimG W H c
  · have h' := h
    obtain ⟨h1, h2, h3, h4, h5⟩ := h'
    have hm := mul_bd' (b := W) (W := H) (by omega) (by omega)
    rw [decide_eq_true h1, decide_eq_true h2, decide_eq_true h3, decide_eq_true h4, decide_eq_true h, w64_of (x := W * H) (by omega), ← h5]
    simp only [Option.bind_some, Bool.and_self, Bool.not_true, Bool.not_false, if_true, Bool.or_false, bne_self_eq_false, Bool.false_eq_true, if_false, Bool.true_and]
    unfold gameroomref_GridMay_J1
    rw [search_loop (l := c) offG (fun _ => Fl.ret false) (Fl.go ()) ?_ ?_ ?_]
    · have hn := fidx_neg offG c
      unfold fidx at hn
      cases hf : c.findIdx? offG with
      | none =>
        rw [hf] at hn
        have : c.any offG = false := by
          rw [Bool.eq_false_iff]
          intro h; have := hn.2 h; simp at this
        rw [this]; rfl
      | some i =>
        rw [hf] at hn
        have : c.any offG = true := hn.1 (by simp)
        rw [this]; rfl
    · intro i x hx hp
      have hb := idx_bd hx
      simp only [gameroomref_GridMay_L1, gameroomref_GridMay_J3]
      rw [if_pos (by simpa using hb.2), asrt_pos hb, geti_some hx]
      simp only [gameroomref_within_m, Option.bind_some]
      rw [if_pos (by rw [← offG_in]; exact hp)]
    · intro i x hx hp
      have hb := idx_bd hx
      simp only [gameroomref_GridMay_L1, gameroomref_GridMay_J3]
      rw [if_pos (by simpa using hb.2), asrt_pos hb, geti_some hx]
      simp only [gameroomref_within_m, Option.bind_some]
      rw [if_neg (by rw [← offG_in, hp]; simp)]
      simp only [gameroomref_GridMay_J4]
      rw [w64_succ (by omega)]
    · simp only [gameroomref_GridMay_L1]
      rw [if_neg (by simp)]
  · rw [decide_eq_false h] at hd ⊢
    simp only [Option.bind_some, Bool.not_not, Bool.false_and]
    by_cases q1 : (decide ((1 : Int) ≤ W) && decide (W ≤ 10)) = true
    · rw [q1] at hd ⊢
      simp only [if_true, Option.bind_some, Bool.not_true, Bool.false_or]
      rw [if_pos]
      rw [Bool.true_and] at hd
      rw [Bool.or_eq_true]
      by_cases q2 : (decide ((1 : Int) ≤ H) && decide (H ≤ 10)) = true
      · right
        rw [q2, Bool.true_and] at hd
        simpa using hd
      · left
        rw [Bool.not_eq_true] at q2
        rw [q2]; rfl
    · rw [Bool.not_eq_true] at q1
      rw [q1]
      simp


theorem okG_dim {W H : Int} {c : List Int} (h : okG W H c = true) : dimG W H c := by
  unfold okG at h
  rw [Bool.and_eq_true] at h
  exact of_decide_eq_true h.1
theorem okG_dm {W H : Int} {c : List Int} (h : okG W H c = true) : Dm W H c := by
  obtain ⟨h1, h2, h3, h4, h5⟩ := okG_dim h
  exact ⟨⟨h1, h2⟩, ⟨h3, h4⟩, h5⟩
theorem okG_in {W H : Int} {c : List Int} (h : okG W H c = true) (i : Nat) (hi : i < c.length) : 0 ≤ geti c i ∧ geti c i ≤ 2 := by
  unfold okG at h
  rw [Bool.and_eq_true, Bool.not_eq_true'] at h
  have hx := List.any_eq_false.1 h.2 (geti c i) (List.mem_of_getElem? (get_geti hi))
  unfold offG at hx
  simp only [Bool.or_eq_true, decide_eq_true_eq, not_or] at hx
  omega

end Go.Proofs.Ytlkdblflibgfpaa
