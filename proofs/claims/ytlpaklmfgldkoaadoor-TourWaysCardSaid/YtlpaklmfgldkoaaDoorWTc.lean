/-
  Tours: how far each place is: the queue's end.
-/
import Derived.Test.YtlpaklmfgldkoaaDoorWTb
namespace Go.Proofs.YtlpaklmfgldkoaaDoor
open Go Go.GL

section
variable {w h N s : Nat}
theorem knb_in {a x : Nat} (hx : x < N) : (x : Int) ∈ knb w N a ↔ stepB w a x = true := by
  rw [knb_mem]
  constructor
  · rintro ⟨b, _, e, h⟩
    have : x = b := by omega
    rw [this]; exact h
  · exact fun h => ⟨x, hx, rfl, h⟩

open Classical in
structure OutI (w N s : Nat) (f q : List Int) (k : Nat) (P : List Nat) (A B : List Int) : Prop where
  q_ : q = A ++ B
  len : f.length = N
  val : ∀ x, x < N → geti f (x : Int) = if 0 ≤ Fr w N s k x then Fr w N s k x else if ∃ a, a ∈ P ∧ stepB w a x = true then ((k + 1 : Nat) : Int) else -1
  lev : ∀ x, x < N → (Fr w N s k x = (k : Int) ↔ x ∈ P ∨ (x : Int) ∈ A)
  pn : ∀ a ∈ P, a < N
  els : ∀ y ∈ A ++ B, ∃ x : Nat, x < N ∧ y = (x : Int)
  mem : ∀ x, x < N → ((x : Int) ∈ B ↔ Fr w N s k x < 0 ∧ ∃ a, a ∈ P ∧ stepB w a x = true)
  cnt : k + 1 + neg f + B.length ≤ N
  small : A.length + B.length + neg f ≤ N

theorem OutI.next {f q B : List Int} {k : Nat} {P : List Nat} (h : OutI w N s f q k P [] B) : ∀ x, x < N → Fr w N s (k + 1) x = geti f (x : Int) := by
  intro x hx
  rw [h.val x hx]
  simp only [Fr]
  have e : (∃ a, a < N ∧ Fr w N s k a = (k : Int) ∧ stepB w a x = true) ↔ ∃ a, a ∈ P ∧ stepB w a x = true := by
    constructor
    · rintro ⟨a, h1, h2, h3⟩
      rcases (h.lev a h1).1 h2 with q | q
      · exact ⟨a, q, h3⟩
      · simp at q
    · rintro ⟨a, h1, h3⟩
      exact ⟨a, h.pn a h1, (h.lev a (h.pn a h1)).2 (.inl h1), h3⟩
  by_cases q : ∃ a, a ∈ P ∧ stepB w a x = true
  · rw [if_pos q, if_pos (e.2 q)]
  · rw [if_neg q, if_neg (fun r => q (e.1 r))]

theorem OutI.shift {f q B : List Int} {k : Nat} {P : List Nat} (h : OutI w N s f q k P [] B) (hB : B ≠ []) : OutI w N s f q (k + 1) [] B [] := by
  have hn := h.next
  have hb : 0 < B.length := List.length_pos_iff.2 hB
  have hc := h.cnt
  have hs := h.small
  simp only [List.length_nil] at hc hs
  refine ⟨by rw [h.q_]; simp, h.len, fun x hx => ?_, fun x hx => ?_, by simp, by simpa using h.els, fun x hx => by simp, by simp only [List.length_nil]; omega, by simp only [List.length_nil]; omega⟩
  · have hbd := Fr_bd (w := w) (N := N) (s := s) (k + 1) x
    rw [hn x hx] at hbd ⊢
    by_cases q : 0 ≤ geti f (x : Int)
    · rw [if_pos q]
    · rw [if_neg q, if_neg (by simp)]; omega
  · rw [hn x hx, h.val x hx, h.mem x hx]
    have hbd := Fr_bd (w := w) (N := N) (s := s) k x
    by_cases q : 0 ≤ Fr w N s k x
    · rw [if_pos q]
      constructor
      · intro r; omega
      · rintro (r | r)
        · simp at r
        · omega
    · rw [if_neg q]
      by_cases q2 : ∃ a, a ∈ P ∧ stepB w a x = true
      · rw [if_pos q2]
        exact ⟨fun _ => .inr ⟨by omega, q2⟩, fun _ => rfl⟩
      · rw [if_neg q2]
        constructor
        · intro r; omega
        · rintro (r | r)
          · simp at r
          · exact absurd r.2 q2

theorem cut1 (a : Int) (l : List Int) : cut (a :: l) 1 ((a :: l).length : Int) = l := by
  unfold cut
  simp

theorem OutI.step {f q : List Int} (hw : 1 ≤ w ∧ w ≤ 8) (hh : 1 ≤ h ∧ h ≤ 8) {r2 : List Int} (hr2 : r2.length = w * h) {k : Nat} {P : List Nat} {y : Int} {A B : List Int} (hI : OutI w (w * h) s f q k P (y :: A) B) :
    ∃ f1 q1 k1 P1 A1 B1, tour_Far_L1 (field w h, 0) r2 (f, q) = some (.next (f1, q1)) ∧ OutI w (w * h) s f1 q1 k1 P1 A1 B1 ∧ 2 * neg f1 + q1.length < 2 * neg f + q.length := by
  have hN := wh64 hw hh
  obtain ⟨a, ha, rfl⟩ := hI.els y (by simp)
  have hc := hI.cnt
  have hs := hI.small
  simp only [List.length_cons] at hs
  have hq := hI.q_
  have hql : q.length = A.length + B.length + 1 := by rw [hq]; simp only [List.length_append, List.length_cons]; omega
  have hFa : Fr w (w * h) s k a = (k : Int) := (hI.lev a ha).2 (.inr (by simp))
  have hfa : geti f (a : Int) = (k : Int) := by rw [hI.val a ha, if_pos (by omega), hFa]
  have hqa : geti q 0 = (a : Int) := by rw [hq]; rfl
  obtain ⟨f1, new, e, hi⟩ := inner_f (f0 := f) (q0 := q) hw hh ha hr2 hI.len (k := k) (q' := A ++ B) (by rw [hq]; rfl) (by omega) hfa (by omega) (fun x hx => by
    have hbd := Fr_bd (w := w) (N := w * h) (s := s) k x
    rw [hI.val x hx]
    split
    · omega
    · split <;> omega)
  have hic := hi.cnt
  refine ⟨f1, A ++ (B ++ new), k, P ++ [a], A, B ++ new, ?_, ⟨rfl, hi.len, fun x hx => ?_, fun x hx => ?_, ?_, ?_, fun x hx => ?_, ?_, ?_⟩, ?_⟩
  · simp only [tour_Far_L1]
    rw [if_pos (decide_eq_true (by omega))]
    unfold tour_Far_J3
    rw [hqa, asrt_pos (by omega), field_len, asrt_pos (by omega), e, Option.bind_some]
    simp only [tour_Far_K2]
    unfold tour_Far_J4
    have hq2 : q ++ new = (a : Int) :: (A ++ (B ++ new)) := by rw [hq]; simp
    rw [hq2, asrt_pos (by simp; omega), cut1]
  · have h1 := hi.val x hx
    have h2 := hI.val x hx
    rw [List.take_length] at h1
    have hbd := Fr_bd (w := w) (N := w * h) (s := s) k x
    by_cases c1 : 0 ≤ Fr w (w * h) s k x
    · rw [if_pos c1] at h2 ⊢
      rw [h1, h2, if_pos c1]
    · rw [if_neg c1] at h2 ⊢
      by_cases c2 : ∃ a, a ∈ P ∧ stepB w a x = true
      · rw [if_pos c2] at h2
        rw [h1, h2, if_pos (by omega), if_pos]
        obtain ⟨a', g1, g2⟩ := c2
        exact ⟨a', List.mem_append_left _ g1, g2⟩
      · rw [if_neg c2] at h2
        rw [h1, h2, if_neg (by omega)]
        by_cases c3 : stepB w a x = true
        · rw [if_pos ((knb_in hx).2 c3), if_pos ⟨a, by simp, c3⟩]
        · rw [if_neg (fun r => c3 ((knb_in hx).1 r)), if_neg]
          rintro ⟨a', g1, g2⟩
          rcases List.mem_append.1 g1 with g1 | g1
          · exact c2 ⟨a', g1, g2⟩
          · rw [List.mem_singleton] at g1
            rw [g1] at g2
            exact c3 g2
  · rw [hI.lev x hx]
    simp only [List.mem_append, List.not_mem_nil, or_false, List.mem_cons, Int.natCast_inj, or_assoc]
  · intro a' h'
    rcases List.mem_append.1 h' with h' | h'
    · exact hI.pn a' h'
    · rw [List.mem_singleton] at h'
      rw [h']; exact ha
  · intro y hy
    rw [← List.append_assoc] at hy
    rcases List.mem_append.1 hy with hy | hy
    · exact hI.els y (List.mem_cons_of_mem _ hy)
    · exact hi.els y hy
  · have h3 := hi.mem x hx
    have h2 := hI.val x hx
    have h4 := hI.mem x hx
    rw [List.take_length, knb_in hx] at h3
    have hbd := Fr_bd (w := w) (N := w * h) (s := s) k x
    rw [List.mem_append, h3, h4]
    constructor
    · rintro (⟨g1, a', g2, g3⟩ | ⟨g1, g2⟩)
      · exact ⟨g1, a', List.mem_append_left _ g2, g3⟩
      · refine ⟨?_, a, by simp, g2⟩
        rw [h2] at g1
        by_cases c1 : 0 ≤ Fr w (w * h) s k x
        · rw [if_pos c1] at g1; exact g1
        · omega
    · rintro ⟨g1, a', g2, g3⟩
      by_cases c2 : ∃ a, a ∈ P ∧ stepB w a x = true
      · exact .inl ⟨g1, c2⟩
      · right
        refine ⟨by rw [h2, if_neg (by omega), if_neg c2]; omega, ?_⟩
        rcases List.mem_append.1 g2 with g2 | g2
        · exact absurd ⟨a', g2, g3⟩ c2
        · rw [List.mem_singleton] at g2
          rw [← g2]; exact g3
  · rw [List.length_append]; omega
  · rw [List.length_append]; omega
  · rw [hql]
    simp only [List.length_append]
    omega

theorem far_queue (hw : 1 ≤ w ∧ w ≤ 8) (hh : 1 ≤ h ∧ h ≤ 8) {r2 : List Int} (hr2 : r2.length = w * h) (hs : s < w * h) :
    ∃ r, loop (tour_Far_L1 (field w h, 0) r2) ((List.replicate (w * h) (-1 : Int)).set s 0, [(s : Int)]) = some r ∧ r.length = w * h ∧ ∀ x, x < w * h → geti r (x : Int) = Fr w (w * h) s (w * h) x := by
  have hN := wh64 hw hh
  have hrg : ∀ x, x < w * h → geti (List.replicate (w * h) (-1 : Int)) (x : Int) = -1 := by
    intro x hx
    rw [geti_nat, List.getD_eq_getElem?_getD, List.getElem?_replicate, if_pos hx]; rfl
  have hneg : neg ((List.replicate (w * h) (-1 : Int)).set s 0) + 1 = w * h := by
    rw [neg_set (by simpa using hs) (by rw [hrg s hs]; decide) (by decide)]
    unfold neg
    rw [List.countP_replicate, if_pos (by decide)]
  refine loop_inv (fun (fq : List Int × List Int) => ∃ k P A B, OutI w (w * h) s fq.1 fq.2 k P A B) (fun (fq : List Int × List Int) => 2 * neg fq.1 + fq.2.length) (fun (r : List Int) => r.length = w * h ∧ ∀ x, x < w * h → geti r (x : Int) = Fr w (w * h) s (w * h) x) _ ?_ ?_
  · refine ⟨0, [], [(s : Int)], [], rfl, by simp, fun x hx => ?_, fun x hx => ?_, by simp, ?_, by simp, ?_, ?_⟩
    · simp only
      rw [geti_set' (by omega) (by simpa using hs), hrg x hx]
      by_cases hxs : x = s
      · have e0 : Fr w (w * h) s 0 x = 0 := by simp only [Fr]; rw [if_pos hxs]
        rw [if_pos (by omega), e0, if_pos (by omega)]
      · have e0 : Fr w (w * h) s 0 x = -1 := by simp only [Fr]; rw [if_neg hxs]
        rw [if_neg (by omega), if_neg (by omega), if_neg (by simp)]
    · simp only [Fr, List.not_mem_nil, false_or, List.mem_singleton, Int.natCast_inj]
      by_cases hxs : x = s
      · simp [hxs]
      · simp [hxs]
    · intro y hy
      simp at hy
      exact ⟨s, hs, hy⟩
    · simp only [List.length_nil]; omega
    · simp only [List.length_nil, List.length_singleton]; omega
  · rintro ⟨f, q⟩ ⟨k, P, A, B, hI⟩
    simp only at hI
    cases A with
    | cons y A =>
      obtain ⟨f1, q1, k1, P1, A1, B1, e, h1, h2⟩ := hI.step hw hh hr2
      exact ⟨_, e, ⟨k1, P1, A1, B1, h1⟩, h2⟩
    | nil =>
      cases B with
      | cons y B =>
        obtain ⟨f1, q1, k1, P1, A1, B1, e, h1, h2⟩ := (hI.shift (by simp)).step hw hh hr2
        exact ⟨_, e, ⟨k1, P1, A1, B1, h1⟩, h2⟩
      | nil =>
        have hq := hI.q_
        simp only [List.append_nil] at hq
        subst hq
        refine ⟨.done f, rfl, hI.len, fun x hx => ?_⟩
        have hc := hI.cnt
        have hn := hI.next
        have hno : ∀ x, x < w * h → Fr w (w * h) s (k + 1) x ≠ ((k + 1 : Nat) : Int) := by
          intro x hx
          rw [hn x hx, hI.val x hx]
          have hbd := Fr_bd (w := w) (N := w * h) (s := s) k x
          have hm := hI.mem x hx
          simp only [List.not_mem_nil, false_iff, not_and] at hm
          by_cases c1 : 0 ≤ Fr w (w * h) s k x
          · rw [if_pos c1]; omega
          · rw [if_neg c1, if_neg (hm (by omega))]; omega
        have h5 := Fr_stop hno (w * h - (k + 1)) x
        rw [show k + 1 + (w * h - (k + 1)) = w * h by omega] at h5
        rw [h5, hn x hx]
end
end Go.Proofs.YtlpaklmfgldkoaaDoor
