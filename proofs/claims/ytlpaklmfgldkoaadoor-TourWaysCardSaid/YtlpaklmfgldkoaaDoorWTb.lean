/-
  Tours: how far each place is: by a queue.
-/
import Derived.Test.YtlpaklmfgldkoaaDoorWTa
namespace Go.Proofs.YtlpaklmfgldkoaaDoor
open Go Go.GL

open Classical in
/-- What is known after so many rounds. -/
noncomputable def Fr (w N s : Nat) : Nat → Nat → Int
  | 0, x => if x = s then 0 else -1
  | k + 1, x => if 0 ≤ Fr w N s k x then Fr w N s k x else if ∃ a, a < N ∧ Fr w N s k a = (k : Int) ∧ stepB w a x = true then ((k + 1 : Nat) : Int) else -1

section
variable {w h N s : Nat}
theorem Fr_bd : ∀ k x, -1 ≤ Fr w N s k x ∧ Fr w N s k x ≤ (k : Int)
  | 0, x => by
    simp only [Fr]
    split <;> omega
  | k + 1, x => by
    have := Fr_bd k x
    simp only [Fr]
    split
    · omega
    · split <;> omega
theorem Fr_stop {k : Nat} (hn : ∀ x, x < N → Fr w N s k x ≠ (k : Int)) : ∀ m, ∀ x, Fr w N s (k + m) x = Fr w N s k x
  | 0, x => rfl
  | m + 1, x => by
    have ih := Fr_stop hn m
    show Fr w N s (k + m + 1) x = _
    simp only [Fr]
    rw [ih x]
    have hno : ¬ ∃ a, a < N ∧ Fr w N s (k + m) a = ((k + m : Nat) : Int) ∧ stepB w a x = true := by
      rintro ⟨a, h1, h2, _⟩
      rw [ih a] at h2
      have hb := Fr_bd (w := w) (N := N) (s := s) k a
      have hm : m = 0 := by omega
      subst hm
      exact hn a h1 h2
    rw [if_neg hno]
    have hb := Fr_bd (w := w) (N := N) (s := s) k x
    split <;> omega

def neg (f : List Int) : Nat := f.countP (fun v => decide (v < 0))
theorem neg_set {f : List Int} {i : Nat} {v : Int} (hi : i < f.length) (h1 : geti f (i : Int) < 0) (hv : 0 ≤ v) : neg (f.set i v) + 1 = neg f := by
  have hg : f[i] = geti f (i : Int) := by
    have := get_geti hi
    rw [List.getElem?_eq_getElem hi] at this
    exact Option.some.inj this
  have hp : 0 < neg f := List.countP_pos_iff.2 ⟨f[i], List.getElem_mem hi, by rw [hg]; exact decide_eq_true h1⟩
  unfold neg at hp ⊢
  rw [List.countP_set hi, hg, if_pos (decide_eq_true h1), if_neg (by rw [decide_eq_true_eq]; omega)]
  omega

theorem takeK {l : List Int} {i : Nat} (h : i < l.length) : l.take (i + 1) = l.take i ++ [geti l (i : Int)] := by
  have g := get_geti h
  rw [List.getElem?_eq_getElem h] at g
  rw [List.take_succ_eq_append_getElem h, Option.some.inj g]
theorem row_inK {p z : Nat} (hz : z < (knb w N p).length) : ∃ b : Nat, geti (knb w N p) (z : Int) = (b : Int) ∧ b < N ∧ stepB w p b = true := by
  obtain ⟨b, h1, h2, h3⟩ := knb_mem.1 (List.mem_of_getElem? (get_geti hz))
  exact ⟨b, h2, h1, h3⟩

structure InI (w N a k : Nat) (f0 : List Int) (i : Nat) (f new : List Int) : Prop where
  len : f.length = N
  val : ∀ x, x < N → geti f (x : Int) = if 0 ≤ geti f0 (x : Int) then geti f0 (x : Int) else if (x : Int) ∈ (knb w N a).take i then ((k + 1 : Nat) : Int) else -1
  els : ∀ y ∈ new, ∃ x : Nat, x < N ∧ y = (x : Int)
  mem : ∀ x, x < N → ((x : Int) ∈ new ↔ geti f0 (x : Int) < 0 ∧ (x : Int) ∈ (knb w N a).take i)
  cnt : neg f + new.length = neg f0
  small : new.length ≤ i

theorem inner_f (hw : 1 ≤ w ∧ w ≤ 8) (hh : 1 ≤ h ∧ h ≤ 8) {f0 q0 r2 : List Int} {a k : Nat} (ha : a < w * h) (hr2 : r2.length = w * h) (hl : f0.length = w * h) {q' : List Int} (hq : q0 = (a : Int) :: q') (hql : q0.length ≤ 1000) (hfa : geti f0 (a : Int) = (k : Int)) (hk : k ≤ 64)
    (hm1 : ∀ x, x < w * h → -1 ≤ geti f0 (x : Int)) :
    ∃ f1 new, loop (tour_Far_L2 (field w h, 0) r2 q0) (f0, q0, 0) = some (f1, q0 ++ new) ∧ InI w (w * h) a k f0 (knb w (w * h) a).length f1 new := by
  have hN := wh64 hw hh
  have hkl := knb_len (w := w) (N := w * h) (p := a)
  have hqa : geti q0 0 = (a : Int) := by rw [hq]; rfl
  have key := count_loop (step := tour_Far_L2 (field w h, 0) r2 q0) (mk := fun (fn : List Int × List Int) (i : Nat) => (fn.1, q0 ++ fn.2, (i : Int)))
    (I := fun i fn => InI w (w * h) a k f0 i fn.1 fn.2) (Post := fun r => ∃ f1 new, r = (f1, q0 ++ new) ∧ InI w (w * h) a k f0 (knb w (w * h) a).length f1 new) (knb w (w * h) a).length (f0, [])
    ⟨hl, fun x hx => by
      have := hm1 x hx
      rw [List.take_zero]
      by_cases h1 : 0 ≤ geti f0 (x : Int)
      · rw [if_pos h1]
      · rw [if_neg h1, if_neg (by simp)]
        exact (by omega : geti f0 (x : Int) = -1), by simp, by simp, by simp, by simp⟩ (by
    rintro i ⟨f, new⟩ hi hI
    left
    obtain ⟨b, hb, hbN, _⟩ := row_inK hi
    have htk : (knb w (w * h) a).take (i + 1) = (knb w (w * h) a).take i ++ [(b : Int)] := by rw [takeK hi, hb]
    have hmt : ∀ x : Nat, (x : Int) ∈ (knb w (w * h) a).take (i + 1) ↔ (x : Int) ∈ (knb w (w * h) a).take i ∨ x = b := by
      intro x
      rw [htk, List.mem_append, List.mem_singleton, Int.natCast_inj]
    have hql2 : (q0 ++ new).length ≤ 2000 := by
      have := hI.small
      simp only at this
      rw [List.length_append]; omega
    have hqa2 : geti (q0 ++ new) 0 = (a : Int) := by rw [hq]; rfl
    have hfa2 : geti f (a : Int) = (k : Int) := by rw [hI.val a ha, hfa, if_pos (by omega)]
    have hvb := hI.val b hbN
    simp only at hvb
    have hpos : 0 < (q0 ++ new).length := by rw [hq]; simp
    simp only [tour_Far_L2]
    rw [hqa, field_row ha, if_pos (decide_eq_true (by omega))]
    unfold tour_Far_J5 tour_Far_J6
    rw [hqa, field_row ha, hb, asrt_pos (by omega), asrt_pos (by omega), w64_of (x := (i : Int) + 1) (by omega)]
    by_cases h1 : geti f (b : Int) < 0
    · rw [if_pos (decide_eq_true h1), hqa2, hfa2, asrt_pos (by omega), asrt_pos (by omega), asrt_pos (by omega), asrt_pos (by unfold bigN; omega), Int.toNat_natCast, w64_of (x := (k : Int) + 1) (by omega)]
      have hb0 : ¬ 0 ≤ geti f0 (b : Int) := by
        intro q
        rw [if_pos q] at hvb
        omega
      have hbt : (b : Int) ∉ (knb w (w * h) a).take i := by
        intro q
        rw [if_neg hb0, if_pos q] at hvb
        omega
      refine ⟨(f.set b ((k : Int) + 1), new ++ [(b : Int)]), by rw [List.append_assoc]; rfl, ?_⟩
      refine ⟨by rw [List.length_set]; exact hI.len, fun x hx => ?_, ?_, fun x hx => ?_, ?_, ?_⟩
      · rw [geti_set' (by omega) (by rw [hI.len]; exact hbN)]
        by_cases hxb : x = b
        · subst hxb
          rw [if_pos rfl, if_neg hb0, if_pos ((hmt x).2 (.inr rfl))]
          omega
        · rw [if_neg (by omega)]
          have := hI.val x hx
          simp only at this
          rw [this]
          have e : ((x : Int) ∈ (knb w (w * h) a).take (i + 1)) ↔ ((x : Int) ∈ (knb w (w * h) a).take i) := by
            rw [hmt x]
            exact ⟨fun q => q.resolve_right hxb, .inl⟩
          by_cases q : (x : Int) ∈ (knb w (w * h) a).take i
          · rw [if_pos q, if_pos (e.2 q)]
          · rw [if_neg q, if_neg (fun r => q (e.1 r))]
      · intro y hy
        rcases List.mem_append.1 hy with hy | hy
        · exact hI.els y hy
        · rw [List.mem_singleton] at hy
          exact ⟨b, hbN, hy⟩
      · have := hI.mem x hx
        simp only at this ⊢
        rw [List.mem_append, List.mem_singleton, Int.natCast_inj, this, hmt x]
        constructor
        · rintro (q | rfl)
          · exact ⟨q.1, .inl q.2⟩
          · exact ⟨by omega, .inr rfl⟩
        · rintro ⟨q1, q2 | q2⟩
          · exact .inl ⟨q1, q2⟩
          · exact .inr q2
      · have h5 := neg_set (f := f) (i := b) (v := (k : Int) + 1) (by rw [hI.len]; exact hbN) h1 (by omega)
        have h6 := hI.cnt
        simp only [List.length_append, List.length_singleton] at h6 ⊢
        omega
      · have := hI.small
        simp only [List.length_append, List.length_singleton] at this ⊢
        omega
    · rw [if_neg (by rw [decide_eq_true_eq]; exact h1)]
      refine ⟨(f, new), rfl, ?_⟩
      have hor : 0 ≤ geti f0 (b : Int) ∨ (b : Int) ∈ (knb w (w * h) a).take i := by
        refine Classical.byContradiction fun q => ?_
        rw [not_or] at q
        rw [if_neg q.1, if_neg q.2] at hvb
        omega
      refine ⟨hI.len, fun x hx => ?_, hI.els, fun x hx => ?_, hI.cnt, ?_⟩
      · have := hI.val x hx
        simp only at this ⊢
        rw [this]
        by_cases h0 : 0 ≤ geti f0 (x : Int)
        · rw [if_pos h0, if_pos h0]
        · rw [if_neg h0, if_neg h0]
          by_cases q : (x : Int) ∈ (knb w (w * h) a).take i
          · rw [if_pos q, if_pos ((hmt x).2 (.inl q))]
          · rw [if_neg q, if_neg (fun r => ?_)]
            rcases (hmt x).1 r with r | rfl
            · exact q r
            · exact hor.elim h0 q
      · have := hI.mem x hx
        simp only at this ⊢
        rw [this, hmt x]
        constructor
        · rintro ⟨q1, q2⟩
          exact ⟨q1, .inl q2⟩
        · rintro ⟨q1, q2 | rfl⟩
          · exact ⟨q1, q2⟩
          · exact ⟨q1, hor.resolve_left (by omega)⟩
      · have := hI.small
        simp only at this ⊢
        omega) (by
    rintro ⟨f, new⟩ hI
    refine ⟨_, ?_, f, new, rfl, hI⟩
    simp only [tour_Far_L2]
    rw [hqa, field_row ha, if_neg (by simp)])
  obtain ⟨r, e, f1, new, rfl, hI⟩ := key
  rw [List.append_nil] at e
  exact ⟨f1, new, e, hI⟩
end
end Go.Proofs.YtlpaklmfgldkoaaDoor
