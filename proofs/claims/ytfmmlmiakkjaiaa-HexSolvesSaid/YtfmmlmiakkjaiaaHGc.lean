/-
  Hex: what the reference's HexGroups tells.
-/
import Derived.Test.YtfmmlmiakkjaiaaHGb
namespace Go.Proofs.Ytfmmlmiakkjaiaa
open Go Go.GL

theorem sumN_le {f g : Nat → Nat} : ∀ n, (∀ i, i < n → f i ≤ g i) → sumN f n ≤ sumN g n
  | 0, _ => Nat.le_refl _
  | n + 1, h => by
    have := sumN_le n (fun i hi => h i (by omega))
    have := h n (by omega)
    simp only [sumN]; omega
theorem sumN_lt {f g : Nat → Nat} : ∀ n, (∀ i, i < n → f i ≤ g i) → (∃ i, i < n ∧ f i < g i) → sumN f n < sumN g n
  | 0, _, ⟨i, hi, _⟩ => by omega
  | n + 1, h, ⟨i, hi, h2⟩ => by
    have h3 := sumN_le n (fun i hi => h i (by omega))
    have h4 := h n (by omega)
    simp only [sumN]
    by_cases e : i = n
    · subst e; omega
    · have := sumN_lt n (fun i hi => h i (by omega)) ⟨i, by omega, h2⟩
      omega

section
variable {W : Int} {c : List Int} {v : Int}

structure RI (W : Int) (c : List Int) (v : Int) (g : List Int) : Prop where
  len : g.length = c.length
  at_ : ∀ b : Nat, b < c.length → ∃ q : Nat, geti g b = q ∧ q ≤ b ∧ Rh W c v b q

def Ps (W : Int) (c : List Int) (v : Int) (s0 : List Int) (D : Nat → Nat → Prop) (s : List Int × Bool) : Prop :=
  (∀ b : Nat, b < c.length → geti s.1 b ≤ geti s0 b) ∧ (s.2 = true → ∃ b : Nat, b < c.length ∧ geti s.1 b < geti s0 b) ∧ (s.2 = false → s.1 = s0 ∧ ∀ a b : Nat, D a b → Mk c v a → Mk c v b → HA W a b → geti s0 a ≤ geti s0 b)

theorem pass_b (B : Dm W W c) {s0 : List Int} {a : Nat} (ha : a < c.length) {s : List Int × Bool} (hI : RI W c v s.1) (hP : Ps W c v s0 (fun a' _ => a' < a) s) :
    ∃ s', loop (gameroomref_HexGroups_L4 W c v a) (s.1, s.2, 0) = some s' ∧ RI W c v s'.1 ∧ Ps W c v s0 (fun a' _ => a' < a + 1) s' := by
  classical
  have hsm := B.small
  have key := count_loop (step := gameroomref_HexGroups_L4 W c v a) (fun (s : List Int × Bool) (i : Nat) => (s.1, s.2, (i : Int))) (fun n s => RI W c v s.1 ∧ Ps W c v s0 (fun a' b' => a' < a ∨ (a' = a ∧ b' < n)) s) (fun s => RI W c v s.1 ∧ Ps W c v s0 (fun a' _ => a' < a + 1) s) c.length s ⟨hI, hP.1, hP.2.1, fun h => ⟨(hP.2.2 h).1, fun a' b' hd => (hP.2.2 h).2 a' b' (by omega)⟩⟩ (by
    rintro i ⟨g, ch⟩ hi ⟨h1, h3, h4, h5⟩
    left
    simp only at h1 h3 h4 h5 ⊢
    have hl : g.length = c.length := h1.len
    simp only [gameroomref_HexGroups_L4]
    rw [if_pos (decide_eq_true (by omega))]
    unfold gameroomref_HexGroups_J8 gameroomref_HexGroups_J9
    rw [asrt_pos (by omega), asrt_pos (fun _ => by omega), hexNear_r B ha hi, w64_of (x := (i : Int) + 1) (by omega), Int.toNat_natCast, Int.toNat_natCast]
    have e : ∀ (x : Bool), (if (geti c (a : Int) == v && geti c (i : Int) == v) = true then some (decide (HA W a i)) else some false) = some (if (geti c (a : Int) == v && geti c (i : Int) == v) = true then decide (HA W a i) else false) := by
      intro _; split <;> rfl
    rw [e true, Option.bind_some, asrt_pos (fun _ => by omega), asrt_pos (fun _ => by omega)]
    by_cases hq : (Mk c v a ∧ Mk c v i ∧ HA W a i) ∧ geti g i < geti g a
    · obtain ⟨⟨q1, q2, q3⟩, q4⟩ := hq
      rw [if_pos (by
        rw [decide_eq_true q3, decide_eq_true q4, q1.2, q2.2]
        simp), asrt_pos (by omega), asrt_pos (by omega)]
      have hset : ∀ b : Nat, geti (g.set a (geti g i)) (b : Int) = if b = a then geti g i else geti g b := by
        intro b
        rw [geti_set' (by omega) (by omega)]
        by_cases e : b = a
        · subst e; simp
        · rw [if_neg (by omega), if_neg e]
      refine ⟨(g.set a (geti g i), true), rfl, ⟨by simpa using hl, fun b hb => ?_⟩, fun b hb => ?_, fun _ => ?_, fun h => by cases h⟩
      · simp only
        rw [hset]
        by_cases e : b = a
        · subst e
          rw [if_pos rfl]
          obtain ⟨q, k1, k2, k3⟩ := h1.at_ i hi
          obtain ⟨q', k4, k5, _⟩ := h1.at_ b hb
          exact ⟨q, k1, by omega, Reach.trans (.step .base q3 q2) k3⟩
        · rw [if_neg e]
          exact h1.at_ b hb
      · rw [hset]
        have := h3 b hb
        by_cases e : b = a
        · subst e; rw [if_pos rfl]; omega
        · rw [if_neg e]; exact this
      · have := h3 a ha
        refine ⟨a, ha, ?_⟩
        simp only
        rw [hset, if_pos rfl]; omega
    · rw [if_neg (by
        intro h
        simp only [Bool.and_eq_true, beq_iff_eq, decide_eq_true_eq] at h
        obtain ⟨⟨⟨r1, r2⟩, r3⟩, r4⟩ := h
        rw [if_pos ⟨r1, r2⟩, decide_eq_true_eq] at r3
        exact hq ⟨⟨⟨ha, r1⟩, ⟨hi, r2⟩, r3⟩, r4⟩)]
      refine ⟨(g, ch), rfl, h1, h3, h4, fun hc => ⟨(h5 hc).1, fun a' b' hd m1 m2 had => ?_⟩⟩
      have hg := (h5 hc).1
      rcases Classical.em (a' < a ∨ (a' = a ∧ b' < i)) with h6 | h6
      · exact (h5 hc).2 a' b' h6 m1 m2 had
      · obtain rfl : a' = a := by omega
        obtain rfl : b' = i := by omega
        rw [← hg]
        have : ¬ geti g b' < geti g a' := fun h => hq ⟨⟨m1, m2, had⟩, h⟩
        omega) (by
    rintro ⟨g, ch⟩ ⟨h1, h3, h4, h5⟩
    refine ⟨(g, ch), ?_, h1, h3, h4, fun hc => ⟨(h5 hc).1, fun a' b' hd m1 m2 had => (h5 hc).2 a' b' ?_ m1 m2 had⟩⟩
    · simp only [gameroomref_HexGroups_L4]
      rw [if_neg (by simp)]
    · have := m2.1
      omega)
  obtain ⟨s', hs, h⟩ := key
  exact ⟨s', hs, h⟩

theorem pass_a (B : Dm W W c) {s0 : List Int} (hI : RI W c v s0) :
    ∃ s', loop (gameroomref_HexGroups_L3 W c v) (s0, false, 0) = some s' ∧ RI W c v s'.1 ∧ Ps W c v s0 (fun _ _ => True) s' := by
  have hsm := B.small
  have key := count_loop (step := gameroomref_HexGroups_L3 W c v) (fun (s : List Int × Bool) (i : Nat) => (s.1, s.2, (i : Int))) (fun n s => RI W c v s.1 ∧ Ps W c v s0 (fun a' _ => a' < n) s) (fun s => RI W c v s.1 ∧ Ps W c v s0 (fun _ _ => True) s) c.length (s0, false) ⟨hI, fun _ _ => Int.le_refl _, (fun h => by cases h), fun _ => ⟨rfl, fun a b hd => by omega⟩⟩ (by
    rintro i s hi ⟨h1, h2⟩
    left
    obtain ⟨s', k1, k2, k3⟩ := pass_b B hi h1 h2
    refine ⟨s', ?_, k2, k3⟩
    simp only [gameroomref_HexGroups_L3]
    rw [if_pos (decide_eq_true (by omega))]
    unfold gameroomref_HexGroups_J6
    rw [k1, Option.bind_some]
    simp only [gameroomref_HexGroups_K4, gameroomref_HexGroups_J7]
    rw [w64_of (by omega)]
    rfl) (by
    rintro s ⟨h1, h3, h4, h5⟩
    refine ⟨s, ?_, h1, h3, h4, fun hc => ⟨(h5 hc).1, fun a' b' _ m1 m2 had => (h5 hc).2 a' b' m1.1 m1 m2 had⟩⟩
    simp only [gameroomref_HexGroups_L3]
    rw [if_neg (by simp)])
  obtain ⟨s', hs, h⟩ := key
  exact ⟨s', hs, h⟩

/-- Settled. -/
def Fin (W : Int) (c : List Int) (v : Int) (g : List Int) : Prop := RI W c v g ∧ ∀ a b : Nat, Mk c v a → Mk c v b → HA W a b → geti g a ≤ geti g b

theorem settle (B : Dm W W c) : ∀ (k : Nat) (g : List Int), RI W c v g → sumN (fun b => (geti g (b : Int)).toNat) c.length < k → ∃ g', loop (gameroomref_HexGroups_L2 W c v) (g, true) = some g' ∧ Fin W c v g'
  | 0, _, _, h => by omega
  | k + 1, g, hI, hk => by
    obtain ⟨⟨g1, ch⟩, k1, k2, k3, k4, k5⟩ := pass_a B hI
    have e1 : gameroomref_HexGroups_L2 W c v (g, true) = some (.next (g1, ch)) := by
      simp only [gameroomref_HexGroups_L2, if_true]
      unfold gameroomref_HexGroups_J5
      rw [k1, Option.bind_some]
      rfl
    cases ch with
    | true =>
      obtain ⟨b, hb, hlt⟩ := k4 rfl
      obtain ⟨g', l1, l2⟩ := settle B k g1 k2 (by
        have := sumN_lt (f := fun b => (geti g1 (b : Int)).toNat) (g := fun b => (geti g (b : Int)).toNat) c.length (fun i hi => by have := k3 i hi; simp only at this ⊢; omega) ⟨b, hb, by
          obtain ⟨q, h1, _⟩ := k2.at_ b hb
          simp only at h1 hlt ⊢
          omega⟩
        omega)
      exact ⟨g', loop_next' e1 l1, l2⟩
    | false =>
      obtain ⟨rfl, h6⟩ := k5 rfl
      refine ⟨g1, loop_next' e1 (loop_done (by simp [gameroomref_HexGroups_L2])), k2, fun a b m1 m2 had => h6 a b trivial m1 m2 had⟩

theorem Fin.same {g : List Int} (h : Fin W c v g) {a b : Nat} (ha : Mk c v a) (hr : Rh W c v a b) : geti g a = geti g b := by
  induction hr with
  | base => rfl
  | step h1 h2 h3 ih =>
    have hm := Reach.mk_of ha h1
    have := h.2 _ _ hm h3 h2
    have := h.2 _ _ h3 hm h2.symm
    omega

theorem Fin.lst {g : List Int} (h : Fin W c v g) {p : Nat} (hp : Mk c v p) : geti g p = p ↔ Lst W c v p := by
  constructor
  · intro hg
    refine ⟨hp, fun a ha hm hr => ?_⟩
    have := h.same hm hr
    obtain ⟨q, h1, h2, _⟩ := h.1.at_ a hm.1
    omega
  · intro hL
    obtain ⟨q, h1, h2, h3⟩ := h.1.at_ p hp.1
    by_cases e : q = p
    · rw [h1, e]
    · exact absurd (Rh.symm hp h3) (hL.2 q (by omega) (Reach.mk_of hp h3))

theorem Fin.grp {g : List Int} (h : Fin W c v g) {p k : Nat} (hp : Lst W c v p) (hk : Mk c v k) : geti g k = p ↔ Rh W c v p k := by
  constructor
  · intro hg
    obtain ⟨q, h1, h2, h3⟩ := h.1.at_ k hk.1
    obtain rfl : q = p := by omega
    exact Rh.symm hk h3
  · intro hr
    have := h.same hp.1 hr
    have := (h.lst hp.1).2 hp
    omega

theorem row_r (B : Dm W W c) {g : List Int} (h : Fin W c v g) {p : Nat} (hp : Lst W c v p) : loop (gameroomref_HexGroups_L6 c v g p) ([], 0) = some (grpH W c v p) := by
  classical
  have hsm := B.small
  have hpl := hp.1.1
  have key := count_loop (step := gameroomref_HexGroups_L6 c v g p) (fun (_ : Unit) (i : Nat) => (((List.range i).filter (fun b => decide (Rh W c v p b))).map (fun (b : Nat) => (b : Int)), (i : Int))) (fun _ _ => True) (fun r => r = grpH W c v p) c.length () trivial (by
    rintro i _ hi _
    left
    refine ⟨(), ?_, trivial⟩
    have hgl : (((List.range i).filter (fun b => decide (Rh W c v p b))).map (fun (b : Nat) => (b : Int))).length ≤ i := flen _ _
    simp only [gameroomref_HexGroups_L6]
    rw [if_pos (decide_eq_true (by omega))]
    unfold gameroomref_HexGroups_J15 gameroomref_HexGroups_J16
    rw [Int.toNat_natCast, asrt_pos (by omega), asrt_pos (fun _ => by omega), List.range_succ, List.filter_append, List.map_append, w64_of (by omega)]
    by_cases hr : Rh W c v p i
    · have hk := Rh.mk hp.1 hr
      have := (h.grp hp hk).2 hr
      rw [if_pos (by simp [hk.2, this]), asrt_pos (by unfold bigN; omega)]
      simp [hr]
    · rw [if_neg (by
        intro h2
        simp only [Bool.and_eq_true, beq_iff_eq] at h2
        exact hr ((h.grp hp ⟨hi, h2.1⟩).1 h2.2))]
      simp [hr]) (by
    rintro _ _
    refine ⟨_, ?_, rfl⟩
    simp only [gameroomref_HexGroups_L6]
    rw [if_neg (by simp)]
    rfl)
  obtain ⟨r, hr, rfl⟩ := key
  exact hr

theorem groups_r (B : Dm W W c) : gameroomref_HexGroups_m W W c v = some (grpsH W c v c.length) := by
  classical
  have hsm := B.small
  unfold gameroomref_HexGroups_m
  rw [asrt_pos (by unfold bigN; omega), Int.toNat_natCast]
  have key := count_loop (step := gameroomref_HexGroups_L1 c) (fun (s : List Int) (i : Nat) => (s, (i : Int))) (fun n s => s.length = c.length ∧ ∀ b : Nat, b < n → geti s b = b) (fun r => r.length = c.length ∧ ∀ b : Nat, b < c.length → geti r b = b) c.length (List.replicate c.length (0 : Int)) ⟨by simp, fun b hb => by omega⟩ (by
    rintro i s hi ⟨h1, h2⟩
    left
    refine ⟨s.set i i, ?_, by simpa using h1, fun b hb => ?_⟩
    · simp only [gameroomref_HexGroups_L1]
      rw [if_pos (decide_eq_true (by omega))]
      unfold gameroomref_HexGroups_J2 gameroomref_HexGroups_J3
      rw [Int.toNat_natCast, asrt_pos (by omega), w64_of (by omega), Int.toNat_natCast]
      rfl
    · rw [geti_set' (by omega) (by omega)]
      by_cases e : b = i
      · subst e; simp
      · rw [if_neg (by omega)]
        exact h2 b (by omega)) (by
    rintro s ⟨h1, h2⟩
    refine ⟨s, ?_, h1, h2⟩
    simp only [gameroomref_HexGroups_L1]
    rw [if_neg (by simp)])
  obtain ⟨g0, hr, h1, h2⟩ := key
  have hr' : loop (gameroomref_HexGroups_L1 c) (List.replicate c.length (0 : Int), 0) = _ := hr
  rw [hr', Option.bind_some]
  simp only [gameroomref_HexGroups_K1]
  unfold gameroomref_HexGroups_J1
  obtain ⟨g, k1, k2⟩ := settle (v := v) B (sumN (fun b => (geti g0 (b : Int)).toNat) c.length + 1) g0 ⟨h1, fun b hb => ⟨b, h2 b hb, Nat.le_refl _, .base⟩⟩ (by omega)
  rw [k1, Option.bind_some]
  simp only [gameroomref_HexGroups_K2]
  unfold gameroomref_HexGroups_J4
  have key := count_loop (step := gameroomref_HexGroups_L5 c v g) (fun (_ : Unit) (i : Nat) => (grpsH W c v i, (i : Int))) (fun _ _ => True) (fun r => r = grpsH W c v c.length) c.length () trivial (by
    rintro i _ hi _
    left
    refine ⟨(), ?_, trivial⟩
    have hgl := grpsH_len (W := W) (c := c) (v := v) i
    simp only [gameroomref_HexGroups_L5]
    rw [if_pos (decide_eq_true (by omega))]
    unfold gameroomref_HexGroups_J11
    rw [Int.toNat_natCast, asrt_pos (by omega), asrt_pos (fun _ => by omega), grpsH_succ]
    by_cases hL : Lst W c v i
    · rw [if_neg (by rw [(k2.lst hL.1).2 hL]; simp [hL.1.2]), if_pos hL]
      unfold gameroomref_HexGroups_J13
      rw [row_r B k2 hL, Option.bind_some]
      simp only [gameroomref_HexGroups_K6]
      unfold gameroomref_HexGroups_J14 gameroomref_HexGroups_J12
      rw [asrt_pos (by unfold bigR; omega), w64_of (by omega)]
      rfl
    · rw [if_pos (by
        by_cases hm : geti c i = v
        · have : geti g i ≠ i := fun h => hL ((k2.lst ⟨hi, hm⟩).1 h)
          simp [this]
        · simp [hm]), if_neg hL, List.append_nil]
      unfold gameroomref_HexGroups_J12
      rw [w64_of (by omega)]
      rfl) (by
    rintro _ _
    refine ⟨_, ?_, rfl⟩
    simp only [gameroomref_HexGroups_L5]
    rw [if_neg (by simp)])
  obtain ⟨r, hr, rfl⟩ := key
  have hr' : loop (gameroomref_HexGroups_L5 c v g) ([], 0) = _ := hr
  rw [hr', Option.bind_some]
  rfl
end
end Go.Proofs.Ytfmmlmiakkjaiaa
