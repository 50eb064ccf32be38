/-
  Hex: what the program's groups tells.
-/
import Derived.Test.YtgogihcmnkncjaaHGa
namespace Go.Proofs.Ytgogihcmnkncjaa
open Go Go.GL

section
variable {W : Int} {c : List Int} {p : Nat} {v : Int}

def Mk (c : List Int) (v : Int) (b : Nat) : Prop := b < c.length ∧ geti c b = v
/-- Joined to a place through its like. -/
def Rh (W : Int) (c : List Int) (v : Int) (p b : Nat) : Prop := Reach (HA W) (Mk c v) p b

theorem Rh.symm {b : Nat} (hp : Mk c v p) (h : Rh W c v p b) : Rh W c v b p := by
  induction h with
  | base => exact .base
  | step h1 h2 h3 ih => exact Reach.trans (.step .base h2.symm (Reach.mk_of hp h1)) ih
theorem Rh.mk {b : Nat} (hp : Mk c v p) (h : Rh W c v p b) : Mk c v b := Reach.mk_of hp h

/-- The first of its group. -/
def Lst (W : Int) (c : List Int) (v : Int) (p : Nat) : Prop := Mk c v p ∧ ∀ a : Nat, a < p → Mk c v a → ¬ Rh W c v a p

open Classical in
noncomputable def grpH (W : Int) (c : List Int) (v : Int) (p : Nat) : List Int := ((List.range c.length).filter (fun b => decide (Rh W c v p b))).map (fun (b : Nat) => (b : Int))
open Classical in
noncomputable def grpsH (W : Int) (c : List Int) (v : Int) (n : Nat) : List (List Int) := ((List.range n).filter (fun p => decide (Lst W c v p))).map (grpH W c v)

theorem grpsH_succ (n : Nat) : grpsH W c v (n + 1) = grpsH W c v n ++ (open Classical in if Lst W c v n then [grpH W c v n] else []) := by
  classical
  unfold grpsH
  rw [List.range_succ, List.filter_append, List.map_append]
  congr 1
  by_cases h : Lst W c v n <;> simp [h]
theorem grpsH_len (n : Nat) : (grpsH W c v n).length ≤ n := by
  unfold grpsH
  rw [List.length_map]
  refine Nat.le_trans (List.length_filter_le _ _) ?_
  rw [List.length_range]; exact Nat.le_refl _
theorem grpH_mem {q : Int} : q ∈ grpH W c v p ↔ ∃ b : Nat, b < c.length ∧ q = b ∧ Rh W c v p b := by
  classical
  unfold grpH
  rw [List.mem_map]
  constructor
  · rintro ⟨b, h1, rfl⟩
    rw [List.mem_filter, List.mem_range, decide_eq_true_eq] at h1
    exact ⟨b, h1.1, rfl, h1.2⟩
  · rintro ⟨b, h1, rfl, h2⟩
    exact ⟨b, by rw [List.mem_filter, List.mem_range, decide_eq_true_eq]; exact ⟨h1, h2⟩, rfl⟩

structure GInv (W : Int) (c : List Int) (v : Int) (seen0 : List Bool) (p : Nat) (s : List Bool × List Int) : Prop where
  len : s.1.length = c.length
  seen : ∀ b : Nat, b < c.length → (getb s.1 b = true ↔ getb seen0 b = true ∨ (b : Int) ∈ s.2)
  ins : ∀ q ∈ s.2, ∃ b : Nat, b < c.length ∧ q = b ∧ Rh W c v p b
  nd : s.2.Nodup
  hp : (p : Int) ∈ s.2

theorem GInv.le {seen0 : List Bool} {s : List Bool × List Int} (h : GInv W c v seen0 p s) : s.2.length ≤ c.length := nodup_len h.nd fun q hq => by
  obtain ⟨b, h1, h2, _⟩ := h.ins q hq
  exact ⟨b, h1, h2⟩

theorem GInv.add {seen0 : List Bool} {s : List Bool × List Int} (h : GInv W c v seen0 p s) {a b : Nat} (hb : b < c.length) (hs : ¬ getb s.1 b = true) (hv : geti c b = v) (ha : Rh W c v p a) (had : HA W a b) : GInv W c v seen0 p (s.1.set b true, s.2 ++ [(b : Int)]) := by
  have hbl : b < s.1.length := by rw [h.len]; exact hb
  have hni : (b : Int) ∉ s.2 := fun q => hs ((h.seen b hb).2 (Or.inr q))
  refine ⟨by simpa using h.len, fun d hd => ?_, fun q hq => ?_, ?_, List.mem_append_left _ h.hp⟩
  · simp only
    rw [getbs hbl, List.mem_append]
    by_cases e : d = b
    · subst e; simp
    · rw [if_neg e, h.seen d hd]
      constructor
      · rintro (q | q)
        · exact Or.inl q
        · exact Or.inr (Or.inl q)
      · rintro (q | q | q)
        · exact Or.inl q
        · exact Or.inr q
        · simp at q; omega
  · rcases List.mem_append.1 hq with q1 | q1
    · exact h.ins q q1
    · simp at q1
      exact ⟨b, hb, q1, .step ha had ⟨hb, hv⟩⟩
  · rw [List.nodup_append]
    refine ⟨h.nd, by simp, ?_⟩
    intro x hx y hy e
    simp at hy
    rw [e, hy] at hx
    exact hni hx

theorem inner_h (B : Dm W W c) {seen0 : List Bool} {a : Nat} (ha : a < c.length) (hra : Rh W c v p a) {s0 : List Bool × List Int} (h0 : GInv W c v seen0 p s0) :
    ∃ s, hex_near_1_m (ydOf (fun x s => (hex_groups_L3 c v) (x, s))) (.next (s0.1, s0.2)) (a : Int) W = some (.next s) ∧ GInv W c v seen0 p s ∧ (∃ t, s.2 = s0.2 ++ t) ∧ (∀ b : Nat, b < c.length → getb s0.1 b = true → getb s.1 b = true) ∧ ∀ b : Nat, b < c.length → HA W a b → geti c b = v → getb s.1 b = true := by
  have hsm := B.small
  have key := near_run B (L := fun x s => (hex_groups_L3 c v) (x, s)) (fun s => GInv W c v seen0 p s ∧ (∃ t, s.2 = s0.2 ++ t) ∧ (∀ b : Nat, b < c.length → getb s0.1 b = true → getb s.1 b = true)) (fun b s => (b < c.length → geti c b = v → getb s.1 b = true)) ha s0 ⟨h0, ⟨[], by simp⟩, fun _ _ h => h⟩ (by
    rintro b ⟨seen, grp⟩ hb had ⟨h1, ⟨t, h2⟩, h3⟩
    have l1 := h1.le
    have hsl : seen.length = c.length := h1.len
    simp only at l1 h2 h3 ⊢
    simp only [hex_groups_L3]
    rw [Int.toNat_natCast, asrt_pos (by omega), asrt_pos (fun _ => by omega), asrt_pos (by omega), asrt_pos (by unfold bigN; omega), Int.toNat_natCast]
    have mono : ∀ d : Nat, getb seen d = true → getb (seen.set b true) d = true := by
      intro d hs
      rw [getbs (by omega)]
      split
      · rfl
      · exact hs
    by_cases hq : geti c b = v ∧ ¬ getb seen b = true
    · rw [if_pos (by simp [hq.1, hq.2])]
      refine ⟨_, rfl, ⟨h1.add hb hq.2 hq.1 hra had, ⟨t ++ [(b : Int)], by simp [h2]⟩, fun d hd h => mono d (h3 d hd h)⟩, fun _ _ => by rw [getbs (by omega), if_pos rfl], fun d hd hdl hdv => mono d (hd hdl hdv)⟩
    · rw [if_neg (by
        intro h
        simp only [Bool.and_eq_true, beq_iff_eq, Bool.not_eq_true'] at h
        exact hq ⟨h.1, by rw [h.2]; decide⟩)]
      refine ⟨_, rfl, ⟨h1, ⟨t, h2⟩, h3⟩, fun _ hv => ?_, fun d hd => hd⟩
      by_cases hs : getb seen b = true
      · exact hs
      · exact absurd ⟨hv, hs⟩ hq)
  obtain ⟨s, k1, ⟨k2, k3, k4⟩, k5⟩ := key
  exact ⟨s, k1, k2, k3, k4, fun b hb had hv => k5 b hb had hb hv⟩

theorem group_scan (B : Dm W W c) (hp : Mk c v p) {seen0 : List Bool} (hl0 : seen0.length = c.length) (hns : ¬ getb seen0 p = true) :
    ∃ seen grp, loop (hex_groups_L2 W c v) (seen0.set p true, [(p : Int)], 0) = some (seen, grp) ∧ GInv W c v seen0 p (seen, grp) ∧ ∀ a : Nat, (a : Int) ∈ grp → ∀ b : Nat, b < c.length → HA W a b → geti c b = v → getb seen b = true := by
  have hsm := B.small
  have start : GInv W c v seen0 p (seen0.set p true, [(p : Int)]) := by
    refine ⟨by simpa using hl0, fun b hb => ?_, fun q hq => ?_, by simp, by simp⟩
    · simp only
      rw [getbs (by rw [hl0]; exact hp.1)]
      by_cases e : b = p
      · subst e; simp
      · rw [if_neg e]
        simp
        intro h; omega
    · simp at hq
      exact ⟨p, hp.1, hq, .base⟩
  have key := count_loop (step := hex_groups_L2 W c v) (fun (s : List Bool × List Int) (i : Nat) => (s.1, s.2, (i : Int)))
    (fun n s => GInv W c v seen0 p s ∧ n ≤ s.2.length ∧ ∀ z a : Nat, z < n → s.2[z]? = some (a : Int) → ∀ b : Nat, b < c.length → HA W a b → geti c b = v → getb s.1 b = true)
    (fun r => GInv W c v seen0 p r ∧ ∀ a : Nat, (a : Int) ∈ r.2 → ∀ b : Nat, b < c.length → HA W a b → geti c b = v → getb r.1 b = true) c.length (seen0.set p true, [(p : Int)]) ⟨start, by simp, fun z a hz => by omega⟩ (by
      rintro i ⟨seen, grp⟩ hi ⟨h1, h2, h3⟩
      have l1 := h1.le
      simp only at l1 h2 h3 ⊢
      by_cases hil : i < grp.length
      · left
        have hg := get_geti hil
        obtain ⟨a, ha, hq, hra⟩ := h1.ins _ (List.mem_of_getElem? hg)
        obtain ⟨s, k1, k2, ⟨t, k3⟩, k4, k5⟩ := inner_h B ha hra h1
        refine ⟨s, ?_, k2, ?_, fun z d hz hzd b hb had hv => ?_⟩
        · simp only [hex_groups_L2]
          rw [if_pos (decide_eq_true (by omega))]
          unfold hex_groups_J6 hex_near_m
          rw [asrt_pos (by omega), hq, Option.bind_some]
          simp only at k1 ⊢
          rw [k1, Option.bind_some]
          simp only [hex_groups_K3, hex_groups_J7]
          rw [w64_of (by omega)]
          rfl
        · rw [k3, List.length_append]; simp only; omega
        · simp only at k3
          rw [k3] at hzd
          by_cases e : z = i
          · subst e
            rw [List.getElem?_append_left hil, hg, hq] at hzd
            injection hzd with hzd
            obtain rfl : a = d := by omega
            exact k5 b hb had hv
          · rw [List.getElem?_append_left (by omega)] at hzd
            exact k4 b hb (h3 z d (by omega) hzd b hb had hv)
      · right
        refine ⟨(seen, grp), ?_, h1, fun a ha b hb had hv => ?_⟩
        · simp only [hex_groups_L2]
          rw [if_neg (by simp; omega)]
        · obtain ⟨z, hz, e⟩ := List.getElem_of_mem (show (a : Int) ∈ grp from ha)
          exact h3 z a (by omega) (by rw [List.getElem?_eq_getElem hz, e]) b hb had hv) (by
      rintro ⟨seen, grp⟩ ⟨h1, h2, h3⟩
      have l1 := h1.le
      simp only at l1 h2 h3 ⊢
      refine ⟨(seen, grp), ?_, h1, fun a ha b hb had hv => ?_⟩
      · simp only [hex_groups_L2]
        rw [if_neg (by simp; omega)]
      · obtain ⟨z, hz, e⟩ := List.getElem_of_mem (show (a : Int) ∈ grp from ha)
        exact h3 z a (by omega) (by rw [List.getElem?_eq_getElem hz, e]) b hb had hv)
  obtain ⟨⟨seen, grp⟩, hr, h1, h2⟩ := key
  exact ⟨seen, grp, hr, h1, h2⟩

/-- What is seen before the place z. -/
def Before (W : Int) (c : List Int) (v : Int) (seen : List Bool) (z : Nat) : Prop := seen.length = c.length ∧ ∀ b : Nat, b < c.length → (getb seen b = true ↔ ∃ a : Nat, a < z ∧ Mk c v a ∧ Rh W c v a b)

theorem group_one (B : Dm W W c) (hp : Lst W c v p) {seen0 : List Bool} (h0 : Before W c v seen0 p) :
    ∃ seen grp, loop (hex_groups_L2 W c v) (seen0.set p true, [(p : Int)], 0) = some (seen, grp) ∧ grp.length ≤ c.length ∧ sortI grp = grpH W c v p ∧ Before W c v seen (p + 1) := by
  classical
  have hns : ¬ getb seen0 p = true := fun h => by
    obtain ⟨a, h1, h2, h3⟩ := (h0.2 p hp.1.1).1 h
    exact hp.2 a h1 h2 h3
  obtain ⟨seen, grp, hl, hI, hC⟩ := group_scan B hp.1 h0.1 hns
  have all : ∀ b : Nat, Rh W c v p b → (b : Int) ∈ grp := by
    intro b h
    induction h with
    | base => exact hI.hp
    | step h1 h2 h3 ih =>
      rename_i a b
      have hs := hC _ ih _ h3.1 h2 h3.2
      rcases (hI.seen _ h3.1).1 hs with q | q
      · obtain ⟨d, k1, k2, k3⟩ := (h0.2 b h3.1).1 q
        exact absurd (Reach.trans k3 (Rh.symm hp.1 (.step h1 h2 h3))) (hp.2 d k1 k2)
      · exact q
  refine ⟨seen, grp, hl, hI.le, ?_, hI.len, fun b hb => ?_⟩
  · refine strict_ext (sortI_lt hI.nd) (filt_lt _ _) fun q => ?_
    rw [sortI_mem]
    constructor
    · intro hq
      exact grpH_mem.2 (hI.ins q hq)
    · intro hq
      obtain ⟨b, _, rfl, h⟩ := grpH_mem.1 hq
      exact all b h
  · rw [hI.seen b hb, h0.2 b hb]
    constructor
    · rintro (⟨a, h1, h2, h3⟩ | h)
      · exact ⟨a, by omega, h2, h3⟩
      · obtain ⟨d, _, h2, h3⟩ := hI.ins _ h
        obtain rfl : b = d := by omega
        exact ⟨p, by omega, hp.1, h3⟩
    · rintro ⟨a, h1, h2, h3⟩
      by_cases e : a = p
      · subst e; exact Or.inr (all b h3)
      · exact Or.inl ⟨a, by omega, h2, h3⟩

theorem groups_p (B : Dm W W c) : hex_groups_m W W c v = some (grpsH W c v c.length) := by
  classical
  have hsm := B.small
  unfold hex_groups_m
  rw [asrt_pos (by unfold bigN; omega), Int.toNat_natCast]
  have key := count_loop (step := hex_groups_L1 W c v) (fun (s : List Bool) (i : Nat) => (grpsH W c v i, s, (i : Int))) (fun n s => Before W c v s n) (fun r => r = grpsH W c v c.length) c.length (List.replicate c.length false) ⟨by simp, fun b hb => by
      have : getb (List.replicate c.length false) (b : Int) = false := getb_some (by rw [List.getElem?_replicate, if_pos hb])
      rw [this]
      simp⟩ (by
    rintro i s hi hB
    left
    have hgl := grpsH_len (W := W) (c := c) (v := v) i
    have hls := hB.1
    simp only [hex_groups_L1]
    rw [if_pos (decide_eq_true (by omega))]
    unfold hex_groups_J2
    rw [Int.toNat_natCast, asrt_pos (by omega), asrt_pos (fun _ => by omega), grpsH_succ]
    have hseen : Mk c v i → (getb s i = true ↔ ¬ Lst W c v i) := by
      intro hm
      rw [hB.2 i hi]
      constructor
      · rintro ⟨a, h1, h2, h3⟩ hL
        exact hL.2 a h1 h2 h3
      · intro h
        refine Classical.byContradiction fun h2 => h ⟨hm, fun a h3 h4 h5 => h2 ⟨a, h3, h4, h5⟩⟩
    by_cases hL : Lst W c v i
    · have hns : getb s i = false := by
        rw [Bool.eq_false_iff]
        intro h
        exact (hseen hL.1).1 h hL
      rw [if_neg (by rw [hns]; simp [hL.1.2]), if_pos hL]
      unfold hex_groups_J4
      obtain ⟨seen, grp, k1, k2, k3, k4⟩ := group_one B hL hB
      rw [Int.toNat_natCast, asrt_pos (by omega), Int.toNat_natCast, k1, Option.bind_some]
      simp only [hex_groups_K2]
      unfold hex_groups_J5 slices_Sort_2_m hex_groups_J3
      rw [asrt_pos (by unfold bigN; omega), Option.bind_some, asrt_pos (by unfold bigR; omega), w64_of (by omega), k3]
      exact ⟨seen, rfl, k4⟩
    · rw [if_pos (by
        by_cases hm : geti c i = v
        · rw [(hseen ⟨hi, hm⟩).2 hL]; simp
        · simp [hm]), if_neg hL, List.append_nil]
      unfold hex_groups_J3
      rw [w64_of (by omega)]
      refine ⟨s, rfl, hB.1, fun b hb => ?_⟩
      rw [hB.2 b hb]
      constructor
      · rintro ⟨a, h1, h2, h3⟩
        exact ⟨a, by omega, h2, h3⟩
      · rintro ⟨a, h1, h2, h3⟩
        by_cases e : a = i
        · subst e
          have : ∃ d : Nat, d < a ∧ Mk c v d ∧ Rh W c v d a := Classical.byContradiction fun h4 => hL ⟨h2, fun d h5 h6 h7 => h4 ⟨d, h5, h6, h7⟩⟩
          obtain ⟨d, h5, h6, h7⟩ := this
          exact ⟨d, h5, h6, Reach.trans h7 h3⟩
        · exact ⟨a, by omega, h2, h3⟩) (by
    rintro s hB
    refine ⟨_, ?_, rfl⟩
    simp only [hex_groups_L1]
    rw [if_neg (by simp)])
  obtain ⟨r, hr, rfl⟩ := key
  have hr' : loop (hex_groups_L1 W c v) ([], List.replicate c.length false, 0) = _ := hr
  rw [hr', Option.bind_some]
  rfl
end
end Go.Proofs.Ytgogihcmnkncjaa
