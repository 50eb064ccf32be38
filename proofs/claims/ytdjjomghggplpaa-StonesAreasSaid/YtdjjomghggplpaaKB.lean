/-
  Stones: what the program's spread and group tell.
-/
import Derived.Test.YtdjjomghggplpaaKA
namespace Go.Proofs.Ytdjjomghggplpaa
open Go Go.GL

theorem getbs {l : List Bool} {i p : Nat} {v : Bool} (hi : i < l.length) : getb (l.set i v) (p : Int) = if p = i then v else getb l (p : Int) := by
  unfold getb
  rw [List.getD_eq_getElem?_getD, List.getD_eq_getElem?_getD, Int.toNat_natCast, List.getElem?_set]
  by_cases e : i = p
  · subst e; simp [hi]
  · rw [if_neg e, if_neg (by omega)]

theorem nodup_len {l : List Int} {L : Nat} (h : l.Nodup) (hb : ∀ q ∈ l, ∃ b : Nat, b < L ∧ q = b) : l.length ≤ L := by
  have e : sortI l = ((List.range L).filter (fun (b : Nat) => decide ((b : Int) ∈ l))).map (fun (b : Nat) => (b : Int)) := by
    refine strict_ext (sortI_lt h) (filt_lt _ _) fun q => ?_
    rw [sortI_mem, List.mem_map]
    constructor
    · intro hq
      obtain ⟨b, h1, rfl⟩ := hb q hq
      exact ⟨b, by rw [List.mem_filter, List.mem_range, decide_eq_true_eq]; exact ⟨h1, hq⟩, rfl⟩
    · rintro ⟨b, h1, rfl⟩
      rw [List.mem_filter, decide_eq_true_eq] at h1
      exact h1.2
  have := congrArg List.length e
  rw [sortI_length, List.length_map] at this
  rw [this]
  refine Nat.le_trans (List.length_filter_le _ _) ?_
  rw [List.length_range]
  exact Nat.le_refl _

section
variable {W H : Int} {c : List Int} {p : Nat} {so : Int → Bool}

/-- What counts as a like. -/
def Mk (c : List Int) (so : Int → Bool) (b : Nat) : Prop := b < c.length ∧ so (geti c b) = true
/-- Joined to a place through its like. -/
def Rch (W : Int) (c : List Int) (so : Int → Bool) (p b : Nat) : Prop := Reach (Adj W) (Mk c so) p b

structure BInv (W : Int) (c : List Int) (so : Int → Bool) (p : Nat) (s : List Int × List Int × List Bool) : Prop where
  len : s.2.2.length = c.length
  seen : ∀ b : Nat, b < c.length → (getb s.2.2 b = true ↔ (b : Int) ∈ s.1 ∨ (b : Int) ∈ s.2.1)
  ins : ∀ q ∈ s.1, ∃ b : Nat, b < c.length ∧ q = b ∧ Rch W c so p b ∧ so (geti c b) = true
  out : ∀ q ∈ s.2.1, ∃ b : Nat, b < c.length ∧ q = b ∧ ¬ so (geti c b) = true ∧ ∃ a, Rch W c so p a ∧ Adj W a b
  ni : s.1.Nodup
  no : s.2.1.Nodup
  hp : (p : Int) ∈ s.1

theorem BInv.l1 {s : List Int × List Int × List Bool} (h : BInv W c so p s) : s.1.length ≤ c.length := nodup_len h.ni fun q hq => by
  obtain ⟨b, h1, h2, _⟩ := h.ins q hq
  exact ⟨b, h1, h2⟩
theorem BInv.l2 {s : List Int × List Int × List Bool} (h : BInv W c so p s) : s.2.1.length ≤ c.length := nodup_len h.no fun q hq => by
  obtain ⟨b, h1, h2, _⟩ := h.out q hq
  exact ⟨b, h1, h2⟩

theorem BInv.addI {s : List Int × List Int × List Bool} (h : BInv W c so p s) {a b : Nat} (hb : b < c.length) (hs : ¬ getb s.2.2 b = true) (hv : so (geti c b) = true) (ha : Rch W c so p a) (had : Adj W a b) : BInv W c so p (s.1 ++ [(b : Int)], s.2.1, s.2.2.set b true) := by
  have hbl : b < s.2.2.length := by rw [h.len]; exact hb
  have hni : (b : Int) ∉ s.1 := fun q => hs ((h.seen b hb).2 (Or.inl q))
  refine ⟨by simpa using h.len, fun d hd => ?_, fun q hq => ?_, h.out, ?_, h.no, List.mem_append_left _ h.hp⟩
  · simp only
    rw [getbs hbl, List.mem_append]
    by_cases e : d = b
    · subst e; simp
    · rw [if_neg e, h.seen d hd]
      constructor
      · rintro (q | q)
        · exact Or.inl (Or.inl q)
        · exact Or.inr q
      · rintro ((q | q) | q)
        · exact Or.inl q
        · simp at q; omega
        · exact Or.inr q
  · rcases List.mem_append.1 hq with q1 | q1
    · exact h.ins q q1
    · simp at q1
      exact ⟨b, hb, q1, .step ha had ⟨hb, hv⟩, hv⟩
  · rw [List.nodup_append]
    refine ⟨h.ni, by simp, ?_⟩
    intro x hx y hy e
    simp at hy
    rw [e, hy] at hx
    exact hni hx

theorem BInv.addO {s : List Int × List Int × List Bool} (h : BInv W c so p s) {a b : Nat} (hb : b < c.length) (hs : ¬ getb s.2.2 b = true) (hv : ¬ so (geti c b) = true) (ha : Rch W c so p a) (had : Adj W a b) : BInv W c so p (s.1, s.2.1 ++ [(b : Int)], s.2.2.set b true) := by
  have hbl : b < s.2.2.length := by rw [h.len]; exact hb
  have hno : (b : Int) ∉ s.2.1 := fun q => hs ((h.seen b hb).2 (Or.inr q))
  refine ⟨by simpa using h.len, fun d hd => ?_, h.ins, fun q hq => ?_, h.ni, ?_, h.hp⟩
  · simp only
    rw [getbs hbl, List.mem_append]
    by_cases e : d = b
    · subst e; simp
    · rw [if_neg e, h.seen d hd]
      constructor
      · rintro (q | q)
        · exact Or.inl q
        · exact Or.inr (Or.inl q)
      · rintro (q | q | q)
        · exact Or.inl q
        · exact Or.inr q
        · simp at q; omega
  · rcases List.mem_append.1 hq with q1 | q1
    · exact h.out q q1
    · simp at q1
      exact ⟨b, hb, q1, hv, a, ha, had⟩
  · rw [List.nodup_append]
    refine ⟨h.no, by simp, ?_⟩
    intro x hx y hy e
    simp at hy
    rw [e, hy] at hx
    exact hno hx

open Classical in
/-- The places joined to one. -/
noncomputable def grpL (W : Int) (c : List Int) (so : Int → Bool) (p : Nat) : List Int := ((List.range c.length).filter (fun b => decide (Rch W c so p b))).map (fun (b : Nat) => (b : Int))
def Brd (W : Int) (c : List Int) (so : Int → Bool) (p b : Nat) : Prop := ¬ so (geti c b) = true ∧ ∃ a, Rch W c so p a ∧ Adj W a b
open Classical in
noncomputable def brdL (W : Int) (c : List Int) (so : Int → Bool) (p : Nat) : List Int := ((List.range c.length).filter (fun b => decide (Brd W c so p b))).map (fun (b : Nat) => (b : Int))
theorem rch_lt (hp : p < c.length) {b : Nat} (h : Rch W c so p b) : b < c.length := by
  cases h with
  | base => exact hp
  | step _ _ h => exact h.1

theorem flen (n : Nat) (q : Nat → Bool) : (((List.range n).filter q).map (fun (b : Nat) => (b : Int))).length ≤ n := by
  rw [List.length_map]
  refine Nat.le_trans (List.length_filter_le _ _) ?_
  rw [List.length_range]; exact Nat.le_refl _

def so1 (x : Int) : Bool := x == 0
def so2 (v x : Int) : Bool := x == v
def so3 (v x : Int) : Bool := x != v
theorem inner_p_1 (B : Dm W H c) {a : Nat} (_ha : a < c.length) (hra : Rch W c so1 p a) {l : List Int} (hl : ∀ q : Int, q ∈ l ↔ ∃ b : Nat, b < c.length ∧ q = b ∧ Adj W a b) (hl4 : l.length ≤ 4) {s0 : List Int × List Int × List Bool} (h0 : BInv W c so1 p s0) :
    ∃ s, loop (stones_spread_L2 c  l) (s0.1, s0.2.1, s0.2.2, 0) = some s ∧ BInv W c so1 p s ∧ (∃ t, s.1 = s0.1 ++ t) ∧ (∀ b : Nat, b < c.length → getb s0.2.2 b = true → getb s.2.2 b = true) ∧ ∀ b : Nat, b < c.length → Adj W a b → getb s.2.2 b = true := by
  have hsm := B.small
  have key := count_loop (step := stones_spread_L2 c  l) (fun (s : List Int × List Int × List Bool) (i : Nat) => (s.1, s.2.1, s.2.2, (i : Int)))
    (fun n s => BInv W c so1 p s ∧ (∃ t, s.1 = s0.1 ++ t) ∧ (∀ b : Nat, b < c.length → getb s0.2.2 b = true → getb s.2.2 b = true) ∧ ∀ z : Nat, z < n → getb s.2.2 (geti l z) = true)
    (fun s => BInv W c so1 p s ∧ (∃ t, s.1 = s0.1 ++ t) ∧ (∀ b : Nat, b < c.length → getb s0.2.2 b = true → getb s.2.2 b = true) ∧ ∀ b : Nat, b < c.length → Adj W a b → getb s.2.2 b = true) l.length s0 ⟨h0, ⟨[], by simp⟩, fun _ _ h => h, fun z hz => by omega⟩ (by
      rintro i ⟨ins, out, seen⟩ hi ⟨h1, ⟨t, h2⟩, h3, h4⟩
      left
      have l1 := h1.l1
      have l2 := h1.l2
      simp only at l1 l2 h2 h3 h4 ⊢
      obtain ⟨b, hb, hq, had⟩ := (hl _).1 (List.mem_of_getElem? (get_geti hi))
      have e1 : stones_spread_L2 c  l (ins, out, seen, (i : Int)) = stones_spread_J4 c  l ins out seen i := if_pos (decide_eq_true (by omega))
      have hsl : seen.length = c.length := h1.len
      rw [e1]
      unfold stones_spread_J4
      rw [hq, asrt_pos (by omega), asrt_pos (by omega)]
      have mono : ∀ d : Nat, d < c.length → getb seen d = true → getb (seen.set b true) d = true := by
        intro d hd hs
        rw [getbs (by omega)]
        split
        · rfl
        · exact hs
      by_cases hs : getb seen b = true
      · rw [if_pos hs]
        unfold stones_spread_J5
        rw [w64_of (by omega)]
        refine ⟨(ins, out, seen), rfl, h1, ⟨t, h2⟩, h3, fun z hz => ?_⟩
        by_cases e : z = i
        · rw [e, hq]; exact hs
        · exact h4 z (by omega)
      · rw [if_neg hs]
        unfold stones_spread_J6 stones_spread_J5 stones_Areas_1_m
        rw [hq, asrt_pos (by omega), asrt_pos (by omega), Option.bind_some, w64_of (by omega), Int.toNat_natCast]
        have h4' : ∀ z : Nat, z < i + 1 → getb (seen.set b true) (geti l z) = true := by
          intro z hz
          by_cases e : z = i
          · rw [e, hq, getbs (by omega), if_pos rfl]
          · obtain ⟨d, hd, hdq, _⟩ := (hl _).1 (List.mem_of_getElem? (get_geti (show z < l.length by omega)))
            have := h4 z (by omega)
            rw [hdq] at this ⊢
            exact mono d hd this
        by_cases hv : so1 (geti c b) = true
        · rw [if_pos (show (geti c (b : Int) == 0) = true from hv), asrt_pos (by unfold bigN; omega)]
          exact ⟨(ins ++ [(b : Int)], out, seen.set b true), rfl, h1.addI hb hs hv hra had, ⟨t ++ [(b : Int)], by simp [h2]⟩, fun d hd h => mono d hd (h3 d hd h), h4'⟩
        · rw [if_neg (show ¬ (geti c (b : Int) == 0) = true from hv), asrt_pos (by unfold bigN; omega)]
          exact ⟨(ins, out ++ [(b : Int)], seen.set b true), rfl, h1.addO hb hs hv hra had, ⟨t, h2⟩, fun d hd h => mono d hd (h3 d hd h), h4'⟩) (by
      rintro s ⟨h1, h2, h3, h4⟩
      refine ⟨s, ?_, h1, h2, h3, fun b hb had => ?_⟩
      · simp only [stones_spread_L2]
        rw [if_neg (by simp)]
      · have hm := (hl (b : Int)).2 ⟨b, hb, rfl, had⟩
        obtain ⟨z, hz, e⟩ := List.getElem_of_mem hm
        have := h4 z hz
        rw [geti_some (List.getElem?_eq_getElem hz), e] at this
        exact this)
  obtain ⟨s, hs, h⟩ := key
  exact ⟨s, hs, h⟩

theorem spread_scan_1 (B : Dm W H c) (hp : p < c.length) (hv : so1 (geti c p) = true) :
    ∃ ins out seen, loop (stones_spread_L1 W H c ) ([(p : Int)], [], (List.replicate c.length false).set p true, 0) = some (ins, out) ∧ BInv W c so1 p (ins, out, seen) ∧ ∀ a : Nat, (a : Int) ∈ ins → ∀ b : Nat, b < c.length → Adj W a b → getb seen b = true := by
  have hsm := B.small
  have hf : ∀ b : Nat, b < c.length → getb (List.replicate c.length false) (b : Int) = false := fun b hb => getb_some (by rw [List.getElem?_replicate, if_pos hb])
  have start : BInv W c so1 p ([(p : Int)], [], (List.replicate c.length false).set p true) := by
    refine ⟨by simp, fun b hb => ?_, fun q hq => ?_, by simp, by simp, by simp, by simp⟩
    · simp only
      rw [getbs (by simpa using hp)]
      by_cases e : b = p
      · subst e; simp
      · rw [if_neg e, hf b hb]; simp; omega
    · simp at hq
      exact ⟨p, hp, hq, .base, hv⟩
  have key := count_loop (step := stones_spread_L1 W H c ) (fun (s : List Int × List Int × List Bool) (i : Nat) => (s.1, s.2.1, s.2.2, (i : Int)))
    (fun n s => BInv W c so1 p s ∧ n ≤ s.1.length ∧ ∀ z a : Nat, z < n → s.1[z]? = some (a : Int) → ∀ b : Nat, b < c.length → Adj W a b → getb s.2.2 b = true)
    (fun r => ∃ seen, BInv W c so1 p (r.1, r.2, seen) ∧ ∀ a : Nat, (a : Int) ∈ r.1 → ∀ b : Nat, b < c.length → Adj W a b → getb seen b = true) c.length ([(p : Int)], [], (List.replicate c.length false).set p true) ⟨start, by simp, fun z a hz => by omega⟩ (by
      rintro i ⟨ins, out, seen⟩ hi ⟨h1, h2, h3⟩
      have l1 := h1.l1
      simp only at l1 h2 h3 ⊢
      by_cases hil : i < ins.length
      · left
        have hg := get_geti hil
        obtain ⟨a, ha, hq, hra, _⟩ := h1.ins _ (List.mem_of_getElem? hg)
        obtain ⟨l, n1, n2, n3⟩ := near_p B ha
        obtain ⟨s, k1, k2, ⟨t, k3⟩, k4, k5⟩ := inner_p_1 B ha hra n3 n2 h1
        refine ⟨s, ?_, k2, ?_, fun z d hz hzd b hb had => ?_⟩
        · have e1 : stones_spread_L1 W H c  (ins, out, seen, (i : Int)) = stones_spread_J2 W H c  ins out seen i := if_pos (decide_eq_true (by omega))
          rw [e1]
          unfold stones_spread_J2
          rw [asrt_pos (by omega), hq, n1, Option.bind_some, k1, Option.bind_some]
          simp only [stones_spread_K2, stones_spread_J3]
          rw [w64_of (by omega)]
          rfl
        · rw [k3, List.length_append]; simp only; omega
        · simp only at k3
          rw [k3] at hzd
          by_cases e : z = i
          · subst e
            rw [List.getElem?_append_left hil, hg, hq] at hzd
            injection hzd with hzd
            obtain rfl : a = d := by omega
            exact k5 b hb had
          · rw [List.getElem?_append_left (by omega)] at hzd
            exact k4 b hb (h3 z d (by omega) hzd b hb had)
      · right
        refine ⟨(ins, out), ?_, seen, h1, fun a ha b hb had => ?_⟩
        · simp only [stones_spread_L1]
          rw [if_neg (by simp; omega)]
        · have ha' : (a : Int) ∈ ins := ha
          obtain ⟨z, hz, e⟩ := List.getElem_of_mem ha'
          exact h3 z a (by omega) (by rw [List.getElem?_eq_getElem hz, e]) b hb had) (by
      rintro ⟨ins, out, seen⟩ ⟨h1, h2, h3⟩
      have l1 := h1.l1
      simp only at l1 h2 h3 ⊢
      refine ⟨(ins, out), ?_, seen, h1, fun a ha b hb had => ?_⟩
      · simp only [stones_spread_L1]
        rw [if_neg (by simp; omega)]
      · have ha' : (a : Int) ∈ ins := ha
        obtain ⟨z, hz, e⟩ := List.getElem_of_mem ha'
        exact h3 z a (by omega) (by rw [List.getElem?_eq_getElem hz, e]) b hb had)
  obtain ⟨⟨ins, out⟩, hr, seen, h1, h2⟩ := key
  exact ⟨ins, out, seen, hr, h1, h2⟩

theorem spread_p_1 (B : Dm W H c) (hp : p < c.length) (hv : so1 (geti c p) = true) : stones_spread_m W H c p  = some (grpL W c so1 p, brdL W c so1 p) := by
  classical
  have hsm := B.small
  obtain ⟨ins, out, seen, hl, hI, hC⟩ := spread_scan_1 B hp hv
  have l1 := hI.l1
  have l2 := hI.l2
  simp only at l1 l2
  unfold stones_spread_m
  rw [Int.toNat_natCast, Int.toNat_natCast, asrt_pos (by unfold bigN; omega), asrt_pos (by omega), hl, Option.bind_some]
  simp only [stones_spread_K1]
  unfold stones_spread_J1 slices_Sort_2_m
  rw [asrt_pos (by unfold bigN; omega), Option.bind_some, asrt_pos (by unfold bigN; omega), Option.bind_some]
  have all : ∀ b : Nat, Rch W c so1 p b → (b : Int) ∈ ins := by
    intro b h
    induction h with
    | base => exact hI.hp
    | step h1 h2 h3 ih =>
      rename_i a b
      have hs := hC _ ih _ h3.1 h2
      rcases (hI.seen _ h3.1).1 hs with q | q
      · exact q
      · obtain ⟨d, _, hd, hne, _⟩ := hI.out _ q
        have : d = b := by omega
        subst this
        exact absurd h3.2 hne
  have e1 : sortI ins = grpL W c so1 p := by
    unfold grpL
    refine strict_ext (sortI_lt hI.ni) (filt_lt _ _) fun q => ?_
    rw [sortI_mem, List.mem_map]
    constructor
    · intro hq
      obtain ⟨b, h1, rfl, h3, _⟩ := hI.ins q hq
      exact ⟨b, by rw [List.mem_filter, List.mem_range, decide_eq_true_eq]; exact ⟨h1, h3⟩, rfl⟩
    · rintro ⟨b, h1, rfl⟩
      rw [List.mem_filter, decide_eq_true_eq] at h1
      exact all b h1.2
  have e2 : sortI out = brdL W c so1 p := by
    unfold brdL
    refine strict_ext (sortI_lt hI.no) (filt_lt _ _) fun q => ?_
    rw [sortI_mem, List.mem_map]
    constructor
    · intro hq
      obtain ⟨b, h1, rfl, h3, h4⟩ := hI.out q hq
      exact ⟨b, by rw [List.mem_filter, List.mem_range, decide_eq_true_eq]; exact ⟨h1, h3, h4⟩, rfl⟩
    · rintro ⟨b, h1, rfl⟩
      rw [List.mem_filter, List.mem_range, decide_eq_true_eq] at h1
      obtain ⟨hb, hne, a, hra, had⟩ := h1
      have hs := hC a (all a hra) b hb had
      rcases (hI.seen b hb).1 hs with q | q
      · obtain ⟨d, _, hd, _, hdv⟩ := hI.ins _ q
        have : d = b := by omega
        subst this
        exact absurd hdv hne
      · exact q
  rw [e1, e2]

section
variable {v : Int}
theorem inner_p_2 (B : Dm W H c) {a : Nat} (_ha : a < c.length) (hra : Rch W c (so2 v) p a) {l : List Int} (hl : ∀ q : Int, q ∈ l ↔ ∃ b : Nat, b < c.length ∧ q = b ∧ Adj W a b) (hl4 : l.length ≤ 4) {s0 : List Int × List Int × List Bool} (h0 : BInv W c (so2 v) p s0) :
    ∃ s, loop (stones_spread_2_L2 c v l) (s0.1, s0.2.1, s0.2.2, 0) = some s ∧ BInv W c (so2 v) p s ∧ (∃ t, s.1 = s0.1 ++ t) ∧ (∀ b : Nat, b < c.length → getb s0.2.2 b = true → getb s.2.2 b = true) ∧ ∀ b : Nat, b < c.length → Adj W a b → getb s.2.2 b = true := by
  have hsm := B.small
  have key := count_loop (step := stones_spread_2_L2 c v l) (fun (s : List Int × List Int × List Bool) (i : Nat) => (s.1, s.2.1, s.2.2, (i : Int)))
    (fun n s => BInv W c (so2 v) p s ∧ (∃ t, s.1 = s0.1 ++ t) ∧ (∀ b : Nat, b < c.length → getb s0.2.2 b = true → getb s.2.2 b = true) ∧ ∀ z : Nat, z < n → getb s.2.2 (geti l z) = true)
    (fun s => BInv W c (so2 v) p s ∧ (∃ t, s.1 = s0.1 ++ t) ∧ (∀ b : Nat, b < c.length → getb s0.2.2 b = true → getb s.2.2 b = true) ∧ ∀ b : Nat, b < c.length → Adj W a b → getb s.2.2 b = true) l.length s0 ⟨h0, ⟨[], by simp⟩, fun _ _ h => h, fun z hz => by omega⟩ (by
      rintro i ⟨ins, out, seen⟩ hi ⟨h1, ⟨t, h2⟩, h3, h4⟩
      left
      have l1 := h1.l1
      have l2 := h1.l2
      simp only at l1 l2 h2 h3 h4 ⊢
      obtain ⟨b, hb, hq, had⟩ := (hl _).1 (List.mem_of_getElem? (get_geti hi))
      have e1 : stones_spread_2_L2 c v l (ins, out, seen, (i : Int)) = stones_spread_2_J4 c v l ins out seen i := if_pos (decide_eq_true (by omega))
      have hsl : seen.length = c.length := h1.len
      rw [e1]
      unfold stones_spread_2_J4
      rw [hq, asrt_pos (by omega), asrt_pos (by omega)]
      have mono : ∀ d : Nat, d < c.length → getb seen d = true → getb (seen.set b true) d = true := by
        intro d hd hs
        rw [getbs (by omega)]
        split
        · rfl
        · exact hs
      by_cases hs : getb seen b = true
      · rw [if_pos hs]
        unfold stones_spread_2_J5
        rw [w64_of (by omega)]
        refine ⟨(ins, out, seen), rfl, h1, ⟨t, h2⟩, h3, fun z hz => ?_⟩
        by_cases e : z = i
        · rw [e, hq]; exact hs
        · exact h4 z (by omega)
      · rw [if_neg hs]
        unfold stones_spread_2_J6 stones_spread_2_J5 stones_Alive_1_m
        rw [hq, asrt_pos (by omega), asrt_pos (by omega), Option.bind_some, w64_of (by omega), Int.toNat_natCast]
        have h4' : ∀ z : Nat, z < i + 1 → getb (seen.set b true) (geti l z) = true := by
          intro z hz
          by_cases e : z = i
          · rw [e, hq, getbs (by omega), if_pos rfl]
          · obtain ⟨d, hd, hdq, _⟩ := (hl _).1 (List.mem_of_getElem? (get_geti (show z < l.length by omega)))
            have := h4 z (by omega)
            rw [hdq] at this ⊢
            exact mono d hd this
        by_cases hv : (so2 v) (geti c b) = true
        · rw [if_pos (show (geti c (b : Int) == v) = true from hv), asrt_pos (by unfold bigN; omega)]
          exact ⟨(ins ++ [(b : Int)], out, seen.set b true), rfl, h1.addI hb hs hv hra had, ⟨t ++ [(b : Int)], by simp [h2]⟩, fun d hd h => mono d hd (h3 d hd h), h4'⟩
        · rw [if_neg (show ¬ (geti c (b : Int) == v) = true from hv), asrt_pos (by unfold bigN; omega)]
          exact ⟨(ins, out ++ [(b : Int)], seen.set b true), rfl, h1.addO hb hs hv hra had, ⟨t, h2⟩, fun d hd h => mono d hd (h3 d hd h), h4'⟩) (by
      rintro s ⟨h1, h2, h3, h4⟩
      refine ⟨s, ?_, h1, h2, h3, fun b hb had => ?_⟩
      · simp only [stones_spread_2_L2]
        rw [if_neg (by simp)]
      · have hm := (hl (b : Int)).2 ⟨b, hb, rfl, had⟩
        obtain ⟨z, hz, e⟩ := List.getElem_of_mem hm
        have := h4 z hz
        rw [geti_some (List.getElem?_eq_getElem hz), e] at this
        exact this)
  obtain ⟨s, hs, h⟩ := key
  exact ⟨s, hs, h⟩

theorem spread_scan_2 (B : Dm W H c) (hp : p < c.length) (hv : (so2 v) (geti c p) = true) :
    ∃ ins out seen, loop (stones_spread_2_L1 W H c v) ([(p : Int)], [], (List.replicate c.length false).set p true, 0) = some (ins, out) ∧ BInv W c (so2 v) p (ins, out, seen) ∧ ∀ a : Nat, (a : Int) ∈ ins → ∀ b : Nat, b < c.length → Adj W a b → getb seen b = true := by
  have hsm := B.small
  have hf : ∀ b : Nat, b < c.length → getb (List.replicate c.length false) (b : Int) = false := fun b hb => getb_some (by rw [List.getElem?_replicate, if_pos hb])
  have start : BInv W c (so2 v) p ([(p : Int)], [], (List.replicate c.length false).set p true) := by
    refine ⟨by simp, fun b hb => ?_, fun q hq => ?_, by simp, by simp, by simp, by simp⟩
    · simp only
      rw [getbs (by simpa using hp)]
      by_cases e : b = p
      · subst e; simp
      · rw [if_neg e, hf b hb]; simp; omega
    · simp at hq
      exact ⟨p, hp, hq, .base, hv⟩
  have key := count_loop (step := stones_spread_2_L1 W H c v) (fun (s : List Int × List Int × List Bool) (i : Nat) => (s.1, s.2.1, s.2.2, (i : Int)))
    (fun n s => BInv W c (so2 v) p s ∧ n ≤ s.1.length ∧ ∀ z a : Nat, z < n → s.1[z]? = some (a : Int) → ∀ b : Nat, b < c.length → Adj W a b → getb s.2.2 b = true)
    (fun r => ∃ seen, BInv W c (so2 v) p (r.1, r.2, seen) ∧ ∀ a : Nat, (a : Int) ∈ r.1 → ∀ b : Nat, b < c.length → Adj W a b → getb seen b = true) c.length ([(p : Int)], [], (List.replicate c.length false).set p true) ⟨start, by simp, fun z a hz => by omega⟩ (by
      rintro i ⟨ins, out, seen⟩ hi ⟨h1, h2, h3⟩
      have l1 := h1.l1
      simp only at l1 h2 h3 ⊢
      by_cases hil : i < ins.length
      · left
        have hg := get_geti hil
        obtain ⟨a, ha, hq, hra, _⟩ := h1.ins _ (List.mem_of_getElem? hg)
        obtain ⟨l, n1, n2, n3⟩ := near_p B ha
        obtain ⟨s, k1, k2, ⟨t, k3⟩, k4, k5⟩ := inner_p_2 B ha hra n3 n2 h1
        refine ⟨s, ?_, k2, ?_, fun z d hz hzd b hb had => ?_⟩
        · have e1 : stones_spread_2_L1 W H c v (ins, out, seen, (i : Int)) = stones_spread_2_J2 W H c v ins out seen i := if_pos (decide_eq_true (by omega))
          rw [e1]
          unfold stones_spread_2_J2
          rw [asrt_pos (by omega), hq, n1, Option.bind_some, k1, Option.bind_some]
          simp only [stones_spread_2_K2, stones_spread_2_J3]
          rw [w64_of (by omega)]
          rfl
        · rw [k3, List.length_append]; simp only; omega
        · simp only at k3
          rw [k3] at hzd
          by_cases e : z = i
          · subst e
            rw [List.getElem?_append_left hil, hg, hq] at hzd
            injection hzd with hzd
            obtain rfl : a = d := by omega
            exact k5 b hb had
          · rw [List.getElem?_append_left (by omega)] at hzd
            exact k4 b hb (h3 z d (by omega) hzd b hb had)
      · right
        refine ⟨(ins, out), ?_, seen, h1, fun a ha b hb had => ?_⟩
        · simp only [stones_spread_2_L1]
          rw [if_neg (by simp; omega)]
        · have ha' : (a : Int) ∈ ins := ha
          obtain ⟨z, hz, e⟩ := List.getElem_of_mem ha'
          exact h3 z a (by omega) (by rw [List.getElem?_eq_getElem hz, e]) b hb had) (by
      rintro ⟨ins, out, seen⟩ ⟨h1, h2, h3⟩
      have l1 := h1.l1
      simp only at l1 h2 h3 ⊢
      refine ⟨(ins, out), ?_, seen, h1, fun a ha b hb had => ?_⟩
      · simp only [stones_spread_2_L1]
        rw [if_neg (by simp; omega)]
      · have ha' : (a : Int) ∈ ins := ha
        obtain ⟨z, hz, e⟩ := List.getElem_of_mem ha'
        exact h3 z a (by omega) (by rw [List.getElem?_eq_getElem hz, e]) b hb had)
  obtain ⟨⟨ins, out⟩, hr, seen, h1, h2⟩ := key
  exact ⟨ins, out, seen, hr, h1, h2⟩

theorem spread_p_2 (B : Dm W H c) (hp : p < c.length) (hv : (so2 v) (geti c p) = true) : stones_spread_2_m W H c p v = some (grpL W c (so2 v) p, brdL W c (so2 v) p) := by
  classical
  have hsm := B.small
  obtain ⟨ins, out, seen, hl, hI, hC⟩ := spread_scan_2 B hp hv
  have l1 := hI.l1
  have l2 := hI.l2
  simp only at l1 l2
  unfold stones_spread_2_m
  rw [Int.toNat_natCast, Int.toNat_natCast, asrt_pos (by unfold bigN; omega), asrt_pos (by omega), hl, Option.bind_some]
  simp only [stones_spread_2_K1]
  unfold stones_spread_2_J1 slices_Sort_2_m
  rw [asrt_pos (by unfold bigN; omega), Option.bind_some, asrt_pos (by unfold bigN; omega), Option.bind_some]
  have all : ∀ b : Nat, Rch W c (so2 v) p b → (b : Int) ∈ ins := by
    intro b h
    induction h with
    | base => exact hI.hp
    | step h1 h2 h3 ih =>
      rename_i a b
      have hs := hC _ ih _ h3.1 h2
      rcases (hI.seen _ h3.1).1 hs with q | q
      · exact q
      · obtain ⟨d, _, hd, hne, _⟩ := hI.out _ q
        have : d = b := by omega
        subst this
        exact absurd h3.2 hne
  have e1 : sortI ins = grpL W c (so2 v) p := by
    unfold grpL
    refine strict_ext (sortI_lt hI.ni) (filt_lt _ _) fun q => ?_
    rw [sortI_mem, List.mem_map]
    constructor
    · intro hq
      obtain ⟨b, h1, rfl, h3, _⟩ := hI.ins q hq
      exact ⟨b, by rw [List.mem_filter, List.mem_range, decide_eq_true_eq]; exact ⟨h1, h3⟩, rfl⟩
    · rintro ⟨b, h1, rfl⟩
      rw [List.mem_filter, decide_eq_true_eq] at h1
      exact all b h1.2
  have e2 : sortI out = brdL W c (so2 v) p := by
    unfold brdL
    refine strict_ext (sortI_lt hI.no) (filt_lt _ _) fun q => ?_
    rw [sortI_mem, List.mem_map]
    constructor
    · intro hq
      obtain ⟨b, h1, rfl, h3, h4⟩ := hI.out q hq
      exact ⟨b, by rw [List.mem_filter, List.mem_range, decide_eq_true_eq]; exact ⟨h1, h3, h4⟩, rfl⟩
    · rintro ⟨b, h1, rfl⟩
      rw [List.mem_filter, List.mem_range, decide_eq_true_eq] at h1
      obtain ⟨hb, hne, a, hra, had⟩ := h1
      have hs := hC a (all a hra) b hb had
      rcases (hI.seen b hb).1 hs with q | q
      · obtain ⟨d, _, hd, _, hdv⟩ := hI.ins _ q
        have : d = b := by omega
        subst this
        exact absurd hdv hne
      · exact q
  rw [e1, e2]

end
section
variable {v : Int}
theorem inner_p_3 (B : Dm W H c) {a : Nat} (_ha : a < c.length) (hra : Rch W c (so3 v) p a) {l : List Int} (hl : ∀ q : Int, q ∈ l ↔ ∃ b : Nat, b < c.length ∧ q = b ∧ Adj W a b) (hl4 : l.length ≤ 4) {s0 : List Int × List Int × List Bool} (h0 : BInv W c (so3 v) p s0) :
    ∃ s, loop (stones_spread_3_L2 c v l) (s0.1, s0.2.1, s0.2.2, 0) = some s ∧ BInv W c (so3 v) p s ∧ (∃ t, s.1 = s0.1 ++ t) ∧ (∀ b : Nat, b < c.length → getb s0.2.2 b = true → getb s.2.2 b = true) ∧ ∀ b : Nat, b < c.length → Adj W a b → getb s.2.2 b = true := by
  have hsm := B.small
  have key := count_loop (step := stones_spread_3_L2 c v l) (fun (s : List Int × List Int × List Bool) (i : Nat) => (s.1, s.2.1, s.2.2, (i : Int)))
    (fun n s => BInv W c (so3 v) p s ∧ (∃ t, s.1 = s0.1 ++ t) ∧ (∀ b : Nat, b < c.length → getb s0.2.2 b = true → getb s.2.2 b = true) ∧ ∀ z : Nat, z < n → getb s.2.2 (geti l z) = true)
    (fun s => BInv W c (so3 v) p s ∧ (∃ t, s.1 = s0.1 ++ t) ∧ (∀ b : Nat, b < c.length → getb s0.2.2 b = true → getb s.2.2 b = true) ∧ ∀ b : Nat, b < c.length → Adj W a b → getb s.2.2 b = true) l.length s0 ⟨h0, ⟨[], by simp⟩, fun _ _ h => h, fun z hz => by omega⟩ (by
      rintro i ⟨ins, out, seen⟩ hi ⟨h1, ⟨t, h2⟩, h3, h4⟩
      left
      have l1 := h1.l1
      have l2 := h1.l2
      simp only at l1 l2 h2 h3 h4 ⊢
      obtain ⟨b, hb, hq, had⟩ := (hl _).1 (List.mem_of_getElem? (get_geti hi))
      have e1 : stones_spread_3_L2 c v l (ins, out, seen, (i : Int)) = stones_spread_3_J4 c v l ins out seen i := if_pos (decide_eq_true (by omega))
      have hsl : seen.length = c.length := h1.len
      rw [e1]
      unfold stones_spread_3_J4
      rw [hq, asrt_pos (by omega), asrt_pos (by omega)]
      have mono : ∀ d : Nat, d < c.length → getb seen d = true → getb (seen.set b true) d = true := by
        intro d hd hs
        rw [getbs (by omega)]
        split
        · rfl
        · exact hs
      by_cases hs : getb seen b = true
      · rw [if_pos hs]
        unfold stones_spread_3_J5
        rw [w64_of (by omega)]
        refine ⟨(ins, out, seen), rfl, h1, ⟨t, h2⟩, h3, fun z hz => ?_⟩
        by_cases e : z = i
        · rw [e, hq]; exact hs
        · exact h4 z (by omega)
      · rw [if_neg hs]
        unfold stones_spread_3_J6 stones_spread_3_J5 stones_Alive_2_m
        rw [hq, asrt_pos (by omega), asrt_pos (by omega), Option.bind_some, w64_of (by omega), Int.toNat_natCast]
        have h4' : ∀ z : Nat, z < i + 1 → getb (seen.set b true) (geti l z) = true := by
          intro z hz
          by_cases e : z = i
          · rw [e, hq, getbs (by omega), if_pos rfl]
          · obtain ⟨d, hd, hdq, _⟩ := (hl _).1 (List.mem_of_getElem? (get_geti (show z < l.length by omega)))
            have := h4 z (by omega)
            rw [hdq] at this ⊢
            exact mono d hd this
        by_cases hv : (so3 v) (geti c b) = true
        · rw [if_pos (show (geti c (b : Int) != v) = true from hv), asrt_pos (by unfold bigN; omega)]
          exact ⟨(ins ++ [(b : Int)], out, seen.set b true), rfl, h1.addI hb hs hv hra had, ⟨t ++ [(b : Int)], by simp [h2]⟩, fun d hd h => mono d hd (h3 d hd h), h4'⟩
        · rw [if_neg (show ¬ (geti c (b : Int) != v) = true from hv), asrt_pos (by unfold bigN; omega)]
          exact ⟨(ins, out ++ [(b : Int)], seen.set b true), rfl, h1.addO hb hs hv hra had, ⟨t, h2⟩, fun d hd h => mono d hd (h3 d hd h), h4'⟩) (by
      rintro s ⟨h1, h2, h3, h4⟩
      refine ⟨s, ?_, h1, h2, h3, fun b hb had => ?_⟩
      · simp only [stones_spread_3_L2]
        rw [if_neg (by simp)]
      · have hm := (hl (b : Int)).2 ⟨b, hb, rfl, had⟩
        obtain ⟨z, hz, e⟩ := List.getElem_of_mem hm
        have := h4 z hz
        rw [geti_some (List.getElem?_eq_getElem hz), e] at this
        exact this)
  obtain ⟨s, hs, h⟩ := key
  exact ⟨s, hs, h⟩

theorem spread_scan_3 (B : Dm W H c) (hp : p < c.length) (hv : (so3 v) (geti c p) = true) :
    ∃ ins out seen, loop (stones_spread_3_L1 W H c v) ([(p : Int)], [], (List.replicate c.length false).set p true, 0) = some (ins, out) ∧ BInv W c (so3 v) p (ins, out, seen) ∧ ∀ a : Nat, (a : Int) ∈ ins → ∀ b : Nat, b < c.length → Adj W a b → getb seen b = true := by
  have hsm := B.small
  have hf : ∀ b : Nat, b < c.length → getb (List.replicate c.length false) (b : Int) = false := fun b hb => getb_some (by rw [List.getElem?_replicate, if_pos hb])
  have start : BInv W c (so3 v) p ([(p : Int)], [], (List.replicate c.length false).set p true) := by
    refine ⟨by simp, fun b hb => ?_, fun q hq => ?_, by simp, by simp, by simp, by simp⟩
    · simp only
      rw [getbs (by simpa using hp)]
      by_cases e : b = p
      · subst e; simp
      · rw [if_neg e, hf b hb]; simp; omega
    · simp at hq
      exact ⟨p, hp, hq, .base, hv⟩
  have key := count_loop (step := stones_spread_3_L1 W H c v) (fun (s : List Int × List Int × List Bool) (i : Nat) => (s.1, s.2.1, s.2.2, (i : Int)))
    (fun n s => BInv W c (so3 v) p s ∧ n ≤ s.1.length ∧ ∀ z a : Nat, z < n → s.1[z]? = some (a : Int) → ∀ b : Nat, b < c.length → Adj W a b → getb s.2.2 b = true)
    (fun r => ∃ seen, BInv W c (so3 v) p (r.1, r.2, seen) ∧ ∀ a : Nat, (a : Int) ∈ r.1 → ∀ b : Nat, b < c.length → Adj W a b → getb seen b = true) c.length ([(p : Int)], [], (List.replicate c.length false).set p true) ⟨start, by simp, fun z a hz => by omega⟩ (by
      rintro i ⟨ins, out, seen⟩ hi ⟨h1, h2, h3⟩
      have l1 := h1.l1
      simp only at l1 h2 h3 ⊢
      by_cases hil : i < ins.length
      · left
        have hg := get_geti hil
        obtain ⟨a, ha, hq, hra, _⟩ := h1.ins _ (List.mem_of_getElem? hg)
        obtain ⟨l, n1, n2, n3⟩ := near_p B ha
        obtain ⟨s, k1, k2, ⟨t, k3⟩, k4, k5⟩ := inner_p_3 B ha hra n3 n2 h1
        refine ⟨s, ?_, k2, ?_, fun z d hz hzd b hb had => ?_⟩
        · have e1 : stones_spread_3_L1 W H c v (ins, out, seen, (i : Int)) = stones_spread_3_J2 W H c v ins out seen i := if_pos (decide_eq_true (by omega))
          rw [e1]
          unfold stones_spread_3_J2
          rw [asrt_pos (by omega), hq, n1, Option.bind_some, k1, Option.bind_some]
          simp only [stones_spread_3_K2, stones_spread_3_J3]
          rw [w64_of (by omega)]
          rfl
        · rw [k3, List.length_append]; simp only; omega
        · simp only at k3
          rw [k3] at hzd
          by_cases e : z = i
          · subst e
            rw [List.getElem?_append_left hil, hg, hq] at hzd
            injection hzd with hzd
            obtain rfl : a = d := by omega
            exact k5 b hb had
          · rw [List.getElem?_append_left (by omega)] at hzd
            exact k4 b hb (h3 z d (by omega) hzd b hb had)
      · right
        refine ⟨(ins, out), ?_, seen, h1, fun a ha b hb had => ?_⟩
        · simp only [stones_spread_3_L1]
          rw [if_neg (by simp; omega)]
        · have ha' : (a : Int) ∈ ins := ha
          obtain ⟨z, hz, e⟩ := List.getElem_of_mem ha'
          exact h3 z a (by omega) (by rw [List.getElem?_eq_getElem hz, e]) b hb had) (by
      rintro ⟨ins, out, seen⟩ ⟨h1, h2, h3⟩
      have l1 := h1.l1
      simp only at l1 h2 h3 ⊢
      refine ⟨(ins, out), ?_, seen, h1, fun a ha b hb had => ?_⟩
      · simp only [stones_spread_3_L1]
        rw [if_neg (by simp; omega)]
      · have ha' : (a : Int) ∈ ins := ha
        obtain ⟨z, hz, e⟩ := List.getElem_of_mem ha'
        exact h3 z a (by omega) (by rw [List.getElem?_eq_getElem hz, e]) b hb had)
  obtain ⟨⟨ins, out⟩, hr, seen, h1, h2⟩ := key
  exact ⟨ins, out, seen, hr, h1, h2⟩

theorem spread_p_3 (B : Dm W H c) (hp : p < c.length) (hv : (so3 v) (geti c p) = true) : stones_spread_3_m W H c p v = some (grpL W c (so3 v) p, brdL W c (so3 v) p) := by
  classical
  have hsm := B.small
  obtain ⟨ins, out, seen, hl, hI, hC⟩ := spread_scan_3 B hp hv
  have l1 := hI.l1
  have l2 := hI.l2
  simp only at l1 l2
  unfold stones_spread_3_m
  rw [Int.toNat_natCast, Int.toNat_natCast, asrt_pos (by unfold bigN; omega), asrt_pos (by omega), hl, Option.bind_some]
  simp only [stones_spread_3_K1]
  unfold stones_spread_3_J1 slices_Sort_2_m
  rw [asrt_pos (by unfold bigN; omega), Option.bind_some, asrt_pos (by unfold bigN; omega), Option.bind_some]
  have all : ∀ b : Nat, Rch W c (so3 v) p b → (b : Int) ∈ ins := by
    intro b h
    induction h with
    | base => exact hI.hp
    | step h1 h2 h3 ih =>
      rename_i a b
      have hs := hC _ ih _ h3.1 h2
      rcases (hI.seen _ h3.1).1 hs with q | q
      · exact q
      · obtain ⟨d, _, hd, hne, _⟩ := hI.out _ q
        have : d = b := by omega
        subst this
        exact absurd h3.2 hne
  have e1 : sortI ins = grpL W c (so3 v) p := by
    unfold grpL
    refine strict_ext (sortI_lt hI.ni) (filt_lt _ _) fun q => ?_
    rw [sortI_mem, List.mem_map]
    constructor
    · intro hq
      obtain ⟨b, h1, rfl, h3, _⟩ := hI.ins q hq
      exact ⟨b, by rw [List.mem_filter, List.mem_range, decide_eq_true_eq]; exact ⟨h1, h3⟩, rfl⟩
    · rintro ⟨b, h1, rfl⟩
      rw [List.mem_filter, decide_eq_true_eq] at h1
      exact all b h1.2
  have e2 : sortI out = brdL W c (so3 v) p := by
    unfold brdL
    refine strict_ext (sortI_lt hI.no) (filt_lt _ _) fun q => ?_
    rw [sortI_mem, List.mem_map]
    constructor
    · intro hq
      obtain ⟨b, h1, rfl, h3, h4⟩ := hI.out q hq
      exact ⟨b, by rw [List.mem_filter, List.mem_range, decide_eq_true_eq]; exact ⟨h1, h3, h4⟩, rfl⟩
    · rintro ⟨b, h1, rfl⟩
      rw [List.mem_filter, List.mem_range, decide_eq_true_eq] at h1
      obtain ⟨hb, hne, a, hra, had⟩ := h1
      have hs := hC a (all a hra) b hb had
      rcases (hI.seen b hb).1 hs with q | q
      · obtain ⟨d, _, hd, _, hdv⟩ := hI.ins _ q
        have : d = b := by omega
        subst this
        exact absurd hdv hne
      · exact q
  rw [e1, e2]

end
end
end Go.Proofs.Ytdjjomghggplpaa
