/-
  Hex: the shortest way, as the program finds it, round by round.
-/
import Derived.Test.YtgogihcmnkncjaaHSc
namespace Go.Proofs.Ytgogihcmnkncjaa
open Go Go.GL

theorem mul_small : ∀ p : Nat, p < 101 → bits_Mul_m (IntKind.wrap .u64 ((([-1] : List Int).length : Nat) : Int)) (IntKind.wrap .u64 (p : Int)) = some (0, (p : Int)) := by decide +kernel
theorem rep_loop : ∀ p : Nat, p < 101 → 1 ≤ p → loopN (slices_Repeat_L1 (0, (p : Int))) 9 (putL (List.replicate (Int.toNat (w64 (p : Int))) (0 : Int)) 0 (List.take (Int.toNat (w64 (p : Int))) [-1]), minI (((Int.toNat (w64 (p : Int))) : Nat) : Int) ((([-1] : List Int).length : Nat) : Int)) = some (List.replicate p (-1)) := by decide +kernel

theorem rep_m1 {p : Nat} (h : 1 ≤ p ∧ p ≤ 100) : slices_Repeat_m ([-1] : List Int) (p : Int) = some (List.replicate p (-1)) := by
  unfold slices_Repeat_m
  rw [if_neg (by simp)]
  unfold slices_Repeat_J1
  rw [mul_small p (by omega), Option.bind_some]
  have e : ((decide ((0 : Int) < (0, (p : Int)).1)) || (decide ((9223372036854775807 : Int) < (0, (p : Int)).2))) = false := by
    rw [Bool.or_eq_false_iff, decide_eq_false_iff_not, decide_eq_false_iff_not]
    constructor
    · show ¬ (0 : Int) < 0
      decide
    · show ¬ (9223372036854775807 : Int) < (p : Int)
      omega
  rw [e, if_neg (by decide)]
  unfold slices_Repeat_J2
  rw [asrt_pos (by
    show (0 : Int) ≤ w64 (p : Int) ∧ w64 (p : Int) ≤ bigN
    rw [w64_of (by omega)]; unfold bigN; omega), loop_of (rep_loop p (by omega) (by omega)), Option.bind_some]
  rfl

/-- A place is put into a round. -/
def addR (r : List (List Int)) (v : Nat) (x : Int) : List (List Int) := (r ++ List.replicate (v + 1 - r.length) []).set v (geti2 r (v : Int) ++ [x])

theorem geti2_get (r : List (List Int)) (k : Nat) : geti2 r (k : Int) = (r[k]?).getD [] := by
  unfold geti2; rw [Int.toNat_natCast, List.getD_eq_getElem?_getD]
theorem geti2_add (r : List (List Int)) (v : Nat) (x : Int) (k : Nat) : geti2 (addR r v x) (k : Int) = if k = v then geti2 r (v : Int) ++ [x] else geti2 r (k : Int) := by
  unfold addR
  rw [geti2_get, List.getElem?_set]
  by_cases e : v = k
  · subst e
    rw [if_pos rfl, if_pos rfl, if_pos (by simp; omega)]
    rfl
  · rw [if_neg e, if_neg (fun h => e h.symm), geti2_get, List.getElem?_append]
    by_cases h : k < r.length
    · rw [if_pos h]
    · rw [if_neg h, List.getElem?_eq_none (l := r) (by omega), List.getElem?_replicate]
      split <;> rfl
theorem add_len (r : List (List Int)) (v : Nat) (x : Int) : (addR r v x).length = max r.length (v + 1) := by
  unfold addR
  simp
  omega
theorem geti2_pos {r : List (List Int)} {k : Nat} {x : Int} (h : x ∈ geti2 r (k : Int)) : k < r.length := by
  rw [geti2_get] at h
  by_cases q : k < r.length
  · exact q
  · rw [List.getElem?_eq_none (by omega)] at h
    cases h

theorem grow_p (v : Nat) (hv : v ≤ 1000) : ∀ (m : Nat) (r : List (List Int)), v + 1 - r.length = m → r.length ≤ 1001 → loop (hex_Shortest_2_L1 (v : Int)) r = some (r ++ List.replicate (v + 1 - r.length) [])
  | 0, r, h, _ => by
    rw [h]
    simp only [List.replicate_zero, List.append_nil]
    refine loop_done ?_
    simp only [hex_Shortest_2_L1]
    rw [if_neg (by rw [decide_eq_true_eq]; omega)]
  | m + 1, r, h, hr => by
    have ih := grow_p v hv m (r ++ [[]]) (by rw [List.length_append, List.length_singleton]; omega) (by rw [List.length_append, List.length_singleton]; omega)
    have e : r ++ List.replicate (v + 1 - r.length) [] = (r ++ [[]]) ++ List.replicate (v + 1 - (r ++ [[]]).length) [] := by
      have hk : v + 1 - r.length = (v + 1 - (r ++ ([[]] : List (List Int))).length) + 1 := by rw [List.length_append, List.length_singleton]; omega
      rw [hk, List.replicate_succ, List.append_assoc]
      rfl
    rw [e]
    refine loop_next' ?_ ih
    simp only [hex_Shortest_2_L1]
    rw [if_pos (by rw [decide_eq_true_eq]; omega)]
    unfold hex_Shortest_2_J4
    rw [asrt_pos (by unfold bigR; omega)]

section
variable {W : Int} {c : List Int} {who : Int}

theorem put_p (B : Dm W W c) (hw : who = 1 ∨ who = 2) {far : List Int} {r : List (List Int)} {b v : Nat} (hf : far.length = c.length) (hb : b < c.length) (hv : v ≤ 1000) (hr : r.length ≤ 1000) (hl : (geti2 r (v : Int)).length ≤ 1000000) :
    hex_Shortest_2_m (b : Int) (v : Int) W W c who far r = some (if okS c who b ∧ ¬ (0 ≤ geti far b ∧ geti far b ≤ v) then (far.set b (v : Int), addR r v (b : Int)) else (far, r)) := by
  unfold hex_Shortest_2_m
  rw [asrt_pos (by omega), asrt_pos (fun _ => by omega), asrt_pos (fun _ _ => by omega), w64_of (x := 3 - who) (by omega)]
  by_cases q : okS c who b ∧ ¬ (0 ≤ geti far b ∧ geti far b ≤ v)
  · rw [if_pos q, if_neg (by
      rw [Bool.or_eq_true, Bool.and_eq_true, decide_eq_true_eq, decide_eq_true_eq, beq_iff_eq]
      rintro (h | h)
      · exact q.1.2 h
      · exact q.2 h)]
    unfold hex_Shortest_2_J2
    rw [asrt_pos (by omega), grow_p v hv _ r rfl (by omega), Option.bind_some]
    simp only [hex_Shortest_2_K1]
    unfold hex_Shortest_2_J3 hex_Shortest_2_J1
    have e1 : geti2 (r ++ List.replicate (v + 1 - r.length) []) (v : Int) = geti2 r (v : Int) := by
      rw [geti2_get, geti2_get, List.getElem?_append]
      by_cases h : v < r.length
      · rw [if_pos h]
      · rw [if_neg h, List.getElem?_eq_none (l := r) (by omega), List.getElem?_replicate]
        split <;> rfl
    have e2 : v < (r ++ List.replicate (v + 1 - r.length) ([] : List Int)).length := by simp; omega
    rw [e1, asrt_pos (by omega), asrt_pos (by unfold bigN; omega), asrt_pos (by omega), Int.toNat_natCast, Int.toNat_natCast]
    rfl
  · rw [if_neg q, if_pos (by
      rw [Bool.or_eq_true, Bool.and_eq_true, decide_eq_true_eq, decide_eq_true_eq, beq_iff_eq]
      by_cases h : geti c b = 3 - who
      · exact .inl h
      · refine .inr ?_
        by_cases h2 : 0 ≤ geti far b ∧ geti far b ≤ v
        · exact h2
        · exact absurd ⟨⟨hb, h⟩, h2⟩ q)]

def visS (far : List Int) (b : Nat) : Nat := if 0 ≤ geti far b then 1 else 0
def phiS (L : Nat) (far : List Int) (b : Nat) : Nat := if 0 ≤ geti far b then (geti far b).toNat else L + 5
def lenS (r : List (List Int)) (k : Nat) : Nat := (geti2 r (k : Int)).length

structure SI (W : Int) (c : List Int) (who : Int) (s : List Int × List (List Int)) : Prop where
  len : s.1.length = c.length
  fin : ∀ b : Nat, b < c.length → 0 ≤ geti s.1 b → WayS W c who (geti s.1 b).toNat b ∧ (b : Int) ∈ geti2 s.2 (((geti s.1 b).toNat : Nat) : Int)
  mem : ∀ (k : Nat) (x : Int), x ∈ geti2 s.2 (k : Int) → ∃ b : Nat, b < c.length ∧ x = b ∧ 0 ≤ geti s.1 b ∧ geti s.1 b ≤ k
  rl : s.2.length ≤ sumN (visS s.1) c.length + 1
  pot : sumN (lenS s.2) (c.length + 2) + sumN (phiS c.length s.1) c.length ≤ c.length * (c.length + 5)

theorem SI.rows {s : List Int × List (List Int)} (h : SI W c who s) : s.2.length ≤ c.length + 1 := by
  have := sumN_bd (f := visS s.1) (k := 1) c.length (fun i _ => by unfold visS; split <;> omega)
  have := h.rl
  omega
theorem SI.row {s : List Int × List (List Int)} (h : SI W c who s) (hc : c.length ≤ 300) (k : Nat) : (geti2 s.2 (k : Int)).length ≤ 1000000 := by
  have hr := h.rows
  by_cases q : k < c.length + 2
  · have h1 := sumN_one (f := lenS s.2) _ q
    have h2 := h.pot
    have h3 : c.length * (c.length + 5) ≤ 300 * 305 := Nat.mul_le_mul hc (by omega)
    unfold lenS at h1 h2
    omega
  · rw [geti2_get, List.getElem?_eq_none (by omega)]
    simp

theorem set_at {far : List Int} {b : Nat} (hb : b < far.length) (v : Int) (d : Nat) : geti (far.set b v) (d : Int) = if d = b then v else geti far d := by
  rw [geti_set' (by omega) hb]
  by_cases e : d = b
  · subst e; simp
  · rw [if_neg (by omega), if_neg e]

/-- What a put leaves. -/
theorem SI.put {s : List Int × List (List Int)} (h : SI W c who s) {b v : Nat} (hb : okS c who b) (hq : ¬ (0 ≤ geti s.1 b ∧ geti s.1 b ≤ v)) (hW : WayS W c who v b) (hv : v ≤ s.2.length ∨ (sumN (visS s.1) c.length = 0 ∧ v ≤ 1)) (hvl : v ≤ c.length + 1) : SI W c who (s.1.set b (v : Int), addR s.2 v (b : Int)) := by
  obtain ⟨far, r⟩ := s
  simp only at *
  have hl := h.len
  have hbl := hb.1
  simp only at hl
  have hnew : v = r.length → geti far b < 0 := by
    intro hv1
    by_cases q : 0 ≤ geti far b
    · have := geti2_pos (h.fin b hbl q).2
      simp only at this
      omega
    · omega
  have hold : v ≤ 1 ∧ sumN (visS far) c.length = 0 → geti far b < 0 := by
    rintro ⟨_, h0⟩
    have := sumN_one (f := visS far) c.length hbl
    by_cases q : 0 ≤ geti far b
    · have e : visS far b = 1 := by unfold visS; rw [if_pos q]
      omega
    · omega
  have hset := set_at (far := far) (b := b) (by omega) (v : Int)
  have hvis := sumN_upd (f := visS far) (g := visS (far.set b (v : Int))) c.length hbl (fun i _ e => by unfold visS; rw [hset, if_neg e])
  have e1 : visS (far.set b (v : Int)) b = 1 := by unfold visS; rw [hset, if_pos rfl, if_pos (by omega)]
  have hphi := sumN_upd (f := phiS c.length far) (g := phiS c.length (far.set b (v : Int))) c.length hbl (fun i _ e => by unfold phiS; rw [hset, if_neg e])
  have e2 : phiS c.length (far.set b (v : Int)) b = v := by unfold phiS; rw [hset, if_pos rfl, if_pos (by omega), Int.toNat_natCast]
  have e3 : v + 1 ≤ phiS c.length far b := by
    unfold phiS
    split
    · omega
    · omega
  have hlen := sumN_upd (f := lenS r) (g := lenS (addR r v (b : Int))) (b := v) (c.length + 2) (by omega) (fun i _ e => by unfold lenS; rw [geti2_add, if_neg e])
  have e4 : lenS (addR r v (b : Int)) v = lenS r v + 1 := by unfold lenS; rw [geti2_add, if_pos rfl]; simp
  have hpot := h.pot
  have hrl := h.rl
  simp only at hpot hrl
  refine ⟨by simpa using hl, fun d hd hf => ?_, fun k x hx => ?_, ?_, ?_⟩
  · simp only at hf ⊢
    rw [hset] at hf ⊢
    by_cases e : d = b
    · subst e
      rw [if_pos rfl] at hf ⊢
      rw [Int.toNat_natCast]
      refine ⟨hW, ?_⟩
      rw [geti2_add, if_pos rfl]
      simp
    · rw [if_neg e] at hf ⊢
      obtain ⟨k1, k2⟩ := h.fin d hd hf
      refine ⟨k1, ?_⟩
      rw [geti2_add]
      split
      · rename_i q
        simp only at k2
        rw [q] at k2
        exact List.mem_append_left _ k2
      · exact k2
  · simp only at hx ⊢
    rw [geti2_add] at hx
    have go : ∀ k : Nat, x ∈ geti2 r (k : Int) → ∃ d : Nat, d < c.length ∧ x = d ∧ 0 ≤ geti (far.set b (v : Int)) d ∧ geti (far.set b (v : Int)) d ≤ k := by
      intro k hx
      obtain ⟨d, h1, h2, h3, h4⟩ := h.mem k x hx
      simp only at h3 h4
      refine ⟨d, h1, h2, ?_⟩
      rw [hset]
      by_cases e : d = b
      · subst e
        rw [if_pos rfl]; omega
      · rw [if_neg e]; exact ⟨h3, h4⟩
    by_cases e : k = v
    · subst e
      rw [if_pos rfl] at hx
      rcases List.mem_append.1 hx with hx | hx
      · exact go k hx
      · simp at hx
        refine ⟨b, hbl, hx, ?_⟩
        rw [hset, if_pos rfl]; omega
    · rw [if_neg e] at hx
      exact go k hx
  · simp only
    rw [add_len]
    have hge : visS far b ≤ 1 := by unfold visS; split <;> omega
    by_cases q : v < r.length
    · omega
    · have hv0 : visS far b = 0 := by
        have : geti far b < 0 := by
          rcases hv with hv | hv
          · exact hnew (by omega)
          · exact hold ⟨hv.2, hv.1⟩
        unfold visS; rw [if_neg (by omega)]
      omega
  · simp only
    omega

/-- What has been looked at: all of the rounds ahead of n, of round n the first i. -/
def PR (W : Int) (c : List Int) (who : Int) (s : List Int × List (List Int)) (n i : Nat) : Prop :=
  ∀ k j : Nat, (k < n ∨ (k = n ∧ j < i)) → ∀ b : Nat, b < c.length → (geti2 s.2 (k : Int))[j]? = some (b : Int) → geti s.1 b = k →
    (∀ d : Nat, HA W b d → okS c who d → 0 ≤ geti s.1 d ∧ geti s.1 d ≤ k + costS c who d) ∧ sdW W who b ≠ W - 1

/-- Nothing grows. -/
def LeS (c : List Int) (s s' : List Int × List (List Int)) : Prop := ∀ d : Nat, d < c.length → 0 ≤ geti s.1 d → 0 ≤ geti s'.1 d ∧ geti s'.1 d ≤ geti s.1 d

theorem PR.put {s : List Int × List (List Int)} {n i : Nat} (hS : SI W c who s) (h : PR W c who s n i) (hi : i ≤ (geti2 s.2 (n : Int)).length) {b v : Nat} (hb : b < c.length) (hq : ¬ (0 ≤ geti s.1 b ∧ geti s.1 b ≤ v)) (hv : n ≤ v) : PR W c who (s.1.set b (v : Int), addR s.2 v (b : Int)) n i := by
  intro k j hkj d hd hjd hfd
  have hset := set_at (far := s.1) (b := b) (by rw [hS.len]; exact hb) (v : Int)
  simp only at hjd hfd ⊢
  have hjd' : (geti2 s.2 (k : Int))[j]? = some (d : Int) := by
    rw [geti2_add] at hjd
    by_cases e : k = v
    · subst e
      rw [if_pos rfl] at hjd
      have : k = n ∧ j < i := by omega
      obtain ⟨rfl, hj⟩ := this
      rw [List.getElem?_append_left (by omega)] at hjd
      exact hjd
    · rw [if_neg e] at hjd
      exact hjd
  rw [hset] at hfd
  by_cases e : d = b
  · subst e
    rw [if_pos rfl] at hfd
    obtain ⟨d', h1, h2, h3, h4⟩ := hS.mem k d (List.mem_of_getElem? hjd')
    obtain rfl : d' = d := by omega
    exact absurd ⟨h3, by omega⟩ hq
  · rw [if_neg e] at hfd
    obtain ⟨h1, h2⟩ := h k j hkj d hd hjd' hfd
    refine ⟨fun x hx hox => ?_, h2⟩
    have := h1 x hx hox
    rw [hset]
    by_cases e2 : x = b
    · subst e2
      rw [if_pos rfl]; omega
    · rw [if_neg e2]; exact this

/-- A place that was looked at. -/
theorem PR.use {s : List Int × List (List Int)} {n i : Nat} (hS : SI W c who s) (h : PR W c who s n i) {b : Nat} (hb : b < c.length) (h0 : 0 ≤ geti s.1 b) (hlt : geti s.1 b < n) :
    (∀ d : Nat, HA W b d → okS c who d → 0 ≤ geti s.1 d ∧ geti s.1 d ≤ geti s.1 b + costS c who d) ∧ sdW W who b ≠ W - 1 := by
  obtain ⟨_, h2⟩ := hS.fin b hb h0
  obtain ⟨j, hj⟩ := List.mem_iff_getElem?.1 h2
  have := h (geti s.1 b).toNat j (.inl (by omega)) b hb hj (by omega)
  rw [show (((geti s.1 b).toNat : Nat) : Int) = geti s.1 b by omega] at this
  exact this

theorem PR.le {s : List Int × List (List Int)} {n i : Nat} (hS : SI W c who s) (h : PR W c who s n i) (hst : ∀ b : Nat, okS c who b → sdW W who b = 0 → 0 ≤ geti s.1 b ∧ geti s.1 b ≤ costS c who b) {m b : Nat} (hw : WayS W c who m b) (hn : m < n ∨ s.2.length ≤ n) : 0 ≤ geti s.1 b ∧ geti s.1 b ≤ m := by
  have lt : ∀ b : Nat, b < c.length → 0 ≤ geti s.1 b → geti s.1 b < s.2.length := by
    intro b hb h0
    obtain ⟨_, h2⟩ := hS.fin b hb h0
    have := geti2_pos h2
    omega
  induction hw with
  | @start b h1 h2 => exact hst _ h2 h1
  | @step m a b h1 h2 h3 ih =>
    have ha := (WayS.ok h1).1
    have h4 := ih (by omega)
    have h5 := lt a ha h4.1
    have h6 := (h.use hS ha h4.1 (by omega)).1 b h2 h3
    omega
end
end Go.Proofs.Ytgogihcmnkncjaa
