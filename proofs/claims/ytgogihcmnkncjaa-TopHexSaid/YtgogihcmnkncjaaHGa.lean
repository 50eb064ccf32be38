/-
  Hex: grids, equal lists, what is joined.
-/
import Derived.Test.YtgogihcmnkncjaaNTH
import Derived.Test.YtgogihcmnkncjaaLibY
import Derived.Test.YtgogihcmnkncjaaLibE
import Derived.Test.YtgogihcmnkncjaaLibT
namespace Go.Proofs.Ytgogihcmnkncjaa
open Go Go.GL

def offG (x : Int) : Bool := decide (x < 0) || decide ((2 : Int) < x)
theorem indexFunc_g {s : List Int} (hs : s.length ≤ 17592186044416) : slices_IndexFunc_m s = some (fidx offG s) := by
  unfold slices_IndexFunc_m
  rw [search_loop (l := s) offG (fun i => Fl.ret (i : Int)) (Fl.go ()) ?_ ?_ ?_]
  · unfold fidx
    cases s.findIdx? offG <;> rfl
  · intro i x hx hp
    have hb := idx_bd hx
    simp only [slices_IndexFunc_L1, slices_IndexFunc_J2]
    rw [if_pos (by simpa using hb.2), asrt_pos hb, geti_some hx]
    simp only [rows_May_1_m, Option.bind_some]
    exact if_pos hp
  · intro i x hx hp
    have hb := idx_bd hx
    simp only [slices_IndexFunc_L1, slices_IndexFunc_J2]
    rw [if_pos (by simpa using hb.2), asrt_pos hb, geti_some hx]
    simp only [rows_May_1_m, Option.bind_some]
    rw [if_neg (by unfold offG at hp; rw [hp]; simp)]
    simp only [slices_IndexFunc_J3]
    rw [w64_succ (by omega)]
  · simp only [slices_IndexFunc_L1]
    rw [if_neg (by simp)]

def dimG (W H : Int) (c : List Int) : Prop := 1 ≤ W ∧ W ≤ 10 ∧ 1 ≤ H ∧ H ≤ 10 ∧ (c.length : Int) = W * H
instance (W H : Int) (c : List Int) : Decidable (dimG W H c) := by unfold dimG; infer_instance
def okG (W H : Int) (c : List Int) : Bool := decide (dimG W H c) && !c.any offG

theorem dim_b (W H : Int) (c : List Int) : (((((decide ((1 : Int) ≤ W)) && (decide (W ≤ 10))) && (decide ((1 : Int) ≤ H))) && (decide (H ≤ 10))) && ((c.length : Int) == (w64 (W * H)))) = decide (dimG W H c) := by
  unfold dimG
  by_cases h : 1 ≤ W ∧ W ≤ 10 ∧ 1 ≤ H ∧ H ≤ 10
  · have hm := mul_bd' (b := W) (W := H) (by omega) (by omega)
    rw [w64_of (by omega), Bool.eq_iff_iff]
    simp only [Bool.and_eq_true, decide_eq_true_eq, beq_iff_eq, and_assoc]
    exact decide_eq_true_iff.symm
  · rw [decide_eq_false (p := 1 ≤ W ∧ W ≤ 10 ∧ 1 ≤ H ∧ H ≤ 10 ∧ (c.length : Int) = W * H) (fun h2 => h ⟨h2.1, h2.2.1, h2.2.2.1, h2.2.2.2.1⟩)]
    rw [Bool.and_eq_false_iff]
    left
    simp only [← Bool.decide_and, decide_eq_false_iff_not]
    omega

theorem may_p (W H : Int) {c : List Int} (hs : c.length ≤ 17592186044416) : rows_May_m W H c = some (okG W H c) := by
  unfold rows_May_m
  rw [dim_b]
  unfold okG
  by_cases h : dimG W H c
  · rw [decide_eq_true h, if_pos rfl]
    unfold slices_ContainsFunc_m
    rw [indexFunc_g hs]
    simp only [Option.bind_some, Bool.true_and]
    congr 2
    rw [Bool.eq_iff_iff, decide_eq_true_eq]
    exact fidx_neg offG c
  · rw [decide_eq_false h, if_neg (by decide)]
    rfl

theorem yx_inj {W y1 x1 y2 x2 : Int} (_hW : 1 ≤ W ∧ W ≤ 10) (h1 : 0 ≤ x1 ∧ x1 < W) (h2 : 0 ≤ x2 ∧ x2 < W) (h : y1 * W + x1 = y2 * W + x2) : y1 = y2 ∧ x1 = x2 := by
  have : y1 = y2 := by
    rcases Int.lt_trichotomy y1 y2 with h3 | h3 | h3
    · have := Int.mul_nonneg (show 0 ≤ y2 - y1 - 1 by omega) (show 0 ≤ W by omega)
      rw [Int.sub_mul, Int.sub_mul] at this
      omega
    · exact h3
    · have := Int.mul_nonneg (show 0 ≤ y1 - y2 - 1 by omega) (show 0 ≤ W by omega)
      rw [Int.sub_mul, Int.sub_mul] at this
      omega
  subst this
  exact ⟨rfl, by omega⟩

/-- Joined through marked places. -/
inductive Reach (adj : Nat → Nat → Prop) (mk : Nat → Prop) (p : Nat) : Nat → Prop
  | base : Reach adj mk p p
  | step {a b : Nat} : Reach adj mk p a → adj a b → mk b → Reach adj mk p b

theorem Reach.trans {adj : Nat → Nat → Prop} {mk : Nat → Prop} {p q b : Nat} (h1 : Reach adj mk p q) (h2 : Reach adj mk q b) : Reach adj mk p b := by
  induction h2 with
  | base => exact h1
  | step _ h3 h4 ih => exact .step ih h3 h4
theorem Reach.mk_of {adj : Nat → Nat → Prop} {mk : Nat → Prop} {p b : Nat} (hp : mk p) (h : Reach adj mk p b) : mk b := by
  cases h with
  | base => exact hp
  | step _ _ h => exact h

theorem getbs {l : List Bool} {i p : Nat} {v : Bool} (hi : i < l.length) : getb (l.set i v) (p : Int) = if p = i then v else getb l (p : Int) := by
  unfold getb
  rw [List.getD_eq_getElem?_getD, List.getD_eq_getElem?_getD, Int.toNat_natCast, List.getElem?_set]
  by_cases e : i = p
  · subst e; simp [hi]
  · rw [if_neg e, if_neg (by omega)]

theorem nodup_len {l : List Int} {L : Nat} (h : l.Nodup) (hb : ∀ q ∈ l, ∃ b : Nat, b < L ∧ q = b) : l.length ≤ L := by
  have e : sortI l = ((List.range L).filter (fun (b : Nat) => decide ((b : Int) ∈ l))).map (fun (b : Nat) => (b : Int)) := by
    refine strict_ext (sortI_lt h) (filt_lt _ _) fun q => ?_
    rw [sortI_mem, List.mem_map]
    constructor
    · intro hq
      obtain ⟨b, h1, rfl⟩ := hb q hq
      exact ⟨b, by rw [List.mem_filter, List.mem_range, decide_eq_true_eq]; exact ⟨h1, hq⟩, rfl⟩
    · rintro ⟨b, h1, rfl⟩
      rw [List.mem_filter, decide_eq_true_eq] at h1
      exact h1.2
  have := congrArg List.length e
  rw [sortI_length, List.length_map] at this
  rw [this]
  refine Nat.le_trans (List.length_filter_le _ _) ?_
  rw [List.length_range]
  exact Nat.le_refl _

/-- Neighbours. -/
def HA (W : Int) (a b : Nat) : Prop := ((b : Int) / W = (a : Int) / W ∧ ((b : Int) % W - (a : Int) % W = 1 ∨ (b : Int) % W - (a : Int) % W = -1)) ∨ ((b : Int) / W - (a : Int) / W = -1 ∧ ((b : Int) % W - (a : Int) % W = 0 ∨ (b : Int) % W - (a : Int) % W = 1)) ∨ ((b : Int) / W - (a : Int) / W = 1 ∧ ((b : Int) % W - (a : Int) % W = 0 ∨ (b : Int) % W - (a : Int) % W = -1))
theorem HA.symm {W : Int} {a b : Nat} (h : HA W a b) : HA W b a := by unfold HA at h ⊢; omega

section
variable {W H : Int} {c : List Int}

def tabN : List Int := [-1, 0, 1, 0, 0, -1, 1, -1, -1, 1, 0, 1]
theorem tabN_bd (z : Nat) (hz : z < 6) : (-1 ≤ geti tabN ((z : Int) * 2) ∧ geti tabN ((z : Int) * 2) ≤ 1) ∧ (-1 ≤ geti tabN ((z : Int) * 2 + 1) ∧ geti tabN ((z : Int) * 2 + 1) ≤ 1) := by
  have : z = 0 ∨ z = 1 ∨ z = 2 ∨ z = 3 ∨ z = 4 ∨ z = 5 := by omega
  rcases this with rfl | rfl | rfl | rfl | rfl | rfl <;> decide
theorem tabN_iff (dx dy : Int) : ((dy = 0 ∧ (dx = 1 ∨ dx = -1)) ∨ (dy = -1 ∧ (dx = 0 ∨ dx = 1)) ∨ (dy = 1 ∧ (dx = 0 ∨ dx = -1))) ↔ ∃ z : Nat, z < 6 ∧ dx = geti tabN ((z : Int) * 2) ∧ dy = geti tabN ((z : Int) * 2 + 1) := by
  constructor
  · rintro (⟨rfl, rfl | rfl⟩ | ⟨rfl, rfl | rfl⟩ | ⟨rfl, rfl | rfl⟩)
    · exact ⟨1, by decide, by decide, by decide⟩
    · exact ⟨0, by decide, by decide, by decide⟩
    · exact ⟨2, by decide, by decide, by decide⟩
    · exact ⟨3, by decide, by decide, by decide⟩
    · exact ⟨5, by decide, by decide, by decide⟩
    · exact ⟨4, by decide, by decide, by decide⟩
  · rintro ⟨z, hz, rfl, rfl⟩
    have : z = 0 ∨ z = 1 ∨ z = 2 ∨ z = 3 ∨ z = 4 ∨ z = 5 := by omega
    rcases this with rfl | rfl | rfl | rfl | rfl | rfl <;> decide

/-- One turn of the iterator. -/
theorem near_step (B : Dm W W c) {S : Type} (yd : Int → S → Option (S × Bool)) {a z : Nat} (ha : a < c.length) (hz : z < 6) (y : S) :
    hex_near_1_L1 yd (a : Int) W (y, (z : Int)) =
      if 0 ≤ (a : Int) % W + geti tabN ((z : Int) * 2) ∧ (a : Int) % W + geti tabN ((z : Int) * 2) < W ∧ 0 ≤ (a : Int) / W + geti tabN ((z : Int) * 2 + 1) ∧ (a : Int) / W + geti tabN ((z : Int) * 2 + 1) < W then
        (yd (((a : Int) / W + geti tabN ((z : Int) * 2 + 1)) * W + ((a : Int) % W + geti tabN ((z : Int) * 2))) y).bind fun r => if r.2 then some (.next (r.1, ((z + 1 : Nat) : Int))) else some (.done (.ret r.1))
      else some (.next (y, ((z + 1 : Nat) : Int))) := by
  have hW := B.w
  obtain ⟨x1, y1, _⟩ := B.xy (p := (a : Int)) (by omega)
  have hd := tabN_bd z hz
  simp only [hex_near_1_L1]
  rw [if_pos (decide_eq_true (by omega))]
  unfold hex_near_1_J2 hex_near_1_J4 hex_near_1_J3
  rw [asrt_pos (by omega), Int.tmod_eq_emod_of_nonneg (by omega), Int.tdiv_eq_ediv_of_nonneg (by omega)]
  have e : ([-1, 0, 1, 0, 0, -1, 1, -1, -1, 1, 0, 1] : List Int) = tabN := rfl
  rw [e]
  generalize geti tabN ((z : Int) * 2) = dx at *
  generalize geti tabN ((z : Int) * 2 + 1) = dy at *
  generalize (a : Int) % W = xa at *
  generalize (a : Int) / W = ya at *
  rw [w64_of (x := ya) (by omega), w64_of (x := xa + dx) (by omega), w64_of (x := ya + dy) (by omega), w64_of (x := (z : Int) + 1) (by omega), w64_ix' hW (by omega) (by omega)]
  by_cases h : 0 ≤ xa + dx ∧ xa + dx < W ∧ 0 ≤ ya + dy ∧ ya + dy < W
  · have hb : ((((decide ((0 : Int) ≤ xa + dx)) && (decide (xa + dx < W))) && (decide ((0 : Int) ≤ ya + dy))) && (decide (ya + dy < W))) = true := by
      simp only [Bool.and_eq_true, decide_eq_true_eq]
      exact ⟨⟨⟨h.1, h.2.1⟩, h.2.2.1⟩, h.2.2.2⟩
    rw [if_pos h, hb]
    simp only [if_true, Bool.true_and]
    congr 1
    funext r
    cases r.2 <;> simp
  · have hb : ((((decide ((0 : Int) ≤ xa + dx)) && (decide (xa + dx < W))) && (decide ((0 : Int) ≤ ya + dy))) && (decide (ya + dy < W))) = false := by
      rw [Bool.eq_false_iff]
      intro h2
      simp only [Bool.and_eq_true, decide_eq_true_eq] at h2
      exact h ⟨h2.1.1.1, h2.1.1.2, h2.1.2, h2.2⟩
    rw [if_neg h, hb]
    simp

theorem ha_place (B : Dm W W c) {a z : Nat} (ha : a < c.length) (hz : z < 6) (h : 0 ≤ (a : Int) % W + geti tabN ((z : Int) * 2) ∧ (a : Int) % W + geti tabN ((z : Int) * 2) < W ∧ 0 ≤ (a : Int) / W + geti tabN ((z : Int) * 2 + 1) ∧ (a : Int) / W + geti tabN ((z : Int) * 2 + 1) < W) :
    ∃ b : Nat, b < c.length ∧ ((a : Int) / W + geti tabN ((z : Int) * 2 + 1)) * W + ((a : Int) % W + geti tabN ((z : Int) * 2)) = b ∧ HA W a b := by
  have hW := B.w
  obtain ⟨x1, y1, _⟩ := B.xy (p := (a : Int)) (by omega)
  have hd := tabN_bd z hz
  have hi := (tabN_iff _ _).2 ⟨z, hz, rfl, rfl⟩
  have hq := B.idx (x := (a : Int) % W + geti tabN ((z : Int) * 2)) (y := (a : Int) / W + geti tabN ((z : Int) * 2 + 1)) ⟨h.1, h.2.1⟩ h.2.2
  generalize geti tabN ((z : Int) * 2) = dx at *
  generalize geti tabN ((z : Int) * 2 + 1) = dy at *
  generalize hE : ((a : Int) / W + dy) * W + ((a : Int) % W + dx) = E at hq ⊢
  refine ⟨E.toNat, by omega, by omega, ?_⟩
  obtain ⟨x2, y2, e2⟩ := B.xy (p := E) hq
  obtain ⟨g1, g2⟩ := yx_inj hW x2 ⟨h.1, h.2.1⟩ (e2.trans hE.symm)
  unfold HA
  rw [show ((E.toNat : Nat) : Int) = E by omega, g1, g2]
  omega

theorem ha_turn (B : Dm W W c) {a b : Nat} (ha : a < c.length) (hb : b < c.length) (h : HA W a b) : ∃ z : Nat, z < 6 ∧ (0 ≤ (a : Int) % W + geti tabN ((z : Int) * 2) ∧ (a : Int) % W + geti tabN ((z : Int) * 2) < W ∧ 0 ≤ (a : Int) / W + geti tabN ((z : Int) * 2 + 1) ∧ (a : Int) / W + geti tabN ((z : Int) * 2 + 1) < W) ∧ ((a : Int) / W + geti tabN ((z : Int) * 2 + 1)) * W + ((a : Int) % W + geti tabN ((z : Int) * 2)) = b := by
  have hW := B.w
  obtain ⟨x2, y2, e2⟩ := B.xy (p := (b : Int)) (by omega)
  have h' := (tabN_iff ((b : Int) % W - (a : Int) % W) ((b : Int) / W - (a : Int) / W)).1 (by unfold HA at h; omega)
  obtain ⟨z, hz, e3, e4⟩ := h'
  refine ⟨z, hz, by omega, ?_⟩
  rw [← e3, ← e4, show (a : Int) / W + ((b : Int) / W - (a : Int) / W) = (b : Int) / W by omega, show (a : Int) % W + ((b : Int) % W - (a : Int) % W) = (b : Int) % W by omega]
  exact e2

/-- A range over the neighbours, whose body never leaves. -/
theorem near_run (B : Dm W W c) {σ : Type} {L : Int → σ → Option (St σ Unit)} (I : σ → Prop) (Q : Nat → σ → Prop) {a : Nat} (ha : a < c.length) (s0 : σ) (h0 : I s0)
    (h : ∀ b s, b < c.length → HA W a b → I s → ∃ s', L (b : Int) s = some (.next s') ∧ I s' ∧ Q b s' ∧ ∀ d, Q d s → Q d s') :
    ∃ s, hex_near_1_m (ydOf L) (.next s0) (a : Int) W = some (.next s) ∧ I s ∧ ∀ b, b < c.length → HA W a b → Q b s := by
  have hW := B.w
  unfold hex_near_1_m
  rw [asrt_pos (by omega), asrt_pos (by omega)]
  have key := count_loop (step := hex_near_1_L1 (ydOf L) (a : Int) W) (fun (s : σ) (i : Nat) => ((St.next s : St σ Unit), (i : Int)))
    (fun n s => I s ∧ ∀ z b : Nat, z < n → b < c.length → (0 ≤ (a : Int) % W + geti tabN ((z : Int) * 2) ∧ (a : Int) % W + geti tabN ((z : Int) * 2) < W ∧ 0 ≤ (a : Int) / W + geti tabN ((z : Int) * 2 + 1) ∧ (a : Int) / W + geti tabN ((z : Int) * 2 + 1) < W) → ((a : Int) / W + geti tabN ((z : Int) * 2 + 1)) * W + ((a : Int) % W + geti tabN ((z : Int) * 2)) = b → Q b s)
    (fun r => ∃ s, r = Fl.go (St.next s) ∧ I s ∧ ∀ b, b < c.length → HA W a b → Q b s) 6 s0 ⟨h0, fun z b hz => by omega⟩ (by
      rintro i s hi ⟨h1, h2⟩
      left
      rw [near_step B _ ha hi]
      by_cases hc : 0 ≤ (a : Int) % W + geti tabN ((i : Int) * 2) ∧ (a : Int) % W + geti tabN ((i : Int) * 2) < W ∧ 0 ≤ (a : Int) / W + geti tabN ((i : Int) * 2 + 1) ∧ (a : Int) / W + geti tabN ((i : Int) * 2 + 1) < W
      · obtain ⟨b, hb, hq, had⟩ := ha_place B ha hi hc
        obtain ⟨s', k1, k2, k3, k4⟩ := h b s hb had h1
        rw [if_pos hc, hq]
        refine ⟨s', ?_, k2, fun z d hz hd hcd hqd => ?_⟩
        · simp only [ydOf, k1, Option.bind_some, if_true]
        · by_cases e : z = i
          · subst e
            have : d = b := by omega
            subst this
            exact k3
          · exact k4 d (h2 z d (by omega) hd hcd hqd)
      · rw [if_neg hc]
        refine ⟨s, rfl, h1, fun z d hz hd hcd hqd => ?_⟩
        by_cases e : z = i
        · subst e; exact absurd hcd hc
        · exact h2 z d (by omega) hd hcd hqd) (by
      rintro s ⟨h1, h2⟩
      refine ⟨Fl.go (.next s), ?_, s, rfl, h1, fun b hb had => ?_⟩
      · simp only [hex_near_1_L1]
        rw [if_neg (by decide)]
      · obtain ⟨z, hz, hc, hq⟩ := ha_turn B ha hb had
        exact h2 z b hz hb hc hq)
  obtain ⟨r, hr, s, rfl, h1, h2⟩ := key
  have hr' : loop (hex_near_1_L1 (ydOf L) (a : Int) W) (St.next s0, 0) = _ := hr
  rw [hr', Option.bind_some]
  exact ⟨s, rfl, h1, h2⟩
end
end Go.Proofs.Ytgogihcmnkncjaa
