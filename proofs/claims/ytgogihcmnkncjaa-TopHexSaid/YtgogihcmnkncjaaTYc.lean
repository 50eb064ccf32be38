/-
  TopHex: who has joined, and whose way is cut, on a board of any signs.
-/
import Derived.Test.YtgogihcmnkncjaaTYb
import Derived.Test.YtgogihcmnkncjaaHSe
namespace Go.Proofs.Ytgogihcmnkncjaa
open Go Go.GL

section
variable {n : Nat}

theorem xy_div {x y : Nat} (hx : x < n) : (y * n + x) / n = y ∧ (y * n + x) % n = x := by
  have hn : 0 < n := by omega
  rw [Nat.mul_comm, Nat.mul_add_div hn, Nat.mul_add_mod, Nat.div_eq_of_lt hx, Nat.mod_eq_of_lt hx]
  omega
theorem xy_lt {x y : Nat} (hx : x < n) (hy : y < n) : y * n + x < n * n := by
  have : (y + 1) * n ≤ n * n := Nat.mul_le_mul_right _ hy
  rw [Nat.succ_mul] at this
  omega

theorem ha_ta {a b : Nat} : HA (n : Int) a b ↔ TA (a % n) (a / n) (b % n) (b / n) := by
  unfold HA TA
  rw [← Int.natCast_ediv, ← Int.natCast_ediv, ← Int.natCast_emod, ← Int.natCast_emod]
  omega

theorem rc_reach {Q : Nat → Prop} {x0 y0 x y : Nat} (h : Rc (fun x y => (x < n ∧ y < n) ∧ Q (y * n + x)) x0 y0 x y) : Reach (HA (n : Int)) (fun b => b < n * n ∧ Q b) (y0 * n + x0) (y * n + x) := by
  induction h with
  | here _ => exact .base
  | step h ha hm ih =>
    have hl := h.last.1
    refine .step ih ?_ ⟨xy_lt hm.1.1 hm.1.2, hm.2⟩
    rw [ha_ta, (xy_div hl.1).1, (xy_div hl.1).2, (xy_div hm.1.1).1, (xy_div hm.1.1).2]
    exact ha
theorem in_xy {b : Nat} (h : b < n * n) : b % n < n ∧ b / n < n ∧ (b / n) * n + b % n = b := by
  have hn : 0 < n := by
    rcases n with _ | n
    · simp at h
    · omega
  refine ⟨Nat.mod_lt _ hn, Nat.div_lt_of_lt_mul h, ?_⟩
  rw [Nat.mul_comm]
  exact Nat.div_add_mod b n
theorem reach_rc {Q : Nat → Prop} {p b : Nat} (hp : p < n * n ∧ Q p) (h : Reach (HA (n : Int)) (fun b => b < n * n ∧ Q b) p b) : Rc (fun x y => (x < n ∧ y < n) ∧ Q (y * n + x)) (p % n) (p / n) (b % n) (b / n) := by
  have mk : ∀ b, b < n * n ∧ Q b → ((b % n < n ∧ b / n < n) ∧ Q (b / n * n + b % n)) := fun b hb => by
    obtain ⟨h1, h2, h3⟩ := in_xy hb.1
    rw [h3]
    exact ⟨⟨h1, h2⟩, hb.2⟩
  induction h with
  | base => exact .here (mk p hp)
  | step h ha hm ih => exact ih.step (ha_ta.1 ha) (mk _ hm)

/-- A way through such cells from a player's one side to the other. -/
def Join (n : Nat) (who : Int) (Q : Nat → Prop) : Prop := ∃ p b, (p < n * n ∧ Q p) ∧ Reach (HA (n : Int)) (fun b => b < n * n ∧ Q b) p b ∧ sdW (n : Int) who p = 0 ∧ sdW (n : Int) who b = (n : Int) - 1

theorem reach_mk {Q : Nat → Prop} {p b : Nat} (hp : p < n * n ∧ Q p) (h : Reach (HA (n : Int)) (fun b => b < n * n ∧ Q b) p b) : b < n * n ∧ Q b := Reach.mk_of (mk := fun b => b < n * n ∧ Q b) hp h

theorem rc_congr {m m' : Nat → Nat → Prop} (h : ∀ x y, m x y ↔ m' x y) {x0 y0 x y : Nat} : Rc m x0 y0 x y ↔ Rc m' x0 y0 x y :=
  ⟨fun k => k.mono (fun _ _ => (h _ _).1), fun k => k.mono (fun _ _ => (h _ _).2)⟩

theorem join_T {Q : Nat → Prop} {g : Nat → Nat → Bool} (hn : 1 ≤ n) (hg : ∀ x y, x < n → y < n → (g x y = true ↔ Q (y * n + x))) : Join n 2 Q ↔ HT n g := by
  have e : ∀ x y, ((x < n ∧ y < n) ∧ Q (y * n + x)) ↔ MH n g true x y := fun x y => by
    unfold MH
    exact ⟨fun h => ⟨h.1, (hg x y h.1.1 h.1.2).2 h.2⟩, fun h => ⟨h.1, (hg x y h.1.1 h.1.2).1 h.2⟩⟩
  constructor
  · rintro ⟨p, b, hp, hr, h0, h1⟩
    have hb := reach_mk hp hr
    have hrc := (rc_congr e).1 (reach_rc hp hr)
    unfold sdW at h0 h1
    rw [if_neg (by decide), ← Int.natCast_emod] at h0 h1
    refine ⟨p / n, b / n, ?_⟩
    rw [show p % n = 0 by omega, show b % n = n - 1 by omega] at hrc
    exact hrc
  · rintro ⟨y, y', h⟩
    have h2 := (rc_congr e).2 h
    have hs := h2.start
    have hl := h2.last
    refine ⟨y * n + 0, y' * n + (n - 1), ⟨xy_lt hs.1.1 hs.1.2, hs.2⟩, rc_reach h2, ?_, ?_⟩
    · unfold sdW
      rw [if_neg (by decide), ← Int.natCast_emod, (xy_div hs.1.1).2]; rfl
    · unfold sdW
      rw [if_neg (by decide), ← Int.natCast_emod, (xy_div hl.1.1).2]; omega
theorem join_F {Q : Nat → Prop} {g : Nat → Nat → Bool} (hn : 1 ≤ n) (hg : ∀ x y, x < n → y < n → (g x y = false ↔ Q (y * n + x))) : Join n 1 Q ↔ HF n g := by
  have e : ∀ x y, ((x < n ∧ y < n) ∧ Q (y * n + x)) ↔ MH n g false x y := fun x y => by
    unfold MH
    exact ⟨fun h => ⟨h.1, (hg x y h.1.1 h.1.2).2 h.2⟩, fun h => ⟨h.1, (hg x y h.1.1 h.1.2).1 h.2⟩⟩
  constructor
  · rintro ⟨p, b, hp, hr, h0, h1⟩
    have hb := reach_mk hp hr
    have hrc := (rc_congr e).1 (reach_rc hp hr)
    unfold sdW at h0 h1
    rw [if_pos rfl, ← Int.natCast_ediv] at h0 h1
    refine ⟨p % n, b % n, ?_⟩
    rw [show p / n = 0 by omega, show b / n = n - 1 by omega] at hrc
    exact hrc
  · rintro ⟨x, x', h⟩
    have h2 := (rc_congr e).2 h
    have hs := h2.start
    have hl := h2.last
    refine ⟨0 * n + x, (n - 1) * n + x', ⟨xy_lt hs.1.1 hs.1.2, hs.2⟩, rc_reach h2, ?_, ?_⟩
    · unfold sdW
      rw [if_pos rfl, ← Int.natCast_ediv, (xy_div hs.1.1).1]; rfl
    · unfold sdW
      rw [if_pos rfl, ← Int.natCast_ediv, (xy_div hl.1.1).1]; omega

variable {c : List Int}

/-- The one's way is cut just where the other has joined. -/
theorem cut_one (hn : 1 ≤ n) : Join n 2 (fun b => geti c (b : Int) = 2) ↔ ¬ Join n 1 (fun b => geti c (b : Int) ≠ 2) := by
  rw [join_T hn (g := fun x y => decide (geti c ((y * n + x : Nat) : Int) = 2)) (fun x y _ _ => by rw [decide_eq_true_eq]),
    join_F hn (g := fun x y => decide (geti c ((y * n + x : Nat) : Int) = 2)) (fun x y _ _ => by rw [decide_eq_false_iff_not])]
  exact hex_one hn
theorem cut_two (hn : 1 ≤ n) : Join n 2 (fun b => geti c (b : Int) ≠ 1) ↔ ¬ Join n 1 (fun b => geti c (b : Int) = 1) := by
  rw [join_T hn (g := fun x y => decide (geti c ((y * n + x : Nat) : Int) ≠ 1)) (fun x y _ _ => by rw [decide_eq_true_eq]),
    join_F hn (g := fun x y => decide (geti c ((y * n + x : Nat) : Int) ≠ 1)) (fun x y _ _ => by rw [decide_eq_false_iff_not, Decidable.not_not])]
  exact hex_one hn

theorem Join.mono {who : Int} {Q Q' : Nat → Prop} (h : ∀ b, b < n * n → Q b → Q' b) (H : Join n who Q) : Join n who Q' := by
  obtain ⟨p, b, hp, hr, h0, h1⟩ := H
  refine ⟨p, b, ⟨hp.1, h p hp.1 hp.2⟩, ?_, h0, h1⟩
  clear h0 h1
  induction hr with
  | base => exact .base
  | step _ ha hm ih => exact ih.step ha ⟨hm.1, h _ hm.1 hm.2⟩

/-! ### What the program's groups tell -/
theorem lst_of {W : Int} {v : Int} : ∀ p, Mk c v p → ∃ a, Lst W c v a ∧ Rh W c v a p := by
  intro p
  induction p using Nat.strongRecOn with
  | _ p ih =>
    intro hp
    by_cases h : Lst W c v p
    · exact ⟨p, h, .base⟩
    · have : ∃ a, a < p ∧ Mk c v a ∧ Rh W c v a p := by
        refine Classical.byContradiction fun hn => h ⟨hp, fun a ha hm hr => hn ⟨a, ha, hm, hr⟩⟩
      obtain ⟨a, ha, hm, hr⟩ := this
      obtain ⟨a', h1, h2⟩ := ih a ha hm
      exact ⟨a', h1, Reach.trans h2 hr⟩

theorem has_join (hlen : c.length = n * n) {who : Int} : Has (n : Int) who (grpsH (n : Int) c who c.length) ↔ Join n who (fun b => geti c (b : Int) = who) := by
  classical
  have emk : (fun b => b < n * n ∧ geti c (b : Int) = who) = Mk c who := by
    funext b
    unfold Mk
    rw [hlen]
  constructor
  · rintro ⟨row, hrow, hwin⟩
    unfold grpsH at hrow
    obtain ⟨r, hr, rfl⟩ := List.mem_map.1 hrow
    have hL : Lst (n : Int) c who r := of_decide_eq_true (List.mem_filter.1 hr).2
    unfold winH at hwin
    rw [Bool.and_eq_true, List.any_eq_true, List.any_eq_true] at hwin
    obtain ⟨⟨q1, m1, s1⟩, q2, m2, s2⟩ := hwin
    obtain ⟨b1, _, rfl, r1⟩ := grpH_mem.1 m1
    obtain ⟨b2, _, rfl, r2⟩ := grpH_mem.1 m2
    have k1 := Rh.mk hL.1 r1
    refine ⟨b1, b2, ?_, ?_, by simpa using s1, by simpa using s2⟩
    · rw [hlen.symm]; exact k1
    · rw [emk]
      exact Reach.trans (Rh.symm hL.1 r1) r2
  · rintro ⟨p, b, hp, hr, h0, h1⟩
    rw [emk] at hr
    have hpm : Mk c who p := by unfold Mk; rw [hlen]; exact hp
    have hbm : Mk c who b := Reach.mk_of hpm hr
    obtain ⟨a, hL, ha⟩ := lst_of (W := (n : Int)) p hpm
    refine ⟨grpH (n : Int) c who a, ?_, ?_⟩
    · unfold grpsH
      exact List.mem_map.2 ⟨a, List.mem_filter.2 ⟨List.mem_range.2 hL.1.1, decide_eq_true hL⟩, rfl⟩
    · unfold winH
      rw [Bool.and_eq_true, List.any_eq_true, List.any_eq_true]
      exact ⟨⟨(p : Int), grpH_mem.2 ⟨p, hpm.1, rfl, ha⟩, by simpa using h0⟩, (b : Int), grpH_mem.2 ⟨b, hbm.1, rfl, Reach.trans ha hr⟩, by simpa using h1⟩

theorem way_join (hlen : c.length = n * n) {who : Int} : (∃ k b, goalS (n : Int) c who b ∧ WayS (n : Int) c who k b) ↔ Join n who (fun b => geti c (b : Int) ≠ 3 - who) := by
  have eok : ∀ b, okS c who b ↔ (b < n * n ∧ geti c (b : Int) ≠ 3 - who) := fun b => by
    unfold okS
    rw [hlen]
  constructor
  · rintro ⟨k, b, hg, hw⟩
    have key : ∀ {k b}, WayS (n : Int) c who k b → ∃ p, (p < n * n ∧ geti c (p : Int) ≠ 3 - who) ∧ Reach (HA (n : Int)) (fun b => b < n * n ∧ geti c (b : Int) ≠ 3 - who) p b ∧ sdW (n : Int) who p = 0 := by
      intro k b h
      induction h with
      | start h0 h1 => exact ⟨_, (eok _).1 h1, .base, h0⟩
      | step _ ha ho ih =>
        obtain ⟨p, h1, h2, h3⟩ := ih
        exact ⟨p, h1, h2.step ha ((eok _).1 ho), h3⟩
    obtain ⟨p, h1, h2, h3⟩ := key hw
    exact ⟨p, b, h1, h2, h3, hg.2⟩
  · rintro ⟨p, b, hp, hr, h0, h1⟩
    have hb := reach_mk hp hr
    have key : ∃ k, WayS (n : Int) c who k b := by
      clear h1 hb
      induction hr with
      | base => exact ⟨_, .start h0 ((eok _).2 hp)⟩
      | step _ ha hm ih =>
        obtain ⟨k, hk⟩ := ih
        exact ⟨_, .step hk ha ((eok _).2 hm)⟩
    obtain ⟨k, hk⟩ := key
    exact ⟨k, b, ⟨by rw [hlen]; exact hb.1, h1⟩, hk⟩

theorem zero_join (hlen : c.length = n * n) {who : Int} (hw : who = 1 ∨ who = 2) : (∃ b, goalS (n : Int) c who b ∧ WayS (n : Int) c who 0 b) ↔ Join n who (fun b => geti c (b : Int) = who) := by
  constructor
  · rintro ⟨b, hg, hwy⟩
    have key : ∀ {k b}, WayS (n : Int) c who k b → k = 0 → ∃ p, (p < n * n ∧ geti c (p : Int) = who) ∧ Reach (HA (n : Int)) (fun b => b < n * n ∧ geti c (b : Int) = who) p b ∧ sdW (n : Int) who p = 0 := by
      intro k b h
      have cz : ∀ b, costS c who b = 0 → geti c (b : Int) = who := fun b h => by
        unfold costS at h
        split at h
        · assumption
        · omega
      induction h with
      | @start b h0 h1 =>
        intro hk
        exact ⟨b, ⟨by have := h1.1; omega, cz _ hk⟩, .base, h0⟩
      | step _ ha ho ih =>
        intro hk
        obtain ⟨p, h1, h2, h3⟩ := ih (by omega)
        exact ⟨p, h1, h2.step ha ⟨by have := ho.1; omega, cz _ (by omega)⟩, h3⟩
    obtain ⟨p, h1, h2, h3⟩ := key hwy rfl
    exact ⟨p, b, h1, h2, h3, hg.2⟩
  · rintro ⟨p, b, hp, hr, h0, h1⟩
    have hb := reach_mk hp hr
    have ck : ∀ b : Nat, geti c (b : Int) = who → costS c who b = 0 := fun b h => if_pos h
    have ok : ∀ b : Nat, b < n * n → geti c (b : Int) = who → okS c who b := fun b h1 h2 => ⟨by omega, by omega⟩
    have key : WayS (n : Int) c who 0 b := by
      clear h1 hb
      induction hr with
      | base =>
        have := WayC.start (adj := HA (n : Int)) (st := fun b => sdW (n : Int) who b = 0) (ok := okS c who) (cost := costS c who) h0 (ok p hp.1 hp.2)
        rw [ck p hp.2] at this
        exact this
      | @step a b _ ha hm ih =>
        have := WayC.step ih ha (ok _ hm.1 hm.2)
        rw [ck _ hm.2] at this
        exact this
    exact ⟨b, ⟨by omega, h1⟩, key⟩

theorem ans_neg {Wy : Nat → Nat → Prop} {goal : Nat → Prop} {k : Int} (h : AnsS Wy goal k) : k = -1 ↔ ¬ ∃ n b, goal b ∧ Wy n b := by
  rcases h with ⟨h1, h2⟩ | ⟨n, b, h1, h2, h3, _⟩
  · exact ⟨fun _ ⟨n, b, g, w⟩ => h2 n b g w, fun _ => h1⟩
  · exact ⟨fun h => by omega, fun h => absurd ⟨n, b, h2, h3⟩ h⟩
theorem ans_zero {Wy : Nat → Nat → Prop} {goal : Nat → Prop} {k : Int} (h : AnsS Wy goal k) : k = 0 ↔ ∃ b, goal b ∧ Wy 0 b := by
  rcases h with ⟨h1, h2⟩ | ⟨n, b, h1, h2, h3, h4⟩
  · exact ⟨fun h => by omega, fun ⟨b, g, w⟩ => absurd w (h2 0 b g)⟩
  · constructor
    · intro h
      have : n = 0 := by omega
      subst this
      exact ⟨b, h2, h3⟩
    · rintro ⟨b', g, w⟩
      have := h4 0 b' g w
      omega

open Classical in
/-- Who has joined. -/
noncomputable def JV (n : Nat) (c : List Int) : Int := if Join n 1 (fun b => geti c (b : Int) = 1) then 1 else if Join n 2 (fun b => geti c (b : Int) = 2) then 2 else 0

theorem not_both (hn : 1 ≤ n) : ¬ (Join n 1 (fun b => geti c (b : Int) = 1) ∧ Join n 2 (fun b => geti c (b : Int) = 2)) := fun ⟨h1, h2⟩ =>
  cut_one hn |>.1 h2 (h1.mono (fun b _ h => by omega))

theorem JV1 : JV n c = 1 ↔ Join n 1 (fun b => geti c (b : Int) = 1) := by
  unfold JV
  split
  · simp_all
  · split <;> simp_all
theorem JV2 (hn : 1 ≤ n) : JV n c = 2 ↔ Join n 2 (fun b => geti c (b : Int) = 2) := by
  have := not_both (c := c) hn
  unfold JV
  split
  · rename_i h
    exact ⟨fun h => by omega, fun h2 => absurd ⟨h, h2⟩ this⟩
  · split <;> simp_all

theorem joined_v (B : Dm (n : Int) (n : Int) c) (hlen : c.length = n * n) : ∃ y, hex_joined_m n n c = some (JV n c, y) := by
  classical
  unfold hex_joined_m JV
  have p1 : hex_joined_L1 n n c 1 = hex_joined_J2 n n c 1 := by simp [hex_joined_L1]
  have p2 : hex_joined_L1 n n c 2 = hex_joined_J2 n n c 2 := by simp [hex_joined_L1]
  have p3 : hex_joined_L1 n n c 3 = some (.done (.go ())) := by simp [hex_joined_L1]
  rw [joinJ_p B (.inl rfl)] at p1
  rw [joinJ_p B (.inr rfl)] at p2
  rw [← has_join hlen, ← has_join hlen]
  by_cases h1 : Has (n : Int) 1 (grpsH (n : Int) c 1 c.length)
  · rw [if_pos h1] at p1
    rw [loop_done p1, if_pos h1]
    exact ⟨_, rfl⟩
  · rw [if_neg h1] at p1
    rw [if_neg h1]
    by_cases h2 : Has (n : Int) 2 (grpsH (n : Int) c 2 c.length)
    · rw [if_pos h2] at p2
      rw [loop_next' p1 (loop_done p2), if_pos h2]
      exact ⟨_, rfl⟩
    · rw [if_neg h2] at p2
      rw [loop_next' p1 (loop_next' p2 (loop_done p3)), if_neg h2]
      exact ⟨[], rfl⟩

theorem short1 (hn : 1 ≤ n) (hlen : c.length = n * n) {k : Int} (h : AnsS (WayS (n : Int) c 1) (goalS (n : Int) c 1) k) : (k = -1 ↔ JV n c = 2) ∧ (k = 0 ↔ JV n c = 1) := by
  rw [ans_neg h, ans_zero h, way_join hlen, zero_join hlen (.inl rfl), JV1, JV2 hn, cut_one hn]
  exact ⟨Iff.rfl, Iff.rfl⟩
theorem short2 (hn : 1 ≤ n) (hlen : c.length = n * n) {k : Int} (h : AnsS (WayS (n : Int) c 2) (goalS (n : Int) c 2) k) : (k = -1 ↔ JV n c = 1) ∧ (k = 0 ↔ JV n c = 2) := by
  have e : (fun b : Nat => geti c (b : Int) ≠ 3 - 2) = (fun b : Nat => geti c (b : Int) ≠ 1) := rfl
  rw [ans_neg h, ans_zero h, way_join hlen, zero_join hlen (.inr rfl), JV1, JV2 hn, e, cut_two hn, Classical.not_not]
  exact ⟨Iff.rfl, Iff.rfl⟩

/-- A full board has a winner. -/
theorem full_won (hn : 1 ≤ n) (hc : ∀ b : Nat, b < n * n → geti c (b : Int) = 1 ∨ geti c (b : Int) = 2) : JV n c = 1 ∨ JV n c = 2 := by
  rw [JV1, JV2 hn, cut_one hn]
  by_cases h : Join n 1 (fun b => geti c (b : Int) ≠ 2)
  · exact .inl (h.mono (fun b hb h => by have := hc b hb; omega))
  · exact .inr h
theorem empty_none (hc : ∀ b : Nat, b < n * n → geti c (b : Int) = 0) : JV n c = 0 := by
  have key : ∀ who v : Int, v ≠ 0 → ¬ Join n who (fun b => geti c (b : Int) = v) := fun who v hv ⟨p, _, hp, _⟩ => by
    have := hc p hp.1
    omega
  unfold JV
  rw [if_neg (key 1 1 (by decide)), if_neg (key 2 2 (by decide))]
/-- What is won stays won. -/
theorem stays (hn : 1 ≤ n) {c' : List Int} (h : ∀ b : Nat, b < n * n → geti c (b : Int) ≠ 0 → geti c' (b : Int) = geti c (b : Int)) (hw : 0 < JV n c) : JV n c' = JV n c := by
  by_cases h1 : Join n 1 (fun b => geti c (b : Int) = 1)
  · rw [JV1.2 h1, JV1]
    exact h1.mono (fun b hb e => by rw [h b hb (by omega)]; exact e)
  · by_cases h2 : Join n 2 (fun b => geti c (b : Int) = 2)
    · rw [(JV2 hn).2 h2, JV2 hn]
      exact h2.mono (fun b hb e => by rw [h b hb (by omega)]; exact e)
    · unfold JV at hw
      rw [if_neg h1, if_neg h2] at hw
      omega
end
end Go.Proofs.Ytgogihcmnkncjaa
