/-
  The game of Y on a triangle of cells: whatever the cells' colours, just one colour joins all three sides (a board's majorities make a smaller board).
-/
namespace Go.Proofs.Ytgogihcmnkncjaa

/-- Neighbours. -/
def TA (x y x' y' : Nat) : Prop := (x' = x + 1 ∧ y' = y) ∨ (x = x' + 1 ∧ y' = y) ∨ (x' = x ∧ y' = y + 1) ∨ (x' = x ∧ y = y' + 1) ∨ (x' = x + 1 ∧ y = y' + 1) ∨ (x = x' + 1 ∧ y' = y + 1)
theorem TA.symm {x y x' y' : Nat} (h : TA x y x' y') : TA x' y' x y := by unfold TA at *; omega

inductive Rc (m : Nat → Nat → Prop) (x0 y0 : Nat) : Nat → Nat → Prop
  | here : m x0 y0 → Rc m x0 y0 x0 y0
  | step {x y x' y' : Nat} : Rc m x0 y0 x y → TA x y x' y' → m x' y' → Rc m x0 y0 x' y'

theorem Rc.trans {m : Nat → Nat → Prop} {x0 y0 x y x' y' : Nat} (h : Rc m x0 y0 x y) (k : Rc m x y x' y') : Rc m x0 y0 x' y' := by
  induction k with
  | here _ => exact h
  | step _ a b ih => exact ih.step a b
theorem Rc.start {m : Nat → Nat → Prop} {x0 y0 x y : Nat} (h : Rc m x0 y0 x y) : m x0 y0 := by
  induction h with
  | here h => exact h
  | step _ _ _ ih => exact ih
theorem Rc.last {m : Nat → Nat → Prop} {x0 y0 x y : Nat} (h : Rc m x0 y0 x y) : m x y := by
  cases h with
  | here h => exact h
  | step _ _ h => exact h
theorem Rc.symm {m : Nat → Nat → Prop} {x0 y0 x y : Nat} (h : Rc m x0 y0 x y) : Rc m x y x0 y0 := by
  induction h with
  | here h => exact .here h
  | step h a b ih => exact (Rc.step (.here b) a.symm h.last).trans ih
theorem Rc.mono {m m' : Nat → Nat → Prop} (hm : ∀ x y, m x y → m' x y) {x0 y0 x y : Nat} (h : Rc m x0 y0 x y) : Rc m' x0 y0 x y := by
  induction h with
  | here h => exact .here (hm _ _ h)
  | step _ a b ih => exact ih.step a (hm _ _ b)
theorem Rc.first {m : Nat → Nat → Prop} {x0 y0 x y : Nat} (h : Rc m x0 y0 x y) : (x = x0 ∧ y = y0) ∨ ∃ x' y', TA x0 y0 x' y' ∧ m x' y' := by
  induction h with
  | here _ => exact .inl ⟨rfl, rfl⟩
  | step h a b ih =>
    rcases ih with ⟨rfl, rfl⟩ | h
    · exact .inr ⟨_, _, a, b⟩
    · exact .inr h

/-- Cells of a colour. -/
def MY (N : Nat) (f : Nat → Nat → Bool) (c : Bool) (x y : Nat) : Prop := x + y < N ∧ f x y = c
def YW (N : Nat) (f : Nat → Nat → Bool) (c : Bool) : Prop := ∃ y x1 x2 y2, Rc (MY N f c) 0 y x1 0 ∧ Rc (MY N f c) 0 y x2 y2 ∧ x2 + y2 + 1 = N

def maj (f : Nat → Nat → Bool) (x y : Nat) : Bool := (f x y && f (x + 1) y) || (f x y && f x (y + 1)) || (f (x + 1) y && f x (y + 1))
theorem maj_iff {f : Nat → Nat → Bool} {x y : Nat} {c : Bool} : maj f x y = c ↔ (f x y = c ∧ f (x + 1) y = c) ∨ (f x y = c ∧ f x (y + 1) = c) ∨ (f (x + 1) y = c ∧ f x (y + 1) = c) := by
  unfold maj
  cases f x y <;> cases f (x + 1) y <;> cases f x (y + 1) <;> cases c <;> decide

/-- A cell of a triangle. -/
def inT (s t x y : Nat) : Prop := (x = s ∧ y = t) ∨ (x = s + 1 ∧ y = t) ∨ (x = s ∧ y = t + 1)

section
variable {N : Nat} {f : Nat → Nat → Bool} {c : Bool}

theorem inT.adj {s t x y x' y' : Nat} (h : inT s t x y) (h' : inT s t x' y') : (x = x' ∧ y = y') ∨ TA x y x' y' := by
  unfold inT TA at *; omega
theorem rc_same {s t x y x' y' : Nat} (h : inT s t x y) (h' : inT s t x' y') (hm : MY N f c x y) (hm' : MY N f c x' y') : Rc (MY N f c) x y x' y' := by
  rcases h.adj h' with ⟨rfl, rfl⟩ | h
  · exact .here hm
  · exact (Rc.here hm).step h hm'

theorem cells_maj {s t x y x' y' : Nat} (hs : s + t < N) (h : inT s t x y) (h' : inT s t x' y') (hne : ¬ (x = x' ∧ y = y')) (hm : MY (N + 1) f c x y) (hm' : MY (N + 1) f c x' y') : MY N (maj f) c s t := by
  refine ⟨hs, maj_iff.2 ?_⟩
  have h1 := hm.2
  have h2 := hm'.2
  rcases h with ⟨rfl, rfl⟩ | ⟨rfl, rfl⟩ | ⟨rfl, rfl⟩ <;> rcases h' with ⟨rfl, rfl⟩ | ⟨rfl, rfl⟩ | ⟨rfl, rfl⟩
  · exact absurd ⟨rfl, rfl⟩ hne
  · exact .inl ⟨h1, h2⟩
  · exact .inr (.inl ⟨h1, h2⟩)
  · exact .inl ⟨h2, h1⟩
  · exact absurd ⟨rfl, rfl⟩ hne
  · exact .inr (.inr ⟨h1, h2⟩)
  · exact .inr (.inl ⟨h2, h1⟩)
  · exact .inr (.inr ⟨h2, h1⟩)
  · exact absurd ⟨rfl, rfl⟩ hne

/-- Triangles side by side: their cells hang together. -/
theorem rc_next {s t s' t' : Nat} (ha : TA s t s' t') (h : MY N (maj f) c s t) (h' : MY N (maj f) c s' t') : ∃ x y x' y', inT s t x y ∧ inT s' t' x' y' ∧ Rc (MY (N + 1) f c) x y x' y' := by
  obtain ⟨n1, m1⟩ := h
  obtain ⟨n2, m2⟩ := h'
  have key : ∀ {x y x' y' : Nat}, inT s t x y → inT s' t' x' y' → ((x = x' ∧ y = y') ∨ TA x y x' y') → f x y = c → f x' y' = c → ∃ x y x' y', inT s t x y ∧ inT s' t' x' y' ∧ Rc (MY (N + 1) f c) x y x' y' := by
    intro x y x' y' a a' e b b'
    have w1 : MY (N + 1) f c x y := ⟨by unfold inT at a; omega, b⟩
    have w2 : MY (N + 1) f c x' y' := ⟨by unfold inT at a'; omega, b'⟩
    refine ⟨x, y, x', y', a, a', ?_⟩
    rcases e with ⟨rfl, rfl⟩ | e
    · exact .here w1
    · exact (Rc.here w1).step e w2
  rw [maj_iff] at m1 m2
  unfold TA at ha
  rcases ha with ⟨rfl, rfl⟩ | ⟨rfl, rfl⟩ | ⟨rfl, rfl⟩ | ⟨rfl, rfl⟩ | ⟨rfl, rfl⟩ | ⟨rfl, rfl⟩ <;>
    (rcases m1 with ⟨a, b⟩ | ⟨a, b⟩ | ⟨a, b⟩ <;> rcases m2 with ⟨a', b'⟩ | ⟨a', b'⟩ | ⟨a', b'⟩ <;>
      first
        | exact key (by unfold inT; omega) (by unfold inT; omega) (by unfold TA; omega) a a'
        | exact key (by unfold inT; omega) (by unfold inT; omega) (by unfold TA; omega) a b'
        | exact key (by unfold inT; omega) (by unfold inT; omega) (by unfold TA; omega) b a'
        | exact key (by unfold inT; omega) (by unfold inT; omega) (by unfold TA; omega) b b')

theorem lift {s t s' t' : Nat} (h : Rc (MY N (maj f) c) s t s' t') : ∀ {x y x' y' : Nat}, inT s t x y → MY (N + 1) f c x y → inT s' t' x' y' → MY (N + 1) f c x' y' → Rc (MY (N + 1) f c) x y x' y' := by
  induction h with
  | here h => exact fun a b a' b' => rc_same a a' b b'
  | step h ha hm ih =>
    intro x y x' y' a b a' b'
    obtain ⟨u, v, u', v', k1, k2, k3⟩ := rc_next ha h.last hm
    exact ((ih a b k1 k3.start).trans k3).trans (rc_same k2 a' k3.last b')

theorem YW.up (h : YW N (maj f) c) : YW (N + 1) f c := by
  obtain ⟨y, x1, x2, y2, h1, h2, h3⟩ := h
  -- a cell at the first side
  have a0 : ∃ y', inT 0 y 0 y' ∧ MY (N + 1) f c 0 y' := by
    obtain ⟨n, m⟩ := h1.start
    rcases maj_iff.1 m with ⟨a, b⟩ | ⟨a, b⟩ | ⟨a, b⟩
    · exact ⟨y, .inl ⟨rfl, rfl⟩, by omega, a⟩
    · exact ⟨y, .inl ⟨rfl, rfl⟩, by omega, a⟩
    · exact ⟨y + 1, .inr (.inr ⟨rfl, rfl⟩), by omega, b⟩
  have a1 : ∃ x', inT x1 0 x' 0 ∧ MY (N + 1) f c x' 0 := by
    obtain ⟨n, m⟩ := h1.last
    rcases maj_iff.1 m with ⟨a, b⟩ | ⟨a, b⟩ | ⟨a, b⟩
    · exact ⟨x1, .inl ⟨rfl, rfl⟩, by omega, a⟩
    · exact ⟨x1, .inl ⟨rfl, rfl⟩, by omega, a⟩
    · exact ⟨x1 + 1, .inr (.inl ⟨rfl, rfl⟩), by omega, a⟩
  have a2 : ∃ x' y', inT x2 y2 x' y' ∧ MY (N + 1) f c x' y' ∧ x' + y' + 1 = N + 1 := by
    obtain ⟨n, m⟩ := h2.last
    rcases maj_iff.1 m with ⟨a, b⟩ | ⟨a, b⟩ | ⟨a, b⟩
    · exact ⟨x2 + 1, y2, .inr (.inl ⟨rfl, rfl⟩), ⟨by omega, b⟩, by omega⟩
    · exact ⟨x2, y2 + 1, .inr (.inr ⟨rfl, rfl⟩), ⟨by omega, b⟩, by omega⟩
    · exact ⟨x2, y2 + 1, .inr (.inr ⟨rfl, rfl⟩), ⟨by omega, b⟩, by omega⟩
  obtain ⟨y', i0, m0⟩ := a0
  obtain ⟨x1', i1, m1⟩ := a1
  obtain ⟨x2', y2', i2, m2, e2⟩ := a2
  exact ⟨y', x1', x2', y2', lift h1 i0 m0 i1 m1, lift h2 i0 m0 i2 m2, e2⟩

/-- An edge lies in a triangle. -/
theorem edge {x y x' y' : Nat} (ha : TA x y x' y') (h : MY (N + 1) f c x y) (h' : MY (N + 1) f c x' y') : ∃ s t, inT s t x y ∧ inT s t x' y' ∧ MY N (maj f) c s t := by
  have n1 := h.1
  have n2 := h'.1
  have key : ∀ s t : Nat, s + t < N → inT s t x y → inT s t x' y' → ∃ s t, inT s t x y ∧ inT s t x' y' ∧ MY N (maj f) c s t := fun s t hs i i' =>
    ⟨s, t, i, i', cells_maj hs i i' (by unfold TA at ha; omega) h h'⟩
  have ha' := ha
  unfold TA at ha
  rcases ha with ⟨e1, e2⟩ | ⟨e1, e2⟩ | ⟨e1, e2⟩ | ⟨e1, e2⟩ | ⟨e1, e2⟩ | ⟨e1, e2⟩
  · exact key x y (by omega) (by unfold inT; omega) (by unfold inT; omega)
  · exact key x' y' (by omega) (by unfold inT; omega) (by unfold inT; omega)
  · exact key x y (by omega) (by unfold inT; omega) (by unfold inT; omega)
  · exact key x' y' (by omega) (by unfold inT; omega) (by unfold inT; omega)
  · exact key x y' (by omega) (by unfold inT; omega) (by unfold inT; omega)
  · exact key x' y (by omega) (by unfold inT; omega) (by unfold inT; omega)

theorem share {s t s' t' x y : Nat} (h : inT s t x y) (h' : inT s' t' x y) : (s = s' ∧ t = t') ∨ TA s t s' t' := by
  unfold inT TA at *; omega

theorem down {x0 y0 x y : Nat} (h : Rc (MY (N + 1) f c) x0 y0 x y) {s t : Nat} (hi : inT s t x0 y0) (hm : MY N (maj f) c s t) : ∃ s' t', inT s' t' x y ∧ Rc (MY N (maj f) c) s t s' t' := by
  induction h with
  | here _ => exact ⟨s, t, hi, .here hm⟩
  | step h ha hb ih =>
    obtain ⟨s', t', i, r⟩ := ih
    obtain ⟨u, v, j1, j2, k⟩ := edge ha h.last hb
    refine ⟨u, v, j2, ?_⟩
    rcases share i j1 with ⟨rfl, rfl⟩ | e
    · exact r
    · exact r.step e k

theorem YW.down (hN : 1 ≤ N) (h : YW (N + 1) f c) : YW N (maj f) c := by
  obtain ⟨y, x1, x2, y2, h1, h2, h3⟩ := h
  have h0 : ∃ x' y', TA 0 y x' y' ∧ MY (N + 1) f c x' y' := by
    rcases h1.first with ⟨a, b⟩ | h
    · rcases h2.first with ⟨a', b'⟩ | h
      · omega
      · exact h
    · exact h
  obtain ⟨x', y', ha, hm⟩ := h0
  obtain ⟨s, t, i, _, k⟩ := edge ha h1.start hm
  obtain ⟨s1, t1, i1, r1⟩ := Go.Proofs.Ytgogihcmnkncjaa.down h1 i k
  obtain ⟨s2, t2, i2, r2⟩ := Go.Proofs.Ytgogihcmnkncjaa.down h2 i k
  have e0 : s = 0 := by unfold inT at i; omega
  have e1 : t1 = 0 := by unfold inT at i1; omega
  have e2 : s2 + t2 + 1 = N := by
    have := r2.last.1
    unfold inT at i2
    omega
  subst e0; subst e1
  exact ⟨t, s1, s2, t2, r1, r2, e2⟩
end

/-- Just one colour joins the sides. -/
theorem y_one : ∀ (N : Nat) (f : Nat → Nat → Bool) (c : Bool), 1 ≤ N → (YW N f c ↔ ¬ YW N f (!c))
  | 0, _, _, h => absurd h (by omega)
  | 1, f, c, _ => by
    have key : ∀ c, YW 1 f c ↔ f 0 0 = c := fun c => by
      constructor
      · rintro ⟨y, x1, x2, y2, h1, _, _⟩
        have hs := h1.start
        have : y = 0 := by have := hs.1; omega
        subst this
        exact hs.2
      · intro h
        have hm : MY 1 f c 0 0 := ⟨by omega, h⟩
        exact ⟨0, 0, 0, 0, .here hm, .here hm, rfl⟩
    rw [key, key]
    cases f 0 0 <;> cases c <;> decide
  | N + 2, f, c, _ => by
    have ih := y_one (N + 1) (maj f) c (by omega)
    have e : ∀ c, YW (N + 2) f c ↔ YW (N + 1) (maj f) c := fun c => ⟨fun h => h.down (by omega), fun h => h.up⟩
    rw [e, e]
    exact ih
end Go.Proofs.Ytgogihcmnkncjaa
