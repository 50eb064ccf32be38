/-
  Hex as a game of Y: just one of two colours joins its sides.
-/
import Derived.Test.YtgogihcmnkncjaaTYa
namespace Go.Proofs.Ytgogihcmnkncjaa

def MH (w : Nat) (g : Nat → Nat → Bool) (c : Bool) (x y : Nat) : Prop := (x < w ∧ y < w) ∧ g x y = c
def fill (w : Nat) (g : Nat → Nat → Bool) (x y : Nat) : Bool := if w ≤ x then true else if w ≤ y then false else g x y
def HT (w : Nat) (g : Nat → Nat → Bool) : Prop := ∃ y y', Rc (MH w g true) 0 y (w - 1) y'
def HF (w : Nat) (g : Nat → Nat → Bool) : Prop := ∃ x x', Rc (MH w g false) x 0 x' (w - 1)

section
variable {w : Nat} {g : Nat → Nat → Bool}

theorem fill_T {x y : Nat} (hx : x < w) (h : fill w g x y = true) : y < w ∧ g x y = true := by
  unfold fill at h
  rw [if_neg (by omega)] at h
  split at h
  · cases h
  · exact ⟨by omega, h⟩
theorem fill_F {x y : Nat} (hy : y < w) (h : fill w g x y = false) : x < w ∧ g x y = false := by
  unfold fill at h
  split at h
  · cases h
  · rw [if_neg (by omega)] at h
    exact ⟨by omega, h⟩
theorem fill_in {x y : Nat} (hx : x < w) (hy : y < w) : fill w g x y = g x y := by
  unfold fill
  rw [if_neg (by omega), if_neg (by omega)]
theorem fill_T' {x y : Nat} (hx : w ≤ x) : fill w g x y = true := by unfold fill; rw [if_pos hx]
theorem fill_F' {x y : Nat} (hx : x < w) (hy : w ≤ y) : fill w g x y = false := by unfold fill; rw [if_neg (by omega), if_pos hy]

theorem mh_my {c : Bool} {x y : Nat} (h : MH w g c x y) : MY (2 * w - 1) (fill w g) c x y := by
  obtain ⟨⟨h1, h2⟩, h3⟩ := h
  exact ⟨by omega, by rw [fill_in h1 h2]; exact h3⟩

theorem follow_T {y a b : Nat} (hw : 1 ≤ w) (h : Rc (MY (2 * w - 1) (fill w g) true) 0 y a b) : (a < w ∧ Rc (MH w g true) 0 y a b) ∨ ∃ y', Rc (MH w g true) 0 y (w - 1) y' := by
  induction h with
  | here h =>
    obtain ⟨h1, h2⟩ := fill_T (show 0 < w by omega) h.2
    exact .inl ⟨by omega, .here ⟨⟨by omega, h1⟩, h2⟩⟩
  | @step x y1 x' y1' h ha hm ih =>
    rcases ih with ⟨hlt, r⟩ | h
    · by_cases e : x = w - 1
      · subst e
        exact .inr ⟨_, r⟩
      · have hx' : x' < w := by unfold TA at ha; omega
        obtain ⟨h1, h2⟩ := fill_T hx' hm.2
        exact .inl ⟨hx', r.step ha ⟨⟨hx', h1⟩, h2⟩⟩
    · exact .inr h
theorem follow_F {x0 a b : Nat} (hw : 1 ≤ w) (h : Rc (MY (2 * w - 1) (fill w g) false) x0 0 a b) : (b < w ∧ Rc (MH w g false) x0 0 a b) ∨ ∃ x', Rc (MH w g false) x0 0 x' (w - 1) := by
  induction h with
  | here h =>
    obtain ⟨h1, h2⟩ := fill_F (show 0 < w by omega) h.2
    exact .inl ⟨by omega, .here ⟨⟨h1, by omega⟩, h2⟩⟩
  | @step x y1 x' y1' h ha hm ih =>
    rcases ih with ⟨hlt, r⟩ | h
    · by_cases e : y1 = w - 1
      · subst e
        exact .inr ⟨_, r⟩
      · have hy' : y1' < w := by unfold TA at ha; omega
        obtain ⟨h1, h2⟩ := fill_F hy' hm.2
        exact .inl ⟨hy', r.step ha ⟨⟨h1, hy'⟩, h2⟩⟩
    · exact .inr h

theorem corner_T1 : ∀ (b a : Nat), w ≤ a → a + b < 2 * w - 1 → Rc (MY (2 * w - 1) (fill w g) true) a b (a + b) 0
  | 0, a, h, hs => .here ⟨hs, fill_T' h⟩
  | b + 1, a, h, hs => by
    have ih := corner_T1 b (a + 1) (by omega) (by omega)
    rw [show a + 1 + b = a + (b + 1) by omega] at ih
    exact ((Rc.here ⟨hs, fill_T' h⟩).step (by unfold TA; omega) ih.start).trans ih
theorem corner_T2 (hw : 1 ≤ w) : ∀ (k a : Nat), w ≤ a → a + k = 2 * w - 2 → Rc (MY (2 * w - 1) (fill w g) true) a 0 (2 * w - 2) 0
  | 0, a, h, hs => by
    have : a = 2 * w - 2 := by omega
    subst this
    exact .here ⟨by omega, fill_T' h⟩
  | k + 1, a, h, hs => by
    have ih := corner_T2 hw k (a + 1) (by omega) (by omega)
    exact ((Rc.here ⟨by omega, fill_T' h⟩).step (by unfold TA; omega) ih.start).trans ih
theorem corner_F1 : ∀ (a b : Nat), a < w → w ≤ b → a + b < 2 * w - 1 → Rc (MY (2 * w - 1) (fill w g) false) a b 0 (a + b)
  | 0, b, h0, h, hs => by rw [Nat.zero_add]; exact .here ⟨hs, fill_F' h0 h⟩
  | a + 1, b, h0, h, hs => by
    have ih := corner_F1 a (b + 1) (by omega) (by omega) (by omega)
    rw [show a + (b + 1) = a + 1 + b by omega] at ih
    exact ((Rc.here ⟨hs, fill_F' h0 h⟩).step (by unfold TA; omega) ih.start).trans ih
theorem corner_F2 (hw : 1 ≤ w) : ∀ (k b : Nat), w ≤ b → b + k = 2 * w - 2 → Rc (MY (2 * w - 1) (fill w g) false) 0 b 0 (2 * w - 2)
  | 0, b, h, hs => by
    have : b = 2 * w - 2 := by omega
    subst this
    exact .here ⟨by omega, fill_F' (by omega) h⟩
  | k + 1, b, h, hs => by
    have ih := corner_F2 hw k (b + 1) (by omega) (by omega)
    exact ((Rc.here ⟨by omega, fill_F' (by omega) h⟩).step (by unfold TA; omega) ih.start).trans ih

theorem hex_T (hw : 1 ≤ w) : YW (2 * w - 1) (fill w g) true ↔ HT w g := by
  constructor
  · rintro ⟨y, x1, x2, y2, _, h2, h3⟩
    rcases follow_T hw h2 with ⟨hlt, r⟩ | ⟨y', r⟩
    · have := r.last.1
      have e : x2 = w - 1 := by omega
      subst e
      exact ⟨_, _, r⟩
    · exact ⟨_, _, r⟩
  · rintro ⟨y, y', r⟩
    have r1 := r.mono (fun _ _ => mh_my)
    have hl := r.last.1
    by_cases h1 : w = 1
    · subst h1
      have e : y' = 0 := by omega
      subst e
      exact ⟨y, 0, 0, 0, r1, r1, rfl⟩
    · have r2 : Rc (MY (2 * w - 1) (fill w g) true) 0 y (2 * w - 2) 0 := by
        rcases y' with _ | y'
        · have c2 := corner_T2 (g := g) hw (w - 2) w (by omega) (by omega)
          exact (r1.step (by unfold TA; omega) c2.start).trans c2
        · have c1 := corner_T1 (w := w) (g := g) y' w (by omega) (by omega)
          have c2 := corner_T2 (g := g) hw (w - 2 - y') (w + y') (by omega) (by omega)
          exact ((r1.step (by unfold TA; omega) c1.start).trans c1).trans c2
      exact ⟨y, _, _, 0, r2, r2, by omega⟩

theorem hex_F (hw : 1 ≤ w) : YW (2 * w - 1) (fill w g) false ↔ HF w g := by
  constructor
  · rintro ⟨y, x1, x2, y2, h1, h2, h3⟩
    rcases follow_F hw (h1.symm.trans h2) with ⟨hlt, r⟩ | ⟨y', r⟩
    · have := r.last.1
      have e : y2 = w - 1 := by omega
      subst e
      exact ⟨_, _, r⟩
    · exact ⟨_, _, r⟩
  · rintro ⟨x, x', r⟩
    have r1 := r.mono (fun _ _ => mh_my)
    have hl := r.last.1
    by_cases h1 : w = 1
    · subst h1
      have e : x' = 0 := by omega
      subst e
      exact ⟨0, x, 0, 0, r1.symm, .here r1.last, rfl⟩
    · have r2 : Rc (MY (2 * w - 1) (fill w g) false) x 0 0 (2 * w - 2) := by
        rcases x' with _ | x'
        · have c2 := corner_F2 (g := g) hw (w - 2) w (by omega) (by omega)
          exact (r1.step (by unfold TA; omega) c2.start).trans c2
        · have c1 := corner_F1 (w := w) (g := g) x' w (by omega) (by omega) (by omega)
          have c2 := corner_F2 (g := g) hw (w - 2 - x') (x' + w) (by omega) (by omega)
          exact ((r1.step (by unfold TA; omega) c1.start).trans c1).trans c2
      exact ⟨2 * w - 2, x, 0, 2 * w - 2, r2.symm, .here r2.last, by omega⟩

/-- Hex: just one side is joined. -/
theorem hex_one (hw : 1 ≤ w) : HT w g ↔ ¬ HF w g := by
  rw [← hex_T hw, ← hex_F hw]
  exact y_one (2 * w - 1) (fill w g) true (by omega)
end
end Go.Proofs.Ytgogihcmnkncjaa
