/-
  Discs on three pegs, plainly: how many moves bring discs together, how far two states are from one another, and what neighbours are.
-/
import Derived.Test.YtbmhcapeikebgaaLibY
namespace Go.HW
open Go Go.GL

/-- Moves that bring the n smallest discs to a peg. -/
def G (σ : Nat → Int) : Nat → Int → Nat
  | 0, _ => 0
  | n + 1, p => if σ n = p then G σ n p else G σ n (3 - σ n - p) + 2 ^ n
def mn2 (a b : Nat) : Nat := if b < a then b else a
theorem mn2_spec (a b : Nat) : mn2 a b ≤ a ∧ mn2 a b ≤ b ∧ (mn2 a b = a ∨ mn2 a b = b) := by
  unfold mn2; split <;> omega
/-- Moves from one state to another. -/
def D (σ τ : Nat → Int) : Nat → Nat
  | 0 => 0
  | n + 1 => if σ n = τ n then D σ τ n else mn2 (G σ n (3 - σ n - τ n) + 1 + G τ n (3 - σ n - τ n)) (G σ n (τ n) + 2 ^ n + 1 + G τ n (σ n))

def pg (x : Int) : Prop := x = 0 ∨ x = 1 ∨ x = 2
def V (n : Nat) (σ : Nat → Int) : Prop := ∀ i, i < n → pg (σ i)
theorem V.less {n : Nat} {σ : Nat → Int} (h : V (n + 1) σ) : V n σ := fun i hi => h i (by omega)
theorem pg_third {a b : Int} (ha : pg a) (hb : pg b) (h : a ≠ b) : pg (3 - a - b) ∧ 3 - a - b ≠ a ∧ 3 - a - b ≠ b := by
  unfold pg at *; omega

theorem G_congr {σ τ : Nat → Int} : ∀ (n : Nat) (p : Int), (∀ i, i < n → σ i = τ i) → G σ n p = G τ n p
  | 0, _, _ => rfl
  | n + 1, p, h => by
    unfold G
    rw [h n (by omega), G_congr n p (fun i hi => h i (by omega)), G_congr n (3 - τ n - p) (fun i hi => h i (by omega))]
theorem D_congr {σ τ τ' : Nat → Int} : ∀ (n : Nat), (∀ i, i < n → τ i = τ' i) → D σ τ n = D σ τ' n
  | 0, _ => rfl
  | n + 1, h => by
    unfold D
    rw [h n (by omega), D_congr n (fun i hi => h i (by omega)), G_congr n _ (fun i hi => h i (by omega)), G_congr n (σ n) (fun i hi => h i (by omega))]

theorem G_perf {σ : Nat → Int} : ∀ (n : Nat) (p q : Int), pg p → pg q → (∀ i, i < n → σ i = q) → G σ n p + 1 = if q = p then 1 else 2 ^ n
  | 0, p, q, _, _, _ => by simp [G]
  | n + 1, p, q, hp, hq, h => by
    unfold G
    rw [h n (by omega)]
    have ih := G_perf n p q hp hq (fun i hi => h i (by omega))
    by_cases e : q = p
    · rw [if_pos e, if_pos e]; rw [if_pos e] at ih; exact ih
    · have t := pg_third hq hp e
      have ih2 := G_perf n (3 - q - p) q t.1 hq (fun i hi => h i (by omega))
      rw [if_neg (fun z => t.2.1 z.symm)] at ih2
      rw [if_neg e, if_neg e, Nat.pow_succ]
      omega
theorem G_le {σ : Nat → Int} : ∀ (n : Nat) (p : Int), G σ n p + 1 ≤ 2 ^ n
  | 0, p => by simp [G]
  | n + 1, p => by
    have h1 := G_le (σ := σ) n p
    have h2 := G_le (σ := σ) n (3 - σ n - p)
    unfold G
    rw [Nat.pow_succ]
    split <;> omega

/-- Neighbours. -/
def E (n : Nat) (σ τ : Nat → Int) : Prop := ∃ d, d < n ∧ σ d ≠ τ d ∧ (∀ i, i < d → σ i = 3 - σ d - τ d ∧ τ i = σ i) ∧ ∀ i, d < i → i < n → τ i = σ i
theorem E.symm {n : Nat} {σ τ : Nat → Int} (h : E n σ τ) : E n τ σ := by
  obtain ⟨d, h1, h2, h3, h4⟩ := h
  refine ⟨d, h1, fun e => h2 e.symm, fun i hi => ⟨?_, (h3 i hi).2.symm⟩, fun i hi hin => (h4 i hi hin).symm⟩
  rw [(h3 i hi).2, (h3 i hi).1]; omega
theorem E_succ {n : Nat} {σ τ : Nat → Int} (h : E (n + 1) σ τ) : (σ n = τ n ∧ E n σ τ) ∨ (σ n ≠ τ n ∧ ∀ i, i < n → σ i = 3 - σ n - τ n ∧ τ i = σ i) := by
  obtain ⟨d, h1, h2, h3, h4⟩ := h
  by_cases e : d = n
  · subst e; exact .inr ⟨h2, h3⟩
  · exact .inl ⟨(h4 n (by omega) (by omega)).symm, d, by omega, h2, h3, fun i hi hin => h4 i hi (by omega)⟩
theorem E_up {n : Nat} {σ τ : Nat → Int} (h : E n σ τ) (he : τ n = σ n) : E (n + 1) σ τ := by
  obtain ⟨d, h1, h2, h3, h4⟩ := h
  exact ⟨d, by omega, h2, h3, fun i hi hin => by
    by_cases e : i = n
    · rw [e]; exact he
    · exact h4 i hi (by omega)⟩
theorem E_top {n : Nat} {σ τ : Nat → Int} (h : σ n ≠ τ n) (h2 : ∀ i, i < n → σ i = 3 - σ n - τ n ∧ τ i = σ i) : E (n + 1) σ τ := ⟨n, by omega, h, h2, fun i hi hin => by omega⟩

theorem G_lip {σ τ : Nat → Int} : ∀ (n : Nat) (p : Int), pg p → V n σ → V n τ → E n σ τ → G τ n p ≤ G σ n p + 1
  | 0, _, _, _, _, ⟨d, h, _⟩ => by omega
  | n + 1, p, hp, hσ, hτ, h => by
    have a := hσ n (by omega)
    have b := hτ n (by omega)
    rcases E_succ h with ⟨e, h⟩ | ⟨e, h⟩
    · unfold G
      rw [← e]
      by_cases z : σ n = p
      · rw [if_pos z, if_pos z]; exact G_lip n p hp hσ.less hτ.less h
      · rw [if_neg z, if_neg z]
        have := G_lip n (3 - σ n - p) (pg_third a hp z).1 hσ.less hτ.less h
        omega
    · have t := pg_third a b e
      have hs : ∀ i, i < n → σ i = 3 - σ n - τ n := fun i hi => (h i hi).1
      have ht : ∀ i, i < n → τ i = 3 - σ n - τ n := fun i hi => (h i hi).2.trans (h i hi).1
      have P1 := fun q (hq : pg q) => G_perf n q _ hq t.1 hs
      have P2 := fun q (hq : pg q) => G_perf n q _ hq t.1 ht
      unfold G
      by_cases z : σ n = p
      · have z2 : ¬ τ n = p := fun y => e (z.trans y.symm)
        rw [if_pos z, if_neg z2]
        have g1 := P1 p hp
        have g2 := P2 (3 - τ n - p) (pg_third b hp z2).1
        rw [if_neg (by omega)] at g1
        rw [if_pos (by omega)] at g2
        omega
      · rw [if_neg z]
        by_cases z2 : τ n = p
        · rw [if_pos z2]
          have g1 := P2 p hp
          rw [if_neg (by omega)] at g1
          omega
        · rw [if_neg z2]
          have g1 := P1 (3 - σ n - p) (pg_third a hp z).1
          have g2 := P2 (3 - τ n - p) (pg_third b hp z2).1
          have hpc : p = 3 - σ n - τ n := by unfold pg at *; omega
          rw [if_neg (by omega)] at g1
          rw [if_neg (by omega)] at g2
          omega

/-- The state with a disc elsewhere. -/
def up (σ : Nat → Int) (d : Nat) (x : Int) : Nat → Int := fun i => if i = d then x else σ i

theorem G_desc {σ : Nat → Int} : ∀ (n : Nat) (p : Int), pg p → V n σ → (∃ i, i < n ∧ σ i ≠ p) → ∃ τ, V n τ ∧ E n σ τ ∧ (∀ i, n ≤ i → τ i = σ i) ∧ G τ n p + 1 = G σ n p
  | 0, _, _, _, ⟨i, h, _⟩ => by omega
  | n + 1, p, hp, hσ, ⟨i, hi, hne⟩ => by
    have a := hσ n (by omega)
    by_cases z : σ n = p
    · have hi' : i < n := by
        by_cases e : i = n
        · subst e; exact absurd z hne
        · omega
      obtain ⟨τ, t1, t2, t3, t4⟩ := G_desc n p hp hσ.less ⟨i, hi', hne⟩
      refine ⟨τ, fun j hj => ?_, E_up t2 (t3 n (Nat.le_refl _)), fun j hj => t3 j (by omega), ?_⟩
      · by_cases e : j = n
        · rw [e, t3 n (Nat.le_refl _)]; exact a
        · exact t1 j (by omega)
      · unfold G
        rw [t3 n (Nat.le_refl _), if_pos z, if_pos z]; exact t4
    · have t := pg_third a hp z
      by_cases q : ∃ i, i < n ∧ σ i ≠ 3 - σ n - p
      · obtain ⟨τ, t1, t2, t3, t4⟩ := G_desc n (3 - σ n - p) t.1 hσ.less q
        refine ⟨τ, fun j hj => ?_, E_up t2 (t3 n (Nat.le_refl _)), fun j hj => t3 j (by omega), ?_⟩
        · by_cases e : j = n
          · rw [e, t3 n (Nat.le_refl _)]; exact a
          · exact t1 j (by omega)
        · unfold G
          rw [t3 n (Nat.le_refl _), if_neg z, if_neg z]; omega
      · have hall : ∀ i, i < n → σ i = 3 - σ n - p := fun i hi => Classical.byContradiction fun y => q ⟨i, hi, y⟩
        have un : up σ n p n = p := if_pos rfl
        have ui : ∀ i, i < n → up σ n p i = σ i := fun i hi => if_neg (by omega)
        refine ⟨up σ n p, fun j hj => ?_, E_top (by rw [un]; exact z) (fun i hi => ⟨by rw [un]; exact hall i hi, ui i hi⟩), fun j hj => if_neg (by omega), ?_⟩
        · by_cases e : j = n
          · rw [e, un]; exact hp
          · rw [ui j (by omega)]; exact hσ j hj
        · unfold G
          rw [un, if_pos rfl, if_neg z]
          have g1 := G_perf n p _ hp t.1 (fun i hi => (ui i hi).trans (hall i hi))
          have g2 := G_perf n (3 - σ n - p) _ t.1 t.1 hall
          rw [if_neg t.2.2] at g1
          rw [if_pos rfl] at g2
          omega

theorem D_self (s : Nat → Int) : ∀ n, D s s n = 0
  | 0 => rfl
  | n + 1 => by unfold D; rw [if_pos rfl]; exact D_self s n

theorem D_perf {s τ : Nat → Int} : ∀ (n : Nat) (p : Int), pg p → V n s → (∀ i, i < n → τ i = p) → D s τ n = G s n p
  | 0, _, _, _, _ => rfl
  | n + 1, p, hp, hs, h => by
    have a := hs n (by omega)
    have hn := h n (by omega)
    rw [show D s τ (n + 1) = (if s n = τ n then D s τ n else mn2 (G s n (3 - s n - τ n) + 1 + G τ n (3 - s n - τ n)) (G s n (τ n) + 2 ^ n + 1 + G τ n (s n))) from rfl, show G s (n + 1) p = (if s n = p then G s n p else G s n (3 - s n - p) + 2 ^ n) from rfl, hn]
    by_cases z : s n = p
    · rw [if_pos z, if_pos z]; exact D_perf n p hp hs.less (fun i hi => h i (by omega))
    · rw [if_neg z, if_neg z]
      have t := pg_third a hp z
      have g1 := G_perf n (3 - s n - p) p t.1 hp (fun i hi => h i (by omega))
      have g2 := G_perf n (s n) p a hp (fun i hi => h i (by omega))
      rw [if_neg (fun y => t.2.2 y.symm)] at g1
      rw [if_neg (fun y => z y.symm)] at g2
      have b1 := G_le (σ := s) n (3 - s n - p)
      have sp := mn2_spec (G s n (3 - s n - p) + 1 + G τ n (3 - s n - p)) (G s n p + 2 ^ n + 1 + G τ n (s n))
      omega

theorem D_lip {s σ τ : Nat → Int} : ∀ (n : Nat), V n s → V n σ → V n τ → E n σ τ → D s τ n ≤ D s σ n + 1
  | 0, _, _, _, ⟨d, h, _⟩ => by omega
  | n + 1, hs, hσ, hτ, h => by
    have c := hs n (by omega)
    have a := hσ n (by omega)
    have b := hτ n (by omega)
    rcases E_succ h with ⟨e, h⟩ | ⟨e, h⟩
    · unfold D
      rw [← e]
      by_cases z : s n = σ n
      · rw [if_pos z, if_pos z]; exact D_lip n hs.less hσ.less hτ.less h
      · rw [if_neg z, if_neg z]
        have g1 := G_lip n (3 - s n - σ n) (pg_third c a z).1 hσ.less hτ.less h
        have g2 := G_lip n (s n) c hσ.less hτ.less h
        have s1 := mn2_spec (G s n (3 - s n - σ n) + 1 + G σ n (3 - s n - σ n)) (G s n (σ n) + 2 ^ n + 1 + G σ n (s n))
        have s2 := mn2_spec (G s n (3 - s n - σ n) + 1 + G τ n (3 - s n - σ n)) (G s n (σ n) + 2 ^ n + 1 + G τ n (s n))
        omega
    · have t := pg_third a b e
      have hs1 : ∀ i, i < n → σ i = 3 - σ n - τ n := fun i hi => (h i hi).1
      have ht1 : ∀ i, i < n → τ i = 3 - σ n - τ n := fun i hi => (h i hi).2.trans (h i hi).1
      have P1 := fun q (hq : pg q) => G_perf n q _ hq t.1 hs1
      have P2 := fun q (hq : pg q) => G_perf n q _ hq t.1 ht1
      have D1 := D_perf n _ t.1 hs.less hs1
      have D2 := D_perf n _ t.1 hs.less ht1
      have L := fun q => G_le (σ := s) n q
      unfold D
      by_cases z1 : s n = σ n
      · have z2 : ¬ s n = τ n := fun y => e (z1.symm.trans y)
        rw [if_pos z1, if_neg z2, D1]
        have s2 := mn2_spec (G s n (3 - s n - τ n) + 1 + G τ n (3 - s n - τ n)) (G s n (τ n) + 2 ^ n + 1 + G τ n (s n))
        have g := P2 (3 - s n - τ n) (pg_third c b z2).1
        rw [if_pos (by omega)] at g
        rw [z1] at s2 g ⊢
        omega
      · by_cases z2 : s n = τ n
        · rw [if_neg z1, if_pos z2, D2]
          have s2 := mn2_spec (G s n (3 - s n - σ n) + 1 + G σ n (3 - s n - σ n)) (G s n (σ n) + 2 ^ n + 1 + G σ n (s n))
          have g := P1 (s n) c
          rw [if_neg (by omega)] at g
          have b1 := L (3 - σ n - τ n)
          have e3 : 3 - s n - σ n = 3 - σ n - τ n := by omega
          rw [e3] at s2 ⊢
          omega
        · rw [if_neg z1, if_neg z2]
          have e0 : s n = 3 - σ n - τ n := by unfold pg at *; omega
          have e1 : 3 - s n - σ n = τ n := by omega
          have e2 : 3 - s n - τ n = σ n := by omega
          rw [e1, e2]
          have s1 := mn2_spec (G s n (τ n) + 1 + G σ n (τ n)) (G s n (σ n) + 2 ^ n + 1 + G σ n (s n))
          have s2 := mn2_spec (G s n (σ n) + 1 + G τ n (σ n)) (G s n (τ n) + 2 ^ n + 1 + G τ n (s n))
          have g1 := P1 (τ n) b
          have g2 := P1 (s n) c
          have g3 := P2 (σ n) a
          have g4 := P2 (s n) c
          rw [if_neg (by omega)] at g1 g3
          rw [if_pos (by omega)] at g2 g4
          omega

theorem D_desc {s σ : Nat → Int} : ∀ (n : Nat), V n s → V n σ → (∃ i, i < n ∧ s i ≠ σ i) → ∃ τ, V n τ ∧ E n σ τ ∧ (∀ i, n ≤ i → τ i = σ i) ∧ D s τ n + 1 = D s σ n
  | 0, _, _, ⟨i, h, _⟩ => by omega
  | n + 1, hs, hσ, ⟨i, hi, hne⟩ => by
    have c := hs n (by omega)
    have a := hσ n (by omega)
    -- it is enough to come nearer
    have fin : ∀ τ : Nat → Int, V (n + 1) τ → E (n + 1) σ τ → (∀ i, n + 1 ≤ i → τ i = σ i) → D s τ (n + 1) + 1 ≤ D s σ (n + 1) → ∃ τ, V (n + 1) τ ∧ E (n + 1) σ τ ∧ (∀ i, n + 1 ≤ i → τ i = σ i) ∧ D s τ (n + 1) + 1 = D s σ (n + 1) := by
      intro τ t1 t2 t3 t4
      refine ⟨τ, t1, t2, t3, ?_⟩
      have := D_lip (n + 1) hs t1 hσ t2.symm
      omega
    have ext : ∀ τ : Nat → Int, V n τ → (∀ i, n ≤ i → τ i = σ i) → V (n + 1) τ := fun τ h1 h2 j hj => by
      by_cases e : j = n
      · rw [e, h2 n (Nat.le_refl _)]; exact a
      · exact h1 j (by omega)
    have upV : ∀ x, pg x → V (n + 1) (up σ n x) := fun x hx j hj => by
      unfold up
      split
      · exact hx
      · exact hσ j hj
    by_cases z : s n = σ n
    · have hi' : i < n := by
        by_cases e : i = n
        · subst e; exact absurd z hne
        · omega
      obtain ⟨τ, t1, t2, t3, t4⟩ := D_desc n hs.less hσ.less ⟨i, hi', hne⟩
      refine ⟨τ, ext τ t1 t3, E_up t2 (t3 n (Nat.le_refl _)), fun j hj => t3 j (by omega), ?_⟩
      unfold D
      rw [t3 n (Nat.le_refl _), if_pos z, if_pos z]; exact t4
    · have t := pg_third c a z
      have hD : D s σ (n + 1) = mn2 (G s n (3 - s n - σ n) + 1 + G σ n (3 - s n - σ n)) (G s n (σ n) + 2 ^ n + 1 + G σ n (s n)) := by
        show (if s n = σ n then _ else _) = _
        rw [if_neg z]
      have sp := mn2_spec (G s n (3 - s n - σ n) + 1 + G σ n (3 - s n - σ n)) (G s n (σ n) + 2 ^ n + 1 + G σ n (s n))
      have same : ∀ τ : Nat → Int, τ n = σ n → D s τ (n + 1) = mn2 (G s n (3 - s n - σ n) + 1 + G τ n (3 - s n - σ n)) (G s n (σ n) + 2 ^ n + 1 + G τ n (s n)) := fun τ h => by
        show (if s n = τ n then _ else _) = _
        rw [h, if_neg z]
      rcases sp.2.2 with e | e
      · by_cases q : ∃ i, i < n ∧ σ i ≠ 3 - s n - σ n
        · obtain ⟨τ, t1, t2, t3, t4⟩ := G_desc n (3 - s n - σ n) t.1 hσ.less q
          refine fin τ (ext τ t1 t3) (E_up t2 (t3 n (Nat.le_refl _))) (fun j hj => t3 j (by omega)) ?_
          rw [same τ (t3 n (Nat.le_refl _)), hD, e]
          have := mn2_spec (G s n (3 - s n - σ n) + 1 + G τ n (3 - s n - σ n)) (G s n (σ n) + 2 ^ n + 1 + G τ n (s n))
          omega
        · have hall : ∀ i, i < n → σ i = 3 - s n - σ n := fun i hi => Classical.byContradiction fun y => q ⟨i, hi, y⟩
          have un : up σ n (s n) n = s n := if_pos rfl
          have ui : ∀ i, i < n → up σ n (s n) i = σ i := fun i hi => if_neg (by omega)
          refine fin (up σ n (s n)) (upV _ c) (E_top (by rw [un]; exact fun y => z y.symm) (fun i hi => ⟨by rw [un, hall i hi]; omega, ui i hi⟩)) (fun j hj => if_neg (by omega)) ?_
          have : D s (up σ n (s n)) (n + 1) = D s (up σ n (s n)) n := by
            show (if s n = up σ n (s n) n then _ else _) = _
            rw [un, if_pos rfl]
          rw [this, D_perf n _ t.1 hs.less (fun i hi => (ui i hi).trans (hall i hi)), hD, e]
          omega
      · by_cases q : ∃ i, i < n ∧ σ i ≠ s n
        · obtain ⟨τ, t1, t2, t3, t4⟩ := G_desc n (s n) c hσ.less q
          refine fin τ (ext τ t1 t3) (E_up t2 (t3 n (Nat.le_refl _))) (fun j hj => t3 j (by omega)) ?_
          rw [same τ (t3 n (Nat.le_refl _)), hD, e]
          have := mn2_spec (G s n (3 - s n - σ n) + 1 + G τ n (3 - s n - σ n)) (G s n (σ n) + 2 ^ n + 1 + G τ n (s n))
          omega
        · have hall : ∀ i, i < n → σ i = s n := fun i hi => Classical.byContradiction fun y => q ⟨i, hi, y⟩
          have un : up σ n (3 - s n - σ n) n = 3 - s n - σ n := if_pos rfl
          have ui : ∀ i, i < n → up σ n (3 - s n - σ n) i = σ i := fun i hi => if_neg (by omega)
          refine fin (up σ n (3 - s n - σ n)) (upV _ t.1) (E_top (by rw [un]; exact fun y => t.2.2 y.symm) (fun i hi => ⟨by rw [un, hall i hi]; omega, ui i hi⟩)) (fun j hj => if_neg (by omega)) ?_
          have : D s (up σ n (3 - s n - σ n)) (n + 1) = mn2 (G s n (σ n) + 1 + G (up σ n (3 - s n - σ n)) n (σ n)) (G s n (3 - s n - σ n) + 2 ^ n + 1 + G (up σ n (3 - s n - σ n)) n (s n)) := by
            show (if s n = up σ n (3 - s n - σ n) n then _ else _) = _
            rw [un, if_neg (fun y => t.2.1 y.symm), show 3 - s n - (3 - s n - σ n) = σ n by omega]
          have s2 := mn2_spec (G s n (σ n) + 1 + G (up σ n (3 - s n - σ n)) n (σ n)) (G s n (3 - s n - σ n) + 2 ^ n + 1 + G (up σ n (3 - s n - σ n)) n (s n))
          have g := G_perf n (σ n) (s n) a c (fun i hi => (ui i hi).trans (hall i hi))
          rw [if_neg z] at g
          have g2 := G_perf n (s n) (s n) c c hall
          rw [if_pos rfl] at g2
          rw [this, hD, e]
          omega

/-! ### rings around a first one, by a list that grows -/
section
variable {α : Type} (adj : α → α → Prop) (ok : α → Prop) (d : α → Nat) (s : α)

structure BI (L : List α) (i : Nat) : Prop where
  all : ∀ x ∈ L, ok x
  first : L[0]? = some s
  nodup : L.Nodup
  sorted : ∀ (j k : Nat) (x y : α), j ≤ k → L[j]? = some x → L[k]? = some y → d x ≤ d y
  done : ∀ (j : Nat) (u x : α), j < i → L[j]? = some u → ok x → adj u x → x ∈ L
  top : ∀ (u x : α), L[i]? = some u → x ∈ L → d x ≤ d u + 1

variable {adj ok d s} (h0 : ok s) (hz : d s = 0) (lip : ∀ u x, ok u → ok x → adj u x → d x ≤ d u + 1) (desc : ∀ x, ok x → x ≠ s → ∃ y, ok y ∧ adj y x ∧ d y + 1 = d x)
include h0 hz

omit hz in
theorem BI.start : BI adj ok d s [s] 0 := by
  refine ⟨fun x hx => by simp at hx; rw [hx]; exact h0, rfl, by simp, ?_, fun j u x hj => by omega, fun u x hu hx => by simp at hu hx; rw [hx, hu]; omega⟩
  intro j k x y hjk hx hy
  have h1 := (List.getElem?_eq_some_iff.1 hx).1
  have h2 := (List.getElem?_eq_some_iff.1 hy).1
  simp at h1 h2
  subst h1; subst h2
  rw [hx] at hy
  cases hy
  exact Nat.le_refl _

include desc
omit h0 in
/-- All that are nearer than the one at work are there, ahead of it. -/
theorem BI.near {L : List α} {i : Nat} {u : α} (B : BI adj ok d s L i) (hu : L[i]? = some u) : ∀ (k : Nat) (z : α), ok z → d z = k → d z < d u → ∃ j, j < i ∧ L[j]? = some z := by
  intro k
  induction k with
  | zero =>
    intro z hz1 hz2 hlt
    by_cases e : z = s
    · refine ⟨0, ?_, by rw [e]; exact B.first⟩
      by_cases hi : 0 < i
      · exact hi
      · rw [show i = 0 by omega, B.first] at hu
        cases hu
        rw [e, hz] at hlt; omega
    · obtain ⟨y, _, _, hy⟩ := desc z hz1 e
      omega
  | succ k ih =>
    intro z hz1 hz2 hlt
    have e : z ≠ s := fun e => by rw [e, hz] at hz2; omega
    obtain ⟨y, hy1, hy2, hy3⟩ := desc z hz1 e
    obtain ⟨j, hj, hjy⟩ := ih y hy1 (by omega) (by omega)
    have hm := B.done j y z hj hjy hz1 hy2
    obtain ⟨j', hj'⟩ := List.mem_iff_getElem?.1 hm
    refine ⟨j', ?_, hj'⟩
    by_cases q : j' < i
    · exact q
    · have := B.sorted i j' u z (by omega) hu hj'
      omega

include lip
omit h0 in
theorem BI.put {L : List α} {i : Nat} {u x : α} (B : BI adj ok d s L i) (hu : L[i]? = some u) (hx : ok x) (ha : adj u x) (hn : ¬ x ∈ L) : d x = d u + 1 ∧ BI adj ok d s (L ++ [x]) i := by
  have hum : u ∈ L := List.mem_of_getElem? hu
  have hi := (List.getElem?_eq_some_iff.1 hu).1
  have hxs : x ≠ s := fun e => hn (by rw [e]; exact List.mem_of_getElem? B.first)
  have hd : d x = d u + 1 := by
    have h1 := lip u x (B.all u hum) hx ha
    by_cases q : d x ≤ d u
    · obtain ⟨y, hy1, hy2, hy3⟩ := desc x hx hxs
      obtain ⟨j, hj, hjy⟩ := B.near hz desc hu _ y hy1 rfl (by omega)
      exact absurd (B.done j y x hj hjy hx hy2) hn
    · omega
  refine ⟨hd, ⟨?_, ?_, ?_, ?_, ?_, ?_⟩⟩
  · intro y hy
    rcases List.mem_append.1 hy with q | q
    · exact B.all y q
    · simp at q; rw [q]; exact hx
  · rw [List.getElem?_append_left (by omega)]; exact B.first
  · rw [List.nodup_append]
    refine ⟨B.nodup, by simp, ?_⟩
    intro a ha b hb
    simp at hb
    rw [hb]
    intro e
    exact hn (by rw [← e]; exact ha)
  · intro j k a b hjk hja hkb
    have hk := (List.getElem?_eq_some_iff.1 hkb).1
    rw [List.length_append] at hk
    simp at hk
    by_cases q : k < L.length
    · rw [List.getElem?_append_left q] at hkb
      rw [List.getElem?_append_left (by omega)] at hja
      exact B.sorted j k a b hjk hja hkb
    · have : k = L.length := by omega
      subst this
      rw [List.getElem?_append_right (Nat.le_refl _)] at hkb
      simp at hkb
      by_cases q2 : j < L.length
      · rw [List.getElem?_append_left q2] at hja
        have := B.top u a hu (List.mem_of_getElem? hja)
        rw [← hkb, hd]; exact this
      · have : j = L.length := by omega
        subst this
        rw [List.getElem?_append_right (Nat.le_refl _)] at hja
        simp at hja
        rw [← hja, ← hkb]; exact Nat.le_refl _
  · intro j v y hj hv hy ha2
    rw [List.getElem?_append_left (by omega)] at hv
    exact List.mem_append_left _ (B.done j v y hj hv hy ha2)
  · intro v y hv hy
    rw [List.getElem?_append_left hi, hu] at hv
    cases hv
    rcases List.mem_append.1 hy with q | q
    · exact B.top u y hu q
    · simp at q; rw [q, hd]; exact Nat.le_refl _

omit h0 hz lip desc in
theorem BI.next {L : List α} {i : Nat} {u : α} (B : BI adj ok d s L i) (hu : L[i]? = some u) (h : ∀ x, ok x → adj u x → x ∈ L) : BI adj ok d s L (i + 1) := by
  refine ⟨B.all, B.first, B.nodup, B.sorted, ?_, ?_⟩
  · intro j v x hj hv hx ha
    by_cases e : j = i
    · subst e; rw [hu] at hv; cases hv; exact h x hx ha
    · exact B.done j v x (by omega) hv hx ha
  · intro v x hv hx
    have h1 := B.top u x hu hx
    have h2 := B.sorted i (i + 1) u v (by omega) hu hv
    omega

omit h0 lip in
theorem BI.fin {L : List α} (B : BI adj ok d s L L.length) : ∀ (k : Nat) (x : α), ok x → d x = k → x ∈ L := by
  intro k
  induction k with
  | zero =>
    intro x hx hd
    by_cases e : x = s
    · rw [e]; exact List.mem_of_getElem? B.first
    · obtain ⟨y, _, _, hy⟩ := desc x hx e; omega
  | succ k ih =>
    intro x hx hd
    have e : x ≠ s := fun e => by rw [e, hz] at hd; omega
    obtain ⟨y, hy1, hy2, hy3⟩ := desc x hx e
    obtain ⟨j, hj⟩ := List.mem_iff_getElem?.1 (ih y hy1 (by omega))
    exact B.done j y x (List.getElem?_eq_some_iff.1 hj).1 hj hx hy2
end

/-- A loop of which a measure falls. -/
theorem wf_loop {S R : Type} {step : S → Option (St S R)} (I : S → Prop) (μ : S → Nat) (Post : R → Prop)
    (h : ∀ s, I s → (∃ s', step s = some (.next s') ∧ I s' ∧ μ s' < μ s) ∨ ∃ r, step s = some (.done r) ∧ Post r) : ∀ (s : S), I s → ∃ r, loop step s = some r ∧ Post r := by
  have key : ∀ (n : Nat) (s : S), μ s ≤ n → I s → ∃ r, loop step s = some r ∧ Post r := by
    intro n
    induction n with
    | zero =>
      intro s hn hI
      rcases h s hI with ⟨s', _, _, h3⟩ | ⟨r, h1, h2⟩
      · omega
      · exact ⟨r, loop_done h1, h2⟩
    | succ n ih =>
      intro s hn hI
      rcases h s hI with ⟨s', h1, h2, h3⟩ | ⟨r, h1, h2⟩
      · obtain ⟨r, hr, hp⟩ := ih s' (by omega) h2
        exact ⟨r, loop_next' h1 hr, hp⟩
      · exact ⟨r, loop_done h1, h2⟩
  exact fun s hI => key (μ s) s (Nat.le_refl _) hI

/-- A state's number. -/
def num : List Int → Nat
  | [] => 0
  | x :: r => x.toNat + 3 * num r
theorem num_lt : ∀ l : List Int, (∀ x ∈ l, pg x) → num l < 3 ^ l.length
  | [], _ => by simp [num]
  | x :: r, h => by
    have ih := num_lt r (fun y hy => h y (by simp [hy]))
    have hx := h x (by simp)
    unfold num
    rw [List.length_cons, Nat.pow_succ]
    unfold pg at hx
    omega
theorem num_inj : ∀ (l m : List Int), (∀ x ∈ l, pg x) → (∀ x ∈ m, pg x) → l.length = m.length → num l = num m → l = m
  | [], [], _, _, _, _ => rfl
  | [], _ :: _, _, _, h, _ => by simp at h
  | _ :: _, [], _, _, h, _ => by simp at h
  | x :: r, y :: q, h1, h2, h3, h4 => by
    have hx := h1 x (by simp)
    have hy := h2 y (by simp)
    unfold num at h4
    unfold pg at hx hy
    have e1 : x = y := by omega
    have e2 := num_inj r q (fun z hz => h1 z (by simp [hz])) (fun z hz => h2 z (by simp [hz])) (by simpa using h3) (by omega)
    rw [e1, e2]
end Go.HW
