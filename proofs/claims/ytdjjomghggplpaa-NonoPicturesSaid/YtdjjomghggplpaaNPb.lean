/-
  Pictures: what lines tell, again and again, leads to one and the same end, in whatever order.
-/
import Derived.Test.YtdjjomghggplpaaNPa
import Derived.Test.YtdjjomghggplpaaLibN
namespace Go.Proofs.Ytdjjomghggplpaa
open Go Go.GL

def rowL (w : Nat) (c : Nat → Nat → Int) (y : Nat) : List Int := mr w (c y)
def colL (h : Nat) (c : Nat → Nat → Int) (x : Nat) : List Int := mr h (fun y => c y x)
def okG (h w : Nat) (c : Nat → Nat → Int) : Prop := ∀ y x, y < h → x < w → c y x = -1 ∨ c y x = 0 ∨ c y x = 1
def leG (h w : Nat) (c d : Nat → Nat → Int) : Prop := ∀ y x, y < h → x < w → c y x = -1 ∨ c y x = d y x
def eqG (h w : Nat) (c d : Nat → Nat → Int) : Prop := ∀ y x, y < h → x < w → c y x = d y x
def stR (w : Nat) (R : Nat → List Int) (c : Nat → Nat → Int) (y0 : Nat) : Nat → Nat → Int := fun y x => if y = y0 then sureX (rowL w c y0) (R y0) x else c y x
def stC (h : Nat) (C : Nat → List Int) (c : Nat → Nat → Int) (x0 : Nat) : Nat → Nat → Int := fun y x => if x = x0 then sureX (colL h c x0) (C x0) y else c y x
structure fixG (h w : Nat) (R C : Nat → List Int) (d : Nat → Nat → Int) : Prop where
  ok : okG h w d
  row : ∀ y, y < h → 0 < Ww (R y) (rowL w d y)
  rowS : ∀ y, y < h → ∀ x, x < w → sureX (rowL w d y) (R y) x = d y x
  col : ∀ x, x < w → 0 < Ww (C x) (colL h d x)
  colS : ∀ x, x < w → ∀ y, y < h → sureX (colL h d x) (C x) y = d y x

section
variable {h w : Nat} {R C : Nat → List Int} {c d : Nat → Nat → Int}

theorem leG.refl : leG h w c c := fun _ _ _ _ => .inr rfl
theorem leG.trans {e : Nat → Nat → Int} (h1 : leG h w c d) (h2 : leG h w d e) : leG h w c e := fun y x hy hx => by
  rcases h1 y x hy hx with a | a
  · exact .inl a
  · rw [a]; exact h2 y x hy hx
theorem leG.anti (h1 : leG h w c d) (h2 : leG h w d c) : eqG h w c d := fun y x hy hx => by
  rcases h1 y x hy hx with a | a
  · rcases h2 y x hy hx with b | b
    · rw [a, b]
    · exact b.symm
  · exact a
theorem rowL_get {y x : Nat} (hx : x < w) : (rowL w c y)[x]? = some (c y x) := mr_get hx
theorem colL_get {y x : Nat} (hy : y < h) : (colL h c x)[y]? = some (c y x) := mr_get (g := fun y => c y x) hy
theorem rowL_ok (hk : okG h w c) {y : Nat} (hy : y < h) : okL (rowL w c y) := fun v hv => by
  obtain ⟨x, hx⟩ := List.mem_iff_getElem?.1 hv
  have hlt : x < w := by have := (List.getElem?_eq_some_iff.1 hx).1; rwa [rowL, mr_length] at this
  rw [rowL_get hlt] at hx
  rw [← Option.some.inj hx]
  exact hk y x hy hlt
theorem colL_ok (hk : okG h w c) {x : Nat} (hx : x < w) : okL (colL h c x) := fun v hv => by
  obtain ⟨y, hy⟩ := List.mem_iff_getElem?.1 hv
  have hlt : y < h := by have := (List.getElem?_eq_some_iff.1 hy).1; rwa [colL, mr_length] at this
  rw [colL_get hlt] at hy
  rw [← Option.some.inj hy]
  exact hk y x hlt hx
theorem rowL_rl (hk : leG h w c d) {y : Nat} (hy : y < h) : Rl (rowL w c y) (rowL w d y) := Rl.of (by simp [rowL, mr_length]) fun x a e => by
  have hlt : x < w := by have := (List.getElem?_eq_some_iff.1 e).1; rwa [rowL, mr_length] at this
  rw [rowL_get hlt] at e ⊢
  injection e with e
  subst e
  rcases hk y x hy hlt with q | q
  · exact .inl q
  · exact .inr (by rw [q])
theorem colL_rl (hk : leG h w c d) {x : Nat} (hx : x < w) : Rl (colL h c x) (colL h d x) := Rl.of (by simp [colL, mr_length]) fun y a e => by
  have hlt : y < h := by have := (List.getElem?_eq_some_iff.1 e).1; rwa [colL, mr_length] at this
  rw [colL_get hlt] at e ⊢
  injection e with e
  subst e
  rcases hk y x hlt hx with q | q
  · exact .inl q
  · exact .inr (by rw [q])
theorem rowL_len {y : Nat} : (rowL w c y).length = w := mr_length _ _
theorem colL_len {x : Nat} : (colL h c x).length = h := mr_length _ _

theorem stR_ok (hk : okG h w c) {y0 : Nat} (hy0 : y0 < h) (hc : okC (R y0)) (hp : 0 < Ww (R y0) (rowL w c y0)) : okG h w (stR w R c y0) := fun y x hy hx => by
  unfold stR
  by_cases e : y = y0
  · rw [if_pos e]
    exact sureX_val hc hp (rowL_ok hk hy0) (by rw [rowL_len]; exact hx)
  · rw [if_neg e]; exact hk y x hy hx
theorem stC_ok (hk : okG h w c) {x0 : Nat} (hx0 : x0 < w) (hc : okC (C x0)) (hp : 0 < Ww (C x0) (colL h c x0)) : okG h w (stC h C c x0) := fun y x hy hx => by
  unfold stC
  by_cases e : x = x0
  · rw [if_pos e]
    exact sureX_val hc hp (colL_ok hk hx0) (by rw [colL_len]; exact hy)
  · rw [if_neg e]; exact hk y x hy hx
theorem stR_ge (hk : okG h w c) {y0 : Nat} (hy0 : y0 < h) (hc : okC (R y0)) (hp : 0 < Ww (R y0) (rowL w c y0)) : leG h w c (stR w R c y0) := fun y x hy hx => by
  unfold stR
  by_cases e : y = y0
  · subst e
    rw [if_pos rfl]
    rcases sureX_keep hc hp (rowL_ok hk hy0) (rowL_get hx) with q | q
    · exact .inl q
    · exact .inr q.symm
  · rw [if_neg e]; exact .inr rfl
theorem stC_ge (hk : okG h w c) {x0 : Nat} (hx0 : x0 < w) (hc : okC (C x0)) (hp : 0 < Ww (C x0) (colL h c x0)) : leG h w c (stC h C c x0) := fun y x hy hx => by
  unfold stC
  by_cases e : x = x0
  · subst e
    rw [if_pos rfl]
    rcases sureX_keep hc hp (colL_ok hk hx0) (colL_get hy) with q | q
    · exact .inl q
    · exact .inr q.symm
  · rw [if_neg e]; exact .inr rfl
/-- Below a fixed picture every line has a way, and what it tells is below, too. -/
theorem stR_le (hk : okG h w c) (hD : fixG h w R C d) (hl : leG h w c d) {y0 : Nat} (hy0 : y0 < h) (hc : okC (R y0)) : 0 < Ww (R y0) (rowL w c y0) ∧ leG h w (stR w R c y0) d := by
  have hp := hD.row y0 hy0
  have hr := rowL_rl hl hy0
  refine ⟨Nat.lt_of_lt_of_le hp (Ww_mono _ hr), fun y x hy hx => ?_⟩
  unfold stR
  by_cases e : y = y0
  · subst e
    rw [if_pos rfl]
    rcases sureX_mono hc hr (rowL_ok hk hy0) (rowL_ok hD.ok hy0) hp (i := x) (by rw [rowL_len]; exact hx) with q | q
    · exact .inl q
    · exact .inr (by rw [q, hD.rowS y hy x hx])
  · rw [if_neg e]; exact hl y x hy hx
theorem stC_le (hk : okG h w c) (hD : fixG h w R C d) (hl : leG h w c d) {x0 : Nat} (hx0 : x0 < w) (hc : okC (C x0)) : 0 < Ww (C x0) (colL h c x0) ∧ leG h w (stC h C c x0) d := by
  have hp := hD.col x0 hx0
  have hr := colL_rl hl hx0
  refine ⟨Nat.lt_of_lt_of_le hp (Ww_mono _ hr), fun y x hy hx => ?_⟩
  unfold stC
  by_cases e : x = x0
  · subst e
    rw [if_pos rfl]
    rcases sureX_mono hc hr (colL_ok hk hx0) (colL_ok hD.ok hx0) hp (i := y) (by rw [colL_len]; exact hy) with q | q
    · exact .inl q
    · exact .inr (by rw [q, hD.colS x hx y hy])
  · rw [if_neg e]; exact hl y x hy hx

/-! ### open places -/
def unk (h w : Nat) (c : Nat → Nat → Int) : Nat := cntN (fun i => decide (c (i / w) (i % w) = -1)) (h * w)
theorem cntN_mono {p q : Nat → Bool} : ∀ {n : Nat}, (∀ i, i < n → q i = true → p i = true) → cntN q n ≤ cntN p n
  | 0, _ => Nat.le_refl _
  | n + 1, h => by
    have ih := cntN_mono (n := n) (fun i hi => h i (by omega))
    have := h n (by omega)
    unfold cntN
    cases hq : q n with
    | false => simp; omega
    | true => rw [this hq]; simp; omega
theorem cntN_lt {p q : Nat → Bool} : ∀ {n : Nat}, (∀ i, i < n → q i = true → p i = true) → (∃ i, i < n ∧ p i = true ∧ q i = false) → cntN q n < cntN p n
  | 0, _, ⟨i, hi, _⟩ => by omega
  | n + 1, h, ⟨i, hi, h1, h2⟩ => by
    have hm := cntN_mono (n := n) (fun i hi => h i (by omega))
    unfold cntN
    by_cases e : i = n
    · subst e
      rw [h1, h2]
      simp
      omega
    · have ih := cntN_lt (n := n) (fun i hi => h i (by omega)) ⟨i, by omega, h1, h2⟩
      have := h n (by omega)
      cases hq : q n with
      | false => simp; omega
      | true => rw [this hq]; simp; omega
theorem split_ix {i : Nat} (hi : i < h * w) : i / w < h ∧ i % w < w := by
  have hw : 0 < w := Nat.pos_of_ne_zero (fun z => by rw [z] at hi; omega)
  exact ⟨Nat.div_lt_of_lt_mul (by rw [Nat.mul_comm]; exact hi), Nat.mod_lt _ hw⟩
theorem join_ix {y x : Nat} (hy : y < h) (hx : x < w) : y * w + x < h * w ∧ (y * w + x) / w = y ∧ (y * w + x) % w = x := by
  have hw : 0 < w := by omega
  refine ⟨?_, ?_, ?_⟩
  · have : (y + 1) * w ≤ h * w := Nat.mul_le_mul_right _ hy
    rw [Nat.add_mul] at this
    omega
  · rw [Nat.mul_comm, Nat.mul_add_div hw, Nat.div_eq_of_lt hx]; rfl
  · rw [Nat.mul_comm, Nat.mul_add_mod, Nat.mod_eq_of_lt hx]
theorem unk_le (hl : leG h w c d) : unk h w d ≤ unk h w c := cntN_mono fun i hi e => by
  obtain ⟨a, b⟩ := split_ix hi
  rw [decide_eq_true_eq] at e ⊢
  rcases hl _ _ a b with q | q
  · exact q
  · rw [q, e]
theorem unk_lt (hl : leG h w c d) (hne : ¬ eqG h w c d) : unk h w d < unk h w c := by
  have hex : ∃ y x, y < h ∧ x < w ∧ c y x ≠ d y x := Classical.byContradiction fun hn => hne fun y x hy hx => Classical.byContradiction fun e => hn ⟨y, x, hy, hx, e⟩
  obtain ⟨y, x, hy, hx, e⟩ := hex
  obtain ⟨h1, h2, h3⟩ := join_ix hy hx
  refine cntN_lt (fun i hi e => ?_) ⟨y * w + x, h1, ?_, ?_⟩
  · obtain ⟨a, b⟩ := split_ix hi
    rw [decide_eq_true_eq] at e ⊢
    rcases hl _ _ a b with q | q
    · exact q
    · rw [q, e]
  · rw [decide_eq_true_eq, h2, h3]
    rcases hl y x hy hx with q | q
    · exact q
    · exact absurd q e
  · rw [decide_eq_false_iff_not, h2, h3]
    rcases hl y x hy hx with q | q
    · rw [q] at e; exact fun z => e z.symm
    · exact absurd q e
theorem unk_max : unk h w c ≤ h * w := cntN_le _ _

/-! ### where it ends -/
def specG (h w : Nat) (R C : Nat → List Int) (c0 : Nat → Nat → Int) (ok : Bool) (c : Nat → Nat → Int) : Prop :=
  (ok = true → leG h w c0 c ∧ fixG h w R C c ∧ ∀ D, leG h w c0 D → fixG h w R C D → leG h w c D) ∧ (ok = false → ∀ D, leG h w c0 D → ¬ fixG h w R C D)
theorem specG.same {c0 : Nat → Nat → Int} {a b : Bool} (h1 : specG h w R C c0 a c) (h2 : specG h w R C c0 b d) : a = b ∧ (a = true → eqG h w c d) := by
  cases a with
  | false =>
    cases b with
    | false => exact ⟨rfl, by simp⟩
    | true =>
      obtain ⟨x, y, _⟩ := h2.1 rfl
      exact absurd y (h1.2 rfl d x)
  | true =>
    obtain ⟨x, y, z⟩ := h1.1 rfl
    cases b with
    | false => exact absurd y (h2.2 rfl c x)
    | true =>
      obtain ⟨x', y', z'⟩ := h2.1 rfl
      exact ⟨rfl, fun _ => (z d x' y').anti (z' c x y)⟩

/-- On the way: known at the start, and below every fixed end. -/
structure onW (h w : Nat) (R C : Nat → List Int) (c0 c : Nat → Nat → Int) : Prop where
  ok : okG h w c
  ge : leG h w c0 c
  low : ∀ D, leG h w c0 D → fixG h w R C D → leG h w c D
theorem onW.stR {c0 : Nat → Nat → Int} (k : onW h w R C c0 c) {y : Nat} (hy : y < h) (hc : okC (R y)) (hp : 0 < Ww (R y) (rowL w c y)) : onW h w R C c0 (stR w R c y) :=
  ⟨stR_ok k.ok hy hc hp, k.ge.trans (stR_ge k.ok hy hc hp), fun D h1 h2 => (stR_le k.ok h2 (k.low D h1 h2) hy hc).2⟩
theorem onW.stC {c0 : Nat → Nat → Int} (k : onW h w R C c0 c) {x : Nat} (hx : x < w) (hc : okC (C x)) (hp : 0 < Ww (C x) (colL h c x)) : onW h w R C c0 (stC h C c x) :=
  ⟨stC_ok k.ok hx hc hp, k.ge.trans (stC_ge k.ok hx hc hp), fun D h1 h2 => (stC_le k.ok h2 (k.low D h1 h2) hx hc).2⟩
theorem onW.noR {c0 : Nat → Nat → Int} (k : onW h w R C c0 c) {y : Nat} (hy : y < h) (hc : okC (R y)) (hp : ¬ 0 < Ww (R y) (rowL w c y)) {e : Nat → Nat → Int} : specG h w R C c0 false e :=
  ⟨(fun q => by cases q), fun _ D h1 h2 => hp (stR_le k.ok h2 (k.low D h1 h2) hy hc).1⟩
theorem onW.noC {c0 : Nat → Nat → Int} (k : onW h w R C c0 c) {x : Nat} (hx : x < w) (hc : okC (C x)) (hp : ¬ 0 < Ww (C x) (colL h c x)) {e : Nat → Nat → Int} : specG h w R C c0 false e :=
  ⟨(fun q => by cases q), fun _ D h1 h2 => hp (stC_le k.ok h2 (k.low D h1 h2) hx hc).1⟩
theorem onW.fin {c0 : Nat → Nat → Int} (k : onW h w R C c0 c) (hf : fixG h w R C c) : specG h w R C c0 true c := ⟨fun _ => ⟨k.ge, hf, k.low⟩, (fun q => by cases q)⟩
theorem onW.start (hk : okG h w c) : onW h w R C c c := ⟨hk, leG.refl, fun _ h1 _ => h1⟩
theorem onW.congr {c0 : Nat → Nat → Int} (k : onW h w R C c0 c) (he : eqG h w c d) : onW h w R C c0 d :=
  ⟨fun y x hy hx => he y x hy hx ▸ k.ok y x hy hx, fun y x hy hx => he y x hy hx ▸ k.ge y x hy hx, fun D h1 h2 y x hy hx => he y x hy hx ▸ k.low D h1 h2 y x hy hx⟩

/-! ### pictures that are done -/
structure goodG (h w : Nat) (R C : Nat → List Int) (f : Nat → Nat → Int) : Prop where
  full : ∀ y x, y < h → x < w → f y x = 0 ∨ f y x = 1
  row : ∀ y, y < h → 0 < Ww (R y) (rowL w f y)
  col : ∀ x, x < w → 0 < Ww (C x) (colL h f x)
theorem goodG.ok (k : goodG h w R C c) : okG h w c := fun y x hy hx => .inr (k.full y x hy hx)
theorem goodG.fix (k : goodG h w R C c) (hR : ∀ y, y < h → okC (R y)) (hC : ∀ x, x < w → okC (C x)) : fixG h w R C c :=
  ⟨k.ok, k.row, fun y hy x hx => by
    rcases sureX_keep (hR y hy) (k.row y hy) (rowL_ok k.ok hy) (rowL_get hx) with q | q
    · rcases k.full y x hy hx with z | z <;> omega
    · exact q, k.col, fun x hx y hy => by
    rcases sureX_keep (hC x hx) (k.col x hx) (colL_ok k.ok hx) (colL_get hy) with q | q
    · rcases k.full y x hy hx with z | z <;> omega
    · exact q⟩
theorem fixG.good (k : fixG h w R C c) (hf : ∀ y x, y < h → x < w → c y x ≠ -1) : goodG h w R C c :=
  ⟨fun y x hy hx => by
    rcases k.ok y x hy hx with q | q
    · exact absurd q (hf y x hy hx)
    · exact q, k.row, k.col⟩
theorem rowL_congr (he : eqG h w c d) {y : Nat} (hy : y < h) : rowL w c y = rowL w d y := mr_congr fun x hx => he y x hy hx
theorem colL_congr (he : eqG h w c d) {x : Nat} (hx : x < w) : colL h c x = colL h d x := mr_congr fun y hy => he y x hy hx
theorem goodG.congr (k : goodG h w R C c) (he : eqG h w c d) : goodG h w R C d :=
  ⟨fun y x hy hx => he y x hy hx ▸ k.full y x hy hx, fun y hy => rowL_congr he hy ▸ k.row y hy, fun x hx => colL_congr he hx ▸ k.col x hx⟩
end
end Go.Proofs.Ytdjjomghggplpaa
