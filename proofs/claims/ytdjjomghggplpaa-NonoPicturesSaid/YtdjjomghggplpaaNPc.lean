/-
  Pictures: how many there are.
-/
import Derived.Test.YtdjjomghggplpaaNPb
namespace Go.Proofs.Ytdjjomghggplpaa
open Go Go.GL

open Classical in
/-- How many lists of so many 0s and 1s are so. -/
noncomputable def cntL : Nat → (List Int → Prop) → Nat
  | 0, P => if P [] then 1 else 0
  | n + 1, P => cntL n (fun l => P (0 :: l)) + cntL n (fun l => P (1 :: l))

theorem full_cons {a : Int} {l : List Int} (ha : a = 0 ∨ a = 1) (h : fullL l) : fullL (a :: l) := fun x hx => by
  rcases List.mem_cons.1 hx with e | e
  · rw [e]; exact ha
  · exact h x e
theorem cntL_congr : ∀ {n : Nat} {P Q : List Int → Prop}, (∀ l, l.length = n → fullL l → (P l ↔ Q l)) → cntL n P = cntL n Q
  | 0, P, Q, h => by
    have := h [] rfl (fun x hx => by simp at hx)
    unfold cntL
    by_cases e : P []
    · rw [if_pos e, if_pos (this.1 e)]
    · rw [if_neg e, if_neg (fun q => e (this.2 q))]
  | n + 1, P, Q, h => by
    unfold cntL
    rw [cntL_congr (n := n) (P := fun l => P (0 :: l)) (Q := fun l => Q (0 :: l)) (fun l hl hf => h _ (by simp [hl]) (full_cons (.inl rfl) hf)),
      cntL_congr (n := n) (P := fun l => P (1 :: l)) (Q := fun l => Q (1 :: l)) (fun l hl hf => h _ (by simp [hl]) (full_cons (.inr rfl) hf))]
theorem cntL_zero : ∀ {n : Nat} {P : List Int → Prop}, (∀ l, l.length = n → fullL l → ¬ P l) → cntL n P = 0
  | 0, P, h => if_neg (h [] rfl (fun x hx => by simp at hx))
  | n + 1, P, h => by
    unfold cntL
    rw [cntL_zero (n := n) (P := fun l => P (0 :: l)) (fun l hl hf => h _ (by simp [hl]) (full_cons (.inl rfl) hf)),
      cntL_zero (n := n) (P := fun l => P (1 :: l)) (fun l hl hf => h _ (by simp [hl]) (full_cons (.inr rfl) hf))]
theorem cntL_pos : ∀ {n : Nat} {P : List Int → Prop} (l : List Int), l.length = n → fullL l → P l → 1 ≤ cntL n P
  | 0, P, l, hl, _, h => by
    have : l = [] := List.eq_nil_of_length_eq_zero hl
    subst this
    unfold cntL
    rw [if_pos h]
    exact Nat.le_refl _
  | n + 1, P, [], hl, _, _ => by simp at hl
  | n + 1, P, a :: l, hl, hf, h => by
    have hl' : l.length = n := by simpa using hl
    have hf' : fullL l := fun x hx => hf x (by simp [hx])
    unfold cntL
    rcases hf a (by simp) with rfl | rfl
    · have := cntL_pos (P := fun l => P (0 :: l)) l hl' hf' h; omega
    · have := cntL_pos (P := fun l => P (1 :: l)) l hl' hf' h; omega
theorem cntL_uniq : ∀ {n : Nat} {P : List Int → Prop}, cntL n P ≤ 1 → ∀ {l m : List Int}, l.length = n → m.length = n → fullL l → fullL m → P l → P m → l = m
  | 0, _, _, l, m, hl, hm, _, _, _, _ => by rw [List.eq_nil_of_length_eq_zero hl, List.eq_nil_of_length_eq_zero hm]
  | n + 1, _, _, [], _, hl, _, _, _, _, _ => by simp at hl
  | n + 1, _, _, _, [], _, hm, _, _, _, _ => by simp at hm
  | n + 1, P, hc, a :: l, b :: m, hl, hm, hfl, hfm, pl, pm => by
    have hl' : l.length = n := by simpa using hl
    have hm' : m.length = n := by simpa using hm
    have hfl' : fullL l := fun x hx => hfl x (by simp [hx])
    have hfm' : fullL m := fun x hx => hfm x (by simp [hx])
    unfold cntL at hc
    rcases hfl a (by simp) with rfl | rfl <;> rcases hfm b (by simp) with rfl | rfl
    · rw [cntL_uniq (P := fun l => P (0 :: l)) (by omega) hl' hm' hfl' hfm' pl pm]
    · have h1 := cntL_pos (P := fun l => P (0 :: l)) l hl' hfl' pl
      have h2 := cntL_pos (P := fun l => P (1 :: l)) m hm' hfm' pm
      omega
    · have h1 := cntL_pos (P := fun l => P (1 :: l)) l hl' hfl' pl
      have h2 := cntL_pos (P := fun l => P (0 :: l)) m hm' hfm' pm
      omega
    · rw [cntL_uniq (P := fun l => P (1 :: l)) (by omega) hl' hm' hfl' hfm' pl pm]
theorem cntL_one : ∀ {n : Nat} {P : List Int → Prop} (l : List Int), l.length = n → fullL l → P l → (∀ m, m.length = n → fullL m → P m → m = l) → cntL n P = 1
  | 0, P, l, hl, _, h, _ => by
    have : l = [] := List.eq_nil_of_length_eq_zero hl
    subst this
    exact if_pos h
  | n + 1, P, [], hl, _, _, _ => by simp at hl
  | n + 1, P, a :: l, hl, hf, h, hu => by
    have hl' : l.length = n := by simpa using hl
    have hf' : fullL l := fun x hx => hf x (by simp [hx])
    unfold cntL
    rcases hf a (by simp) with rfl | rfl
    · rw [cntL_one (P := fun l => P (0 :: l)) l hl' hf' h (fun m hm hfm pm => by
          have := hu (0 :: m) (by simp [hm]) (full_cons (.inl rfl) hfm) pm
          injection this), cntL_zero (P := fun l => P (1 :: l)) (fun m hm hfm pm => by
          have := hu (1 :: m) (by simp [hm]) (full_cons (.inr rfl) hfm) pm
          injection this with q _
          cases q)]
    · rw [cntL_one (P := fun l => P (1 :: l)) l hl' hf' h (fun m hm hfm pm => by
          have := hu (1 :: m) (by simp [hm]) (full_cons (.inr rfl) hfm) pm
          injection this), cntL_zero (P := fun l => P (0 :: l)) (fun m hm hfm pm => by
          have := hu (0 :: m) (by simp [hm]) (full_cons (.inl rfl) hfm) pm
          injection this with q _
          cases q)]

theorem sumN_zero {f : Nat → Nat} : ∀ {m : Nat}, (∀ k, k < m → f k = 0) → sumN f m = 0
  | 0, _ => rfl
  | m + 1, h => by unfold sumN; rw [sumN_zero (fun k hk => h k (by omega)), h m (by omega)]
theorem sumN_add (f g : Nat → Nat) : ∀ m, sumN (fun k => f k + g k) m = sumN f m + sumN g m
  | 0 => rfl
  | m + 1 => by unfold sumN; rw [sumN_add f g m]; omega
theorem sumN_at {f : Nat → Nat} {k0 v : Nat} : ∀ {m : Nat}, k0 < m → (∀ k, k < m → f k = if k = k0 then v else 0) → sumN f m = v
  | 0, h, _ => by omega
  | m + 1, h, hf => by
    unfold sumN
    by_cases e : k0 = m
    · subst e
      rw [sumN_zero (fun k hk => by rw [hf k (by omega), if_neg (by omega)]), hf k0 (by omega), if_pos rfl]
      omega
    · rw [sumN_at (m := m) (by omega) (fun k hk => hf k (by omega)), hf m (by omega), if_neg (by omega)]
      rfl
theorem cntL_sum {m : Nat} : ∀ {n : Nat} {P : List Int → Prop} {A : Nat → List Int → Prop}, (∀ l, l.length = n → fullL l → ∃ k0, k0 < m ∧ ∀ k, k < m → (A k l ↔ (k = k0 ∧ P l))) → cntL n P = sumN (fun k => cntL n (A k)) m
  | 0, P, A, h => by
    obtain ⟨k0, hk, hA⟩ := h [] rfl (fun x hx => by simp at hx)
    refine (sumN_at hk fun k hk' => ?_).symm
    have := hA k hk'
    show cntL 0 (A k) = _
    unfold cntL
    by_cases e : k = k0
    · rw [if_pos e]
      by_cases p : P []
      · rw [if_pos p, if_pos (this.2 ⟨e, p⟩)]
      · rw [if_neg p, if_neg (fun q => p (this.1 q).2)]
    · rw [if_neg e, if_neg (fun q => e (this.1 q).1)]
  | n + 1, P, A, h => by
    unfold cntL
    rw [cntL_sum (n := n) (P := fun l => P (0 :: l)) (A := fun k l => A k (0 :: l)) (fun l hl hf => h _ (by simp [hl]) (full_cons (.inl rfl) hf)),
      cntL_sum (n := n) (P := fun l => P (1 :: l)) (A := fun k l => A k (1 :: l)) (fun l hl hf => h _ (by simp [hl]) (full_cons (.inr rfl) hf)), ← sumN_add]

/-! ### numbers as rows -/
def valB : List Int → Nat
  | [] => 0
  | c :: r => (if c = 1 then 1 else 0) + 2 * valB r
def bitsL (w k : Nat) : List Int := mr w (fun x => ((k / 2 ^ x % 2 : Nat) : Int))
theorem bitsL_cons (w k : Nat) : bitsL (w + 1) k = ((k % 2 : Nat) : Int) :: bitsL w (k / 2) := by
  unfold bitsL mr
  rw [List.range_succ_eq_map, List.map_cons, List.map_map]
  congr 1
  · simp
  · refine List.map_congr_left fun x _ => ?_
    simp only [Function.comp_apply]
    rw [Nat.pow_succ, Nat.mul_comm, Nat.div_div_eq_div_mul]
theorem bitsL_len (w k : Nat) : (bitsL w k).length = w := mr_length _ _
theorem bitsL_full : ∀ (w k : Nat), fullL (bitsL w k)
  | 0, k => fun x hx => by simp [bitsL, mr] at hx
  | w + 1, k => by
    rw [bitsL_cons]
    exact full_cons (by omega) (bitsL_full w _)
theorem valB_lt : ∀ l : List Int, valB l < 2 ^ l.length
  | [] => by simp [valB]
  | c :: r => by
    have := valB_lt r
    unfold valB
    rw [List.length_cons, Nat.pow_succ]
    split <;> omega
theorem val_bits : ∀ (w k : Nat), k < 2 ^ w → valB (bitsL w k) = k
  | 0, k, h => by
    have : k = 0 := by simpa using h
    subst this
    rfl
  | w + 1, k, h => by
    rw [bitsL_cons]
    unfold valB
    rw [val_bits w (k / 2) (by rw [Nat.pow_succ] at h; omega)]
    split <;> omega
theorem bits_val : ∀ (l : List Int), fullL l → bitsL l.length (valB l) = l
  | [], _ => rfl
  | c :: r, h => by
    have ih := bits_val r (fun x hx => h x (by simp [hx]))
    rw [List.length_cons, bitsL_cons]
    rcases h c (by simp) with rfl | rfl
    · have e : valB (0 :: r) = 2 * valB r := by simp [valB]
      rw [e, show 2 * valB r / 2 = valB r by omega, ih, show 2 * valB r % 2 = 0 by omega]
      rfl
    · have e : valB (1 :: r) = 1 + 2 * valB r := by simp [valB]
      rw [e, show (1 + 2 * valB r) / 2 = valB r by omega, ih, show (1 + 2 * valB r) % 2 = 1 by omega]
      rfl

/-! ### pictures -/
def gridOf (w : Nat) (l : List Int) : Nat → Nat → Int := fun y x => l.getD (y * w + x) 0
def flatG (h w : Nat) (c : Nat → Nat → Int) : List Int := mr (h * w) (fun i => c (i / w) (i % w))
noncomputable def solN (h w : Nat) (R C : Nat → List Int) (c : Nat → Nat → Int) : Nat := cntL (h * w) (fun l => leG h w c (gridOf w l) ∧ goodG h w R C (gridOf w l))

section
variable {h w : Nat} {R C : Nat → List Int} {c d : Nat → Nat → Int}

theorem flatG_len : (flatG h w c).length = h * w := mr_length _ _
theorem gridOf_flat : eqG h w (gridOf w (flatG h w c)) c := fun y x hy hx => by
  obtain ⟨h1, h2, h3⟩ := join_ix hy hx
  unfold gridOf flatG
  rw [mr_getD h1, h2, h3]
theorem flatG_full (hf : ∀ y x, y < h → x < w → c y x = 0 ∨ c y x = 1) : fullL (flatG h w c) := fun v hv => by
  obtain ⟨i, hi⟩ := List.mem_iff_getElem?.1 hv
  have hlt : i < h * w := by have := (List.getElem?_eq_some_iff.1 hi).1; rwa [flatG_len] at this
  unfold flatG at hi
  rw [mr_get hlt] at hi
  obtain ⟨a, b⟩ := split_ix hlt
  rw [← Option.some.inj hi]
  exact hf _ _ a b
theorem gridOf_inj {l m : List Int} (hl : l.length = h * w) (hm : m.length = h * w) (he : eqG h w (gridOf w l) (gridOf w m)) : l = m := by
  rw [mr_self l, mr_self m, hl, hm]
  refine mr_congr fun i hi => ?_
  obtain ⟨a, b⟩ := split_ix hi
  have := he _ _ a b
  unfold gridOf at this
  rwa [Nat.div_add_mod'] at this

theorem solN_push (hR : ∀ y, y < h → okC (R y)) (hC : ∀ x, x < w → okC (C x)) (k : specG h w R C c true d) : solN h w R C c = solN h w R C d := cntL_congr fun l _ _ => by
  obtain ⟨h1, _, h3⟩ := k.1 rfl
  exact ⟨fun ⟨a, b⟩ => ⟨h3 _ a (b.fix hR hC), b⟩, fun ⟨a, b⟩ => ⟨h1.trans a, b⟩⟩
theorem solN_none (hR : ∀ y, y < h → okC (R y)) (hC : ∀ x, x < w → okC (C x)) (k : specG h w R C c false d) : solN h w R C c = 0 := cntL_zero fun l _ _ ⟨a, b⟩ => k.2 rfl _ a (b.fix hR hC)
theorem solN_full (k : goodG h w R C c) : solN h w R C c = 1 := by
  refine cntL_one (flatG h w c) flatG_len (flatG_full k.full) ⟨fun y x hy hx => .inr (gridOf_flat y x hy hx).symm, k.congr fun y x hy hx => (gridOf_flat y x hy hx).symm⟩ fun m hm _ ⟨a, _⟩ => ?_
  refine gridOf_inj hm flatG_len fun y x hy hx => ?_
  rw [gridOf_flat y x hy hx]
  rcases a y x hy hx with q | q
  · rcases k.full y x hy hx with z | z <;> omega
  · exact q.symm
theorem solN_uniq (hs : solN h w R C c ≤ 1) {l m : List Int} (hl : l.length = h * w) (hm : m.length = h * w) (fl : fullL l) (fm : fullL m) (l1 : leG h w c (gridOf w l)) (l2 : goodG h w R C (gridOf w l)) (m1 : leG h w c (gridOf w m)) (m2 : goodG h w R C (gridOf w m)) : l = m :=
  cntL_uniq (n := h * w) (P := fun l => leG h w c (gridOf w l) ∧ goodG h w R C (gridOf w l)) hs hl hm fl fm ⟨l1, l2⟩ ⟨m1, m2⟩

def updG (c : Nat → Nat → Int) (y0 x0 : Nat) (v : Int) : Nat → Nat → Int := fun y x => if y = y0 ∧ x = x0 then v else c y x
theorem updG_le {y0 x0 : Nat} (h0 : c y0 x0 = -1) {v : Int} : leG h w c (updG c y0 x0 v) := fun y x _ _ => by
  unfold updG
  by_cases e : y = y0 ∧ x = x0
  · left; rw [e.1, e.2, h0]
  · rw [if_neg e]; exact .inr rfl
theorem solN_split {y0 x0 : Nat} (hy0 : y0 < h) (hx0 : x0 < w) (h0 : c y0 x0 = -1) : solN h w R C c = solN h w R C (updG c y0 x0 0) + solN h w R C (updG c y0 x0 1) := by
  have key := cntL_sum (m := 2) (n := h * w) (P := fun l => leG h w c (gridOf w l) ∧ goodG h w R C (gridOf w l)) (A := fun k l => leG h w (updG c y0 x0 (k : Int)) (gridOf w l) ∧ goodG h w R C (gridOf w l)) (by
    intro l hl hf
    obtain ⟨hj, _, _⟩ := join_ix hy0 hx0
    have hv : gridOf w l y0 x0 = 0 ∨ gridOf w l y0 x0 = 1 := by
      unfold gridOf
      exact hf _ (List.mem_of_getElem? (i := y0 * w + x0) (by rw [List.getD_eq_getElem?_getD, List.getElem?_eq_getElem (by omega)]; rfl))
    have up : ∀ v : Int, (v = 0 ∨ v = 1) → (leG h w (updG c y0 x0 v) (gridOf w l) ↔ (v = gridOf w l y0 x0 ∧ leG h w c (gridOf w l))) := fun v hvv => by
      constructor
      · intro k
        refine ⟨?_, (updG_le h0).trans k⟩
        rcases k y0 x0 hy0 hx0 with q | q
        · unfold updG at q
          rw [if_pos ⟨rfl, rfl⟩] at q
          omega
        · unfold updG at q
          rw [if_pos ⟨rfl, rfl⟩] at q
          exact q
      · rintro ⟨e, k⟩ y x hy hx
        unfold updG
        by_cases z : y = y0 ∧ x = x0
        · rw [if_pos z, z.1, z.2]; exact .inr e
        · rw [if_neg z]; exact k y x hy hx
    refine ⟨(gridOf w l y0 x0).toNat, by rcases hv with q | q <;> rw [q] <;> decide, fun k hk => ?_⟩
    have hk2 : (k : Int) = 0 ∨ (k : Int) = 1 := by omega
    rw [up _ hk2]
    constructor
    · rintro ⟨⟨a, b⟩, e⟩; exact ⟨by omega, b, e⟩
    · rintro ⟨a, b, e⟩; exact ⟨⟨by omega, b⟩, e⟩)
  exact key.trans (by simp only [sumN]; rw [Nat.zero_add]; rfl)

/-! ### pictures row by row -/
def cB (w : Nat) (b : List Int) : Nat → Nat → Int := fun y x => if y * w + x < b.length then b.getD (y * w + x) 0 else -1
theorem cB_nil : cB w [] = fun _ _ => -1 := by
  funext y x
  unfold cB
  rw [if_neg (by simp)]
theorem cB_ok {b : List Int} (hb : fullL b) : okG h w (cB w b) := fun y x _ _ => by
  unfold cB
  by_cases e : y * w + x < b.length
  · rw [if_pos e]
    exact .inr (hb _ (List.mem_of_getElem? (i := y * w + x) (by rw [List.getD_eq_getElem?_getD, List.getElem?_eq_getElem e]; rfl)))
  · rw [if_neg e]; exact .inl rfl
theorem cB_row {b : List Int} {y k : Nat} (hb : b.length = y * w) {x : Nat} (hx : x < w) : cB w (b ++ bitsL w k) y x = ((k / 2 ^ x % 2 : Nat) : Int) := by
  unfold cB
  rw [if_pos (by rw [List.length_append, bitsL_len, hb]; omega), List.getD_eq_getElem?_getD, List.getElem?_append_right (by omega), hb, Nat.add_sub_cancel_left, ← List.getD_eq_getElem?_getD]
  exact mr_getD hx
theorem cB_old {b s : List Int} {y x : Nat} (hb : y * w + x < b.length) : cB w (b ++ s) y x = cB w b y x := by
  unfold cB
  rw [if_pos hb, if_pos (by rw [List.length_append]; omega), List.getD_eq_getElem?_getD, List.getD_eq_getElem?_getD, List.getElem?_append_left hb]
theorem cB_new {b s : List Int} {y x : Nat} (hb : ¬ y * w + x < (b ++ s).length) : cB w (b ++ s) y x = -1 := if_neg hb
theorem solN_rows {b : List Int} {y : Nat} (hb : b.length = y * w) (hfb : fullL b) (hy : y < h) : solN h w R C (cB w b) = sumN (fun k => solN h w R C (cB w (b ++ bitsL w k))) (2 ^ w) := by
  refine cntL_sum (m := 2 ^ w) fun l hl hf => ?_
  have hrow : fullL (rowL w (gridOf w l) y) := fun v hv => by
    obtain ⟨x, hx⟩ := List.mem_iff_getElem?.1 hv
    have hlt : x < w := by have := (List.getElem?_eq_some_iff.1 hx).1; rwa [rowL, mr_length] at this
    rw [rowL_get hlt] at hx
    obtain ⟨hj, _, _⟩ := join_ix (h := h) hy hlt
    rw [← Option.some.inj hx]
    unfold gridOf
    exact hf _ (List.mem_of_getElem? (i := y * w + x) (by rw [List.getD_eq_getElem?_getD, List.getElem?_eq_getElem (by omega)]; rfl))
  have hlen : (rowL w (gridOf w l) y).length = w := mr_length _ _
  have hbv := bits_val _ hrow
  rw [hlen] at hbv
  have hvl := valB_lt (rowL w (gridOf w l) y)
  rw [hlen] at hvl
  refine ⟨valB (rowL w (gridOf w l) y), hvl, fun k hk => ?_⟩
  have key : leG h w (cB w (b ++ bitsL w k)) (gridOf w l) ↔ (k = valB (rowL w (gridOf w l) y) ∧ leG h w (cB w b) (gridOf w l)) := by
    constructor
    · intro q
      constructor
      · have e : bitsL w k = rowL w (gridOf w l) y := mr_congr fun x hx => by
          rcases q y x hy hx with z | z
          · rw [cB_row hb hx] at z; omega
          · rw [cB_row hb hx] at z; exact z
        rw [← e, val_bits w k hk]
      · intro y' x hy' hx
        by_cases e : y' * w + x < b.length
        · have := q y' x hy' hx
          rwa [cB_old e] at this
        · left; exact if_neg e
    · rintro ⟨e, q⟩ y' x hy' hx
      by_cases e1 : y' * w + x < b.length
      · rw [cB_old e1]; exact q y' x hy' hx
      · by_cases e2 : y' * w + x < (b ++ bitsL w k).length
        · right
          have hyy : y' = y := by
            rw [List.length_append, bitsL_len, hb] at e2
            rw [hb] at e1
            have h1 : y' * w + x < (y + 1) * w := by rw [Nat.add_mul]; omega
            have hw : 0 < w := by omega
            have a1 : y' < y + 1 := Nat.lt_of_mul_lt_mul_right (a := w) (by omega)
            have a2 : y < y' + 1 := Nat.lt_of_mul_lt_mul_right (a := w) (by rw [Nat.add_mul]; omega)
            omega
          subst hyy
          rw [cB_row hb hx]
          have : (bitsL w k)[x]? = (rowL w (gridOf w l) y')[x]? := by rw [e, hbv]
          rw [rowL_get hx, bitsL, mr_get hx] at this
          exact Option.some.inj this
        · left; exact cB_new e2
  rw [key]
  constructor
  · rintro ⟨⟨a, q⟩, g⟩; exact ⟨a, q, g⟩
  · rintro ⟨a, q, g⟩; exact ⟨⟨a, q⟩, g⟩
theorem solN_bad {b : List Int} {y k : Nat} (hb : b.length = y * w) (hy : y < h) (hn : Ww (R y) (bitsL w k) = 0) : solN h w R C (cB w (b ++ bitsL w k)) = 0 := cntL_zero fun l _ _ ⟨a, g⟩ => by
  have e : rowL w (gridOf w l) y = bitsL w k := mr_congr fun x hx => by
    rcases a y x hy hx with z | z
    · rw [cB_row hb hx] at z; omega
    · rw [cB_row hb hx] at z; exact z.symm
  have := g.row y hy
  rw [e] at this
  omega
theorem solN_col {x : Nat} (hx : x < w) (hn : Ww (C x) (colL h c x) = 0) : solN h w R C c = 0 := cntL_zero fun l _ _ ⟨a, g⟩ => by
  have h1 := Ww_mono (C x) (colL_rl a hx)
  have h2 := g.col x hx
  omega
end
end Go.Proofs.Ytdjjomghggplpaa
