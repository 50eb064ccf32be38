/-
  Magic squares: the program's count, place by place.
-/
import Derived.Test.YtlpaklmfgldkoaaMKb
import Derived.Test.YtlpaklmfgldkoaaLibBt
namespace Go.Proofs.Ytlpaklmfgldkoaa
open Go Go.GL

theorem flx_split (q : List Int) (x a b : Nat) : flx q x (a + b) = flx q x a ++ flx q (x + a) b := by
  unfold flx
  rw [← List.filter_append, ← List.map_append, List.range'_append_1]
theorem flx_one (q : List Int) (x : Nat) : flx q x 1 = if (x : Int) ∈ q then [] else [(x : Int)] := by
  unfold flx
  by_cases h : (x : Int) ∈ q <;> simp [h]

theorem dfs_zero (N : Nat) (F : List Int → Nat) : ∀ (m : Nat) (q : List Int), (∀ t : List Int, t.length = m → F (q ++ t) = 0) → dfs N F m q = 0
  | 0, q, h => by have := h [] rfl; simpa [dfs] using this
  | m + 1, q, h => by
    simp only [dfs]
    have : ∀ x ∈ flx q 0 N, dfs N F m (q ++ [x]) = 0 := fun x _ => dfs_zero N F m _ (fun t ht => by
      rw [List.append_assoc]
      exact h _ (by simp [ht]))
    have e : (flx q 0 N).map (fun x => dfs N F m (q ++ [x])) = (flx q 0 N).map (fun _ => 0) := List.map_congr_left this
    rw [e, List.map_const', List.sum_replicate_nat, Nat.mul_zero]

/-- What stands there, as numbers from 1 on. -/
def up1 (q : List Int) : List Int := q.map (· + 1)
def fitsP (g q : List Int) : Prop := ∀ j : Nat, j < q.length → geti g (j : Int) = 0 ∨ geti g (j : Int) = geti (up1 q) (j : Int)
open Classical in
noncomputable def cF (n : Nat) (g q : List Int) : Nat := if fitsP g q ∧ KP (up1 q) n then 1 else 0

theorem geti_take {l : List Int} {k j : Nat} (h : j < k) : geti (l.take k) (j : Int) = geti l (j : Int) := by
  rw [geti_nat, geti_nat, List.getD_eq_getElem?_getD, List.getD_eq_getElem?_getD, List.getElem?_take, if_pos h]
theorem geti_app {a b : List Int} {j : Nat} (h : j < a.length) : geti (a ++ b) (j : Int) = geti a (j : Int) := by
  rw [geti_nat, geti_nat, List.getD_eq_getElem?_getD, List.getD_eq_getElem?_getD, List.getElem?_append_left h]
theorem up1_app (a b : List Int) : up1 (a ++ b) = up1 a ++ up1 b := by simp [up1]
theorem up1_len (a : List Int) : (up1 a).length = a.length := by simp [up1]
theorem fits_app {g q t : List Int} (h : fitsP g (q ++ t)) : fitsP g q := fun j hj => by
  have := h j (by simp; omega)
  rw [up1_app, geti_app (by rw [up1_len]; exact hj)] at this
  exact this
theorem cF_le (n : Nat) (g q : List Int) : cF n g q ≤ 1 := by unfold cF; split <;> omega

theorem rowS_pre {a b : List Int} {n y : Nat} (h : ∀ j : Nat, j < (y + 1) * n → geti a (j : Int) = geti b (j : Int)) : rowS a n y = rowS b n y := by
  unfold rowS
  refine sI_congr (fun i hi => h _ ?_)
  rw [Nat.succ_mul]; omega

structure Fl1 (n : Nat) (g l q : List Int) (used k m : Nat) : Prop where
  sq : Sq l n
  n3 : n ≤ 3
  len : q.length = k
  rem : k + m = n * n
  free : (flx q 0 (n * n)).length = m
  pre : l.take k = up1 q
  fit : fitsP g q
  bits : ∀ v : Nat, 1 ≤ v → v ≤ n * n → used.testBit v = decide ((v : Int) - 1 ∈ q)
  small : used < 2 ^ 20

theorem sq_set {l : List Int} {n k v : Nat} (hs : Sq l n) (hv : v ≤ 9) : Sq (l.set k (v : Int)) n := by
  refine ⟨hs.n1, hs.n2, by rw [List.length_set]; exact hs.len, fun j => ?_⟩
  by_cases hk : k < l.length
  · rw [geti_set' (by omega) hk]
    split
    · omega
    · exact hs.bd j
  · rw [List.set_eq_of_length_le (by omega)]
    exact hs.bd j

theorem take_set {l : List Int} {k : Nat} (x : Int) : (l.set k x).take k = l.take k := by
  rw [List.take_set_of_le (Nat.le_refl _)]
theorem take_set1 {l : List Int} {k : Nat} (x : Int) (hk : k < l.length) : (l.set k x).take (k + 1) = l.take k ++ [x] := by
  rw [List.take_succ_eq_append_getElem (by simpa using hk), take_set]
  simp

theorem sq_le (n : Nat) (h : n ≤ 3) : n * n ≤ 9 := Nat.mul_le_mul h h
theorem w64_sq {n : Nat} (h : n ≤ 3) : w64 ((n : Int) * (n : Int)) = ((n * n : Nat) : Int) := by
  have := sq_le n h
  rw [← Int.natCast_mul]
  exact w64_of (by omega)

/-- A number put where the row's sum is wrong: nothing comes of it. -/
theorem cut_zero {n : Nat} {g l q : List Int} {k m v y : Nat} (hq : q.length = k) (hpre : l.take (k + 1) = up1 (q ++ [(v : Int) - 1])) (hy : (y + 1) * n = k + 1) (hlt : y < n) (hne : rowS l n y ≠ rowS l n 0) : dfs (n * n) (cF n g) m (q ++ [(v : Int) - 1]) = 0 := by
  refine dfs_zero _ _ _ _ (fun t _ => ?_)
  unfold cF
  rw [if_neg]
  rintro ⟨_, hK⟩
  have hle : (0 + 1) * n ≤ (y + 1) * n := Nat.mul_le_mul_right _ (by omega)
  have hp : ∀ j : Nat, j < k + 1 → geti (up1 (q ++ [(v : Int) - 1] ++ t)) (j : Int) = geti l (j : Int) := fun j hj => by
    rw [up1_app, geti_app (by rw [up1_len]; simp; omega), ← hpre, geti_take hj]
  have e1 := rowS_pre (n := n) (y := y) (a := up1 (q ++ [(v : Int) - 1] ++ t)) (b := l) (fun j hj => hp j (by omega))
  have e0 := rowS_pre (n := n) (y := 0) (a := up1 (q ++ [(v : Int) - 1] ++ t)) (b := l) (fun j hj => hp j (by omega))
  have := hK.1 y hlt
  rw [e1, e0] at this
  exact hne this

theorem fit_zero {n : Nat} {g q : List Int} {m v : Nat} (h0 : geti g (q.length : Int) ≠ 0) (h1 : geti g (q.length : Int) ≠ (v : Int)) : dfs (n * n) (cF n g) m (q ++ [(v : Int) - 1]) = 0 := by
  refine dfs_zero _ _ _ _ (fun t _ => ?_)
  unfold cF
  rw [if_neg]
  rintro ⟨hf, _⟩
  have := fits_app hf q.length (by simp)
  have e : geti (up1 (q ++ [(v : Int) - 1])) (q.length : Int) = (v : Int) := by
    rw [geti_nat, up1_app, List.getD_eq_getElem?_getD, List.getElem?_append_right (by rw [up1_len]; exact Nat.le_refl _), up1_len, Nat.sub_self]
    simp [up1]
  rw [e] at this
  rcases this with h | h
  · exact h0 h
  · exact h1 h

theorem Fl1.next {n k m used j : Nat} {g l z q : List Int} (H : Fl1 n g l q used k (m + 1)) (hj : j < n * n) (hq : (j : Int) ∉ q) (hz : Sq z n) (hzt : z.take k = l.take k) (hgv : ¬ (geti g (k : Int) ≠ 0 ∧ geti g (k : Int) ≠ ((j + 1 : Nat) : Int))) :
    Fl1 n g (z.set k ((j + 1 : Nat) : Int)) (q ++ [(j : Int)]) (used ||| 2 ^ (j + 1)) (k + 1) m := by
  have h9 := sq_le n H.n3
  have hrem := H.rem
  have hlen := H.len
  have hzl : k < z.length := by rw [hz.len]; omega
  refine ⟨sq_set hz (by omega), H.n3, by simp [hlen], by omega, ?_, ?_, ?_, ?_, ?_⟩
  · have e := flx_split q 0 j (n * n - j)
    rw [show j + (n * n - j) = n * n by omega, show n * n - j = 1 + (n * n - j - 1) by omega, flx_split, Nat.zero_add, flx_one, if_neg hq] at e
    rw [flx_snoc e]
    have hf := H.free
    rw [e] at hf
    simp at hf ⊢
    omega
  · rw [take_set1 _ hzl, hzt, H.pre, up1_app]
    rfl
  · intro i hi
    rw [List.length_append, List.length_singleton] at hi
    by_cases h : i < q.length
    · have := H.fit i h
      rw [up1_app, geti_app (by rw [up1_len]; exact h)]
      exact this
    · have hik : i = k := by omega
      subst hik
      have e : geti (up1 (q ++ [(j : Int)])) (i : Int) = ((j + 1 : Nat) : Int) := by
        rw [geti_nat, up1_app, List.getD_eq_getElem?_getD, List.getElem?_append_right (by rw [up1_len, hlen]; exact Nat.le_refl _), up1_len, hlen, Nat.sub_self]
        simp [up1]
      rw [e]
      by_cases h0 : geti g (i : Int) = 0
      · exact .inl h0
      · exact .inr (by
          by_cases h1 : geti g (i : Int) = ((j + 1 : Nat) : Int)
          · exact h1
          · exact absurd ⟨h0, h1⟩ hgv)
  · intro v h1 h2
    rw [bit_or_pow, H.bits v h1 h2, ← Bool.decide_or, decide_eq_decide, List.mem_append, List.mem_singleton]
    constructor
    · rintro (h | h)
      · exact .inl h
      · exact .inr (by omega)
    · rintro (h | h)
      · exact .inl h
      · exact .inr (by omega)
  · exact Nat.or_lt_two_pow H.small (Nat.pow_lt_pow_right (by omega) (by omega))

/-- The count of what comes of a beginning. -/
theorem fill_p {n : Nat} {g : List Int} (hg : g.length = n * n) : ∀ (m : Nat) (l q : List Int) (used k : Nat) (many : Nat), Fl1 n g l q used k m → many + dfs (n * n) (cF n g) m q ≤ 1000000 →
    ∃ l', magic_Count_2_mF (m + 1) k used n l many g = some (l', ((many + dfs (n * n) (cF n g) m q : Nat) : Int)) ∧ Sq l' n ∧ l'.take k = l.take k
  | 0, l, q, used, k, many, H, hb => by
    have hk : k = n * n := by have := H.rem; omega
    have h9 := sq_le n H.n3
    obtain ⟨kd, w, hkd, hiff⟩ := kind_p H.sq
    refine ⟨l, ?_, H.sq, rfl⟩
    have hl : l = up1 q := by
      rw [← H.pre, List.take_of_length_le (by rw [H.sq.len]; omega)]
    show magic_Count_2_B (magic_Count_2_mF 0) k used n l many g = _
    unfold magic_Count_2_B
    rw [w64_sq H.n3, if_pos (by simp [hk]), hkd, Option.bind_some]
    unfold magic_Count_2_J3
    simp only [dfs, cF] at hb ⊢
    by_cases h2 : 2 ≤ kd
    · have hK : KP (up1 q) n := by rw [← hl]; exact hiff.1 h2
      rw [if_pos (decide_eq_true h2), if_pos ⟨H.fit, hK⟩, w64_of (by omega)]
      rfl
    · have hK : ¬ KP (up1 q) n := by rw [← hl]; exact fun h => h2 (hiff.2 h)
      rw [if_neg (by simpa using h2), if_neg (fun h => hK h.2)]
      rfl
  | m + 1, l, q, used, k, many, H, hb => by
    have h9 := sq_le n H.n3
    have hn1 := H.sq.n1
    have hrem := H.rem
    have hkl : k < l.length := by rw [H.sq.len]; omega
    have hkq := H.len
    have hlen := H.sq.len
    show ∃ l', magic_Count_2_B (magic_Count_2_mF (m + 1)) k used n l many g = _ ∧ _
    unfold magic_Count_2_B
    rw [w64_sq H.n3, if_neg (by simp; omega)]
    unfold magic_Count_2_J2
    let D : Int → Nat := fun x => dfs (n * n) (cF n g) m (q ++ [x])
    have hD : dfs (n * n) (cF n g) (m + 1) q = ((flx q 0 (n * n)).map D).sum := rfl
    rw [hD] at hb ⊢
    have hpart : ∀ j, j ≤ n * n → ((flx q 0 j).map D).sum ≤ ((flx q 0 (n * n)).map D).sum := fun j hj => by
      have e := flx_split q 0 j (n * n - j)
      rw [show j + (n * n - j) = n * n by omega] at e
      rw [e, List.map_append, List.sum_append]
      omega
    have hstep : ∀ j, ((flx q 0 (j + 1)).map D).sum = ((flx q 0 j).map D).sum + (if (j : Int) ∈ q then 0 else D (j : Int)) := fun j => by
      rw [flx_split, Nat.zero_add, flx_one, List.map_append, List.sum_append]
      split <;> simp
    obtain ⟨r, er, hr⟩ := count_loop (step := magic_Count_2_L1 (magic_Count_2_mF (m + 1)) k used n l g) (mk := fun (z : List Int) j => (z, ((many + ((flx q 0 j).map D).sum : Nat) : Int), ((j + 1 : Nat) : Int)))
      (I := fun _ z => Sq z n ∧ z.take k = l.take k) (Post := fun (r : List Int × Int) => Sq r.1 n ∧ r.1.take k = l.take k ∧ r.2 = ((many + ((flx q 0 (n * n)).map D).sum : Nat) : Int)) (n * n) l ⟨H.sq, rfl⟩ (fun j z hj hI => by
        obtain ⟨hz, hzt⟩ := hI
        have hp1 := hpart (j + 1) (by omega)
        have hst := hstep j
        have hzl : k < z.length := by rw [hz.len]; omega
        have hbit := H.bits (j + 1) (by omega) (by omega)
        have hbitE : (andK .u64 (shrK .u64 (used : Int) ((j + 1 : Nat) : Int)) 1 == 1) = decide ((j : Int) ∈ q) := by
          rw [bitN (by have := H.small; omega) (by omega), hbit]
          congr 1
          rw [show ((j + 1 : Nat) : Int) - 1 = (j : Int) by omega]
        left
        simp only [magic_Count_2_L1, magic_Count_2_J4]
        rw [w64_sq H.n3, if_pos (decide_eq_true (by omega)), asrt_pos (by omega), asrt_pos (fun _ => by omega), asrt_pos (fun _ _ => by omega), hbitE]
        unfold magic_Count_2_J5
        rw [w64_of (x := ((j + 1 : Nat) : Int) + 1) (by omega)]
        by_cases hq : (j : Int) ∈ q
        · rw [decide_eq_true hq, if_pos (by simp)]
          rw [if_pos hq] at hst
          refine ⟨z, ?_, hz, hzt⟩
          rw [hst]; rfl
        · rw [decide_eq_false hq, Bool.false_or]
          rw [if_neg hq] at hst
          by_cases hgv : geti g (k : Int) ≠ 0 ∧ geti g (k : Int) ≠ ((j + 1 : Nat) : Int)
          · rw [if_pos (by simp only [Bool.and_eq_true, bne_iff_ne, ne_eq]; exact hgv)]
            have hz0 : D (j : Int) = 0 := by
              have := fit_zero (n := n) (g := g) (q := q) (m := m) (v := j + 1) (by rw [hkq]; exact hgv.1) (by rw [hkq]; exact hgv.2)
              rwa [show ((j + 1 : Nat) : Int) - 1 = (j : Int) by omega] at this
            refine ⟨z, ?_, hz, hzt⟩
            rw [hst, hz0]; rfl
          · rw [if_neg (by simp only [Bool.and_eq_true, bne_iff_ne, ne_eq]; exact hgv)]
            have hz2 : Sq (z.set k ((j + 1 : Nat) : Int)) n := sq_set hz (by omega)
            have hz2t : (z.set k ((j + 1 : Nat) : Int)).take k = l.take k := by rw [take_set, hzt]
            have hz2p : (z.set k ((j + 1 : Nat) : Int)).take (k + 1) = up1 (q ++ [(((j + 1 : Nat) : Int)) - 1]) := by
              rw [take_set1 _ hzl, hzt, H.pre, up1_app]
              congr 1
              simp [up1]
            have hcont : ∃ s', magic_Count_2_J7 (magic_Count_2_mF (m + 1)) k used n g z ((many + ((flx q 0 j).map D).sum : Nat) : Int) ((j + 1 : Nat) : Int) = some (.next (s', ((many + ((flx q 0 (j + 1)).map D).sum : Nat) : Int), ((j + 1 + 1 : Nat) : Int))) ∧ Sq s' n ∧ s'.take k = l.take k := by
              have H' := H.next hj hq hz hzt hgv
              obtain ⟨l', e1, e2, e3⟩ := fill_p hg m _ _ _ _ (many + ((flx q 0 j).map D).sum) H' (by
                have : dfs (n * n) (cF n g) m (q ++ [(j : Int)]) = D (j : Int) := rfl
                omega)
              refine ⟨l', ?_, e2, ?_⟩
              · unfold magic_Count_2_J7 magic_Count_2_J5
                rw [asrt_pos (by omega), w64_of (x := (k : Int) + 1) (by omega), shlN (by omega), orN (by have := H.small; omega) (pow_lt (by omega)), Int.toNat_natCast]
                have e1' : magic_Count_2_mF (m + 1) ((k : Int) + 1) ((used ||| 2 ^ (j + 1) : Nat) : Int) n (z.set k ((j + 1 : Nat) : Int)) ((many + ((flx q 0 j).map D).sum : Nat) : Int) g = some (l', ((many + ((flx q 0 j).map D).sum + dfs (n * n) (cF n g) m (q ++ [(j : Int)]) : Nat) : Int)) := e1
                rw [e1', Option.bind_some, w64_of (x := ((j + 1 : Nat) : Int) + 1) (by omega), hst]
                show some (St.next (l', ((many + ((flx q 0 j).map D).sum + D (j : Int) : Nat) : Int), _)) = _
                rw [Nat.add_assoc]
                rfl
              · have := congrArg (List.take k) e3
                rw [List.take_take, List.take_take, Nat.min_eq_left (by omega), hz2t] at this
                exact this
            unfold magic_Count_2_J6 magic_Count_2_J8 magic_row_m
            have h3 := H.n3
            have hyn : k / n < n := Nat.div_lt_of_lt_mul (by omega)
            have hyw : w64 ((k / n : Nat) : Int) = ((k / n : Nat) : Int) := w64_nat (by omega)
            rw [asrt_pos (by omega), asrt_pos (by omega), asrt_pos (by omega), tmod_nat, tdiv_nat, w64_of (x := (n : Int) - 1) (by omega), hyw]
            have hdm := Nat.div_add_mod k n
            by_cases hb1 : k % n = n - 1 ∧ 0 < k / n
            · have hcnd : ((((k % n : Nat) : Int) == (n : Int) - 1) && decide ((0 : Int) < ((k / n : Nat) : Int))) = true := by
                simp only [Bool.and_eq_true, beq_iff_eq, decide_eq_true_eq]
                omega
              rw [if_pos hcnd, Option.bind_some, if_pos hcnd, Int.toNat_natCast, sum1 hz2 hyn, Option.bind_some, Option.bind_some, if_pos hcnd, sum1_0 hz2, Option.bind_some, hcnd, Bool.true_and]
              by_cases hne : rowS (z.set k ((j + 1 : Nat) : Int)) n (k / n) = rowS (z.set k ((j + 1 : Nat) : Int)) n 0
              · rw [if_neg (by simpa using hne)]
                exact hcont
              · rw [if_pos (by simpa using hne)]
                have hz0 : D (j : Int) = 0 := by
                  have hy : (k / n + 1) * n = k + 1 := by
                    rw [Nat.succ_mul, Nat.mul_comm]
                    omega
                  have := cut_zero (n := n) (g := g) (q := q) (m := m) (v := j + 1) hkq hz2p hy hyn hne
                  rwa [show ((j + 1 : Nat) : Int) - 1 = (j : Int) by omega] at this
                refine ⟨z.set k ((j + 1 : Nat) : Int), ?_, hz2, hz2t⟩
                unfold magic_Count_2_J5
                rw [hst, hz0, w64_of (x := ((j + 1 : Nat) : Int) + 1) (by omega)]; rfl
            · have hcnd : ¬ ((((k % n : Nat) : Int) == (n : Int) - 1) && decide ((0 : Int) < ((k / n : Nat) : Int))) = true := by
                simp only [Bool.and_eq_true, beq_iff_eq, decide_eq_true_eq]
                omega
              rw [if_neg hcnd, if_neg (by simp)]
              exact hcont) (fun z hI => ⟨(z, ((many + ((flx q 0 (n * n)).map D).sum : Nat) : Int)), by
        simp only [magic_Count_2_L1]
        rw [w64_sq H.n3, if_neg (by rw [decide_eq_true_eq]; omega)], hI.1, hI.2, rfl⟩)
    obtain ⟨r1, r2⟩ := r
    obtain ⟨hr1, hr2, hr3⟩ := hr
    simp only at hr1 hr2 hr3
    have er' : loop (magic_Count_2_L1 (magic_Count_2_mF (m + 1)) k used n l g) (l, (many : Int), 1) = some (r1, r2) := by simpa [flx] using er
    rw [er', Option.bind_some, hr3]
    exact ⟨r1, rfl, hr1, hr2⟩
end Go.Proofs.Ytlpaklmfgldkoaa
