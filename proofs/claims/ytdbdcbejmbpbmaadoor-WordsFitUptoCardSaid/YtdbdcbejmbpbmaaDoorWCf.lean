/-
  Words: a hint, on both sides.
-/
import Derived.Test.YtdbdcbejmbpbmaaDoorWBf
import Derived.Test.YtdbdcbejmbpbmaaDoorLibY
namespace Go.Proofs.YtdbdcbejmbpbmaaDoor
open Go Go.GL

open Classical in
noncomputable def nR (L : Nat) (R : Nat → Prop) : Nat := ((List.range L).filter (fun b => decide (R b))).length
theorem nR_succ (L : Nat) (R : Nat → Prop) [Decidable (R L)] : nR (L + 1) R = nR L R + (if R L then 1 else 0) := by
  classical
  unfold nR
  rw [List.range_succ, List.filter_append, List.length_append]
  congr 1
  by_cases h : R L <;> simp [h]
theorem filt_or {A B : Nat → Prop} (hd : ∀ b, A b → ¬ B b) : ∀ L : Nat, nR L (fun b => A b ∨ B b) = nR L A + nR L B
  | 0 => rfl
  | L + 1 => by
    classical
    have ih := filt_or hd L
    rw [nR_succ, nR_succ, nR_succ, ih]
    by_cases ha : A L
    · have hb := hd L ha
      rw [if_pos (Or.inl ha), if_pos ha, if_neg hb]; omega
    · by_cases hb : B L
      · rw [if_pos (Or.inr hb), if_neg ha, if_pos hb]; omega
      · rw [if_neg (fun h => h.elim ha hb), if_neg ha, if_neg hb]; omega
theorem nR_le (L : Nat) (R : Nat → Prop) : nR L R ≤ L := by
  classical
  unfold nR
  refine Nat.le_trans (List.length_filter_le _ _) ?_
  rw [List.length_range]; exact Nat.le_refl _
theorem nR_congr {A B : Nat → Prop} : ∀ L : Nat, (∀ b, b < L → (A b ↔ B b)) → nR L A = nR L B
  | 0, _ => rfl
  | L + 1, h => by
    classical
    rw [nR_succ, nR_succ, nR_congr L (fun b hb => h b (by omega))]
    by_cases q : B L
    · rw [if_pos q, if_pos ((h L (by omega)).2 q)]
    · rw [if_neg q, if_neg (fun z => q ((h L (by omega)).1 z))]
theorem nR_one {L n : Nat} (h : n < L) : nR L (fun b => b = n) = 1 := by
  classical
  have : ∀ L : Nat, nR L (fun b => b = n) = if n < L then 1 else 0 := by
    intro L
    induction L with
    | zero => rfl
    | succ L ih =>
      rw [nR_succ, ih]
      by_cases e : L = n
      · subst e; rw [if_neg (by omega), if_pos rfl, if_pos (by omega)]
      · rw [if_neg e]
        by_cases q : n < L
        · rw [if_pos q, if_pos (by omega)]
        · rw [if_neg q, if_neg (by omega)]
  rw [this, if_pos h]
theorem nR_pos {L : Nat} {R : Nat → Prop} : 0 < nR L R ↔ ∃ k : Nat, k < L ∧ R k := by
  classical
  induction L with
  | zero =>
    constructor
    · intro h; exact absurd h (by simp [nR])
    · rintro ⟨k, h, _⟩; omega
  | succ L ih =>
    rw [nR_succ]
    constructor
    · intro h
      by_cases q : R L
      · exact ⟨L, by omega, q⟩
      · rw [if_neg q] at h
        obtain ⟨k, h1, h2⟩ := ih.1 (by omega)
        exact ⟨k, by omega, h2⟩
    · rintro ⟨k, h1, h2⟩
      by_cases e : k = L
      · subst e; rw [if_pos h2]; omega
      · have := ih.2 ⟨k, by omega, h2⟩
        omega
/-- One place is taken away. -/
theorem nR_less {L j : Nat} {A B : Nat → Prop} (hj : j < L) (hB : B j) (h : ∀ k : Nat, k < L → (A k ↔ B k ∧ k ≠ j)) : nR L A + 1 = nR L B := by
  have e : nR L B = nR L (fun k => A k ∧ k < L ∨ k = j) := nR_congr L fun k hk => by
    have := h k hk
    by_cases e : k = j
    · subst e; exact ⟨fun _ => Or.inr rfl, fun _ => hB⟩
    · exact ⟨fun q => Or.inl ⟨this.2 ⟨q, e⟩, hk⟩, fun q => q.elim (fun q => (this.1 q.1).1) (fun q => absurd q e)⟩
  rw [e, filt_or (A := fun k => A k ∧ k < L) (B := fun k => k = j) (fun k ⟨h1, h2⟩ e => ((h k h2).1 h1).2 e), nR_one hj]
  congr 1
  exact nR_congr L fun k hk => ⟨fun q => ⟨q, hk⟩, fun q => q.1⟩

theorem getbs {l : List Bool} {i p : Nat} {v : Bool} (hi : i < l.length) : getb (l.set i v) (p : Int) = if p = i then v else getb l (p : Int) := by
  unfold getb
  rw [List.getD_eq_getElem?_getD, List.getD_eq_getElem?_getD, Int.toNat_natCast, List.getElem?_set]
  by_cases e : i = p
  · subst e; simp [hi]
  · rw [if_neg e, if_neg (by omega)]
theorem getds {α : Type} {z : α} {l : List α} {i p : Nat} {v : α} (hi : i < l.length) : getd z (l.set i v) (p : Int) = if p = i then v else getd z l (p : Int) := by
  unfold getd
  rw [List.getD_eq_getElem?_getD, List.getD_eq_getElem?_getD, Int.toNat_natCast, List.getElem?_set]
  by_cases e : i = p
  · subst e; simp [hi]
  · rw [if_neg e, if_neg (by omega)]
theorem get_getd {α : Type} {z : α} {l : List α} {i : Nat} (hi : i < l.length) : l[i]? = some (getd z l (i : Int)) := by
  rw [getd_some (List.getElem?_eq_getElem hi)]
  exact List.getElem?_eq_getElem hi

section
variable {a b : List Int}
/-- The letter at a place. -/
abbrev at0 (l : List Int) (k : Nat) : Int := getd (0 : Int) l (k : Int)
/-- Letters of the secret that are free yet. -/
def Fr0 (a : List Int) (t : List Bool) (c : Int) (k : Nat) : Prop := getb t (k : Int) = false ∧ at0 a k = c
theorem free_set {t : List Bool} (ht : t.length = a.length) {j : Nat} (hj : j < a.length) (hf : getb t (j : Int) = false) (c : Int) :
    (c = at0 a j → nR a.length (Fr0 a (t.set j true) c) + 1 = nR a.length (Fr0 a t c)) ∧ (c ≠ at0 a j → nR a.length (Fr0 a (t.set j true) c) = nR a.length (Fr0 a t c)) := by
  constructor
  · intro e
    refine nR_less hj ⟨hf, e.symm⟩ fun k hk => ?_
    unfold Fr0
    rw [getbs (by omega)]
    by_cases q : k = j
    · subst q; simp
    · rw [if_neg q]
      exact ⟨fun h => ⟨h, q⟩, fun h => h.1⟩
  · intro e
    refine nR_congr _ fun k hk => ?_
    unfold Fr0
    rw [getbs (by omega)]
    by_cases q : k = j
    · subst q
      exact ⟨fun h => absurd h.2.symm e, fun h => absurd h.2.symm e⟩
    · rw [if_neg q]

/-- The first pass. -/
theorem first_p (hab : a.length = b.length) (ha : a.length ≤ 17592186044416) : ∃ out left, loop (words_hint_L1 a b) (List.replicate b.length (0 : Int), [], 0) = some (out, left) ∧ out.length = a.length
    ∧ (∀ j : Nat, j < a.length → at0 out j = if at0 a j = at0 b j then 103 else 46) ∧ ∀ c, mget (0 : Int) c left = (nR a.length (fun k => at0 a k ≠ at0 b k ∧ at0 a k = c) : Int) := by
  have key := count_loop (step := words_hint_L1 a b) (fun (s : List Int × List (Int × Int)) (i : Nat) => (s.1, s.2, (i : Int)))
    (fun n s => s.1.length = a.length ∧ (∀ j : Nat, j < n → at0 s.1 j = if at0 a j = at0 b j then 103 else 46) ∧ ∀ c, mget (0 : Int) c s.2 = (nR n (fun k => at0 a k ≠ at0 b k ∧ at0 a k = c) : Int))
    (fun s => s.1.length = a.length ∧ (∀ j : Nat, j < a.length → at0 s.1 j = if at0 a j = at0 b j then 103 else 46) ∧ ∀ c, mget (0 : Int) c s.2 = (nR a.length (fun k => at0 a k ≠ at0 b k ∧ at0 a k = c) : Int)) a.length (List.replicate b.length 0, []) ⟨by simp [hab], fun j hj => by omega, fun c => rfl⟩ (by
    rintro i ⟨out, left⟩ hi ⟨h1, h2, h3⟩
    left
    classical
    simp only at h1 h2 h3 ⊢
    have e1 : words_hint_L1 a b (out, left, (i : Int)) = words_hint_J2 a b out left i := if_pos (decide_eq_true (by omega))
    rw [e1]
    unfold words_hint_J2 words_hint_J3
    rw [asrt_pos (by omega), asrt_pos (by omega), asrt_pos (by omega), asrt_pos (by omega), w64_of (x := (i : Int) + 1) (by omega), Int.toNat_natCast]
    by_cases q : at0 a i = at0 b i
    · rw [if_pos (beq_iff_eq.2 q.symm)]
      refine ⟨((out.set i 46).set i 103, left), rfl, by simp [h1], fun j hj => ?_, fun c => ?_⟩
      · show getd 0 ((out.set i 46).set i 103) (j : Int) = _
        rw [getds (by simp; omega), getds (by omega)]
        by_cases e : j = i
        · subst e; rw [if_pos rfl, if_pos q]
        · rw [if_neg e, if_neg e]; exact h2 j (by omega)
      · rw [nR_succ, if_neg (fun h => h.1 q)]
        exact h3 c
    · rw [if_neg (by rw [beq_iff_eq]; exact fun e => q e.symm)]
      have hle := nR_le i (fun k => at0 a k ≠ at0 b k ∧ at0 a k = at0 a i)
      have hm : mget (0 : Int) (getd 0 a (i : Int)) left = _ := h3 (at0 a i)
      rw [hm, w64_of (by omega)]
      refine ⟨(out.set i 46, _), rfl, by simp [h1], fun j hj => ?_, fun c => ?_⟩
      · show getd 0 (out.set i 46) (j : Int) = _
        rw [getds (by omega)]
        by_cases e : j = i
        · subst e; rw [if_pos rfl, if_neg q]
        · rw [if_neg e]; exact h2 j (by omega)
      · rw [nR_succ]
        simp only
        rw [mget_mput]
        by_cases e : c = at0 a i
        · subst e
          rw [if_pos rfl, if_pos ⟨q, rfl⟩]; rfl
        · rw [if_neg e, if_neg (fun h => e h.2.symm)]
          exact h3 c) (by
    rintro ⟨out, left⟩ h
    refine ⟨(out, left), ?_, h⟩
    simp only [words_hint_L1]
    rw [if_neg (by simp)])
  obtain ⟨⟨out, left⟩, hr, h⟩ := key
  exact ⟨out, left, hr, h⟩

/-- Letters as texts: alike where the letters are. -/
theorem enc_at {l : List Int} {k : Nat} (hk : k < l.length) : getd ([] : List UInt8) (l.map encR) (k : Int) = encR (at0 l k) := by
  refine getd_some ?_
  rw [List.getElem?_map, get_getd (z := (0 : Int)) hk]; rfl
theorem enc_beq {l m : List Int} (hl : l.any forB = false) (hm : m.any forB = false) {i k : Nat} (hi : i < l.length) (hk : k < m.length) : (getd ([] : List UInt8) (l.map encR) (i : Int) == getd ([] : List UInt8) (m.map encR) (k : Int)) = decide (at0 l i = at0 m k) := by
  rw [enc_at hi, enc_at hk, Bool.eq_iff_iff, beq_iff_eq, decide_eq_true_eq]
  exact encR_inj (by simpa using List.any_eq_false.1 hl _ (List.mem_of_getElem? (get_getd hi))) (by simpa using List.any_eq_false.1 hm _ (List.mem_of_getElem? (get_getd hk)))

variable {x y : Bool}
theorem told_r (hab : a.length = b.length) (ha : a.length ≤ 17592186044416) (fa : a.any forB = false) (fb : b.any forB = false) : ∃ t, loop (gameroomref_HintOf_L1 (a.map encR, x) (b.map encR, y)) (List.replicate a.length false, 0) = some t ∧ t.length = a.length ∧ ∀ j : Nat, j < a.length → getb t (j : Int) = decide (at0 a j = at0 b j) := by
  have key := count_loop (step := gameroomref_HintOf_L1 (a.map encR, x) (b.map encR, y)) (fun (s : List Bool) (i : Nat) => (s, (i : Int))) (fun n t => t.length = a.length ∧ ∀ j : Nat, j < n → getb t (j : Int) = decide (at0 a j = at0 b j)) (fun t => t.length = a.length ∧ ∀ j : Nat, j < a.length → getb t (j : Int) = decide (at0 a j = at0 b j)) a.length (List.replicate a.length false) ⟨by simp, fun j hj => by omega⟩ (by
    rintro i t hi ⟨h1, h2⟩
    left
    have e1 : gameroomref_HintOf_L1 (a.map encR, x) (b.map encR, y) (t, (i : Int)) = gameroomref_HintOf_J2 (a.map encR, x) (b.map encR, y) t i := if_pos (decide_eq_true (by simp; omega))
    rw [e1]
    unfold gameroomref_HintOf_J2 gameroomref_HintOf_J3
    simp only [List.length_map]
    rw [asrt_pos (by omega), asrt_pos (by omega), asrt_pos (by omega), w64_of (by omega), Int.toNat_natCast, enc_beq fa fb hi (by omega)]
    refine ⟨_, rfl, by simp [h1], fun j hj => ?_⟩
    rw [getbs (by omega)]
    by_cases e : j = i
    · subst e; rw [if_pos rfl]
    · rw [if_neg e]; exact h2 j (by omega)) (by
    rintro t h
    refine ⟨t, ?_, h⟩
    simp only [gameroomref_HintOf_L1]
    rw [if_neg (by simp)])
  obtain ⟨t, hr, h⟩ := key
  exact ⟨t, hr, h⟩

theorem find_r (ha : a.length ≤ 17592186044416) (fa : a.any forB = false) (fb : b.any forB = false) {i : Nat} (hi : i < b.length) {t : List Bool} (ht : t.length = a.length) : ∀ (m k : Nat), k + m = a.length →
    ∃ t' sg, loop (gameroomref_HintOf_L3 (a.map encR, x) (b.map encR, y) i) (t, [46], (k : Int)) = some (t', sg) ∧ ((sg = [46] ∧ t' = t ∧ ∀ j : Nat, k ≤ j → j < a.length → ¬ Fr0 a t (at0 b i) j) ∨ (sg = [121] ∧ ∃ j : Nat, j < a.length ∧ Fr0 a t (at0 b i) j ∧ t' = t.set j true)) := by
  intro m
  induction m with
  | zero =>
    intro k hk
    refine ⟨t, [46], loop_done ?_, .inl ⟨rfl, rfl, fun j h1 h2 => by omega⟩⟩
    simp only [gameroomref_HintOf_L3, List.length_map]
    rw [if_neg (by simp; omega)]
  | succ m ih =>
    intro k hk
    have hka : k < a.length := by omega
    have e1 : gameroomref_HintOf_L3 (a.map encR, x) (b.map encR, y) i (t, [46], (k : Int)) = gameroomref_HintOf_J9 (a.map encR, x) (b.map encR, y) i t [46] k := by
      simp only [gameroomref_HintOf_L3, List.length_map]
      rw [if_pos (by simp; omega)]
    have e2 : gameroomref_HintOf_J9 (a.map encR, x) (b.map encR, y) i t [46] k = if (!(getb t (k : Int)) && decide (at0 a k = at0 b i)) = true then some (.next (t.set k true, [121], ((k + 1 : Nat) : Int))) else some (.next (t, [46], ((k + 1 : Nat) : Int))) := by
      unfold gameroomref_HintOf_J9 gameroomref_HintOf_J10
      simp only [List.length_map]
      rw [asrt_pos (by omega), asrt_pos (fun _ => by omega), asrt_pos (fun _ => by omega), asrt_pos (by omega), w64_of (by omega), Int.toNat_natCast, enc_beq fa fb hka hi]
      rfl
    by_cases q : Fr0 a t (at0 b i) k
    · refine ⟨t.set k true, [121], loop_next' (by rw [e1, e2, if_pos (by rw [q.1, decide_eq_true q.2]; rfl)]) (loop_done ?_), .inr ⟨rfl, k, hka, q, rfl⟩⟩
      simp only [gameroomref_HintOf_L3]
      rw [if_neg (by simp)]
    · obtain ⟨t', sg, hr, h⟩ := ih (k + 1) (by omega)
      refine ⟨t', sg, loop_next' (by rw [e1, e2, if_neg (by
        rw [Bool.and_eq_true, Bool.not_eq_true', decide_eq_true_eq]; exact q)]) hr, h.imp (fun ⟨h1, h2, h3⟩ => ⟨h1, h2, fun j hj1 hj2 => ?_⟩) id⟩
      by_cases e : j = k
      · subst e; exact q
      · exact h3 j (by omega) hj2

theorem second_b (hab : a.length = b.length) (ha : a.length ≤ 17592186044416) (fa : a.any forB = false) (fb : b.any forB = false) {out : List Int} {left : List (Int × Int)} {t : List Bool} (ho : out.length = a.length)
    (h2 : ∀ j : Nat, j < a.length → at0 out j = if at0 a j = at0 b j then 103 else 46) (ht : t.length = a.length) (h3 : ∀ c, mget (0 : Int) c left = (nR a.length (Fr0 a t c) : Int)) :
    ∃ r1 r2, loop (words_hint_L2 b) (out, left, 0) = some r1 ∧ loop (gameroomref_HintOf_L2 (a.map encR, x) (b.map encR, y)) (t, [], 0) = some r2 ∧ b8 r1 = r2 := by
  refine count_loop2' (σ := List Int × List (Int × Int) × List Bool) (step1 := words_hint_L2 b) (step2 := gameroomref_HintOf_L2 (a.map encR, x) (b.map encR, y)) (fun s i => (s.1, s.2.1, (i : Int))) (fun s i => (s.2.2, b8 (s.1.take i), (i : Int)))
    (fun n s => s.1.length = a.length ∧ (∀ j : Nat, n ≤ j → j < a.length → at0 s.1 j = if at0 a j = at0 b j then 103 else 46) ∧ s.2.2.length = a.length ∧ ∀ c, mget (0 : Int) c s.2.1 = (nR a.length (Fr0 a s.2.2 c) : Int))
    (fun r1 r2 => b8 r1 = r2) a.length (out, left, t) ⟨ho, fun j _ hj => h2 j hj, ht, h3⟩ ?_ ?_
  · rintro i ⟨o, l, t⟩ hi ⟨g1, g2, g3, g4⟩
    classical
    simp only at g1 g2 g3 g4 ⊢
    have gi := g2 i (Nat.le_refl _) hi
    have e1 : words_hint_L2 b (o, l, (i : Int)) = words_hint_J5 b o l i := if_pos (decide_eq_true (by omega))
    have e2 : gameroomref_HintOf_L2 (a.map encR, x) (b.map encR, y) (t, b8 (o.take i), (i : Int)) = gameroomref_HintOf_J5 (a.map encR, x) (b.map encR, y) t (b8 (o.take i)) i := if_pos (decide_eq_true (by simp; omega))
    have hlen : (b8 (o.take i)).length ≤ i := by unfold b8; rw [List.length_map, List.length_take]; omega
    have tk : ∀ (o' : List Int) (sg : UInt8), o'.length = a.length → o'.take i = o.take i → (at0 o' i).toNat = sg.toNat → b8 (o'.take (i + 1)) = b8 (o.take i) ++ [sg] := by
      intro o' sg hl' hh hs
      rw [List.take_add_one, get_getd (z := (0 : Int)) (by omega), hh]
      unfold b8
      rw [List.map_append]
      congr 1
      simp only [Option.toList_some, List.map_cons, List.map_nil]
      rw [hs]
      simp
    have e46 : ((getd (0 : Int) o (i : Int)) == 46) = decide (at0 a i ≠ at0 b i) := by
      show (at0 o i == 46) = _
      rw [gi]
      by_cases q : at0 a i = at0 b i
      · rw [if_pos q]; simp [q]
      · rw [if_neg q]; simp [q]
    have hm : mget (0 : Int) (getd (0 : Int) b (i : Int)) l = (nR a.length (Fr0 a t (at0 b i)) : Int) := g4 _
    have hle := nR_le a.length (Fr0 a t (at0 b i))
    have hpr : words_hint_J5 b o l i = if at0 a i ≠ at0 b i ∧ 0 < nR a.length (Fr0 a t (at0 b i)) then some (.next (o.set i 121, mput (at0 b i) (mget 0 (at0 b i) l - 1) l, ((i + 1 : Nat) : Int))) else some (.next (o, l, ((i + 1 : Nat) : Int))) := by
      unfold words_hint_J5 words_hint_J7 words_hint_J6
      rw [asrt_pos (by omega), asrt_pos (by omega), asrt_pos (by omega), e46, hm, w64_of (x := (i : Int) + 1) (by omega), w64_of (by omega), Int.toNat_natCast]
      by_cases q : at0 a i = at0 b i
      · rw [decide_eq_false (fun h => h q), if_neg (show ¬ (at0 a i ≠ at0 b i ∧ 0 < nR a.length (Fr0 a t (at0 b i))) from fun h => h.1 q)]; rfl
      · rw [decide_eq_true q]
        by_cases q2 : 0 < nR a.length (Fr0 a t (at0 b i))
        · rw [decide_eq_true (show (0 : Int) < (nR a.length (Fr0 a t (at0 b i)) : Int) by omega), if_pos (show (at0 a i ≠ at0 b i ∧ 0 < nR a.length (Fr0 a t (at0 b i))) from ⟨q, q2⟩)]; rfl
        · rw [decide_eq_false (show ¬ (0 : Int) < (nR a.length (Fr0 a t (at0 b i)) : Int) by omega), if_neg (show ¬ (at0 a i ≠ at0 b i ∧ 0 < nR a.length (Fr0 a t (at0 b i))) from fun h => q2 h.2)]; rfl
    have href : ∀ (t' : List Bool) (sg sg' : List UInt8), sg' = (if at0 a i = at0 b i then [103] else [46]) → sg.length ≤ 1 → loop (gameroomref_HintOf_L3 (a.map encR, x) (b.map encR, y) i) (t, sg', 0) = some (t', sg) → gameroomref_HintOf_J5 (a.map encR, x) (b.map encR, y) t (b8 (o.take i)) i = some (.next (t', b8 (o.take i) ++ sg, ((i + 1 : Nat) : Int))) := by
      intro t' sg sg' hsg hsl hlo
      unfold gameroomref_HintOf_J5 gameroomref_HintOf_J7
      simp only [List.length_map]
      rw [asrt_pos (by omega), asrt_pos (by omega), enc_beq fa fb hi (by omega)]
      have fin : (loop (gameroomref_HintOf_L3 (a.map encR, x) (b.map encR, y) i) (t, sg', 0)).bind (gameroomref_HintOf_K3 (b8 (o.take i)) i) = some (.next (t', b8 (o.take i) ++ sg, ((i + 1 : Nat) : Int))) := by
        rw [hlo, Option.bind_some]
        simp only [gameroomref_HintOf_K3]
        unfold gameroomref_HintOf_J8 gameroomref_HintOf_J6
        rw [asrt_pos (by unfold bigN; omega), w64_of (by omega)]
        rfl
      by_cases q : at0 a i = at0 b i
      · rw [decide_eq_true q, if_pos rfl, ← fin, hsg, if_pos q]
      · rw [decide_eq_false q, if_neg (by decide), ← fin, hsg, if_neg q]
    rw [e1, e2, hpr]
    by_cases q : at0 a i = at0 b i
    · rw [if_neg (show ¬ (at0 a i ≠ at0 b i ∧ 0 < nR a.length (Fr0 a t (at0 b i))) from fun h => h.1 q), href t [103] [103] (by rw [if_pos q]) (by simp) (loop_done (by
        simp only [gameroomref_HintOf_L3]
        rw [if_neg (by simp)]))]
      refine ⟨(o, l, t), rfl, ?_, g1, fun j h1 h2 => g2 j (by omega) h2, g3, g4⟩
      rw [tk o 103 g1 rfl (by rw [gi, if_pos q]; rfl)]
    · obtain ⟨t', sg, hl3, hc⟩ := find_r (x := x) (y := y) ha fa fb (i := i) (by omega) g3 a.length 0 (by omega)
      have hl3' : loop (gameroomref_HintOf_L3 (a.map encR, x) (b.map encR, y) i) (t, [46], 0) = some (t', sg) := hl3
      rcases hc with ⟨rfl, rfl, hn⟩ | ⟨rfl, j, hj, hF, rfl⟩
      · have h0 : ¬ 0 < nR a.length (Fr0 a t' (at0 b i)) := fun hh => by
          obtain ⟨k, h1, h2⟩ := nR_pos.1 hh
          exact hn k (by omega) h1 h2
        rw [if_neg (show ¬ (at0 a i ≠ at0 b i ∧ 0 < nR a.length (Fr0 a t' (at0 b i))) from fun h => h0 h.2), href _ _ [46] (by rw [if_neg q]) (by simp) hl3']
        refine ⟨(o, l, t'), rfl, ?_, g1, fun j h1 h2 => g2 j (by omega) h2, g3, g4⟩
        rw [tk o 46 g1 rfl (by rw [gi, if_neg q]; rfl)]
      · have hp := nR_pos.2 ⟨j, hj, hF⟩
        rw [if_pos (show at0 a i ≠ at0 b i ∧ 0 < nR a.length (Fr0 a t (at0 b i)) from ⟨q, hp⟩), href _ _ [46] (by rw [if_neg q]) (by simp) hl3']
        refine ⟨(o.set i 121, _, t.set j true), rfl, ?_, by simp [g1], fun k h1 h2 => ?_, by simp [g3], fun c => ?_⟩
        · rw [tk (o.set i 121) 121 (by simp [g1]) (by rw [List.take_set_of_le (Nat.le_refl _)]) (by
            show (getd 0 (o.set i 121) (i : Int)).toNat = _
            rw [getds (by omega), if_pos rfl]; rfl)]
        · show getd 0 (o.set i 121) (k : Int) = _
          rw [getds (by omega), if_neg (by omega)]
          exact g2 k (by omega) h2
        · have hs := free_set g3 hj hF.1 c
          simp only
          rw [mget_mput]
          have hbj : at0 a j = at0 b i := hF.2
          by_cases e : c = at0 b i
          · subst e
            have := hs.1 hbj.symm
            have := g4 (at0 b i)
            rw [if_pos rfl]
            omega
          · rw [if_neg e, g4 c, hs.2 (by rw [hbj]; exact e)]
  · rintro ⟨o, l, t⟩ ⟨g1, g2, g3, g4⟩
    simp only at g1 ⊢
    refine ⟨o, b8 o, ?_, ?_, rfl⟩
    · simp only [words_hint_L2]
      rw [if_neg (by simp; omega)]
    · simp only [gameroomref_HintOf_L2]
      rw [if_neg (by simp; omega), List.take_of_length_le (by omega)]

/-- A hint is told alike. -/
theorem hint_both {s g : List UInt8} (hs : s.length ≤ 8796093022208) (hg : g.length ≤ 8796093022208) (fa : (runesL s).any forB = false) (fb : (runesL g).any forB = false) (hab : (runesL s).length = (runesL g).length) : ∃ r, words_hint_m (runesL s) (runesL g) = some r ∧ gameroomref_HintOf_m s g = some r := by
  have hle := runesL_le s
  unfold words_hint_m gameroomref_HintOf_m
  rw [lettersOf_r hs, lettersOf_r hg, fa, fb]
  simp only [Bool.false_eq_true, if_false, Option.bind_some, List.length_map, Int.toNat_natCast]
  rw [asrt_pos (by unfold bigN; omega), asrt_pos (by unfold bigN; omega)]
  obtain ⟨out, left, h1, h2, h3, h4⟩ := first_p hab (by omega)
  obtain ⟨t, t1, t2, t3⟩ := told_r (x := true) (y := true) hab (by omega) fa fb
  rw [h1, t1, Option.bind_some, Option.bind_some]
  simp only [words_hint_K1, gameroomref_HintOf_K1]
  unfold words_hint_J1 gameroomref_HintOf_J1
  obtain ⟨r1, r2, k1, k2, k3⟩ := second_b (x := true) (y := true) hab (by omega) fa fb h2 h3 t2 (fun c => by
    rw [h4 c]
    congr 1
    refine nR_congr _ fun k hk => ?_
    unfold Fr0
    rw [t3 k hk, decide_eq_false_iff_not])
  rw [k1, k2]
  refine ⟨r2, ?_, rfl⟩
  rw [Option.bind_some]
  simp only [words_hint_K2]
  unfold words_hint_J4
  rw [k3]
end
end Go.Proofs.YtdbdcbejmbpbmaaDoor
