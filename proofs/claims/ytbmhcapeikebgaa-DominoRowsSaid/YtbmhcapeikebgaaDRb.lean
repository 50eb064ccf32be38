/-
  DominoRows: ends counted, what the first piece reaches.
-/
import Derived.Test.YtbmhcapeikebgaaDRa
namespace Go.Proofs.Ytbmhcapeikebgaa
open Go Go.GL

theorem getb_si {l : List Bool} {x p : Int} {v : Bool} (hx : 0 ≤ x ∧ x < l.length) (hp : 0 ≤ p) : getb (l.set (Int.toNat x) v) p = if p = x then v else getb l p := by
  obtain ⟨a, rfl⟩ : ∃ a : Nat, x = a := ⟨x.toNat, by omega⟩
  obtain ⟨b, rfl⟩ : ∃ b : Nat, p = b := ⟨p.toNat, by omega⟩
  rw [Int.toNat_natCast, getb_st (by omega)]
  by_cases e : b = a
  · rw [if_pos e, if_pos (by omega)]
  · rw [if_neg e, if_neg (by omega)]

def Vx (x : Int) : Prop := 0 ≤ x ∧ x ≤ 9
def VL (l : List (Int × Int)) : Prop := ∀ i : Nat, i < l.length → Vx (eA l i) ∧ Vx (eB l i)
/-- How many ends are v. -/
def D (l : List (Int × Int)) (v : Int) : Int := sm l.length (cc l v)
def od (l : List (Int × Int)) (m : Nat) : Int := sm m (fun v => D l (v : Int) % 2)

theorem rawv {l : List (Int × Int)} (hv : VL l) {i : Nat} (hi : i < l.length) : (0 ≤ (getd ((0, 0) : Int × Int) l (i : Int)).1 ∧ (getd ((0, 0) : Int × Int) l (i : Int)).1 ≤ 9) ∧ (0 ≤ (getd ((0, 0) : Int × Int) l (i : Int)).2 ∧ (getd ((0, 0) : Int × Int) l (i : Int)).2 ≤ 9) := hv i hi
theorem cc_eq (l : List (Int × Int)) (v : Int) (i : Nat) : cc l v i = (if eA l i = v then 1 else 0) + (if eB l i = v then 1 else 0) := rfl
theorem dl_bd (a v : Int) : 0 ≤ dl a v ∧ dl a v ≤ 1 := by unfold dl; split <;> omega
theorem cc_bd (l : List (Int × Int)) (v : Int) (i : Nat) : 0 ≤ cc l v i ∧ cc l v i ≤ 2 := by
  have h1 := dl_bd (eA l i) v
  have h2 := dl_bd (eB l i) v
  unfold cc; omega
theorem smc_bd (l : List (Int × Int)) (v : Int) (k : Nat) : 0 ≤ sm k (cc l v) ∧ sm k (cc l v) ≤ 2 * k := by
  have := sm_bd (f := cc l v) (a := 0) (b := 2) k (fun i _ => cc_bd l v i)
  omega

theorem dg_none (l : List (Int × Int)) (v : Int) : dg l (List.replicate l.length false) v = D l v := by
  unfold dg D
  refine sm_congr _ (fun i hi => ?_)
  have : getb (List.replicate l.length false) (i : Int) = false := by
    unfold getb
    rw [Int.toNat_natCast, List.getD_eq_getElem?_getD, List.getElem?_replicate, if_pos hi]; rfl
  rw [this, if_neg (by decide)]

section
variable {l : List (Int × Int)} (hn : l.length ≤ 60) (hv : VL l)
include hn hv

theorem ends_p : ∃ e, loop (domino_Row_L1 l) ((List.replicate 10 (0 : Int)), 0) = some e ∧ e.length = 10 ∧ ∀ v : Nat, v < 10 → geti e (v : Int) = D l (v : Int) := by
  have := count_loop (step := domino_Row_L1 l) (fun (s : List Int) (i : Nat) => (s, (i : Int))) (fun i s => s.length = 10 ∧ ∀ v : Nat, v < 10 → geti s (v : Int) = sm i (cc l (v : Int))) (fun e => e.length = 10 ∧ ∀ v : Nat, v < 10 → geti e (v : Int) = D l (v : Int)) l.length (List.replicate 10 (0 : Int)) ⟨rfl, fun v h => by
      rw [geti_nat, List.getD_eq_getElem?_getD, List.getElem?_replicate, if_pos h]; rfl⟩ (by
    intro i s hi ⟨h1, h2⟩
    left
    obtain ⟨⟨a1, a2⟩, ⟨b1, b2⟩⟩ := hv i hi
    obtain ⟨a, ha⟩ : ∃ a : Nat, eA l i = a := ⟨(eA l i).toNat, by omega⟩
    obtain ⟨b, hb⟩ : ∃ b : Nat, eB l i = b := ⟨(eB l i).toNat, by omega⟩
    have ga := h2 a (by omega)
    have gb := h2 b (by omega)
    have sa := smc_bd l (a : Int) i
    have sb := smc_bd l (b : Int) i
    have hx : geti (s.set a (geti s (a : Int) + 1)) (b : Int) = geti s (b : Int) + dl (a : Int) (b : Int) := by
      rw [geti_set' (by omega) (by omega)]
      unfold dl
      by_cases q : (b : Int) = a
      · rw [if_pos q, if_pos q.symm, q]
      · rw [if_neg q, if_neg (fun z => q z.symm)]; omega
    have db := dl_bd (a : Int) (b : Int)
    refine ⟨(s.set a (geti s (a : Int) + 1)).set b (geti s (b : Int) + dl (a : Int) (b : Int) + 1), ?_, by rw [List.length_set, List.length_set, h1], fun v hv' => ?_⟩
    · have ha' : (getd ((0, 0) : Int × Int) l (i : Int)).1 = (a : Int) := ha
      have hb' : (getd ((0, 0) : Int × Int) l (i : Int)).2 = (b : Int) := hb
      simp only [domino_Row_L1, domino_Row_J3, domino_Row_J4]
      rw [ha', hb', if_pos (decide_eq_true (by omega)), asrt_pos (by omega), asrt_pos (by omega), asrt_pos (by omega), asrt_pos (by omega), asrt_pos (by omega), asrt_pos (by omega), asrt_pos (by rw [List.length_set]; omega)]
      rw [Int.toNat_natCast, Int.toNat_natCast, w64_of (x := geti s (a : Int) + 1) (by omega), hx, w64_of (x := _ + _ + 1) (by omega), w64_of (by omega)]; rfl
    · have gv := h2 v hv'
      rw [sm_succ, cc_eq, ha, hb, geti_set' (by omega) (by rw [List.length_set]; omega), geti_set' (by omega) (by omega)]
      unfold dl
      by_cases q : v = b
      · subst q
        by_cases q3 : a = v
        · subst q3; rw [if_pos rfl, if_pos rfl, gb]; omega
        · rw [if_pos rfl, if_pos rfl, if_neg (show ¬ ((a : Int) = v) by omega), gb]; omega
      · rw [if_neg (show ¬ ((v : Int) = b) by omega), if_neg (show ¬ ((b : Int) = v) by omega)]
        by_cases q3 : v = a
        · subst q3; rw [if_pos rfl, if_pos rfl, ga]; omega
        · rw [if_neg (show ¬ ((v : Int) = a) by omega), if_neg (show ¬ ((a : Int) = v) by omega), gv]; omega) (by
    intro s ⟨h1, h2⟩
    refine ⟨s, ?_, h1, h2⟩
    simp only [domino_Row_L1]
    rw [if_neg (by simp)])
  exact this

omit hv in
theorem D_bd (v : Int) : 0 ≤ D l v ∧ D l v ≤ 120 := by
  have := smc_bd l v l.length
  unfold D; omega

omit hv in
theorem start_p {e : List Int} (he : e.length = 10) (hg : ∀ v : Nat, v < 10 → geti e (v : Int) = D l (v : Int)) : ∃ s, loop (domino_Row_L2 e) ((eA l 0), 0, 0) = some (s, od l 10) ∧ (od l 10 = 0 → s = eA l 0) ∧ (od l 10 ≠ 0 → ∃ a : Nat, a < 10 ∧ s = a ∧ D l (a : Int) % 2 = 1) := by
  obtain ⟨r, e1, h1, h2, h3⟩ := count_loop (step := domino_Row_L2 e) (fun (s : Int × Int) (i : Nat) => (s.1, s.2, (i : Int))) (fun m s => s.2 = od l m ∧ (od l m = 0 → s.1 = eA l 0) ∧ (od l m ≠ 0 → ∃ a : Nat, a < m ∧ s.1 = a ∧ D l (a : Int) % 2 = 1)) (fun s => s.2 = od l 10 ∧ (od l 10 = 0 → s.1 = eA l 0) ∧ (od l 10 ≠ 0 → ∃ a : Nat, a < 10 ∧ s.1 = a ∧ D l (a : Int) % 2 = 1)) 10 (eA l 0, 0) ⟨rfl, fun _ => rfl, fun h => absurd rfl h⟩ (by
    rintro m ⟨s, o⟩ hm ⟨h1, h2, h3⟩
    dsimp only at h1 h2 h3
    left
    have db := D_bd hn (m : Int)
    have gm := hg m hm
    have ob : 0 ≤ od l m ∧ od l m ≤ 1 * m := by
      have := sm_bd (f := fun v : Nat => D l (v : Int) % 2) (a := 0) (b := 1) m (fun i _ => by omega)
      unfold od; omega
    have es : od l (m + 1) = od l m + D l (m : Int) % 2 := rfl
    obtain ⟨d, hd⟩ : ∃ d : Nat, D l (m : Int) = d := ⟨(D l (m : Int)).toNat, by omega⟩
    simp only [domino_Row_L2, domino_Row_J6, domino_Row_J7]
    rw [if_pos (decide_eq_true (by omega)), asrt_pos (by omega), gm, hd, band1 d (by omega)]
    by_cases q : d % 2 = 1
    · refine ⟨((m : Int), od l (m + 1)), ?_, rfl, fun h => by omega, fun _ => ⟨m, by omega, rfl, by omega⟩⟩
      rw [if_pos (by rw [q]; rfl), h1, w64_of (by omega), w64_of (by omega), es, show D l (m : Int) % 2 = 1 by omega]; rfl
    · refine ⟨(s, o), ?_, by dsimp only; omega, fun h => h2 (by omega), fun h => ?_⟩
      · rw [if_neg (by rw [beq_iff_eq]; omega), w64_of (by omega)]; rfl
      · obtain ⟨a, x1, x2, x3⟩ := h3 (by omega)
        exact ⟨a, by omega, x2, x3⟩) (by
    rintro ⟨s, o⟩ h
    refine ⟨(s, o), ?_, h⟩
    simp only [domino_Row_L2]
    rw [if_neg (by decide)])
  refine ⟨r.1, ?_, h2, h3⟩
  rw [← h1]; exact e1

omit hv in
theorem cnt_r (v : Nat) (hv9 : v < 10) : loop (gameroomref_RowCan_L2 l v) (0, 0) = some (D l (v : Int)) := by
  refine loop_from (r := D l (v : Int)) (fun i => (sm i (cc l (v : Int)), (i : Int))) l.length rfl (fun i hi => ?_) ?_
  · have sb := smc_bd l (v : Int) i
    simp only [gameroomref_RowCan_L2, gameroomref_RowCan_J5, gameroomref_RowCan_J7, gameroomref_RowCan_J6]
    rw [if_pos (decide_eq_true (by omega)), asrt_pos (by omega), asrt_pos (by omega), asrt_pos (by omega), sm_succ, cc_eq]
    by_cases q1 : eA l i = v
    · by_cases q2 : eB l i = v
      · rw [if_pos (by rw [beq_iff_eq]; exact q1), if_pos (by rw [beq_iff_eq]; exact q2), if_pos q1, if_pos q2, w64_of (x := sm i (cc l (v : Int)) + 1) (by omega), w64_of (x := sm i (cc l (v : Int)) + 1 + 1) (by omega), w64_of (by omega), Int.add_assoc]; rfl
      · rw [if_pos (by rw [beq_iff_eq]; exact q1), if_neg (by rw [beq_iff_eq]; exact q2), if_pos q1, if_neg q2, w64_of (x := _ + 1) (by omega), w64_of (by omega)]; rfl
    · by_cases q2 : eB l i = v
      · rw [if_neg (by rw [beq_iff_eq]; exact q1), if_pos (by rw [beq_iff_eq]; exact q2), if_neg q1, if_pos q2, w64_of (x := _ + 1) (by omega), w64_of (by omega)]; rfl
      · rw [if_neg (by rw [beq_iff_eq]; exact q1), if_neg (by rw [beq_iff_eq]; exact q2), if_neg q1, if_neg q2, w64_of (by omega), Int.add_zero, Int.add_zero]; rfl
  · simp only [gameroomref_RowCan_L2]
    rw [if_neg (by simp)]; rfl

omit hv in
theorem odd_r : loop (gameroomref_RowCan_L1 l) (0, 0) = some (od l 10) := by
  refine loop_from (r := od l 10) (fun m => (od l m, (m : Int))) 10 rfl (fun m hm => ?_) ?_
  · have db := D_bd hn (m : Int)
    have ob : 0 ≤ od l m ∧ od l m ≤ 1 * m := by
      have := sm_bd (f := fun v : Nat => D l (v : Int) % 2) (a := 0) (b := 1) m (fun i _ => by omega)
      unfold od; omega
    have es : od l (m + 1) = od l m + D l (m : Int) % 2 := rfl
    simp only [gameroomref_RowCan_L1, gameroomref_RowCan_J2]
    rw [if_pos (decide_eq_true (by omega)), cnt_r hn m hm, Option.bind_some]
    simp only [gameroomref_RowCan_K2, gameroomref_RowCan_J4, gameroomref_RowCan_J3]
    rw [Int.tmod_eq_emod_of_nonneg (by omega), w64_of (x := od l m + _) (by omega), w64_of (by omega), ← es]; rfl
  · simp only [gameroomref_RowCan_L1]
    rw [if_neg (by decide)]

/-- A set that no piece leaves. -/
def Cl (l : List (Int × Int)) (S : Int → Prop) : Prop := ∀ i : Nat, i < l.length → (S (eA l i) ↔ S (eB l i))
abbrev Sn (s : List Bool) : Int → Prop := fun v => getb s v = true

theorem round_r {seen : List Bool} (h10 : seen.length = 10) : ∃ seen', loop (gameroomref_RowCan_L4 l) (seen, 0) = some seen' ∧ seen'.length = 10 ∧ (∀ v, 0 ≤ v → Sn seen v → Sn seen' v) ∧ (∀ i : Nat, i < l.length → Sn seen (eA l i) ∨ Sn seen (eB l i) → Sn seen' (eA l i) ∧ Sn seen' (eB l i)) ∧ ∀ S, Cl l S → (∀ v, 0 ≤ v → Sn seen v → S v) → ∀ v, 0 ≤ v → Sn seen' v → S v := by
  have := count_loop (step := gameroomref_RowCan_L4 l) (fun (s : List Bool) (i : Nat) => (s, (i : Int))) (fun k s => s.length = 10 ∧ (∀ v, 0 ≤ v → Sn seen v → Sn s v) ∧ (∀ i : Nat, i < k → Sn seen (eA l i) ∨ Sn seen (eB l i) → Sn s (eA l i) ∧ Sn s (eB l i)) ∧ ∀ S, Cl l S → (∀ v, 0 ≤ v → Sn seen v → S v) → ∀ v, 0 ≤ v → Sn s v → S v)
    (fun s => s.length = 10 ∧ (∀ v, 0 ≤ v → Sn seen v → Sn s v) ∧ (∀ i : Nat, i < l.length → Sn seen (eA l i) ∨ Sn seen (eB l i) → Sn s (eA l i) ∧ Sn s (eB l i)) ∧ ∀ S, Cl l S → (∀ v, 0 ≤ v → Sn seen v → S v) → ∀ v, 0 ≤ v → Sn s v → S v) l.length seen ⟨h10, fun v _ h => h, fun i hi => by omega, fun S _ h => h⟩ (by
    intro k s hk ⟨h1, h2, h3, h4⟩
    left
    obtain ⟨⟨a1, a2⟩, ⟨b1, b2⟩⟩ := hv k hk
    have hraw := rawv hv hk
    simp only [gameroomref_RowCan_L4, gameroomref_RowCan_J13, gameroomref_RowCan_J14]
    rw [if_pos (decide_eq_true (by omega)), asrt_pos (by omega), asrt_pos (by omega), asrt_pos (by intro _; omega), asrt_pos (by intro _; omega)]
    by_cases q : Sn s (eA l k) ∨ Sn s (eB l k)
    · have hset : ∀ v, 0 ≤ v → (Sn ((s.set (Int.toNat (eA l k)) true).set (Int.toNat (eB l k)) true) v ↔ v = eA l k ∨ v = eB l k ∨ Sn s v) := fun v hv0 => by
        unfold Sn
        rw [getb_si (by rw [List.length_set]; omega) hv0, getb_si (by omega) hv0]
        by_cases z : v = eB l k
        · rw [if_pos z]; exact ⟨fun _ => Or.inr (Or.inl z), fun _ => rfl⟩
        · rw [if_neg z]
          by_cases z2 : v = eA l k
          · rw [if_pos z2]; exact ⟨fun _ => Or.inl z2, fun _ => rfl⟩
          · rw [if_neg z2]; exact ⟨fun h => Or.inr (Or.inr h), fun h => (h.resolve_left z2).resolve_left z⟩
      refine ⟨(s.set (Int.toNat (eA l k)) true).set (Int.toNat (eB l k)) true, ?_, by rw [List.length_set, List.length_set, h1], fun v hv0 h => (hset v hv0).2 (Or.inr (Or.inr (h2 v hv0 h))), fun i hi h => ?_, fun S hS h0 v hv0 h => ?_⟩
      · rw [if_pos (by rw [Bool.or_eq_true]; exact q), asrt_pos (by omega), asrt_pos (by omega), asrt_pos (by omega), asrt_pos (by omega), w64_of (by omega)]; rfl
      · obtain ⟨⟨x1, _⟩, ⟨x2, _⟩⟩ := hv i (by omega)
        by_cases e : i = k
        · subst e; exact ⟨(hset _ x1).2 (Or.inl rfl), (hset _ x2).2 (Or.inr (Or.inl rfl))⟩
        · have := h3 i (by omega) h
          exact ⟨(hset _ x1).2 (Or.inr (Or.inr this.1)), (hset _ x2).2 (Or.inr (Or.inr this.2))⟩
      · have hAB : S (eA l k) ∧ S (eB l k) := by
          rcases q with q | q
          · have := h4 S hS h0 _ a1 q
            exact ⟨this, (hS k hk).1 this⟩
          · have := h4 S hS h0 _ b1 q
            exact ⟨(hS k hk).2 this, this⟩
        rcases (hset v hv0).1 h with rfl | rfl | h
        · exact hAB.1
        · exact hAB.2
        · exact h4 S hS h0 v hv0 h
    · refine ⟨s, ?_, h1, h2, fun i hi h => ?_, h4⟩
      · rw [if_neg (by rw [Bool.or_eq_true]; exact q), w64_of (by omega)]; rfl
      · by_cases e : i = k
        · subst e
          exact absurd (h.imp (h2 _ a1) (h2 _ b1)) q
        · exact h3 i (by omega) h) (by
    intro s h
    refine ⟨s, ?_, h⟩
    simp only [gameroomref_RowCan_L4]
    rw [if_neg (by simp)])
  exact this

omit hn hv in
theorem sm_lt1 {f g : Nat → Int} {a : Nat} : ∀ n, (∀ v, v < n → f v ≤ g v) → a < n → f a + 1 ≤ g a → sm n f + 1 ≤ sm n g
  | 0, _, h, _ => by omega
  | n + 1, h, ha, hg => by
    rw [sm_succ, sm_succ]
    have hn := h n (by omega)
    by_cases e : a = n
    · subst e
      have : ∀ m, m ≤ a → sm m f ≤ sm m g := fun m => by
        induction m with
        | zero => intro _; exact Int.le_refl _
        | succ m ih => intro hm; rw [sm_succ, sm_succ]; have := ih (by omega); have := h m (by omega); omega
      have := this a (Nat.le_refl _)
      omega
    · have := sm_lt1 n (fun v hv => h v (by omega)) (by omega) hg
      omega

def ct (s : List Bool) : Int := sm 10 (fun v => if getb s (v : Int) then 1 else 0)
omit hn hv in
theorem ct_bd (s : List Bool) : ct s ≤ 10 := by
  have := sm_bd (f := fun v : Nat => if getb s (v : Int) = true then (1 : Int) else 0) (a := 0) (b := 1) 10 (fun i _ => by split <;> omega)
  unfold ct; omega

theorem rounds_r {seen : List Bool} (h10 : seen.length = 10) (h0 : Cl l (Sn seen) ∨ 1 ≤ ct seen) : ∃ seen', loop (gameroomref_RowCan_L3 l) (seen, 0) = some seen' ∧ seen'.length = 10 ∧ (∀ v, 0 ≤ v → Sn seen v → Sn seen' v) ∧ Cl l (Sn seen') ∧ ∀ S, Cl l S → (∀ v, 0 ≤ v → Sn seen v → S v) → ∀ v, 0 ≤ v → Sn seen' v → S v := by
  have := count_loop (step := gameroomref_RowCan_L3 l) (fun (s : List Bool) (i : Nat) => (s, (i : Int))) (fun r s => s.length = 10 ∧ (∀ v, 0 ≤ v → Sn seen v → Sn s v) ∧ (Cl l (Sn s) ∨ (r : Int) + 1 ≤ ct s) ∧ ∀ S, Cl l S → (∀ v, 0 ≤ v → Sn seen v → S v) → ∀ v, 0 ≤ v → Sn s v → S v)
    (fun s => s.length = 10 ∧ (∀ v, 0 ≤ v → Sn seen v → Sn s v) ∧ Cl l (Sn s) ∧ ∀ S, Cl l S → (∀ v, 0 ≤ v → Sn seen v → S v) → ∀ v, 0 ≤ v → Sn s v → S v) 10 seen ⟨h10, fun v _ h => h, h0.imp id (fun h => by omega), fun S _ h => h⟩ (by
    intro r s hr ⟨h1, h2, h3, h4⟩
    left
    obtain ⟨s', e, g1, g2, g3, g4⟩ := round_r hn hv h1
    refine ⟨s', ?_, g1, fun v hv0 h => g2 v hv0 (h2 v hv0 h), ?_, fun S hS h0 v hv0 h => g4 S hS (h4 S hS h0) v hv0 h⟩
    · simp only [gameroomref_RowCan_L3, gameroomref_RowCan_J11]
      rw [if_pos (decide_eq_true (by omega)), e, Option.bind_some]
      simp only [gameroomref_RowCan_K4, gameroomref_RowCan_J12]
      rw [w64_of (by omega)]; rfl
    · by_cases hc : Cl l (Sn s)
      · left
        have same : ∀ v, 0 ≤ v → (Sn s' v ↔ Sn s v) := fun v hv0 => ⟨fun h => g4 _ hc (fun v _ h => h) v hv0 h, g2 v hv0⟩
        intro i hi
        obtain ⟨⟨x1, _⟩, ⟨x2, _⟩⟩ := hv i hi
        rw [same _ x1, same _ x2]
        exact hc i hi
      · right
        have h3 := h3.resolve_left hc
        have hex : ∃ i : Nat, i < l.length ∧ ¬ (Sn s (eA l i) ↔ Sn s (eB l i)) := Classical.byContradiction fun z => hc fun i hi => Classical.byContradiction fun w => z ⟨i, hi, w⟩
        obtain ⟨i, hi, hne⟩ := hex
        obtain ⟨⟨x1, y1⟩, ⟨x2, y2⟩⟩ := hv i hi
        have hw : ∃ w : Nat, w < 10 ∧ ¬ Sn s (w : Int) ∧ Sn s' (w : Int) := by
          by_cases qa : Sn s (eA l i)
          · have qb : ¬ Sn s (eB l i) := fun z => hne ⟨fun _ => z, fun _ => qa⟩
            exact ⟨(eB l i).toNat, by omega, by rw [Int.toNat_of_nonneg x2]; exact qb, by rw [Int.toNat_of_nonneg x2]; exact (g3 i hi (Or.inl qa)).2⟩
          · have qb : Sn s (eB l i) := Classical.byContradiction fun z => hne ⟨fun w => absurd w qa, fun w => absurd w z⟩
            exact ⟨(eA l i).toNat, by omega, by rw [Int.toNat_of_nonneg x1]; exact qa, by rw [Int.toNat_of_nonneg x1]; exact (g3 i hi (Or.inr qb)).1⟩
        obtain ⟨w, w1, w2, w3⟩ := hw
        have := sm_lt1 (f := fun v : Nat => if getb s (v : Int) = true then (1 : Int) else 0) (g := fun v : Nat => if getb s' (v : Int) = true then (1 : Int) else 0) (a := w) 10 (fun v _ => by
          try dsimp only
          by_cases z : getb s (v : Int) = true
          · rw [if_pos z, if_pos (g2 _ (by omega) z)]; omega
          · rw [if_neg z]; split <;> omega) w1 (by
          try dsimp only
          rw [if_neg w2, if_pos w3]; omega)
        unfold ct at h3 ⊢
        omega) (by
    intro s ⟨h1, h2, h3, h4⟩
    refine ⟨s, ?_, h1, h2, ?_, h4⟩
    · simp only [gameroomref_RowCan_L3]
      rw [if_neg (by decide)]
    · have := ct_bd s
      exact h3.resolve_right (by omega))
  exact this

/-- The document's condition. -/
theorem can_r : ∃ (seen : List Bool) (b : Bool), (0 < l.length → Sn seen (eA l 0)) ∧ Cl l (Sn seen) ∧ (∀ S, Cl l S → (0 < l.length → S (eA l 0)) → ∀ v, 0 ≤ v → Sn seen v → S v) ∧ gameroomref_RowCan_m l = some b ∧ (b = true ↔ od l 10 ≤ 2 ∧ ∀ i : Nat, i < l.length → Sn seen (eA l i)) := by
  have hrep : ∀ v, ¬ Sn (List.replicate 10 false) v := fun v => by
    unfold Sn getb
    rw [List.getD_eq_getElem?_getD, List.getElem?_replicate]
    split <;> decide
  have key : ∀ s0 : List Bool, s0.length = 10 → (0 < l.length → Sn s0 (eA l 0)) → (∀ v, 0 ≤ v → Sn s0 v → 0 < l.length ∧ v = eA l 0) → (Cl l (Sn s0) ∨ 1 ≤ ct s0) → ∃ (seen : List Bool) (b : Bool), (0 < l.length → Sn seen (eA l 0)) ∧ Cl l (Sn seen) ∧ (∀ S, Cl l S → (0 < l.length → S (eA l 0)) → ∀ v, 0 ≤ v → Sn seen v → S v) ∧ gameroomref_RowCan_J9 l s0 = some b ∧ (b = true ↔ ∀ i : Nat, i < l.length → Sn seen (eA l i)) := by
    intro s0 h10 hA hv0 hct
    obtain ⟨seen, e, g1, g2, g3, g4⟩ := rounds_r hn hv h10 hct
    obtain ⟨r, e5, hr⟩ := count_loop (step := gameroomref_RowCan_L5 l seen) (fun (_ : Unit) (i : Nat) => (i : Int)) (fun k _ => ∀ i : Nat, i < k → Sn seen (eA l i)) (fun r => (r = .go () ∧ ∀ i : Nat, i < l.length → Sn seen (eA l i)) ∨ (r = .ret false ∧ ¬ ∀ i : Nat, i < l.length → Sn seen (eA l i))) l.length () (fun i hi => by omega) (by
      intro k _ hk hI
      obtain ⟨⟨x1, y1⟩, _⟩ := hv k hk
      have hraw := rawv hv hk
      simp only [gameroomref_RowCan_L5, gameroomref_RowCan_J16, gameroomref_RowCan_J17]
      rw [if_pos (decide_eq_true (by omega)), asrt_pos (by omega), asrt_pos (by omega)]
      by_cases q : Sn seen (eA l k)
      · left
        refine ⟨(), ?_, fun i hi => ?_⟩
        · rw [if_neg (by rw [Bool.not_eq_true', Bool.not_eq_false]; exact q), w64_of (by omega)]; rfl
        · by_cases e : i = k
          · rw [e]; exact q
          · exact hI i (by omega)
      · right
        refine ⟨.ret false, ?_, Or.inr ⟨rfl, fun h => q (h k hk)⟩⟩
        rw [if_pos (by rw [Bool.not_eq_true', ← Bool.not_eq_true]; exact q)]) (by
      intro _ hI
      refine ⟨.go (), ?_, Or.inl ⟨rfl, hI⟩⟩
      simp only [gameroomref_RowCan_L5]
      rw [if_neg (by simp)])
    have e5' : loop (gameroomref_RowCan_L5 l seen) 0 = some r := e5
    have hb : ∃ b, gameroomref_RowCan_J9 l s0 = some b ∧ (b = true ↔ ∀ i : Nat, i < l.length → Sn seen (eA l i)) := by
      unfold gameroomref_RowCan_J9
      rw [e, Option.bind_some]
      simp only [gameroomref_RowCan_K3, gameroomref_RowCan_J10]
      rw [e5', Option.bind_some]
      rcases hr with ⟨rfl, h⟩ | ⟨rfl, h⟩
      · exact ⟨true, rfl, fun _ => h, fun _ => rfl⟩
      · exact ⟨false, rfl, (fun z => by cases z), fun z => absurd z h⟩
    obtain ⟨b, b1, b2⟩ := hb
    refine ⟨seen, b, fun h => ?_, g3, fun S hS h v hv1 hs => g4 S hS (fun v hv1 hs => ?_) v hv1 hs, b1, b2⟩
    · exact g2 _ (hv 0 h).1.1 (hA h)
    · obtain ⟨z1, z2⟩ := hv0 v hv1 hs
      rw [z2]; exact h z1
  unfold gameroomref_RowCan_m
  rw [odd_r hn, Option.bind_some]
  simp only [gameroomref_RowCan_K1, gameroomref_RowCan_J1]
  have fin : ∃ (seen : List Bool) (b : Bool), (0 < l.length → Sn seen (eA l 0)) ∧ Cl l (Sn seen) ∧ (∀ S, Cl l S → (0 < l.length → S (eA l 0)) → ∀ v, 0 ≤ v → Sn seen v → S v) ∧ gameroomref_RowCan_J8 l = some b ∧ (b = true ↔ ∀ i : Nat, i < l.length → Sn seen (eA l i)) := by
    unfold gameroomref_RowCan_J8
    rw [asrt_pos (by unfold bigN; omega)]
    by_cases h : 0 < l.length
    · obtain ⟨⟨x1, y1⟩, _⟩ := hv 0 h
      have x1' : 0 ≤ (getd ((0, 0) : Int × Int) l 0).1 := x1
      have y1' : (getd ((0, 0) : Int × Int) l 0).1 ≤ 9 := y1
      rw [if_pos (decide_eq_true (by omega)), asrt_pos (by omega), asrt_pos (by omega)]
      have hs : ∀ v, 0 ≤ v → (Sn ((List.replicate (Int.toNat 10) false).set (Int.toNat (getd ((0, 0) : Int × Int) l 0).1) true) v ↔ v = (getd ((0, 0) : Int × Int) l 0).1) := fun v hv1 => by
        unfold Sn
        rw [getb_si (by rw [List.length_replicate]; omega) hv1]
        by_cases q : v = (getd ((0, 0) : Int × Int) l 0).1
        · rw [if_pos q]; exact ⟨fun _ => q, fun _ => rfl⟩
        · rw [if_neg q]; exact ⟨fun z => absurd z (hrep v), fun z => absurd z q⟩
      refine key _ (by rw [List.length_set]; rfl) (fun _ => (hs _ x1).2 rfl) (fun v hv1 z => ⟨h, (hs v hv1).1 z⟩) (Or.inr ?_)
      have := sm_lt1 (f := fun _ : Nat => 0) (g := fun v : Nat => if getb ((List.replicate (Int.toNat 10) false).set (Int.toNat (getd ((0, 0) : Int × Int) l 0).1) true) (v : Int) = true then (1 : Int) else 0) (a := (eA l 0).toNat) 10 (fun v _ => by split <;> omega) (by omega) (by
        try dsimp only
        rw [Int.toNat_of_nonneg x1, if_pos ((hs _ x1).2 rfl)]; omega)
      rw [sm_zero] at this
      unfold ct
      omega
    · rw [if_neg (by rw [decide_eq_true_eq]; omega)]
      exact key _ rfl (fun z => absurd z h) (fun v _ z => absurd z (hrep v)) (Or.inl (fun i hi => by omega))
  obtain ⟨seen, b, f1, f2, f3, f4, f5⟩ := fin
  by_cases q : 2 < od l 10
  · refine ⟨seen, false, f1, f2, f3, if_pos (decide_eq_true q), (fun z => by cases z), (fun z => by omega)⟩
  · refine ⟨seen, b, f1, f2, f3, (if_neg (by rw [decide_eq_true_eq]; exact q)).trans f4, fun z => ⟨by omega, f5.1 z⟩, fun z => f5.2 z.2⟩
end
end Go.Proofs.Ytbmhcapeikebgaa
