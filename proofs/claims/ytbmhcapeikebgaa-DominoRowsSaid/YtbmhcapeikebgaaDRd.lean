/-
  DominoRows: parity, reach, and the law.
-/
import Derived.Test.YtbmhcapeikebgaaDRc
namespace Go.Proofs.Ytbmhcapeikebgaa
open Go Go.GL

def stg (e : Int × Int) : Bool := (((decide (e.1 < 0)) || (decide ((9 : Int) < e.1))) || (decide (e.2 < 0))) || (decide ((9 : Int) < e.2))
theorem stg_iff (e : Int × Int) : stg e = false ↔ Vx e.1 ∧ Vx e.2 := by
  unfold stg Vx
  simp only [Bool.or_eq_false_iff, decide_eq_false_iff_not]
  omega

theorem contains_p {l : List (Int × Int)} (hs : l.length ≤ 8796093022208) : slices_ContainsFunc_m l = some (l.any stg) := by
  unfold slices_ContainsFunc_m slices_IndexFunc_m
  rw [search_loop (l := l) stg (fun i => Fl.ret (i : Int)) (Fl.go ()) ?_ ?_ ?_]
  · have hn := fidx_neg stg l
    unfold fidx at hn
    cases hf : l.findIdx? stg with
    | none =>
      rw [hf] at hn
      have : l.any stg = false := by
        rw [Bool.eq_false_iff]
        intro h; have := hn.2 h; simp at this
      rw [this]; rfl
    | some i =>
      rw [hf] at hn
      have : l.any stg = true := hn.1 (by simp)
      rw [this]
      simp [slices_IndexFunc_K1]
  · intro i x hx hp
    have hb := idx_bd hx
    simp only [slices_IndexFunc_L1, slices_IndexFunc_J2, domino_strange_m]
    rw [if_pos (by simpa using hb.2), asrt_pos hb, getd_some hx, Option.bind_some]
    exact if_pos hp
  · intro i x hx hp
    have hb := idx_bd hx
    simp only [slices_IndexFunc_L1, slices_IndexFunc_J2, slices_IndexFunc_J3, domino_strange_m]
    rw [if_pos (by simpa using hb.2), asrt_pos hb, getd_some hx, Option.bind_some]
    refine (if_neg (show ¬ (stg x = true) by rw [hp]; decide)).trans ?_
    rw [w64_of (by omega)]
  · simp only [slices_IndexFunc_L1]
    rw [if_neg (by simp)]

theorem may_one (x : Int × Int) : gameroomref_PieceMay_m x.1 x.2 = some (!stg x) := by
  unfold gameroomref_PieceMay_m gameroomref_within_m
  rw [Option.bind_some]
  by_cases h1 : 0 ≤ x.1 ∧ x.1 ≤ 9
  · rw [decide_eq_true h1.1, decide_eq_true h1.2, if_pos (by decide), Option.bind_some]
    congr 1
    unfold stg
    rw [decide_eq_false (show ¬ x.1 < 0 by omega), decide_eq_false (show ¬ 9 < x.1 by omega)]
    by_cases h2 : x.2 < 0
    · rw [decide_eq_true h2, decide_eq_false (show ¬ 0 ≤ x.2 by omega)]; rfl
    · rw [decide_eq_false h2, decide_eq_true (show 0 ≤ x.2 by omega)]
      by_cases h3 : 9 < x.2
      · rw [decide_eq_true h3, decide_eq_false (show ¬ x.2 ≤ 9 by omega)]; rfl
      · rw [decide_eq_false h3, decide_eq_true (show x.2 ≤ 9 by omega)]; rfl
  · have hb : (decide (0 ≤ x.1) && decide (x.1 ≤ 9)) = false := by
      rw [Bool.and_eq_false_iff, decide_eq_false_iff_not, decide_eq_false_iff_not]; omega
    have hs : stg x = true := by
      cases q : stg x with
      | true => rfl
      | false => exact absurd ((stg_iff x).1 q).1 h1
    rw [hb, if_neg (by decide), Option.bind_some, hs]; rfl

theorem may_r {l : List (Int × Int)} (hs : l.length ≤ 8796093022208) : gameroomref_PiecesMay_m l = some (!l.any stg) := by
  unfold gameroomref_PiecesMay_m
  rw [search_loop (l := l) stg (fun _ => Fl.ret false) (Fl.go ()) ?_ ?_ ?_]
  · have hn := fidx_neg stg l
    unfold fidx at hn
    cases hf : l.findIdx? stg with
    | none =>
      rw [hf] at hn
      have : l.any stg = false := by
        rw [Bool.eq_false_iff]
        intro h; have := hn.2 h; simp at this
      rw [this]; rfl
    | some i =>
      rw [hf] at hn
      have : l.any stg = true := hn.1 (by simp)
      rw [this]; rfl
  · intro i x hx hp
    have hb := idx_bd hx
    simp only [gameroomref_PiecesMay_L1, gameroomref_PiecesMay_J2]
    rw [if_pos (by simpa using hb.2), asrt_pos hb, getd_some hx, may_one, Option.bind_some, hp, if_pos (by decide)]
  · intro i x hx hp
    have hb := idx_bd hx
    simp only [gameroomref_PiecesMay_L1, gameroomref_PiecesMay_J2, gameroomref_PiecesMay_J3]
    rw [if_pos (by simpa using hb.2), asrt_pos hb, getd_some hx, may_one, Option.bind_some, hp, if_neg (by decide), w64_of (by omega)]
  · simp only [gameroomref_PiecesMay_L1]
    rw [if_neg (by simp)]

theorem sm_mod (f : Nat → Int) : ∀ n, (sm n f - sm n (fun i => f i % 2)) % 2 = 0
  | 0 => rfl
  | n + 1 => by
    have := sm_mod f n
    rw [sm_succ, sm_succ]
    omega
theorem sm_all0 {f : Nat → Int} : ∀ n, (∀ v, v < n → 0 ≤ f v) → sm n f ≤ 0 → ∀ v, v < n → f v = 0
  | 0, _, _, v, hv => by omega
  | n + 1, h, hs, v, hv => by
    rw [sm_succ] at hs
    have hn := h n (by omega)
    have hp : 0 ≤ sm n f := by
      have : ∀ m, m ≤ n → 0 ≤ sm m f := fun m => by
        induction m with
        | zero => intro _; exact Int.le_refl _
        | succ m ih => intro hm; rw [sm_succ]; have := ih (by omega); have := h m (by omega); omega
      exact this n (Nat.le_refl _)
    by_cases e : v = n
    · subst e; omega
    · exact sm_all0 n (fun v hv => h v (by omega)) (by omega) v (by omega)
theorem sm_one1 {f : Nat → Int} : ∀ n, (∀ v, v < n → 0 ≤ f v ∧ f v ≤ 1) → sm n f = 1 → ∃ t, t < n ∧ f t = 1 ∧ ∀ v, v < n → v ≠ t → f v = 0
  | 0, _, h => by
    have h : (0 : Int) = 1 := h
    omega
  | n + 1, h, hs => by
    rw [sm_succ] at hs
    have hn := h n (by omega)
    by_cases q : f n = 1
    · have := sm_all0 (f := f) n (fun v hv => (h v (by omega)).1) (by omega)
      exact ⟨n, by omega, q, fun v hv hne => this v (by omega)⟩
    · obtain ⟨t, t1, t2, t3⟩ := sm_one1 n (fun v hv => h v (by omega)) (by omega)
      refine ⟨t, by omega, t2, fun v hv hne => ?_⟩
      by_cases e : v = n
      · subst e; omega
      · exact t3 v (by omega) hne

theorem dl_sum {a : Int} (ha : Vx a) : sm 10 (fun v : Nat => dl a (v : Int)) = 1 := by
  obtain ⟨h1, h2⟩ := ha
  rw [sm_congr (g := fun v : Nat => if v = a.toNat then 1 else 0) _ (fun v hv => ?_), sm_pick (fun _ => 1), if_pos (by omega)]
  unfold dl
  by_cases q : v = a.toNat
  · rw [if_pos q, if_pos (by omega)]
  · rw [if_neg q, if_neg (by omega)]

section
variable {l : List (Int × Int)} (hn : l.length ≤ 60) (hv : VL l)
include hn hv

omit hn in
theorem shake : od l 10 % 2 = 0 := by
  have h1 := sm_mod (fun v : Nat => D l (v : Int)) 10
  have h2 : sm 10 (fun v : Nat => D l (v : Int)) = sm l.length (fun _ => 2) := by
    unfold D
    rw [sm_swap (fun v i => cc l (v : Int) i)]
    refine sm_congr _ (fun i hi => ?_)
    have e : sm 10 (fun j : Nat => cc l (j : Int) i) = sm 10 (fun j : Nat => dl (eA l i) (j : Int) + dl (eB l i) (j : Int)) := rfl
    rw [e, sm_add, dl_sum (hv i hi).1, dl_sum (hv i hi).2]; rfl
  have h3 : ∀ n, sm n (fun _ => (2 : Int)) = 2 * n := fun n => by
    induction n with
    | zero => rfl
    | succ n ih => rw [sm_succ, ih]; omega
  rw [h2, h3] at h1
  unfold od
  omega

omit hn in
theorem D_out {v : Int} (h : ¬ Vx v) : D l v = 0 := by
  unfold D
  rw [sm_congr (g := fun _ => 0) _ (fun i hi => ?_), sm_zero]
  obtain ⟨a, b⟩ := hv i hi
  rw [cc_eq, if_neg (fun e => h (by rw [← e]; exact a)), if_neg (fun e => h (by rw [← e]; exact b))]; rfl

omit hn in
/-- From the start the parity is right. -/
theorem par_start {s : Int} (ho : od l 10 ≤ 2) (h0 : od l 10 = 0 → s = eA l 0) (h1 : od l 10 ≠ 0 → ∃ a : Nat, a < 10 ∧ s = a ∧ D l (a : Int) % 2 = 1) : ∃ t, Par l (List.replicate l.length false) s t := by
  have hs := shake hv
  have fb : ∀ v : Nat, v < 10 → 0 ≤ D l (v : Int) % 2 ∧ D l (v : Int) % 2 ≤ 1 := fun v _ => by omega
  by_cases q : od l 10 = 0
  · have hz := sm_all0 (f := fun v : Nat => D l (v : Int) % 2) 10 (fun v hv' => (fb v hv').1) (by unfold od at q; omega)
    refine ⟨s, fun v => ?_⟩
    rw [dg_none]
    have hv0 : D l v % 2 = 0 := by
      by_cases w : Vx v
      · obtain ⟨w1, w2⟩ := w
        have := hz v.toNat (by omega)
        try dsimp only at this
        rwa [Int.toNat_of_nonneg w1] at this
      · rw [D_out hv w]; rfl
    omega
  · have hb : 0 ≤ od l 10 := by
      have := sm_bd (f := fun v : Nat => D l (v : Int) % 2) (a := 0) (b := 1) 10 (fun i _ => by omega)
      unfold od; omega
    have h2 : od l 10 = 2 := by omega
    obtain ⟨a, a1, rfl, a2⟩ := h1 q
    have hsum : sm 10 (fun v : Nat => D l (v : Int) % 2 - (if v = a then 1 else 0)) = 1 := by
      have e1 : sm 10 (fun v : Nat => D l (v : Int) % 2) = sm 10 (fun v : Nat => (D l (v : Int) % 2 - (if v = a then 1 else 0)) + (if v = a then 1 else 0)) := sm_congr _ (fun v _ => by omega)
      rw [sm_add, sm_pick (fun _ => 1), if_pos a1] at e1
      have e2 : sm 10 (fun v : Nat => D l (v : Int) % 2) = 2 := h2
      omega
    obtain ⟨t, t1, t2, t3⟩ := sm_one1 (f := fun v : Nat => D l (v : Int) % 2 - (if v = a then 1 else 0)) 10 (fun v hv' => by
      have := fb v hv'
      by_cases e : v = a
      · subst e; rw [if_pos rfl]; omega
      · rw [if_neg e]; omega) hsum
    try dsimp only at t2 t3
    refine ⟨(t : Int), fun v => ?_⟩
    rw [dg_none]
    by_cases w : Vx v
    · obtain ⟨w1, w2⟩ := w
      obtain ⟨z, rfl⟩ : ∃ z : Nat, v = z := ⟨v.toNat, by omega⟩
      have hta : t ≠ a := fun e => by
        subst e
        rw [if_pos rfl] at t2
        have := fb t (by omega)
        omega
      unfold dl
      by_cases e1 : z = a
      · subst e1
        rw [if_pos rfl, if_neg (by omega)]; omega
      · rw [if_neg (show ¬ ((a : Int) = z) by omega)]
        by_cases e2 : z = t
        · subst e2
          rw [if_pos rfl]
          rw [if_neg e1] at t2
          omega
        · rw [if_neg (by omega)]
          have := t3 z (by omega) e2
          rw [if_neg e1] at this
          omega
    · rw [D_out hv w]
      unfold dl
      rw [if_neg (fun e => w (by rw [← e]; exact ⟨by omega, by omega⟩)), if_neg (fun e => w (by rw [← e]; exact ⟨by omega, by omega⟩))]; rfl

omit hn hv in
theorem D_pos {v : Int} (h : D l v ≠ 0) : ∃ i : Nat, i < l.length ∧ (eA l i = v ∨ eB l i = v) := Classical.byContradiction fun z => h (by
  unfold D
  rw [sm_congr (g := fun _ => 0) _ (fun i hi => ?_), sm_zero]
  rw [cc_eq, if_neg (fun e => z ⟨i, hi, Or.inl e⟩), if_neg (fun e => z ⟨i, hi, Or.inr e⟩)]; rfl)

omit hn hv in
theorem trail_seen {S : Int → Prop} : ∀ {x : List (Int × Int)} {a t : Int}, isT a x t → (∀ e ∈ x, S e.1 ↔ S e.2) → ∀ e ∈ x, (S a ↔ S e.1)
  | [], _, _, _, _, e, he => by simp at he
  | f :: x, a, t, h, hS, e, he => by
    have h1 : f.1 = a := h.1
    rcases List.mem_cons.1 he with z | z
    · rw [z, h1]
    · rw [← h1, hS f (by simp)]
      exact trail_seen h.2 (fun e he => hS e (by simp [he])) e z

omit hn in
/-- All is used where all is reached. -/
theorem reach {u' : List Bool} {s t : Int} {J : List (Nat × Bool)} (hp : 0 < l.length) (hw : Wk l (List.replicate l.length false) u' s t J) (h0 : od l 10 = 0 → s = eA l 0) (h1 : od l 10 ≠ 0 → ∃ a : Nat, a < 10 ∧ s = a ∧ D l (a : Int) % 2 = 1)
    {seen : List Bool} (g1 : 0 < l.length → Sn seen (eA l 0)) (g2 : Cl l (Sn seen)) (g3 : ∀ S, Cl l S → (0 < l.length → S (eA l 0)) → ∀ v, 0 ≤ v → Sn seen v → S v) :
    (∀ i : Nat, i < l.length → getb u' (i : Int) = true) ↔ ∀ i : Nat, i < l.length → Sn seen (eA l i) := by
  have hrep : ∀ i : Nat, getb (List.replicate l.length false) (i : Int) = false := fun i => by
    unfold getb
    rw [List.getD_eq_getElem?_getD, List.getElem?_replicate]
    split <;> rfl
  have hori : ∀ S : Int → Prop, Cl l S → ∀ e ∈ J.map (ori l), S e.1 ↔ S e.2 := fun S hS e he => by
    obtain ⟨⟨i, b⟩, hx, rfl⟩ := List.mem_map.1 he
    have hi := ((hw.mem i).1 (List.mem_map.2 ⟨_, hx, rfl⟩)).1
    cases b
    · exact hS i hi
    · exact (hS i hi).symm
  constructor
  · intro hall i hi
    have hin : ∀ i : Nat, i < l.length → ∃ e ∈ (J.map (ori l)).reverse, (Sn seen e.1 ↔ Sn seen (eA l i)) := fun i hi => by
      obtain ⟨⟨j, b⟩, hx, e⟩ := List.mem_map.1 ((hw.mem i).2 ⟨hi, hall i hi, hrep i⟩)
      dsimp only at e
      subst e
      refine ⟨ori l (j, b), by rw [List.mem_reverse]; exact List.mem_map.2 ⟨_, hx, rfl⟩, ?_⟩
      cases b
      · exact Iff.rfl
      · exact (g2 j hi).symm
    have hc := trail_seen (S := Sn seen) hw.trail (fun e he => hori _ g2 e (List.mem_reverse.1 he))
    obtain ⟨e0, m0, q0⟩ := hin 0 hp
    obtain ⟨e1, m1, q1⟩ := hin i hi
    exact q1.1 ((hc e1 m1).1 ((hc e0 m0).2 (q0.2 (g1 hp))))
  · intro hall i hi
    cases hu : getb u' (i : Int) with
    | true => rfl
    | false =>
      exfalso
      have hs0 : 0 ≤ s ∧ Sn seen s := by
        by_cases q : od l 10 = 0
        · rw [h0 q]; exact ⟨(hv 0 hp).1.1, g1 hp⟩
        · obtain ⟨a, a1, rfl, a2⟩ := h1 q
          refine ⟨by omega, ?_⟩
          obtain ⟨j, hj, e⟩ := D_pos (l := l) (v := (a : Int)) (fun z => by rw [z] at a2; exact absurd a2 (by decide))
          rcases e with e | e
          · rw [← e]; exact hall j hj
          · rw [← e]; exact (g2 j hj).1 (hall j hj)
      have hVis : Cl l (fun v => v = s ∨ ∃ e ∈ J.map (ori l), v = e.1 ∨ v = e.2) := fun j hj => by
        cases hj2 : getb u' (j : Int) with
        | false =>
          obtain ⟨c1, c2, c3⟩ := hw.clo j hj hj2
          constructor
          · rintro (z | ⟨e, he, z | z⟩)
            · exact absurd z c1
            · exact absurd z (c3 e he).1
            · exact absurd z (c3 e he).2.1
          · rintro (z | ⟨e, he, z | z⟩)
            · exact absurd z c2
            · exact absurd z (c3 e he).2.2.1
            · exact absurd z (c3 e he).2.2.2
        | true =>
          obtain ⟨⟨j', b⟩, hx, e⟩ := List.mem_map.1 ((hw.mem j).2 ⟨hj, hj2, hrep j⟩)
          dsimp only at e
          subst e
          have hm := List.mem_map.2 ⟨(j', b), hx, (rfl : ori l (j', b) = ori l (j', b))⟩
          have ha : eA l j' = (ori l (j', b)).1 ∨ eA l j' = (ori l (j', b)).2 := by
            cases b
            · exact Or.inl rfl
            · exact Or.inr rfl
          have hb : eB l j' = (ori l (j', b)).1 ∨ eB l j' = (ori l (j', b)).2 := by
            cases b
            · exact Or.inr rfl
            · exact Or.inl rfl
          exact ⟨fun _ => Or.inr ⟨_, hm, hb⟩, fun _ => Or.inr ⟨_, hm, ha⟩⟩
      obtain ⟨c1, c2, c3⟩ := hw.clo i hi hu
      have hnot : ¬ (eA l i = s ∨ ∃ e ∈ J.map (ori l), eA l i = e.1 ∨ eA l i = e.2) := by
        rintro (z | ⟨e, he, z | z⟩)
        · exact c1 z
        · exact (c3 e he).1 z
        · exact (c3 e he).2.1 z
      by_cases q : (eA l 0 = s ∨ ∃ e ∈ J.map (ori l), eA l 0 = e.1 ∨ eA l 0 = e.2)
      · exact hnot (g3 _ hVis (fun _ => q) _ (hv i hi).1.1 (hall i hi))
      · have hC : Cl l (fun v => ¬ (v = s ∨ ∃ e ∈ J.map (ori l), v = e.1 ∨ v = e.2)) := fun j hj => not_congr (hVis j hj)
        exact g3 _ hC (fun _ => q) s hs0.1 hs0.2 (Or.inl rfl)

omit hn hv in
theorem all_len {u' : List Bool} {s t : Int} {J : List (Nat × Bool)} (hw : Wk l (List.replicate l.length false) u' s t J) : (∀ i : Nat, i < l.length → getb u' (i : Int) = true) ↔ l.length ≤ J.length := by
  have hc := hw.cnt
  rw [List.count_replicate_self] at hc
  constructor
  · intro h
    have : u'.count false = 0 := by
      rw [List.count_eq_zero]
      intro hm
      obtain ⟨i, hi⟩ := List.mem_iff_getElem?.1 hm
      have hlt := (List.getElem?_eq_some_iff.1 hi).1
      have := h i (by rw [← hw.len]; exact hlt)
      rw [getb_some hi] at this
      cases this
    omega
  · intro h i hi
    cases q : getb u' (i : Int) with
    | true => rfl
    | false =>
      exfalso
      have : 0 < u'.count false := by
        rw [List.count_pos_iff, List.mem_iff_getElem?]
        refine ⟨i, ?_⟩
        have hlt : i < u'.length := by rw [hw.len]; exact hi
        rw [getb, Int.toNat_natCast, List.getD_eq_getElem?_getD, List.getElem?_eq_getElem hlt] at q
        rw [List.getElem?_eq_getElem hlt]
        exact congrArg some q
      omega

omit hv in
/-- The row found is right. -/
theorem row_law {u' : List Bool} {s t : Int} {J : List (Nat × Bool)} (hw : Wk l (List.replicate l.length false) u' s t J) (hlen : l.length ≤ J.length) : gameroomlaw_DominoRows_J3 l ((J.map (ori l)).reverse, 0) = some true := by
  have hc := hw.cnt
  rw [List.count_replicate_self] at hc
  have hall := (all_len hw).2 hlen
  have hJ : J.length = l.length := by omega
  have hl : (J.map (ori l)).reverse.length = l.length := by rw [List.length_reverse, List.length_map, hJ]
  have hrep : ∀ i : Nat, getb (List.replicate l.length false) (i : Int) = false := fun i => by
    unfold getb
    rw [List.getD_eq_getElem?_getD, List.getElem?_replicate]
    split <;> rfl
  have hperm : (J.map (fun x => x.1)).Perm (List.range l.length) := perm_nat hw.nod (fun i hi => by rw [List.mem_range]; exact ((hw.mem i).1 hi).1) (by rw [List.length_range, List.length_map]; omega)
  have hnm : ((J.map (ori l)).reverse.map nm).Perm (l.map nm) := by
    have e1 : l.map nm = (List.range l.length).map (fun i => nm (gp l i)) := by
      have : l = mp l.length (gp l) := ext_gp (mp_length _ _).symm (fun i hi => (mp_get hi).symm)
      have h2 : l.map nm = (mp l.length (gp l)).map nm := congrArg (List.map nm) this
      rw [h2]
      unfold mp
      rw [List.map_map]; rfl
    have e2 : (J.map (ori l)).map nm = (J.map (fun x => x.1)).map (fun i => nm (gp l i)) := by
      rw [List.map_map, List.map_map]
      refine List.map_congr_left (fun x hx => ?_)
      obtain ⟨i, b⟩ := x
      show nm (ori l (i, b)) = nm (gp l i)
      rw [nm_iff]
      cases b
      · exact Or.inl ⟨rfl, rfl⟩
      · exact Or.inr ⟨rfl, rfl⟩
    rw [List.map_reverse, e1]
    refine (List.reverse_perm _).trans ?_
    rw [e2]
    exact hperm.map _
  have hsame := same_r (a := (J.map (ori l)).reverse) (b := l) hn hl (fun w => by rw [sm_count, hnm.count_eq])
  unfold gameroomlaw_DominoRows_J3
  rw [if_pos (show ((0 : Int) == 0) = true by decide), rowis_r (by rw [hl]; omega) hw.trail, Option.bind_some, if_pos (show (((0 : Int) == 0) && true) = true by decide), hsame, Option.bind_some]; rfl

theorem law_p : ∃ r2, (if ((l.length : Int) == 0) then (some (([] : List (Int × Int)), (0 : Int))) else (domino_Row_J1 l)) = some r2 ∧ gameroomlaw_DominoRows_J2 l r2 = some true := by
  obtain ⟨seen, b, g1, g2, g3, g4, g5⟩ := can_r hn hv
  unfold gameroomlaw_DominoRows_J2
  rw [g4]
  by_cases h0 : l.length = 0
  · have hl : l = [] := List.length_eq_zero_iff.1 h0
    refine ⟨([], 0), if_pos (by rw [h0]; rfl), ?_⟩
    have hb : b = true := g5.2 ⟨by subst hl; decide, fun i hi => by omega⟩
    rw [Option.bind_some, hb, if_neg (by decide)]
    have hr : gameroomref_RowIs_m ([] : List (Int × Int)) = some true := rowis_r (by simp) (a := 0) (t := 0) rfl
    have hs : gameroomref_SamePieces_m ([] : List (Int × Int)) l = some true := by
      rw [hl]; exact same_r (by simp) rfl (fun w => rfl)
    unfold gameroomlaw_DominoRows_J3
    rw [if_pos (show ((0 : Int) == 0) = true by decide), hr, Option.bind_some, if_pos (by decide), hs, Option.bind_some]; rfl
  · have hp : 0 < l.length := by omega
    rw [if_neg (by rw [beq_iff_eq]; omega)]
    obtain ⟨e, e1, e2, e3⟩ := ends_p hn hv
    obtain ⟨s, s1, s2, s3⟩ := start_p hn e2 e3
    unfold domino_Row_J1
    rw [e1, Option.bind_some]
    simp only [domino_Row_K1, domino_Row_J2]
    have s1' : loop (domino_Row_L2 e) ((getd ((0, 0) : Int × Int) l 0).1, 0, 0) = some (s, od l 10) := s1
    rw [asrt_pos (by omega), s1', Option.bind_some]
    simp only [domino_Row_K2, domino_Row_J5]
    rw [asrt_pos (by unfold bigN; omega)]
    by_cases ho : 2 < od l 10
    · refine ⟨([], 10), if_pos (decide_eq_true ho), ?_⟩
      have hb : b = false := by
        cases b with
        | false => rfl
        | true => have := (g5.1 rfl).1; omega
      rw [Option.bind_some, hb, if_pos (by decide)]; rfl
    · rw [if_neg (by rw [decide_eq_true_eq]; exact ho)]
      obtain ⟨t, hpar⟩ := par_start hv (by omega) s2 s3
      have hc0 : (List.replicate l.length false).count false = l.length := List.count_replicate_self
      obtain ⟨u', J, w1, hw⟩ := walk_f hn (l.length + 1) (List.replicate l.length false) [] s t List.length_replicate (by omega) (by simp; omega) hpar
      rw [List.nil_append] at w1
      have w2 := domino_walker_walk_m_of _ _ _ _ _ w1
      have hr := reach hv hp hw s2 s3 g1 g2 g3
      have hal := all_len hw
      have hcnt := hw.cnt
      rw [hc0] at hcnt
      unfold domino_Row_J8
      rw [Int.toNat_natCast, w2, Option.bind_some]
      dsimp only
      rw [List.length_map]
      by_cases hlen : l.length ≤ J.length
      · refine ⟨((J.map (ori l)).reverse, 0), ?_, ?_⟩
        · rw [if_neg (by rw [decide_eq_true_eq]; omega)]
          unfold domino_Row_J9
          rw [reverse_p (by rw [List.length_map]; omega), Option.bind_some]
        · have hb : b = true := g5.2 ⟨by omega, hr.1 (hal.2 hlen)⟩
          rw [Option.bind_some, hb, if_neg (by decide)]
          exact row_law hn hw hlen
      · refine ⟨([], 10), if_pos (decide_eq_true (by omega)), ?_⟩
        have hb : b = false := by
          cases b with
          | false => rfl
          | true => exact absurd (hal.1 (hr.2 (g5.1 rfl).2)) hlen
        rw [Option.bind_some, hb, if_pos (by decide)]; rfl
end

theorem true_DominoRows (l : List (Int × Int)) (hl : l.length ≤ 8796093022208) : gameroomlaw_DominoRows_m l = some true := by
  unfold gameroomlaw_DominoRows_m gameroomlaw_pieces_m
  rw [asrt_pos (by unfold bigP; omega), Option.bind_some, List.nil_append]
  unfold domino_Row_m
  by_cases hn : 60 < l.length
  · rw [if_pos (decide_eq_true (by omega)), Option.bind_some, if_pos (decide_eq_true (by omega))]; rfl
  · rw [if_neg (by rw [decide_eq_true_eq]; omega), contains_p hl, Option.bind_some]
    by_cases ha : l.any stg = true
    · rw [if_pos ha, Option.bind_some, if_neg (by rw [decide_eq_true_eq]; omega)]
      unfold gameroomlaw_DominoRows_J1
      rw [may_r hl, Option.bind_some, ha, if_pos (by decide)]; rfl
    · have hv : VL l := fun i hi => (stg_iff _).1 (by
        cases q : stg (gp l i) with
        | false => rfl
        | true => exact absurd (List.any_eq_true.2 ⟨gp l i, List.mem_of_getElem? (gp_get hi), q⟩) ha)
      obtain ⟨r2, q1, q2⟩ := law_p (by omega) hv
      rw [if_neg ha, q1, Option.bind_some, if_neg (by rw [decide_eq_true_eq]; omega)]
      unfold gameroomlaw_DominoRows_J1
      rw [may_r hl, Option.bind_some, Bool.eq_false_iff.2 ha, if_neg (by decide), q2]
end Go.Proofs.Ytbmhcapeikebgaa
