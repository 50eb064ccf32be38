/-
  DominoSets: the document's count of rows.
-/
import Derived.Test.YtnplejebgbdfpaaDSa
namespace Go.Proofs.Ytnplejebgbdfpaa
open Go Go.GL

abbrev gq (l : List (Int × Int)) (i : Nat) : Int × Int := getd ((0, 0) : Int × Int) l (i : Int)
theorem gq_get {l : List (Int × Int)} {i : Nat} (h : i < l.length) : l[i]? = some (gq l i) := by
  unfold gq getd
  rw [Int.toNat_natCast, List.getD_eq_getElem?_getD, List.getElem?_eq_getElem h]; rfl
def kn (p : Int × Int) : Int × Int := kx p.1 p.2
def sw (p : Int × Int) : Int × Int := (p.2, p.1)
/-- How many of a kind. -/
def cm (l : List (Int × Int)) (q : Int × Int) : Int := (((l.map kn).count q : Nat) : Int)
def rest (l : List (Int × Int)) (i : Nat) : List (Int × Int) := l.take i ++ l.drop (i + 1)

theorem rest_cm {l : List (Int × Int)} {i : Nat} (h : i < l.length) : cm (rest l i) = dec (cm l) (kn (gq l i)) := by
  have e : l = l.take i ++ gq l i :: l.drop (i + 1) := by
    have g := gq_get h
    rw [List.getElem?_eq_getElem h] at g
    rw [← Option.some.inj g, ← List.drop_eq_getElem_cons h, List.take_append_drop]
  funext q
  have hc : ∀ q, cm l q = cm (rest l i) q + (if q = kn (gq l i) then 1 else 0) := fun q => by
    unfold cm rest
    have e2 : (l.map kn).count q = ((l.take i).map kn).count q + ((kn (gq l i) :: (l.drop (i + 1)).map kn).count q) := by
      have := congrArg (fun x => (List.map kn x).count q) e
      try dsimp only at this
      rw [List.map_append, List.map_cons, List.count_append] at this
      exact this
    rw [e2, List.map_append, List.count_append, List.count_cons]
    by_cases w : q = kn (gq l i)
    · rw [if_pos w, if_pos (by rw [beq_iff_eq]; exact w.symm)]; omega
    · rw [if_neg w, if_neg (by rw [beq_iff_eq]; exact fun z => w z.symm)]; omega
  unfold dec
  have h1 := hc q
  by_cases w : q = kn (gq l i)
  · rw [if_pos w] at h1 ⊢
    have h2 := hc (kn (gq l i))
    rw [if_pos rfl] at h2
    rw [w]; omega
  · rw [if_neg w] at h1 ⊢
    omega

theorem rest_length {l : List (Int × Int)} {i : Nat} (h : i < l.length) : (rest l i).length = l.length - 1 := by
  unfold rest
  rw [List.length_append, List.length_take, List.length_drop]; omega

def lsum (T : List (Int × Int)) (G : Int × Int → Int) : Int := T.foldr (fun p s => G p + s) 0
theorem lsum_snoc (G : Int × Int → Int) (p : Int × Int) : ∀ T, lsum (T ++ [p]) G = lsum T G + G p
  | [] => by show G p + 0 = 0 + G p; omega
  | q :: T => by
    have := lsum_snoc G p T
    show G q + lsum (T ++ [p]) G = G q + lsum T G + G p
    omega
theorem lsum_bd {G : Int × Int → Int} {B : Int} (h : ∀ p, 0 ≤ G p ∧ G p ≤ B) : ∀ T, 0 ≤ lsum T G ∧ lsum T G ≤ B * T.length
  | [] => ⟨Int.le_refl _, by show (0 : Int) ≤ B * ((0 : Nat) : Int); rw [Int.natCast_zero, Int.mul_zero]; exact Int.le_refl _⟩
  | q :: T => by
    have h1 := lsum_bd h T
    have h2 := h q
    have e : B * (((q :: T).length : Nat) : Int) = B * (T.length : Int) + B := by
      rw [List.length_cons, Int.natCast_add, Int.mul_add]; simp
    show 0 ≤ G q + lsum T G ∧ G q + lsum T G ≤ _
    rw [e]; omega

def Rg (x : Int) : Prop := 0 ≤ x ∧ x ≤ 9

/-- A sum along a row without repeats is a sum over all pairs. -/
theorem lsum_all (G : Int × Int → Int) : ∀ T : List (Int × Int), T.Nodup → (∀ p ∈ T, Rg p.1 ∧ Rg p.2) → lsum T G = sm 10 (fun b => sm 10 (fun a => if ((a : Int), (b : Int)) ∈ T then G ((a : Int), (b : Int)) else 0))
  | [], _, _ => by
    show (0 : Int) = _
    rw [sm_congr (g := fun _ => 0) _ (fun b _ => ?_), sm_zero]
    rw [sm_congr (g := fun _ => 0) _ (fun a _ => if_neg (by simp)), sm_zero]
  | p :: T, hn, hr => by
    rw [List.nodup_cons] at hn
    have ih := lsum_all G T hn.2 (fun q hq => hr q (by simp [hq]))
    obtain ⟨⟨p1, p2⟩, ⟨p3, p4⟩⟩ := hr p (by simp)
    have e : ∀ b : Nat, b < 10 → sm 10 (fun a => if ((a : Int), (b : Int)) ∈ p :: T then G ((a : Int), (b : Int)) else 0) = (if b = p.2.toNat then G p else 0) + sm 10 (fun a => if ((a : Int), (b : Int)) ∈ T then G ((a : Int), (b : Int)) else 0) := fun b hb => by
      have e1 : ∀ a : Nat, a < 10 → (if ((a : Int), (b : Int)) ∈ p :: T then G ((a : Int), (b : Int)) else 0) = (if a = p.1.toNat then (if b = p.2.toNat then G p else 0) else 0) + (if ((a : Int), (b : Int)) ∈ T then G ((a : Int), (b : Int)) else 0) := fun a ha => by
        by_cases w : ((a : Int), (b : Int)) = p
        · have wa : (a : Int) = p.1 := congrArg Prod.fst w
          have wb : (b : Int) = p.2 := congrArg Prod.snd w
          rw [if_pos (by rw [w]; simp), if_pos (by omega), if_pos (by omega), if_neg (by rw [w]; exact hn.1), w]; omega
        · have hz : (if a = p.1.toNat then (if b = p.2.toNat then G p else 0) else 0) = 0 := by
            by_cases x : a = p.1.toNat
            · rw [if_pos x, if_neg (fun y => w (Prod.ext (by show (a : Int) = p.1; omega) (by show (b : Int) = p.2; omega)))]
            · rw [if_neg x]
          rw [hz, Int.zero_add]
          by_cases x : ((a : Int), (b : Int)) ∈ T
          · rw [if_pos (by simp [x]), if_pos x]
          · rw [if_neg (by rw [List.mem_cons]; exact fun y => y.elim w x), if_neg x]
      rw [sm_congr _ e1, sm_add, sm_pick (fun _ => if b = p.2.toNat then G p else 0), if_pos (by omega)]
    rw [sm_congr _ e, sm_add, sm_pick (fun _ => G p), if_pos (by omega), ← ih]; rfl

theorem known_p (T : List (Int × Int)) (p : Int × Int) (hT : T.length ≤ 1000) : loop (gameroomref_RowsOf_L3 T p.1 p.2) (false, 0) = some (decide (p ∈ T)) := by
  refine loop_from (r := decide (p ∈ T)) (fun i => (decide (p ∈ T.take i), (i : Int))) T.length (by simp) (fun i hi => ?_) ?_
  · simp only [gameroomref_RowsOf_L3, gameroomref_RowsOf_J9, gameroomref_RowsOf_J10]
    rw [if_pos (decide_eq_true (by omega)), asrt_pos (by intro _; omega), w64_of (by omega), List.take_add_one, gq_get hi, Option.toList_some]
    congr 3
    rw [← Bool.coe_iff_coe, Bool.or_eq_true, Bool.and_eq_true, beq_iff_eq, beq_iff_eq, decide_eq_true_eq, decide_eq_true_eq, List.mem_append, List.mem_singleton]
    constructor
    · rintro (h | h)
      · exact Or.inl h
      · exact Or.inr (Prod.ext h.1.symm h.2.symm)
    · rintro (h | h)
      · exact Or.inl h
      · exact Or.inr ⟨by rw [h], by rw [h]⟩
  · simp only [gameroomref_RowsOf_L3]
    rw [if_neg (by simp), List.take_length]

def okE (e a : Int) : Prop := e < 0 ∨ a = e

/-- The document's count. -/
theorem rows_r : ∀ (f : Nat) (l : List (Int × Int)) (e : Int), l.length < f → l.length ≤ 7 → (∀ p ∈ l, Rg p.1 ∧ Rg p.2) → gameroomref_RowsOf_mF f l e = some (Rr l.length (cm l) e)
  | 0, _, _, h, _, _ => by omega
  | f + 1, l, e, hf, h7, hr => by
    have ih := rows_r f
    show gameroomref_RowsOf_B (gameroomref_RowsOf_mF f) l e = _
    unfold gameroomref_RowsOf_B
    by_cases h0 : l.length = 0
    · rw [if_pos (by rw [h0]; rfl), h0]; rfl
    · obtain ⟨k, hk⟩ : ∃ k, l.length = k + 1 := ⟨l.length - 1, by omega⟩
      rw [if_neg (by rw [beq_iff_eq]; omega)]
      have pb := pow_bd (show k ≤ 6 by omega)
      obtain ⟨G, hG⟩ : ∃ G : Int × Int → Int, G = fun p => Rr k (dec (cm l) (kn p)) p.2 := ⟨_, rfl⟩
      have Gb : ∀ p, 0 ≤ G p ∧ G p ≤ 1000000000000 := fun p => by
        have := Rr_bd k (dec (cm l) (kn p)) p.2
        rw [hG]; dsimp only; omega
      have hgr : ∀ i, i < l.length → Rg (gq l i).1 ∧ Rg (gq l i).2 := fun i hi => hr _ (List.mem_of_getElem? (gq_get hi))
      -- one way of one piece
      have one : ∀ (i : Nat) (p : Int × Int) (T : List (Int × Int)) (w : Nat), i < l.length → w < 2 → kn p = kn (gq l i) → T.length ≤ 14 →
          ∃ T', gameroomref_RowsOf_J7 (gameroomref_RowsOf_mF f) l e i (lsum T G) T (w : Int) p.1 p.2 = some (.next (lsum T' G, T', ((w + 1 : Nat) : Int))) ∧ T'.length ≤ T.length + 1 ∧ (T.Nodup → T'.Nodup) ∧ ((∀ q ∈ T, okE e q.1) → (∀ q ∈ T', okE e q.1) ∧ ∀ q, q ∈ T' ↔ q ∈ T ∨ (q = p ∧ okE e q.1)) := fun i p T w hi hw hp hT => by
        have lb := lsum_bd Gb T
        unfold gameroomref_RowsOf_J7
        rw [known_p T p (by omega), Option.bind_some]
        simp only [gameroomref_RowsOf_K3, gameroomref_RowsOf_J8]
        by_cases q1 : p ∈ T ∨ (0 ≤ e ∧ p.1 ≠ e)
        · refine ⟨T, ?_, by omega, id, fun hok => ⟨hok, fun q => ⟨Or.inl, fun h => h.elim id (fun h => ?_)⟩⟩⟩
          · rw [if_pos (by rw [Bool.or_eq_true, Bool.and_eq_true, decide_eq_true_eq, decide_eq_true_eq, bne_iff_ne]; exact q1)]
            unfold gameroomref_RowsOf_J6
            rw [w64_of (by omega)]; rfl
          · rcases q1 with q1 | q1
            · rw [h.1]; exact q1
            · have h2 := h.2
              rw [h.1] at h2
              unfold okE at h2
              omega
        · have hnT : p ∉ T := fun h => q1 (Or.inl h)
          have hok1 : okE e p.1 := by
            unfold okE
            by_cases w1 : 0 ≤ e
            · by_cases w2 : p.1 = e
              · exact Or.inr w2
              · exact absurd (Or.inr ⟨w1, w2⟩) q1
            · left; omega
          refine ⟨T ++ [p], ?_, by rw [List.length_append]; exact Nat.le_refl _, fun hn => ?_, fun hok => ⟨fun q hq => ?_, fun q => ?_⟩⟩
          · rw [if_neg (by rw [Bool.or_eq_true, Bool.and_eq_true, decide_eq_true_eq, decide_eq_true_eq, bne_iff_ne]; exact q1)]
            unfold gameroomref_RowsOf_J11
            have hrest : (([] : List (Int × Int)) ++ (cut l (0 : Int) (i : Int))) ++ (cut l (w64 ((i : Int) + 1)) (l.length : Int)) = rest l i := by
              rw [w64_of (by omega)]
              have c1 : cut l (0 : Int) (i : Int) = l.take i := by
                unfold cut
                rw [show (0 : Int).toNat = 0 from rfl, List.drop_zero, show ((i : Int) - 0).toNat = i by omega]
              have c2 : cut l ((i : Int) + 1) (l.length : Int) = l.drop (i + 1) := by
                unfold cut
                rw [show ((i : Int) + 1).toNat = i + 1 by omega, List.take_of_length_le (by rw [List.length_drop]; omega)]
              rw [c1, c2, List.nil_append]; rfl
            have hrl := rest_length hi
            have hri := ih (rest l i) p.2 (by omega) (by omega) (fun q hq => hr q (by
              unfold rest at hq
              rcases List.mem_append.1 hq with z | z
              · exact List.mem_of_mem_take z
              · exact List.mem_of_mem_drop z))
            rw [hrl, show l.length - 1 = k by omega, rest_cm hi, ← hp] at hri
            have hGp : G p = Rr k (dec (cm l) (kn p)) p.2 := by rw [hG]
            have gb := Gb p
            rw [asrt_pos (by unfold bigP; omega), hrest, hri, Option.bind_some, ← hGp]
            unfold gameroomref_RowsOf_J6
            rw [lsum_snoc, w64_of (by omega), w64_of (by omega)]; rfl
          · rw [List.nodup_append]
            exact ⟨hn, by simp, fun x hx y hy z => by simp at hy; rw [z, hy] at hx; exact hnT hx⟩
          · rcases List.mem_append.1 hq with z | z
            · exact hok q z
            · rw [List.mem_singleton] at z; rw [z]; exact hok1
          · rw [List.mem_append, List.mem_singleton]
            exact ⟨fun h => h.imp id (fun z => ⟨z, by rw [z]; exact hok1⟩), fun h => h.imp id (fun z => z.1)⟩
      obtain ⟨r, er, hrr⟩ := count_loop (step := gameroomref_RowsOf_L1 (gameroomref_RowsOf_mF f) l e) (fun (T : List (Int × Int)) (i : Nat) => (lsum T G, T, (i : Int)))
        (fun i T => T.length ≤ 2 * i ∧ T.Nodup ∧ (∀ q ∈ T, okE e q.1) ∧ ∀ q, q ∈ T ↔ (∃ j, j < i ∧ (q = gq l j ∨ q = sw (gq l j))) ∧ okE e q.1)
        (fun r => r = Rr (k + 1) (cm l) e) l.length [] ⟨by simp, by simp, fun q hq => by simp at hq, fun q => ⟨fun h => by simp at h, fun ⟨⟨j, hj, _⟩, _⟩ => by omega⟩⟩ (by
        intro i T hi ⟨t1, t2, t3, t4⟩
        left
        obtain ⟨T1, a1, a2, a3, a4⟩ := one i (gq l i) T 0 hi (by omega) rfl (by omega)
        obtain ⟨T2, b1, b2, b3, b4⟩ := one i (sw (gq l i)) T1 1 hi (by omega) (kx_comm _ _) (by omega)
        obtain ⟨a5, a6⟩ := a4 t3
        obtain ⟨b5, b6⟩ := b4 a5
        refine ⟨T2, ?_, by omega, b3 (a3 t2), b5, fun q => ?_⟩
        · have hc1 : (cut l (0 : Int) (i : Int)).length = i := by rw [cut_length (by omega) (by omega) (by omega)]; omega
          have hc2 : (cut l (w64 ((i : Int) + 1)) (l.length : Int)).length = l.length - (i + 1) := by rw [w64_of (by omega), cut_length (by omega) (by omega) (by omega)]; omega
          simp only [gameroomref_RowsOf_L1, gameroomref_RowsOf_J3]
          rw [if_pos (decide_eq_true (by omega)), asrt_pos (by omega), asrt_pos (by rw [hc1]; unfold bigP; omega), asrt_pos (by rw [w64_of (by omega)]; omega), asrt_pos (by rw [List.length_append, hc1, hc2]; unfold bigP; simp; omega)]
          have lp : loop (gameroomref_RowsOf_L2 (gameroomref_RowsOf_mF f) l e i) (lsum T G, T, 0) = some (lsum T2 G, T2) := by
            refine loop_next' (s' := (lsum T1 G, T1, ((1 : Nat) : Int))) ?_ (loop_next' (s' := (lsum T2 G, T2, ((2 : Nat) : Int))) ?_ (loop_done ?_))
            · simp only [gameroomref_RowsOf_L2, gameroomref_RowsOf_J5]
              rw [if_pos (by decide), asrt_pos (by omega), if_neg (by decide)]
              exact a1
            · simp only [gameroomref_RowsOf_L2, gameroomref_RowsOf_J5]
              rw [if_pos (by decide), asrt_pos (by omega), if_pos (by decide)]
              exact b1
            · simp only [gameroomref_RowsOf_L2]
              rw [if_neg (by decide)]
          rw [lp, Option.bind_some]
          simp only [gameroomref_RowsOf_K2, gameroomref_RowsOf_J4]
          rw [w64_of (by omega)]; rfl
        · rw [b6, a6, t4]
          constructor
          · rintro ((⟨⟨j, hj, h⟩, ho⟩ | ⟨h, ho⟩) | ⟨h, ho⟩)
            · exact ⟨⟨j, by omega, h⟩, ho⟩
            · exact ⟨⟨i, by omega, Or.inl h⟩, ho⟩
            · exact ⟨⟨i, by omega, Or.inr h⟩, ho⟩
          · rintro ⟨⟨j, hj, h⟩, ho⟩
            by_cases w : j = i
            · subst w
              rcases h with h | h
              · exact Or.inl (Or.inr ⟨h, ho⟩)
              · exact Or.inr ⟨h, ho⟩
            · exact Or.inl (Or.inl ⟨⟨j, by omega, h⟩, ho⟩)) (by
        intro T ⟨t1, t2, t3, t4⟩
        refine ⟨lsum T G, ?_, ?_⟩
        · simp only [gameroomref_RowsOf_L1]
          rw [if_neg (by simp)]
        · rw [lsum_all G T t2 (fun p hp => by
            obtain ⟨⟨j, hj, h⟩, _⟩ := (t4 p).1 hp
            rcases h with h | h
            · rw [h]; exact hgr j hj
            · rw [h]; exact ⟨(hgr j hj).2, (hgr j hj).1⟩)]
          refine sm_congr _ (fun b hb => sm_congr _ (fun a ha => ?_))
          have key : ((a : Int), (b : Int)) ∈ T ↔ (e < 0 ∨ (a : Int) = e) ∧ cm l (kx a b) ≠ 0 := by
            rw [t4]
            constructor
            · rintro ⟨⟨j, hj, h⟩, ho⟩
              refine ⟨ho, ?_⟩
              have hm : kx a b ∈ l.map kn := by
                refine List.mem_map.2 ⟨gq l j, List.mem_of_getElem? (gq_get hj), ?_⟩
                rcases h with h | h
                · rw [← h]; rfl
                · have h2 : gq l j = ((b : Int), (a : Int)) := by
                    have := congrArg sw h
                    exact this.symm
                  rw [h2]; exact kx_comm _ _
              have := List.count_pos_iff.2 hm
              unfold cm; omega
            · rintro ⟨ho, hne⟩
              refine ⟨?_, ho⟩
              have hm : kx a b ∈ l.map kn := List.count_pos_iff.1 (by unfold cm at hne; omega)
              obtain ⟨p, hp, hpk⟩ := List.mem_map.1 hm
              obtain ⟨j, hj⟩ := List.mem_iff_getElem?.1 hp
              have hjl := (List.getElem?_eq_some_iff.1 hj).1
              have hpj : p = gq l j := by rw [gq_get hjl] at hj; exact (Option.some.inj hj).symm
              refine ⟨j, hjl, ?_⟩
              rw [← hpj]
              rcases kx_eq.1 hpk with ⟨x1, x2⟩ | ⟨x1, x2⟩
              · exact Or.inl (Prod.ext x1.symm x2.symm)
              · exact Or.inr (Prod.ext x2.symm x1.symm)
          by_cases w : ((a : Int), (b : Int)) ∈ T
          · rw [if_pos w, if_pos (key.1 w), hG]; rfl
          · rw [if_neg w, if_neg (fun z => w (key.2 z))])
      have er' : loop (gameroomref_RowsOf_L1 (gameroomref_RowsOf_mF f) l e) (0, ([] : List (Int × Int)), 0) = some r := er
      unfold gameroomref_RowsOf_J1
      rw [er', Option.bind_some, hrr, hk]; rfl
end Go.Proofs.Ytnplejebgbdfpaa
