/-
  CribKeeps: the document's order, both orders' answers, and the law.
-/
import Derived.Test.YtlkdblflibgfpaaCKd
namespace Go.Proofs.Ytlkdblflibgfpaa
open Go Go.GL

/-- The order of rows of numbers. -/
def lx : List Int → List Int → Bool
  | [], b => decide (0 < b.length)
  | _ :: _, [] => false
  | x :: a, y :: b => if x ≠ y then decide (x < y) else lx a b

theorem less_r {a b : List Int} (ha : a.length ≤ 1000) : gameroomref_lessInts_m a b = some (lx a b) := by
  have key : ∀ m i, i + m = a.length → i ≤ b.length → ∃ r, loop (gameroomref_lessInts_L1 a b) (i : Int) = some r ∧ gameroomref_lessInts_K1 a b r = some (lx (a.drop i) (b.drop i)) := by
    intro m
    induction m with
    | zero =>
      intro i hi hb
      refine ⟨.go (), loop_done ?_, ?_⟩
      · simp only [gameroomref_lessInts_L1]
        rw [if_neg (by rw [Bool.and_eq_true, decide_eq_true_eq]; omega)]
      · simp only [gameroomref_lessInts_K1, gameroomref_lessInts_J1]
        rw [List.drop_eq_nil_of_le (by omega)]
        unfold lx
        rw [List.length_drop]
        congr 1
        rw [decide_eq_decide]; omega
    | succ m ih =>
      intro i hi hb
      have hia : i < a.length := by omega
      rw [List.drop_eq_getElem_cons hia]
      have ga := get_geti hia
      rw [List.getElem?_eq_getElem hia] at ga
      by_cases q : i < b.length
      · rw [List.drop_eq_getElem_cons q]
        have gb := get_geti q
        rw [List.getElem?_eq_getElem q] at gb
        rw [Option.some.inj ga, Option.some.inj gb]
        unfold lx
        by_cases e : geti a (i : Int) = geti b (i : Int)
        · obtain ⟨r, r1, r2⟩ := ih (i + 1) (by omega) (by omega)
          refine ⟨r, loop_next' (s' := ((i + 1 : Nat) : Int)) ?_ r1, ?_⟩
          · simp only [gameroomref_lessInts_L1, gameroomref_lessInts_J2, gameroomref_lessInts_J3]
            rw [if_pos (by rw [Bool.and_eq_true, decide_eq_true_eq, decide_eq_true_eq]; omega), asrt_pos (by omega), asrt_pos (by omega), if_neg (by simp [e]), w64_of (by omega)]; rfl
          · rw [if_neg (fun h => h e)]; exact r2
        · refine ⟨.ret (decide (geti a (i : Int) < geti b (i : Int))), loop_done ?_, ?_⟩
          · simp only [gameroomref_lessInts_L1, gameroomref_lessInts_J2]
            rw [if_pos (by rw [Bool.and_eq_true, decide_eq_true_eq, decide_eq_true_eq]; omega), asrt_pos (by omega), asrt_pos (by omega), if_pos (by rw [bne_iff_ne]; exact e), asrt_pos (by omega), asrt_pos (by omega)]
          · rw [if_pos e]; rfl
      · refine ⟨.go (), loop_done ?_, ?_⟩
        · simp only [gameroomref_lessInts_L1]
          rw [if_neg (by rw [Bool.and_eq_true, decide_eq_true_eq, decide_eq_true_eq]; omega)]
        · simp only [gameroomref_lessInts_K1, gameroomref_lessInts_J1]
          rw [show b.drop i = [] from List.drop_eq_nil_of_le (by omega)]
          unfold lx
          rw [decide_eq_false (by omega)]
  obtain ⟨r, r1, r2⟩ := key a.length 0 (by omega) (by omega)
  unfold gameroomref_lessInts_m
  have r1' : loop (gameroomref_lessInts_L1 a b) 0 = some r := r1
  rw [r1', Option.bind_some, r2, List.drop_zero, List.drop_zero]

/-- What stays when two places go. -/
def kp (x y : Nat) : List Int := ((List.range 6).filter (fun j => decide (j ≠ x ∧ j ≠ y))).map (fun (j : Nat) => (j : Int))

def good : List Int → Bool
  | [a, b, c, d] => decide (0 ≤ a ∧ a < b ∧ b < c ∧ c < d ∧ d < 6)
  | _ => false
theorem good_Ks {k : List Int} (h : good k = true) : Ks k := by
  match k, h with
  | [a, b, c, d], h =>
    have h := of_decide_eq_true (show decide (0 ≤ a ∧ a < b ∧ b < c ∧ c < d ∧ d < 6) = true from h)
    refine ⟨a.toNat, b.toNat, c.toNat, d.toNat, by omega, by omega, by omega, by omega, ?_⟩
    rw [Int.toNat_of_nonneg (by omega), Int.toNat_of_nonneg (by omega), Int.toNat_of_nonneg (by omega), Int.toNat_of_nonneg (by omega)]

theorem kp_good : ∀ x y : Fin 6, y < x → good (kp x.val y.val) = true := by decide +kernel
/-- The document's hands, in its order. -/
def gd (x : Nat) : List (List Int) := (List.range' 0 x).flatMap (fun y => [kp x y])
def docs : List (List Int) := (List.range' 0 6).flatMap gd
theorem docs_sub : ∀ k ∈ docs, k ∈ subs := by decide +kernel
theorem subs_doc : ∀ k ∈ subs, k ∈ docs := by decide +kernel
theorem subs_good : ∀ k ∈ subs, good k = true := by decide +kernel
theorem subs_lt : subs.Pairwise (fun a b => lx a b = true) := by decide +kernel
theorem lx_asym : ∀ a ∈ subs, ∀ b ∈ subs, lx a b = true → lx b a = false := by decide +kernel
theorem lx_tot : ∀ a ∈ subs, ∀ b ∈ subs, lx a b = false → lx b a = false → a = b := by decide +kernel
theorem lx_trans : ∀ a ∈ subs, ∀ b ∈ subs, ∀ c ∈ subs, lx a b = true → lx b c = true → lx a c = true := by decide +kernel

theorem kept_r {x y : Nat} : loop (gameroomref_KeepOf_L3 (x : Int) (y : Int)) (([] : List Int), 0) = some (kp x y) := by
  refine loop_from (r := kp x y) (fun i => (((List.range i).filter (fun j => decide (j ≠ x ∧ j ≠ y))).map (fun (j : Nat) => (j : Int)), (i : Int))) 6 rfl ?_ ?_
  · intro i hi
    have hlen : (((List.range i).filter (fun j => decide (j ≠ x ∧ j ≠ y))).map (fun (j : Nat) => (j : Int))).length ≤ i := by
      rw [List.length_map]
      exact Nat.le_trans (List.length_filter_le _ _) (by rw [List.length_range]; omega)
    simp only [gameroomref_KeepOf_L3, gameroomref_KeepOf_J7, gameroomref_KeepOf_J8]
    rw [if_pos (decide_eq_true (by omega)), List.range_succ, List.filter_append, List.map_append]
    by_cases q : i ≠ x ∧ i ≠ y
    · rw [if_pos (by rw [Bool.and_eq_true, bne_iff_ne, bne_iff_ne]; omega), asrt_pos (by unfold bigN; omega), w64_of (by omega), List.filter_cons_of_pos (p := fun j => decide (j ≠ x ∧ j ≠ y)) (decide_eq_true q)]; rfl
    · rw [if_neg (by rw [Bool.and_eq_true, bne_iff_ne, bne_iff_ne]; omega), w64_of (by omega), List.filter_cons_of_neg (p := fun j => decide (j ≠ x ∧ j ≠ y)) (by rw [decide_eq_true_eq]; exact q)]
      rw [List.filter_nil, List.map_nil, List.append_nil]; rfl
  · simp only [gameroomref_KeepOf_L3]
    rw [if_neg (by decide)]; rfl

/-- The document's step: more, or as much and before. -/
noncomputable def fD (h : List Int) (s : List Int × Int) (k : List Int) : List Int × Int := if s.2 < tot h k ∨ (tot h k = s.2 ∧ lx k s.1 = true) then (k, tot h k) else s

section
variable {h : List Int} (hl : h.length = 6) (hc : ∀ x ∈ h, Card x) (hn : h.Nodup)
include hl hc hn

theorem d4 {x y : Nat} (hx : x < 6) (hy : y < x) (s : List Int × Int) : gameroomref_KeepOf_J4 h (x : Int) s.1 s.2 (y : Int) = some (.next ((fD h s (kp x y)).1, (fD h s (kp x y)).2, ((y + 1 : Nat) : Int))) := by
  unfold gameroomref_KeepOf_J4
  rw [kept_r, Option.bind_some]
  simp only [gameroomref_KeepOf_K3, gameroomref_KeepOf_J6]
  have hk : Ks (kp x y) := good_Ks (kp_good ⟨x, hx⟩ ⟨y, by omega⟩ hy)
  have hlen : (kp x y).length = 4 := by
    obtain ⟨a, b, c, d, _, _, _, _, e⟩ := hk
    rw [e]; rfl
  have ht : loop (gameroomref_KeepOf_L4 h (kp x y)) (0, 0) = some (tot h (kp x y)) := by
    obtain ⟨a, b, c, d, h1, h2, h3, h4, e⟩ := hk
    rw [e]; exact total_r hl hc hn h1 h2 h3 h4
  rw [ht, Option.bind_some]
  simp only [gameroomref_KeepOf_K4, gameroomref_KeepOf_J9, gameroomref_KeepOf_J5]
  unfold fD
  rw [w64_of (by omega)]
  by_cases q : s.2 < tot h (kp x y)
  · rw [if_neg (by rw [Bool.and_eq_true, Bool.not_eq_true', decide_eq_false_iff_not]; exact fun z => z.2 q), Option.bind_some, if_pos (by rw [Bool.or_eq_true]; exact Or.inl (decide_eq_true q)), if_pos (Or.inl q)]; rfl
  · by_cases q2 : tot h (kp x y) = s.2
    · rw [if_pos (by rw [Bool.and_eq_true, Bool.not_eq_true', decide_eq_false_iff_not, beq_iff_eq]; exact ⟨q2, q⟩), less_r (by omega), Option.bind_some]
      by_cases q3 : lx (kp x y) s.1 = true
      · rw [if_pos (by rw [Bool.or_eq_true, Bool.and_eq_true, beq_iff_eq]; exact Or.inr ⟨q2, q3⟩), if_pos (Or.inr ⟨q2, q3⟩)]; rfl
      · rw [if_neg (by rw [Bool.or_eq_true, Bool.and_eq_true, decide_eq_true_eq]; rintro (z | z); exact q z; exact q3 z.2), if_neg (by rintro (z | z); exact q z; exact q3 z.2)]; rfl
    · rw [if_neg (by rw [Bool.and_eq_true, beq_iff_eq]; exact fun z => q2 z.1), Option.bind_some, if_neg (by rw [Bool.or_eq_true, Bool.and_eq_true, decide_eq_true_eq, beq_iff_eq]; rintro (z | z); exact q z; exact q2 z.1), if_neg (by rintro (z | z); exact q z; exact q2 z.1)]; rfl

theorem d2 {x : Nat} (hx : x < 6) (s : List Int × Int) : loop (gameroomref_KeepOf_L2 h (x : Int)) (s.1, s.2, 0) = some ((gd x).foldl (fD h) s) := by
  refine (nest (step := gameroomref_KeepOf_L2 h (x : Int)) (fun (s : List Int × Int) (i : Nat) => (s.1, s.2, (i : Int))) (fun s => s) (fD h) (fun y => [kp x y]) (fun _ => True) 0 x (fun y s _ hy _ => ⟨?_, trivial⟩) (fun s _ => ?_) x 0 s (Nat.le_refl _) (by omega) trivial).1
  · simp only [gameroomref_KeepOf_L2]
    rw [if_pos (decide_eq_true (by omega)), d4 hl hc hn hx hy s]; rfl
  · simp only [gameroomref_KeepOf_L2]
    rw [if_neg (by simp)]

theorem d1 : loop (gameroomref_KeepOf_L1 h) (([] : List Int), -1, 0) = some (docs.foldl (fD h) ([], -1)) :=
  (nest (step := gameroomref_KeepOf_L1 h) (fun (s : List Int × Int) (i : Nat) => (s.1, s.2, (i : Int))) (fun s => s) (fD h) gd (fun _ => True) 0 6 (fun x s _ hx _ => ⟨by
    simp only [gameroomref_KeepOf_L1, gameroomref_KeepOf_J2]
    rw [if_pos (decide_eq_true (by omega)), d2 hl hc hn hx s, Option.bind_some]
    simp only [gameroomref_KeepOf_K2, gameroomref_KeepOf_J3]
    rw [w64_of (by omega)]; rfl, trivial⟩) (fun s _ => by
    simp only [gameroomref_KeepOf_L1]
    rw [if_neg (by decide)]) 6 0 ([], -1) (Nat.le_refl _) rfl trivial).1
end

/-- The best of the hands seen. -/
def Bt (h : List Int) (P : List (List Int)) (s : List Int × Int) : Prop := s.1 ∈ P ∧ s.2 = tot h s.1 ∧ ∀ k ∈ P, tot h k < s.2 ∨ (tot h k = s.2 ∧ lx k s.1 = false)

/-- The program's step, with places. -/
noncomputable def fQ (h : List Int) (s : List Int × Int) (k : List Int) : List Int × Int := if s.2 < tot h k then (k, tot h k) else s
theorem fP_fQ (h : List Int) : ∀ (l : List (List Int)) (s : List Int × Int), l.foldl (fP h) (cds h s.1, s.2) = (cds h (l.foldl (fQ h) s).1, (l.foldl (fQ h) s).2)
  | [], s => rfl
  | k :: l, s => by
    rw [List.foldl_cons, List.foldl_cons, ← fP_fQ h l]
    congr 1
    unfold fP fQ
    dsimp only
    split <;> rfl

theorem lx_irr {a : List Int} (ha : a ∈ subs) : lx a a = false := by
  cases h : lx a a with
  | false => rfl
  | true => rw [← h]; exact lx_asym a ha a ha h

theorem bestQ {h : List Int} : ∀ (l P : List (List Int)) (s : List Int × Int), (∀ k ∈ l, k ∈ subs) → (∀ k ∈ P, k ∈ subs) → l.Pairwise (fun a b => lx a b = true) → (∀ p ∈ P, ∀ k ∈ l, lx p k = true) → Bt h P s → Bt h (P ++ l) (l.foldl (fQ h) s)
  | [], P, s, _, _, _, _, hB => by rw [List.append_nil]; exact hB
  | k :: l, P, s, hs, hp, hpw, hlt, hB => by
    have hpw' := List.pairwise_cons.1 hpw
    rw [show P ++ k :: l = (P ++ [k]) ++ l by simp, List.foldl_cons]
    refine bestQ l (P ++ [k]) _ (fun x hx => hs x (by simp [hx])) (fun x hx => ?_) hpw'.2 (fun p hp' x hx => ?_) ?_
    · rcases List.mem_append.1 hx with z | z
      · exact hp x z
      · rw [List.mem_singleton] at z; rw [z]; exact hs k (by simp)
    · rcases List.mem_append.1 hp' with z | z
      · exact hlt p z x (by simp [hx])
      · rw [List.mem_singleton] at z; rw [z]; exact hpw'.1 x hx
    · obtain ⟨b1, b2, b3⟩ := hB
      have hks := hs k (by simp)
      unfold fQ
      by_cases q : s.2 < tot h k
      · rw [if_pos q]
        refine ⟨by simp, rfl, fun x hx => ?_⟩
        dsimp only
        rcases List.mem_append.1 hx with z | z
        · have := b3 x z
          left; omega
        · rw [List.mem_singleton] at z; rw [z]; exact Or.inr ⟨rfl, lx_irr hks⟩
      · rw [if_neg q]
        refine ⟨List.mem_append_left _ b1, b2, fun x hx => ?_⟩
        rcases List.mem_append.1 hx with z | z
        · exact b3 x z
        · rw [List.mem_singleton] at z
          rw [z]
          by_cases e : tot h k = s.2
          · exact Or.inr ⟨e, lx_asym _ (hp _ b1) _ hks (hlt _ b1 k (by simp))⟩
          · left; omega

theorem bestD {h : List Int} : ∀ (l P : List (List Int)) (s : List Int × Int), (∀ k ∈ l, k ∈ subs) → (∀ k ∈ P, k ∈ subs) → Bt h P s → Bt h (P ++ l) (l.foldl (fD h) s)
  | [], P, s, _, _, hB => by rw [List.append_nil]; exact hB
  | k :: l, P, s, hs, hp, hB => by
    rw [show P ++ k :: l = (P ++ [k]) ++ l by simp, List.foldl_cons]
    refine bestD l (P ++ [k]) _ (fun x hx => hs x (by simp [hx])) (fun x hx => ?_) ?_
    · rcases List.mem_append.1 hx with z | z
      · exact hp x z
      · rw [List.mem_singleton] at z; rw [z]; exact hs k (by simp)
    · obtain ⟨b1, b2, b3⟩ := hB
      have hks := hs k (by simp)
      unfold fD
      by_cases q : s.2 < tot h k ∨ (tot h k = s.2 ∧ lx k s.1 = true)
      · rw [if_pos q]
        refine ⟨by simp, rfl, fun x hx => ?_⟩
        dsimp only
        rcases List.mem_append.1 hx with z | z
        · have h3 := b3 x z
          rcases q with q | ⟨q1, q2⟩
          · left; omega
          · rcases h3 with h3 | ⟨h3, h4⟩
            · left; omega
            · refine Or.inr ⟨by omega, ?_⟩
              cases e : lx x k with
              | false => rfl
              | true =>
                have := lx_trans x (hp x z) k hks s.1 (hp _ b1) e q2
                rw [h4] at this; exact absurd this (by decide)
        · rw [List.mem_singleton] at z; rw [z]; exact Or.inr ⟨rfl, lx_irr hks⟩
      · rw [if_neg q]
        refine ⟨List.mem_append_left _ b1, b2, fun x hx => ?_⟩
        rcases List.mem_append.1 hx with z | z
        · exact b3 x z
        · rw [List.mem_singleton] at z
          rw [z]
          by_cases e : tot h k = s.2
          · refine Or.inr ⟨e, ?_⟩
            cases e2 : lx k s.1 with
            | false => rfl
            | true => exact absurd (Or.inr ⟨e, e2⟩) q
          · left; omega

section
variable {h : List Int} (hl : h.length = 6) (hc : ∀ x ∈ h, Card x) (hn : h.Nodup)
include hl hc hn

theorem keep_both : ∃ k, Ks k ∧ crib_Keep_J2 h = some (cds h k, tot h k, 0) ∧ gameroomref_KeepOf_m h = some (cds h k, tot h k) := by
  obtain ⟨k0, ks, e0⟩ : ∃ k0 ks, subs = k0 :: ks := ⟨_, _, rfl⟩
  obtain ⟨j0, js, e1⟩ : ∃ k0 ks, docs = k0 :: ks := ⟨_, _, rfl⟩
  have t0 : 0 ≤ tot h k0 := (tot_bd hl hc hn (good_Ks (subs_good k0 (by rw [e0]; simp)))).1
  have t1 : 0 ≤ tot h j0 := (tot_bd hl hc hn (good_Ks (subs_good j0 (docs_sub j0 (by rw [e1]; simp))))).1
  have hj0 : j0 ∈ subs := docs_sub j0 (by rw [e1]; simp)
  have hk0 : k0 ∈ subs := by rw [e0]; simp
  have hpw := subs_lt
  rw [e0] at hpw
  have hpw := List.pairwise_cons.1 hpw
  have B1 : Bt h subs (subs.foldl (fQ h) ([], -1)) := by
    rw [e0, List.foldl_cons]
    rw [show fQ h ([], -1) k0 = (k0, tot h k0) from if_pos (by show (-1 : Int) < _; omega)]
    exact bestQ ks [k0] _ (fun k hk => by rw [e0]; simp [hk]) (fun k hk => by rw [List.mem_singleton] at hk; rw [hk]; exact hk0) hpw.2 (fun p hp k hk => by rw [List.mem_singleton] at hp; rw [hp]; exact hpw.1 k hk) ⟨by simp, rfl, fun k hk => by rw [List.mem_singleton] at hk; rw [hk]; exact Or.inr ⟨rfl, lx_irr hk0⟩⟩
  have B2 : Bt h docs (docs.foldl (fD h) ([], -1)) := by
    rw [e1, List.foldl_cons]
    rw [show fD h ([], -1) j0 = (j0, tot h j0) from if_pos (Or.inl (by show (-1 : Int) < _; omega))]
    exact bestD js [j0] _ (fun k hk => docs_sub k (by rw [e1]; simp [hk])) (fun k hk => by rw [List.mem_singleton] at hk; rw [hk]; exact hj0) ⟨by simp, rfl, fun k hk => by rw [List.mem_singleton] at hk; rw [hk]; exact Or.inr ⟨rfl, lx_irr hj0⟩⟩
  have p1 := k1 hl hc hn
  have hfp := fP_fQ h subs ([], -1)
  rw [show (cds h (([], -1) : List Int × Int).1, (([], -1) : List Int × Int).2) = (([], -1) : List Int × Int) from rfl] at hfp
  rw [hfp] at p1
  have p2 := d1 hl hc hn
  generalize subs.foldl (fQ h) ([], -1) = A at B1 p1
  generalize docs.foldl (fD h) ([], -1) = C at B2 p2
  obtain ⟨a1, a2, a3⟩ := B1
  obtain ⟨c1, c2, c3⟩ := B2
  have x1 := a3 C.1 (docs_sub _ c1)
  have x2 := c3 A.1 (subs_doc _ a1)
  have e : A.1 = C.1 := by
    rcases x1 with x1 | ⟨x1, y1⟩
    · rcases x2 with x2 | ⟨x2, y2⟩ <;> omega
    · rcases x2 with x2 | ⟨x2, y2⟩
      · omega
      · exact lx_tot _ a1 _ (docs_sub _ c1) y2 y1
  refine ⟨A.1, good_Ks (subs_good _ a1), ?_, ?_⟩
  · rw [p1, a2]
  · unfold gameroomref_KeepOf_m
    rw [p2, Option.bind_some]
    simp only [gameroomref_KeepOf_K1, gameroomref_KeepOf_J1]
    rw [c2, ← e]
    obtain ⟨a, b, c, d, h1, h2, h3, h4, ek⟩ := good_Ks (subs_good _ a1)
    rw [ek]
    have k0 : geti [(a : Int), (b : Int), (c : Int), (d : Int)] 0 = (a : Int) := rfl
    have k1 : geti [(a : Int), (b : Int), (c : Int), (d : Int)] 1 = (b : Int) := rfl
    have k2 : geti [(a : Int), (b : Int), (c : Int), (d : Int)] 2 = (c : Int) := rfl
    have k3 : geti [(a : Int), (b : Int), (c : Int), (d : Int)] 3 = (d : Int) := rfl
    have kl : ([(a : Int), (b : Int), (c : Int), (d : Int)].length : Int) = 4 := rfl
    rw [k0, k1, k2, k3, kl, asrt_pos (by omega), asrt_pos (by omega), asrt_pos (by omega), asrt_pos (by omega), asrt_pos (by omega), asrt_pos (by omega), asrt_pos (by omega), asrt_pos (by omega)]
    rfl
end

theorem same4 {l : List Int} (hl : l.length ≤ 1000) : gameroomlaw_sameInts_m l l = some true := by
  unfold gameroomlaw_sameInts_m
  rw [if_neg (by simp)]
  unfold gameroomlaw_sameInts_J1
  have : loop (gameroomlaw_sameInts_L1 l l) 0 = some (.go ()) := by
    refine loop_from (r := Fl.go ()) (fun i => (i : Int)) l.length rfl (fun i hi => ?_) ?_
    · simp only [gameroomlaw_sameInts_L1, gameroomlaw_sameInts_J3, gameroomlaw_sameInts_J4]
      rw [if_pos (decide_eq_true (by omega)), asrt_pos (by omega), asrt_pos (by omega), if_neg (by simp), w64_of (by omega)]; rfl
    · simp only [gameroomlaw_sameInts_L1]
      rw [if_neg (by simp)]
  rw [this]; rfl

theorem true_CribKeeps (hand : List Int) (hl : hand.length ≤ 17592186043904) (_hy : ∀ y ∈ hand, inI y) : gameroomlaw_CribKeeps_m hand = some true := by
  unfold gameroomlaw_CribKeeps_m gameroomlaw_ints_m
  rw [asrt_pos (by unfold bigN; omega), Option.bind_some, List.nil_append]
  unfold crib_Keep_m
  by_cases h6 : hand.length = 6
  · rw [if_neg (by rw [h6]; decide)]
    unfold crib_Keep_J1
    rw [check_p hl, Option.bind_some]
    by_cases hw : wrong hand = 0
    · obtain ⟨hc, hn⟩ := wrong_0 hw
      obtain ⟨k, hk, e1, e2⟩ := keep_both h6 hc hn
      rw [if_neg (by rw [hw]; decide), e1, Option.bind_some, if_pos (by rw [h6]; decide), cards_r hl, Option.bind_some, hw]
      unfold gameroomlaw_CribKeeps_J1
      rw [if_neg (by decide)]
      unfold gameroomlaw_CribKeeps_J2
      have hlen : (cds hand k).length ≤ 1000 := by
        obtain ⟨a, b, c, d, _, _, _, _, rfl⟩ := hk
        show 4 ≤ 1000
        decide
      rw [e2, Option.bind_some, if_pos (by simp), same4 hlen, Option.bind_some]
      simp
    · rw [if_pos (by simpa using hw), Option.bind_some, if_pos (by rw [h6]; decide), cards_r hl, Option.bind_some]
      unfold gameroomlaw_CribKeeps_J1
      rw [if_pos (by simpa using hw)]
      simp
  · rw [if_pos (by simp; omega), Option.bind_some, if_neg (by simp; omega)]
    rfl
end Go.Proofs.Ytlkdblflibgfpaa
