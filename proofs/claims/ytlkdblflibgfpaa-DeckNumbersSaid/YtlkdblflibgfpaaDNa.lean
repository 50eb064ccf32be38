/-
  DeckNumbers: orders, and the sign of an order.
-/
import Derived.Test.YtlkdblflibgfpaaNDN
import Derived.Test.YtlkdblflibgfpaaLibX
import Derived.Test.YtlkdblflibgfpaaLibY
import Derived.Test.YtlkdblflibgfpaaLibT
import Derived.Test.YtlkdblflibgfpaaVA
namespace Go.Proofs.Ytlkdblflibgfpaa
open Go Go.GL

theorem index_first {l : List Int} {n : Int} {i : Nat} (hi : i < l.length) (hv : geti l (i : Int) = n) (hb : ∀ j : Nat, j < i → geti l (j : Int) ≠ n) (hl : l.length ≤ 1000) : slices_Index_m l n = some (i : Int) := by
  have h := loop_from (step := slices_Index_L1 l n) (s0 := 0) (r := Fl.ret (i : Int)) (fun k => ((k : Nat) : Int)) i rfl (by
    intro k hk
    simp only [slices_Index_L1, slices_Index_J2]
    rw [if_pos (decide_eq_true (by omega)), asrt_pos (by omega), if_neg (by have := hb k hk; simpa using (fun e => this (Eq.symm e)))]
    simp only [slices_Index_J3]; rw [w64_succ (by omega)]; rfl) (by
    simp only [slices_Index_L1, slices_Index_J2]
    rw [if_pos (decide_eq_true (by omega)), asrt_pos (by omega), if_pos (by simpa using hv.symm)])
  unfold slices_Index_m
  rw [h]; rfl

theorem at_r {l : List Int} (n : Int) (hl : l.length ≤ 17592186044416) : ∃ v, gameroomref_at_m l n = some v ∧ (0 ≤ v ↔ n ∈ l) := by
  refine ⟨fidx (fun x => x == n) l, ?_, ?_⟩
  · unfold gameroomref_at_m
    rw [search_loop (l := l) (fun x => x == n) (fun i => Fl.ret (i : Int)) (Fl.go ()) ?_ ?_ ?_]
    · unfold fidx
      cases l.findIdx? (fun x => x == n) <;> rfl
    · intro i x hx hp
      have hb := idx_bd hx
      simp only [gameroomref_at_L1, gameroomref_at_J2]
      rw [if_pos (by simpa using hb.2), asrt_pos hb, geti_some hx]
      exact if_pos hp
    · intro i x hx hp
      have hb := idx_bd hx
      simp only [gameroomref_at_L1, gameroomref_at_J2]
      rw [if_pos (by simpa using hb.2), asrt_pos hb, geti_some hx, if_neg (by simpa using hp)]
      simp only [gameroomref_at_J3]
      rw [w64_succ (by omega)]
    · simp only [gameroomref_at_L1]
      rw [if_neg (by simp)]
  · rw [fidx_neg, List.any_eq_true]
    constructor
    · rintro ⟨x, hx, h⟩
      rw [beq_iff_eq] at h
      rw [← h]; exact hx
    · intro h
      exact ⟨n, h, by simp⟩

open Classical in
theorem order_r {c : List Int} (hl : c.length ≤ 17592186043904) : gameroomref_OrderIs_m c = some (decide (Ord c)) := by
  unfold gameroomref_OrderIs_m
  have key := count_loop (step := gameroomref_OrderIs_L1 c) (fun (_ : Unit) (i : Nat) => (i : Int)) (fun n _ => ∀ i : Nat, i < n → (i : Int) ∈ c) (fun r => r = if Ord c then .go () else .ret false) c.length () (fun i h => by omega) (by
    rintro i - hi hI
    have e1 : gameroomref_OrderIs_L1 c (i : Int) = gameroomref_OrderIs_J2 c i := if_pos (decide_eq_true (by omega))
    obtain ⟨v, hv, hvi⟩ := at_r (l := c) (i : Int) (by omega)
    rw [e1]
    unfold gameroomref_OrderIs_J2
    rw [hv, Option.bind_some]
    by_cases h : (i : Int) ∈ c
    · left
      refine ⟨(), by rw [if_neg (by have := hvi.2 h; rw [decide_eq_true_eq]; omega)]; simp only [gameroomref_OrderIs_J3]; rw [w64_of (by omega)]; rfl, fun k hk => ?_⟩
      by_cases q : k = i
      · rw [q]; exact h
      · exact hI k (by omega)
    · right
      refine ⟨.ret false, by rw [if_pos (decide_eq_true (Int.not_le.1 (fun q => h (hvi.1 q))))], ?_⟩
      rw [if_neg (fun ho => h (ho i hi))]) (by
    rintro - hI
    refine ⟨.go (), by simp only [gameroomref_OrderIs_L1]; rw [if_neg (by simp)], ?_⟩
    rw [if_pos (show Ord c from fun j hj => hI j hj)])
  obtain ⟨r, hr, rfl⟩ := key
  have hr' : loop (gameroomref_OrderIs_L1 c) 0 = _ := hr
  rw [hr', Option.bind_some]
  by_cases h : Ord c
  · rw [if_pos h, decide_eq_true h]; rfl
  · rw [if_neg h, decide_eq_false h]; rfl

theorem getb_set {l : List Bool} {i p : Nat} {v : Bool} (hi : i < l.length) : getb (l.set i v) (p : Int) = if p = i then v else getb l (p : Int) := by
  unfold getb
  rw [List.getD_eq_getElem?_getD, List.getD_eq_getElem?_getD, Int.toNat_natCast, List.getElem?_set]
  by_cases e : i = p
  · subst e; simp [hi]
  · rw [if_neg e, if_neg (by omega)]


theorem sorted_p {n : Nat} (hn : n ≤ 17592186044416) : deck_sorted_m n = some (rng n) := by
  unfold deck_sorted_m
  rw [asrt_pos (by unfold bigN; omega), Int.toNat_natCast]
  have h := loop_from (step := deck_sorted_L1 n) (s0 := (List.replicate n (0 : Int), 0)) (r := rng n) (fun i => (mr n (fun j => if j < i then (j : Int) else 0), (i : Int))) n (by
    congr 1
    refine ext_geti (by rw [mr_length, List.length_replicate]) (fun j hj => ?_)
    rw [mr_length] at hj
    rw [mr_geti hj, if_neg (by omega), geti_nat, List.getD_eq_getElem?_getD, List.getElem?_replicate, if_pos hj]; rfl) (by
    intro i hi
    simp only [deck_sorted_L1, deck_sorted_J2, deck_sorted_J3]
    rw [Int.toNat_natCast, if_pos (decide_eq_true (by omega)), asrt_pos (by omega), Int.toNat_natCast, w64_of (by omega)]
    congr 3
    refine ext_geti (by rw [List.length_set, mr_length, mr_length]) (fun j hj => ?_)
    rw [List.length_set, mr_length] at hj
    rw [geti_set' (by omega) (by rw [mr_length]; exact hi), mr_geti hj, mr_geti hj]
    by_cases e : j = i
    · subst e; rw [if_pos rfl, if_pos (by omega)]
    · rw [if_neg (by omega)]
      by_cases e2 : j < i
      · rw [if_pos e2, if_pos (by omega)]
      · rw [if_neg e2, if_neg (by omega)]) (by
    simp only [deck_sorted_L1]
    rw [Int.toNat_natCast, if_neg (by simp)]
    congr 2
    refine ext_geti (by rw [mr_length, rng_length]) (fun j hj => ?_)
    rw [mr_length] at hj
    unfold rng
    rw [mr_geti hj, mr_geti hj, if_pos hj])
  rw [h]; rfl

theorem equal_p {a b : List Int} (ha : a.length ≤ 17592186044416) : slices_Equal_m a b = some (decide (a = b)) := by
  unfold slices_Equal_m
  by_cases hl : a.length = b.length
  · rw [if_neg (by rw [hl]; simp)]
    unfold slices_Equal_J1
    obtain ⟨r, e, hr⟩ := count_loop (step := slices_Equal_L1 a b) (fun (_ : Unit) (i : Nat) => (i : Int)) (fun i _ => ∀ j : Nat, j < i → geti a (j : Int) = geti b (j : Int)) (fun r => (r = .go () ∧ a = b) ∨ (r = .ret false ∧ a ≠ b)) a.length () (fun j hj => by omega) (by
      intro i _ hi hI
      simp only [slices_Equal_L1, slices_Equal_J3, slices_Equal_J4]
      rw [if_pos (decide_eq_true (by omega)), asrt_pos (by omega), asrt_pos (by omega)]
      by_cases q : geti a (i : Int) = geti b (i : Int)
      · left
        refine ⟨(), by rw [if_neg (by simp [q]), w64_of (by omega)]; rfl, fun j hj => ?_⟩
        by_cases e : j = i
        · rw [e]; exact q
        · exact hI j (by omega)
      · right
        exact ⟨_, by rw [if_pos (by rw [bne_iff_ne]; exact q)], Or.inr ⟨rfl, fun e => q (by rw [e])⟩⟩) (by
      intro _ hI
      refine ⟨.go (), ?_, Or.inl ⟨rfl, ext_geti hl hI⟩⟩
      simp only [slices_Equal_L1]
      rw [if_neg (by simp)])
    have e' : loop (slices_Equal_L1 a b) 0 = some r := e
    rw [e', Option.bind_some]
    rcases hr with ⟨rfl, h⟩ | ⟨rfl, h⟩
    · rw [decide_eq_true h]; rfl
    · rw [decide_eq_false h]; rfl
  · rw [if_pos (by simp; omega), decide_eq_false (fun e => hl (by rw [e]))]

open Classical in
theorem order_p {l : List Int} (hl : l.length ≤ 17592186043904) : deck_order_m l = some (decide (Ord l)) := by
  unfold deck_order_m slices_Values_m slices_Sorted_m
  have sl : (sortI l).length = l.length := sortI_length l
  rw [Option.bind_some, asrt_pos (by unfold bigN; omega), Option.bind_some, sorted_p (by omega), Option.bind_some, equal_p (by omega), Option.bind_some]
  congr 1
  rw [decide_eq_decide]
  exact ord_sort.symm

/-! ### Inversions -/
def sg (x : Nat) : Int := if x % 2 = 0 then 1 else -1
theorem sg_neg (x : Nat) : w64 (0 - sg x) = sg (x + 1) := by
  unfold sg
  by_cases q : x % 2 = 0
  · rw [if_pos q, if_neg (by omega)]; rfl
  · rw [if_neg q, if_pos (by omega)]; rfl
theorem sg_congr {x y : Nat} (h : x % 2 = y % 2) : sg x = sg y := by unfold sg; rw [h]

/-- Greater before less. -/
def iv : List Int → Nat
  | [] => 0
  | x :: t => t.countP (fun y => decide (y < x)) + iv t

theorem iv_snoc (x : Int) : ∀ t : List Int, iv (t ++ [x]) = iv t + t.countP (fun y => decide (x < y))
  | [] => rfl
  | y :: t => by
    show (t ++ [x]).countP _ + iv (t ++ [x]) = _
    rw [iv_snoc x t, List.countP_append, List.countP_singleton, List.countP_cons]
    show _ = t.countP (fun z => decide (z < y)) + iv t + _
    omega

theorem iv_adj {x y : Int} (hne : x ≠ y) (ys : List Int) : ∀ xs : List Int, (iv (xs ++ x :: y :: ys) + iv (xs ++ y :: x :: ys)) % 2 = 1
  | [] => by
    show ((y :: ys).countP _ + (ys.countP _ + iv ys) + ((x :: ys).countP _ + (ys.countP _ + iv ys))) % 2 = 1
    rw [List.countP_cons, List.countP_cons]
    by_cases q : x < y
    · rw [if_neg (by rw [decide_eq_true_eq]; omega), if_pos (by rw [decide_eq_true_eq]; omega)]; omega
    · rw [if_pos (by rw [decide_eq_true_eq]; omega), if_neg (by rw [decide_eq_true_eq]; omega)]; omega
  | h :: xs => by
    have ih := iv_adj hne ys xs
    have e : (xs ++ x :: y :: ys).countP (fun z => decide (z < h)) = (xs ++ y :: x :: ys).countP (fun z => decide (z < h)) :=
      ((List.Perm.swap y x ys).append_left xs).countP_eq _
    show ((xs ++ x :: y :: ys).countP (fun z => decide (z < h)) + iv (xs ++ x :: y :: ys) + ((xs ++ y :: x :: ys).countP (fun z => decide (z < h)) + iv (xs ++ y :: x :: ys))) % 2 = 1
    rw [e]; omega

theorem far_perm (xs : List Int) (x : Int) (ms : List Int) (y : Int) (ys : List Int) : (xs ++ y :: (ms ++ x :: ys)).Perm (xs ++ x :: (ms ++ y :: ys)) := by
  refine List.Perm.append_left xs ?_
  refine (List.Perm.cons y List.perm_middle).trans ((List.Perm.swap x y _).trans ?_)
  exact (List.Perm.cons x List.perm_middle.symm)

theorem iv_swap (x y : Int) (ys : List Int) : ∀ (ms xs : List Int), (xs ++ x :: (ms ++ y :: ys)).Nodup → (iv (xs ++ x :: (ms ++ y :: ys)) + iv (xs ++ y :: (ms ++ x :: ys))) % 2 = 1
  | [], xs, h => by
    have h1 := (List.nodup_append.1 h).2.1
    rw [List.nodup_cons] at h1
    exact iv_adj (fun e => h1.1 (by rw [e]; simp)) ys xs
  | m :: ms, xs, h => by
    have h1 := (List.nodup_append.1 h).2.1
    simp only [List.cons_append, List.nodup_cons, List.mem_cons, List.mem_append, not_or] at h1
    have hB : ((xs ++ [m]) ++ x :: (ms ++ y :: ys)).Nodup := by
      have e : (xs ++ [m]) ++ x :: (ms ++ y :: ys) = xs ++ m :: x :: (ms ++ y :: ys) := by simp
      rw [e]
      exact (((List.Perm.swap m x (ms ++ y :: ys)).append_left xs).nodup_iff).1 h
    have i1 := iv_adj h1.1.1 (ms ++ y :: ys) xs
    have i2 := iv_swap x y ys ms (xs ++ [m]) hB
    have i3 := iv_adj (x := m) (y := y) h1.2.1.2.1 (ms ++ x :: ys) xs
    rw [List.append_assoc, List.append_assoc] at i2
    have a1 : xs ++ ([m] ++ x :: (ms ++ y :: ys)) = xs ++ m :: x :: (ms ++ y :: ys) := rfl
    have a2 : xs ++ ([m] ++ y :: (ms ++ x :: ys)) = xs ++ m :: y :: (ms ++ x :: ys) := rfl
    rw [a1, a2] at i2
    show (iv (xs ++ x :: m :: (ms ++ y :: ys)) + iv (xs ++ y :: m :: (ms ++ x :: ys))) % 2 = 1
    omega

/-- Two places change what they hold. -/
theorem swap_ok {p : List Int} {i k : Nat} (hn : p.Nodup) (hik : i < k) (hk : k < p.length) : (iv p + iv ((p.set i (geti p (k : Int))).set k (geti p (i : Int)))) % 2 = 1 ∧ ((p.set i (geti p (k : Int))).set k (geti p (i : Int))).Perm p := by
  have hi : i < p.length := by omega
  have gi := get_geti hi
  have gk := get_geti hk
  rw [List.getElem?_eq_getElem hi] at gi
  rw [List.getElem?_eq_getElem hk] at gk
  have e1 : p = p.take i ++ geti p (i : Int) :: ((p.drop (i + 1)).take (k - i - 1) ++ geti p (k : Int) :: p.drop (k + 1)) := by
    have d1 : p.drop i = geti p (i : Int) :: p.drop (i + 1) := by rw [List.drop_eq_getElem_cons hi, Option.some.inj gi]
    have d2 : (p.drop (i + 1)).drop (k - i - 1) = geti p (k : Int) :: p.drop (k + 1) := by
      rw [List.drop_drop, show i + 1 + (k - i - 1) = k by omega, List.drop_eq_getElem_cons hk, Option.some.inj gk]
    rw [← d2, List.take_append_drop, ← d1, List.take_append_drop]
  have lx : (p.take i).length = i := by rw [List.length_take]; omega
  have lm : ((p.drop (i + 1)).take (k - i - 1)).length = k - i - 1 := by rw [List.length_take, List.length_drop]; omega
  generalize p.take i = xs at e1 lx
  generalize (p.drop (i + 1)).take (k - i - 1) = ms at e1 lm
  generalize p.drop (k + 1) = ys at e1
  generalize geti p (i : Int) = x at e1
  generalize geti p (k : Int) = y at e1
  subst e1
  have es : ((xs ++ x :: (ms ++ y :: ys)).set i y).set k x = xs ++ y :: (ms ++ x :: ys) := by
    rw [List.set_append_right _ _ (by omega), lx, Nat.sub_self, List.set_cons_zero, List.set_append_right _ _ (by omega), lx, show k - i = (k - i - 1) + 1 by omega, List.set_cons_succ, List.set_append_right _ _ (by omega), lm, Nat.sub_self, List.set_cons_zero]
  rw [es]
  exact ⟨iv_swap x y ys ms xs hn, far_perm xs x ms y ys⟩

theorem sign_r {l : List Int} (hl : l.length ≤ 104) : gameroomref_SignOf_m l = some (sg (iv l)) := by
  unfold gameroomref_SignOf_m
  have key := loop_from (step := gameroomref_SignOf_L1 l) (s0 := (1, 0)) (r := sg (iv l)) (fun i => (sg (iv (l.take i)), (i : Int))) l.length rfl (by
    intro i hi
    have inner := loop_from (step := gameroomref_SignOf_L2 l i) (s0 := (sg (iv (l.take i)), 0)) (r := sg (iv (l.take (i + 1)))) (fun k => (sg (iv (l.take i) + (l.take k).countP (fun y => decide (geti l (i : Int) < y))), (k : Int))) i (by simp) (by
      intro k hk
      simp only [gameroomref_SignOf_L2, gameroomref_SignOf_J4, gameroomref_SignOf_J5]
      rw [if_pos (decide_eq_true (by omega)), asrt_pos (by omega), asrt_pos (by omega), List.take_add_one, get_geti (show k < l.length by omega), List.countP_append, Option.toList_some, List.countP_singleton, w64_of (x := (k : Int) + 1) (by omega)]
      by_cases q : geti l (i : Int) < geti l (k : Int)
      · rw [if_pos (decide_eq_true q), if_pos (decide_eq_true q), sg_neg]; rfl
      · rw [if_neg (by rw [decide_eq_true_eq]; exact q), if_neg (by rw [decide_eq_true_eq]; exact q)]; rfl) (by
      simp only [gameroomref_SignOf_L2]
      rw [if_neg (by simp), List.take_add_one, get_geti hi, Option.toList_some, iv_snoc])
    simp only [gameroomref_SignOf_L1, gameroomref_SignOf_J2]
    rw [if_pos (decide_eq_true (by omega)), inner, Option.bind_some]
    simp only [gameroomref_SignOf_K2, gameroomref_SignOf_J3]
    rw [w64_of (by omega)]; rfl) (by
    simp only [gameroomref_SignOf_L1]
    rw [if_neg (by simp), List.take_length])
  rw [key]; rfl

/-- What the walk along the rings keeps: away from i, what was seen is home, the rest as it was. -/
def Rel (l p : List Int) (seen : List Bool) (i : Nat) : Prop :=
  p.length = l.length ∧ seen.length = l.length ∧ Ord p ∧ ∀ j : Nat, j < l.length → j ≠ i → (getb seen (j : Int) = true → geti p (j : Int) = j) ∧ (getb seen (j : Int) = false → geti p (j : Int) = geti l (j : Int))

theorem inj_geti {p : List Int} (hn : p.Nodup) {i j : Nat} (hi : i < p.length) (hj : j < p.length) (e : geti p (i : Int) = geti p (j : Int)) : i = j := by
  have key : ∀ i j : Nat, i < j → j < p.length → geti p (i : Int) ≠ geti p (j : Int) := fun i j hij hj e => by
    have gi := get_geti (l := p) (i := i) (by omega)
    have gj := get_geti (l := p) (i := j) (by omega)
    rw [List.getElem?_eq_getElem (by omega)] at gi gj
    exact (List.pairwise_iff_getElem.1 hn) i j (by omega) (by omega) hij ((Option.some.inj gi).trans (e.trans (Option.some.inj gj).symm))
  rcases Nat.lt_trichotomy i j with q | q | q
  · exact (key i j q hj e).elim
  · exact q
  · exact (key j i q hi e.symm).elim

/-- One ring. -/
theorem ring_p {l : List Int} (hl : l.length ≤ 104) {i : Nat} (hi : i < l.length) {p : List Int} {seen : List Bool} {s : Int} (hR : Rel l p seen i) (hb : ∀ j : Nat, j < i → getb seen (j : Int) = true) (h0 : getb seen (i : Int) = false) (hp : geti p (i : Int) = geti l (i : Int)) (hs : s = sg (iv l + iv p)) :
    ∃ s' seen' p', loop (deck_Sign_L2 l i) (s, seen, geti l (i : Int)) = some (s', seen') ∧ Rel l p' seen' i ∧ (∀ j : Nat, j < i → getb seen' (j : Int) = true) ∧ geti p' (i : Int) = i ∧ s' = sg (iv l + iv p') := by
  obtain ⟨r, e, p', h1, h2, h3, h4⟩ := loop_inv (step := deck_Sign_L2 l i)
    (fun x => getb x.2.1 (i : Int) = false ∧ (∀ j : Nat, j < i → getb x.2.1 (j : Int) = true) ∧ ∃ p, Rel l p x.2.1 i ∧ geti p (i : Int) = x.2.2 ∧ x.1 = sg (iv l + iv p))
    (fun x => x.2.1.count false) (fun r => ∃ p', Rel l p' r.2 i ∧ (∀ j : Nat, j < i → getb r.2 (j : Int) = true) ∧ geti p' (i : Int) = i ∧ r.1 = sg (iv l + iv p')) (s, seen, geti l (i : Int)) ⟨h0, hb, p, hR, hp, hs⟩ (by
    rintro ⟨s, seen, k⟩ ⟨i1, i2, p, ⟨p1, p2, p3, p4⟩, i4, i5⟩
    dsimp only at i1 i2 p2 p4 i4 i5
    have hk := p3.bd (geti_mem (l := p) (i := i) (by omega))
    rw [i4, p1] at hk
    obtain ⟨K, rfl⟩ : ∃ K : Nat, k = K := ⟨k.toNat, by omega⟩
    have hK : K < l.length := by omega
    simp only [deck_Sign_L2, deck_Sign_J6, deck_Sign_J7]
    rw [Int.toNat_natCast, asrt_pos (by omega), i1]
    by_cases q : K = i
    · refine ⟨.done (s, seen), by rw [if_neg (by rw [q]; simp)], ?_⟩
      exact ⟨p, ⟨p1, p2, p3, p4⟩, i2, by rw [i4, q], i5⟩
    · have hns : getb seen (K : Int) = false := by
        cases hs : getb seen (K : Int) with
        | false => rfl
        | true =>
          have := (p4 K hK q).1 hs
          exact absurd (inj_geti p3.nodup (by omega) (by omega) (this.trans i4.symm)) q
      have hiK : i < K := by
        rcases Nat.lt_trichotomy i K with z | z | z
        · exact z
        · exact absurd z.symm q
        · rw [i2 K z] at hns; exact absurd hns (by decide)
      have hpk := (p4 K hK q).2 hns
      obtain ⟨w1, w2⟩ := swap_ok p3.nodup hiK (by omega)
      rw [hpk, i4] at w1 w2
      refine ⟨_, by rw [if_pos (by simp; omega), asrt_pos (by omega), asrt_pos (by omega), Int.toNat_natCast, i5, sg_neg], ?_⟩
      dsimp only
      have hset : ∀ j : Nat, getb (seen.set K true) (j : Int) = if j = K then true else getb seen (j : Int) := fun j => getb_set (by omega)
      have hp' : ∀ j : Nat, geti ((p.set i (geti l (K : Int))).set K (K : Int)) (j : Int) = if j = K then (K : Int) else if j = i then geti l (K : Int) else geti p (j : Int) := fun j => by
        rw [geti_set' (by omega) (by rw [List.length_set]; omega), geti_set' (by omega) (by omega)]
        by_cases a : j = K
        · rw [if_pos (by omega), if_pos a]
        · rw [if_neg (by omega), if_neg a]
          by_cases b : j = i
          · rw [if_pos (by omega), if_pos b]
          · rw [if_neg (by omega), if_neg b]
      refine ⟨⟨by rw [hset, if_neg (by omega)]; exact i1, fun j hj => by rw [hset]; split; rfl; exact i2 j hj, (p.set i (geti l (K : Int))).set K (K : Int), ⟨by rw [List.length_set, List.length_set, p1], by rw [List.length_set, p2], fun j hj => w2.mem_iff.2 (p3 j (by rw [List.length_set, List.length_set] at hj; exact hj)), fun j hj hji => ?_⟩, by rw [hp', if_neg (by omega), if_pos rfl], sg_congr (by omega)⟩, ?_⟩
      · rw [hset, hp']
        by_cases a : j = K
        · rw [if_pos a, if_pos a, a]; exact ⟨fun _ => rfl, fun h => by cases h⟩
        · rw [if_neg a, if_neg a, if_neg hji]; exact p4 j hj hji
      · have hlt : K < seen.length := by omega
        have hgk : seen[K] = false := by
          rw [getb, Int.toNat_natCast, List.getD_eq_getElem?_getD, List.getElem?_eq_getElem hlt] at hns
          exact hns
        rw [List.count_set hlt, hgk]
        have : 0 < seen.count false := List.count_pos_iff.2 (by rw [← hgk]; exact List.getElem_mem hlt)
        simp
        omega)
  exact ⟨r.1, r.2, p', e, h1, h2, h3, h4⟩

theorem iv_rng : ∀ {t : List Int}, t.Pairwise (· < ·) → iv t = 0
  | [], _ => rfl
  | x :: t, h => by
    rw [List.pairwise_cons] at h
    show t.countP _ + iv t = 0
    rw [iv_rng h.2, List.countP_eq_zero.2 (fun y hy => by have := h.1 y hy; rw [decide_eq_true_eq]; omega)]

theorem sign_p {l : List Int} (hl : l.length ≤ 104) (ho : Ord l) : deck_Sign_J1 l = some (sg (iv l), 0) := by
  unfold deck_Sign_J1
  rw [asrt_pos (by unfold bigN; omega), Int.toNat_natCast]
  obtain ⟨r, e, rfl⟩ := count_loop (step := deck_Sign_L1 l) (fun (x : Int × List Bool) (i : Nat) => (x.1, x.2, (i : Int)))
    (fun i x => (∀ j : Nat, j < i → getb x.2 (j : Int) = true) ∧ ∃ p, p.length = l.length ∧ x.2.length = l.length ∧ Ord p ∧ x.1 = sg (iv l + iv p) ∧ ∀ j : Nat, j < l.length → (getb x.2 (j : Int) = true → geti p (j : Int) = j) ∧ (getb x.2 (j : Int) = false → geti p (j : Int) = geti l (j : Int)))
    (fun r => r = sg (iv l)) l.length (1, List.replicate l.length false) ⟨fun j hj => by omega, l, rfl, by rw [List.length_replicate], ho, by show (1 : Int) = _; unfold sg; rw [if_pos (by omega)], fun j hj => ⟨fun h => by
      exfalso
      rw [getb, Int.toNat_natCast, List.getD_eq_getElem?_getD, List.getElem?_replicate, if_pos hj] at h
      exact absurd h (by decide), fun _ => rfl⟩⟩ (by
    rintro i ⟨s, seen⟩ hi ⟨i1, p, p1, p2, p3, p4, p5⟩
    dsimp only at i1 p2 p4 p5
    left
    simp only [deck_Sign_L1, deck_Sign_J3]
    rw [if_pos (decide_eq_true (by omega)), asrt_pos (by omega)]
    cases h0 : getb seen (i : Int) with
    | true =>
      have hdone : loop (deck_Sign_L2 l i) (s, seen, geti l (i : Int)) = some (s, seen) := loop_done (by
        simp only [deck_Sign_L2]
        rw [Int.toNat_natCast, asrt_pos (by omega), h0, if_neg (by simp)])
      refine ⟨(s, seen.set i true), ?_, fun j hj => ?_, p, p1, by rw [List.length_set, p2], p3, p4, fun j hj => ?_⟩
      · rw [hdone, Option.bind_some]
        simp only [deck_Sign_K2, deck_Sign_J5, deck_Sign_J4]
        rw [Int.toNat_natCast, asrt_pos (by omega), Int.toNat_natCast, w64_of (by omega)]; rfl
      · dsimp only
        rw [getb_set (by omega)]
        split
        · rfl
        · exact i1 j (by omega)
      · dsimp only
        rw [getb_set (by omega)]
        by_cases a : j = i
        · rw [if_pos a, a]; exact ⟨fun _ => (p5 i hi).1 h0, fun h => by cases h⟩
        · rw [if_neg a]; exact p5 j hj
    | false =>
      obtain ⟨s', seen', p', h1, ⟨q1, q2, q3, q4⟩, h3, h4, h5⟩ := ring_p hl hi ⟨p1, p2, p3, fun j hj _ => p5 j hj⟩ i1 h0 ((p5 i hi).2 h0) p4
      refine ⟨(s', seen'.set i true), ?_, fun j hj => ?_, p', q1, by rw [List.length_set, q2], q3, h5, fun j hj => ?_⟩
      · rw [h1, Option.bind_some]
        simp only [deck_Sign_K2, deck_Sign_J5, deck_Sign_J4]
        rw [Int.toNat_natCast, asrt_pos (by omega), Int.toNat_natCast, w64_of (by omega)]; rfl
      · dsimp only
        rw [getb_set (by omega)]
        split
        · rfl
        · exact h3 j (by omega)
      · dsimp only
        rw [getb_set (by omega)]
        by_cases a : j = i
        · rw [if_pos a, a]; exact ⟨fun _ => h4, fun h => by cases h⟩
        · rw [if_neg a]; exact q4 j hj a) (by
    rintro ⟨s, seen⟩ ⟨i1, p, p1, p2, p3, p4, p5⟩
    dsimp only at i1 p2 p4 p5
    refine ⟨s, ?_, ?_⟩
    · simp only [deck_Sign_L1]
      rw [if_neg (by simp)]
    · have e : p = rng l.length := ext_geti (by rw [rng_length, p1]) (fun j hj => by
        unfold rng
        rw [(p5 j (by omega)).1 (i1 j (by omega)), mr_geti (by omega)])
      rw [p4, e, iv_rng (rng_lt _), Nat.add_zero])
  have e' : loop (deck_Sign_L1 l) (1, List.replicate l.length false, 0) = some (sg (iv l)) := e
  rw [e']; rfl
end Go.Proofs.Ytlkdblflibgfpaa
