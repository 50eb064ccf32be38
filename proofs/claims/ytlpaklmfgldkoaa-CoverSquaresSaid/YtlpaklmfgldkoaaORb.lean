/-
  Orders: the document's order of a number; a sum over all orders, place by place.
-/
import Derived.Test.YtlpaklmfgldkoaaNCS
import Derived.Test.YtlpaklmfgldkoaaLibX
import Derived.Test.YtlpaklmfgldkoaaLibY
import Derived.Test.YtlpaklmfgldkoaaLibN
namespace Go.Proofs.Ytlpaklmfgldkoaa
open Go Go.GL

theorem at_r {l : List Int} (n : Int) (hl : l.length ≤ 17592186044416) : ∃ v, gameroomref_at_m l n = some v ∧ (0 ≤ v ↔ n ∈ l) := by
  refine ⟨fidx (fun x => x == n) l, ?_, ?_⟩
  · unfold gameroomref_at_m
    rw [search_loop (l := l) (fun x => x == n) (fun i => Fl.ret (i : Int)) (Fl.go ()) ?_ ?_ ?_]
    · unfold fidx
      cases l.findIdx? (fun x => x == n) <;> rfl
    · intro i x hx hp
      have hb := idx_bd hx
      simp only [gameroomref_at_L1, gameroomref_at_J2]
      rw [if_pos (by simpa using hb.2), asrt_pos hb, geti_some hx]
      exact if_pos hp
    · intro i x hx hp
      have hb := idx_bd hx
      simp only [gameroomref_at_L1, gameroomref_at_J2]
      rw [if_pos (by simpa using hb.2), asrt_pos hb, geti_some hx, if_neg (by simpa using hp)]
      simp only [gameroomref_at_J3]
      rw [w64_succ (by omega)]
    · simp only [gameroomref_at_L1]
      rw [if_neg (by simp)]
  · rw [fidx_neg, List.any_eq_true]
    constructor
    · rintro ⟨x, hx, h⟩
      rw [beq_iff_eq] at h
      rw [← h]; exact hx
    · intro h
      exact ⟨n, h, by simp⟩

def fac : Nat → Nat
  | 0 => 1
  | n + 1 => (n + 1) * fac n
theorem fac_bd (n : Nat) (h : n ≤ 12) : fac n ≤ 479001600 := by
  have : ∀ n : Fin 13, fac n.val ≤ 479001600 := by decide
  exact this ⟨n, by omega⟩
theorem fac_pos : ∀ n, 0 < fac n
  | 0 => Nat.one_pos
  | n + 1 => Nat.mul_pos (by omega) (fac_pos n)

theorem fac_loop {step : Int × Int → Option (St (Int × Int) Int)} {n : Nat} (hn : n ≤ 12) (h1 : ∀ f i : Nat, i ≤ n → f * i ≤ 479001600 → step ((f : Int), (i : Int)) = some (.next (((f * i : Nat) : Int), ((i + 1 : Nat) : Int)))) (h2 : ∀ f i : Nat, n < i → step ((f : Int), (i : Int)) = some (.done (f : Int))) : loop step (1, 2) = some (fac n : Int) := by
  match n, hn with
  | 0, _ => exact loop_done (h2 1 2 (by omega))
  | n + 1, hn =>
    refine loop_from (r := (fac (n + 1) : Int)) (fun j => ((fac (j + 1) : Int), ((j + 2 : Nat) : Int))) n rfl (fun j hj => ?_) (h2 (fac (n + 1)) (n + 2) (by omega))
    have hb := fac_bd (j + 2) (by omega)
    have e : fac (j + 2) = fac (j + 1) * (j + 2) := Nat.mul_comm _ _
    rw [h1 (fac (j + 1)) (j + 2) (by omega) (by omega), ← e]

theorem factorial_r {n : Nat} (hn : n ≤ 12) : gameroomref_factorial_m n = some (fac n : Int) := by
  have h := fac_loop (step := gameroomref_factorial_L1 n) hn (fun f i hi hb => by
    simp only [gameroomref_factorial_L1, gameroomref_factorial_J2, gameroomref_factorial_J3]
    rw [if_pos (decide_eq_true (by omega)), ← Int.natCast_mul, w64_nat (by omega), w64_of (by omega)]; rfl) (fun f i hi => by
    simp only [gameroomref_factorial_L1]
    rw [if_neg (by rw [decide_eq_true_eq]; omega)])
  unfold gameroomref_factorial_m
  rw [h]; rfl

theorem drop_cons {l : List Int} {i : Nat} (h : i < l.length) : l.drop i = geti l (i : Int) :: l.drop (i + 1) := by
  have g := get_geti h
  rw [List.getElem?_eq_getElem h] at g
  rw [List.drop_eq_getElem_cons h, Option.some.inj g]

/-- What is left from x on. -/
def flx (l : List Int) (x m : Nat) : List Int := ((List.range' x m).map (fun (i : Nat) => (i : Int))).filter (fun y => decide (y ∉ l))
theorem flx_lt (l : List Int) (x m : Nat) : (flx l x m).Pairwise (· < ·) := by
  unfold flx
  refine List.Pairwise.filter _ ?_
  rw [List.pairwise_map]
  exact (List.pairwise_lt_range' 1).imp (fun h => by omega)
theorem flx_snoc {l : List Int} {n : Nat} {A B : List Int} {x : Int} (e : flx l 0 n = A ++ x :: B) : flx (l ++ [x]) 0 n = A ++ B := by
  have hs := flx_lt l 0 n
  rw [e] at hs
  have q := List.pairwise_append.1 hs
  have e2 : flx (l ++ [x]) 0 n = (flx l 0 n).filter (fun y => decide (y ≠ x)) := by
    unfold flx
    rw [List.filter_filter]
    congr 1
    funext y
    rw [← Bool.decide_and, decide_eq_decide, List.mem_append, List.mem_singleton, not_or]
    exact ⟨fun h => ⟨h.2, h.1⟩, fun h => ⟨h.2, h.1⟩⟩
  rw [e2, e, List.filter_append, List.filter_cons_of_neg (by simp), List.filter_eq_self.2 (fun a ha => ?_), List.filter_eq_self.2 (fun b hb => ?_)]
  · have := (List.pairwise_cons.1 q.2.1).1 b hb
    rw [decide_eq_true_eq]; omega
  · have := q.2.2 a ha x (by simp)
    rw [decide_eq_true_eq]; omega

theorem pick_split {q : List Int} {s : Nat} (hs : s < q.length) : q = q.take s ++ geti q (s : Int) :: q.drop (s + 1) := by
  rw [← drop_cons hs, List.take_append_drop]

/-- The document's pick. -/
theorem pick_r {l : List Int} {n : Nat} (hn : n ≤ 12) (hl : l.length ≤ 12) {k F : Nat} : ∀ (m x s : Nat), x + m = n → s < (flx l x m).length → loop (gameroomref_NthOf_L2 n k l F) ((s : Int), (x : Int)) = some (Int.tmod (k : Int) (F : Int), l ++ [geti (flx l x m) (s : Int)])
  | 0, x, s, _, h => by simp [flx] at h
  | m + 1, x, s, hx, h => by
    obtain ⟨v, v1, v2⟩ := at_r (l := l) (x : Int) (by omega)
    have st : gameroomref_NthOf_L2 n k l F ((s : Int), (x : Int)) = gameroomref_NthOf_J3 k l F s x := by
      simp only [gameroomref_NthOf_L2]
      rw [if_pos (decide_eq_true (by omega))]
    have e0 : flx l x (m + 1) = if (x : Int) ∈ l then flx l (x + 1) m else (x : Int) :: flx l (x + 1) m := by
      unfold flx
      rw [List.range'_succ, List.map_cons]
      by_cases q : (x : Int) ∈ l
      · rw [if_pos q, List.filter_cons_of_neg (by simpa using q)]
      · rw [if_neg q, List.filter_cons_of_pos (by simpa using q)]
    by_cases q : (x : Int) ∈ l
    · rw [if_pos q] at e0
      rw [e0] at h ⊢
      refine loop_next' (s' := ((s : Int), ((x + 1 : Nat) : Int))) ?_ (pick_r hn hl m (x + 1) s (by omega) h)
      rw [st]
      unfold gameroomref_NthOf_J3 gameroomref_NthOf_J4
      rw [v1, Option.bind_some, if_pos (decide_eq_true (v2.2 q)), w64_of (by omega)]; rfl
    · rw [if_neg q] at e0
      rw [e0] at h ⊢
      have hv : ¬ (decide ((0 : Int) ≤ v)) = true := fun z => q (v2.1 (of_decide_eq_true z))
      rcases s with _ | s
      · refine loop_done ?_
        rw [st]
        unfold gameroomref_NthOf_J3 gameroomref_NthOf_J5
        rw [v1, Option.bind_some, if_neg hv, if_pos (by decide), asrt_pos (by unfold bigN; omega)]; rfl
      · have ih := pick_r hn hl (k := k) (F := F) m (x + 1) s (by omega) (by simp at h; exact h)
        have eg : geti ((x : Int) :: flx l (x + 1) m) ((s + 1 : Nat) : Int) = geti (flx l (x + 1) m) (s : Int) := by
          rw [geti_nat, geti_nat]; rfl
        have hsl : s + 1 ≤ 12 := by
          have : (flx l (x + 1) m).length ≤ m := Nat.le_trans (List.length_filter_le _ _) (by rw [List.length_map, List.length_range']; exact Nat.le_refl _)
          simp at h
          omega
        rw [eg]
        refine loop_next' (s' := ((s : Int), ((x + 1 : Nat) : Int))) ?_ ih
        rw [st]
        unfold gameroomref_NthOf_J3 gameroomref_NthOf_J5 gameroomref_NthOf_J6 gameroomref_NthOf_J4
        rw [v1, Option.bind_some, if_neg hv, if_neg (by simp; omega), w64_of (by omega), w64_of (by omega), show ((s + 1 : Nat) : Int) - 1 = (s : Int) by omega]; rfl


theorem flx_len (l : List Int) (x m : Nat) : (flx l x m).length ≤ m := Nat.le_trans (List.length_filter_le _ _) (by rw [List.length_map, List.length_range']; exact Nat.le_refl _)

/-- The order of a number, behind what is chosen. -/
def nthF (n : Nat) : Nat → Nat → List Int → List Int
  | 0, _, p => p
  | m + 1, k, p => nthF n m (k % fac m) (p ++ [geti (flx p 0 n) ((k / fac m : Nat) : Int)])

theorem nth_loop {n : Nat} (hn : n ≤ 12) : ∀ (m k : Nat) (p : List Int), p.length + m = n → (flx p 0 n).length = m → k < fac m → loop (gameroomref_NthOf_L1 n) ((k : Int), p) = some (nthF n m k p)
  | 0, k, p, hp, _, _ => by
    refine loop_done ?_
    simp only [gameroomref_NthOf_L1]
    rw [if_neg (by rw [decide_eq_true_eq]; omega)]
    rfl
  | m + 1, k, l, hp, h3, hk => by
    have hf : fac (m + 1) = (m + 1) * fac m := rfl
    have hfp := fac_pos m
    have hfb := fac_bd m (by omega)
    have hfb2 := fac_bd (m + 1) (by omega)
    have hq : k / fac m < m + 1 := Nat.div_lt_of_lt_mul (by rw [Nat.mul_comm]; omega)
    have hqF : (k / fac m) < (flx l 0 n).length := by omega
    have hr : k % fac m < fac m := Nat.mod_lt _ hfp
    have hnl : (flx (l ++ [geti (flx l 0 n) ((k / fac m : Nat) : Int)]) 0 n).length = m := by
      rw [flx_snoc (pick_split hqF), List.length_append, List.length_take, List.length_drop, h3]; omega
    refine loop_next' (s' := (((k % fac m : Nat) : Int), l ++ [geti (flx l 0 n) ((k / fac m : Nat) : Int)])) ?_ (nth_loop hn m _ _ (by simp; omega) hnl hr)
    have hmo : Int.tmod (k : Int) (fac m : Int) = ((k % fac m : Nat) : Int) := by
      rw [Int.tmod_eq_emod_of_nonneg (by omega)]; rfl
    have hd : Int.tdiv (k : Int) (fac m : Int) = ((k / fac m : Nat) : Int) := by
      rw [Int.tdiv_eq_ediv_of_nonneg (by omega)]; rfl
    have pk := pick_r (l := l) hn (by omega) (k := k) (F := fac m) n 0 (k / fac m) (by omega) hqF
    simp only [gameroomref_NthOf_L1, gameroomref_NthOf_J2]
    rw [if_pos (decide_eq_true (by omega)), w64_of (x := (n : Int) - 1) (by omega), w64_of (by omega), show (n : Int) - 1 - (l.length : Int) = (m : Int) by omega, factorial_r (by omega), Option.bind_some, asrt_pos (by omega), asrt_pos (by omega), hd, w64_nat (by omega)]
    have pk' : loop (gameroomref_NthOf_L2 n k l (fac m : Int)) (((k / fac m : Nat) : Int), 0) = some (Int.tmod (k : Int) (fac m : Int), l ++ [geti (flx l 0 n) ((k / fac m : Nat) : Int)]) := pk
    rw [pk', Option.bind_some, hmo]; rfl

theorem flx0 (n : Nat) : (flx [] 0 n).length = n := by
  unfold flx
  rw [List.filter_eq_self.2 (fun y _ => by simp), List.length_map, List.length_range']

theorem nth_r {n : Nat} (hn : n ≤ 12) {k : Nat} (hk : k < fac n) : gameroomref_NthOf_m n k = some (nthF n n k []) := by
  unfold gameroomref_NthOf_m
  rw [nth_loop hn n k [] (by simp) (flx0 n) hk]
  rfl

/-- A sum over all orders, place by place. -/
def dfs (n : Nat) (F : List Int → Nat) : Nat → List Int → Nat
  | 0, p => F p
  | m + 1, p => ((flx p 0 n).map (fun x => dfs n F m (p ++ [x]))).sum

theorem sumN_add (f : Nat → Nat) (a : Nat) : ∀ b, sumN f (a + b) = sumN f a + sumN (fun i => f (a + i)) b
  | 0 => rfl
  | b + 1 => by
    have := sumN_add f a b
    show sumN f (a + b) + f (a + b) = sumN f a + (sumN (fun i => f (a + i)) b + f (a + b))
    rw [this, Nat.add_assoc]
theorem sumN_mul (g : Nat → Nat → Nat) {f : Nat} (hf : 0 < f) : ∀ a, sumN (fun k => g (k / f) (k % f)) (a * f) = sumN (fun i => sumN (fun j => g i j) f) a
  | 0 => by rw [Nat.zero_mul]; rfl
  | a + 1 => by
    have ih := sumN_mul g hf a
    rw [Nat.succ_mul, sumN_add, ih]
    simp only [sumN]
    congr 1
    refine sumN_congr (fun j hj => ?_)
    rw [Nat.mul_comm, Nat.mul_add_div hf, Nat.div_eq_of_lt hj, Nat.mul_add_mod, Nat.mod_eq_of_lt hj, Nat.add_zero]
theorem sumN_list (h : Int → Nat) (q : List Int) : sumN (fun i => h (geti q (i : Int))) q.length = (q.map h).sum := by
  have key : ∀ k, k ≤ q.length → sumN (fun i => h (geti q (i : Int))) k = ((q.take k).map h).sum := by
    intro k
    induction k with
    | zero => intro _; simp [sumN]
    | succ k ih =>
      intro hk
      have hk' : k < q.length := hk
      show sumN (fun i => h (geti q (i : Int))) k + h (geti q (k : Int)) = _
      rw [ih (by omega), List.take_succ_eq_append_getElem hk', List.map_append, List.sum_append, geti_nat]
      simp [List.getD_eq_getElem?_getD, hk']
  rw [key q.length (Nat.le_refl _), List.take_length]

theorem dfs_sum (n : Nat) (F : List Int → Nat) : ∀ (m : Nat) (p : List Int), (flx p 0 n).length = m → sumN (fun k => F (nthF n m k p)) (fac m) = dfs n F m p
  | 0, p, _ => by simp [sumN, fac, nthF, dfs]
  | m + 1, p, hp => by
    have e1 : sumN (fun k => F (nthF n (m + 1) k p)) (fac (m + 1)) = sumN (fun i => sumN (fun j => F (nthF n m j (p ++ [geti (flx p 0 n) (i : Int)]))) (fac m)) (m + 1) := by
      rw [← sumN_mul (fun i j => F (nthF n m j (p ++ [geti (flx p 0 n) (i : Int)]))) (fac_pos m)]
      rfl
    rw [e1]
    simp only [dfs]
    rw [← sumN_list, hp]
    refine sumN_congr (fun i hi => ?_)
    have hi' : i < (flx p 0 n).length := by omega
    refine dfs_sum n F m _ ?_
    rw [flx_snoc (pick_split hi'), List.length_append, List.length_take, List.length_drop, hp]; omega

theorem all_orders {n : Nat} (F : List Int → Nat) : sumN (fun k => F (nthF n n k [])) (fac n) = dfs n F n [] := dfs_sum n F n [] (flx0 n)
end Go.Proofs.Ytlpaklmfgldkoaa
