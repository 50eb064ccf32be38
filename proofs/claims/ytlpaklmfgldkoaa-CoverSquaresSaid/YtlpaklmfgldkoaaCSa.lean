/-
  Latin squares: sums over orders, masks, when a row may stand.
-/
import Derived.Test.YtlpaklmfgldkoaaORb
import Derived.Test.YtlpaklmfgldkoaaCQa
namespace Go.Proofs.Ytlpaklmfgldkoaa
open Go Go.GL

theorem flx_split (q : List Int) (x a b : Nat) : flx q x (a + b) = flx q x a ++ flx q (x + a) b := by
  unfold flx
  rw [← List.filter_append, ← List.map_append, List.range'_append_1]
theorem flx_one (q : List Int) (x : Nat) : flx q x 1 = if (x : Int) ∈ q then [] else [(x : Int)] := by
  unfold flx
  by_cases h : (x : Int) ∈ q <;> simp [h]

theorem dfs_zero (N : Nat) (F : List Int → Nat) : ∀ (m : Nat) (q : List Int), (∀ t : List Int, t.length = m → F (q ++ t) = 0) → dfs N F m q = 0
  | 0, q, h => by have := h [] rfl; simpa [dfs] using this
  | m + 1, q, h => by
    simp only [dfs]
    have : ∀ x ∈ flx q 0 N, dfs N F m (q ++ [x]) = 0 := fun x _ => dfs_zero N F m _ (fun t ht => by
      rw [List.append_assoc]
      exact h _ (by simp [ht]))
    have e : (flx q 0 N).map (fun x => dfs N F m (q ++ [x])) = (flx q 0 N).map (fun _ => 0) := List.map_congr_left this
    rw [e, List.map_const', List.sum_replicate_nat, Nat.mul_zero]

/-- What stands there, as numbers from 1 on. -/
def up1 (q : List Int) : List Int := q.map (· + 1)
theorem up1_app (a b : List Int) : up1 (a ++ b) = up1 a ++ up1 b := by simp [up1]
theorem up1_len (a : List Int) : (up1 a).length = a.length := by simp [up1]
theorem geti_up1 {q : List Int} {x : Nat} (h : x < q.length) : geti (up1 q) (x : Int) = geti q (x : Int) + 1 := by
  rw [geti_nat, geti_nat, up1, List.getD_eq_getElem?_getD, List.getD_eq_getElem?_getD, List.getElem?_map, List.getElem?_eq_getElem h]
  rfl

/-- A walk that stops at the first place that does not do. -/
theorem walk_loop {S R : Type} {step : S → Option (St S R)} (mk : Nat → S) (P : Nat → Prop) (n : Nat) (hit fin : R)
    (hs : ∀ k, k < n → (∀ j, j < k → P j) → ¬ P k → step (mk k) = some (.done hit))
    (hn : ∀ k, k < n → (∀ j, j < k → P j) → P k → step (mk k) = some (.next (mk (k + 1))))
    (he : (∀ k, k < n → P k) → step (mk n) = some (.done fin)) :
    ((∀ k, k < n → P k) → loop step (mk 0) = some fin) ∧ (¬ (∀ k, k < n → P k) → loop step (mk 0) = some hit) := by
  have key : ∀ m k, k + m = n → (∀ j, j < k → P j) → ((∀ k, k < n → P k) → loop step (mk k) = some fin) ∧ (¬ (∀ k, k < n → P k) → loop step (mk k) = some hit) := by
    intro m
    induction m with
    | zero =>
      intro k hk hp
      have : k = n := by omega
      subst this
      exact ⟨fun h => loop_done (he h), fun h => absurd hp h⟩
    | succ m ih =>
      intro k hk hp
      by_cases hP : P k
      · have := ih (k + 1) (by omega) (fun j hj => by
          by_cases h : j = k
          · subst h; exact hP
          · exact hp j (by omega))
        exact ⟨fun h => loop_next' (hn k (by omega) hp hP) (this.1 h), fun h => loop_next' (hn k (by omega) hp hP) (this.2 h)⟩
      · exact ⟨fun h => absurd (h k (by omega)) hP, fun _ => loop_done (hs k (by omega) hp hP)⟩
  exact key n 0 (by omega) (fun j hj => by omega)

/-! ### Masks -/
def orM : List Nat → Nat
  | [] => 0
  | v :: l => 2 ^ v ||| orM l
theorem orM_bit (j : Nat) : ∀ l, (orM l).testBit j = decide (j ∈ l)
  | [] => by simp [orM]
  | v :: l => by
    rw [orM, Nat.testBit_or, Nat.testBit_two_pow, orM_bit j l, ← Bool.decide_or, decide_eq_decide, List.mem_cons]
    constructor
    · rintro (h | h)
      · exact .inl h.symm
      · exact .inr h
    · rintro (h | h)
      · exact .inl h.symm
      · exact .inr h
theorem orM_lt : ∀ {l : List Nat}, (∀ v ∈ l, v ≤ 5) → orM l < 64
  | [], _ => by simp [orM]
  | v :: l, h => by
    have h1 := h v (by simp)
    have h2 := orM_lt (l := l) (fun x hx => h x (by simp [hx]))
    exact Nat.or_lt_two_pow (n := 6) (Nat.pow_lt_pow_right (by omega) (by omega)) h2
theorem orM_snoc (v : Nat) : ∀ l, orM (l ++ [v]) = orM l ||| 2 ^ v
  | [] => by simp [orM]
  | x :: l => by
    rw [List.cons_append, orM, orM, orM_snoc v l, Nat.or_assoc]

/-- What stands in a column. -/
def colL (rows : List (List Int)) (p : List Int) (x : Nat) : List Nat := rows.map (fun r => (geti r (x : Int)).toNat) ++ (if x < p.length then [(geti p (x : Int)).toNat] else [])
def colsAt (n : Nat) (rows : List (List Int)) (p : List Int) : List Int := (List.range n).map (fun x => ((orM (colL rows p x) : Nat) : Int))

theorem colsAt_len (n : Nat) (rows : List (List Int)) (p : List Int) : (colsAt n rows p).length = n := by simp [colsAt]
theorem colL_at {rows : List (List Int)} {p : List Int} {x : Nat} (h : p.length ≤ x) : colL rows p x = colL rows [] x := by
  unfold colL
  rw [if_neg (by omega), if_neg (by simp)]
theorem colsAt_get {n x : Nat} {rows : List (List Int)} {p : List Int} (h : x < n) : getd (0 : Int) (colsAt n rows p) (x : Int) = ((orM (colL rows p x) : Nat) : Int) := by
  refine getd_some ?_
  unfold colsAt
  rw [List.getElem?_map, List.getElem?_range h]; rfl
theorem colsAt_set {n : Nat} {rows : List (List Int)} {p : List Int} {v : Int} (h : p.length < n) : (colsAt n rows p).set p.length ((orM (colL rows [] p.length) ||| 2 ^ v.toNat : Nat) : Int) = colsAt n rows (p ++ [v]) := by
  refine List.ext_getElem? (fun i => ?_)
  rw [List.getElem?_set, colsAt_len]
  unfold colsAt
  rw [List.getElem?_map, List.getElem?_map]
  by_cases hi : p.length = i
  · subst hi
    rw [if_pos rfl, if_pos h, List.getElem?_range h, Option.map_some]
    congr 2
    rw [← orM_snoc]
    unfold colL
    rw [if_neg (by simp), if_pos (by simp), List.append_nil]
    congr 4
    rw [geti_nat, List.getD_eq_getElem?_getD, List.getElem?_append_right (Nat.le_refl _), Nat.sub_self]
    rfl
  · rw [if_neg hi]
    by_cases hn : i < n
    · rw [List.getElem?_range hn, Option.map_some, Option.map_some]
      congr 3
      unfold colL
      by_cases hp : i < p.length
      · rw [if_pos hp, if_pos (by simp; omega), geti_app hp]
      · rw [if_neg hp, if_neg (by simp; omega)]
    · rw [List.getElem?_eq_none (by simp; omega), Option.map_none, Option.map_none]
theorem colsAt_next {n : Nat} {rows : List (List Int)} {p : List Int} (h : p.length = n) : colsAt n rows p = colsAt n (rows ++ [p]) [] := by
  unfold colsAt
  refine List.map_congr_left (fun x hx => ?_)
  rw [List.mem_range] at hx
  unfold colL
  rw [if_pos (by omega), if_neg (by simp), List.map_append, List.append_nil]
  rfl
theorem colsAt_zero (n : Nat) : colsAt n [] [] = List.replicate n 0 := by
  unfold colsAt
  rw [List.eq_replicate_iff]
  refine ⟨by simp, fun b hb => ?_⟩
  rw [List.mem_map] at hb
  obtain ⟨x, _, rfl⟩ := hb
  simp [colL, orM]

/-! ### When a row may stand -/
theorem perm_sub : ∀ {a b : List Int}, a.Nodup → (∀ x, x ∈ a → x ∈ b) → b.length ≤ a.length → a.Perm b
  | [], b, _, _, h => by
    have : b = [] := List.length_eq_zero_iff.1 (by simpa using h)
    subst this; exact .nil
  | x :: a, b, hn, hs, hl => by
    have hx := hs x (by simp)
    have hp := List.perm_cons_erase hx
    rw [List.nodup_cons] at hn
    refine (List.Perm.cons x (perm_sub hn.2 (fun y hy => ?_) ?_)).trans hp.symm
    · have hne : y ≠ x := fun e => hn.1 (e ▸ hy)
      exact (List.mem_erase_of_ne hne).2 (hs y (List.mem_cons_of_mem _ hy))
    · have := hp.length_eq
      simp only [List.length_cons] at this hl
      omega
def ups (n : Nat) : List Int := (List.range n).map (fun i : Nat => (i : Int) + 1)
theorem ups_len (n : Nat) : (ups n).length = n := by simp [ups]
theorem ups_mem {n : Nat} {y : Int} : y ∈ ups n ↔ 1 ≤ y ∧ y ≤ n := by
  unfold ups
  rw [List.mem_map]
  constructor
  · rintro ⟨i, hi, rfl⟩
    rw [List.mem_range] at hi
    omega
  · intro h
    exact ⟨(y - 1).toNat, by rw [List.mem_range]; omega, by omega⟩
theorem ups_nodup (n : Nat) : (ups n).Nodup := by
  unfold ups
  rw [List.Nodup, List.pairwise_map]
  exact List.pairwise_lt_range.imp (fun h => by omega)

def okD (n : Nat) (rows : List (List Int)) (row : List Int) : Prop := row.length = n ∧ ∀ x : Nat, x < n → ((x : Int) + 1) ∈ row ∧ ∀ r ∈ rows, geti r (x : Int) ≠ geti row (x : Int)
def okP (n : Nat) (rows : List (List Int)) (row : List Int) : Prop := row.length = n ∧ ∀ z : Nat, z < n → (1 ≤ geti row (z : Int) ∧ geti row (z : Int) ≤ n) ∧ geti row (z : Int) ∉ row.take z ∧ ∀ r ∈ rows, geti r (z : Int) ≠ geti row (z : Int)

theorem ok_iff {n : Nat} {rows : List (List Int)} {row : List Int} : okD n rows row ↔ okP n rows row := by
  constructor
  · rintro ⟨hl, h⟩
    have hp : (ups n).Perm row := perm_sub (ups_nodup n) (fun x hx => by
      rw [ups_mem] at hx
      have := (h (x - 1).toNat (by omega)).1
      rwa [show (((x - 1).toNat : Nat) : Int) + 1 = x by omega] at this) (by rw [ups_len]; omega)
    have hnd : row.Nodup := hp.nodup_iff.1 (ups_nodup n)
    refine ⟨hl, fun z hz => ?_⟩
    have hg := get_geti (l := row) (i := z) (by omega)
    refine ⟨?_, ?_, (h z hz).2⟩
    · have : geti row (z : Int) ∈ row := List.mem_of_getElem? hg
      exact ups_mem.1 (hp.mem_iff.2 this)
    · intro hm
      have e := pick_split (q := row) (s := z) (by omega)
      rw [e, List.nodup_append] at hnd
      exact hnd.2.2 _ hm _ (by simp) rfl
  · rintro ⟨hl, h⟩
    have hnd : ∀ k, k ≤ row.length → (row.take k).Nodup := by
      intro k
      induction k with
      | zero => intro _; simp
      | succ k ih =>
        intro hk
        have hk' : k < row.length := hk
        have hg := get_geti hk'
        rw [List.getElem?_eq_getElem hk'] at hg
        rw [List.take_succ_eq_append_getElem hk', List.nodup_append]
        refine ⟨ih (by omega), by simp, ?_⟩
        intro a ha b hb e
        rw [List.mem_singleton, Option.some.inj hg] at hb
        rw [e, hb] at ha
        exact (h k (by omega)).2.1 ha
    have hnd' := hnd row.length (Nat.le_refl _)
    rw [List.take_length] at hnd'
    have hp : row.Perm (ups n) := perm_sub hnd' (fun x hx => by
      obtain ⟨i, hi, rfl⟩ := List.getElem_of_mem hx
      have hg := get_geti hi
      rw [List.getElem?_eq_getElem hi] at hg
      rw [Option.some.inj hg, ups_mem]
      exact (h i (by omega)).1) (by rw [ups_len]; omega)
    exact ⟨hl, fun x hx => ⟨hp.mem_iff.2 (ups_mem.2 (by omega)), (h x hx).2.2⟩⟩

/-! ### The count -/
def freeR (rows : List (List Int)) (o : List Int) : Bool := (List.range o.length).all fun x => rows.all fun r => decide (geti r (x : Int) ≠ geti o (x : Int) + 1)
def lt (n : Nat) : Nat → List (List Int) → Nat
  | 0, _ => 1
  | m + 1, rows => dfs n (fun o => if freeR rows o then lt n m (rows ++ [up1 o]) else 0) n []

theorem freeR_iff {rows : List (List Int)} {o : List Int} : freeR rows o = true ↔ ∀ x : Nat, x < o.length → ∀ r ∈ rows, geti r (x : Int) ≠ geti o (x : Int) + 1 := by
  unfold freeR
  simp only [List.all_eq_true, List.mem_range, decide_eq_true_eq]
theorem sum_le {f : Int → Nat} {b : Nat} (h : ∀ x, f x ≤ b) : ∀ l : List Int, (l.map f).sum ≤ l.length * b
  | [] => by simp
  | x :: l => by
    have := sum_le h l
    have := h x
    rw [List.map_cons, List.sum_cons, List.length_cons, Nat.succ_mul]
    omega
theorem lt_le {n : Nat} (hn : n ≤ 5) : ∀ m rows, lt n m rows ≤ 120 ^ m
  | 0, rows => by simp [lt]
  | m + 1, rows => by
    simp only [lt]
    rw [← all_orders]
    have h1 := sumN_bd (f := fun k => if freeR rows (nthF n n k []) then lt n m (rows ++ [up1 (nthF n n k [])]) else 0) (b := 120 ^ m) (fun k => by
      show (if _ then _ else _) ≤ _
      split
      · exact lt_le hn m _
      · exact Nat.zero_le _) (fac n)
    have h2 : fac n ≤ 120 := by
      have : ∀ n : Fin 6, fac n.val ≤ 120 := by decide
      exact this ⟨n, by omega⟩
    have h3 : fac n * 120 ^ m ≤ 120 * 120 ^ m := Nat.mul_le_mul_right _ h2
    rw [Nat.pow_succ, Nat.mul_comm (120 ^ m)]
    omega
theorem pow120 {m : Nat} (h : m ≤ 5) : 120 ^ m ≤ 24883200000 := by
  have : ∀ k : Fin 6, 120 ^ k.val ≤ 24883200000 := by decide
  exact this ⟨m, by omega⟩
theorem lt_bd {n m : Nat} (hn : n ≤ 5) (hm : m ≤ 5) (rows : List (List Int)) : lt n m rows ≤ 24883200000 := Nat.le_trans (lt_le hn m rows) (pow120 hm)
end Go.Proofs.Ytlpaklmfgldkoaa
