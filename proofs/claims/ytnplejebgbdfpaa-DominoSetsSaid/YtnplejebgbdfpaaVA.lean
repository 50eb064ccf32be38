/-
  Plain facts: sums, orders (a list that holds 0 .. n-1), inversions.
-/
import Derived.Test.YtnplejebgbdfpaaLibE
import Derived.Test.YtnplejebgbdfpaaLibX
import Derived.Test.YtnplejebgbdfpaaLibY
import Derived.Test.YtnplejebgbdfpaaLibM
namespace Go.GL
open Go

def sm : Nat → (Nat → Int) → Int
  | 0, _ => 0
  | n + 1, f => sm n f + f n
theorem sm_succ (n : Nat) (f : Nat → Int) : sm (n + 1) f = sm n f + f n := rfl
theorem sm_congr {f g : Nat → Int} : ∀ (n : Nat), (∀ i, i < n → f i = g i) → sm n f = sm n g
  | 0, _ => rfl
  | n + 1, h => by rw [sm_succ, sm_succ, sm_congr n (fun i hi => h i (by omega)), h n (by omega)]
theorem sm_add (f g : Nat → Int) : ∀ n, sm n (fun i => f i + g i) = sm n f + sm n g
  | 0 => rfl
  | n + 1 => by rw [sm_succ, sm_succ, sm_succ, sm_add f g n]; omega
theorem sm_zero : ∀ n, sm n (fun _ => 0) = 0
  | 0 => rfl
  | n + 1 => by rw [sm_succ, sm_zero n]; rfl
theorem sm_head (f : Nat → Int) : ∀ n, sm (n + 1) f = f 0 + sm n (fun i => f (i + 1))
  | 0 => by rw [sm_succ]; show (0 : Int) + f 0 = f 0 + 0; omega
  | n + 1 => by rw [sm_succ, sm_head f n, sm_succ]; omega
theorem sm_swap (f : Nat → Nat → Int) (m : Nat) : ∀ n, sm n (fun i => sm m (f i)) = sm m (fun j => sm n (fun i => f i j))
  | 0 => (sm_zero m).symm
  | n + 1 => by rw [sm_succ, sm_swap f m n, ← sm_add]; rfl
theorem sm_pick (f : Nat → Int) {a : Nat} : ∀ n, sm n (fun j => if j = a then f j else 0) = if a < n then f a else 0
  | 0 => by rw [if_neg (by omega)]; rfl
  | n + 1 => by
    rw [sm_succ, sm_pick f n]
    by_cases h : n = a
    · subst h; rw [if_neg (by omega), if_pos rfl, if_pos (by omega)]; omega
    · rw [if_neg h]
      by_cases h2 : a < n
      · rw [if_pos h2, if_pos (by omega)]; omega
      · rw [if_neg h2, if_neg (by omega)]; rfl
theorem sm_tri (f : Nat → Int) (i : Nat) : ∀ n, i ≤ n → sm n (fun k => if k < i then f k else 0) = sm i f
  | 0, h => by have : i = 0 := by omega
               subst this; rfl
  | n + 1, h => by
    rw [sm_succ]
    by_cases h2 : i = n + 1
    · subst h2
      rw [if_pos (by omega), sm_succ, sm_congr n (g := f) (fun k hk => if_pos (by omega))]
    · rw [if_neg (by omega), sm_tri f i n (by omega)]; omega
theorem sm_bd {f : Nat → Int} {a b : Int} : ∀ (n : Nat), (∀ i, i < n → a ≤ f i ∧ f i ≤ b) → a * n ≤ sm n f ∧ sm n f ≤ b * n
  | 0, _ => by constructor <;> (show _ ≤ _; simp [sm])
  | n + 1, h => by
    have ih := sm_bd n (fun i hi => h i (by omega))
    have h1 := h n (by omega)
    rw [sm_succ]
    have e1 : a * ((n + 1 : Nat) : Int) = a * n + a := by rw [Int.natCast_add, Int.mul_add]; simp
    have e2 : b * ((n + 1 : Nat) : Int) = b * n + b := by rw [Int.natCast_add, Int.mul_add]; simp
    rw [e1, e2]
    omega

/-- Each of the other's ways back. -/
structure Inv (n : Nat) (v p : Nat → Nat) : Prop where
  vl : ∀ i, i < n → v i < n
  pl : ∀ i, i < n → p i < n
  vp : ∀ i, i < n → v (p i) = i
  pv : ∀ i, i < n → p (v i) = i

theorem sm_inv {n : Nat} {v p : Nat → Nat} (h : Inv n v p) (f : Nat → Int) : sm n (fun i => f (p i)) = sm n f := by
  have e1 : sm n (fun i => f (p i)) = sm n (fun i => sm n (fun j => if j = p i then f j else 0)) := sm_congr n fun i hi => by
    rw [sm_pick, if_pos (h.pl i hi)]
  have e2 : sm n (fun j => sm n (fun i => if j = p i then f j else 0)) = sm n f := sm_congr n fun j hj => by
    have : sm n (fun i => if j = p i then f j else 0) = sm n (fun i => if i = v j then (fun _ => f j) i else 0) := sm_congr n fun i hi => by
      by_cases q : j = p i
      · rw [if_pos q, if_pos (by rw [q, h.vp i hi])]
      · rw [if_neg q, if_neg (fun e => q (by rw [e, h.pv j hj]))]
    rw [this, sm_pick, if_pos (h.vl j hj)]
  rw [e1, sm_swap, e2]

/-- The inversions of a board's stones, and those of the places of the stones. -/
theorem inv_both {m : Nat} {v p : Nat → Nat} (h : Inv (m + 1) v p) :
    sm (m + 1) (fun i => sm i (fun k => if p ((i + 1) % (m + 1)) < p ((k + 1) % (m + 1)) then 1 else 0)) = sm (m + 1) (fun i => sm i (fun k => if 0 < v i ∧ v i < v k then 1 else 0)) + ((m : Int) - p 0) := by
  have hm : (m + 1) % (m + 1) = 0 := Nat.mod_self _
  -- the last place
  have e0 : sm m (fun k => if p ((m + 1) % (m + 1)) < p ((k + 1) % (m + 1)) then (1 : Int) else 0) = (m : Int) - p 0 := by
    have a1 : sm m (fun k => if p ((m + 1) % (m + 1)) < p ((k + 1) % (m + 1)) then (1 : Int) else 0) = sm m (fun k => if p 0 < p (k + 1) then 1 else 0) := sm_congr m fun k hk => by
      rw [hm, Nat.mod_eq_of_lt (show k + 1 < m + 1 by omega)]
    have a2 := sm_head (fun k => if p 0 < p k then (1 : Int) else 0) m
    have a2' : sm (m + 1) (fun k => if p 0 < p k then (1 : Int) else 0) = (if p 0 < p 0 then (1 : Int) else 0) + sm m (fun k => if p 0 < p (k + 1) then 1 else 0) := a2
    rw [if_neg (by omega)] at a2'
    have a3 := sm_inv h (fun j => if p 0 < j then (1 : Int) else 0)
    have a3' : sm (m + 1) (fun k => if p 0 < p k then (1 : Int) else 0) = sm (m + 1) (fun j => if p 0 < j then (1 : Int) else 0) := a3
    have a4 : ∀ n, sm n (fun j => if p 0 < j then (1 : Int) else 0) = if p 0 < n then (n : Int) - 1 - p 0 else 0 := by
      intro n
      induction n with
      | zero => rw [if_neg (by omega)]; rfl
      | succ n ih =>
        rw [sm_succ, ih]
        by_cases q : p 0 < n
        · rw [if_pos q, if_pos q, if_pos (by omega)]; omega
        · rw [if_neg q, if_neg q]
          by_cases q2 : p 0 < n + 1
          · rw [if_pos q2]; omega
          · rw [if_neg q2]; omega
    have hp0 := h.pl 0 (by omega)
    rw [a4, if_pos hp0] at a3'
    rw [a1]
    omega
  -- the stones
  have e1 : sm m (fun i => sm i (fun k => if p ((i + 1) % (m + 1)) < p ((k + 1) % (m + 1)) then (1 : Int) else 0)) = sm m (fun i => sm i (fun k => if p (i + 1) < p (k + 1) then 1 else 0)) := sm_congr m fun i hi => sm_congr i fun k hk => by
    rw [Nat.mod_eq_of_lt (show i + 1 < m + 1 by omega), Nat.mod_eq_of_lt (show k + 1 < m + 1 by omega)]
  have e2 : sm (m + 1) (fun i => sm i (fun k => if 0 < v i ∧ v i < v k then (1 : Int) else 0)) = sm (m + 1) (fun i => sm (m + 1) (fun k => if k < i ∧ 0 < v i ∧ v i < v k then 1 else 0)) := sm_congr _ fun i hi => by
    rw [← sm_tri _ i (m + 1) (by omega)]
    exact sm_congr _ fun k hk => by
      by_cases q : k < i
      · rw [if_pos q]
        by_cases q2 : 0 < v i ∧ v i < v k
        · rw [if_pos q2, if_pos ⟨q, q2⟩]
        · rw [if_neg q2, if_neg (fun h => q2 h.2)]
      · rw [if_neg q, if_neg (fun h => q h.1)]
  have e3 : sm (m + 1) (fun i => sm (m + 1) (fun k => if k < i ∧ 0 < v i ∧ v i < v k then (1 : Int) else 0)) = sm (m + 1) (fun s => sm (m + 1) (fun t => if p t < p s ∧ 0 < s ∧ s < t then 1 else 0)) := by
    rw [← sm_inv h]
    exact sm_congr _ fun s hs => by
      rw [← sm_inv h]
      exact sm_congr _ fun t ht => by
        rw [h.vp s hs, h.vp t ht]
  have e4 : sm (m + 1) (fun s => sm (m + 1) (fun t => if p t < p s ∧ 0 < s ∧ s < t then (1 : Int) else 0)) = sm (m + 1) (fun t => sm t (fun s => if 0 < s ∧ p t < p s then 1 else 0)) := by
    rw [sm_swap]
    exact sm_congr _ fun t ht => by
      rw [← sm_tri _ t (m + 1) (by omega)]
      exact sm_congr _ fun s hs => by
        by_cases q : s < t
        · rw [if_pos q]
          by_cases q2 : 0 < s ∧ p t < p s
          · rw [if_pos q2, if_pos ⟨q2.2, q2.1, q⟩]
          · rw [if_neg q2, if_neg (fun h => q2 ⟨h.2.1, h.1⟩)]
        · rw [if_neg q, if_neg (fun h => q h.2.2)]
  have e5 : sm (m + 1) (fun t => sm t (fun s => if 0 < s ∧ p t < p s then (1 : Int) else 0)) = sm m (fun i => sm i (fun k => if p (i + 1) < p (k + 1) then 1 else 0)) := by
    rw [sm_head]
    have z0 : sm 0 (fun s => if 0 < s ∧ p 0 < p s then (1 : Int) else 0) = 0 := rfl
    rw [z0, Int.zero_add]
    exact sm_congr _ fun i hi => by
      rw [sm_head, if_neg (by omega), Int.zero_add]
      exact sm_congr _ fun k hk => by
        by_cases q : p (i + 1) < p (k + 1)
        · rw [if_pos q, if_pos ⟨by omega, q⟩]
        · rw [if_neg q, if_neg (fun h => q h.2)]
  rw [sm_succ, e0, e1, e2, e3, e4, e5]

/-- 0 .. n-1. -/
def rng (n : Nat) : List Int := mr n (fun i => (i : Int))

theorem rng_lt (n : Nat) : (rng n).Pairwise (· < ·) := by
  unfold rng mr
  rw [List.pairwise_map]
  exact List.pairwise_lt_range.imp (fun h => by omega)
theorem rng_nodup (n : Nat) : (rng n).Nodup := (rng_lt n).imp (fun h => by omega)
theorem rng_mem {n : Nat} {x : Int} : x ∈ rng n ↔ 0 ≤ x ∧ x < n := by
  unfold rng mr
  rw [List.mem_map]
  constructor
  · rintro ⟨i, hi, rfl⟩; rw [List.mem_range] at hi; omega
  · rintro ⟨h1, h2⟩; exact ⟨x.toNat, by rw [List.mem_range]; omega, by omega⟩
theorem rng_length (n : Nat) : (rng n).length = n := mr_length n _

theorem perm_of_sub : ∀ {a b : List Int}, a.Nodup → (∀ x, x ∈ a → x ∈ b) → b.length ≤ a.length → a.Perm b
  | [], b, _, _, h => by
    have : b = [] := List.length_eq_zero_iff.1 (by simpa using h)
    subst this; exact .nil
  | x :: a, b, hn, hs, hl => by
    have hx := hs x (by simp)
    have hp := List.perm_cons_erase hx
    rw [List.nodup_cons] at hn
    refine (List.Perm.cons x (perm_of_sub hn.2 (fun y hy => ?_) ?_)).trans hp.symm
    · have hne : y ≠ x := fun e => hn.1 (e ▸ hy)
      exact (List.mem_erase_of_ne hne).2 (hs y (List.mem_cons_of_mem _ hy))
    · have := hp.length_eq
      simp only [List.length_cons] at this hl
      omega

/-- A list that holds 0 .. n-1. -/
def Ord (c : List Int) : Prop := ∀ j : Nat, j < c.length → (j : Int) ∈ c

theorem Ord.perm {c : List Int} (h : Ord c) : (rng c.length).Perm c :=
  perm_of_sub (rng_nodup _) (fun x hx => by
    rw [rng_mem] at hx
    have := h x.toNat (by omega)
    rwa [Int.toNat_of_nonneg hx.1] at this) (by rw [rng_length]; exact Nat.le_refl _)
theorem Ord.nodup {c : List Int} (h : Ord c) : c.Nodup := h.perm.nodup_iff.1 (rng_nodup _)
theorem Ord.bd {c : List Int} (h : Ord c) {x : Int} (hx : x ∈ c) : 0 ≤ x ∧ x < c.length := rng_mem.1 (h.perm.mem_iff.2 hx)
theorem ord_sort {c : List Int} : Ord c ↔ sortI c = rng c.length := by
  constructor
  · intro h
    exact strict_ext (sortI_lt h.nodup) (rng_lt _) (fun x => by rw [sortI_mem]; exact h.perm.mem_iff.symm)
  · intro h j hj
    rw [← sortI_mem, h, rng_mem]; omega

theorem geti_mem {l : List Int} {i : Nat} (h : i < l.length) : geti l (i : Int) ∈ l := by
  rw [geti_nat, List.getD_eq_getElem?_getD, List.getElem?_eq_getElem h]; exact List.getElem_mem h

/-- The place of a number. -/
def pos (c : List Int) (j : Nat) : Nat := c.findIdx (fun x => x == (j : Int))
def val (c : List Int) (i : Nat) : Nat := (geti c (i : Int)).toNat

theorem Ord.pos_lt {c : List Int} (h : Ord c) {j : Nat} (hj : j < c.length) : pos c j < c.length :=
  List.findIdx_lt_length_of_exists ⟨_, h j hj, by simp⟩
theorem Ord.at_pos {c : List Int} (h : Ord c) {j : Nat} (hj : j < c.length) : geti c (pos c j : Int) = j := by
  have h1 := h.pos_lt hj
  rw [geti_nat, List.getD_eq_getElem?_getD, List.getElem?_eq_getElem h1]
  have := List.findIdx_getElem (xs := c) (p := fun x => x == (j : Int)) (w := h1)
  rw [beq_iff_eq] at this
  exact this
theorem before_pos {c : List Int} {j i : Nat} (h : i < pos c j) : geti c (i : Int) ≠ j := by
  intro e
  have h1 : i < c.length := Nat.lt_of_lt_of_le h List.findIdx_le_length
  have := List.not_of_lt_findIdx (xs := c) (p := fun x => x == (j : Int)) h
  rw [geti_nat, List.getD_eq_getElem?_getD, List.getElem?_eq_getElem h1, Option.getD_some] at e
  rw [e] at this
  simp at this
theorem Ord.val_eq {c : List Int} (h : Ord c) {i : Nat} (hi : i < c.length) : geti c (i : Int) = (val c i : Int) ∧ val c i < c.length := by
  have := h.bd (geti_mem hi)
  unfold val
  omega
theorem Ord.inv {c : List Int} (h : Ord c) : Inv c.length (val c) (pos c) where
  vl i hi := (h.val_eq hi).2
  pl i hi := h.pos_lt hi
  vp i hi := by unfold val; rw [h.at_pos hi]; omega
  pv i hi := by
    have hv := h.val_eq hi
    have hp := h.at_pos hv.2
    have hl := h.pos_lt hv.2
    rw [← hv.1] at hp
    rw [geti_nat, geti_nat, List.getD_eq_getElem?_getD, List.getElem?_eq_getElem hl, List.getD_eq_getElem?_getD, List.getElem?_eq_getElem hi] at hp
    simp only [Option.getD_some] at hp
    have hd := List.pairwise_iff_getElem.1 h.nodup
    rcases Nat.lt_trichotomy (pos c (val c i)) i with q | q | q
    · exact absurd hp (hd _ _ hl hi q)
    · exact q
    · exact absurd hp.symm (hd _ _ hi hl q)
end Go.GL
