/-
  Plain facts: sums, orders (a list that holds 0 .. n-1), inversions.
-/
import Derived.Test.YtkpkkdpfcbnfdaaLibE
import Derived.Test.YtkpkkdpfcbnfdaaLibX
import Derived.Test.YtkpkkdpfcbnfdaaLibY
import Derived.Test.YtkpkkdpfcbnfdaaLibM
import Derived.Test.YtkpkkdpfcbnfdaaHm
import Derived.Test.YtkpkkdpfcbnfdaaLibT
namespace Go.GL
open Go

def sm : Nat → (Nat → Int) → Int
  | 0, _ => 0
  | n + 1, f => sm n f + f n
theorem sm_succ (n : Nat) (f : Nat → Int) : sm (n + 1) f = sm n f + f n := rfl
theorem sm_congr {f g : Nat → Int} : ∀ (n : Nat), (∀ i, i < n → f i = g i) → sm n f = sm n g
  | 0, _ => rfl
  | n + 1, h => by rw [sm_succ, sm_succ, sm_congr n (fun i hi => h i (by omega)), h n (by omega)]
theorem sm_bd {f : Nat → Int} {a b : Int} : ∀ (n : Nat), (∀ i, i < n → a ≤ f i ∧ f i ≤ b) → a * n ≤ sm n f ∧ sm n f ≤ b * n
  | 0, _ => by constructor <;> (show _ ≤ _; simp [sm])
  | n + 1, h => by
    have ih := sm_bd n (fun i hi => h i (by omega))
    have h1 := h n (by omega)
    rw [sm_succ]
    have e1 : a * ((n + 1 : Nat) : Int) = a * n + a := by rw [Int.natCast_add, Int.mul_add]; simp
    have e2 : b * ((n + 1 : Nat) : Int) = b * n + b := by rw [Int.natCast_add, Int.mul_add]; simp
    rw [e1, e2]
    omega

/-- Each of the other's ways back. -/
structure Inv (n : Nat) (v p : Nat → Nat) : Prop where
  vl : ∀ i, i < n → v i < n
  pl : ∀ i, i < n → p i < n
  vp : ∀ i, i < n → v (p i) = i
  pv : ∀ i, i < n → p (v i) = i

/-- 0 .. n-1. -/
def rng (n : Nat) : List Int := mr n (fun i => (i : Int))

theorem rng_lt (n : Nat) : (rng n).Pairwise (· < ·) := by
  unfold rng mr
  rw [List.pairwise_map]
  exact List.pairwise_lt_range.imp (fun h => by omega)
theorem rng_nodup (n : Nat) : (rng n).Nodup := (rng_lt n).imp (fun h => by omega)
theorem rng_mem {n : Nat} {x : Int} : x ∈ rng n ↔ 0 ≤ x ∧ x < n := by
  unfold rng mr
  rw [List.mem_map]
  constructor
  · rintro ⟨i, hi, rfl⟩; rw [List.mem_range] at hi; omega
  · rintro ⟨h1, h2⟩; exact ⟨x.toNat, by rw [List.mem_range]; omega, by omega⟩
theorem rng_length (n : Nat) : (rng n).length = n := mr_length n _

theorem perm_of_sub : ∀ {a b : List Int}, a.Nodup → (∀ x, x ∈ a → x ∈ b) → b.length ≤ a.length → a.Perm b
  | [], b, _, _, h => by
    have : b = [] := List.length_eq_zero_iff.1 (by simpa using h)
    subst this; exact .nil
  | x :: a, b, hn, hs, hl => by
    have hx := hs x (by simp)
    have hp := List.perm_cons_erase hx
    rw [List.nodup_cons] at hn
    refine (List.Perm.cons x (perm_of_sub hn.2 (fun y hy => ?_) ?_)).trans hp.symm
    · have hne : y ≠ x := fun e => hn.1 (e ▸ hy)
      exact (List.mem_erase_of_ne hne).2 (hs y (List.mem_cons_of_mem _ hy))
    · have := hp.length_eq
      simp only [List.length_cons] at this hl
      omega

/-- A list that holds 0 .. n-1. -/
def Ord (c : List Int) : Prop := ∀ j : Nat, j < c.length → (j : Int) ∈ c

theorem Ord.perm {c : List Int} (h : Ord c) : (rng c.length).Perm c :=
  perm_of_sub (rng_nodup _) (fun x hx => by
    rw [rng_mem] at hx
    have := h x.toNat (by omega)
    rwa [Int.toNat_of_nonneg hx.1] at this) (by rw [rng_length]; exact Nat.le_refl _)
theorem Ord.nodup {c : List Int} (h : Ord c) : c.Nodup := h.perm.nodup_iff.1 (rng_nodup _)
theorem Ord.bd {c : List Int} (h : Ord c) {x : Int} (hx : x ∈ c) : 0 ≤ x ∧ x < c.length := rng_mem.1 (h.perm.mem_iff.2 hx)
theorem ord_sort {c : List Int} : Ord c ↔ sortI c = rng c.length := by
  constructor
  · intro h
    exact strict_ext (sortI_lt h.nodup) (rng_lt _) (fun x => by rw [sortI_mem]; exact h.perm.mem_iff.symm)
  · intro h j hj
    rw [← sortI_mem, h, rng_mem]; omega

theorem geti_mem {l : List Int} {i : Nat} (h : i < l.length) : geti l (i : Int) ∈ l := by
  rw [geti_nat, List.getD_eq_getElem?_getD, List.getElem?_eq_getElem h]; exact List.getElem_mem h

/-- The place of a number. -/
def pos (c : List Int) (j : Nat) : Nat := c.findIdx (fun x => x == (j : Int))
def val (c : List Int) (i : Nat) : Nat := (geti c (i : Int)).toNat

theorem Ord.pos_lt {c : List Int} (h : Ord c) {j : Nat} (hj : j < c.length) : pos c j < c.length :=
  List.findIdx_lt_length_of_exists ⟨_, h j hj, by simp⟩
theorem Ord.at_pos {c : List Int} (h : Ord c) {j : Nat} (hj : j < c.length) : geti c (pos c j : Int) = j := by
  have h1 := h.pos_lt hj
  rw [geti_nat, List.getD_eq_getElem?_getD, List.getElem?_eq_getElem h1]
  have := List.findIdx_getElem (xs := c) (p := fun x => x == (j : Int)) (w := h1)
  rw [beq_iff_eq] at this
  exact this
theorem Ord.val_eq {c : List Int} (h : Ord c) {i : Nat} (hi : i < c.length) : geti c (i : Int) = (val c i : Int) ∧ val c i < c.length := by
  have := h.bd (geti_mem hi)
  unfold val
  omega
theorem Ord.inv {c : List Int} (h : Ord c) : Inv c.length (val c) (pos c) where
  vl i hi := (h.val_eq hi).2
  pl i hi := h.pos_lt hi
  vp i hi := by unfold val; rw [h.at_pos hi]; omega
  pv i hi := by
    have hv := h.val_eq hi
    have hp := h.at_pos hv.2
    have hl := h.pos_lt hv.2
    rw [← hv.1] at hp
    rw [geti_nat, geti_nat, List.getD_eq_getElem?_getD, List.getElem?_eq_getElem hl, List.getD_eq_getElem?_getD, List.getElem?_eq_getElem hi] at hp
    simp only [Option.getD_some] at hp
    have hd := List.pairwise_iff_getElem.1 h.nodup
    rcases Nat.lt_trichotomy (pos c (val c i)) i with q | q | q
    · exact absurd hp (hd _ _ hl hi q)
    · exact q
    · exact absurd hp.symm (hd _ _ hi hl q)
end Go.GL
namespace Go.Proofs.Ytkpkkdpfcbnfdaa
open Go Go.GL

theorem at_first {l : List Int} {n : Int} {i : Nat} (hi : i < l.length) (hv : geti l (i : Int) = n) (hb : ∀ j : Nat, j < i → geti l (j : Int) ≠ n) (hl : l.length ≤ 1000) : gameroomref_at_m l n = some (i : Int) := by
  have h := loop_from (step := gameroomref_at_L1 l n) (s0 := 0) (r := Fl.ret (i : Int)) (fun k => ((k : Nat) : Int)) i rfl (by
    intro k hk
    simp only [gameroomref_at_L1, gameroomref_at_J2]
    rw [if_pos (decide_eq_true (by omega)), asrt_pos (by omega), if_neg (by have := hb k hk; simpa using this)]
    simp only [gameroomref_at_J3]; rw [w64_succ (by omega)]; rfl) (by
    simp only [gameroomref_at_L1, gameroomref_at_J2]
    rw [if_pos (decide_eq_true (by omega)), asrt_pos (by omega), if_pos (by simpa using hv)])
  unfold gameroomref_at_m
  rw [h]; rfl

theorem index_first {l : List Int} {n : Int} {i : Nat} (hi : i < l.length) (hv : geti l (i : Int) = n) (hb : ∀ j : Nat, j < i → geti l (j : Int) ≠ n) (hl : l.length ≤ 1000) : slices_Index_m l n = some (i : Int) := by
  have h := loop_from (step := slices_Index_L1 l n) (s0 := 0) (r := Fl.ret (i : Int)) (fun k => ((k : Nat) : Int)) i rfl (by
    intro k hk
    simp only [slices_Index_L1, slices_Index_J2]
    rw [if_pos (decide_eq_true (by omega)), asrt_pos (by omega), if_neg (by have := hb k hk; simpa using (fun e => this (Eq.symm e)))]
    simp only [slices_Index_J3]; rw [w64_succ (by omega)]; rfl) (by
    simp only [slices_Index_L1, slices_Index_J2]
    rw [if_pos (decide_eq_true (by omega)), asrt_pos (by omega), if_pos (by simpa using hv.symm)])
  unfold slices_Index_m
  rw [h]; rfl

theorem at_r {l : List Int} (n : Int) (hl : l.length ≤ 17592186044416) : ∃ v, gameroomref_at_m l n = some v ∧ (0 ≤ v ↔ n ∈ l) := by
  refine ⟨fidx (fun x => x == n) l, ?_, ?_⟩
  · unfold gameroomref_at_m
    rw [search_loop (l := l) (fun x => x == n) (fun i => Fl.ret (i : Int)) (Fl.go ()) ?_ ?_ ?_]
    · unfold fidx
      cases l.findIdx? (fun x => x == n) <;> rfl
    · intro i x hx hp
      have hb := idx_bd hx
      simp only [gameroomref_at_L1, gameroomref_at_J2]
      rw [if_pos (by simpa using hb.2), asrt_pos hb, geti_some hx]
      exact if_pos hp
    · intro i x hx hp
      have hb := idx_bd hx
      simp only [gameroomref_at_L1, gameroomref_at_J2]
      rw [if_pos (by simpa using hb.2), asrt_pos hb, geti_some hx, if_neg (by simpa using hp)]
      simp only [gameroomref_at_J3]
      rw [w64_succ (by omega)]
    · simp only [gameroomref_at_L1]
      rw [if_neg (by simp)]
  · rw [fidx_neg, List.any_eq_true]
    constructor
    · rintro ⟨x, hx, h⟩
      rw [beq_iff_eq] at h
      rw [← h]; exact hx
    · intro h
      exact ⟨n, h, by simp⟩

open Classical in
theorem may_loop {c : List Int} (hl : c.length ≤ 17592186043904) : slide_May_J1 c = some (decide (Ord c)) := by
  have sl := sortI_length c
  unfold slide_May_J1 slices_Values_m slices_Sorted_m
  rw [Option.bind_some, asrt_pos (by unfold bigN; omega), Option.bind_some]
  have key := count_loop (step := slide_May_L1 (sortI c)) (fun (_ : Unit) (i : Nat) => (i : Int)) (fun n _ => ∀ i : Nat, i < n → geti (sortI c) (i : Int) = i) (fun r => r = if Ord c then .go () else .ret false) c.length () (fun i h => by omega) (by
    rintro i - hi hI
    have e1 : slide_May_L1 (sortI c) (i : Int) = slide_May_J3 (sortI c) i := if_pos (decide_eq_true (by omega))
    rw [e1]
    unfold slide_May_J3
    rw [asrt_pos (by omega)]
    by_cases h : geti (sortI c) (i : Int) = i
    · left
      refine ⟨(), by rw [if_neg (by simp [h])]; simp only [slide_May_J4]; rw [w64_of (by omega)]; rfl, fun k hk => ?_⟩
      by_cases q : k = i
      · rw [q]; exact h
      · exact hI k (by omega)
    · right
      refine ⟨.ret false, by rw [if_pos (by simp [h])], ?_⟩
      rw [if_neg]
      intro ho
      rw [ord_sort] at ho
      rw [ho] at h
      exact h (by unfold rng; rw [mr_geti hi])) (by
    rintro - hI
    refine ⟨.go (), by simp only [slide_May_L1]; rw [if_neg (by simp [sl])], ?_⟩
    rw [if_pos]
    rw [ord_sort, mr_self (sortI c), sl]
    exact mr_congr fun j hj => by have := hI j hj; rwa [geti_nat] at this)
  obtain ⟨r, hr, rfl⟩ := key
  have hr' : loop (slide_May_L1 (sortI c)) 0 = _ := hr
  rw [hr', Option.bind_some]
  by_cases h : Ord c
  · rw [if_pos h, decide_eq_true h]; rfl
  · rw [if_neg h, decide_eq_false h]; rfl

open Classical in
theorem order_r {c : List Int} (hl : c.length ≤ 17592186043904) : gameroomref_OrderIs_m c = some (decide (Ord c)) := by
  unfold gameroomref_OrderIs_m
  have key := count_loop (step := gameroomref_OrderIs_L1 c) (fun (_ : Unit) (i : Nat) => (i : Int)) (fun n _ => ∀ i : Nat, i < n → (i : Int) ∈ c) (fun r => r = if Ord c then .go () else .ret false) c.length () (fun i h => by omega) (by
    rintro i - hi hI
    have e1 : gameroomref_OrderIs_L1 c (i : Int) = gameroomref_OrderIs_J2 c i := if_pos (decide_eq_true (by omega))
    obtain ⟨v, hv, hvi⟩ := at_r (l := c) (i : Int) (by omega)
    rw [e1]
    unfold gameroomref_OrderIs_J2
    rw [hv, Option.bind_some]
    by_cases h : (i : Int) ∈ c
    · left
      refine ⟨(), by rw [if_neg (by have := hvi.2 h; rw [decide_eq_true_eq]; omega)]; simp only [gameroomref_OrderIs_J3]; rw [w64_of (by omega)]; rfl, fun k hk => ?_⟩
      by_cases q : k = i
      · rw [q]; exact h
      · exact hI k (by omega)
    · right
      refine ⟨.ret false, by rw [if_pos (decide_eq_true (Int.not_le.1 (fun q => h (hvi.1 q))))], ?_⟩
      rw [if_neg (fun ho => h (ho i hi))]) (by
    rintro - hI
    refine ⟨.go (), by simp only [gameroomref_OrderIs_L1]; rw [if_neg (by simp)], ?_⟩
    rw [if_pos (show Ord c from fun j hj => hI j hj)])
  obtain ⟨r, hr, rfl⟩ := key
  have hr' : loop (gameroomref_OrderIs_L1 c) 0 = _ := hr
  rw [hr', Option.bind_some]
  by_cases h : Ord c
  · rw [if_pos h, decide_eq_true h]; rfl
  · rw [if_neg h, decide_eq_false h]; rfl

/-- A board's sizes. -/
def okS (g1 g2 : Int) (c : List Int) : Bool := (decide (2 ≤ g1) && decide (g1 ≤ 5)) && (decide (2 ≤ g2) && decide (g2 ≤ 5)) && ((c.length : Int) == w64 (g1 * g2))

open Classical in
noncomputable def mayB (g1 g2 : Int) (c : List Int) : Bool := okS g1 g2 c && decide (Ord c)

theorem may_p {g1 g2 : Int} {c : List Int} (hl : c.length ≤ 17592186043904) : slide_May_m g1 g2 c = some (mayB g1 g2 c) := by
  classical
  unfold slide_May_m mayB okS slide_far_m
  rw [Option.bind_some, may_loop hl]
  by_cases h1 : 2 ≤ g1 ∧ g1 ≤ 5
  · rw [show (decide (g1 < 2) || decide (5 < g1)) = false by simp; omega, show (decide (2 ≤ g1) && decide (g1 ≤ 5)) = true by simp; omega]
    rw [if_pos (show (!false) = true from rfl), Option.bind_some]
    by_cases h2 : 2 ≤ g2 ∧ g2 ≤ 5
    · rw [show (decide (g2 < 2) || decide (5 < g2)) = false by simp; omega, show (decide (2 ≤ g2) && decide (g2 ≤ 5)) = true by simp; omega]
      by_cases h3 : (c.length : Int) = w64 (g1 * g2)
      · rw [if_neg (by simp [h3])]; simp [h3]
      · rw [if_pos (by simp [h3])]; simp [h3]
    · rw [show (decide (g2 < 2) || decide (5 < g2)) = true by simp; omega, show (decide (2 ≤ g2) && decide (g2 ≤ 5)) = false by simp; omega]
      rw [if_pos (by simp)]; simp
  · rw [show (decide (g1 < 2) || decide (5 < g1)) = true by simp; omega, show (decide (2 ≤ g1) && decide (g1 ≤ 5)) = false by simp; omega]
    rw [if_neg (by simp), Option.bind_some, if_pos (by simp)]; simp

theorem may_r {g1 g2 : Int} {c : List Int} (hl : c.length ≤ 17592186043904) : gameroomref_SlideMay_m g1 g2 c = some (mayB g1 g2 c) := by
  classical
  unfold gameroomref_SlideMay_m mayB okS gameroomref_within_m gameroomref_SlideMay_J1
  rw [Option.bind_some, order_r hl, Option.bind_some]
  by_cases h1 : 2 ≤ g1 ∧ g1 ≤ 5
  · rw [show (decide (2 ≤ g1) && decide (g1 ≤ 5)) = true by simp; omega]
    rw [if_pos (show (!!true) = true from rfl), Option.bind_some]
    by_cases h2 : 2 ≤ g2 ∧ g2 ≤ 5
    · rw [show (decide (2 ≤ g2) && decide (g2 ≤ 5)) = true by simp; omega]
      by_cases h3 : (c.length : Int) = w64 (g1 * g2)
      · rw [if_neg (by simp [h3])]; simp [h3]
      · rw [if_pos (by simp [h3])]; simp [h3]
    · rw [show (decide (2 ≤ g2) && decide (g2 ≤ 5)) = false by simp; omega]
      rw [if_pos (by simp)]; simp
  · rw [show (decide (2 ≤ g1) && decide (g1 ≤ 5)) = false by simp; omega]
    rw [if_neg (by simp), Option.bind_some, if_pos (by simp)]; simp

theorem may_sz {g1 g2 : Int} {c : List Int} (h : mayB g1 g2 c = true) : ∃ a b : Nat, g1 = a ∧ g2 = b ∧ (2 ≤ a ∧ a ≤ 5) ∧ (2 ≤ b ∧ b ≤ 5) ∧ c.length = a * b ∧ a * b ≤ 25 ∧ Ord c := by
  classical
  unfold mayB okS at h
  simp only [Bool.and_eq_true, decide_eq_true_eq, beq_iff_eq] at h
  obtain ⟨⟨⟨h1, h2⟩, h3⟩, h4⟩ := h
  refine ⟨g1.toNat, g2.toNat, by omega, by omega, by omega, by omega, ?_, ?_, h4⟩
  · have e : g1 * g2 = ((g1.toNat * g2.toNat : Nat) : Int) := by
      rw [Int.natCast_mul, Int.toNat_of_nonneg (by omega), Int.toNat_of_nonneg (by omega)]
    have hb : g1.toNat * g2.toNat ≤ 5 * 5 := Nat.mul_le_mul (by omega) (by omega)
    rw [e, w64_nat (by omega)] at h3
    omega
  · exact Nat.mul_le_mul (show g1.toNat ≤ 5 by omega) (show g2.toNat ≤ 5 by omega)

/-- The place that is come from. -/
def nxt (a b : Nat) (x y : Int) : Int := if 0 ≤ x ∧ x < a ∧ 0 ≤ y ∧ y < b then y * a + x else -1
def tgt (a b g : Nat) (dir : Int) : Int :=
  if dir = 0 then nxt a b (g % a : Nat) ((g / a : Nat) + 1) else if dir = 1 then nxt a b ((g % a : Nat) - 1) (g / a : Nat)
  else if dir = 2 then nxt a b (g % a : Nat) ((g / a : Nat) - 1) else if dir = 3 then nxt a b ((g % a : Nat) + 1) (g / a : Nat) else -1

section
variable {a b g : Nat} (ha : 2 ≤ a ∧ a ≤ 5) (hb : 2 ≤ b ∧ b ≤ 5)
include ha hb

omit hb in
theorem nxt_mul {y : Int} (hy : 0 ≤ y ∧ y < b) : 0 ≤ y * (a : Int) ∧ y * (a : Int) ≤ (b : Int) * a - a := by
  constructor
  · exact Int.mul_nonneg hy.1 (by omega)
  · have h := Int.mul_le_mul_of_nonneg_right (show y ≤ (b : Int) - 1 by omega) (show (0 : Int) ≤ a by omega)
    rw [Int.sub_mul, Int.one_mul] at h; exact h
theorem nxt_bd (x y : Int) : nxt a b x y < ((a * b : Nat) : Int) := by
  unfold nxt
  have h0 : 0 < a * b := Nat.mul_pos (by omega) (by omega)
  have e : (b : Int) * a = ((a * b : Nat) : Int) := by rw [Int.natCast_mul, Int.mul_comm]
  split
  · rename_i h
    have := nxt_mul ha ⟨h.2.2.1, h.2.2.2⟩
    omega
  · omega
theorem tgt_bd (dir : Int) : tgt a b g dir < ((a * b : Nat) : Int) := by
  have h0 : 0 < a * b := Nat.mul_pos (by omega) (by omega)
  unfold tgt
  (repeat' split) <;> first | exact nxt_bd ha hb _ _ | omega
omit hb in
theorem tgt_ne (dir : Int) : tgt a b g dir ≠ g := by
  have hd := Nat.div_add_mod g a
  unfold tgt nxt
  obtain rfl | rfl | rfl | rfl : a = 2 ∨ a = 3 ∨ a = 4 ∨ a = 5 := by omega
  all_goals (repeat' split) <;> omega

theorem J1_p {x y : Int} (hx : -1 ≤ x ∧ x ≤ 5) (hy : -1 ≤ y ∧ y ≤ 5) : slide_tray_from_J1 a b x y = some (nxt a b x y) := by
  unfold slide_tray_from_J1 slide_tray_from_J2 nxt
  by_cases q : 0 ≤ x ∧ x < a ∧ 0 ≤ y ∧ y < b
  · have := nxt_mul ha ⟨q.2.2.1, q.2.2.2⟩
    have h2 : (b : Int) * a ≤ 5 * 5 := Int.mul_le_mul (by omega) (by omega) (by omega) (by omega)
    rw [if_neg (by simp; omega), if_pos q, w64_of (x := y * (a : Int)) (by omega), w64_of (by omega)]
  · rw [if_neg q, if_pos]
    simp only [Bool.or_eq_true, decide_eq_true_eq]
    omega

theorem from_p (hg : g < a * b) (c : List Int) (dir : Int) : slide_tray_from_m a b c g dir = some (tgt a b g dir) := by
  have hy : g / a < b := Nat.div_lt_of_lt_mul hg
  have hx : g % a < a := Nat.mod_lt _ (by omega)
  unfold slide_tray_from_m tgt
  rw [asrt_pos (by omega), asrt_pos (by omega), tmod_nat, tdiv_nat]
  generalize g / a = y at *
  generalize g % a = x at *
  rw [w64_nat (k := y) (by omega), w64_of (by omega), w64_of (by omega), w64_of (by omega), w64_of (by omega)]
  simp only [beq_iff_eq]
  split
  · exact J1_p ha hb (by omega) (by omega)
  split
  · exact J1_p ha hb (by omega) (by omega)
  split
  · exact J1_p ha hb (by omega) (by omega)
  split
  · exact J1_p ha hb (by omega) (by omega)
  rfl

theorem move_p {c : List Int} (hl : c.length = a * b) (hg : g < a * b) (dir : Int) :
    slide_tray_move_m a b c g dir = some (if 0 ≤ tgt a b g dir then (true, (c.set g (geti c (tgt a b g dir))).set (tgt a b g dir).toNat 0, tgt a b g dir) else (false, c, g)) := by
  unfold slide_tray_move_m
  rw [from_p ha hb hg, Option.bind_some]
  have hbd := tgt_bd ha hb (g := g) dir
  generalize tgt a b g dir = t at *
  by_cases q : 0 ≤ t
  · rw [if_neg (by simp; omega), if_pos q]
    unfold slide_tray_move_J1
    rw [asrt_pos (by omega), asrt_pos (by omega), asrt_pos (by omega)]
    simp
  · rw [if_pos (by simp; omega), if_neg q]

/-- The gap is there and nowhere else. -/
def Gap (c : List Int) (g : Nat) : Prop := g < c.length ∧ ∀ j : Nat, j < c.length → (geti c (j : Int) = 0 ↔ j = g)
end

theorem geti_set {l : List Int} {k j : Nat} {x : Int} (hk : k < l.length) : geti (l.set k x) (j : Int) = if j = k then x else geti l (j : Int) := by
  rw [geti_nat, geti_nat, List.getD_eq_getElem?_getD, List.getD_eq_getElem?_getD, List.getElem?_set]
  by_cases h : k = j
  · subst h; simp [hk]
  · rw [if_neg h, if_neg (fun e => h e.symm)]

theorem Gap.at {c : List Int} {g : Nat} (h : Gap c g) (hl : c.length ≤ 1000) : gameroomref_at_m c 0 = some (g : Int) :=
  at_first h.1 ((h.2 g h.1).2 rfl) (fun j hj e => by have := (h.2 j (by have := h.1; omega)).1 e; omega) hl
theorem Gap.index {c : List Int} {g : Nat} (h : Gap c g) (hl : c.length ≤ 1000) : slices_Index_m c 0 = some (g : Int) :=
  index_first h.1 ((h.2 g h.1).2 rfl) (fun j hj e => by have := (h.2 j (by have := h.1; omega)).1 e; omega) hl
theorem Gap.move {c : List Int} {g t : Nat} (h : Gap c g) (ht : t < c.length) (hne : t ≠ g) : Gap ((c.set g (geti c (t : Int))).set t 0) t := by
  refine ⟨by simp [ht], fun j hj => ?_⟩
  simp only [List.length_set] at hj
  rw [geti_set (by simp [ht]), geti_set h.1]
  by_cases q : j = t
  · rw [if_pos q]; simp [q]
  · rw [if_neg q]
    by_cases q2 : j = g
    · rw [if_pos q2]
      have := h.2 t ht
      constructor
      · intro e; exact absurd (this.1 e) hne
      · intro e; exact absurd e q
    · rw [if_neg q2]
      have := h.2 j hj
      constructor
      · intro e; exact absurd (this.1 e) q2
      · intro e; exact absurd e q
theorem Gap.ord {c : List Int} (h : Ord c) (h0 : 0 < c.length) : Gap c (pos c 0) := by
  refine ⟨h.pos_lt h0, fun j hj => ?_⟩
  have hv := h.val_eq hj
  have hi := h.inv
  constructor
  · intro e
    rw [← hi.pv j hj]
    congr 1
    omega
  · intro e
    rw [e]
    exact h.at_pos h0

theorem grid_p {g1 g2 : Int} {c : List Int} (hl : c.length ≤ 17592186043904) : gameroomref_GridOf_m g1 g2 c = some (g1, g2, c) := by
  unfold gameroomref_GridOf_m gameroomref_Ints_m
  rw [asrt_pos (by unfold bigN; omega)]; rfl

theorem move_r {a b g : Nat} (ha : 2 ≤ a ∧ a ≤ 5) (hb : 2 ≤ b ∧ b ≤ 5) {c : List Int} (hl : c.length = a * b) (hN : a * b ≤ 25) (hg : Gap c g) (dir : Int) :
    gameroomref_SlideMove_m a b c dir = some ((a : Int), (b : Int), if 0 ≤ tgt a b g dir then (c.set g (geti c (tgt a b g dir))).set (tgt a b g dir).toNat 0 else c, decide (0 ≤ tgt a b g dir)) := by
  have hg1 : g < a * b := by have := hg.1; omega
  have hy : g / a < b := Nat.div_lt_of_lt_mul hg1
  have hx : g % a < a := Nat.mod_lt _ (by omega)
  unfold gameroomref_SlideMove_m
  rw [grid_p (by omega), Option.bind_some, hg.at (by omega), Option.bind_some]
  unfold gameroomref_within_m
  rw [Option.bind_some]
  by_cases hd : 0 ≤ dir ∧ dir ≤ 3
  · rw [if_neg (by simp; omega)]
    unfold gameroomref_SlideMove_J1 gameroomref_SlideMove_J2 gameroomref_SlideMove_J3 gameroomref_SlideMove_J4
    rw [asrt_pos (by omega), asrt_pos (by omega)]
    rw [asrt_pos (by omega), asrt_pos (by omega)]
    have key : ∃ x y : Int, w64 (Int.tmod (g : Int) a + geti ([0, (-1), 0, 1] : List Int) dir) = x ∧ w64 (w64 (Int.tdiv (g : Int) a) + geti ([1, 0, (-1), 0] : List Int) dir) = y ∧ tgt a b g dir = nxt a b x y := by
      unfold tgt
      rw [tmod_nat, tdiv_nat]
      generalize g / a = y at *
      generalize g % a = x at *
      rw [w64_nat (k := y) (by omega)]
      obtain rfl | rfl | rfl | rfl : dir = 0 ∨ dir = 1 ∨ dir = 2 ∨ dir = 3 := by omega
      · refine ⟨(x : Int), (y : Int) + 1, ?_, ?_, if_pos rfl⟩
        · show w64 ((x : Int) + 0) = _; rw [w64_of (by omega)]; omega
        · show w64 ((y : Int) + 1) = _; rw [w64_of (by omega)]
      · refine ⟨(x : Int) - 1, (y : Int), ?_, ?_, (if_neg (by decide)).trans (if_pos rfl)⟩
        · show w64 ((x : Int) + (-1)) = _; rw [w64_of (by omega)]; omega
        · show w64 ((y : Int) + 0) = _; rw [w64_of (by omega)]; omega
      · refine ⟨(x : Int), (y : Int) - 1, ?_, ?_, (if_neg (by decide)).trans ((if_neg (by decide)).trans (if_pos rfl))⟩
        · show w64 ((x : Int) + 0) = _; rw [w64_of (by omega)]; omega
        · show w64 ((y : Int) + (-1)) = _; rw [w64_of (by omega)]; omega
      · refine ⟨(x : Int) + 1, (y : Int), ?_, ?_, (if_neg (by decide)).trans ((if_neg (by decide)).trans ((if_neg (by decide)).trans (if_pos rfl)))⟩
        · show w64 ((x : Int) + 1) = _; rw [w64_of (by omega)]
        · show w64 ((y : Int) + 0) = _; rw [w64_of (by omega)]; omega
    obtain ⟨x, y, h1, h2, h3⟩ := key
    have hbd := tgt_bd ha hb (g := g) dir
    rw [h1, h2]
    rw [h3] at hbd ⊢
    clear h1 h2 h3
    rw [w64_of (x := (a : Int) - 1) (by omega), w64_of (x := (b : Int) - 1) (by omega)]
    unfold gameroomref_within_m
    rw [Option.bind_some]
    unfold nxt at hbd ⊢
    by_cases q : 0 ≤ x ∧ x < a ∧ 0 ≤ y ∧ y < b
    · have hm := nxt_mul ha ⟨q.2.2.1, q.2.2.2⟩
      have h2 : (b : Int) * a ≤ 5 * 5 := Int.mul_le_mul (by omega) (by omega) (by omega) (by omega)
      rw [if_pos q] at hbd ⊢
      rw [show (decide (0 ≤ x) && decide (x ≤ (a : Int) - 1)) = true by simp; omega, show (decide (0 ≤ y) && decide (y ≤ (b : Int) - 1)) = true by simp; omega]
      rw [if_pos (show (!!true) = true from rfl), Option.bind_some, if_neg (by simp), w64_of (x := y * (a : Int)) (by omega), w64_of (x := y * (a : Int) + x) (by omega)]
      have ht0 : 0 ≤ y * (a : Int) + x := by omega
      generalize y * (a : Int) + x = t at *
      rw [asrt_pos (by omega), asrt_pos (by show 0 ≤ (g : Int) ∧ (g : Int) < (c.length : Int); omega), asrt_pos (by show 0 ≤ t ∧ t < (c.length : Int); omega), if_pos (by omega), decide_eq_true (by omega)]
      simp
    · rw [if_neg q, if_neg (show ¬ (0 : Int) ≤ -1 by decide)]
      by_cases q1 : 0 ≤ x ∧ x < a
      · rw [show (decide (0 ≤ x) && decide (x ≤ (a : Int) - 1)) = true by simp; omega, show (decide (0 ≤ y) && decide (y ≤ (b : Int) - 1)) = false by simp; omega]
        rw [if_pos (show (!!true) = true from rfl), Option.bind_some, if_pos (by simp)]; rfl
      · rw [show (decide (0 ≤ x) && decide (x ≤ (a : Int) - 1)) = false by simp; omega]
        rw [if_neg (by simp), Option.bind_some, if_pos (by simp)]; rfl
  · rw [if_pos (by simp; omega)]
    have : tgt a b g dir = -1 := by
      unfold tgt
      rw [if_neg (by omega), if_neg (by omega), if_neg (by omega), if_neg (by omega)]
    rw [this, if_neg (by omega)]; rfl
end Go.Proofs.Ytkpkkdpfcbnfdaa
