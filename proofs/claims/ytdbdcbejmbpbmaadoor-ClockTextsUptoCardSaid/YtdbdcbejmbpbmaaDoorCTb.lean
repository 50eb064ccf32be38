/-
  ClockTexts: a text in parts, and numbers read.
-/
import Derived.Test.YtdbdcbejmbpbmaaDoorCTa
import Derived.Lib.AtoiTie
namespace Go.Proofs.YtdbdcbejmbpbmaaDoor
open Go Go.GL

/-- A text cut at a sign. -/
def spC (c : UInt8) : List UInt8 → List (List UInt8)
  | [] => [[]]
  | b :: l => if b = c then [] :: spC c l else (b :: (spC c l).headD []) :: (spC c l).tail
theorem spC_ne (c : UInt8) : ∀ s, spC c s ≠ []
  | [] => by simp [spC]
  | b :: l => by unfold spC; split <;> simp
theorem index_one_cons_ne {b c : UInt8} (h : b ≠ c) (l : List UInt8) : Lib.index (b :: l) [c] = if Lib.index l [c] == -1 then -1 else Lib.index l [c] + 1 := by
  show (if [c].isPrefixOf (b :: l) then (0 : Int) else _) = _
  rw [if_neg (by simp [List.isPrefixOf, Ne.symm h])]
theorem index_one_cons_eq (c : UInt8) (l : List UInt8) : Lib.index (c :: l) [c] = 0 := by
  show (if [c].isPrefixOf (c :: l) then (0 : Int) else _) = _
  rw [if_pos (by simp [List.isPrefixOf])]
theorem splitK_spC (c : UInt8) : ∀ s : List UInt8, Lib.splitK [c] 0 (Lib.count s [c]) s = spC c s
  | [] => by
    rw [Lib.count_one]
    rfl
  | b :: l => by
    have ih := splitK_spC c l
    by_cases h : b = c
    · subst h
      rw [Lib.count_cons_eq, Nat.add_comm]
      unfold Lib.splitK spC
      rw [index_one_cons_eq, if_pos rfl, if_neg (by decide), ← ih]
      rfl
    · rw [Lib.count_cons_ne _ _ _ h]
      unfold spC
      rw [if_neg h]
      cases k : Lib.count l [c] with
      | zero =>
        rw [k] at ih
        rw [← ih]
        rfl
      | succ k' =>
        rw [k] at ih
        have hi : ¬ (Lib.index l [c] == -1) = true := fun e => by
          have := Lib.count_miss (beq_iff_eq.1 e)
          omega
        have hge := Lib.index_ge l [c]
        have hne : Lib.index l [c] ≠ -1 := fun e => hi (by rw [e]; rfl)
        unfold Lib.splitK at ih ⊢
        rw [if_neg hi] at ih
        rw [index_one_cons_ne h, if_neg hi, ← ih]
        rw [if_neg (by intro e; have := beq_iff_eq.1 e; omega)]
        simp only [List.headD_cons, List.tail_cons]
        have e1 : (Lib.index l [c] + 1).toNat = (Lib.index l [c]).toNat + 1 := by omega
        rw [e1]
        simp
theorem splitM_spC (s : List UInt8) (c : UInt8) : splitM s [c] = spC c s := by
  rw [← splitK_spC]
  unfold splitM
  congr 1

theorem spC_no {c : UInt8} : ∀ {s : List UInt8}, c ∉ s → spC c s = [s]
  | [], _ => rfl
  | b :: l, h => by
    have h1 : c ∉ l := fun e => h (List.mem_cons_of_mem _ e)
    have h2 : b ≠ c := fun e => h (by rw [e]; exact List.mem_cons_self ..)
    unfold spC
    rw [if_neg h2, spC_no h1]
    rfl
theorem spC_app {c : UInt8} {r : List UInt8} : ∀ {s : List UInt8}, c ∉ s → spC c (s ++ c :: r) = s :: spC c r
  | [], _ => by
    rw [List.nil_append]
    conv => lhs; unfold spC
    rw [if_pos rfl]
  | b :: l, h => by
    have h1 : c ∉ l := fun e => h (List.mem_cons_of_mem _ e)
    have h2 : b ≠ c := fun e => h (by rw [e]; exact List.mem_cons_self ..)
    rw [List.cons_append]
    conv => lhs; unfold spC
    rw [if_neg h2, spC_app h1]
    rfl
theorem spC_len (c : UInt8) : ∀ s : List UInt8, (spC c s).length = s.count c + 1
  | [] => rfl
  | b :: l => by
    have ih := spC_len c l
    have hne := spC_ne c l
    unfold spC
    by_cases h : b = c
    · subst h
      rw [if_pos rfl, List.length_cons, ih, List.count_cons_self]
    · rw [if_neg h, List.length_cons, List.length_tail, ih, List.count_cons_of_ne h]
      omega
theorem spC_mem_len (c : UInt8) : ∀ (s : List UInt8) p, p ∈ spC c s → p.length ≤ s.length
  | [], p, h => by
    simp [spC] at h
    subst h
    simp
  | b :: l, p, h => by
    have ih := spC_mem_len c l
    unfold spC at h
    split at h
    · rcases List.mem_cons.1 h with e | e
      · subst e; simp
      · have := ih p e
        simp; omega
    · rcases List.mem_cons.1 h with e | e
      · subst e
        have hm : (spC c l).headD [] ∈ spC c l := by
          cases q : spC c l with
          | nil => exact absurd q (spC_ne c l)
          | cons x r => simp
        have := ih _ hm
        simp only [List.length_cons]; omega
      · have := ih p (List.mem_of_mem_tail e)
        simp; omega

theorem dg_ne {n : Nat} (h : n < 10) : dg n ≠ 58 ∧ dg n ≠ 46 := by
  have : ∀ n < 10, dg n ≠ 58 ∧ dg n ≠ 46 := by decide
  exact this n h
theorem D1_no {n : Nat} (h : n < 100) : (58 : UInt8) ∉ D1 n ∧ (46 : UInt8) ∉ D1 n := by
  unfold D1
  split
  · have := dg_ne (n := n) (by omega)
    simp [Ne.symm this.1, Ne.symm this.2]
  · have h1 := dg_ne (n := n / 10) (by omega)
    have h2 := dg_ne (n := n % 10) (by omega)
    simp [Ne.symm h1.1, Ne.symm h1.2, Ne.symm h2.1, Ne.symm h2.2]
theorem D2_no {n : Nat} (h : n < 100) : (58 : UInt8) ∉ D2 n ∧ (46 : UInt8) ∉ D2 n := by
  unfold D2
  have h1 := dg_ne (n := n / 10) (by omega)
  have h2 := dg_ne (n := n % 10) (by omega)
  simp [Ne.symm h1.1, Ne.symm h1.2, Ne.symm h2.1, Ne.symm h2.2]

/-- Is a colon in it? -/
theorem TT_colon {t : Nat} (h : t ≤ 36000000) : 58 ∈ TT t ↔ 60000 ≤ t := by
  unfold TT
  split
  · constructor
    · intro _; omega
    · intro _; simp
  · split
    · constructor
      · intro _; omega
      · intro _; simp
    · constructor
      · intro e
        rcases List.mem_append.1 e with e | e
        · exact absurd e (D1_no (by omega)).1
        · rcases List.mem_cons.1 e with e | e
          · exact absurd e (by decide)
          · exact absurd e (D1_no (by omega)).1
      · intro _; omega

set_option maxRecDepth 100000 in
theorem atoi_one : ∀ a < 10, atoiN [dg a] = (a : Int) ∧ atoiE [dg a] = false := by decide +kernel
set_option maxRecDepth 100000 in
theorem atoi_two : ∀ a < 10, ∀ b < 10, atoiN [dg a, dg b] = ((10 * a + b : Nat) : Int) ∧ atoiE [dg a, dg b] = false := by decide +kernel
theorem atoi_D1 {n : Nat} (h : n < 100) : atoiN (D1 n) = (n : Int) ∧ atoiE (D1 n) = false := by
  unfold D1
  split
  · rename_i q
    exact atoi_one n q
  · have := atoi_two (n / 10) (by omega) (n % 10) (by omega)
    rw [show 10 * (n / 10) + n % 10 = n by omega] at this
    exact this
theorem atoi_D2 {n : Nat} (h : n < 100) : atoiN (D2 n) = (n : Int) ∧ atoiE (D2 n) = false := by
  unfold D2
  have := atoi_two (n / 10) (by omega) (n % 10) (by omega)
  rw [show 10 * (n / 10) + n % 10 = n by omega] at this
  exact this
def inBd (s : List UInt8) : Bool := atoiE s || (decide (-99 ≤ atoiN s) && decide (atoiN s ≤ 99))
set_option maxRecDepth 100000 in
theorem bd1 : ∀ a < 256, inBd [UInt8.ofNat a] = true := by decide +kernel
set_option maxRecDepth 100000 in
theorem bd2 : ∀ a < 256, ∀ b < 256, inBd [UInt8.ofNat a, UInt8.ofNat b] = true := by decide +kernel
theorem atoi_bd {p : List UInt8} (h : p.length ≤ 2) (he : atoiE p = false) : -99 ≤ atoiN p ∧ atoiN p ≤ 99 := by
  have key : inBd p = true := by
    match p, h with
    | [], _ => exact (by decide +kernel : inBd [] = true)
    | [a], _ =>
      have := bd1 a.toNat a.toNat_lt
      rwa [UInt8.ofNat_toNat] at this
    | [a, b], _ =>
      have := bd2 a.toNat a.toNat_lt b.toNat b.toNat_lt
      rwa [UInt8.ofNat_toNat, UInt8.ofNat_toNat] at this
  unfold inBd at key
  rw [he, Bool.false_or, Bool.and_eq_true] at key
  exact ⟨of_decide_eq_true key.1, of_decide_eq_true key.2⟩
end Go.Proofs.YtdbdcbejmbpbmaaDoor
