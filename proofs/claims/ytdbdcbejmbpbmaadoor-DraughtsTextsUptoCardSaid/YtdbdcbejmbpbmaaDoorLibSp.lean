/-
  A text cut at a sign: plain facts.
-/
import Derived.Test.YtdbdcbejmbpbmaaDoorLibJo
namespace Go.GL
open Go
/-- A text cut at a sign. -/
def spC (c : UInt8) : List UInt8 → List (List UInt8)
  | [] => [[]]
  | b :: l => if b = c then [] :: spC c l else (b :: (spC c l).headD []) :: (spC c l).tail
theorem spC_ne (c : UInt8) : ∀ s, spC c s ≠ []
  | [] => by simp [spC]
  | b :: l => by unfold spC; split <;> simp
theorem index_one_cons_ne {b c : UInt8} (h : b ≠ c) (l : List UInt8) : Lib.index (b :: l) [c] = if Lib.index l [c] == -1 then -1 else Lib.index l [c] + 1 := by
  show (if [c].isPrefixOf (b :: l) then (0 : Int) else _) = _
  rw [if_neg (by simp [List.isPrefixOf, Ne.symm h])]
theorem index_one_cons_eq (c : UInt8) (l : List UInt8) : Lib.index (c :: l) [c] = 0 := by
  show (if [c].isPrefixOf (c :: l) then (0 : Int) else _) = _
  rw [if_pos (by simp [List.isPrefixOf])]
theorem spC_no {c : UInt8} : ∀ {s : List UInt8}, c ∉ s → spC c s = [s]
  | [], _ => rfl
  | b :: l, h => by
    have h1 : c ∉ l := fun e => h (List.mem_cons_of_mem _ e)
    have h2 : b ≠ c := fun e => h (by rw [e]; exact List.mem_cons_self ..)
    unfold spC
    rw [if_neg h2, spC_no h1]
    rfl
theorem spC_app {c : UInt8} {r : List UInt8} : ∀ {s : List UInt8}, c ∉ s → spC c (s ++ c :: r) = s :: spC c r
  | [], _ => by
    rw [List.nil_append]
    conv => lhs; unfold spC
    rw [if_pos rfl]
  | b :: l, h => by
    have h1 : c ∉ l := fun e => h (List.mem_cons_of_mem _ e)
    have h2 : b ≠ c := fun e => h (by rw [e]; exact List.mem_cons_self ..)
    rw [List.cons_append]
    conv => lhs; unfold spC
    rw [if_neg h2, spC_app h1]
    rfl
theorem spC_len (c : UInt8) : ∀ s : List UInt8, (spC c s).length = s.count c + 1
  | [] => rfl
  | b :: l => by
    have ih := spC_len c l
    have hne := spC_ne c l
    unfold spC
    by_cases h : b = c
    · subst h
      rw [if_pos rfl, List.length_cons, ih, List.count_cons_self]
    · rw [if_neg h, List.length_cons, List.length_tail, ih, List.count_cons_of_ne h]
      omega
theorem index_none {c : UInt8} {s : List UInt8} (h : c ∉ s) : indexM s [c] = -1 := by
  unfold indexM
  have hc : s.count c = 0 := List.count_eq_zero.2 h
  have := Lib.count_one c s
  rw [hc] at this
  refine Classical.byContradiction fun e => ?_
  have hge := Lib.index_ge s [c]
  obtain ⟨i, hi⟩ : ∃ i : Nat, Lib.index s [c] = i := ⟨(Lib.index s [c]).toNat, by omega⟩
  have := Lib.count_hit (by simp) hi
  omega
theorem index_at_ {c : UInt8} {r : List UInt8} : ∀ {a : List UInt8}, c ∉ a → indexM (a ++ c :: r) [c] = (a.length : Int)
  | [], _ => by unfold indexM; rw [List.nil_append, index_one_cons_eq]; rfl
  | b :: a, h => by
    have h1 : c ∉ a := fun e => h (List.mem_cons_of_mem _ e)
    have h2 : b ≠ c := fun e => h (by rw [e]; exact List.mem_cons_self ..)
    have ih := index_at_ (r := r) h1
    unfold indexM at ih ⊢
    rw [List.cons_append, index_one_cons_ne h2, ih, if_neg (by intro e; have := beq_iff_eq.1 e; omega)]
    simp
theorem contains_iff {c : UInt8} {s : List UInt8} : containsM s [c] = true ↔ c ∈ s := by
  unfold containsM Lib.contains
  rw [decide_eq_true_eq]
  constructor
  · intro h
    refine Classical.byContradiction fun e => ?_
    have := index_none e
    unfold indexM at this
    omega
  · intro h
    obtain ⟨a, r, rfl, ha⟩ := List.eq_append_cons_of_mem h
    have := index_at_ (r := r) ha
    unfold indexM at this
    omega
end Go.GL
