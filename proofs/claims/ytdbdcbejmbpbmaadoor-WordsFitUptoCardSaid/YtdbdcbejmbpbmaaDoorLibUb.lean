/-
  A small library of our own: arguments whose bulk is bounded.
-/
import Derived.Test.YtdbdcbejmbpbmaaDoorRows
import Derived.Test.YtdbdcbejmbpbmaaDoorLibSu
import Derived.Test.YtdbdcbejmbpbmaaDoorLibT
namespace Go.Proofs.YtdbdcbejmbpbmaaDoor
open Go Go.GL Go.RowKit Go.ChangeShapes Go.WideShapes Go.ChangeAt

theorem ub_one {H : Type} (d : DataW H) : 1 ≤ Rows.uptoBulk d := by
  cases d with
  | lit l => cases l <;> simp [Rows.uptoBulk]
  | nil => simp [Rows.uptoBulk]
  | ptr d => simp [Rows.uptoBulk]
  | slice elems spare => simp [Rows.uptoBulk]
  | agg parts => simp [Rows.uptoBulk]
  | iface t d => simp [Rows.uptoBulk]
  | map entries => simp [Rows.uptoBulk]
  | held h => simp [Rows.uptoBulk]
theorem ub_mem {H : Type} {d : DataW H} : ∀ {l : List (DataW H)}, d ∈ l → Rows.uptoBulk d ≤ Rows.uptoBulkAll l
  | [], h => by cases h
  | x :: r, h => by
    simp only [Rows.uptoBulkAll]
    rcases List.mem_cons.1 h with e | e
    · subst e; omega
    · have := ub_mem e; omega
theorem ub_len {H : Type} : ∀ l : List (DataW H), l.length ≤ Rows.uptoBulkAll l
  | [] => by simp [Rows.uptoBulkAll]
  | x :: r => by
    have := ub_one x
    have := ub_len r
    simp only [Rows.uptoBulkAll, List.length_cons]
    omega
theorem ub_slice {H : Type} (elems spare : List (DataW H)) : elems.length + 1 ≤ Rows.uptoBulk (.slice elems spare) ∧ Rows.uptoBulkAll elems + 1 ≤ Rows.uptoBulk (.slice elems spare) := by
  have h1 := ub_len elems
  simp only [Rows.uptoBulk]
  omega
theorem ub_text {H : Type} (s : List UInt8) : Rows.uptoBulk (DataW.lit (H := H) (.string s)) = s.length + 1 := by simp [Rows.uptoBulk]
theorem ub_bound {H : Type} {l : List (DataW H)} (hk : Rows.uptoSmall H l = true) : Rows.uptoBulkAll l ≤ 1048576 := of_decide_eq_true hk

section
variable {P : Program} {H : Type} {enc : TypeId × Value → H}
theorem openB_texts {W : World} {b0 : Nat} {t e : TypeId} {v : Value} {d : DataW H} {ps : List MemPlace} (ht : P.underlying t = some (.slice e)) (he : P.underlying e = some .string) (hc : P.cellsOf e = 1)
    (hval : Value.okWide P W .any b0 t v) (h : DataW.Trod enc P W 0 (fun _ => true) true t v d ps) (hlt : ∀ x ∈ ps, x.block < W.heap.size) :
    ∃ (A : Option Addr) (c : Nat) (l : List (List UInt8)), v = .slice A l.length c ∧ Rd W W.heap.size A (List.map strV l) ∧ l.length ≤ c ∧ l.length + 1 ≤ Rows.uptoBulk d ∧ ∀ x ∈ l, x.length ≤ Rows.uptoBulk d := by
  obtain ⟨a0, len, cap, rfl⟩ := okWide_slice ht hval
  obtain ⟨fuel, hf⟩ := h
  rcases Go.Deep.open_strs ht he hc hf with ⟨hcs, hx⟩ | ⟨a, len', cap', m, Sx, hcs, _, hl, hm, hmm, hx, hcell⟩
  · simp [Value.cells] at hcs
    obtain ⟨rfl, rfl, rfl⟩ := hcs
    exact ⟨none, 0, [], rfl, Rd.nil _ _ _, Nat.le_refl _, by have := ub_one d; simp; omega, by simp⟩
  · simp [Value.cells] at hcs
    obtain ⟨rfl, rfl, rfl⟩ := hcs
    simp only [if_true] at hmm
    subst hmm
    simp only [Prod.mk.injEq] at hx
    obtain ⟨rfl, rfl⟩ := hx
    have hlen : ((List.range len).map fun i => (Sx i).data.toList).length = len := by simp
    have hsl := ub_slice (H := H) ((List.range len).map fun i => .lit (.string (Sx i).data.toList)) ((List.range (m - len)).map fun j => .lit (.string (Sx (len + j)).data.toList))
    refine ⟨some a, m, (List.range len).map fun i => (Sx i).data.toList, by rw [hlen], ?_, by omega, ?_, ?_⟩
    · intro i u hu
      simp only [List.getElem?_map, Option.map_eq_some_iff] at hu
      obtain ⟨x, ⟨j, hj, rfl⟩, rfl⟩ := hu
      have hji : i < len ∧ j = i := by
        have := List.getElem?_eq_some_iff.1 hj
        obtain ⟨h1, h2⟩ := this
        simp at h1 h2
        exact ⟨h1, h2.symm⟩
      obtain ⟨hil, rfl⟩ := hji
      refine ⟨a, rfl, ?_, ?_⟩
      · have hmem : MemPlace.cell a.block (a.off + 0) ∈ MemPlace.row a m := MemPlace.mem_row.2 ⟨0, by omega, rfl⟩
        exact hlt _ hmem
      · rw [(hcell j (by omega)).1]
    · have := hsl.1
      simp only [List.length_map, List.length_range] at this
      rw [hlen]
      exact this
    · intro x hx
      obtain ⟨i, hi, rfl⟩ := List.mem_map.1 hx
      have h2 := ub_mem (H := H) (d := .lit (.string (Sx i).data.toList)) (l := (List.range len).map fun i => .lit (.string (Sx i).data.toList)) (List.mem_map.2 ⟨i, hi, rfl⟩)
      rw [ub_text] at h2
      have := hsl.2
      omega
end
end Go.Proofs.YtdbdcbejmbpbmaaDoor
