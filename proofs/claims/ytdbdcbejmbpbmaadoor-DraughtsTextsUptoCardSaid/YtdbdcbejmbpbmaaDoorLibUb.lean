/-
  A small library of our own: arguments whose bulk is bounded.
-/
import Derived.Test.YtdbdcbejmbpbmaaDoorRows
import Derived.Test.YtdbdcbejmbpbmaaDoorLibSu
import Derived.Test.YtdbdcbejmbpbmaaDoorLibT
namespace Go.Proofs.YtdbdcbejmbpbmaaDoor
open Go Go.GL Go.RowKit Go.ChangeShapes Go.WideShapes Go.ChangeAt

theorem ub_one {H : Type} (d : DataW H) : 1 ≤ Rows.uptoBulk d := by
  cases d with
  | lit l => cases l <;> simp [Rows.uptoBulk]
  | nil => simp [Rows.uptoBulk]
  | ptr d => simp [Rows.uptoBulk]
  | slice elems spare => simp [Rows.uptoBulk]
  | agg parts => simp [Rows.uptoBulk]
  | iface t d => simp [Rows.uptoBulk]
  | map entries => simp [Rows.uptoBulk]
  | held h => simp [Rows.uptoBulk]
theorem ub_mem {H : Type} {d : DataW H} : ∀ {l : List (DataW H)}, d ∈ l → Rows.uptoBulk d ≤ Rows.uptoBulkAll l
  | [], h => by cases h
  | x :: r, h => by
    simp only [Rows.uptoBulkAll]
    rcases List.mem_cons.1 h with e | e
    · subst e; omega
    · have := ub_mem e; omega
theorem ub_len {H : Type} : ∀ l : List (DataW H), l.length ≤ Rows.uptoBulkAll l
  | [] => by simp [Rows.uptoBulkAll]
  | x :: r => by
    have := ub_one x
    have := ub_len r
    simp only [Rows.uptoBulkAll, List.length_cons]
    omega
theorem ub_slice {H : Type} (elems spare : List (DataW H)) : elems.length + 1 ≤ Rows.uptoBulk (.slice elems spare) ∧ Rows.uptoBulkAll elems + 1 ≤ Rows.uptoBulk (.slice elems spare) := by
  have h1 := ub_len elems
  simp only [Rows.uptoBulk]
  omega
theorem ub_text {H : Type} (s : List UInt8) : Rows.uptoBulk (DataW.lit (H := H) (.string s)) = s.length + 1 := by simp [Rows.uptoBulk]
theorem ub_bound {H : Type} {l : List (DataW H)} (hk : Rows.uptoSmall H l = true) : Rows.uptoBulkAll l ≤ 1048576 := of_decide_eq_true hk

section
variable {P : Program} {H : Type} {enc : TypeId × Value → H}
theorem openB_text {W : World} {b0 : Nat} {t : TypeId} {v : Value} {d : DataW H} {ps : List MemPlace} (ht : P.underlying t = some .string) (hval : Value.okWide P W .any b0 t v) (h : DataW.Trod enc P W 0 (fun _ => true) true t v d ps) :
    ∃ s : List UInt8, v = strV s ∧ s.length + 1 ≤ Rows.uptoBulk d := by
  obtain ⟨s, rfl⟩ := okWide_string ht hval
  obtain ⟨fuel, hf⟩ := h
  obtain ⟨s', hc, hx, hs⟩ := DataW.trod_string ht hf
  simp [Value.cells] at hc
  subst hc
  simp only [Prod.mk.injEq] at hx
  obtain ⟨rfl, _⟩ := hx
  exact ⟨s.data.toList, by simp [strV], by rw [ub_text]; omega⟩

theorem openB_rd {W : World} {b0 : Nat} {t e : TypeId} {v : Value} {d : DataW H} {ps : List MemPlace} (ht : P.underlying t = some (.slice e)) (he : P.underlying e = some (.int .i64)) (hc : P.cellsOf e = 1)
    (hval : Value.okWide P W .any b0 t v) (h : DataW.Trod enc P W 0 (fun _ => true) true t v d ps) (hlt : ∀ x ∈ ps, x.block < W.heap.size) :
    ∃ (A : Option Addr) (c : Nat) (l : List Int), v = .slice A l.length c ∧ Rd W W.heap.size A (vI l) ∧ l.length ≤ c ∧ l.length + 1 ≤ Rows.uptoBulk d ∧ ∀ x ∈ l, inI x := by
  obtain ⟨a0, len, cap, rfl⟩ := okWide_slice ht hval
  obtain ⟨fuel, hf⟩ := h
  rcases open_ints ht he hc hf with ⟨hcs, hx⟩ | ⟨a, len', cap', zs, hcs, _, hl, hm, hz, hx, hcell, hwz⟩
  · simp [Value.cells] at hcs
    obtain ⟨rfl, rfl, rfl⟩ := hcs
    exact ⟨none, 0, [], rfl, Rd.nil _ _ _, Nat.le_refl _, by have := ub_one d; simp; omega, by simp⟩
  · simp [Value.cells] at hcs
    obtain ⟨rfl, rfl, rfl⟩ := hcs
    simp only [Prod.mk.injEq] at hx
    obtain ⟨rfl, rfl⟩ := hx
    simp only [if_true] at hz
    have hlen : (zs.take len).length = len := by rw [List.length_take]; omega
    refine ⟨some a, cap, zs.take len, by rw [hlen], ?_, by omega, ?_, fun x hx => wf_inI (hwz x (List.mem_of_mem_take hx))⟩
    · intro i u hu
      simp only [vI, List.getElem?_map, Option.map_eq_some_iff] at hu
      obtain ⟨x, hx, rfl⟩ := hu
      have hil : i < len := by
        have := (List.getElem?_eq_some_iff.1 hx).1
        omega
      have hiz : i < zs.length := by omega
      rw [List.getElem?_take, if_pos hil] at hx
      refine ⟨a, rfl, ?_, ?_⟩
      · have hmem : MemPlace.cell a.block (a.off + 0) ∈ MemPlace.row a zs.length := MemPlace.mem_row.2 ⟨0, by omega, rfl⟩
        exact hlt _ hmem
      · rw [hcell i hiz]
        simp [List.getD_eq_getElem?_getD, hx]
    · have h1 := (ub_slice (H := H) (lits .i64 (zs.take len)) (lits .i64 (zs.drop len))).1
      have h2 : (lits (H := H) .i64 (zs.take len)).length = len := by simp only [lits, List.length_map]; exact hlen
      omega
end
end Go.Proofs.YtdbdcbejmbpbmaaDoor
