/-
  A small library of our own: arguments whose bulk is bounded.
-/
import Derived.Test.YtdbdcbejmbpbmaaDoorRows
import Derived.Test.YtdbdcbejmbpbmaaDoorLibSu
import Derived.Test.YtdbdcbejmbpbmaaDoorLibT
namespace Go.Proofs.YtdbdcbejmbpbmaaDoor
open Go Go.GL Go.RowKit Go.ChangeShapes Go.WideShapes Go.ChangeAt

theorem ub_mem {H : Type} {d : DataW H} : ∀ {l : List (DataW H)}, d ∈ l → Rows.uptoBulk d ≤ Rows.uptoBulkAll l
  | [], h => by cases h
  | x :: r, h => by
    simp only [Rows.uptoBulkAll]
    rcases List.mem_cons.1 h with e | e
    · subst e; omega
    · have := ub_mem e; omega
theorem ub_text {H : Type} (s : List UInt8) : Rows.uptoBulk (DataW.lit (H := H) (.string s)) = s.length + 1 := by simp [Rows.uptoBulk]
theorem ub_bound {H : Type} {l : List (DataW H)} (hk : Rows.uptoSmall H l = true) : Rows.uptoBulkAll l ≤ 1048576 := of_decide_eq_true hk

section
variable {P : Program} {H : Type} {enc : TypeId × Value → H}
theorem openB_text {W : World} {b0 : Nat} {t : TypeId} {v : Value} {d : DataW H} {ps : List MemPlace} (ht : P.underlying t = some .string) (hval : Value.okWide P W .any b0 t v) (h : DataW.Trod enc P W 0 (fun _ => true) true t v d ps) :
    ∃ s : List UInt8, v = strV s ∧ s.length + 1 ≤ Rows.uptoBulk d := by
  obtain ⟨s, rfl⟩ := okWide_string ht hval
  obtain ⟨fuel, hf⟩ := h
  obtain ⟨s', hc, hx, hs⟩ := DataW.trod_string ht hf
  simp [Value.cells] at hc
  subst hc
  simp only [Prod.mk.injEq] at hx
  obtain ⟨rfl, _⟩ := hx
  exact ⟨s.data.toList, by simp [strV], by rw [ub_text]; omega⟩

end
end Go.Proofs.YtdbdcbejmbpbmaaDoor
