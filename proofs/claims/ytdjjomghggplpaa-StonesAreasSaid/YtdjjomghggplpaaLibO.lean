/-
  A small library of our own: arguments of more kinds, opened as the walks want them.
-/
import Derived.Test.YtdjjomghggplpaaLibT
import Derived.Lib.SmallJoins
namespace Go.GL
open Go Go.RowKit Go.ChangeShapes Go.WideShapes Go.ChangeAt
variable {Ds : List Nat} {ro : Option Nat}

section
variable {H : Type} {enc : TypeId × Value → H} {P : Program}

/-- A struct's fields, each by itself. -/
theorem open_fields {W : World} {b0 : Nat} {t : TypeId} {fs : Array Field} {v : Value} {d : DataW H} {ps : List MemPlace} (ht : P.underlying t = some (.struct fs))
    (hval : Value.okWide P W .any b0 t v) (h : DataW.Trod enc P W 0 (fun _ => true) true t v d ps) (hlt : ∀ x ∈ ps, x.block < W.heap.size) (hsz : (d.weights P t).all (· ≤ reachBytes) = true) :
    ∃ cs : Array Value, v = .agg cs ∧ cs.size = P.cellsOf t ∧ ∀ (i : Nat) (f : Field), fs[i]? = some f → ∃ (n : Nat) (y : DataW H × List MemPlace), DataW.trod enc P W 0 (fun _ => true) true n f.type ((cs.toList.drop f.offset).take (P.cellsOf f.type)) = some y ∧
      (∀ x ∈ y.2, x.block < W.heap.size) ∧ (y.1.weights P f.type).all (· ≤ reachBytes) = true := by
  obtain ⟨cs, rfl, hcs⟩ := okWide_struct ht hval
  obtain ⟨fuel, hf⟩ := h
  obtain ⟨xs, n, rfl, hx, hl, hxl, hi⟩ := DataW.trod_struct ht hf
  simp only [Prod.mk.injEq] at hx
  obtain ⟨rfl, rfl⟩ := hx
  refine ⟨cs, rfl, hcs, fun i f hfi => ?_⟩
  have hif : i < fs.size := (Array.getElem?_eq_some_iff.1 hfi).1
  have hy : xs[i]? = some xs[i] := List.getElem?_eq_getElem (by omega)
  refine ⟨n, xs[i], (hi i f hfi).trans hy, fun x hx => hlt x (List.mem_flatMap.2 ⟨_, List.getElem_mem _, hx⟩), ?_⟩
  rw [DataW.weights] at hsz
  simp only [ht] at hsz
  exact weights_at hsz i (by simpa using congrArg (Option.map Field.type) hfi) (by simpa using congrArg (Option.map Prod.fst) hy)

theorem arr3 {cs : Array Value} (h : cs.size = 3) : ∃ a b c, cs = #[a, b, c] := by
  rcases cs with ⟨l⟩
  match l, h with
  | [a, b, c], _ => exact ⟨a, b, c, rfl⟩
theorem cell_int {W : World} {n : Nat} {t : TypeId} {v : Value} {y : DataW H × List MemPlace} (ht : P.underlying t = some (.int .i64)) (h : DataW.trod enc P W 0 (fun _ => true) true n t [v] = some y) : ∃ x, v = .int .i64 x ∧ inI x := by
  obtain ⟨x, h1, _, h2⟩ := DataW.trod_int ht h
  injection h1 with h1 _
  exact ⟨x, h1, wf_inI h2⟩
/-- A cell that holds a slice of ints. -/
theorem cell_ints {W : World} {n : Nat} {t e : TypeId} {v : Value} {y : DataW H × List MemPlace} (ht : P.underlying t = some (.slice e)) (he : P.underlying e = some (.int .i64)) (hc : P.cellsOf e = 1) (hby : P.bytesOf e = 8)
    (h : DataW.trod enc P W 0 (fun _ => true) true n t [v] = some y) (hlt : ∀ x ∈ y.2, x.block < W.heap.size) (hsz : (y.1.weights P t).all (· ≤ reachBytes) = true) :
    ∃ (A : Option Addr) (c : Nat) (l : List Int), v = .slice A l.length c ∧ Rd W W.heap.size A (vI l) ∧ l.length ≤ c ∧ l.length ≤ 17592186043904 ∧ ∀ x ∈ l, inI x := by
  rcases open_ints ht he hc h with ⟨hcs, hx⟩ | ⟨a, len', cap', zs, hcs, _, hl, hm, hz, hx, hcell, hwz⟩
  · injection hcs with hcs _
    subst hcs
    exact ⟨none, 0, [], rfl, Rd.nil _ _ _, Nat.le_refl _, by simp, by simp⟩
  · injection hcs with hcs _
    subst hcs
    subst hx
    simp only [if_true] at hz
    have hlen : (zs.take len').length = len' := by rw [List.length_take]; omega
    refine ⟨some a, cap', zs.take len', by rw [hlen], ?_, by omega, ?_, fun x hx => wf_inI (hwz x (List.mem_of_mem_take hx))⟩
    · intro i u hu
      simp only [vI, List.getElem?_map, Option.map_eq_some_iff] at hu
      obtain ⟨x, hx, rfl⟩ := hu
      have hil : i < len' := by
        have := (List.getElem?_eq_some_iff.1 hx).1
        omega
      have hiz : i < zs.length := by omega
      rw [List.getElem?_take, if_pos hil] at hx
      refine ⟨a, rfl, ?_, ?_⟩
      · have hmem : MemPlace.cell a.block (a.off + 0) ∈ MemPlace.row a zs.length := MemPlace.mem_row.2 ⟨0, by omega, rfl⟩
        exact hlt _ hmem
      · rw [hcell i hiz]
        simp [List.getD_eq_getElem?_getD, hx]
    · rw [hlen]
      rw [DataW.weights] at hsz
      simp only [ht, List.all_cons, Bool.and_eq_true, decide_eq_true_eq] at hsz
      have h1 := hsz.1
      rw [hby] at h1
      simp only [lits, List.length_map, List.length_take, List.length_drop, reachBytes] at h1
      omega
end
end Go.GL
