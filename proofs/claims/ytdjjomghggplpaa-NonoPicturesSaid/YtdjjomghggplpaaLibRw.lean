/-
  A small library of our own: an argument that is a slice of slices of ints, opened.
-/
import Derived.Test.YtdjjomghggplpaaLibO
import Derived.Test.YtdjjomghggplpaaLibU
namespace Go.GL
open Go Go.RowKit Go.ChangeShapes Go.WideShapes Go.ChangeAt

section
variable {H : Type} {enc : TypeId × Value → H} {P : Program}

theorem weightsAll_mem {e : TypeId} {d : DataW H} : ∀ {l : List (DataW H)}, d ∈ l → (DataW.weightsAll P e l).all (· ≤ reachBytes) = true → (d.weights P e).all (· ≤ reachBytes) = true
  | x :: l, hm, h => by
    rw [DataW.weightsAll, List.all_append, Bool.and_eq_true] at h
    rcases List.mem_cons.1 hm with rfl | hm
    · exact h.1
    · exact weightsAll_mem hm h.2

/-- An argument that is a slice of slices of ints. -/
theorem open_rows {W : World} {b0 : Nat} {t e ei : TypeId} {v : Value} {d : DataW H} {ps : List MemPlace} (ht : P.underlying t = some (.slice e)) (he : P.underlying e = some (.slice ei)) (hi : P.underlying ei = some (.int .i64)) (hc : P.cellsOf e = 1) (hby : P.bytesOf e = 24) (hci : P.cellsOf ei = 1) (hbi : P.bytesOf ei = 8)
    (hval : Value.okWide P W .any b0 t v) (h : DataW.Trod enc P W 0 (fun _ => true) true t v d ps) (hlt : ∀ x ∈ ps, x.block < W.heap.size)
    (hsz : (d.weights P t).all (· ≤ reachBytes) = true) :
    ∃ (A : Option Addr) (c : Nat) (hd : List Hd) (l : List (List Int)), v = .slice A l.length c ∧ RdRows W W.heap.size A hd l ∧ l.length ≤ c ∧ l.length ≤ 5864062014634 ∧ ∀ r ∈ l, r.length ≤ 17592186043904 ∧ ∀ x ∈ r, inI x := by
  obtain ⟨a0, len, cap, rfl⟩ := okWide_slice ht hval
  obtain ⟨fuel, hf⟩ := h
  rcases Deep.open_slice1 ht hc hf with ⟨hcs, hx⟩ | ⟨a, len', cap', m, n, V, D, Pl, hcs, _, hl, _, hm, hx, hcell⟩
  · simp [Value.cells] at hcs
    obtain ⟨rfl, rfl, rfl⟩ := hcs
    exact ⟨none, 0, [], [], rfl, ⟨rfl, Rd.nil _ _ _, fun i hi => by simp at hi; omega⟩, Nat.le_refl _, by simp, by simp⟩
  · simp [Value.cells] at hcs
    obtain ⟨rfl, rfl, rfl⟩ := hcs
    simp only [Prod.mk.injEq] at hx
    obtain ⟨rfl, rfl⟩ := hx
    simp only [if_true] at hm
    subst hm
    rw [DataW.weights] at hsz
    simp only [ht, List.all_cons, Bool.and_eq_true, decide_eq_true_eq] at hsz
    have hin : ∀ i, i < len → ∃ x : Hd × List Int, V i = .slice x.1.1 x.2.length x.1.2 ∧ Rd W W.heap.size x.1.1 (vI x.2) ∧ x.2.length ≤ x.1.2 ∧ x.2.length ≤ 17592186043904 ∧ ∀ y ∈ x.2, inI y := fun i hi' => by
      obtain ⟨h1, h2⟩ := hcell i (by omega)
      obtain ⟨A, c, l, e1, e2, e3, e4, e5⟩ := cell_ints he hi hci hbi h2 (fun x hx => hlt x (List.mem_append_right _ (List.mem_flatMap.2 ⟨i, List.mem_range.2 (by omega), hx⟩))) (weightsAll_mem (l := (List.range len).map D) (List.mem_map.2 ⟨i, List.mem_range.2 hi', rfl⟩) ((Bool.and_eq_true _ _).mp ((congrArg (· = true) List.all_append).mp hsz.2)).1)
      exact ⟨((A, c), l), e1, e2, e3, e4, e5⟩
    obtain ⟨q, hq⟩ := Deep.choose_lt (α := Hd × List Int) (n := len) (p := fun i (x : Hd × List Int) => V i = .slice x.1.1 x.2.length x.1.2 ∧ Rd W W.heap.size x.1.1 (vI x.2) ∧ x.2.length ≤ x.1.2 ∧ x.2.length ≤ 17592186043904 ∧ ∀ y ∈ x.2, inI y) hin
    have hll : ((List.range len).map fun i => (q i).2).length = len := by rw [List.length_map, List.length_range]
    have hlh : ((List.range len).map fun i => (q i).1).length = len := by rw [List.length_map, List.length_range]
    have hgl : ∀ i, i < len → geti2 ((List.range len).map fun i => (q i).2) (i : Int) = (q i).2 := fun i hi' => by
      unfold geti2
      rw [Int.toNat_natCast, List.getD_eq_getElem?_getD, List.getElem?_map, List.getElem?_range hi']; rfl
    have hgh : ∀ i, i < len → ((List.range len).map fun i => (q i).1).getD i (none, 0) = (q i).1 := fun i hi' => by
      rw [List.getD_eq_getElem?_getD, List.getElem?_map, List.getElem?_range hi']; rfl
    have hvv : ∀ i, i < len → (hdV ((List.range len).map fun i => (q i).1) ((List.range len).map fun i => (q i).2))[i]? = some (V i) := fun i hi' => by
      unfold hdV
      rw [List.getElem?_zipWith, List.getElem?_map, List.getElem?_map, List.getElem?_range hi', (hq i hi').1]
      rfl
    have hvl : (hdV ((List.range len).map fun i => (q i).1) ((List.range len).map fun i => (q i).2)).length = len := by
      unfold hdV
      rw [List.length_zipWith, hll, hlh, Nat.min_self]
    refine ⟨some a, m, (List.range len).map fun i => (q i).1, (List.range len).map fun i => (q i).2, by rw [hll], ⟨by rw [hll, hlh], ?_, ?_⟩, by omega, ?_, ?_⟩
    · intro i u hu
      have hil : i < len := by
        have := (List.getElem?_eq_some_iff.1 hu).1
        omega
      rw [hvv i hil] at hu
      obtain rfl := Option.some.inj hu
      have hmem : MemPlace.cell a.block (a.off + 0) ∈ MemPlace.row a m := MemPlace.mem_row.2 ⟨0, by omega, rfl⟩
      exact ⟨a, rfl, hlt _ (List.mem_append_left _ hmem), (hcell i (by omega)).1⟩
    · intro i hi'
      rw [hll] at hi'
      obtain ⟨k, rfl⟩ : ∃ k : Nat, i = (k : Int) := ⟨i.toNat, by omega⟩
      have hk : k < len := by omega
      obtain ⟨_, h2, h3, _, _⟩ := hq k hk
      rw [hgl k hk]
      unfold hdA hdC
      rw [Int.toNat_natCast, hgh k hk]
      exact ⟨h2, h3⟩
    · rw [hll]
      have h1 := hsz.1
      rw [hby] at h1
      simp only [List.length_map, List.length_range, reachBytes] at h1
      omega
    · intro r hr
      obtain ⟨i, hi', rfl⟩ := List.mem_map.1 hr
      have := hq i (List.mem_range.1 hi')
      exact ⟨this.2.2.2.1, this.2.2.2.2⟩
end
end Go.GL
