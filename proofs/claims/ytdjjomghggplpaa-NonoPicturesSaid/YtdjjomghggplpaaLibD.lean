/-
  copy and clear, where what is written to is a row of the call's own.
-/
import Derived.Test.YtdjjomghggplpaaLibW
import Derived.Laws.IdiomCopy
namespace Go.GL
open Go Go.RowKit
variable {Ds : List Nat} {ro : Option Nat}

/-- A list with a part written over from place lo on. -/
def putL {α : Type} (m : List α) (lo : Nat) (ys : List α) : List α := m.take lo ++ ys ++ m.drop (lo + ys.length)

theorem putL_length {α : Type} {m ys : List α} {lo : Nat} (h : lo + ys.length ≤ m.length) : (putL m lo ys).length = m.length := by
  unfold putL
  simp only [List.length_append, List.length_take, List.length_drop]
  omega
theorem putL_get {α : Type} {m ys : List α} {lo j : Nat} (h : lo + ys.length ≤ m.length) : (putL m lo ys)[j]? = if lo ≤ j ∧ j < lo + ys.length then ys[j - lo]? else m[j]? := by
  unfold putL
  have h1 : (m.take lo).length = lo := by rw [List.length_take]; omega
  rw [List.append_assoc]
  rcases Nat.lt_or_ge j lo with h2 | h2
  · rw [List.getElem?_append_left (by omega), List.getElem?_take, if_pos h2, if_neg (by omega)]
  · rw [List.getElem?_append_right (by omega), h1]
    rcases Nat.lt_or_ge j (lo + ys.length) with h3 | h3
    · rw [List.getElem?_append_left (by omega), if_pos ⟨h2, h3⟩]
    · rw [List.getElem?_append_right (by omega), if_neg (by omega), List.getElem?_drop]
      congr 1; omega
theorem putL_nil {α : Type} {m : List α} {lo : Nat} : putL m lo [] = m := by unfold putL; simp

theorem setCells_len : ∀ (vs xs : List Value) (s : Nat), (setCells xs s vs).length = xs.length
  | [], _, _ => rfl
  | v :: vs, xs, s => by rw [setCells, setCells_len vs, List.length_set]
theorem setCells_vI {m ys : List Int} {lo : Nat} (h : lo + ys.length ≤ m.length) : setCells (vI m) lo (vI ys) = vI (putL m lo ys) := by
  apply List.ext_getElem?
  intro j
  rw [setCells_get _ _ _ _ (by simpa [vI] using h)]
  unfold vI
  simp only [List.getElem?_map, List.length_map]
  rw [putL_get h]
  split <;> rfl

variable {P : Program} {w0 w : World} {B : Nat} {l r : List HP} {e t t2 ty : TypeId} {inf : TypeInfo} {A A2 : Option Addr} {n c c2 dn dc n2 : Nat} {lo : Int} {m ys : List Int}

/-- Cells stored into a row of the call's own. -/
theorem own_store {g : Nat} {us : List Value} {xs : List Value} {s : Nat} (hS : Sep w0 B w (l ++ own e (.slice (some ⟨g, 0, none⟩) n c) xs :: r)) (h1 : ∀ u ∈ us, u.oneCell' = true) (h2 : s + us.length ≤ xs.length) :
    ∃ w', (storeCells ⟨g, s, none⟩ us 0).run P w = .ok () w' ∧ Sep w0 B w' (l ++ own e (.slice (some ⟨g, 0, none⟩) n c) (setCells xs s us) :: r) := by
  obtain ⟨f, ⟨hf, hf2⟩, hfb⟩ := hS.get
  have hn : n = xs.length := own_len ⟨hf, hf2⟩
  subst hn
  obtain ⟨w', h3, h4, h5⟩ := ownK_stores (P := P) us 0 s w xs hf h1 (by omega)
  rw [Nat.add_zero] at h4
  refine ⟨w', h3, hS.upd fun f' hf' hb' => ?_⟩
  have hff : f' = [g] := by rw [hf'.2]; simp [Value.ownBlock]
  exact ⟨[g], ⟨by rw [setCells_len]; exact h4, by simp [Value.ownBlock]⟩, by rw [hff]; simpa using Ex.of_grown h5, fun j hj => .inl (by rw [hff]; exact hj), fun j hj => Nat.lt_of_lt_of_le (hb' j (by rw [hff]; exact hj)).2 h5.size⟩

theorem own_addr {xs : List Value} (hS : Sep w0 B w (l ++ own e (.slice A n c) xs :: r)) (h : 0 < xs.length) : (∃ g, A = some ⟨g, 0, none⟩) ∧ xs.length ≤ c := by
  obtain ⟨f, ⟨hf, hf2⟩, hfb⟩ := hS.get
  rcases hf.2 with ⟨_, h2⟩ | ⟨g, cap, cur, hv, _, hg, h1, _⟩
  · omega
  · injection hv with hA hn hc
    exact ⟨⟨g, hA⟩, by omega⟩

/-- copy(d, s): d a part of a row of the call's own. -/
theorem run_copyI (hS : Sep w0 B w (l ++ own e (.slice A m.length c) (vI m) :: r)) (hr : Rd w w.heap.size A2 (vI ys)) (hn : n2 = ys.length)
    (ht : P.underlying t = some (.slice e)) (hi : P.info? e = some inf) (hs : inf.size = 1) (hb : 0 ≤ lo ∧ lo + dn ≤ (m.length : Int)) :
    ∃ w', (vS (Builtin.copy_ #[t, t2] ty #[.slice (cutAddr A c lo) dn dc, .slice A2 n2 c2])).run P w = .ok (.value (.int .i64 (minI (dn : Int) (n2 : Int)))) w' ∧ Sep w0 B w' (l ++ own e (.slice A (putL m lo.toNat (ys.take dn)).length c) (vI (putL m lo.toNat (ys.take dn))) :: r) := by
  subst hn
  have hmin : minI (dn : Int) (ys.length : Int) = ((Nat.min ys.length dn : Nat) : Int) := by
    unfold minI
    show _ = ((min ys.length dn : Nat) : Int)
    split <;> omega
  have hlen : (ys.take dn).length = Nat.min ys.length dn := by
    rw [List.length_take]; show min dn ys.length = min ys.length dn; omega
  have hle : Nat.min ys.length dn ≤ dn := Nat.min_le_right _ _
  have hsz : (P.info? e).map (·.size) = some 1 := by rw [hi, Option.map_some, hs]
  rw [hmin]
  by_cases h0 : Nat.min ys.length dn = 0
  · have he : ys.take dn = [] := List.eq_nil_of_length_eq_zero (by rw [hlen, h0])
    rw [he, putL_nil, h0]
    exact ⟨w, vS_run (run_copy_none w t t2 ty e _ _ dn dc ys.length c2 ht hsz h0), hS⟩
  · have hml : 0 < m.length := by omega
    obtain ⟨⟨g, rfl⟩, hcap⟩ := own_addr hS (by simpa [vI] using hml)
    simp only [vI, List.length_map] at hcap
    have hy0 : 0 < ys.length := by
      have : Nat.min ys.length dn ≤ ys.length := Nat.min_le_left _ _
      omega
    obtain ⟨ad, rfl, _, _⟩ := hr 0 (.int .i64 (ys.getD 0 0)) (by simp [vI, List.getD_eq_getElem?_getD, hy0])
    have hput : (putL m lo.toNat (ys.take dn)).length = m.length := putL_length (by rw [hlen]; omega)
    obtain ⟨w', h3, h4⟩ := own_store (P := P) (us := vI (ys.take dn)) (s := lo.toNat) hS (vI_one _) (by simp only [vI, List.length_map]; rw [hlen]; omega)
    rw [setCells_vI (by rw [hlen]; omega)] at h4
    refine ⟨w', vS_run ?_, by rw [hput]; exact h4⟩
    have hl := run_loadCells_list (P := P) w ad (vI (ys.take dn)) (fun j v hv => by
      have hj : j < dn := by
        rcases Nat.lt_or_ge j dn with q | q
        · exact q
        · rw [List.getElem?_eq_none (by simp [vI]; omega)] at hv; cases hv
      obtain ⟨ad', e1, _, hc⟩ := hr j v (by
        simp only [vI, List.map_take] at hv ⊢
        rw [List.getElem?_take, if_pos hj] at hv
        exact hv)
      injection e1 with e1
      subst e1
      exact hc)
    have h3' : (storeCells ⟨g, lo.toNat, none⟩ (List.take dn (List.map (Value.int .i64) ys)) 0).run P w = .ok () w' := by simpa [vI, List.map_take] using h3
    have hvl : (vI (ys.take dn)).length = Nat.min ys.length dn := by simp only [vI, List.length_map]; exact hlen
    rw [hvl] at hl
    have hcut : cutAddr (some (⟨g, 0, none⟩ : Addr)) c lo = some ⟨g, lo.toNat, none⟩ := by
      unfold cutAddr
      rw [if_neg (by omega)]
      simp [Addr.add]
      omega
    rw [hcut]
    simp [Builtin.copy_, run_underlying ht, Builtin.lenOf, Builtin.firstCells, sizeOf, typeInfo, hi, hs, hl, h3', goInt]

theorem cutAddr_zero (A : Option Addr) (c : Nat) : cutAddr A c 0 = A := by
  unfold cutAddr
  split
  · rfl
  · cases A <;> rfl
/-- copy(d, s): d a part of a row of the call's own. -/
theorem run_copyN (hS : Sep w0 B w (l ++ own e (.slice A n c) (vI m) :: r)) (hr : Rd w w.heap.size A2 (vI ys)) (hn : n2 = ys.length)
    (ht : P.underlying t = some (.slice e)) (hi : P.info? e = some inf) (hs : inf.size = 1) (hb : 0 ≤ lo ∧ lo + dn ≤ (n : Int)) :
    ∃ w', (vS (Builtin.copy_ #[t, t2] ty #[.slice (cutAddr A c lo) dn dc, .slice A2 n2 c2])).run P w = .ok (.value (.int .i64 (minI (dn : Int) (n2 : Int)))) w' ∧ Sep w0 B w' (l ++ own e (.slice A n c) (vI (putL m lo.toNat (ys.take dn))) :: r) := by
  have hnm : n = m.length := by
    obtain ⟨f, hf, _⟩ := hS.get
    have := own_len hf
    simpa [vI] using this
  subst hnm
  have h := run_copyI (dc := dc) (c2 := c2) (t2 := t2) (ty := ty) hS hr hn ht hi hs hb
  obtain ⟨w', h1, h2⟩ := h
  refine ⟨w', h1, ?_⟩
  have hput : (putL m lo.toNat (ys.take dn)).length = m.length := putL_length (by rw [List.length_take]; omega)
  rwa [hput] at h2
theorem run_copyC {hi' : Int} (hS : Sep w0 B w (l ++ own e (.slice A n c) (vI m) :: r)) (hr : Rd w w.heap.size A2 (vI ys)) (hn : n2 = ys.length)
    (ht : P.underlying t = some (.slice e)) (hi : P.info? e = some inf) (hs : inf.size = 1) (hb : 0 ≤ lo ∧ lo ≤ hi' ∧ hi' ≤ (m.length : Int)) :
    ∃ w', (vS (Builtin.copy_ #[t, t2] ty #[.slice (cutAddr A c lo) (cut m lo hi').length dc, .slice A2 n2 c2])).run P w = .ok (.value (.int .i64 (minI ((cut m lo hi').length : Int) (n2 : Int)))) w' ∧ Sep w0 B w' (l ++ own e (.slice A n c) (vI (putL m lo.toNat (ys.take (cut m lo hi').length))) :: r) := by
  have hnm : n = m.length := by
    obtain ⟨f, hf, _⟩ := hS.get
    have := own_len hf
    simpa [vI] using this
  refine run_copyN hS hr hn ht hi hs ?_
  rw [cut_length hb.1 hb.2.1 hb.2.2]
  omega
/-- copy(d, s): d the whole of a row of the call's own. -/
theorem run_copy0 (hS : Sep w0 B w (l ++ own e (.slice A n c) (vI m) :: r)) (hr : Rd w w.heap.size A2 (vI ys)) (hn : n2 = ys.length)
    (ht : P.underlying t = some (.slice e)) (hi : P.info? e = some inf) (hs : inf.size = 1) :
    ∃ w', (vS (Builtin.copy_ #[t, t2] ty #[.slice A n c, .slice A2 n2 c2])).run P w = .ok (.value (.int .i64 (minI (n : Int) (n2 : Int)))) w' ∧ Sep w0 B w' (l ++ own e (.slice A n c) (vI (putL m 0 (ys.take n))) :: r) := by
  have h := run_copyN (lo := 0) (dn := n) (dc := c) (c2 := c2) (t2 := t2) (ty := ty) hS hr hn ht hi hs (by omega)
  rw [cutAddr_zero] at h
  exact h

section
variable {P : Program} {Q : Exit → Act → World → Prop} {n : Nat} {ρ : Env} {a : Act} {w : World}
end
end Go.GL
