import Derived.Test.YtkpkkdpfcbnfdaaLibAP
namespace Go.GL
open Go Go.RowKit Go.ChangeShapes Go.WideShapes Go.ChangeAt
def bigT : Int := 5864062014805
section
variable {P : Program} {C : World → Prop} {hyps : List (Bool × Bool)} {w0 w : World} {B : Nat} {l r ps fs : List HP} {t e : TypeId} {inf : TypeInfo} {A : Option Addr} {n c k : Nat} {α : Type} {F : α → List Value} {m : List α} {i : Int}
theorem run_appK3 {ys : List α} {A2 : Option Addr} {m2 c2 : Nat} {z : Value} (hF : EncK F k) (hS : Sep w0 B w (l ++ ownK e k A n c (m.flatMap F) :: r)) (hr : Rd w w.heap.size A2 (ys.flatMap F)) (hm : m2 = ys.length) (ty : TypeId)
  (ht : P.underlying t = some (.slice e)) (hi : P.info? e = some inf) (hz : inf.zero = some z) (hs : inf.size = k) (hzs : z.cells.size = k) (hby : inf.bytes ≤ 24) (hl : (n : Int) + m2 ≤ bigT) :
  ∃ A' c' w', (vS (Builtin.append_ #[t, t] ty #[.slice A n c, .slice A2 m2 c2])).run P w = .ok (.value (.slice A' (m ++ ys).length c')) w' ∧ Sep w0 B w' (l ++ ownK e k A' (m ++ ys).length c' ((m ++ ys).flatMap F) :: r) := by
 have hn := hS.lenK hF
 obtain ⟨f, ⟨hf, hf2⟩, hfb⟩ := hS.get
 subst hm
 cases A2 with
 | none =>
  have hy : ys = [] := by
   cases ys with
   | nil => rfl
   | cons y ys => have := hr.someK hF (by simp); simp at this
  subst hy
  refine ⟨A, c, w, ?_, ?_⟩
  ·have h9 : (Builtin.append_ #[t, t] ty #[.slice A n c, .slice none 0 c2]).run P w = .ok (.slice A n c) w := by
    rcases hf.2 with ⟨hv, hn0⟩ | ⟨g, cap, cur, hv, _, _, hnc, _⟩
    ·injection hv with h1 h2 h3; subst h1; subst h2; subst h3
     simp [Builtin.append_, run_underlying ht, sizeOf, typeInfo, hi, Builtin.lenOf, Builtin.firstCells]
    ·injection hv with h1 h2 h3; subst h1; subst h3
     simp [Builtin.append_, run_underlying ht, sizeOf, typeInfo, hi, Builtin.lenOf, Builtin.firstCells, hnc, storeCells]
   have := vS_run h9
   simpa [hn] using this
  ·simpa [hn] using hS
 | some a =>
  have hcells : ∀ j u, (ys.flatMap F)[j]? = some u → w.cell? (a.add j) = some u := fun j u hu => by
   obtain ⟨ad, h, _, hc⟩ := hr j u hu
   injection h with h
   subst h
   exact hc
  have hb : (n + ys.length) * inf.bytes ≤ 140737488355328 := by
   have h2 : n + ys.length ≤ 5864062014805 := by unfold bigT at hl; omega
   calc (n + ys.length) * inf.bytes ≤ 5864062014805 * 24 := Nat.mul_le_mul h2 hby
    _ ≤ 140737488355328 := by decide
  obtain ⟨v', w', hrun, hown, hg, _, hbl⟩ := run_append_own_at (P := P) w 0 t ty e inf z k inf.bytes ht hi hz hs rfl hzs hF.pos (.slice A n c) n _ hf a ys.length c2 (ys.flatMap F) (by rw [flatMap_len hF]) hcells (flatMap_one hF)
   (by unfold maxLen; unfold bigT at hl; omega) hb (Nat.zero_le _)
  have hown' : w'.ownsRow 0 e k v' (m ++ ys).length ((m ++ ys).flatMap F) := by rw [List.length_append, List.flatMap_append, ← hn]; exact hown
  obtain ⟨A', c', rfl, _⟩ := own_formK hown'
  refine ⟨A', c', w', vS_run hrun, hS.upd fun f' hf' hb' => ⟨_, ⟨hown', rfl⟩, ?_, ?_, own_blockK hown'⟩⟩
  ·rw [hf'.2]; exact Ex.of_grown hg
  ·intro j hj
   rw [hf'.2]
   rcases hbl with h | h
   ·rw [h] at hj; exact .inl hj
   ·rw [h] at hj
    simp at hj
    exact .inr (by omega)
end
section
variable {H : Type} {enc : TypeId × Value → H} {P : Program}
theorem open_mvs {W : World} {b0 : Nat} {t e ei : TypeId} {f0 f1 f2 : Field} {v : Value} {d : DataW H} {ps : List MemPlace} (ht : P.underlying t = some (.slice e)) (he : P.underlying e = some (.struct #[f0, f1, f2])) (hi : P.underlying ei = some (.int .i64))
  (t0 : f0.type = ei) (t1 : f1.type = ei) (t2 : f2.type = ei) (o0 : f0.offset = 0) (o1 : f1.offset = 1) (o2 : f2.offset = 2) (hc : P.cellsOf e = 3) (hci : P.cellsOf ei = 1) (hby : P.bytesOf e = 24)
  (hval : Value.okWide P W .any b0 t v) (h : DataW.Trod enc P W 0 (fun _ => true) true t v d ps) (hlt : ∀ x ∈ ps, x.block < W.heap.size)
  (hsz : (d.weights P t).all (· ≤ reachBytes) = true) :
  ∃ (A : Option Addr) (c : Nat) (l : List (Int × Int × Int)), v = .slice A l.length c ∧ Rd W W.heap.size A (l.flatMap fun p => [Value.int .i64 p.1, Value.int .i64 p.2.1, Value.int .i64 p.2.2]) ∧ l.length ≤ c ∧ l.length ≤ 5864062014805 ∧ ∀ y ∈ l, inI y.1 ∧ inI y.2.1 ∧ inI y.2.2 := by
 obtain ⟨a0, len, cap, rfl⟩ := okWide_slice ht hval
 obtain ⟨fuel, hf⟩ := h
 rcases Deep.open_slice ht hf with ⟨hcs, hx⟩ | ⟨a, len', cap', m, n, D, Pl, hcs, _, hl, _, hm, hx, hcell⟩
 ·simp [Value.cells] at hcs
  obtain ⟨rfl, rfl, rfl⟩ := hcs
  exact ⟨none, 0, [], rfl, Rd.nil _ _ _, Nat.le_refl _, by simp, by simp⟩
 ·simp [Value.cells] at hcs
  obtain ⟨rfl, rfl, rfl⟩ := hcs
  simp only [Prod.mk.injEq] at hx
  obtain ⟨rfl, rfl⟩ := hx
  simp only [if_true] at hm
  subst hm
  obtain ⟨q, hq⟩ := Deep.choose_lt (α := Int × Int × Int) (n := m) (p := fun i x => (W.cell? (a.add (i * 3)) = some (.int .i64 x.1) ∧ W.cell? (a.add (i * 3 + 1)) = some (.int .i64 x.2.1) ∧ W.cell? (a.add (i * 3 + 2)) = some (.int .i64 x.2.2)) ∧ inI x.1 ∧ inI x.2.1 ∧ inI x.2.2) (fun i hi' => by
   obtain ⟨cs', h1, h2⟩ := hcell i hi'
   rw [hc] at h1
   obtain ⟨_, hlen, hce⟩ := World.cells?_some h1
   obtain ⟨xs, k, _, _, _, hxl, hfi⟩ := DataW.trod_struct he h2
   match cs', hlen with
   | [v0, v1, v2], _ =>
    have g0 := hfi 0 f0 rfl
    have g1 := hfi 1 f1 rfl
    have g2 := hfi 2 f2 rfl
    have hs3 : (#[f0, f1, f2] : Array Field).size = 3 := rfl
    rw [t0, hci, o0, List.getElem?_eq_getElem (by omega)] at g0
    rw [t1, hci, o1, List.getElem?_eq_getElem (by omega)] at g1
    rw [t2, hci, o2, List.getElem?_eq_getElem (by omega)] at g2
    obtain ⟨z0, e0, _, w0⟩ := DataW.trod_int hi g0
    obtain ⟨z1, e1, _, w1⟩ := DataW.trod_int hi g1
    obtain ⟨z2, e2, _, w2⟩ := DataW.trod_int hi g2
    injection e0 with e0 _
    injection e1 with e1 _
    injection e2 with e2 _
    have c0 := hce 0 (by omega)
    have c1 := hce 1 (by omega)
    have c2 := hce 2 (by omega)
    rw [Deep.add_add] at c0 c1 c2
    refine ⟨(z0, z1, z2), ⟨?_, ?_, ?_⟩, wf_inI w0, wf_inI w1, wf_inI w2⟩
    ·rw [← e0]; simpa using c0
    ·rw [← e1]; simpa using c1
    ·rw [← e2]; simpa using c2)
  have hll : ((List.range len).map q).length = len := by rw [List.length_map, List.length_range]
  refine ⟨some a, m, (List.range len).map q, by rw [hll], ?_, by omega, ?_, ?_⟩
  ·intro i u hu
   have hK : EncK (fun p : Int × Int × Int => [Value.int .i64 p.1, Value.int .i64 p.2.1, Value.int .i64 p.2.2]) 3 := ⟨fun _ => rfl, fun _ u hu => by simp at hu; rcases hu with rfl | rfl | rfl <;> rfl, by decide⟩
   have hil : i < len * 3 := by
    have h1 := (List.getElem?_eq_some_iff.1 hu).1
    rw [flatMap_len hK, hll] at h1
    exact h1
   have hsp : i = (i / 3) * 3 + i % 3 := by omega
   have hi2 : i / 3 < len := by omega
   rw [hsp, flatMap_get hK (0, 0, 0) _ _ _ (by rw [hll]; exact hi2) (by omega)] at hu
   rw [List.getD_eq_getElem?_getD, List.getElem?_map, List.getElem?_range hi2] at hu
   obtain ⟨⟨q0, q1, q2⟩, _⟩ := hq (i / 3) (by omega)
   have hmem : MemPlace.cell a.block (a.off + 0) ∈ MemPlace.row a (m * P.cellsOf e) := MemPlace.mem_row.2 ⟨0, by rw [hc]; omega, rfl⟩
   have hblk : a.block < W.heap.size := hlt _ (List.mem_append_left _ hmem)
   refine ⟨a, rfl, hblk, ?_⟩
   rw [hsp]
   have h3 : i % 3 = 0 ∨ i % 3 = 1 ∨ i % 3 = 2 := by omega
   rcases h3 with z | z | z
   ·rw [z] at hu ⊢
    simp at hu
    rw [Nat.add_zero, q0, ← hu]
   ·rw [z] at hu ⊢
    simp at hu
    rw [q1, ← hu]
   ·rw [z] at hu ⊢
    simp at hu
    rw [q2, ← hu]
  ·rw [hll]
   rw [DataW.weights] at hsz
   simp only [ht, List.all_cons, Bool.and_eq_true, decide_eq_true_eq] at hsz
   have h1 := hsz.1
   rw [hby] at h1
   simp only [List.length_map, List.length_range, reachBytes] at h1
   omega
  ·intro y hy
   obtain ⟨i, hi', rfl⟩ := List.mem_map.1 hy
   exact (hq i (by have := List.mem_range.1 hi'; omega)).2
end
end Go.GL
