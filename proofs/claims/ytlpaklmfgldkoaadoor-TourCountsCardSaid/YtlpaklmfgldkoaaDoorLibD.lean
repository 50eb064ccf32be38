/-
  copy and clear, where what is written to is a row of the call's own.
-/
import Derived.Test.YtlpaklmfgldkoaaDoorLibW
import Derived.Laws.IdiomCopy
namespace Go.GL
open Go Go.RowKit
variable {Ds : List Nat} {ro : Option Nat}

/-- A list with a part written over from place lo on. -/
def putL {α : Type} (m : List α) (lo : Nat) (ys : List α) : List α := m.take lo ++ ys ++ m.drop (lo + ys.length)

theorem putL_length {α : Type} {m ys : List α} {lo : Nat} (h : lo + ys.length ≤ m.length) : (putL m lo ys).length = m.length := by
  unfold putL
  simp only [List.length_append, List.length_take, List.length_drop]
  omega
theorem putL_get {α : Type} {m ys : List α} {lo j : Nat} (h : lo + ys.length ≤ m.length) : (putL m lo ys)[j]? = if lo ≤ j ∧ j < lo + ys.length then ys[j - lo]? else m[j]? := by
  unfold putL
  have h1 : (m.take lo).length = lo := by rw [List.length_take]; omega
  rw [List.append_assoc]
  rcases Nat.lt_or_ge j lo with h2 | h2
  · rw [List.getElem?_append_left (by omega), List.getElem?_take, if_pos h2, if_neg (by omega)]
  · rw [List.getElem?_append_right (by omega), h1]
    rcases Nat.lt_or_ge j (lo + ys.length) with h3 | h3
    · rw [List.getElem?_append_left (by omega), if_pos ⟨h2, h3⟩]
    · rw [List.getElem?_append_right (by omega), if_neg (by omega), List.getElem?_drop]
      congr 1; omega
theorem putL_nil {α : Type} {m : List α} {lo : Nat} : putL m lo [] = m := by unfold putL; simp

theorem setCells_len : ∀ (vs xs : List Value) (s : Nat), (setCells xs s vs).length = xs.length
  | [], _, _ => rfl
  | v :: vs, xs, s => by rw [setCells, setCells_len vs, List.length_set]
theorem setCells_vI {m ys : List Int} {lo : Nat} (h : lo + ys.length ≤ m.length) : setCells (vI m) lo (vI ys) = vI (putL m lo ys) := by
  apply List.ext_getElem?
  intro j
  rw [setCells_get _ _ _ _ (by simpa [vI] using h)]
  unfold vI
  simp only [List.getElem?_map, List.length_map]
  rw [putL_get h]
  split <;> rfl

variable {P : Program} {w0 w : World} {B : Nat} {l r : List HP} {e t t2 ty : TypeId} {inf : TypeInfo} {A A2 : Option Addr} {n c c2 dn dc n2 : Nat} {lo : Int} {m ys : List Int}

/-- Cells stored into a row of the call's own. -/
theorem own_store {g : Nat} {us : List Value} {xs : List Value} {s : Nat} (hS : Sep w0 B w (l ++ own e (.slice (some ⟨g, 0, none⟩) n c) xs :: r)) (h1 : ∀ u ∈ us, u.oneCell' = true) (h2 : s + us.length ≤ xs.length) :
    ∃ w', (storeCells ⟨g, s, none⟩ us 0).run P w = .ok () w' ∧ Sep w0 B w' (l ++ own e (.slice (some ⟨g, 0, none⟩) n c) (setCells xs s us) :: r) := by
  obtain ⟨f, ⟨hf, hf2⟩, hfb⟩ := hS.get
  have hn : n = xs.length := own_len ⟨hf, hf2⟩
  subst hn
  obtain ⟨w', h3, h4, h5⟩ := ownK_stores (P := P) us 0 s w xs hf h1 (by omega)
  rw [Nat.add_zero] at h4
  refine ⟨w', h3, hS.upd fun f' hf' hb' => ?_⟩
  have hff : f' = [g] := by rw [hf'.2]; simp [Value.ownBlock]
  exact ⟨[g], ⟨by rw [setCells_len]; exact h4, by simp [Value.ownBlock]⟩, by rw [hff]; simpa using Ex.of_grown h5, fun j hj => .inl (by rw [hff]; exact hj), fun j hj => Nat.lt_of_lt_of_le (hb' j (by rw [hff]; exact hj)).2 h5.size⟩

theorem own_addr {xs : List Value} (hS : Sep w0 B w (l ++ own e (.slice A n c) xs :: r)) (h : 0 < xs.length) : (∃ g, A = some ⟨g, 0, none⟩) ∧ xs.length ≤ c := by
  obtain ⟨f, ⟨hf, hf2⟩, hfb⟩ := hS.get
  rcases hf.2 with ⟨_, h2⟩ | ⟨g, cap, cur, hv, _, hg, h1, _⟩
  · omega
  · injection hv with hA hn hc
    exact ⟨⟨g, hA⟩, by omega⟩

/-- clear(d): d a part of a row of the call's own. -/
theorem run_clearI (hS : Sep w0 B w (l ++ own e (.slice A m.length c) (vI m) :: r)) (ht : P.underlying t = some (.slice e)) (hi : P.info? e = some inf) (hz : inf.zero = some (.int .i64 0)) (hb : 0 ≤ lo ∧ lo + dn ≤ (m.length : Int)) :
    ∃ w', (vS (Builtin.clear_ #[t] ty #[.slice (cutAddr A c lo) dn dc])).run P w = .ok (.value (.tuple #[])) w' ∧ Sep w0 B w' (l ++ own e (.slice A (putL m lo.toNat (List.replicate dn (0 : Int))).length c) (vI (putL m lo.toNat (List.replicate dn (0 : Int)))) :: r) := by
  by_cases h0 : dn = 0
  · subst h0
    rw [show List.replicate 0 (0 : Int) = [] from rfl, putL_nil]
    refine ⟨w, vS_run ?_, hS⟩
    cases hq : cutAddr A c lo <;> simp [Builtin.clear_, run_underlying ht]
  · have hml : 0 < m.length := by omega
    obtain ⟨⟨g, rfl⟩, hcap⟩ := own_addr hS (by simpa [vI] using hml)
    simp only [vI, List.length_map] at hcap
    have hput : (putL m lo.toNat (List.replicate dn (0 : Int))).length = m.length := putL_length (by rw [List.length_replicate]; omega)
    obtain ⟨w', h3, h4⟩ := own_store (P := P) (us := vI (List.replicate dn (0 : Int))) (s := lo.toNat) hS (vI_one _) (by simp only [vI, List.length_map, List.length_replicate]; omega)
    rw [setCells_vI (by rw [List.length_replicate]; omega)] at h4
    refine ⟨w', vS_run ?_, by rw [hput]; exact h4⟩
    have hcut : cutAddr (some (⟨g, 0, none⟩ : Addr)) c lo = some ⟨g, lo.toNat, none⟩ := by
      unfold cutAddr
      rw [if_neg (by omega)]
      simp [Addr.add]
      omega
    rw [hcut]
    obtain ⟨k, rfl⟩ : ∃ k, dn = k + 1 := ⟨dn - 1, by omega⟩
    have hv : vI (List.replicate (k + 1) (0 : Int)) = List.replicate (k + 1) (Value.int .i64 0) := by simp [vI]
    rw [hv] at h3
    simp [Builtin.clear_, run_underlying ht, zeroValue, typeInfo, hi, hz, Value.cells, zeroCells_one, h3]
theorem run_clearC {hi' : Int} (hS : Sep w0 B w (l ++ own e (.slice A n c) (vI m) :: r)) (ht : P.underlying t = some (.slice e)) (hi : P.info? e = some inf) (hz : inf.zero = some (.int .i64 0)) (hb : 0 ≤ lo ∧ lo ≤ hi' ∧ hi' ≤ (m.length : Int)) :
    ∃ w', (vS (Builtin.clear_ #[t] ty #[.slice (cutAddr A c lo) (cut m lo hi').length dc])).run P w = .ok (.value (.tuple #[])) w' ∧ Sep w0 B w' (l ++ own e (.slice A n c) (vI (putL m lo.toNat (List.replicate (cut m lo hi').length (0 : Int)))) :: r) := by
  have hnm : n = m.length := by
    obtain ⟨f, hf, _⟩ := hS.get
    have := own_len hf
    simpa [vI] using this
  subst hnm
  have hcl := cut_length hb.1 hb.2.1 hb.2.2
  obtain ⟨w', h1, h2⟩ := run_clearI (lo := lo) (dn := (cut m lo hi').length) (dc := dc) (ty := ty) hS ht hi hz (by omega)
  refine ⟨w', h1, ?_⟩
  have hput : (putL m lo.toNat (List.replicate (cut m lo hi').length (0 : Int))).length = m.length := putL_length (by rw [List.length_replicate]; omega)
  rwa [hput] at h2

section
variable {P : Program} {Q : Exit → Act → World → Prop} {n : Nat} {ρ : Env} {a : Act} {w : World}
/-- An operation of which the value goes nowhere. -/
theorem at_skipV {arr : Array Oper} {l : List Oper} {k : Nat} {s : Sem Next} {v : Value} {w' : World} (hF : FrD Ds n ρ a) (hex : stepOf l k ρ = some (none, s))
    (hrun : s.run P w = .ok (.value v) w') (hK : wpAt P arr l Q (k + 1) a w') : wpAt P arr l Q k a w := by
  obtain ⟨o, h1, h2, h3, h4, h5⟩ := stepOf_some hex
  unfold wpAt
  rw [h1]
  refine listR_plain h2 fun K hk => ?_
  unfold oR
  rw [execOp_env hF (fun g hg => by cases hg) h3, h5, hrun, upR_value]
  refine hk _ _ ?_
  rw [h4]
  exact hK
end
end Go.GL
