/-
  copy and clear, where what is written to is a row of the call's own.
-/
import Derived.Test.YtdbdcbejmbpbmaaDoorLibW
import Derived.Laws.IdiomCopy
namespace Go.GL
open Go Go.RowKit
variable {Ds : List Nat} {ro : Option Nat}

/-- A list with a part written over from place lo on. -/
def putL {α : Type} (m : List α) (lo : Nat) (ys : List α) : List α := m.take lo ++ ys ++ m.drop (lo + ys.length)

theorem putL_length {α : Type} {m ys : List α} {lo : Nat} (h : lo + ys.length ≤ m.length) : (putL m lo ys).length = m.length := by
  unfold putL
  simp only [List.length_append, List.length_take, List.length_drop]
  omega
theorem putL_get {α : Type} {m ys : List α} {lo j : Nat} (h : lo + ys.length ≤ m.length) : (putL m lo ys)[j]? = if lo ≤ j ∧ j < lo + ys.length then ys[j - lo]? else m[j]? := by
  unfold putL
  have h1 : (m.take lo).length = lo := by rw [List.length_take]; omega
  rw [List.append_assoc]
  rcases Nat.lt_or_ge j lo with h2 | h2
  · rw [List.getElem?_append_left (by omega), List.getElem?_take, if_pos h2, if_neg (by omega)]
  · rw [List.getElem?_append_right (by omega), h1]
    rcases Nat.lt_or_ge j (lo + ys.length) with h3 | h3
    · rw [List.getElem?_append_left (by omega), if_pos ⟨h2, h3⟩]
    · rw [List.getElem?_append_right (by omega), if_neg (by omega), List.getElem?_drop]
      congr 1; omega
theorem putL_nil {α : Type} {m : List α} {lo : Nat} : putL m lo [] = m := by unfold putL; simp

theorem setCells_len : ∀ (vs xs : List Value) (s : Nat), (setCells xs s vs).length = xs.length
  | [], _, _ => rfl
  | v :: vs, xs, s => by rw [setCells, setCells_len vs, List.length_set]
variable {P : Program} {w0 w : World} {B : Nat} {l r : List HP} {e t t2 ty : TypeId} {inf : TypeInfo} {A A2 : Option Addr} {n c c2 dn dc n2 : Nat} {lo : Int} {m ys : List Int}

/-- Cells stored into a row of the call's own. -/
theorem own_store {g : Nat} {us : List Value} {xs : List Value} {s : Nat} (hS : Sep w0 B w (l ++ own e (.slice (some ⟨g, 0, none⟩) n c) xs :: r)) (h1 : ∀ u ∈ us, u.oneCell' = true) (h2 : s + us.length ≤ xs.length) :
    ∃ w', (storeCells ⟨g, s, none⟩ us 0).run P w = .ok () w' ∧ Sep w0 B w' (l ++ own e (.slice (some ⟨g, 0, none⟩) n c) (setCells xs s us) :: r) := by
  obtain ⟨f, ⟨hf, hf2⟩, hfb⟩ := hS.get
  have hn : n = xs.length := own_len ⟨hf, hf2⟩
  subst hn
  obtain ⟨w', h3, h4, h5⟩ := ownK_stores (P := P) us 0 s w xs hf h1 (by omega)
  rw [Nat.add_zero] at h4
  refine ⟨w', h3, hS.upd fun f' hf' hb' => ?_⟩
  have hff : f' = [g] := by rw [hf'.2]; simp [Value.ownBlock]
  exact ⟨[g], ⟨by rw [setCells_len]; exact h4, by simp [Value.ownBlock]⟩, by rw [hff]; simpa using Ex.of_grown h5, fun j hj => .inl (by rw [hff]; exact hj), fun j hj => Nat.lt_of_lt_of_le (hb' j (by rw [hff]; exact hj)).2 h5.size⟩

theorem own_addr {xs : List Value} (hS : Sep w0 B w (l ++ own e (.slice A n c) xs :: r)) (h : 0 < xs.length) : (∃ g, A = some ⟨g, 0, none⟩) ∧ xs.length ≤ c := by
  obtain ⟨f, ⟨hf, hf2⟩, hfb⟩ := hS.get
  rcases hf.2 with ⟨_, h2⟩ | ⟨g, cap, cur, hv, _, hg, h1, _⟩
  · omega
  · injection hv with hA hn hc
    exact ⟨⟨g, hA⟩, by omega⟩

section
variable {P : Program} {Q : Exit → Act → World → Prop} {n : Nat} {ρ : Env} {a : Act} {w : World}
/-- An operation of which the value goes nowhere. -/
theorem at_skipV {arr : Array Oper} {l : List Oper} {k : Nat} {s : Sem Next} {v : Value} {w' : World} (hF : FrD Ds n ρ a) (hex : stepOf l k ρ = some (none, s))
    (hrun : s.run P w = .ok (.value v) w') (hK : wpAt P arr l Q (k + 1) a w') : wpAt P arr l Q k a w := by
  obtain ⟨o, h1, h2, h3, h4, h5⟩ := stepOf_some hex
  unfold wpAt
  rw [h1]
  refine listR_plain h2 fun K hk => ?_
  unfold oR
  rw [execOp_env hF (fun g hg => by cases hg) h3, h5, hrun, upR_value]
  refine hk _ _ ?_
  rw [h4]
  exact hK
end
end Go.GL
