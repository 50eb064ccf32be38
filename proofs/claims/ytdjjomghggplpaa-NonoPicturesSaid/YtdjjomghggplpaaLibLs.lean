/-
  A small library of our own: room for rows (append of empty rows to nil), and a literal of slices that are known.
-/
import Derived.Test.YtdjjomghggplpaaLibHd
import Derived.Test.YtdjjomghggplpaaLibU
namespace Go.GL
open Go Go.RowKit
section
variable {P : Program} {w0 w : World} {B : Nat} {l r ps : List HP} {t e ei : TypeId} {inf : TypeInfo} {A : Option Addr} {n c : Nat}

theorem zeroCells_v (v : Value) (n : Nat) : Builtin.zeroCells #[v] n = (List.replicate n v).toArray := by
  unfold Builtin.zeroCells
  apply Array.ext
  · simp
  · intro i h1 h2
    simp [Nat.mod_one]

/-- An empty row's header. -/
def nilV (_ : Unit) : Value := .slice none 0 0

/-- append(nil, make([][]int, n)...), as the compiler writes it. -/
theorem run_app0R {tx ty : TypeId} {n : Int} (hS : Sep w0 B w ps) (ht : P.underlying t = some (.slice e)) (hx : P.underlying tx = some (.int .i64)) (hi : P.info? e = some inf) (hz : inf.zero = some (.slice none 0 0)) (hs : inf.size = 1) (hby : inf.bytes = 24) (hb : 0 ≤ n ∧ n ≤ bigR) :
    ∃ A c w', (vS (Builtin.append_ #[t, tx] ty #[.slice none 0 0, .int .i64 n])).run P w = .ok (.value (.slice A (List.replicate n.toNat ()).length c)) w' ∧ Sep w0 B w' (own e (.slice A (List.replicate n.toNat ()).length c) ((List.replicate n.toNat ()).map nilV) :: ps) := by
  obtain ⟨h0, h1⟩ := hb
  obtain ⟨m, rfl⟩ := Int.eq_ofNat_of_zero_le h0
  have h2 : m ≤ 5864062014805 := by unfold bigR at h1; omega
  have hw : IntKind.wrap .i64 (m : Int) = (m : Int) := IntWalk.i64_in _ ⟨by omega, by omega⟩
  by_cases hm : m = 0
  · subst hm
    refine ⟨none, 0, w, vS_run ?_, hS.nil e⟩
    have hw0 : IntKind.wrap .i64 0 = 0 := hw
    simp [Builtin.append_, run_underlying ht, run_underlying hx, sizeOf, typeInfo, hi, hw0, asInt, asIntOf]
  · refine ⟨some ⟨w.heap.size, 0, none⟩, grownCap w m 0 e, w.drew.alloc (.cells ((List.replicate m (Value.slice none 0 0)).toArray ++ Builtin.zeroCells #[Value.slice none 0 0] (grownCap w m 0 e - m)) e), vS_run ?_, ?_⟩
    · have a1 : ¬ (281474976710656 < (m : Int) * (inf.bytes : Int)) := by rw [hby]; omega
      have a2 : ¬ (9223372036854775807 < (m : Int)) := by omega
      have a3 : ¬ (281474976710656 < Builtin.nextslicecap m 0 * inf.bytes) := by
        have : Builtin.nextslicecap m 0 = m := by unfold Builtin.nextslicecap; rw [if_pos (by omega)]
        rw [this, hby]; omega
      have a4 : ¬ ((m : Int) < 0) := by omega
      simp [Builtin.append_, run_underlying ht, run_underlying hx, sizeOf, typeInfo, zeroValue, hi, hz, hs, hw, asInt, asIntOf, a1, a2, a3, a4, hm, Question.forced, newRow, grownCap, Builtin.firstCells, Value.cells, zeroCells_v _ m]
    · have hge := grownCap_ge w m 0 e
      have hcm := grownCap_le_maxLen w m 0 e (by unfold maxLen; omega)
      refine hS.add ⟨rfl, rfl, rfl, by simp, fun k hk _ => heap_alloc_old w.drew _ hk⟩ (f := [w.heap.size]) ⟨⟨by simp, .inr ⟨w.heap.size, _, _, ?_, Nat.zero_le _, heap_alloc_new w.drew _, ?_, hcm, ?_, ?_⟩⟩, by simp [Value.ownBlock]⟩ ?_
      · simp
      · simpa using hge
      · simp [size_zeroCells]; omega
      · simp [nilV]
      · intro k hk
        simp at hk
        subst hk
        simp

theorem RowsAll.cast {w : World} {B : Nat} {hd : List Hd} {m m' : List (List Int)} (h : m' = m) (k : RowsAll w B hd m) : RowsAll w B hd m' := h ▸ k

/-- Nothing is in it: headers of no rows. -/
theorem Sep.toHdr0 {xs : List Value} (h : Sep w0 B w (l ++ own e (.slice A n c) xs :: r)) (hx : xs = []) (hn : n = 0) : Sep w0 B w (l ++ hdrs e A 0 c [] [] :: r) := by
  subst hx
  subst hn
  exact h.upd fun f hf hfb => ⟨f, ⟨hf, rfl⟩, (Ex.refl w).mono (by simp), fun k hk => .inl hk, fun k hk => (hfb k hk).2⟩
end
end Go.GL
