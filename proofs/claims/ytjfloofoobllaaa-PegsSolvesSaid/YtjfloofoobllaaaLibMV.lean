/-
  A small library of our own: an argument that is a slice of structs of three ints.
-/
import Derived.Test.YtjfloofoobllaaaLibAP
namespace Go.GL
open Go Go.RowKit Go.ChangeShapes Go.WideShapes Go.ChangeAt

def bigT : Int := 5864062014805

section
variable {P : Program} {C : World → Prop} {hyps : List (Bool × Bool)} {w0 w : World} {B : Nat} {l r ps fs : List HP} {t e : TypeId} {inf : TypeInfo} {A : Option Addr} {n c k : Nat} {α : Type} {F : α → List Value} {m : List α} {i : Int}

/-- append, elements of at most 24 bytes. -/
theorem run_appK3 {ys : List α} {A2 : Option Addr} {m2 c2 : Nat} {z : Value} (hF : EncK F k) (hS : Sep w0 B w (l ++ ownK e k A n c (m.flatMap F) :: r)) (hr : Rd w w.heap.size A2 (ys.flatMap F)) (hm : m2 = ys.length) (ty : TypeId)
    (ht : P.underlying t = some (.slice e)) (hi : P.info? e = some inf) (hz : inf.zero = some z) (hs : inf.size = k) (hzs : z.cells.size = k) (hby : inf.bytes ≤ 24) (hl : (n : Int) + m2 ≤ bigT) :
    ∃ A' c' w', (vS (Builtin.append_ #[t, t] ty #[.slice A n c, .slice A2 m2 c2])).run P w = .ok (.value (.slice A' (m ++ ys).length c')) w' ∧ Sep w0 B w' (l ++ ownK e k A' (m ++ ys).length c' ((m ++ ys).flatMap F) :: r) := by
  have hn := hS.lenK hF
  obtain ⟨f, ⟨hf, hf2⟩, hfb⟩ := hS.get
  subst hm
  cases A2 with
  | none =>
    have hy : ys = [] := by
      cases ys with
      | nil => rfl
      | cons y ys => have := hr.someK hF (by simp); simp at this
    subst hy
    refine ⟨A, c, w, ?_, ?_⟩
    · have h9 : (Builtin.append_ #[t, t] ty #[.slice A n c, .slice none 0 c2]).run P w = .ok (.slice A n c) w := by
        rcases hf.2 with ⟨hv, hn0⟩ | ⟨g, cap, cur, hv, _, _, hnc, _⟩
        · injection hv with h1 h2 h3; subst h1; subst h2; subst h3
          simp [Builtin.append_, run_underlying ht, sizeOf, typeInfo, hi, Builtin.lenOf, Builtin.firstCells]
        · injection hv with h1 h2 h3; subst h1; subst h3
          simp [Builtin.append_, run_underlying ht, sizeOf, typeInfo, hi, Builtin.lenOf, Builtin.firstCells, hnc, storeCells]
      have := vS_run h9
      simpa [hn] using this
    · simpa [hn] using hS
  | some a =>
    have hcells : ∀ j u, (ys.flatMap F)[j]? = some u → w.cell? (a.add j) = some u := fun j u hu => by
      obtain ⟨ad, h, _, hc⟩ := hr j u hu
      injection h with h
      subst h
      exact hc
    have hb : (n + ys.length) * inf.bytes ≤ 140737488355328 := by
      have h2 : n + ys.length ≤ 5864062014805 := by unfold bigT at hl; omega
      calc (n + ys.length) * inf.bytes ≤ 5864062014805 * 24 := Nat.mul_le_mul h2 hby
        _ ≤ 140737488355328 := by decide
    obtain ⟨v', w', hrun, hown, hg, _, hbl⟩ := run_append_own_at (P := P) w 0 t ty e inf z k inf.bytes ht hi hz hs rfl hzs hF.pos (.slice A n c) n _ hf a ys.length c2 (ys.flatMap F) (by rw [flatMap_len hF]) hcells (flatMap_one hF)
      (by unfold maxLen; unfold bigT at hl; omega) hb (Nat.zero_le _)
    have hown' : w'.ownsRow 0 e k v' (m ++ ys).length ((m ++ ys).flatMap F) := by rw [List.length_append, List.flatMap_append, ← hn]; exact hown
    obtain ⟨A', c', rfl, _⟩ := own_formK hown'
    refine ⟨A', c', w', vS_run hrun, hS.upd fun f' hf' hb' => ⟨_, ⟨hown', rfl⟩, ?_, ?_, own_blockK hown'⟩⟩
    · rw [hf'.2]; exact Ex.of_grown hg
    · intro j hj
      rw [hf'.2]
      rcases hbl with h | h
      · rw [h] at hj; exact .inl hj
      · rw [h] at hj
        simp at hj
        exact .inr (by omega)

end

section
variable {H : Type} {enc : TypeId × Value → H} {P : Program}

end
end Go.GL
