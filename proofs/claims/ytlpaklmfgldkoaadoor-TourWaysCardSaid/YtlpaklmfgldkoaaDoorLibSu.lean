/-
  A small library of our own: strings as lists of bytes; slices of bytes and of strings as they come in, and appended.
-/
import Derived.Test.YtlpaklmfgldkoaaDoorLibSt
import Derived.Test.YtlpaklmfgldkoaaDoorLibAP
import Derived.Deep.Strs
import Derived.Lib.AppendStr
import Derived.Lib.ConvBytes
import Derived.Lib.SlBytesConst
namespace Go.GL
open Go Go.RowKit Go.ChangeShapes Go.WideShapes Go.ChangeAt
variable {Ds : List Nat} {ro : Option Nat}

section
variable {P : Program} {C : World → Prop} {hyps : List (Bool × Bool)} {w0 w : World} {B : Nat} {l r ps : List HP} {A : Option Addr} {n c : Nat} {m : List Int} {t e : TypeId} {inf : TypeInfo} {s s1 s2 : List UInt8}

/-! ### Bytes and strings appended -/
/-- append, elements of one cell and of at most 16 bytes. -/
theorem run_appG {α : Type} (f : α → Value) (z : α) (big : Nat) {m ys : List α} {A2 : Option Addr} {m2 c2 : Nat} (hS : Sep w0 B w (l ++ own e (.slice A n c) (m.map f) :: r)) (hr : Rd w w.heap.size A2 (ys.map f)) (hm : m2 = ys.length) (ty : TypeId)
    (ht : P.underlying t = some (.slice e)) (hi : P.info? e = some inf) (hz : inf.zero = some (f z)) (hs : inf.size = 1) (hby : big * inf.bytes ≤ 140737488355328) (hbig : big ≤ 140737488355328) (hc : (f z).cells = #[f z]) (h1 : ∀ a, (f a).oneCell' = true) (hl : (n : Int) + m2 ≤ (big : Int)) :
    ∃ A' c' w', (vS (Builtin.append_ #[t, t] ty #[.slice A n c, .slice A2 m2 c2])).run P w = .ok (.value (.slice A' (m ++ ys).length c')) w' ∧ Sep w0 B w' (l ++ own e (.slice A' (m ++ ys).length c') ((m ++ ys).map f) :: r) := by
  have hn := hS.len1
  subst hn
  subst hm
  obtain ⟨fp, ⟨hf, hf2⟩, hfb⟩ := hS.get
  cases A2 with
  | none =>
    have hy : ys = [] := hr.none1
    subst hy
    refine ⟨A, c, w, ?_, ?_⟩
    · have := append_nilsrc ht hi hf ty c2
      simpa using vS_run this
    · simpa using hS
  | some a =>
    have hcells : ∀ j u, (ys.map f)[j]? = some u → w.cell? (a.add j) = some u := fun j u hu => by
      obtain ⟨ad, h, _, hc⟩ := hr j u hu
      injection h with h
      subst h
      exact hc
    have hb : (m.length + ys.length) * inf.bytes ≤ 140737488355328 := by
      have h2 : m.length + ys.length ≤ big := by omega
      exact Nat.le_trans (Nat.mul_le_mul_right _ h2) hby
    rw [List.length_map] at hf
    obtain ⟨v', w', hrun, hown, hg, _, hbl⟩ := run_append_own_at (P := P) w 0 t ty e inf (f z) 1 inf.bytes ht hi hz hs rfl (by rw [hc]; rfl) (by omega) _ m.length _ hf a ys.length c2 (ys.map f) (by simp) hcells (by
      intro u hu
      obtain ⟨a, _, rfl⟩ := List.mem_map.1 hu
      exact h1 a) (by unfold maxLen; omega) hb (Nat.zero_le _)
    have hown' : w'.ownsRow 0 e 1 v' ((m ++ ys).map f).length ((m ++ ys).map f) := by rw [List.length_map, List.length_append, List.map_append]; exact hown
    obtain ⟨A', c', rfl, _⟩ := own_form hown'
    rw [List.length_map] at hrun hown'
    refine ⟨A', c', w', vS_run hrun, hS.upd fun f' hf' hb' => ⟨_, ⟨by rw [List.length_map]; exact hown', rfl⟩, ?_, ?_, own_block (by rw [List.length_map]; exact hown')⟩⟩
    · rw [hf'.2]; exact Ex.of_grown hg
    · intro k hk
      rw [hf'.2]
      rw [List.length_map] at hbl
      rcases hbl with h | h
      · rw [h] at hk; exact .inl hk
      · rw [h] at hk
        simp at hk
        exact .inr (by omega)

/-! ### A literal's row that a conversion has marked -/

end
end Go.GL

namespace Go.GL
open Go Go.RowKit Go.ChangeShapes Go.WideShapes Go.ChangeAt
section
variable {H : Type} {enc : TypeId × Value → H} {P : Program}

end
end Go.GL
namespace Go.GL
open Go Go.RowKit
section
variable {P : Program} {w0 w : World} {B : Nat} {A : Option Addr} {n c : Nat} {m : List Int}
end
end Go.GL
