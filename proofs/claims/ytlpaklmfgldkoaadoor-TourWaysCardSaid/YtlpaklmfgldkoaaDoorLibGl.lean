/-
  A small library of our own: a package-level variable (an array of integers) that nothing writes.
-/
import Derived.Test.YtlpaklmfgldkoaaDoorLibW
namespace Go.GL
open Go Go.RowKit

/-- The variable's cells, in every world that keeps what was there. -/
class GLV (g : Nat) (m : List Int) (w0 : World) (B : Nat) : Prop where
  rd : ∀ (w : World), Below B w0 w → ∀ (j : Nat), j < m.length → w.cell? ((⟨g, 0, none⟩ : Addr).add j) = some (.int .i64 (m.getD j 0))

theorem GLV.of {g : Nat} {m : List Int} {W : World} (h : ∀ (j : Nat), j < m.length → W.cell? ((⟨g, 0, none⟩ : Addr).add j) = some (.int .i64 (m.getD j 0))) (hg : g < W.heap.size) : GLV g m W W.heap.size := ⟨fun w hw j hj => by
  have e := hw.block g hg
  have := h j hj
  have eb : ((⟨g, 0, none⟩ : Addr).add j).block = g := by cases j <;> rfl
  unfold World.cell? at this ⊢
  rw [eb] at this ⊢
  rw [e]
  exact this⟩

theorem ob_glob {P : Program} {t : TypeId} {g n : Nat} {m : List Int} {x : Bool} {hyps : List (Bool × Bool)} {w0 : World} {B : Nat} {ps : List HP} [G : GLV g m w0 B] (hn : n = m.length) (hag : runPure P (isAgg t) = some true) (hsz : runPure P (sizeOf t) = some n) :
    Ob.holds P (fun w => Sep w0 B w ps) x ⟨false, hyps, vS (Instr.loadAt t (.pointer (some ⟨g, 0, none⟩))), .agg (List.toArray (([] : List Value) ++ (arr1 (Value.int .i64) (0 : Int) n m ++ ([] : List Value))))⟩ := by
  subst hn
  refine ob_loadA hag ?_ fun _ w hS j v hv => ?_
  · rw [hsz]; simp [arr1]
  · simp only [List.nil_append, List.append_nil, List.getElem?_toArray] at hv
    have hj : j < m.length := by
      have := (List.getElem?_eq_some_iff.1 hv).1
      rwa [arr1_length] at this
    rw [arr1_get hj] at hv
    rw [G.rd w hS.below j hj, ← Option.some.inj hv]
end Go.GL
