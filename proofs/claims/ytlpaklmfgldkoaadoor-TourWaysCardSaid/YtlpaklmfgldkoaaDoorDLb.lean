/-
  What the row's list of package-level variables gives: the knight's leaps, cell by cell.
-/
import Derived.Test.YtlpaklmfgldkoaaDoorRows
import Derived.Test.YtlpaklmfgldkoaaDoorNTW
import Derived.ProofKit
import Derived.LaidMore
import Derived.OpenShut
import Derived.Stop.Joined
import Derived.Lib.LaidTab
namespace Go.Proofs.YtlpaklmfgldkoaaDoor
open Go Go.GL Go.RowKit Go.ChangeShapes Go.WideShapes Go.ChangeAt

theorem gLeaps : Tryd.prog.globalNamed "gameroom/tour.leaps" = some 0 := by kernel_rfl
theorem tLeaps : (Tryd.prog.globals[0]?).map (·.type) = some 73 := by kernel_rfl
theorem c72 : Tryd.prog.cellsOf 72 = 2 := by kernel_rfl
theorem c3 : Tryd.prog.cellsOf 3 = 1 := by kernel_rfl

def leapD (i : Nat) : List Int := [glob0.getD (2 * i) 0, glob0.getD (2 * i + 1) 0]

theorem of_leaps {W : World} (h : laidMetH Tryd.prog [("gameroom/tour.leaps", Rows.laid_gameroom_tour_leaps)] W) : ∀ j : Nat, j < 16 → W.cell? ((⟨0, 0, none⟩ : Addr).add j) = some (.int .i64 (glob0.getD j 0)) := by
  rw [MakeChecks.laidMetH_plain _ _ _ (by kernel_rfl)] at h
  obtain ⟨ps, ⟨g0, t0, cs0, f0, p0, q0, hg0, ht0, hv0, hd0, _, _⟩, _, _⟩ := h
  obtain rfl := Option.some.inj (gLeaps.symm.trans hg0)
  obtain rfl := Option.some.inj (tLeaps.symm.trans ht0)
  obtain ⟨xs, m1, rfl, hx1, hlen, hn8, hel⟩ := DataW.trod_array Tryd.underlying73 hd0
  simp only [Prod.mk.injEq] at hx1
  have hlist : (List.range 8).map (fun i => (Lib.tabData .i64 (leapD i) : DataW Unit)) = xs.map (·.1) := by
    exact DataW.agg.inj hx1.1
  rw [c72] at hel
  have hrow : ∀ i : Nat, i < 8 → (cs0.toList.drop (i * 2)).take 2 = (leapD i).map fun z => Value.int .i64 z := fun i hi => by
    have hi' := hel i hi
    rw [List.getElem?_eq_getElem (by omega)] at hi'
    have hd := congrArg (fun l => l[i]?) hlist
    simp only [List.getElem?_map, List.getElem?_range hi, List.getElem?_eq_getElem (show i < xs.length by omega), Option.map_some] at hd
    have hd' := Option.some.inj hd
    refine Lib.cells_of_tab (p := xs[i].2) Tryd.underlying72 Tryd.underlying3 c3 c72 (hi'.trans ?_)
    rw [hd']
  intro j hj
  have hc := World.var?_cell hg0 hv0 j
  have e1 : ((⟨0, 0, none⟩ : Addr).add j) = ⟨0, j, none⟩ := by cases j <;> simp [Addr.add]
  rw [e1, hc]
  have hj2 := hrow (j / 2) (by omega)
  have hg := congrArg (fun l => l[j % 2]?) hj2
  simp only [List.getElem?_take, List.getElem?_drop, if_pos (show j % 2 < 2 by omega), show j / 2 * 2 + j % 2 = j by omega] at hg
  rw [Array.getElem?_toList] at hg
  rw [hg]
  unfold leapD
  have hr : j % 2 = 0 ∨ j % 2 = 1 := by omega
  generalize hq : j / 2 = q
  rcases hr with e | e
  · have ej : j = 2 * q := by omega
    subst ej
    rw [e]
    rfl
  · have ej : j = 2 * q + 1 := by omega
    subst ej
    rw [e]
    rfl
end Go.Proofs.YtlpaklmfgldkoaaDoor
