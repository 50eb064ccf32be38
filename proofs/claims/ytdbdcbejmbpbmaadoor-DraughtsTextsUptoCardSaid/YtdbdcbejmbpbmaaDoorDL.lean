/-
  What a row's list of package-level variables gives.
-/
import Derived.Test.YtdbdcbejmbpbmaaDoorRows
import Derived.Test.YtdbdcbejmbpbmaaDoorSV
import Derived.Test.YtdbdcbejmbpbmaaDoorLibUv
import Derived.Test.YtdbdcbejmbpbmaaDoorSX
import Derived.Test.YtdbdcbejmbpbmaaDoorLibIt
import Derived.ProofKit
import Derived.LaidMore
import Derived.OpenShut
import Derived.Stop.Joined
import Derived.Lib.LaidU8T
import Derived.Lib.AppendIntMem
import Derived.PinnedBridge
namespace Go.Proofs.YtdbdcbejmbpbmaaDoor
open Go Go.GL Go.RowKit Go.ChangeShapes Go.WideShapes Go.ChangeAt Go.Shelf Go.Lib

set_option maxRecDepth 100000 in
theorem pow_of {l : List (String × DataW Unit)} {W : World} (h : laidMet Tryd.prog l W) (hm : ("internal/strconv.uint64pow10", Rows.laid_internal_strconv_uint64pow10) ∈ l) : PowG Tryd.prog W W.heap.size := by
  obtain ⟨g, t, cs, fuel, p, hg, hty, hvar, hd⟩ := laidMet.reads h hm
  obtain rfl := Option.some.inj ((show Tryd.prog.globalNamed "internal/strconv.uint64pow10" = some 5 by kernel_rfl).symm.trans hg)
  obtain rfl := Option.some.inj ((show (Tryd.prog.globals[5]?).map (·.type) = some (ItoaR.t 212) by kernel_rfl).symm.trans hty)
  rw [show (Rows.laid_internal_strconv_uint64pow10 : DataW Unit) = tabData .u64 pow10Tab by kernel_rfl] at hd
  have hcs := cells_of_tab ItoaL.t212 ItoaL.t53 (by kernel_rfl) (by kernel_rfl) hd
  have ht : TabIs Tryd.prog W "internal/strconv.uint64pow10" .u64 pow10Tab := by
    unfold TabIs
    rw [hvar, ← hcs]
  exact ⟨fun w hw => tabBelow_of_tabIs ht w hw⟩
set_option maxRecDepth 100000 in
theorem err_of {l : List (String × DataW Unit)} {W : World} (h : laidMet Tryd.prog l W) {n nm : String} {d dd : DataW Unit} {g : Nat} (hm : (n, dd) ∈ l) (hdd : dd = .iface nm d) (hg0 : Tryd.prog.globalNamed n = some g) {ti : TypeId} (ht0 : (Tryd.prog.globals[g]?).map (·.type) = some ti) {ms : Array (String × TypeId)} (hi : Tryd.prog.underlying ti = some (.interface ms)) : ErrG g W W.heap.size := by
  subst hdd
  obtain ⟨g', t, cs, fuel, p, hg, hty, hvar, hd⟩ := laidMet.reads h hm
  obtain rfl := Option.some.inj (hg0.symm.trans hg)
  obtain rfl := Option.some.inj (ht0.symm.trans hty)
  cases fuel with
  | zero => simp [DataW.trod] at hd
  | succ fuel =>
    have hc : ∃ u v, cs.toList = [.iface u v] := by
      unfold DataW.trod at hd
      simp only [hi] at hd
      split at hd
      all_goals first | (rename_i h1; exact ⟨_, _, h1⟩) | (simp at hd) | skip
      all_goals first | exact ⟨_, _, by assumption⟩ | (exfalso; simp_all)
    obtain ⟨u, v, hc⟩ := hc
    have := World.var?_cell hg0 hvar 0
    refine ErrG.of (ev := .iface u v) (this.trans ?_) (.inr ⟨u, v, rfl⟩)
    rw [← Array.getElem?_toList, hc]
    rfl
set_option maxRecDepth 100000 in
theorem len_of {W : World} (h : W.ShapedOpen Tryd.prog) : IntG 4 W W.heap.size := by
  obtain ⟨m, hm⟩ := Go.Proofs.cell_of_shapedOpen_int (g := 4) (zero := #[.int .i64 0]) (t := 3) h (of_decide_eq_true (by kernel_rfl)) (by kernel_rfl) rfl (by kernel_rfl) (by kernel_rfl) Tryd.underlying3
  exact IntG.of hm
set_option maxRecDepth 100000 in
noncomputable def tabCells : Array Value := (firstTab.map fun z => Value.int .u8 z).toArray
noncomputable def accCells : Array Value := ((List.range 16).flatMap fun i => [Value.int .u8 (accLo i), Value.int .u8 (accHi i)]).toArray
def layIn (cs : Array Value) (o : Obj) : Obj := match o with
  | .cells _ t frozen => .cells cs t frozen
  | o => o
set_option maxRecDepth 100000 in
def cells_math_bits_deBruijn32tab : Array Value := #[.int .u8 0, .int .u8 1, .int .u8 28, .int .u8 2, .int .u8 29, .int .u8 14, .int .u8 24, .int .u8 3, .int .u8 30, .int .u8 22, .int .u8 20, .int .u8 15, .int .u8 25, .int .u8 17, .int .u8 4, .int .u8 8, .int .u8 31, .int .u8 27, .int .u8 13, .int .u8 23, .int .u8 21, .int .u8 19, .int .u8 16, .int .u8 7, .int .u8 26, .int .u8 12, .int .u8 18, .int .u8 6, .int .u8 11, .int .u8 5, .int .u8 10, .int .u8 9]
set_option maxRecDepth 100000 in
def cells_math_bits_deBruijn64tab : Array Value := #[.int .u8 0, .int .u8 1, .int .u8 56, .int .u8 2, .int .u8 57, .int .u8 49, .int .u8 28, .int .u8 3, .int .u8 61, .int .u8 58, .int .u8 42, .int .u8 50, .int .u8 38, .int .u8 29, .int .u8 17, .int .u8 4, .int .u8 62, .int .u8 47, .int .u8 59, .int .u8 36, .int .u8 45, .int .u8 43, .int .u8 51, .int .u8 22, .int .u8 53, .int .u8 39, .int .u8 33, .int .u8 30, .int .u8 24, .int .u8 18, .int .u8 12, .int .u8 5, .int .u8 63, .int .u8 55, .int .u8 48, .int .u8 27, .int .u8 60, .int .u8 41, .int .u8 37, .int .u8 16, .int .u8 46, .int .u8 35, .int .u8 44, .int .u8 21, .int .u8 52, .int .u8 32, .int .u8 23, .int .u8 11, .int .u8 54, .int .u8 26, .int .u8 40, .int .u8 15, .int .u8 34, .int .u8 20, .int .u8 31, .int .u8 10, .int .u8 25, .int .u8 14, .int .u8 19, .int .u8 9, .int .u8 13, .int .u8 8, .int .u8 7, .int .u8 6]
set_option maxRecDepth 100000 in
def cells_internal_strconv_uint64pow10 : Array Value := #[.int .u64 1, .int .u64 10, .int .u64 100, .int .u64 1000, .int .u64 10000, .int .u64 100000, .int .u64 1000000, .int .u64 10000000, .int .u64 100000000, .int .u64 1000000000, .int .u64 10000000000, .int .u64 100000000000, .int .u64 1000000000000, .int .u64 10000000000000, .int .u64 100000000000000, .int .u64 1000000000000000, .int .u64 10000000000000000, .int .u64 100000000000000000, .int .u64 1000000000000000000, .int .u64 10000000000000000000]
noncomputable def low : Nat := (World.holding Tryd.prog default ⟨#[], #[], []⟩).heap.size
end Go.Proofs.YtdbdcbejmbpbmaaDoor
