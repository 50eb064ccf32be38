/-
  Models and walks, printed by our own program (wip/gen).
-/
import Derived.Test.YtdbdcbejmbpbmaaDoorLibW
import Derived.Test.YtdbdcbejmbpbmaaDoorProg
namespace Go.Proofs.YtdbdcbejmbpbmaaDoor
open Go Go.GL Go.RowKit


theorem Fol : Tryd.prog.follows .mixedOrders = true := by kernel_rfl
theorem Info3 : (Tryd.prog.info? 3).map (fun i => (i.zero, i.size, i.bytes)) = some (some (.int .i64 0), 1, 8) := by kernel_rfl
theorem Info4 : (Tryd.prog.info? 4).map (fun i => (i.zero, i.size, i.bytes)) = some (some (.bool false), 1, 1) := by kernel_rfl
theorem Agg4 : runPure Tryd.prog (isAgg 4) = some false := by kernel_rfl
theorem Info5 : (Tryd.prog.info? 5).map (fun i => (i.zero, i.size, i.bytes)) = some (some (.int .u8 0), 1, 1) := by kernel_rfl
theorem Agg5 : runPure Tryd.prog (isAgg 5) = some false := by kernel_rfl
theorem Info9 : (Tryd.prog.info? 9).map (fun i => (i.zero, i.size, i.bytes)) = some (some (.string ⟨#[]⟩), 1, 16) := by kernel_rfl
theorem Agg9 : runPure Tryd.prog (isAgg 9) = some false := by kernel_rfl
theorem Info21 : (Tryd.prog.info? 21).map (fun i => (i.zero, i.size, i.bytes)) = some (some (.int .i32 0), 1, 4) := by kernel_rfl
theorem Agg21 : runPure Tryd.prog (isAgg 21) = some false := by kernel_rfl
theorem Und40 : Tryd.prog.underlying 40 = some (.slice 9) := Tryd.underlying40
theorem Info40 : (Tryd.prog.info? 40).map (fun i => (i.zero, i.size, i.bytes)) = some (some (.slice none 0 0), 1, 24) := by kernel_rfl
theorem Agg40 : runPure Tryd.prog (isAgg 40) = some false := by kernel_rfl
theorem Und79 : Tryd.prog.underlying 79 = some (.slice 21) := Tryd.underlying79
theorem Und82 : Tryd.prog.underlying 82 = some (.slice 4) := Tryd.underlying82
theorem Und107 : Tryd.prog.underlying 107 = some (.slice 40) := Tryd.underlying107
theorem Und112 : Tryd.prog.underlying 112 = some (.slice 5) := Tryd.underlying112
end Go.Proofs.YtdbdcbejmbpbmaaDoor
