/-
  Models and walks, printed by our own program (wip/gen).
-/
import Derived.Test.YtnplejebgbdfpaaLibQ
import Derived.Test.YtnplejebgbdfpaaProg
namespace Go.Proofs.Ytnplejebgbdfpaa
open Go Go.GL Go.RowKit


theorem Fol : Try.prog.follows .mixedOrders = true := by kernel_rfl
theorem Info2 : (Try.prog.info? 2).map (fun i => (i.zero, i.size, i.bytes)) = some (some (.int .i64 0), 1, 8) := by kernel_rfl
theorem Agg2 : runPure Try.prog (isAgg 2) = some false := by kernel_rfl
theorem Info3 : (Try.prog.info? 3).map (fun i => (i.zero, i.size, i.bytes)) = some (some (.int .i64 0), 1, 8) := by kernel_rfl
theorem Agg3 : runPure Try.prog (isAgg 3) = some false := by kernel_rfl
theorem Info4 : (Try.prog.info? 4).map (fun i => (i.zero, i.size, i.bytes)) = some (some (.bool false), 1, 1) := by kernel_rfl
theorem Agg4 : runPure Try.prog (isAgg 4) = some false := by kernel_rfl
theorem Info5 : (Try.prog.info? 5).map (fun i => (i.zero, i.size, i.bytes)) = some (some (.int .u8 0), 1, 1) := by kernel_rfl
theorem Agg5 : runPure Try.prog (isAgg 5) = some false := by kernel_rfl
theorem Info6 : (Try.prog.info? 6).map (fun i => (i.zero, i.size, i.bytes)) = some (some (.int .u8 0), 1, 1) := by kernel_rfl
theorem Agg6 : runPure Try.prog (isAgg 6) = some false := by kernel_rfl
theorem Agg9 : runPure Try.prog (isAgg 9) = some false := by kernel_rfl
theorem Info12 : (Try.prog.info? 12).map (fun i => (i.zero, i.size, i.bytes)) = some (some (.int .u64 0), 1, 8) := by kernel_rfl
theorem Agg12 : runPure Try.prog (isAgg 12) = some false := by kernel_rfl
theorem Info21 : (Try.prog.info? 21).map (fun i => (i.zero, i.size, i.bytes)) = some (some (.int .i32 0), 1, 4) := by kernel_rfl
theorem Agg21 : runPure Try.prog (isAgg 21) = some false := by kernel_rfl
theorem Und22 : Try.prog.underlying 22 = some (.slice 3) := Try.underlying22
theorem Info22 : (Try.prog.info? 22).map (fun i => (i.zero, i.size, i.bytes)) = some (some (.slice none 0 0), 1, 24) := by kernel_rfl
theorem Agg22 : runPure Try.prog (isAgg 22) = some false := by kernel_rfl
theorem Und23 : Try.prog.underlying 23 = some (.slice 22) := Try.underlying23
theorem Info23 : (Try.prog.info? 23).map (fun i => (i.zero, i.size, i.bytes)) = some (some (.slice none 0 0), 1, 24) := by kernel_rfl
theorem Agg23 : runPure Try.prog (isAgg 23) = some false := by kernel_rfl
theorem Info24 : (Try.prog.info? 24).map (fun i => (i.zero, i.size, i.bytes)) = some (some (.int .i64 0), 1, 8) := by kernel_rfl
theorem Agg24 : runPure Try.prog (isAgg 24) = some false := by kernel_rfl
theorem Und61 : Try.prog.underlying 61 = some (.slice 102) := Try.underlying61
theorem Info61 : (Try.prog.info? 61).map (fun i => (i.zero, i.size, i.bytes)) = some (some (.slice none 0 0), 1, 24) := by kernel_rfl
theorem Agg61 : runPure Try.prog (isAgg 61) = some false := by kernel_rfl
theorem Info114 : (Try.prog.info? 114).map (fun i => (i.zero, i.size, i.bytes)) = some (some (.int .u64 0), 1, 8) := by kernel_rfl
theorem Agg114 : runPure Try.prog (isAgg 114) = some false := by kernel_rfl
theorem Und115 : Try.prog.underlying 115 = some (.slice 114) := Try.underlying115
theorem Info115 : (Try.prog.info? 115).map (fun i => (i.zero, i.size, i.bytes)) = some (some (.slice none 0 0), 1, 24) := by kernel_rfl
theorem Agg115 : runPure Try.prog (isAgg 115) = some false := by kernel_rfl
theorem Und120 : Try.prog.underlying 120 = some (.slice 4) := Try.underlying120
theorem Info120 : (Try.prog.info? 120).map (fun i => (i.zero, i.size, i.bytes)) = some (some (.slice none 0 0), 1, 24) := by kernel_rfl
theorem Agg120 : runPure Try.prog (isAgg 120) = some false := by kernel_rfl
theorem Info135 : (Try.prog.info? 135).map (fun i => (i.zero, i.size, i.bytes)) = some (some (.int .u32 0), 1, 4) := by kernel_rfl
theorem Agg135 : runPure Try.prog (isAgg 135) = some false := by kernel_rfl
theorem Info136 : (Try.prog.info? 136).map (fun i => (i.zero, i.size, i.bytes)) = some (some (.int .u8 0), 1, 1) := by kernel_rfl
theorem Agg136 : runPure Try.prog (isAgg 136) = some false := by kernel_rfl
theorem Info137 : (Try.prog.info? 137).map (fun i => (i.zero, i.size, i.bytes)) = some (some (.int .u8 0), 1, 1) := by kernel_rfl
theorem Agg137 : runPure Try.prog (isAgg 137) = some false := by kernel_rfl
theorem Info140 : (Try.prog.info? 140).map (fun i => (i.zero, i.size, i.bytes)) = some (some (.int .i32 0), 1, 4) := by kernel_rfl
theorem Agg140 : runPure Try.prog (isAgg 140) = some false := by kernel_rfl
theorem Info141 : (Try.prog.info? 141).map (fun i => (i.zero, i.size, i.bytes)) = some (some (.int .i32 0), 1, 4) := by kernel_rfl
theorem Agg141 : runPure Try.prog (isAgg 141) = some false := by kernel_rfl


end Go.Proofs.Ytnplejebgbdfpaa
