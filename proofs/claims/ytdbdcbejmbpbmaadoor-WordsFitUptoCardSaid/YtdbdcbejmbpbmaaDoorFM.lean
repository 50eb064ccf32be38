/-
  Models and walks, printed by our own program (wip/gen).
-/
import Derived.Test.YtdbdcbejmbpbmaaDoorFB
import Derived.Test.YtdbdcbejmbpbmaaDoorLibAM
import Derived.Test.YtdbdcbejmbpbmaaDoorLibSt
import Derived.Test.YtdbdcbejmbpbmaaDoorLibKv
import Derived.Test.YtdbdcbejmbpbmaaDoorLibIr
namespace Go.Proofs.YtdbdcbejmbpbmaaDoor
open Go Go.GL Go.RowKit


theorem MZ3 (w : World) : (zeroValue 3).run Tryd.prog w = .ok ((Value.int .i64) (0 : Int)) w := by
  obtain ⟨i, hi, hz, hs, hb⟩ := info_parts Info3
  simp [zeroValue, typeInfo, hi, hz]

theorem UndM99 : Tryd.prog.underlying 99 = some (.map 21 3) := Tryd.underlying99

abbrev kf21 : Int → Value := Value.int .i32

theorem MK21 : MKey Tryd.prog 21 kf21 := MKey.int Tryd.underlying21


end Go.Proofs.YtdbdcbejmbpbmaaDoor
