/-
  Models and walks, printed by our own program (wip/gen).
-/
import Derived.Test.YtdbdcbejmbpbmaaDoorFB
import Derived.Test.YtdbdcbejmbpbmaaDoorLibAM
import Derived.Test.YtdbdcbejmbpbmaaDoorLibSt
import Derived.Test.YtdbdcbejmbpbmaaDoorLibKv
import Derived.Test.YtdbdcbejmbpbmaaDoorLibIr
namespace Go.Proofs.YtdbdcbejmbpbmaaDoor
open Go Go.GL Go.RowKit


theorem UndM81 : Tryd.prog.underlying 81 = some (.map 3 3) := Tryd.underlying81

theorem MZ3 (w : World) : (zeroValue 3).run Tryd.prog w = .ok ((Value.int .i64) (0 : Int)) w := by
  obtain ⟨i, hi, hz, hs, hb⟩ := info_parts Info3
  simp [zeroValue, typeInfo, hi, hz]

abbrev kf3 : Int → Value := Value.int .i64

theorem MK3 : MKey Tryd.prog 3 kf3 := MKey.int Tryd.underlying3

theorem UndM99 : Tryd.prog.underlying 99 = some (.map 21 3) := Tryd.underlying99

abbrev kf21 : Int → Value := Value.int .i32

theorem MK21 : MKey Tryd.prog 21 kf21 := MKey.int Tryd.underlying21


end Go.Proofs.YtdbdcbejmbpbmaaDoor
