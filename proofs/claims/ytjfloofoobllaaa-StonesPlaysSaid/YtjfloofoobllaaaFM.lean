/-
  Models and walks, printed by our own program (wip/gen).
-/
import Derived.Test.YtjfloofoobllaaaFB
import Derived.Test.YtjfloofoobllaaaLibAM
import Derived.Test.YtjfloofoobllaaaLibSt
namespace Go.Proofs.Ytjfloofoobllaaa
open Go Go.GL Go.RowKit


theorem MZ3 (w : World) : (zeroValue 3).run Try.prog w = .ok ((Value.int .i64) (0 : Int)) w := by
  obtain ⟨i, hi, hz, hs, hb⟩ := info_parts Info3
  simp [zeroValue, typeInfo, hi, hz]

abbrev kf9 : List UInt8 → Value := strV

theorem MK9 : MKey Try.prog 9 kf9 := MKey.str Try.underlying9

theorem UndM76 : Try.prog.underlying 76 = some (.map 9 3) := Try.underlying76

end Go.Proofs.Ytjfloofoobllaaa
