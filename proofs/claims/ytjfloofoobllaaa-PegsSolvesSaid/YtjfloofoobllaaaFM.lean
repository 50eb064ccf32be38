/-
  Models and walks, printed by our own program (wip/gen).
-/
import Derived.Test.YtjfloofoobllaaaFB
import Derived.Test.YtjfloofoobllaaaLibAM
import Derived.Test.YtjfloofoobllaaaLibSt
namespace Go.Proofs.Ytjfloofoobllaaa
open Go Go.GL Go.RowKit


abbrev kf9 : List UInt8 → Value := strV

theorem MK9 : MKey Try.prog 9 kf9 := MKey.str Try.underlying9

theorem UndM115 : Try.prog.underlying 115 = some (.map 9 4) := Try.underlying115

theorem MZ4 (w : World) : (zeroValue 4).run Try.prog w = .ok (Value.bool false) w := by
  obtain ⟨i, hi, hz, hs, hb⟩ := info_parts Info4
  simp [zeroValue, typeInfo, hi, hz]

end Go.Proofs.Ytjfloofoobllaaa
