import Derived.Test.YtfmmlmiakkjaiaaCMi
namespace Go.Proofs.Ytfmmlmiakkjaiaa
open Go Go.GL Go.RowKit
section
variable {p : List Int} {t c e h f : Int}
theorem chessOf_any (hl : p.length ≤ 17592186043904) (t c e h f : Int) : rf_ChessOf_m p t c e h f = some (p, t, c, e, h, f) := by
 unfold rf_ChessOf_m rf_Ints_m
 rw [asrt_pos (by unfold bigN; omega)]
 simp
end
end Go.Proofs.Ytfmmlmiakkjaiaa
