/-
  Hands by their ranks, by first and second rank.
-/
import Derived.Test.YtnplejebgbdfpaaPCc
namespace Go.Proofs.Ytnplejebgbdfpaa
open Go Go.GL
theorem k11_10 : KT 3 [11, 10] 10 = 4000000004000000000000000476000001020000001280000001440000051840000121380 := by decide +kernel
theorem k11_11 : KT 3 [11, 11] 11 = 44000000528000000000000000000000003520000015840000063360000000000 := by decide +kernel
end Go.Proofs.Ytnplejebgbdfpaa
