/-
  Hands by their ranks, by first and second rank.
-/
import Derived.Test.YtnplejebgbdfpaaPCc
namespace Go.Proofs.Ytnplejebgbdfpaa
open Go Go.GL
theorem k12_10 : KT 3 [12, 10] 10 = 4000000000000000480000000000000001280000001440000051840000122400 := by decide +kernel
theorem k12_11 : KT 3 [12, 11] 11 = 4000000004000000000000000656000001020000001408000001584000063360000167280 := by decide +kernel
theorem k12_12 : KT 3 [12, 12] 12 = 48000000576000000000000000000000004224000019008000084480000000000 := by decide +kernel
end Go.Proofs.Ytnplejebgbdfpaa
