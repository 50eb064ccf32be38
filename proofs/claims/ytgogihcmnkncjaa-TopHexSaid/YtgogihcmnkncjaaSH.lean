/-
  The shelf's layings at this program (printed by the kit's own command, in plain words).
-/
import Derived.Test.YtgogihcmnkncjaaFB
import Derived.Test.YtgogihcmnkncjaaLibZ
namespace Go.Proofs.Ytgogihcmnkncjaa
open Go Go.GL Go.Shelf

def SortR : Go.Shelf.Ren := ⟨fun | 189 => 147 | 125 => 189 | 257 => 188 | 128 => 225 | 129 => 226 | 294 => 216 | 295 => 217 | 296 => 218 | 297 => 219 | 298 => 220 | 299 => 221 | 216 => 222 | 300 => 223 | 301 => 224 | 328 => 243 | 329 => 244 | 330 => 245 | 331 => 246 | 332 => 247 | 215 => 235 | 343 => 261 | n => n, fun | 28 => 22 | 3 => 3 | 46 => 186 | 0 => 0 | 51 => 217 | 53 => 220 | 4 => 4 | 183 => 246 | 182 => 245 | 131 => 104 | 5 => 5 | 9 => 9 | 218 => 266 | 222 => 270 | 228 => 281 | 229 => 202 | n => n, fun | n => n⟩
theorem SortL : Go.Proofs.Lays.n189 Try.prog SortR := {
  mixed := by kernel_rfl
  f125 := Try.func189.trans (congrArg some (by kernel_rfl))
  f128 := Try.func225.trans (congrArg some (by kernel_rfl))
  f129 := Try.func226.trans (congrArg some (by kernel_rfl))
  f189 := Try.func147.trans (congrArg some (by kernel_rfl))
  f215 := Try.func235.trans (congrArg some (by kernel_rfl))
  f216 := Try.func222.trans (congrArg some (by kernel_rfl))
  f257 := Try.func188.trans (congrArg some (by kernel_rfl))
  f294 := Try.func216.trans (congrArg some (by kernel_rfl))
  f295 := Try.func217.trans (congrArg some (by kernel_rfl))
  f296 := Try.func218.trans (congrArg some (by kernel_rfl))
  f297 := Try.func219.trans (congrArg some (by kernel_rfl))
  f298 := Try.func220.trans (congrArg some (by kernel_rfl))
  f299 := Try.func221.trans (congrArg some (by kernel_rfl))
  f300 := Try.func223.trans (congrArg some (by kernel_rfl))
  f301 := Try.func224.trans (congrArg some (by kernel_rfl))
  f328 := Try.func243.trans (congrArg some (by kernel_rfl))
  f329 := Try.func244.trans (congrArg some (by kernel_rfl))
  f330 := Try.func245.trans (congrArg some (by kernel_rfl))
  f331 := Try.func246.trans (congrArg some (by kernel_rfl))
  f332 := Try.func247.trans (congrArg some (by kernel_rfl))
  f343 := Try.func261.trans (congrArg some (by kernel_rfl))
  t0 := Try.underlying0
  a0 := Try.isAgg0
  z0 := Try.sizeOf0
  v0 := Try.zeroValue0
  t3 := Try.underlying3
  a3 := Try.isAgg3
  z3 := Try.sizeOf3
  v3 := Try.zeroValue3
  t4 := Try.underlying4
  a4 := Try.isAgg4
  z4 := Try.sizeOf4
  v4 := Try.zeroValue4
  t5 := Try.underlying5
  a5 := Try.isAgg5
  z5 := Try.sizeOf5
  v5 := Try.zeroValue5
  t9 := Try.underlying9
  a9 := Try.isAgg9
  z9 := Try.sizeOf9
  v9 := Try.zeroValue9
  t28 := Try.underlying22
  a28 := Try.isAgg22
  z28 := Try.sizeOf22
  v28 := Try.zeroValue22
  t46 := Try.underlying186
  a46 := Try.isAgg186
  z46 := Try.sizeOf186
  v46 := Try.zeroValue186
  t51 := Try.underlying217
  a51 := Try.isAgg217
  z51 := Try.sizeOf217
  v51 := Try.zeroValue217
  t53 := Try.underlying220
  a53 := Try.isAgg220
  z53 := Try.sizeOf220
  v53 := Try.zeroValue220
  t131 := Try.underlying104
  a131 := Try.isAgg104
  z131 := Try.sizeOf104
  v131 := Try.zeroValue104
  t182 := Try.underlying245
  a182 := Try.isAgg245
  z182 := Try.sizeOf245
  v182 := Try.zeroValue245
  t183 := Try.underlying246
  a183 := Try.isAgg246
  z183 := Try.sizeOf246
  v183 := Try.zeroValue246
  t218 := Try.underlying266
  a218 := Try.isAgg266
  z218 := Try.sizeOf266
  v218 := Try.zeroValue266
  t222 := Try.underlying270
  a222 := Try.isAgg270
  z222 := Try.sizeOf270
  v222 := Try.zeroValue270
  t228 := Try.underlying281
  a228 := Try.isAgg281
  z228 := Try.sizeOf281
  v228 := Try.zeroValue281
  t229 := Try.underlying202
  a229 := Try.isAgg202
  z229 := Try.sizeOf202
  v229 := Try.zeroValue202 }
end Go.Proofs.Ytgogihcmnkncjaa
