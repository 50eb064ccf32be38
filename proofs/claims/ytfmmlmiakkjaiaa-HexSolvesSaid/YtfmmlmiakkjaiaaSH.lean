/-
  The shelf's layings at this program (printed by the kit's own command, in plain words).
-/
import Derived.Test.YtfmmlmiakkjaiaaFB
import Derived.Test.YtfmmlmiakkjaiaaLibZ
namespace Go.Proofs.Ytfmmlmiakkjaiaa
open Go Go.GL Go.Shelf

def SortR : Go.Shelf.Ren := ⟨fun | 189 => 185 | 125 => 165 | 257 => 240 | 128 => 234 | 129 => 235 | 294 => 257 | 295 => 258 | 296 => 259 | 297 => 260 | 298 => 261 | 299 => 262 | 216 => 263 | 300 => 264 | 301 => 265 | 328 => 275 | 329 => 251 | 330 => 252 | 331 => 276 | 332 => 277 | 215 => 236 | 343 => 281 | n => n, fun | 28 => 27 | 3 => 3 | 46 => 199 | 0 => 0 | 51 => 236 | 53 => 185 | 4 => 4 | 183 => 230 | 182 => 229 | 131 => 174 | 5 => 5 | 9 => 9 | 218 => 250 | 222 => 254 | 228 => 265 | 229 => 39 | n => n, fun | n => n⟩
theorem SortL : Go.Proofs.Lays.n189 Try.prog SortR := {
  mixed := by kernel_rfl
  f125 := Try.func165.trans (congrArg some (by kernel_rfl))
  f128 := Try.func234.trans (congrArg some (by kernel_rfl))
  f129 := Try.func235.trans (congrArg some (by kernel_rfl))
  f189 := Try.func185.trans (congrArg some (by kernel_rfl))
  f215 := Try.func236.trans (congrArg some (by kernel_rfl))
  f216 := Try.func263.trans (congrArg some (by kernel_rfl))
  f257 := Try.func240.trans (congrArg some (by kernel_rfl))
  f294 := Try.func257.trans (congrArg some (by kernel_rfl))
  f295 := Try.func258.trans (congrArg some (by kernel_rfl))
  f296 := Try.func259.trans (congrArg some (by kernel_rfl))
  f297 := Try.func260.trans (congrArg some (by kernel_rfl))
  f298 := Try.func261.trans (congrArg some (by kernel_rfl))
  f299 := Try.func262.trans (congrArg some (by kernel_rfl))
  f300 := Try.func264.trans (congrArg some (by kernel_rfl))
  f301 := Try.func265.trans (congrArg some (by kernel_rfl))
  f328 := Try.func275.trans (congrArg some (by kernel_rfl))
  f329 := Try.func251.trans (congrArg some (by kernel_rfl))
  f330 := Try.func252.trans (congrArg some (by kernel_rfl))
  f331 := Try.func276.trans (congrArg some (by kernel_rfl))
  f332 := Try.func277.trans (congrArg some (by kernel_rfl))
  f343 := Try.func281.trans (congrArg some (by kernel_rfl))
  t0 := Try.underlying0
  a0 := Try.isAgg0
  z0 := Try.sizeOf0
  v0 := Try.zeroValue0
  t3 := Try.underlying3
  a3 := Try.isAgg3
  z3 := Try.sizeOf3
  v3 := Try.zeroValue3
  t4 := Try.underlying4
  a4 := Try.isAgg4
  z4 := Try.sizeOf4
  v4 := Try.zeroValue4
  t5 := Try.underlying5
  a5 := Try.isAgg5
  z5 := Try.sizeOf5
  v5 := Try.zeroValue5
  t9 := Try.underlying9
  a9 := Try.isAgg9
  z9 := Try.sizeOf9
  v9 := Try.zeroValue9
  t28 := Try.underlying27
  a28 := Try.isAgg27
  z28 := Try.sizeOf27
  v28 := Try.zeroValue27
  t46 := Try.underlying199
  a46 := Try.isAgg199
  z46 := Try.sizeOf199
  v46 := Try.zeroValue199
  t51 := Try.underlying236
  a51 := Try.isAgg236
  z51 := Try.sizeOf236
  v51 := Try.zeroValue236
  t53 := Try.underlying185
  a53 := Try.isAgg185
  z53 := Try.sizeOf185
  v53 := Try.zeroValue185
  t131 := Try.underlying174
  a131 := Try.isAgg174
  z131 := Try.sizeOf174
  v131 := Try.zeroValue174
  t182 := Try.underlying229
  a182 := Try.isAgg229
  z182 := Try.sizeOf229
  v182 := Try.zeroValue229
  t183 := Try.underlying230
  a183 := Try.isAgg230
  z183 := Try.sizeOf230
  v183 := Try.zeroValue230
  t218 := Try.underlying250
  a218 := Try.isAgg250
  z218 := Try.sizeOf250
  v218 := Try.zeroValue250
  t222 := Try.underlying254
  a222 := Try.isAgg254
  z222 := Try.sizeOf254
  v222 := Try.zeroValue254
  t228 := Try.underlying265
  a228 := Try.isAgg265
  z228 := Try.sizeOf265
  v228 := Try.zeroValue265
  t229 := Try.underlying39
  a229 := Try.isAgg39
  z229 := Try.sizeOf39
  v229 := Try.zeroValue39 }

end Go.Proofs.Ytfmmlmiakkjaiaa
