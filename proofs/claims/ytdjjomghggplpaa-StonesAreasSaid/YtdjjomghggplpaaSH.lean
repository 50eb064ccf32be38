/-
  The shelf's layings at this program (printed by the kit's own command, in plain words).
-/
import Derived.Test.YtdjjomghggplpaaFB
import Derived.Test.YtdjjomghggplpaaLibZ
namespace Go.Proofs.Ytdjjomghggplpaa
open Go Go.GL Go.Shelf

def SortR : Go.Shelf.Ren := ⟨fun | 189 => 53 | 125 => 109 | 257 => 108 | 128 => 151 | 129 => 152 | 294 => 142 | 295 => 143 | 296 => 144 | 297 => 145 | 298 => 146 | 299 => 147 | 216 => 148 | 300 => 149 | 301 => 150 | 328 => 178 | 329 => 179 | 330 => 180 | 331 => 181 | 332 => 182 | 215 => 165 | 343 => 193 | n => n, fun | 28 => 22 | 3 => 3 | 46 => 152 | 0 => 0 | 51 => 191 | 53 => 193 | 4 => 4 | 183 => 185 | 182 => 184 | 131 => 175 | 5 => 5 | 9 => 9 | 218 => 210 | 222 => 214 | 228 => 230 | 229 => 231 | n => n, fun | n => n⟩
theorem SortL : Go.Proofs.Lays.n189 Try.prog SortR := {
  mixed := by kernel_rfl
  f125 := Try.func109.trans (congrArg some (by kernel_rfl))
  f128 := Try.func151.trans (congrArg some (by kernel_rfl))
  f129 := Try.func152.trans (congrArg some (by kernel_rfl))
  f189 := Try.func53.trans (congrArg some (by kernel_rfl))
  f215 := Try.func165.trans (congrArg some (by kernel_rfl))
  f216 := Try.func148.trans (congrArg some (by kernel_rfl))
  f257 := Try.func108.trans (congrArg some (by kernel_rfl))
  f294 := Try.func142.trans (congrArg some (by kernel_rfl))
  f295 := Try.func143.trans (congrArg some (by kernel_rfl))
  f296 := Try.func144.trans (congrArg some (by kernel_rfl))
  f297 := Try.func145.trans (congrArg some (by kernel_rfl))
  f298 := Try.func146.trans (congrArg some (by kernel_rfl))
  f299 := Try.func147.trans (congrArg some (by kernel_rfl))
  f300 := Try.func149.trans (congrArg some (by kernel_rfl))
  f301 := Try.func150.trans (congrArg some (by kernel_rfl))
  f328 := Try.func178.trans (congrArg some (by kernel_rfl))
  f329 := Try.func179.trans (congrArg some (by kernel_rfl))
  f330 := Try.func180.trans (congrArg some (by kernel_rfl))
  f331 := Try.func181.trans (congrArg some (by kernel_rfl))
  f332 := Try.func182.trans (congrArg some (by kernel_rfl))
  f343 := Try.func193.trans (congrArg some (by kernel_rfl))
  t0 := Try.underlying0
  a0 := Try.isAgg0
  z0 := Try.sizeOf0
  v0 := Try.zeroValue0
  t3 := Try.underlying3
  a3 := Try.isAgg3
  z3 := Try.sizeOf3
  v3 := Try.zeroValue3
  t4 := Try.underlying4
  a4 := Try.isAgg4
  z4 := Try.sizeOf4
  v4 := Try.zeroValue4
  t5 := Try.underlying5
  a5 := Try.isAgg5
  z5 := Try.sizeOf5
  v5 := Try.zeroValue5
  t9 := Try.underlying9
  a9 := Try.isAgg9
  z9 := Try.sizeOf9
  v9 := Try.zeroValue9
  t28 := Try.underlying22
  a28 := Try.isAgg22
  z28 := Try.sizeOf22
  v28 := Try.zeroValue22
  t46 := Try.underlying152
  a46 := Try.isAgg152
  z46 := Try.sizeOf152
  v46 := Try.zeroValue152
  t51 := Try.underlying191
  a51 := Try.isAgg191
  z51 := Try.sizeOf191
  v51 := Try.zeroValue191
  t53 := Try.underlying193
  a53 := Try.isAgg193
  z53 := Try.sizeOf193
  v53 := Try.zeroValue193
  t131 := Try.underlying175
  a131 := Try.isAgg175
  z131 := Try.sizeOf175
  v131 := Try.zeroValue175
  t182 := Try.underlying184
  a182 := Try.isAgg184
  z182 := Try.sizeOf184
  v182 := Try.zeroValue184
  t183 := Try.underlying185
  a183 := Try.isAgg185
  z183 := Try.sizeOf185
  v183 := Try.zeroValue185
  t218 := Try.underlying210
  a218 := Try.isAgg210
  z218 := Try.sizeOf210
  v218 := Try.zeroValue210
  t222 := Try.underlying214
  a222 := Try.isAgg214
  z222 := Try.sizeOf214
  v222 := Try.zeroValue214
  t228 := Try.underlying230
  a228 := Try.isAgg230
  z228 := Try.sizeOf230
  v228 := Try.zeroValue230
  t229 := Try.underlying231
  a229 := Try.isAgg231
  z229 := Try.sizeOf231
  v229 := Try.zeroValue231 }

end Go.Proofs.Ytdjjomghggplpaa
