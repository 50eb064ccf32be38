/-
  The shelf's layings at this program (printed by the kit's own command, in plain words).
-/
import Derived.Test.YtjfloofoobllaaaFB
import Derived.Test.YtjfloofoobllaaaLibZ
namespace Go.Proofs.Ytjfloofoobllaaa
open Go Go.GL Go.Shelf

def SortR : Go.Shelf.Ren := ⟨fun | 189 => 55 | 125 => 94 | 257 => 93 | 128 => 127 | 129 => 128 | 294 => 118 | 295 => 119 | 296 => 120 | 297 => 121 | 298 => 122 | 299 => 123 | 216 => 124 | 300 => 125 | 301 => 126 | 328 => 146 | 329 => 147 | 330 => 148 | 331 => 149 | 332 => 150 | 215 => 143 | 343 => 158 | n => n, fun | 28 => 22 | 3 => 3 | 46 => 146 | 0 => 0 | 51 => 173 | 53 => 175 | 4 => 4 | 183 => 166 | 182 => 165 | 131 => 58 | 5 => 5 | 9 => 9 | 218 => 190 | 222 => 194 | 228 => 209 | 229 => 210 | n => n, fun | n => n⟩
theorem SortL : Go.Proofs.Lays.n189 Try.prog SortR := {
  mixed := by kernel_rfl
  f125 := Try.func94.trans (congrArg some (by kernel_rfl))
  f128 := Try.func127.trans (congrArg some (by kernel_rfl))
  f129 := Try.func128.trans (congrArg some (by kernel_rfl))
  f189 := Try.func55.trans (congrArg some (by kernel_rfl))
  f215 := Try.func143.trans (congrArg some (by kernel_rfl))
  f216 := Try.func124.trans (congrArg some (by kernel_rfl))
  f257 := Try.func93.trans (congrArg some (by kernel_rfl))
  f294 := Try.func118.trans (congrArg some (by kernel_rfl))
  f295 := Try.func119.trans (congrArg some (by kernel_rfl))
  f296 := Try.func120.trans (congrArg some (by kernel_rfl))
  f297 := Try.func121.trans (congrArg some (by kernel_rfl))
  f298 := Try.func122.trans (congrArg some (by kernel_rfl))
  f299 := Try.func123.trans (congrArg some (by kernel_rfl))
  f300 := Try.func125.trans (congrArg some (by kernel_rfl))
  f301 := Try.func126.trans (congrArg some (by kernel_rfl))
  f328 := Try.func146.trans (congrArg some (by kernel_rfl))
  f329 := Try.func147.trans (congrArg some (by kernel_rfl))
  f330 := Try.func148.trans (congrArg some (by kernel_rfl))
  f331 := Try.func149.trans (congrArg some (by kernel_rfl))
  f332 := Try.func150.trans (congrArg some (by kernel_rfl))
  f343 := Try.func158.trans (congrArg some (by kernel_rfl))
  t0 := Try.underlying0
  a0 := Try.isAgg0
  z0 := Try.sizeOf0
  v0 := Try.zeroValue0
  t3 := Try.underlying3
  a3 := Try.isAgg3
  z3 := Try.sizeOf3
  v3 := Try.zeroValue3
  t4 := Try.underlying4
  a4 := Try.isAgg4
  z4 := Try.sizeOf4
  v4 := Try.zeroValue4
  t5 := Try.underlying5
  a5 := Try.isAgg5
  z5 := Try.sizeOf5
  v5 := Try.zeroValue5
  t9 := Try.underlying9
  a9 := Try.isAgg9
  z9 := Try.sizeOf9
  v9 := Try.zeroValue9
  t28 := Try.underlying22
  a28 := Try.isAgg22
  z28 := Try.sizeOf22
  v28 := Try.zeroValue22
  t46 := Try.underlying146
  a46 := Try.isAgg146
  z46 := Try.sizeOf146
  v46 := Try.zeroValue146
  t51 := Try.underlying173
  a51 := Try.isAgg173
  z51 := Try.sizeOf173
  v51 := Try.zeroValue173
  t53 := Try.underlying175
  a53 := Try.isAgg175
  z53 := Try.sizeOf175
  v53 := Try.zeroValue175
  t131 := Try.underlying58
  a131 := Try.isAgg58
  z131 := Try.sizeOf58
  v131 := Try.zeroValue58
  t182 := Try.underlying165
  a182 := Try.isAgg165
  z182 := Try.sizeOf165
  v182 := Try.zeroValue165
  t183 := Try.underlying166
  a183 := Try.isAgg166
  z183 := Try.sizeOf166
  v183 := Try.zeroValue166
  t218 := Try.underlying190
  a218 := Try.isAgg190
  z218 := Try.sizeOf190
  v218 := Try.zeroValue190
  t222 := Try.underlying194
  a222 := Try.isAgg194
  z222 := Try.sizeOf194
  v222 := Try.zeroValue194
  t228 := Try.underlying209
  a228 := Try.isAgg209
  z228 := Try.sizeOf209
  v228 := Try.zeroValue209
  t229 := Try.underlying210
  a229 := Try.isAgg210
  z229 := Try.sizeOf210
  v229 := Try.zeroValue210 }
end Go.Proofs.Ytjfloofoobllaaa
