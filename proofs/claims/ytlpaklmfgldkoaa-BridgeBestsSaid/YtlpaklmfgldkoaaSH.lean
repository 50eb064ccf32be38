/-
  The shelf's layings at this program (printed by the kit's own command, in plain words).
-/
import Derived.Test.YtlpaklmfgldkoaaFB
import Derived.Test.YtlpaklmfgldkoaaLibZ
namespace Go.Proofs.Ytlpaklmfgldkoaa
open Go Go.GL Go.Shelf

def SortR : Go.Shelf.Ren := ⟨fun | 189 => 90 | 125 => 143 | 257 => 142 | 128 => 180 | 129 => 181 | 294 => 171 | 295 => 172 | 296 => 173 | 297 => 174 | 298 => 175 | 299 => 176 | 216 => 177 | 300 => 178 | 301 => 179 | 328 => 212 | 329 => 213 | 330 => 214 | 331 => 215 | 332 => 216 | 215 => 194 | 343 => 227 | n => n, fun | 28 => 34 | 3 => 3 | 46 => 111 | 0 => 0 | 51 => 218 | 53 => 196 | 4 => 4 | 183 => 212 | 182 => 211 | 131 => 85 | 5 => 5 | 9 => 9 | 218 => 236 | 222 => 240 | 228 => 248 | 229 => 64 | n => n, fun | n => n⟩
theorem SortL : Go.Proofs.Lays.n189 Try.prog SortR := {
  mixed := by kernel_rfl
  f125 := Try.func143.trans (congrArg some (by kernel_rfl))
  f128 := Try.func180.trans (congrArg some (by kernel_rfl))
  f129 := Try.func181.trans (congrArg some (by kernel_rfl))
  f189 := Try.func90.trans (congrArg some (by kernel_rfl))
  f215 := Try.func194.trans (congrArg some (by kernel_rfl))
  f216 := Try.func177.trans (congrArg some (by kernel_rfl))
  f257 := Try.func142.trans (congrArg some (by kernel_rfl))
  f294 := Try.func171.trans (congrArg some (by kernel_rfl))
  f295 := Try.func172.trans (congrArg some (by kernel_rfl))
  f296 := Try.func173.trans (congrArg some (by kernel_rfl))
  f297 := Try.func174.trans (congrArg some (by kernel_rfl))
  f298 := Try.func175.trans (congrArg some (by kernel_rfl))
  f299 := Try.func176.trans (congrArg some (by kernel_rfl))
  f300 := Try.func178.trans (congrArg some (by kernel_rfl))
  f301 := Try.func179.trans (congrArg some (by kernel_rfl))
  f328 := Try.func212.trans (congrArg some (by kernel_rfl))
  f329 := Try.func213.trans (congrArg some (by kernel_rfl))
  f330 := Try.func214.trans (congrArg some (by kernel_rfl))
  f331 := Try.func215.trans (congrArg some (by kernel_rfl))
  f332 := Try.func216.trans (congrArg some (by kernel_rfl))
  f343 := Try.func227.trans (congrArg some (by kernel_rfl))
  t0 := Try.underlying0
  a0 := Try.isAgg0
  z0 := Try.sizeOf0
  v0 := Try.zeroValue0
  t3 := Try.underlying3
  a3 := Try.isAgg3
  z3 := Try.sizeOf3
  v3 := Try.zeroValue3
  t4 := Try.underlying4
  a4 := Try.isAgg4
  z4 := Try.sizeOf4
  v4 := Try.zeroValue4
  t5 := Try.underlying5
  a5 := Try.isAgg5
  z5 := Try.sizeOf5
  v5 := Try.zeroValue5
  t9 := Try.underlying9
  a9 := Try.isAgg9
  z9 := Try.sizeOf9
  v9 := Try.zeroValue9
  t28 := Try.underlying34
  a28 := Try.isAgg34
  z28 := Try.sizeOf34
  v28 := Try.zeroValue34
  t46 := Try.underlying111
  a46 := Try.isAgg111
  z46 := Try.sizeOf111
  v46 := Try.zeroValue111
  t51 := Try.underlying218
  a51 := Try.isAgg218
  z51 := Try.sizeOf218
  v51 := Try.zeroValue218
  t53 := Try.underlying196
  a53 := Try.isAgg196
  z53 := Try.sizeOf196
  v53 := Try.zeroValue196
  t131 := Try.underlying85
  a131 := Try.isAgg85
  z131 := Try.sizeOf85
  v131 := Try.zeroValue85
  t182 := Try.underlying211
  a182 := Try.isAgg211
  z182 := Try.sizeOf211
  v182 := Try.zeroValue211
  t183 := Try.underlying212
  a183 := Try.isAgg212
  z183 := Try.sizeOf212
  v183 := Try.zeroValue212
  t218 := Try.underlying236
  a218 := Try.isAgg236
  z218 := Try.sizeOf236
  v218 := Try.zeroValue236
  t222 := Try.underlying240
  a222 := Try.isAgg240
  z222 := Try.sizeOf240
  v222 := Try.zeroValue240
  t228 := Try.underlying248
  a228 := Try.isAgg248
  z228 := Try.sizeOf248
  v228 := Try.zeroValue248
  t229 := Try.underlying64
  a229 := Try.isAgg64
  z229 := Try.sizeOf64
  v229 := Try.zeroValue64 }

def CompactR : Go.Shelf.Ren := ⟨fun | 20 => 156 | n => n, fun | 22 => 34 | 3 => 3 | 4 => 4 | 0 => 0 | n => n, fun | n => n⟩
theorem CompactL : Go.Proofs.Lays2.n20 Try.prog CompactR := {
  mixed := by kernel_rfl
  f20 := Try.func156.trans (congrArg some (by kernel_rfl))
  t0 := Try.underlying0
  a0 := Try.isAgg0
  z0 := Try.sizeOf0
  v0 := Try.zeroValue0
  t3 := Try.underlying3
  a3 := Try.isAgg3
  z3 := Try.sizeOf3
  v3 := Try.zeroValue3
  t4 := Try.underlying4
  a4 := Try.isAgg4
  z4 := Try.sizeOf4
  v4 := Try.zeroValue4
  t22 := Try.underlying34
  a22 := Try.isAgg34
  z22 := Try.sizeOf34
  v22 := Try.zeroValue34
  i3 := by kernel_rfl }
end Go.Proofs.Ytlpaklmfgldkoaa
