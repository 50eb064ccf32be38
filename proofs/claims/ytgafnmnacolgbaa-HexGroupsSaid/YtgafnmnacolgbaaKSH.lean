/-
  The shelf's layings at this program (printed by the kit's own command, in plain words).
-/
import Derived.Test.YtgafnmnacolgbaaKFB
import Derived.Test.YtgafnmnacolgbaaKibZ
namespace Go.Proofs.Ytgafnmnacolgbaa
open Go Go.GL Go.Shelf

def SortR : Go.Shelf.Ren := ⟨fun | 189 => 115 | 125 => 164 | 257 => 163 | 128 => 206 | 129 => 207 | 294 => 197 | 295 => 198 | 296 => 199 | 297 => 200 | 298 => 201 | 299 => 202 | 216 => 203 | 300 => 204 | 301 => 205 | 328 => 220 | 329 => 221 | 330 => 222 | 331 => 223 | 332 => 224 | 215 => 219 | 343 => 229 | n => n, fun | 28 => 34 | 3 => 3 | 46 => 121 | 0 => 0 | 51 => 218 | 53 => 220 | 4 => 4 | 183 => 213 | 182 => 212 | 131 => 45 | 5 => 5 | 9 => 9 | 218 => 235 | 222 => 239 | 228 => 245 | 229 => 191 | n => n, fun | n => n⟩
theorem SortL : Go.Proofs.Lays.n189 Try.prog SortR := {
  mixed := by kernel_rfl
  f125 := Try.func164.trans (congrArg some (by kernel_rfl))
  f128 := Try.func206.trans (congrArg some (by kernel_rfl))
  f129 := Try.func207.trans (congrArg some (by kernel_rfl))
  f189 := Try.func115.trans (congrArg some (by kernel_rfl))
  f215 := Try.func219.trans (congrArg some (by kernel_rfl))
  f216 := Try.func203.trans (congrArg some (by kernel_rfl))
  f257 := Try.func163.trans (congrArg some (by kernel_rfl))
  f294 := Try.func197.trans (congrArg some (by kernel_rfl))
  f295 := Try.func198.trans (congrArg some (by kernel_rfl))
  f296 := Try.func199.trans (congrArg some (by kernel_rfl))
  f297 := Try.func200.trans (congrArg some (by kernel_rfl))
  f298 := Try.func201.trans (congrArg some (by kernel_rfl))
  f299 := Try.func202.trans (congrArg some (by kernel_rfl))
  f300 := Try.func204.trans (congrArg some (by kernel_rfl))
  f301 := Try.func205.trans (congrArg some (by kernel_rfl))
  f328 := Try.func220.trans (congrArg some (by kernel_rfl))
  f329 := Try.func221.trans (congrArg some (by kernel_rfl))
  f330 := Try.func222.trans (congrArg some (by kernel_rfl))
  f331 := Try.func223.trans (congrArg some (by kernel_rfl))
  f332 := Try.func224.trans (congrArg some (by kernel_rfl))
  f343 := Try.func229.trans (congrArg some (by kernel_rfl))
  t0 := Try.underlying0
  a0 := Try.isAgg0
  z0 := Try.sizeOf0
  v0 := Try.zeroValue0
  t3 := Try.underlying3
  a3 := Try.isAgg3
  z3 := Try.sizeOf3
  v3 := Try.zeroValue3
  t4 := Try.underlying4
  a4 := Try.isAgg4
  z4 := Try.sizeOf4
  v4 := Try.zeroValue4
  t5 := Try.underlying5
  a5 := Try.isAgg5
  z5 := Try.sizeOf5
  v5 := Try.zeroValue5
  t9 := Try.underlying9
  a9 := Try.isAgg9
  z9 := Try.sizeOf9
  v9 := Try.zeroValue9
  t28 := Try.underlying34
  a28 := Try.isAgg34
  z28 := Try.sizeOf34
  v28 := Try.zeroValue34
  t46 := Try.underlying121
  a46 := Try.isAgg121
  z46 := Try.sizeOf121
  v46 := Try.zeroValue121
  t51 := Try.underlying218
  a51 := Try.isAgg218
  z51 := Try.sizeOf218
  v51 := Try.zeroValue218
  t53 := Try.underlying220
  a53 := Try.isAgg220
  z53 := Try.sizeOf220
  v53 := Try.zeroValue220
  t131 := Try.underlying45
  a131 := Try.isAgg45
  z131 := Try.sizeOf45
  v131 := Try.zeroValue45
  t182 := Try.underlying212
  a182 := Try.isAgg212
  z182 := Try.sizeOf212
  v182 := Try.zeroValue212
  t183 := Try.underlying213
  a183 := Try.isAgg213
  z183 := Try.sizeOf213
  v183 := Try.zeroValue213
  t218 := Try.underlying235
  a218 := Try.isAgg235
  z218 := Try.sizeOf235
  v218 := Try.zeroValue235
  t222 := Try.underlying239
  a222 := Try.isAgg239
  z222 := Try.sizeOf239
  v222 := Try.zeroValue239
  t228 := Try.underlying245
  a228 := Try.isAgg245
  z228 := Try.sizeOf245
  v228 := Try.zeroValue245
  t229 := Try.underlying191
  a229 := Try.isAgg191
  z229 := Try.sizeOf191
  v229 := Try.zeroValue191 }

def CompactR : Go.Shelf.Ren := ⟨fun | 20 => 117 | n => n, fun | 22 => 34 | 3 => 3 | 4 => 4 | 0 => 0 | n => n, fun | n => n⟩
theorem CompactL : Go.Proofs.Lays2.n20 Try.prog CompactR := {
  mixed := by kernel_rfl
  f20 := Try.func117.trans (congrArg some (by kernel_rfl))
  t0 := Try.underlying0
  a0 := Try.isAgg0
  z0 := Try.sizeOf0
  v0 := Try.zeroValue0
  t3 := Try.underlying3
  a3 := Try.isAgg3
  z3 := Try.sizeOf3
  v3 := Try.zeroValue3
  t4 := Try.underlying4
  a4 := Try.isAgg4
  z4 := Try.sizeOf4
  v4 := Try.zeroValue4
  t22 := Try.underlying34
  a22 := Try.isAgg34
  z22 := Try.sizeOf34
  v22 := Try.zeroValue34
  i3 := by kernel_rfl }
end Go.Proofs.Ytgafnmnacolgbaa
