/-
  The shelf's layings at this program (printed by the kit's own command, in plain words).
-/
import Derived.Test.YtlkdblflibgfpaaFB
import Derived.Test.YtlkdblflibgfpaaLibZ
namespace Go.Proofs.Ytlkdblflibgfpaa
open Go Go.GL Go.Shelf

def SortR : Go.Shelf.Ren := ⟨fun | 189 => 123 | 125 => 181 | 257 => 180 | 128 => 211 | 129 => 212 | 294 => 202 | 295 => 203 | 296 => 204 | 297 => 205 | 298 => 206 | 299 => 207 | 216 => 208 | 300 => 209 | 301 => 210 | 328 => 239 | 329 => 240 | 330 => 241 | 331 => 242 | 332 => 243 | 215 => 198 | 343 => 261 | n => n, fun | 28 => 22 | 3 => 3 | 46 => 203 | 0 => 0 | 51 => 229 | 53 => 231 | 4 => 4 | 183 => 224 | 182 => 223 | 131 => 82 | 5 => 5 | 9 => 9 | 218 => 245 | 222 => 249 | 228 => 261 | 229 => 262 | n => n, fun | n => n⟩
theorem SortL : Go.Proofs.Lays.n189 Try.prog SortR := {
  mixed := by kernel_rfl
  f125 := Try.func181.trans (congrArg some (by kernel_rfl))
  f128 := Try.func211.trans (congrArg some (by kernel_rfl))
  f129 := Try.func212.trans (congrArg some (by kernel_rfl))
  f189 := Try.func123.trans (congrArg some (by kernel_rfl))
  f215 := Try.func198.trans (congrArg some (by kernel_rfl))
  f216 := Try.func208.trans (congrArg some (by kernel_rfl))
  f257 := Try.func180.trans (congrArg some (by kernel_rfl))
  f294 := Try.func202.trans (congrArg some (by kernel_rfl))
  f295 := Try.func203.trans (congrArg some (by kernel_rfl))
  f296 := Try.func204.trans (congrArg some (by kernel_rfl))
  f297 := Try.func205.trans (congrArg some (by kernel_rfl))
  f298 := Try.func206.trans (congrArg some (by kernel_rfl))
  f299 := Try.func207.trans (congrArg some (by kernel_rfl))
  f300 := Try.func209.trans (congrArg some (by kernel_rfl))
  f301 := Try.func210.trans (congrArg some (by kernel_rfl))
  f328 := Try.func239.trans (congrArg some (by kernel_rfl))
  f329 := Try.func240.trans (congrArg some (by kernel_rfl))
  f330 := Try.func241.trans (congrArg some (by kernel_rfl))
  f331 := Try.func242.trans (congrArg some (by kernel_rfl))
  f332 := Try.func243.trans (congrArg some (by kernel_rfl))
  f343 := Try.func261.trans (congrArg some (by kernel_rfl))
  t0 := Try.underlying0
  a0 := Try.isAgg0
  z0 := Try.sizeOf0
  v0 := Try.zeroValue0
  t3 := Try.underlying3
  a3 := Try.isAgg3
  z3 := Try.sizeOf3
  v3 := Try.zeroValue3
  t4 := Try.underlying4
  a4 := Try.isAgg4
  z4 := Try.sizeOf4
  v4 := Try.zeroValue4
  t5 := Try.underlying5
  a5 := Try.isAgg5
  z5 := Try.sizeOf5
  v5 := Try.zeroValue5
  t9 := Try.underlying9
  a9 := Try.isAgg9
  z9 := Try.sizeOf9
  v9 := Try.zeroValue9
  t28 := Try.underlying22
  a28 := Try.isAgg22
  z28 := Try.sizeOf22
  v28 := Try.zeroValue22
  t46 := Try.underlying203
  a46 := Try.isAgg203
  z46 := Try.sizeOf203
  v46 := Try.zeroValue203
  t51 := Try.underlying229
  a51 := Try.isAgg229
  z51 := Try.sizeOf229
  v51 := Try.zeroValue229
  t53 := Try.underlying231
  a53 := Try.isAgg231
  z53 := Try.sizeOf231
  v53 := Try.zeroValue231
  t131 := Try.underlying82
  a131 := Try.isAgg82
  z131 := Try.sizeOf82
  v131 := Try.zeroValue82
  t182 := Try.underlying223
  a182 := Try.isAgg223
  z182 := Try.sizeOf223
  v182 := Try.zeroValue223
  t183 := Try.underlying224
  a183 := Try.isAgg224
  z183 := Try.sizeOf224
  v183 := Try.zeroValue224
  t218 := Try.underlying245
  a218 := Try.isAgg245
  z218 := Try.sizeOf245
  v218 := Try.zeroValue245
  t222 := Try.underlying249
  a222 := Try.isAgg249
  z222 := Try.sizeOf249
  v222 := Try.zeroValue249
  t228 := Try.underlying261
  a228 := Try.isAgg261
  z228 := Try.sizeOf261
  v228 := Try.zeroValue261
  t229 := Try.underlying262
  a229 := Try.isAgg262
  z229 := Try.sizeOf262
  v229 := Try.zeroValue262 }

def CompactR : Go.Shelf.Ren := ⟨fun | 20 => 165 | n => n, fun | 22 => 22 | 3 => 3 | 4 => 4 | 0 => 0 | n => n, fun | n => n⟩
theorem CompactL : Go.Proofs.Lays2.n20 Try.prog CompactR := {
  mixed := by kernel_rfl
  f20 := Try.func165.trans (congrArg some (by kernel_rfl))
  t0 := Try.underlying0
  a0 := Try.isAgg0
  z0 := Try.sizeOf0
  v0 := Try.zeroValue0
  t3 := Try.underlying3
  a3 := Try.isAgg3
  z3 := Try.sizeOf3
  v3 := Try.zeroValue3
  t4 := Try.underlying4
  a4 := Try.isAgg4
  z4 := Try.sizeOf4
  v4 := Try.zeroValue4
  t22 := Try.underlying22
  a22 := Try.isAgg22
  z22 := Try.sizeOf22
  v22 := Try.zeroValue22
  i3 := by kernel_rfl }
end Go.Proofs.Ytlkdblflibgfpaa
