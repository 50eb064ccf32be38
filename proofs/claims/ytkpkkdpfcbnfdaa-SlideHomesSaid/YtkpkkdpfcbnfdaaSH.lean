/-
  The shelf's layings at this program (printed by the kit's own command, in plain words).
-/
import Derived.Test.YtkpkkdpfcbnfdaaFB
import Derived.Test.YtkpkkdpfcbnfdaaLibZ
namespace Go.Proofs.Ytkpkkdpfcbnfdaa
open Go Go.GL Go.Shelf

def SortR : Go.Shelf.Ren := ⟨fun | 189 => 128 | 125 => 152 | 257 => 151 | 128 => 170 | 129 => 171 | 294 => 161 | 295 => 162 | 296 => 163 | 297 => 164 | 298 => 165 | 299 => 166 | 216 => 167 | 300 => 168 | 301 => 169 | 328 => 181 | 329 => 182 | 330 => 183 | 331 => 184 | 332 => 185 | 215 => 180 | 343 => 189 | n => n, fun | 28 => 22 | 3 => 3 | 46 => 153 | 0 => 0 | 51 => 190 | 53 => 192 | 4 => 4 | 183 => 185 | 182 => 184 | 131 => 96 | 5 => 5 | 9 => 9 | 218 => 198 | 222 => 202 | 228 => 206 | 229 => 151 | n => n, fun | n => n⟩
theorem SortL : Go.Proofs.Lays.n189 Try.prog SortR := {
  mixed := by kernel_rfl
  f125 := Try.func152.trans (congrArg some (by kernel_rfl))
  f128 := Try.func170.trans (congrArg some (by kernel_rfl))
  f129 := Try.func171.trans (congrArg some (by kernel_rfl))
  f189 := Try.func128.trans (congrArg some (by kernel_rfl))
  f215 := Try.func180.trans (congrArg some (by kernel_rfl))
  f216 := Try.func167.trans (congrArg some (by kernel_rfl))
  f257 := Try.func151.trans (congrArg some (by kernel_rfl))
  f294 := Try.func161.trans (congrArg some (by kernel_rfl))
  f295 := Try.func162.trans (congrArg some (by kernel_rfl))
  f296 := Try.func163.trans (congrArg some (by kernel_rfl))
  f297 := Try.func164.trans (congrArg some (by kernel_rfl))
  f298 := Try.func165.trans (congrArg some (by kernel_rfl))
  f299 := Try.func166.trans (congrArg some (by kernel_rfl))
  f300 := Try.func168.trans (congrArg some (by kernel_rfl))
  f301 := Try.func169.trans (congrArg some (by kernel_rfl))
  f328 := Try.func181.trans (congrArg some (by kernel_rfl))
  f329 := Try.func182.trans (congrArg some (by kernel_rfl))
  f330 := Try.func183.trans (congrArg some (by kernel_rfl))
  f331 := Try.func184.trans (congrArg some (by kernel_rfl))
  f332 := Try.func185.trans (congrArg some (by kernel_rfl))
  f343 := Try.func189.trans (congrArg some (by kernel_rfl))
  t0 := Try.underlying0
  a0 := Try.isAgg0
  z0 := Try.sizeOf0
  v0 := Try.zeroValue0
  t3 := Try.underlying3
  a3 := Try.isAgg3
  z3 := Try.sizeOf3
  v3 := Try.zeroValue3
  t4 := Try.underlying4
  a4 := Try.isAgg4
  z4 := Try.sizeOf4
  v4 := Try.zeroValue4
  t5 := Try.underlying5
  a5 := Try.isAgg5
  z5 := Try.sizeOf5
  v5 := Try.zeroValue5
  t9 := Try.underlying9
  a9 := Try.isAgg9
  z9 := Try.sizeOf9
  v9 := Try.zeroValue9
  t28 := Try.underlying22
  a28 := Try.isAgg22
  z28 := Try.sizeOf22
  v28 := Try.zeroValue22
  t46 := Try.underlying153
  a46 := Try.isAgg153
  z46 := Try.sizeOf153
  v46 := Try.zeroValue153
  t51 := Try.underlying190
  a51 := Try.isAgg190
  z51 := Try.sizeOf190
  v51 := Try.zeroValue190
  t53 := Try.underlying192
  a53 := Try.isAgg192
  z53 := Try.sizeOf192
  v53 := Try.zeroValue192
  t131 := Try.underlying96
  a131 := Try.isAgg96
  z131 := Try.sizeOf96
  v131 := Try.zeroValue96
  t182 := Try.underlying184
  a182 := Try.isAgg184
  z182 := Try.sizeOf184
  v182 := Try.zeroValue184
  t183 := Try.underlying185
  a183 := Try.isAgg185
  z183 := Try.sizeOf185
  v183 := Try.zeroValue185
  t218 := Try.underlying198
  a218 := Try.isAgg198
  z218 := Try.sizeOf198
  v218 := Try.zeroValue198
  t222 := Try.underlying202
  a222 := Try.isAgg202
  z222 := Try.sizeOf202
  v222 := Try.zeroValue202
  t228 := Try.underlying206
  a228 := Try.isAgg206
  z228 := Try.sizeOf206
  v228 := Try.zeroValue206
  t229 := Try.underlying151
  a229 := Try.isAgg151
  z229 := Try.sizeOf151
  v229 := Try.zeroValue151 }

end Go.Proofs.Ytkpkkdpfcbnfdaa
