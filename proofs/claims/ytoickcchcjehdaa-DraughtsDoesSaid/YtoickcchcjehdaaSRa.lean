/-
  The shelf's laying of slices.SortFunc at rows of this program (printed by the kit's own command, in plain words).
-/
import Derived.Test.YtoickcchcjehdaaFB
import Derived.Test.YtoickcchcjehdaaLibRs
namespace Go.Proofs.Ytoickcchcjehdaa
open Go Go.GL Go.Shelf

def SortRR : Go.Shelf.Ren := ⟨fun | 6 => 132 | 15 => 184 | 14 => 210 | 28 => 238 | 29 => 239 | 20 => 252 | 21 => 253 | 22 => 254 | 23 => 255 | 24 => 256 | 25 => 257 | 26 => 258 | 27 => 259 | 46 => 288 | 47 => 280 | 48 => 281 | 49 => 289 | 50 => 290 | 57 => 301 | n => n, fun | 22 => 42 | 24 => 22 | 25 => 172 | 3 => 3 | 39 => 223 | 0 => 0 | 53 => 268 | 55 => 270 | 4 => 4 | 46 => 262 | 45 => 261 | 50 => 94 | 5 => 5 | 9 => 9 | 66 => 294 | 70 => 298 | 76 => 317 | 77 => 86 | n => n, fun | n => n⟩
theorem SortRL : Go.Proofs.SlLaysF.n6 Try.prog SortRR := {
  mixed := by kernel_rfl
  f6 := ⟨Try.f132.name, by decide, Try.func132.trans (congrArg some (by kernel_rfl))⟩
  f14 := ⟨Try.f210.name, by decide, Try.func210.trans (congrArg some (by kernel_rfl))⟩
  f15 := Try.func184.trans (congrArg some (by kernel_rfl))
  f20 := ⟨Try.f252.name, by decide, Try.func252.trans (congrArg some (by kernel_rfl))⟩
  f21 := ⟨Try.f253.name, by decide, Try.func253.trans (congrArg some (by kernel_rfl))⟩
  f22 := ⟨Try.f254.name, by decide, Try.func254.trans (congrArg some (by kernel_rfl))⟩
  f23 := ⟨Try.f255.name, by decide, Try.func255.trans (congrArg some (by kernel_rfl))⟩
  f24 := ⟨Try.f256.name, by decide, Try.func256.trans (congrArg some (by kernel_rfl))⟩
  f25 := ⟨Try.f257.name, by decide, Try.func257.trans (congrArg some (by kernel_rfl))⟩
  f26 := ⟨Try.f258.name, by decide, Try.func258.trans (congrArg some (by kernel_rfl))⟩
  f27 := ⟨Try.f259.name, by decide, Try.func259.trans (congrArg some (by kernel_rfl))⟩
  f28 := Try.func238.trans (congrArg some (by kernel_rfl))
  f29 := Try.func239.trans (congrArg some (by kernel_rfl))
  f46 := ⟨Try.f288.name, by decide, Try.func288.trans (congrArg some (by kernel_rfl))⟩
  f47 := Try.func280.trans (congrArg some (by kernel_rfl))
  f48 := Try.func281.trans (congrArg some (by kernel_rfl))
  f49 := ⟨Try.f289.name, by decide, Try.func289.trans (congrArg some (by kernel_rfl))⟩
  f50 := ⟨Try.f290.name, by decide, Try.func290.trans (congrArg some (by kernel_rfl))⟩
  f57 := ⟨Try.f301.name, by decide, Try.func301.trans (congrArg some (by kernel_rfl))⟩
  t0 := Try.underlying0
  a0 := Try.isAgg0
  z0 := Try.sizeOf0
  v0 := Try.zeroValue0
  t3 := Try.underlying3
  a3 := Try.isAgg3
  z3 := Try.sizeOf3
  v3 := Try.zeroValue3
  t4 := Try.underlying4
  a4 := Try.isAgg4
  z4 := Try.sizeOf4
  v4 := Try.zeroValue4
  t5 := Try.underlying5
  a5 := Try.isAgg5
  z5 := Try.sizeOf5
  v5 := Try.zeroValue5
  t9 := Try.underlying9
  a9 := Try.isAgg9
  z9 := Try.sizeOf9
  v9 := Try.zeroValue9
  t22 := Try.underlying42
  a22 := Try.isAgg42
  z22 := Try.sizeOf42
  v22 := Try.zeroValue42
  a24 := Try.isAgg22
  z24 := Try.sizeOf22
  t25 := Try.underlying172
  a25 := Try.isAgg172
  z25 := Try.sizeOf172
  v25 := Try.zeroValue172
  t39 := Try.underlying223
  a39 := Try.isAgg223
  z39 := Try.sizeOf223
  v39 := Try.zeroValue223
  t45 := Try.underlying261
  a45 := Try.isAgg261
  z45 := Try.sizeOf261
  v45 := Try.zeroValue261
  t46 := Try.underlying262
  a46 := Try.isAgg262
  z46 := Try.sizeOf262
  v46 := Try.zeroValue262
  t50 := Try.underlying94
  a50 := Try.isAgg94
  z50 := Try.sizeOf94
  v50 := Try.zeroValue94
  t53 := Try.underlying268
  a53 := Try.isAgg268
  z53 := Try.sizeOf268
  v53 := Try.zeroValue268
  t55 := Try.underlying270
  a55 := Try.isAgg270
  z55 := Try.sizeOf270
  v55 := Try.zeroValue270
  t66 := Try.underlying294
  a66 := Try.isAgg294
  z66 := Try.sizeOf294
  v66 := Try.zeroValue294
  t70 := Try.underlying298
  a70 := Try.isAgg298
  z70 := Try.sizeOf298
  v70 := Try.zeroValue298
  t76 := Try.underlying317
  a76 := Try.isAgg317
  z76 := Try.sizeOf317
  v76 := Try.zeroValue317
  t77 := Try.underlying86
  a77 := Try.isAgg86
  z77 := Try.sizeOf86
  v77 := Try.zeroValue86 }
end Go.Proofs.Ytoickcchcjehdaa
