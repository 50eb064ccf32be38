/-
  The shelf's layings at this program (printed by the kit's own command, in plain words).
-/
import Derived.Test.YtdbdcbejmbpbmaaDoorFB
import Derived.Shelf.Lay
import Derived.Shelf.LaySoft
import Derived.Shelf.LaysC
import Derived.Shelf.LaysM
import Derived.Shelf.Strings.OnBuilder
import Derived.Shelf.Strings.Search3
namespace Go.Proofs.YtdbdcbejmbpbmaaDoor
open Go Go.GL Go.Shelf

def JoinR : Go.Shelf.Ren := ⟨fun | 156 => 98 | 165 => 131 | 166 => 132 | 169 => 83 | 240 => 124 | 241 => 165 | 276 => 151 | 277 => 194 | n => n, fun | 31 => 40 | 9 => 9 | 3 => 3 | 4 => 4 | 0 => 0 | 20 => 20 | 72 => 114 | 76 => 89 | 70 => 111 | 37 => 112 | 75 => 88 | 127 => 158 | 164 => 182 | 5 => 5 | 80 => 119 | n => n, fun | n => n⟩
theorem JoinL : Go.Proofs.Lays.n156 Tryd.prog JoinR := {
  mixed := by kernel_rfl
  f156 := Tryd.func98.trans (congrArg some (by kernel_rfl))
  f165 := Tryd.func131.trans (congrArg some (by kernel_rfl))
  f166 := Tryd.func132.trans (congrArg some (by kernel_rfl))
  f169 := Tryd.func83.trans (congrArg some (by kernel_rfl))
  f240 := Tryd.func124.trans (congrArg some (by kernel_rfl))
  f241 := Tryd.func165.trans (congrArg some (by kernel_rfl))
  f276 := Tryd.func151.trans (congrArg some (by kernel_rfl))
  f277 := Tryd.func194.trans (congrArg some (by kernel_rfl))
  t0 := Tryd.underlying0
  a0 := Tryd.isAgg0
  z0 := Tryd.sizeOf0
  v0 := Tryd.zeroValue0
  t3 := Tryd.underlying3
  a3 := Tryd.isAgg3
  z3 := Tryd.sizeOf3
  v3 := Tryd.zeroValue3
  t4 := Tryd.underlying4
  a4 := Tryd.isAgg4
  z4 := Tryd.sizeOf4
  v4 := Tryd.zeroValue4
  t9 := Tryd.underlying9
  a9 := Tryd.isAgg9
  z9 := Tryd.sizeOf9
  v9 := Tryd.zeroValue9
  t20 := Tryd.underlying20
  a20 := Tryd.isAgg20
  z20 := Tryd.sizeOf20
  v20 := Tryd.zeroValue20
  t31 := Tryd.underlying40
  a31 := Tryd.isAgg40
  z31 := Tryd.sizeOf40
  v31 := Tryd.zeroValue40
  t37 := Tryd.underlying112
  a37 := Tryd.isAgg112
  z37 := Tryd.sizeOf112
  v37 := Tryd.zeroValue112
  t70 := Tryd.underlying111
  a70 := Tryd.isAgg111
  z70 := Tryd.sizeOf111
  v70 := Tryd.zeroValue111
  t72 := Tryd.underlying114
  a72 := Tryd.isAgg114
  z72 := Tryd.sizeOf114
  v72 := Tryd.zeroValue114
  t75 := Tryd.underlying88
  a75 := Tryd.isAgg88
  z75 := Tryd.sizeOf88
  v75 := Tryd.zeroValue88
  t76 := Tryd.underlying89
  a76 := Tryd.isAgg89
  z76 := Tryd.sizeOf89
  v76 := Tryd.zeroValue89
  t127 := Tryd.underlying158
  a127 := Tryd.isAgg158
  z127 := Tryd.sizeOf158
  v127 := Tryd.zeroValue158
  t164 := Tryd.underlying182
  a164 := Tryd.isAgg182
  z164 := Tryd.sizeOf182
  v164 := Tryd.zeroValue182 }

def ContainsR : Go.Shelf.Ren := ⟨fun | 144 => 99 | 143 => 133 | 219 => 166 | 217 => 195 | 225 => 196 | 224 => 197 | 267 => 198 | 266 => 221 | 314 => 222 | n => n, fun | 9 => 9 | 4 => 4 | 3 => 3 | 5 => 5 | 46 => 144 | 146 => 236 | 51 => 192 | n => n, fun | 1 => 4 | n => n⟩
theorem ContainsL : Go.Proofs.Lays.n144 Tryd.prog ContainsR := {
  mixed := by kernel_rfl
  f143 := Tryd.func133.trans (congrArg some (by kernel_rfl))
  f144 := Tryd.func99.trans (congrArg some (by kernel_rfl))
  f217 := Tryd.func195.trans (congrArg some (by kernel_rfl))
  f219 := Tryd.func166.trans (congrArg some (by kernel_rfl))
  f224 := Tryd.func197.trans (congrArg some (by kernel_rfl))
  f225 := Tryd.func196.trans (congrArg some (by kernel_rfl))
  f266 := Tryd.func221.trans (congrArg some (by kernel_rfl))
  f267 := Tryd.func198.trans (congrArg some (by kernel_rfl))
  f314 := Tryd.func222.trans (congrArg some (by kernel_rfl))
  t3 := Tryd.underlying3
  a3 := Tryd.isAgg3
  z3 := Tryd.sizeOf3
  v3 := Tryd.zeroValue3
  t4 := Tryd.underlying4
  a4 := Tryd.isAgg4
  z4 := Tryd.sizeOf4
  v4 := Tryd.zeroValue4
  t5 := Tryd.underlying5
  a5 := Tryd.isAgg5
  z5 := Tryd.sizeOf5
  v5 := Tryd.zeroValue5
  t9 := Tryd.underlying9
  a9 := Tryd.isAgg9
  z9 := Tryd.sizeOf9
  v9 := Tryd.zeroValue9
  t46 := Tryd.underlying144
  a46 := Tryd.isAgg144
  z46 := Tryd.sizeOf144
  v46 := Tryd.zeroValue144
  t51 := Tryd.underlying192
  a51 := Tryd.isAgg192
  z51 := Tryd.sizeOf192
  v51 := Tryd.zeroValue192
  t146 := Tryd.underlying236
  a146 := Tryd.isAgg236
  z146 := Tryd.sizeOf236
  v146 := Tryd.zeroValue236
  g1 := by kernel_rfl }

def IndexR : Go.Shelf.Ren := ⟨fun | 143 => 133 | 219 => 166 | 217 => 195 | 225 => 196 | 224 => 197 | 267 => 198 | 266 => 221 | 314 => 222 | n => n, fun | 9 => 9 | 3 => 3 | 4 => 4 | 5 => 5 | 46 => 144 | 146 => 236 | 51 => 192 | n => n, fun | 1 => 4 | n => n⟩
theorem IndexL : Go.Proofs.Lays.n143 Tryd.prog IndexR := {
  mixed := by kernel_rfl
  f143 := Tryd.func133.trans (congrArg some (by kernel_rfl))
  f217 := Tryd.func195.trans (congrArg some (by kernel_rfl))
  f219 := Tryd.func166.trans (congrArg some (by kernel_rfl))
  f224 := Tryd.func197.trans (congrArg some (by kernel_rfl))
  f225 := Tryd.func196.trans (congrArg some (by kernel_rfl))
  f266 := Tryd.func221.trans (congrArg some (by kernel_rfl))
  f267 := Tryd.func198.trans (congrArg some (by kernel_rfl))
  f314 := Tryd.func222.trans (congrArg some (by kernel_rfl))
  t3 := Tryd.underlying3
  a3 := Tryd.isAgg3
  z3 := Tryd.sizeOf3
  v3 := Tryd.zeroValue3
  t4 := Tryd.underlying4
  a4 := Tryd.isAgg4
  z4 := Tryd.sizeOf4
  v4 := Tryd.zeroValue4
  t5 := Tryd.underlying5
  a5 := Tryd.isAgg5
  z5 := Tryd.sizeOf5
  v5 := Tryd.zeroValue5
  t9 := Tryd.underlying9
  a9 := Tryd.isAgg9
  z9 := Tryd.sizeOf9
  v9 := Tryd.zeroValue9
  t46 := Tryd.underlying144
  a46 := Tryd.isAgg144
  z46 := Tryd.sizeOf144
  v46 := Tryd.zeroValue144
  t51 := Tryd.underlying192
  a51 := Tryd.isAgg192
  z51 := Tryd.sizeOf192
  v51 := Tryd.zeroValue192
  t146 := Tryd.underlying236
  a146 := Tryd.isAgg236
  z146 := Tryd.sizeOf236
  v146 := Tryd.zeroValue236
  g1 := by kernel_rfl }

theorem JoinX : Go.Proofs.Builder.Extra Tryd.prog JoinR := {
  sizeBuilder := by kernel_rfl
  liesBuilder := by kernel_rfl
  t5 := Tryd.underlying5
  a5 := Tryd.isAgg5
  z5 := Tryd.sizeOf5
  v5 := Tryd.zeroValue5
  infoByte := by kernel_rfl
  cellsByte := by kernel_rfl
  sizeByte := by kernel_rfl
  neB5 := by decide }
end Go.Proofs.YtdbdcbejmbpbmaaDoor
