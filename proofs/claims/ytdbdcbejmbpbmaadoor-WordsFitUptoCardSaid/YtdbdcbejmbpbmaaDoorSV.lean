/-
  The shelf's laying of utf8.ValidString at this program (printed by the kit's own command, in plain words).
-/
import Derived.Test.YtdbdcbejmbpbmaaDoorFB
import Derived.Shelf.Unicode.ValidAny
namespace Go.Proofs.YtdbdcbejmbpbmaaDoor
open Go Go.GL Go.Shelf

def ValidR : Go.Shelf.Ren := ⟨fun | 196 => 66 | 259 => 109 | n => n, fun | 9 => 9 | 4 => 4 | 3 => 3 | 5 => 5 | 12 => 12 | 119 => 140 | 0 => 0 | 46 => 144 | 139 => 143 | 138 => 142 | 53 => 176 | n => n, fun | 3 => 0 | 4 => 1 | n => n⟩
theorem ValidL : Go.Proofs.Lays.n196 Tryd.prog ValidR := {
  mixed := by kernel_rfl
  f196 := Tryd.func66.trans (congrArg some (by kernel_rfl))
  f259 := Tryd.func109.trans (congrArg some (by kernel_rfl))
  t0 := Tryd.underlying0
  a0 := Tryd.isAgg0
  z0 := Tryd.sizeOf0
  v0 := Tryd.zeroValue0
  t3 := Tryd.underlying3
  a3 := Tryd.isAgg3
  z3 := Tryd.sizeOf3
  v3 := Tryd.zeroValue3
  t4 := Tryd.underlying4
  a4 := Tryd.isAgg4
  z4 := Tryd.sizeOf4
  v4 := Tryd.zeroValue4
  t5 := Tryd.underlying5
  a5 := Tryd.isAgg5
  z5 := Tryd.sizeOf5
  v5 := Tryd.zeroValue5
  t9 := Tryd.underlying9
  a9 := Tryd.isAgg9
  z9 := Tryd.sizeOf9
  v9 := Tryd.zeroValue9
  t12 := Tryd.underlying12
  a12 := Tryd.isAgg12
  z12 := Tryd.sizeOf12
  v12 := Tryd.zeroValue12
  t46 := Tryd.underlying144
  a46 := Tryd.isAgg144
  z46 := Tryd.sizeOf144
  v46 := Tryd.zeroValue144
  t53 := Tryd.underlying176
  a53 := Tryd.isAgg176
  z53 := Tryd.sizeOf176
  v53 := Tryd.zeroValue176
  t119 := Tryd.underlying140
  a119 := Tryd.isAgg140
  z119 := Tryd.sizeOf140
  t138 := Tryd.underlying142
  a138 := Tryd.isAgg142
  z138 := Tryd.sizeOf142
  v138 := Tryd.zeroValue142
  t139 := Tryd.underlying143
  a139 := Tryd.isAgg143
  z139 := Tryd.sizeOf143
  v139 := Tryd.zeroValue143
  g3 := by kernel_rfl
  g4 := by kernel_rfl }
end Go.Proofs.YtdbdcbejmbpbmaaDoor
