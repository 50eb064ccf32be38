/-
  The shelf's layings at this program (printed by the kit's own command, in plain words).
-/
import Derived.Test.YtdbdcbejmbpbmaaDoorFB
import Derived.Shelf.Lay
import Derived.Shelf.LaySoft
import Derived.Shelf.LaysC
import Derived.Shelf.LaysM
import Derived.Shelf.Slices.CompactS
import Derived.Shelf.Sort.Plain
import Derived.Shelf.Strconv.AtoiAll
import Derived.Shelf.Strconv.AtoiErr
import Derived.Shelf.Strconv.Itoa3
import Derived.Shelf.Strings.Split
import Derived.Shelf.Strings.Trim
namespace Go.Proofs.YtdbdcbejmbpbmaaDoor
open Go Go.GL Go.Shelf

def SortTR : Go.Shelf.Ren := ⟨fun | 190 => 143 | 125 => 129 | 258 => 176 | 128 => 162 | 129 => 163 | 302 => 205 | 303 => 206 | 304 => 207 | 305 => 208 | 306 => 209 | 307 => 210 | 308 => 211 | 309 => 212 | 310 => 213 | 333 => 225 | 329 => 190 | 330 => 191 | 334 => 226 | 335 => 227 | 336 => 228 | 344 => 230 | n => n, fun | 31 => 40 | 9 => 9 | 3 => 3 | 46 => 144 | 0 => 0 | 51 => 192 | 53 => 176 | 4 => 4 | 183 => 186 | 182 => 185 | 131 => 138 | 5 => 5 | 218 => 213 | 222 => 217 | 228 => 234 | 229 => 29 | n => n, fun | n => n⟩
theorem SortTL : Go.Proofs.Lays.n190 Tryd.prog SortTR := {
  mixed := by kernel_rfl
  f125 := Tryd.func129.trans (congrArg some (by kernel_rfl))
  f128 := Tryd.func162.trans (congrArg some (by kernel_rfl))
  f129 := Tryd.func163.trans (congrArg some (by kernel_rfl))
  f190 := Tryd.func143.trans (congrArg some (by kernel_rfl))
  f258 := Tryd.func176.trans (congrArg some (by kernel_rfl))
  f302 := Tryd.func205.trans (congrArg some (by kernel_rfl))
  f303 := Tryd.func206.trans (congrArg some (by kernel_rfl))
  f304 := Tryd.func207.trans (congrArg some (by kernel_rfl))
  f305 := Tryd.func208.trans (congrArg some (by kernel_rfl))
  f306 := Tryd.func209.trans (congrArg some (by kernel_rfl))
  f307 := Tryd.func210.trans (congrArg some (by kernel_rfl))
  f308 := Tryd.func211.trans (congrArg some (by kernel_rfl))
  f309 := Tryd.func212.trans (congrArg some (by kernel_rfl))
  f310 := Tryd.func213.trans (congrArg some (by kernel_rfl))
  f329 := Tryd.func190.trans (congrArg some (by kernel_rfl))
  f330 := Tryd.func191.trans (congrArg some (by kernel_rfl))
  f333 := Tryd.func225.trans (congrArg some (by kernel_rfl))
  f334 := Tryd.func226.trans (congrArg some (by kernel_rfl))
  f335 := Tryd.func227.trans (congrArg some (by kernel_rfl))
  f336 := Tryd.func228.trans (congrArg some (by kernel_rfl))
  f344 := Tryd.func230.trans (congrArg some (by kernel_rfl))
  t0 := Tryd.underlying0
  a0 := Tryd.isAgg0
  z0 := Tryd.sizeOf0
  v0 := Tryd.zeroValue0
  t3 := Tryd.underlying3
  a3 := Tryd.isAgg3
  z3 := Tryd.sizeOf3
  v3 := Tryd.zeroValue3
  t4 := Tryd.underlying4
  a4 := Tryd.isAgg4
  z4 := Tryd.sizeOf4
  v4 := Tryd.zeroValue4
  t5 := Tryd.underlying5
  a5 := Tryd.isAgg5
  z5 := Tryd.sizeOf5
  v5 := Tryd.zeroValue5
  t9 := Tryd.underlying9
  a9 := Tryd.isAgg9
  z9 := Tryd.sizeOf9
  v9 := Tryd.zeroValue9
  t31 := Tryd.underlying40
  a31 := Tryd.isAgg40
  z31 := Tryd.sizeOf40
  v31 := Tryd.zeroValue40
  t46 := Tryd.underlying144
  a46 := Tryd.isAgg144
  z46 := Tryd.sizeOf144
  v46 := Tryd.zeroValue144
  t51 := Tryd.underlying192
  a51 := Tryd.isAgg192
  z51 := Tryd.sizeOf192
  v51 := Tryd.zeroValue192
  t53 := Tryd.underlying176
  a53 := Tryd.isAgg176
  z53 := Tryd.sizeOf176
  v53 := Tryd.zeroValue176
  t131 := Tryd.underlying138
  a131 := Tryd.isAgg138
  z131 := Tryd.sizeOf138
  v131 := Tryd.zeroValue138
  t182 := Tryd.underlying185
  a182 := Tryd.isAgg185
  z182 := Tryd.sizeOf185
  v182 := Tryd.zeroValue185
  t183 := Tryd.underlying186
  a183 := Tryd.isAgg186
  z183 := Tryd.sizeOf186
  v183 := Tryd.zeroValue186
  t218 := Tryd.underlying213
  a218 := Tryd.isAgg213
  z218 := Tryd.sizeOf213
  v218 := Tryd.zeroValue213
  t222 := Tryd.underlying217
  a222 := Tryd.isAgg217
  z222 := Tryd.sizeOf217
  v222 := Tryd.zeroValue217
  t228 := Tryd.underlying234
  a228 := Tryd.isAgg234
  z228 := Tryd.sizeOf234
  v228 := Tryd.zeroValue234
  t229 := Tryd.underlying29
  a229 := Tryd.isAgg29
  z229 := Tryd.sizeOf29
  v229 := Tryd.zeroValue29 }

def CompactTR : Go.Shelf.Ren := ⟨fun | 194 => 104 | n => n, fun | 31 => 40 | 9 => 9 | 3 => 3 | 4 => 4 | 0 => 0 | n => n, fun | n => n⟩
theorem CompactTL : Go.Proofs.Lays.n194 Tryd.prog CompactTR := {
  mixed := by kernel_rfl
  f194 := Tryd.func104.trans (congrArg some (by kernel_rfl))
  t0 := Tryd.underlying0
  a0 := Tryd.isAgg0
  z0 := Tryd.sizeOf0
  v0 := Tryd.zeroValue0
  t3 := Tryd.underlying3
  a3 := Tryd.isAgg3
  z3 := Tryd.sizeOf3
  v3 := Tryd.zeroValue3
  t4 := Tryd.underlying4
  a4 := Tryd.isAgg4
  z4 := Tryd.sizeOf4
  v4 := Tryd.zeroValue4
  t9 := Tryd.underlying9
  a9 := Tryd.isAgg9
  z9 := Tryd.sizeOf9
  v9 := Tryd.zeroValue9
  t31 := Tryd.underlying40
  a31 := Tryd.isAgg40
  z31 := Tryd.sizeOf40
  v31 := Tryd.zeroValue40 }

def TrimBR : Go.Shelf.Ren := ⟨fun | 160 => 76 | 232 => 116 | 231 => 115 | 227 => 117 | 234 => 119 | 233 => 118 | 236 => 121 | 235 => 120 | 228 => 147 | 271 => 150 | 151 => 149 | 197 => 148 | 120 => 188 | 152 => 187 | 260 => 186 | 137 => 218 | 119 => 219 | 224 => 197 | 225 => 196 | 217 => 195 | 266 => 221 | n => n, fun | 9 => 9 | 4 => 4 | 3 => 3 | 5 => 5 | 117 => 152 | 116 => 151 | 0 => 0 | 124 => 155 | 21 => 21 | 105 => 179 | 46 => 144 | 119 => 140 | 139 => 143 | 138 => 142 | n => n, fun | 3 => 0 | 4 => 1 | n => n⟩
theorem TrimBL : Go.Proofs.Lays.n160 Tryd.prog TrimBR := {
  mixed := by kernel_rfl
  f119 := Tryd.func219.trans (congrArg some (by kernel_rfl))
  f120 := Tryd.func188.trans (congrArg some (by kernel_rfl))
  f137 := Tryd.func218.trans (congrArg some (by kernel_rfl))
  f151 := Tryd.func149.trans (congrArg some (by kernel_rfl))
  f152 := Tryd.func187.trans (congrArg some (by kernel_rfl))
  f160 := Tryd.func76.trans (congrArg some (by kernel_rfl))
  f197 := Tryd.func148.trans (congrArg some (by kernel_rfl))
  f217 := Tryd.func195.trans (congrArg some (by kernel_rfl))
  f224 := Tryd.func197.trans (congrArg some (by kernel_rfl))
  f225 := Tryd.func196.trans (congrArg some (by kernel_rfl))
  f227 := Tryd.func117.trans (congrArg some (by kernel_rfl))
  f228 := Tryd.func147.trans (congrArg some (by kernel_rfl))
  f231 := Tryd.func115.trans (congrArg some (by kernel_rfl))
  f232 := Tryd.func116.trans (congrArg some (by kernel_rfl))
  f233 := Tryd.func118.trans (congrArg some (by kernel_rfl))
  f234 := Tryd.func119.trans (congrArg some (by kernel_rfl))
  f235 := Tryd.func120.trans (congrArg some (by kernel_rfl))
  f236 := Tryd.func121.trans (congrArg some (by kernel_rfl))
  f260 := Tryd.func186.trans (congrArg some (by kernel_rfl))
  f266 := Tryd.func221.trans (congrArg some (by kernel_rfl))
  f271 := Tryd.func150.trans (congrArg some (by kernel_rfl))
  t0 := Tryd.underlying0
  a0 := Tryd.isAgg0
  z0 := Tryd.sizeOf0
  v0 := Tryd.zeroValue0
  t3 := Tryd.underlying3
  a3 := Tryd.isAgg3
  z3 := Tryd.sizeOf3
  v3 := Tryd.zeroValue3
  t4 := Tryd.underlying4
  a4 := Tryd.isAgg4
  z4 := Tryd.sizeOf4
  v4 := Tryd.zeroValue4
  t5 := Tryd.underlying5
  a5 := Tryd.isAgg5
  z5 := Tryd.sizeOf5
  v5 := Tryd.zeroValue5
  t9 := Tryd.underlying9
  a9 := Tryd.isAgg9
  z9 := Tryd.sizeOf9
  v9 := Tryd.zeroValue9
  t21 := Tryd.underlying21
  a21 := Tryd.isAgg21
  z21 := Tryd.sizeOf21
  v21 := Tryd.zeroValue21
  t46 := Tryd.underlying144
  a46 := Tryd.isAgg144
  z46 := Tryd.sizeOf144
  v46 := Tryd.zeroValue144
  t105 := Tryd.underlying179
  a105 := Tryd.isAgg179
  z105 := Tryd.sizeOf179
  v105 := Tryd.zeroValue179
  t116 := Tryd.underlying151
  a116 := Tryd.isAgg151
  z116 := Tryd.sizeOf151
  t117 := Tryd.underlying152
  a117 := Tryd.isAgg152
  z117 := Tryd.sizeOf152
  v117 := Tryd.zeroValue152
  t119 := Tryd.underlying140
  a119 := Tryd.isAgg140
  z119 := Tryd.sizeOf140
  t124 := Tryd.underlying155
  a124 := Tryd.isAgg155
  z124 := Tryd.sizeOf155
  v124 := Tryd.zeroValue155
  t138 := Tryd.underlying142
  a138 := Tryd.isAgg142
  z138 := Tryd.sizeOf142
  v138 := Tryd.zeroValue142
  t139 := Tryd.underlying143
  a139 := Tryd.isAgg143
  z139 := Tryd.sizeOf143
  v139 := Tryd.zeroValue143
  g3 := by kernel_rfl
  g4 := by kernel_rfl }

end Go.Proofs.YtdbdcbejmbpbmaaDoor
