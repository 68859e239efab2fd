/- Two of the shelf's tables of numbers at this program, in plain declarations (written by lay-plain.mjs). -/
import Derived.Shelf.Strings.Trim
import Derived.Shelf.Small.Utf8
import Derived.Shelf.Small.Strs
import Derived.Shelf.Strings.Search1
import Derived.Shelf.Strings.Search2
import Derived.Shelf.Strings.Search3
import Derived.Shelf.Strings.Count
import Derived.Shelf.LaysM
import Derived.Shelf.Strings.Shaped
import Derived.Shelf.Strings.Split
import Derived.Shelf.Strings.SplitShaped
import Derived.Shelf.Strings.Runes
import Derived.Shelf.Strings.AsciiSet
import Derived.Shelf.Unicode.DecodeSlow
import Derived.Test.YtfcogogpioeggaaDoorProg
namespace Go.Proofs
open Go.Shelf
def Tryd.lays160_ren : Go.Shelf.Ren := ⟨fun | 160 => 95 | 232 => 118 | 231 => 117 | 227 => 119 | 234 => 121 | 233 => 120 | 236 => 123 | 235 => 122 | 228 => 134 | 271 => 137 | 151 => 136 | 197 => 135 | 120 => 146 | 152 => 145 | 260 => 144 | 137 => 151 | 119 => 152 | 224 => 149 | 225 => 148 | 217 => 147 | 266 => 153 | n => n, fun | 9 => 9 | 4 => 4 | 3 => 3 | 5 => 5 | 117 => 148 | 116 => 147 | 0 => 0 | 124 => 151 | 21 => 21 | 105 => 159 | 46 => 168 | 119 => 169 | 139 => 172 | 138 => 171 | n => n, fun | 3 => 1 | 4 => 2 | n => n⟩
theorem Tryd.lays160 : Go.Proofs.Lays.n160 Tryd.prog Tryd.lays160_ren := {
  mixed := by kernel_rfl
  f119 := Tryd.func152.trans (congrArg some (by kernel_rfl))
  f120 := Tryd.func146.trans (congrArg some (by kernel_rfl))
  f137 := Tryd.func151.trans (congrArg some (by kernel_rfl))
  f151 := Tryd.func136.trans (congrArg some (by kernel_rfl))
  f152 := Tryd.func145.trans (congrArg some (by kernel_rfl))
  f160 := Tryd.func95.trans (congrArg some (by kernel_rfl))
  f197 := Tryd.func135.trans (congrArg some (by kernel_rfl))
  f217 := Tryd.func147.trans (congrArg some (by kernel_rfl))
  f224 := Tryd.func149.trans (congrArg some (by kernel_rfl))
  f225 := Tryd.func148.trans (congrArg some (by kernel_rfl))
  f227 := Tryd.func119.trans (congrArg some (by kernel_rfl))
  f228 := Tryd.func134.trans (congrArg some (by kernel_rfl))
  f231 := Tryd.func117.trans (congrArg some (by kernel_rfl))
  f232 := Tryd.func118.trans (congrArg some (by kernel_rfl))
  f233 := Tryd.func120.trans (congrArg some (by kernel_rfl))
  f234 := Tryd.func121.trans (congrArg some (by kernel_rfl))
  f235 := Tryd.func122.trans (congrArg some (by kernel_rfl))
  f236 := Tryd.func123.trans (congrArg some (by kernel_rfl))
  f260 := Tryd.func144.trans (congrArg some (by kernel_rfl))
  f266 := Tryd.func153.trans (congrArg some (by kernel_rfl))
  f271 := Tryd.func137.trans (congrArg some (by kernel_rfl))
  t0 := Tryd.underlying0
  a0 := Tryd.isAgg0
  z0 := Tryd.sizeOf0
  v0 := Tryd.zeroValue0
  t3 := Tryd.underlying3
  a3 := Tryd.isAgg3
  z3 := Tryd.sizeOf3
  v3 := Tryd.zeroValue3
  t4 := Tryd.underlying4
  a4 := Tryd.isAgg4
  z4 := Tryd.sizeOf4
  v4 := Tryd.zeroValue4
  t5 := Tryd.underlying5
  a5 := Tryd.isAgg5
  z5 := Tryd.sizeOf5
  v5 := Tryd.zeroValue5
  t9 := Tryd.underlying9
  a9 := Tryd.isAgg9
  z9 := Tryd.sizeOf9
  v9 := Tryd.zeroValue9
  t21 := Tryd.underlying21
  a21 := Tryd.isAgg21
  z21 := Tryd.sizeOf21
  v21 := Tryd.zeroValue21
  t46 := Tryd.underlying168
  a46 := Tryd.isAgg168
  z46 := Tryd.sizeOf168
  v46 := Tryd.zeroValue168
  t105 := Tryd.underlying159
  a105 := Tryd.isAgg159
  z105 := Tryd.sizeOf159
  v105 := Tryd.zeroValue159
  t116 := Tryd.underlying147
  a116 := Tryd.isAgg147
  z116 := Tryd.sizeOf147
  t117 := Tryd.underlying148
  a117 := Tryd.isAgg148
  z117 := Tryd.sizeOf148
  v117 := Tryd.zeroValue148
  t119 := Tryd.underlying169
  a119 := Tryd.isAgg169
  z119 := Tryd.sizeOf169
  t124 := Tryd.underlying151
  a124 := Tryd.isAgg151
  z124 := Tryd.sizeOf151
  v124 := Tryd.zeroValue151
  t138 := Tryd.underlying171
  a138 := Tryd.isAgg171
  z138 := Tryd.sizeOf171
  v138 := Tryd.zeroValue171
  t139 := Tryd.underlying172
  a139 := Tryd.isAgg172
  z139 := Tryd.sizeOf172
  v139 := Tryd.zeroValue172
  g3 := by kernel_rfl
  g4 := by kernel_rfl }
def Tryd.lays146_ren : Go.Shelf.Ren := ⟨fun | 146 => 94 | 221 => 116 | 268 => 131 | 138 => 132 | 143 => 133 | 195 => 141 | 197 => 135 | 218 => 142 | 219 => 143 | 260 => 144 | 217 => 147 | 225 => 148 | 224 => 149 | 267 => 150 | 266 => 153 | 314 => 154 | n => n, fun | 9 => 9 | 31 => 127 | 3 => 3 | 4 => 4 | 0 => 0 | 105 => 159 | 21 => 21 | 5 => 5 | 46 => 168 | 119 => 169 | 139 => 172 | 138 => 171 | 146 => 175 | 51 => 174 | n => n, fun | 1 => 0 | 3 => 1 | 4 => 2 | n => n⟩
theorem Tryd.lays146 : Go.Proofs.Lays.n146 Tryd.prog Tryd.lays146_ren := {
  mixed := by kernel_rfl
  f138 := Tryd.func132.trans (congrArg some (by kernel_rfl))
  f143 := Tryd.func133.trans (congrArg some (by kernel_rfl))
  f146 := Tryd.func94.trans (congrArg some (by kernel_rfl))
  f195 := Tryd.func141.trans (congrArg some (by kernel_rfl))
  f197 := Tryd.func135.trans (congrArg some (by kernel_rfl))
  f217 := Tryd.func147.trans (congrArg some (by kernel_rfl))
  f218 := Tryd.func142.trans (congrArg some (by kernel_rfl))
  f219 := Tryd.func143.trans (congrArg some (by kernel_rfl))
  f221 := Tryd.func116.trans (congrArg some (by kernel_rfl))
  f224 := Tryd.func149.trans (congrArg some (by kernel_rfl))
  f225 := Tryd.func148.trans (congrArg some (by kernel_rfl))
  f260 := Tryd.func144.trans (congrArg some (by kernel_rfl))
  f266 := Tryd.func153.trans (congrArg some (by kernel_rfl))
  f267 := Tryd.func150.trans (congrArg some (by kernel_rfl))
  f268 := Tryd.func131.trans (congrArg some (by kernel_rfl))
  f314 := Tryd.func154.trans (congrArg some (by kernel_rfl))
  t0 := Tryd.underlying0
  a0 := Tryd.isAgg0
  z0 := Tryd.sizeOf0
  v0 := Tryd.zeroValue0
  t3 := Tryd.underlying3
  a3 := Tryd.isAgg3
  z3 := Tryd.sizeOf3
  v3 := Tryd.zeroValue3
  t4 := Tryd.underlying4
  a4 := Tryd.isAgg4
  z4 := Tryd.sizeOf4
  v4 := Tryd.zeroValue4
  t5 := Tryd.underlying5
  a5 := Tryd.isAgg5
  z5 := Tryd.sizeOf5
  v5 := Tryd.zeroValue5
  t9 := Tryd.underlying9
  a9 := Tryd.isAgg9
  z9 := Tryd.sizeOf9
  v9 := Tryd.zeroValue9
  t21 := Tryd.underlying21
  a21 := Tryd.isAgg21
  z21 := Tryd.sizeOf21
  v21 := Tryd.zeroValue21
  t31 := Tryd.underlying127
  a31 := Tryd.isAgg127
  z31 := Tryd.sizeOf127
  v31 := Tryd.zeroValue127
  t46 := Tryd.underlying168
  a46 := Tryd.isAgg168
  z46 := Tryd.sizeOf168
  v46 := Tryd.zeroValue168
  t51 := Tryd.underlying174
  a51 := Tryd.isAgg174
  z51 := Tryd.sizeOf174
  v51 := Tryd.zeroValue174
  t105 := Tryd.underlying159
  a105 := Tryd.isAgg159
  z105 := Tryd.sizeOf159
  v105 := Tryd.zeroValue159
  t119 := Tryd.underlying169
  a119 := Tryd.isAgg169
  z119 := Tryd.sizeOf169
  t138 := Tryd.underlying171
  a138 := Tryd.isAgg171
  z138 := Tryd.sizeOf171
  v138 := Tryd.zeroValue171
  t139 := Tryd.underlying172
  a139 := Tryd.isAgg172
  z139 := Tryd.sizeOf172
  v139 := Tryd.zeroValue172
  t146 := Tryd.underlying175
  a146 := Tryd.isAgg175
  z146 := Tryd.sizeOf175
  v146 := Tryd.zeroValue175
  g1 := by kernel_rfl
  g3 := by kernel_rfl
  g4 := by kernel_rfl }
end Go.Proofs
