import Derived.Shelf.SlGeneric
import Derived.Shelf.SlSortCmp.WholeK
import Derived.Shelf.SlSortCmp.NoneTotal
import Derived.Ground.SlsfProg
import Derived.Shelf.SlicesQ.IndexFunc
import Derived.Ground.SlgfProg
import Derived.Shelf.Bits.Mul64
import Derived.Ground.NamesProg
import Derived.Test.YthgehdembghdaaaGreatProg
namespace Go.Proofs
open Go.Shelf
def Tryz.sortSeed_ren : Go.Shelf.Ren := ⟨fun | 6 => 126 | 15 => 147 | 14 => 146 | 28 => 174 | 29 => 175 | 20 => 166 | 21 => 167 | 22 => 168 | 23 => 169 | 24 => 170 | 25 => 171 | 26 => 172 | 27 => 173 | 46 => 186 | 47 => 187 | 48 => 188 | 49 => 189 | 50 => 190 | 57 => 192 | n => n, fun | 22 => 81 | 24 => 90 | 25 => 160 | 3 => 3 | 39 => 174 | 0 => 0 | 53 => 196 | 55 => 32 | 4 => 4 | 46 => 204 | 45 => 203 | 50 => 144 | 5 => 5 | 9 => 9 | 66 => 213 | 70 => 216 | 76 => 219 | 77 => 100 | n => n, fun | n => n⟩
theorem Tryz.sortSeed : Go.Proofs.SlLaysF0.n6 Tryz.prog Tryz.sortSeed_ren := {
 mixed := by kernel_rfl
 f6 := ⟨Tryz.f126.name, by decide, Tryz.func126.trans (congrArg some (by kernel_rfl))⟩
 f14 := ⟨Tryz.f146.name, by decide, Tryz.func146.trans (congrArg some (by kernel_rfl))⟩
 f15 := Tryz.func147.trans (congrArg some (by kernel_rfl))
 f20 := ⟨Tryz.f166.name, by decide, Tryz.func166.trans (congrArg some (by kernel_rfl))⟩
 f21 := ⟨Tryz.f167.name, by decide, Tryz.func167.trans (congrArg some (by kernel_rfl))⟩
 f22 := ⟨Tryz.f168.name, by decide, Tryz.func168.trans (congrArg some (by kernel_rfl))⟩
 f23 := ⟨Tryz.f169.name, by decide, Tryz.func169.trans (congrArg some (by kernel_rfl))⟩
 f24 := ⟨Tryz.f170.name, by decide, Tryz.func170.trans (congrArg some (by kernel_rfl))⟩
 f25 := ⟨Tryz.f171.name, by decide, Tryz.func171.trans (congrArg some (by kernel_rfl))⟩
 f26 := ⟨Tryz.f172.name, by decide, Tryz.func172.trans (congrArg some (by kernel_rfl))⟩
 f27 := ⟨Tryz.f173.name, by decide, Tryz.func173.trans (congrArg some (by kernel_rfl))⟩
 f28 := Tryz.func174.trans (congrArg some (by kernel_rfl))
 f29 := Tryz.func175.trans (congrArg some (by kernel_rfl))
 f46 := ⟨Tryz.f186.name, by decide, Tryz.func186.trans (congrArg some (by kernel_rfl))⟩
 f47 := Tryz.func187.trans (congrArg some (by kernel_rfl))
 f48 := Tryz.func188.trans (congrArg some (by kernel_rfl))
 f49 := ⟨Tryz.f189.name, by decide, Tryz.func189.trans (congrArg some (by kernel_rfl))⟩
 f50 := ⟨Tryz.f190.name, by decide, Tryz.func190.trans (congrArg some (by kernel_rfl))⟩
 f57 := ⟨Tryz.f192.name, by decide, Tryz.func192.trans (congrArg some (by kernel_rfl))⟩
 t0 := Tryz.underlying0
 a0 := Tryz.isAgg0
 z0 := Tryz.sizeOf0
 v0 := Tryz.zeroValue0
 t3 := Tryz.underlying3
 a3 := Tryz.isAgg3
 z3 := Tryz.sizeOf3
 v3 := Tryz.zeroValue3
 t4 := Tryz.underlying4
 a4 := Tryz.isAgg4
 z4 := Tryz.sizeOf4
 v4 := Tryz.zeroValue4
 t5 := Tryz.underlying5
 a5 := Tryz.isAgg5
 z5 := Tryz.sizeOf5
 v5 := Tryz.zeroValue5
 t9 := Tryz.underlying9
 a9 := Tryz.isAgg9
 z9 := Tryz.sizeOf9
 v9 := Tryz.zeroValue9
 t22 := Tryz.underlying81
 a22 := Tryz.isAgg81
 z22 := Tryz.sizeOf81
 v22 := Tryz.zeroValue81
 t25 := Tryz.underlying160
 a25 := Tryz.isAgg160
 z25 := Tryz.sizeOf160
 v25 := Tryz.zeroValue160
 t39 := Tryz.underlying174
 a39 := Tryz.isAgg174
 z39 := Tryz.sizeOf174
 v39 := Tryz.zeroValue174
 t45 := Tryz.underlying203
 a45 := Tryz.isAgg203
 z45 := Tryz.sizeOf203
 v45 := Tryz.zeroValue203
 t46 := Tryz.underlying204
 a46 := Tryz.isAgg204
 z46 := Tryz.sizeOf204
 v46 := Tryz.zeroValue204
 t50 := Tryz.underlying144
 a50 := Tryz.isAgg144
 z50 := Tryz.sizeOf144
 v50 := Tryz.zeroValue144
 t53 := Tryz.underlying196
 a53 := Tryz.isAgg196
 z53 := Tryz.sizeOf196
 v53 := Tryz.zeroValue196
 t55 := Tryz.underlying32
 a55 := Tryz.isAgg32
 z55 := Tryz.sizeOf32
 v55 := Tryz.zeroValue32
 t66 := Tryz.underlying213
 a66 := Tryz.isAgg213
 z66 := Tryz.sizeOf213
 v66 := Tryz.zeroValue213
 t70 := Tryz.underlying216
 a70 := Tryz.isAgg216
 z70 := Tryz.sizeOf216
 v70 := Tryz.zeroValue216
 t76 := Tryz.underlying219
 a76 := Tryz.isAgg219
 z76 := Tryz.sizeOf219
 v76 := Tryz.zeroValue219
 t77 := Tryz.underlying100
 a77 := Tryz.isAgg100
 z77 := Tryz.sizeOf100
 v77 := Tryz.zeroValue100 }
def Tryz.anySeed_ren : Go.Shelf.Ren := ⟨fun | 8 => 151 | 6 => 178 | n => n, fun | 22 => 81 | 23 => 90 | 25 => 187 | 4 => 4 | 3 => 3 | 0 => 0 | n => n, fun | n => n⟩
theorem Tryz.anySeed : Go.Proofs.SlLaysH0.n8 Tryz.prog Tryz.anySeed_ren := {
 mixed := by kernel_rfl
 f6 := ⟨Tryz.f178.name, by decide, Tryz.func178.trans (congrArg some (by kernel_rfl))⟩
 f8 := ⟨Tryz.f151.name, by decide, Tryz.func151.trans (congrArg some (by kernel_rfl))⟩
 t0 := Tryz.underlying0
 a0 := Tryz.isAgg0
 z0 := Tryz.sizeOf0
 v0 := Tryz.zeroValue0
 t3 := Tryz.underlying3
 a3 := Tryz.isAgg3
 z3 := Tryz.sizeOf3
 v3 := Tryz.zeroValue3
 t4 := Tryz.underlying4
 a4 := Tryz.isAgg4
 z4 := Tryz.sizeOf4
 v4 := Tryz.zeroValue4
 t22 := Tryz.underlying81
 a22 := Tryz.isAgg81
 z22 := Tryz.sizeOf81
 v22 := Tryz.zeroValue81
 t25 := Tryz.underlying187
 a25 := Tryz.isAgg187
 z25 := Tryz.sizeOf187
 v25 := Tryz.zeroValue187 }
def Tryz.mulLay_ren : Go.Shelf.Ren := ⟨fun | 212 => 141 | 263 => 162 | 264 => 163 | n => n, fun | 46 => 174 | 51 => 196 | 146 => 197 | 53 => 32 | 148 => 199 | n => n, fun | n => n⟩
theorem Tryz.mulLay : Go.Proofs.Lays.n212 Tryz.prog Tryz.mulLay_ren := {
 mixed := by kernel_rfl
 f212 := Tryz.func141.trans (congrArg some (by kernel_rfl))
 f263 := Tryz.func162.trans (congrArg some (by kernel_rfl))
 f264 := Tryz.func163.trans (congrArg some (by kernel_rfl))
 t46 := Tryz.underlying174
 a46 := Tryz.isAgg174
 z46 := Tryz.sizeOf174
 v46 := Tryz.zeroValue174
 t51 := Tryz.underlying196
 a51 := Tryz.isAgg196
 z51 := Tryz.sizeOf196
 v51 := Tryz.zeroValue196
 t53 := Tryz.underlying32
 a53 := Tryz.isAgg32
 z53 := Tryz.sizeOf32
 v53 := Tryz.zeroValue32
 t146 := Tryz.underlying197
 a146 := Tryz.isAgg197
 z146 := Tryz.sizeOf197
 v146 := Tryz.zeroValue197
 t148 := Tryz.underlying199
 a148 := Tryz.isAgg199
 z148 := Tryz.sizeOf199
 v148 := Tryz.zeroValue199 }
end Go.Proofs
