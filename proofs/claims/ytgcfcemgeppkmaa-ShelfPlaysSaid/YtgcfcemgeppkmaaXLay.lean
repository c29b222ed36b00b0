import Derived.Shelf.SlGeneric
import Derived.Shelf.SlSortCmp.WholeK
import Derived.Shelf.SlSortCmp.NoneTotal
import Derived.Ground.SlsfProg
import Derived.Shelf.SlicesQ.IndexFunc
import Derived.Ground.SlgfProg
import Derived.Shelf.Bits.Mul64
import Derived.Ground.NamesProg
import Derived.Test.YtgcfcemgeppkmaaProg
namespace Go.Proofs
open Go.Shelf
def Try.sortSeed_ren : Go.Shelf.Ren := ⟨fun | 6 => 74 | 15 => 105 | 14 => 104 | 28 => 131 | 29 => 132 | 20 => 123 | 21 => 124 | 22 => 125 | 23 => 126 | 24 => 127 | 25 => 128 | 26 => 129 | 27 => 130 | 46 => 145 | 47 => 146 | 48 => 147 | 49 => 148 | 50 => 149 | 57 => 152 | n => n, fun | 22 => 22 | 24 => 25 | 25 => 89 | 3 => 3 | 39 => 130 | 0 => 0 | 53 => 163 | 55 => 75 | 4 => 4 | 46 => 157 | 45 => 156 | 50 => 151 | 5 => 5 | 9 => 9 | 66 => 174 | 70 => 178 | 76 => 181 | 77 => 182 | n => n, fun | n => n⟩
theorem Try.sortSeed : Go.Proofs.SlLaysF0.n6 Try.prog Try.sortSeed_ren := {
  mixed := by kernel_rfl
  f6 := ⟨Try.f74.name, by decide, Try.func74.trans (congrArg some (by kernel_rfl))⟩
  f14 := ⟨Try.f104.name, by decide, Try.func104.trans (congrArg some (by kernel_rfl))⟩
  f15 := Try.func105.trans (congrArg some (by kernel_rfl))
  f20 := ⟨Try.f123.name, by decide, Try.func123.trans (congrArg some (by kernel_rfl))⟩
  f21 := ⟨Try.f124.name, by decide, Try.func124.trans (congrArg some (by kernel_rfl))⟩
  f22 := ⟨Try.f125.name, by decide, Try.func125.trans (congrArg some (by kernel_rfl))⟩
  f23 := ⟨Try.f126.name, by decide, Try.func126.trans (congrArg some (by kernel_rfl))⟩
  f24 := ⟨Try.f127.name, by decide, Try.func127.trans (congrArg some (by kernel_rfl))⟩
  f25 := ⟨Try.f128.name, by decide, Try.func128.trans (congrArg some (by kernel_rfl))⟩
  f26 := ⟨Try.f129.name, by decide, Try.func129.trans (congrArg some (by kernel_rfl))⟩
  f27 := ⟨Try.f130.name, by decide, Try.func130.trans (congrArg some (by kernel_rfl))⟩
  f28 := Try.func131.trans (congrArg some (by kernel_rfl))
  f29 := Try.func132.trans (congrArg some (by kernel_rfl))
  f46 := ⟨Try.f145.name, by decide, Try.func145.trans (congrArg some (by kernel_rfl))⟩
  f47 := Try.func146.trans (congrArg some (by kernel_rfl))
  f48 := Try.func147.trans (congrArg some (by kernel_rfl))
  f49 := ⟨Try.f148.name, by decide, Try.func148.trans (congrArg some (by kernel_rfl))⟩
  f50 := ⟨Try.f149.name, by decide, Try.func149.trans (congrArg some (by kernel_rfl))⟩
  f57 := ⟨Try.f152.name, by decide, Try.func152.trans (congrArg some (by kernel_rfl))⟩
  t0 := Try.underlying0
  a0 := Try.isAgg0
  z0 := Try.sizeOf0
  v0 := Try.zeroValue0
  t3 := Try.underlying3
  a3 := Try.isAgg3
  z3 := Try.sizeOf3
  v3 := Try.zeroValue3
  t4 := Try.underlying4
  a4 := Try.isAgg4
  z4 := Try.sizeOf4
  v4 := Try.zeroValue4
  t5 := Try.underlying5
  a5 := Try.isAgg5
  z5 := Try.sizeOf5
  v5 := Try.zeroValue5
  t9 := Try.underlying9
  a9 := Try.isAgg9
  z9 := Try.sizeOf9
  v9 := Try.zeroValue9
  t22 := Try.underlying22
  a22 := Try.isAgg22
  z22 := Try.sizeOf22
  v22 := Try.zeroValue22
  t25 := Try.underlying89
  a25 := Try.isAgg89
  z25 := Try.sizeOf89
  v25 := Try.zeroValue89
  t39 := Try.underlying130
  a39 := Try.isAgg130
  z39 := Try.sizeOf130
  v39 := Try.zeroValue130
  t45 := Try.underlying156
  a45 := Try.isAgg156
  z45 := Try.sizeOf156
  v45 := Try.zeroValue156
  t46 := Try.underlying157
  a46 := Try.isAgg157
  z46 := Try.sizeOf157
  v46 := Try.zeroValue157
  t50 := Try.underlying151
  a50 := Try.isAgg151
  z50 := Try.sizeOf151
  v50 := Try.zeroValue151
  t53 := Try.underlying163
  a53 := Try.isAgg163
  z53 := Try.sizeOf163
  v53 := Try.zeroValue163
  t55 := Try.underlying75
  a55 := Try.isAgg75
  z55 := Try.sizeOf75
  v55 := Try.zeroValue75
  t66 := Try.underlying174
  a66 := Try.isAgg174
  z66 := Try.sizeOf174
  v66 := Try.zeroValue174
  t70 := Try.underlying178
  a70 := Try.isAgg178
  z70 := Try.sizeOf178
  v70 := Try.zeroValue178
  t76 := Try.underlying181
  a76 := Try.isAgg181
  z76 := Try.sizeOf181
  v76 := Try.zeroValue181
  t77 := Try.underlying182
  a77 := Try.isAgg182
  z77 := Try.sizeOf182
  v77 := Try.zeroValue182 }
def Try.anySeed_ren : Go.Shelf.Ren := ⟨fun | 8 => 82 | 6 => 110 | n => n, fun | 22 => 22 | 23 => 25 | 25 => 95 | 4 => 4 | 3 => 3 | 0 => 0 | n => n, fun | n => n⟩
theorem Try.anySeed : Go.Proofs.SlLaysH0.n8 Try.prog Try.anySeed_ren := {
  mixed := by kernel_rfl
  f6 := ⟨Try.f110.name, by decide, Try.func110.trans (congrArg some (by kernel_rfl))⟩
  f8 := ⟨Try.f82.name, by decide, Try.func82.trans (congrArg some (by kernel_rfl))⟩
  t0 := Try.underlying0
  a0 := Try.isAgg0
  z0 := Try.sizeOf0
  v0 := Try.zeroValue0
  t3 := Try.underlying3
  a3 := Try.isAgg3
  z3 := Try.sizeOf3
  v3 := Try.zeroValue3
  t4 := Try.underlying4
  a4 := Try.isAgg4
  z4 := Try.sizeOf4
  v4 := Try.zeroValue4
  t22 := Try.underlying22
  a22 := Try.isAgg22
  z22 := Try.sizeOf22
  v22 := Try.zeroValue22
  t25 := Try.underlying95
  a25 := Try.isAgg95
  z25 := Try.sizeOf95
  v25 := Try.zeroValue95 }
def Try.mulLay_ren : Go.Shelf.Ren := ⟨fun | 212 => 111 | 263 => 135 | 264 => 136 | n => n, fun | 46 => 130 | 51 => 163 | 146 => 167 | 53 => 75 | 148 => 169 | n => n, fun | n => n⟩
theorem Try.mulLay : Go.Proofs.Lays.n212 Try.prog Try.mulLay_ren := {
  mixed := by kernel_rfl
  f212 := Try.func111.trans (congrArg some (by kernel_rfl))
  f263 := Try.func135.trans (congrArg some (by kernel_rfl))
  f264 := Try.func136.trans (congrArg some (by kernel_rfl))
  t46 := Try.underlying130
  a46 := Try.isAgg130
  z46 := Try.sizeOf130
  v46 := Try.zeroValue130
  t51 := Try.underlying163
  a51 := Try.isAgg163
  z51 := Try.sizeOf163
  v51 := Try.zeroValue163
  t53 := Try.underlying75
  a53 := Try.isAgg75
  z53 := Try.sizeOf75
  v53 := Try.zeroValue75
  t146 := Try.underlying167
  a146 := Try.isAgg167
  z146 := Try.sizeOf167
  v146 := Try.zeroValue167
  t148 := Try.underlying169
  a148 := Try.isAgg169
  z148 := Try.sizeOf169
  v148 := Try.zeroValue169 }
end Go.Proofs
