/- The texts that this claim needs, part 12: a logic over abstract values, its steps, what the functions do. No condition of its own. -/
import Derived.Shelf.SlLaysF0
import Derived.Test.YtghihffhjpchpaaGreatProg
import Derived.Test.YtghihffhjpchpaaGreatMoveSoundK11
set_option linter.unusedVariables false
set_option linter.unusedSimpArgs false
namespace Go.Proofs
open Go.Shelf
def Tryz.sortEn_ren : Go.Shelf.Ren := ⟨fun | 6 => 51 | 15 => 86 | 14 => 85 | 28 => 124 | 29 => 125 | 20 => 116 | 21 => 117 | 22 => 118 | 23 => 119 | 24 => 120 | 25 => 121 | 26 => 122 | 27 => 123 | 46 => 140 | 47 => 141 | 48 => 142 | 49 => 143 | 50 => 144 | 57 => 151 | n => n, fun | 22 => 33 | 24 => 50 | 25 => 86 | 3 => 3 | 39 => 62 | 0 => 0 | 53 => 159 | 55 => 138 | 4 => 4 | 46 => 153 | 45 => 152 | 50 => 47 | 5 => 5 | 9 => 9 | 66 => 179 | 70 => 183 | 76 => 196 | 77 => 197 | n => n, fun | n => n⟩
theorem Tryz.sortEn : Go.Proofs.SlLaysF0.n6 Tryz.prog Tryz.sortEn_ren := {
 mixed := by kernel_rfl
 f6 := ⟨Tryz.f51.name, by decide, Tryz.func51.trans (congrArg some (by kernel_rfl))⟩
 f14 := ⟨Tryz.f85.name, by decide, Tryz.func85.trans (congrArg some (by kernel_rfl))⟩
 f15 := Tryz.func86.trans (congrArg some (by kernel_rfl))
 f20 := ⟨Tryz.f116.name, by decide, Tryz.func116.trans (congrArg some (by kernel_rfl))⟩
 f21 := ⟨Tryz.f117.name, by decide, Tryz.func117.trans (congrArg some (by kernel_rfl))⟩
 f22 := ⟨Tryz.f118.name, by decide, Tryz.func118.trans (congrArg some (by kernel_rfl))⟩
 f23 := ⟨Tryz.f119.name, by decide, Tryz.func119.trans (congrArg some (by kernel_rfl))⟩
 f24 := ⟨Tryz.f120.name, by decide, Tryz.func120.trans (congrArg some (by kernel_rfl))⟩
 f25 := ⟨Tryz.f121.name, by decide, Tryz.func121.trans (congrArg some (by kernel_rfl))⟩
 f26 := ⟨Tryz.f122.name, by decide, Tryz.func122.trans (congrArg some (by kernel_rfl))⟩
 f27 := ⟨Tryz.f123.name, by decide, Tryz.func123.trans (congrArg some (by kernel_rfl))⟩
 f28 := Tryz.func124.trans (congrArg some (by kernel_rfl))
 f29 := Tryz.func125.trans (congrArg some (by kernel_rfl))
 f46 := ⟨Tryz.f140.name, by decide, Tryz.func140.trans (congrArg some (by kernel_rfl))⟩
 f47 := Tryz.func141.trans (congrArg some (by kernel_rfl))
 f48 := Tryz.func142.trans (congrArg some (by kernel_rfl))
 f49 := ⟨Tryz.f143.name, by decide, Tryz.func143.trans (congrArg some (by kernel_rfl))⟩
 f50 := ⟨Tryz.f144.name, by decide, Tryz.func144.trans (congrArg some (by kernel_rfl))⟩
 f57 := ⟨Tryz.f151.name, by decide, Tryz.func151.trans (congrArg some (by kernel_rfl))⟩
 t0 := Tryz.underlying0
 a0 := Tryz.isAgg0
 z0 := Tryz.sizeOf0
 v0 := Tryz.zeroValue0
 t3 := Tryz.underlying3
 a3 := Tryz.isAgg3
 z3 := Tryz.sizeOf3
 v3 := Tryz.zeroValue3
 t4 := Tryz.underlying4
 a4 := Tryz.isAgg4
 z4 := Tryz.sizeOf4
 v4 := Tryz.zeroValue4
 t5 := Tryz.underlying5
 a5 := Tryz.isAgg5
 z5 := Tryz.sizeOf5
 v5 := Tryz.zeroValue5
 t9 := Tryz.underlying9
 a9 := Tryz.isAgg9
 z9 := Tryz.sizeOf9
 v9 := Tryz.zeroValue9
 t22 := Tryz.underlying33
 a22 := Tryz.isAgg33
 z22 := Tryz.sizeOf33
 v22 := Tryz.zeroValue33
 t25 := Tryz.underlying86
 a25 := Tryz.isAgg86
 z25 := Tryz.sizeOf86
 v25 := Tryz.zeroValue86
 t39 := Tryz.underlying62
 a39 := Tryz.isAgg62
 z39 := Tryz.sizeOf62
 v39 := Tryz.zeroValue62
 t45 := Tryz.underlying152
 a45 := Tryz.isAgg152
 z45 := Tryz.sizeOf152
 v45 := Tryz.zeroValue152
 t46 := Tryz.underlying153
 a46 := Tryz.isAgg153
 z46 := Tryz.sizeOf153
 v46 := Tryz.zeroValue153
 t50 := Tryz.underlying47
 a50 := Tryz.isAgg47
 z50 := Tryz.sizeOf47
 v50 := Tryz.zeroValue47
 t53 := Tryz.underlying159
 a53 := Tryz.isAgg159
 z53 := Tryz.sizeOf159
 v53 := Tryz.zeroValue159
 t55 := Tryz.underlying138
 a55 := Tryz.isAgg138
 z55 := Tryz.sizeOf138
 v55 := Tryz.zeroValue138
 t66 := Tryz.underlying179
 a66 := Tryz.isAgg179
 z66 := Tryz.sizeOf179
 v66 := Tryz.zeroValue179
 t70 := Tryz.underlying183
 a70 := Tryz.isAgg183
 z70 := Tryz.sizeOf183
 v70 := Tryz.zeroValue183
 t76 := Tryz.underlying196
 a76 := Tryz.isAgg196
 z76 := Tryz.sizeOf196
 v76 := Tryz.zeroValue196
 t77 := Tryz.underlying197
 a77 := Tryz.isAgg197
 z77 := Tryz.sizeOf197
 v77 := Tryz.zeroValue197 }
end Go.Proofs
