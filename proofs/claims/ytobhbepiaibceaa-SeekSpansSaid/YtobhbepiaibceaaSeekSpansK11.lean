/- The texts that this claim needs, part 11: a logic over abstract values, its steps, what the functions do. No condition of its own. -/
import Derived.Shelf.SlLaysF0
import Derived.Test.YtobhbepiaibceaaProg
import Derived.Test.YtobhbepiaibceaaSeekSpansK10
/-
  DERIVED: THE SHELF's CONTRACTS AT THIS DUMP, IN PLAIN WORDS (tools/lay-plain.mjs out of 'YtobhbepiaibceaaSrtLay0.lean', which tools/lay-shelf.mjs wrote): THE SAME DECLARATIONS UNDER THE SAME NAMES: 'import', 'namespace', 'open', 'def', 'theorem' AND NOTHING ELSE: no command of the shelf's: FOR A HAND-IN. Each laying: the table of numbers ('.._ren') and one theorem, a field a fact of the dump's own or the kernel's comparison; each contract: ONE APPLICATION.
-/
namespace Go.Proofs
open Go.Shelf
def Try.sortEn_ren : Go.Shelf.Ren := ⟨fun | 6 => 99 | 15 => 122 | 14 => 121 | 28 => 141 | 29 => 142 | 20 => 133 | 21 => 134 | 22 => 135 | 23 => 136 | 24 => 137 | 25 => 138 | 26 => 139 | 27 => 140 | 46 => 146 | 47 => 147 | 48 => 148 | 49 => 149 | 50 => 150 | 57 => 156 | n => n, fun | 22 => 22 | 24 => 54 | 25 => 130 | 3 => 3 | 39 => 149 | 0 => 0 | 53 => 187 | 55 => 143 | 4 => 4 | 46 => 181 | 45 => 180 | 50 => 67 | 5 => 5 | 9 => 9 | 66 => 196 | 70 => 199 | 76 => 206 | 77 => 207 | n => n, fun | n => n⟩
theorem Try.sortEn : Go.Proofs.SlLaysF0.n6 Try.prog Try.sortEn_ren := {
  mixed := by kernel_rfl
  f6 := ⟨Try.f99.name, by decide, Try.func99.trans (congrArg some (by kernel_rfl))⟩
  f14 := ⟨Try.f121.name, by decide, Try.func121.trans (congrArg some (by kernel_rfl))⟩
  f15 := Try.func122.trans (congrArg some (by kernel_rfl))
  f20 := ⟨Try.f133.name, by decide, Try.func133.trans (congrArg some (by kernel_rfl))⟩
  f21 := ⟨Try.f134.name, by decide, Try.func134.trans (congrArg some (by kernel_rfl))⟩
  f22 := ⟨Try.f135.name, by decide, Try.func135.trans (congrArg some (by kernel_rfl))⟩
  f23 := ⟨Try.f136.name, by decide, Try.func136.trans (congrArg some (by kernel_rfl))⟩
  f24 := ⟨Try.f137.name, by decide, Try.func137.trans (congrArg some (by kernel_rfl))⟩
  f25 := ⟨Try.f138.name, by decide, Try.func138.trans (congrArg some (by kernel_rfl))⟩
  f26 := ⟨Try.f139.name, by decide, Try.func139.trans (congrArg some (by kernel_rfl))⟩
  f27 := ⟨Try.f140.name, by decide, Try.func140.trans (congrArg some (by kernel_rfl))⟩
  f28 := Try.func141.trans (congrArg some (by kernel_rfl))
  f29 := Try.func142.trans (congrArg some (by kernel_rfl))
  f46 := ⟨Try.f146.name, by decide, Try.func146.trans (congrArg some (by kernel_rfl))⟩
  f47 := Try.func147.trans (congrArg some (by kernel_rfl))
  f48 := Try.func148.trans (congrArg some (by kernel_rfl))
  f49 := ⟨Try.f149.name, by decide, Try.func149.trans (congrArg some (by kernel_rfl))⟩
  f50 := ⟨Try.f150.name, by decide, Try.func150.trans (congrArg some (by kernel_rfl))⟩
  f57 := ⟨Try.f156.name, by decide, Try.func156.trans (congrArg some (by kernel_rfl))⟩
  t0 := Try.underlying0
  a0 := Try.isAgg0
  z0 := Try.sizeOf0
  v0 := Try.zeroValue0
  t3 := Try.underlying3
  a3 := Try.isAgg3
  z3 := Try.sizeOf3
  v3 := Try.zeroValue3
  t4 := Try.underlying4
  a4 := Try.isAgg4
  z4 := Try.sizeOf4
  v4 := Try.zeroValue4
  t5 := Try.underlying5
  a5 := Try.isAgg5
  z5 := Try.sizeOf5
  v5 := Try.zeroValue5
  t9 := Try.underlying9
  a9 := Try.isAgg9
  z9 := Try.sizeOf9
  v9 := Try.zeroValue9
  t22 := Try.underlying22
  a22 := Try.isAgg22
  z22 := Try.sizeOf22
  v22 := Try.zeroValue22
  t25 := Try.underlying130
  a25 := Try.isAgg130
  z25 := Try.sizeOf130
  v25 := Try.zeroValue130
  t39 := Try.underlying149
  a39 := Try.isAgg149
  z39 := Try.sizeOf149
  v39 := Try.zeroValue149
  t45 := Try.underlying180
  a45 := Try.isAgg180
  z45 := Try.sizeOf180
  v45 := Try.zeroValue180
  t46 := Try.underlying181
  a46 := Try.isAgg181
  z46 := Try.sizeOf181
  v46 := Try.zeroValue181
  t50 := Try.underlying67
  a50 := Try.isAgg67
  z50 := Try.sizeOf67
  v50 := Try.zeroValue67
  t53 := Try.underlying187
  a53 := Try.isAgg187
  z53 := Try.sizeOf187
  v53 := Try.zeroValue187
  t55 := Try.underlying143
  a55 := Try.isAgg143
  z55 := Try.sizeOf143
  v55 := Try.zeroValue143
  t66 := Try.underlying196
  a66 := Try.isAgg196
  z66 := Try.sizeOf196
  v66 := Try.zeroValue196
  t70 := Try.underlying199
  a70 := Try.isAgg199
  z70 := Try.sizeOf199
  v70 := Try.zeroValue199
  t76 := Try.underlying206
  a76 := Try.isAgg206
  z76 := Try.sizeOf206
  v76 := Try.zeroValue206
  t77 := Try.underlying207
  a77 := Try.isAgg207
  z77 := Try.sizeOf207
  v77 := Try.zeroValue207 }
end Go.Proofs
