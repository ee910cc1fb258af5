/-
  DERIVED: THE SHELF's CONTRACTS AT THIS DUMP, IN PLAIN WORDS (tools/lay-plain.mjs out of 'TrySort.lean', which tools/lay-shelf.mjs wrote): THE SAME DECLARATIONS UNDER THE SAME NAMES: 'import', 'namespace', 'open', 'def', 'theorem' AND NOTHING ELSE: no command of the shelf's: FOR A HAND-IN. Each laying: the table of numbers ('.._ren') and one theorem, a field a fact of the dump's own or the kernel's comparison; each contract: ONE APPLICATION.
-/
import Derived.Shelf.SlSortCmp.NoneTotal
import Derived.Shelf.SlGeneric
import Derived.Ground.SlsfProg
import Derived.Test.YtkdbjeegiiihaaaProg
set_option linter.unusedVariables false
set_option linter.unusedSimpArgs false
namespace Go.Proofs
open Go.Shelf
def Try.lsort_ren : Go.Shelf.Ren := ⟨fun | 6 => 48 | 15 => 100 | 14 => 99 | 28 => 129 | 29 => 130 | 20 => 121 | 21 => 122 | 22 => 123 | 23 => 124 | 24 => 125 | 25 => 126 | 26 => 127 | 27 => 128 | 46 => 134 | 47 => 135 | 48 => 136 | 49 => 137 | 50 => 138 | 57 => 139 | n => n, fun | 22 => 35 | 24 => 46 | 25 => 114 | 3 => 3 | 39 => 165 | 0 => 0 | 53 => 22 | 55 => 80 | 4 => 4 | 46 => 186 | 45 => 185 | 50 => 166 | 5 => 5 | 9 => 9 | 66 => 198 | 70 => 202 | 76 => 204 | 77 => 205 | n => n, fun | n => n⟩
theorem Try.lsort : Go.Proofs.SlLaysF0.n6 Try.prog Try.lsort_ren := {
  mixed := by kernel_rfl
  f6 := ⟨Try.f48.name, by decide, Try.func48.trans (congrArg some (by kernel_rfl))⟩
  f14 := ⟨Try.f99.name, by decide, Try.func99.trans (congrArg some (by kernel_rfl))⟩
  f15 := Try.func100.trans (congrArg some (by kernel_rfl))
  f20 := ⟨Try.f121.name, by decide, Try.func121.trans (congrArg some (by kernel_rfl))⟩
  f21 := ⟨Try.f122.name, by decide, Try.func122.trans (congrArg some (by kernel_rfl))⟩
  f22 := ⟨Try.f123.name, by decide, Try.func123.trans (congrArg some (by kernel_rfl))⟩
  f23 := ⟨Try.f124.name, by decide, Try.func124.trans (congrArg some (by kernel_rfl))⟩
  f24 := ⟨Try.f125.name, by decide, Try.func125.trans (congrArg some (by kernel_rfl))⟩
  f25 := ⟨Try.f126.name, by decide, Try.func126.trans (congrArg some (by kernel_rfl))⟩
  f26 := ⟨Try.f127.name, by decide, Try.func127.trans (congrArg some (by kernel_rfl))⟩
  f27 := ⟨Try.f128.name, by decide, Try.func128.trans (congrArg some (by kernel_rfl))⟩
  f28 := Try.func129.trans (congrArg some (by kernel_rfl))
  f29 := Try.func130.trans (congrArg some (by kernel_rfl))
  f46 := ⟨Try.f134.name, by decide, Try.func134.trans (congrArg some (by kernel_rfl))⟩
  f47 := Try.func135.trans (congrArg some (by kernel_rfl))
  f48 := Try.func136.trans (congrArg some (by kernel_rfl))
  f49 := ⟨Try.f137.name, by decide, Try.func137.trans (congrArg some (by kernel_rfl))⟩
  f50 := ⟨Try.f138.name, by decide, Try.func138.trans (congrArg some (by kernel_rfl))⟩
  f57 := ⟨Try.f139.name, by decide, Try.func139.trans (congrArg some (by kernel_rfl))⟩
  t0 := Try.underlying0
  a0 := Try.isAgg0
  z0 := Try.sizeOf0
  v0 := Try.zeroValue0
  t3 := Try.underlying3
  a3 := Try.isAgg3
  z3 := Try.sizeOf3
  v3 := Try.zeroValue3
  t4 := Try.underlying4
  a4 := Try.isAgg4
  z4 := Try.sizeOf4
  v4 := Try.zeroValue4
  t5 := Try.underlying5
  a5 := Try.isAgg5
  z5 := Try.sizeOf5
  v5 := Try.zeroValue5
  t9 := Try.underlying9
  a9 := Try.isAgg9
  z9 := Try.sizeOf9
  v9 := Try.zeroValue9
  t22 := Try.underlying35
  a22 := Try.isAgg35
  z22 := Try.sizeOf35
  v22 := Try.zeroValue35
  t25 := Try.underlying114
  a25 := Try.isAgg114
  z25 := Try.sizeOf114
  v25 := Try.zeroValue114
  t39 := Try.underlying165
  a39 := Try.isAgg165
  z39 := Try.sizeOf165
  v39 := Try.zeroValue165
  t45 := Try.underlying185
  a45 := Try.isAgg185
  z45 := Try.sizeOf185
  v45 := Try.zeroValue185
  t46 := Try.underlying186
  a46 := Try.isAgg186
  z46 := Try.sizeOf186
  v46 := Try.zeroValue186
  t50 := Try.underlying166
  a50 := Try.isAgg166
  z50 := Try.sizeOf166
  v50 := Try.zeroValue166
  t53 := Try.underlying22
  a53 := Try.isAgg22
  z53 := Try.sizeOf22
  v53 := Try.zeroValue22
  t55 := Try.underlying80
  a55 := Try.isAgg80
  z55 := Try.sizeOf80
  v55 := Try.zeroValue80
  t66 := Try.underlying198
  a66 := Try.isAgg198
  z66 := Try.sizeOf198
  v66 := Try.zeroValue198
  t70 := Try.underlying202
  a70 := Try.isAgg202
  z70 := Try.sizeOf202
  v70 := Try.zeroValue202
  t76 := Try.underlying204
  a76 := Try.isAgg204
  z76 := Try.sizeOf204
  v76 := Try.zeroValue204
  t77 := Try.underlying205
  a77 := Try.isAgg205
  z77 := Try.sizeOf205
  v77 := Try.zeroValue205 }
end Go.Proofs
