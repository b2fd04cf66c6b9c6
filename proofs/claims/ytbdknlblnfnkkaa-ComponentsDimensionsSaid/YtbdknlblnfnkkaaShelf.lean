/-
  DERIVED: THE SHELF's CONTRACTS AT THIS DUMP, IN PLAIN WORDS (tools/lay-plain.mjs out of 'TryShelf.lean', which tools/lay-shelf.mjs wrote): THE SAME DECLARATIONS UNDER THE SAME NAMES: 'import', 'namespace', 'open', 'def', 'theorem' AND NOTHING ELSE: no command of the shelf's: FOR A HAND-IN. Each laying: the table of numbers ('.._ren') and one theorem, a field a fact of the dump's own or the kernel's comparison; each contract: ONE APPLICATION.
-/
import Derived.Shelf.SlGeneric
import Derived.Shelf.SlLaysF0
import Derived.Ground.SlsfProg
import Derived.Test.YtbdknlblnfnkkaaProg
namespace Go.Proofs
open Go.Shelf
def Try.sortL_ren : Go.Shelf.Ren := ⟨fun | 6 => 70 | 15 => 88 | 14 => 87 | 28 => 103 | 29 => 104 | 20 => 95 | 21 => 96 | 22 => 97 | 23 => 98 | 24 => 99 | 25 => 100 | 26 => 101 | 27 => 102 | 46 => 108 | 47 => 109 | 48 => 110 | 49 => 111 | 50 => 112 | 57 => 122 | n => n, fun | 22 => 28 | 24 => 48 | 25 => 52 | 3 => 3 | 39 => 100 | 0 => 0 | 53 => 112 | 55 => 114 | 4 => 4 | 46 => 105 | 45 => 104 | 50 => 109 | 5 => 5 | 9 => 9 | 66 => 118 | 70 => 122 | 76 => 130 | 77 => 131 | n => n, fun | n => n⟩
theorem Try.sortL : Go.Proofs.SlLaysF0.n6 Try.prog Try.sortL_ren := {
  mixed := by kernel_rfl
  f6 := ⟨Try.f70.name, by decide, Try.func70.trans (congrArg some (by kernel_rfl))⟩
  f14 := ⟨Try.f87.name, by decide, Try.func87.trans (congrArg some (by kernel_rfl))⟩
  f15 := Try.func88.trans (congrArg some (by kernel_rfl))
  f20 := ⟨Try.f95.name, by decide, Try.func95.trans (congrArg some (by kernel_rfl))⟩
  f21 := ⟨Try.f96.name, by decide, Try.func96.trans (congrArg some (by kernel_rfl))⟩
  f22 := ⟨Try.f97.name, by decide, Try.func97.trans (congrArg some (by kernel_rfl))⟩
  f23 := ⟨Try.f98.name, by decide, Try.func98.trans (congrArg some (by kernel_rfl))⟩
  f24 := ⟨Try.f99.name, by decide, Try.func99.trans (congrArg some (by kernel_rfl))⟩
  f25 := ⟨Try.f100.name, by decide, Try.func100.trans (congrArg some (by kernel_rfl))⟩
  f26 := ⟨Try.f101.name, by decide, Try.func101.trans (congrArg some (by kernel_rfl))⟩
  f27 := ⟨Try.f102.name, by decide, Try.func102.trans (congrArg some (by kernel_rfl))⟩
  f28 := Try.func103.trans (congrArg some (by kernel_rfl))
  f29 := Try.func104.trans (congrArg some (by kernel_rfl))
  f46 := ⟨Try.f108.name, by decide, Try.func108.trans (congrArg some (by kernel_rfl))⟩
  f47 := Try.func109.trans (congrArg some (by kernel_rfl))
  f48 := Try.func110.trans (congrArg some (by kernel_rfl))
  f49 := ⟨Try.f111.name, by decide, Try.func111.trans (congrArg some (by kernel_rfl))⟩
  f50 := ⟨Try.f112.name, by decide, Try.func112.trans (congrArg some (by kernel_rfl))⟩
  f57 := ⟨Try.f122.name, by decide, Try.func122.trans (congrArg some (by kernel_rfl))⟩
  t0 := Try.underlying0
  a0 := Try.isAgg0
  z0 := Try.sizeOf0
  v0 := Try.zeroValue0
  t3 := Try.underlying3
  a3 := Try.isAgg3
  z3 := Try.sizeOf3
  v3 := Try.zeroValue3
  t4 := Try.underlying4
  a4 := Try.isAgg4
  z4 := Try.sizeOf4
  v4 := Try.zeroValue4
  t5 := Try.underlying5
  a5 := Try.isAgg5
  z5 := Try.sizeOf5
  v5 := Try.zeroValue5
  t9 := Try.underlying9
  a9 := Try.isAgg9
  z9 := Try.sizeOf9
  v9 := Try.zeroValue9
  t22 := Try.underlying28
  a22 := Try.isAgg28
  z22 := Try.sizeOf28
  v22 := Try.zeroValue28
  t25 := Try.underlying52
  a25 := Try.isAgg52
  z25 := Try.sizeOf52
  v25 := Try.zeroValue52
  t39 := Try.underlying100
  a39 := Try.isAgg100
  z39 := Try.sizeOf100
  v39 := Try.zeroValue100
  t45 := Try.underlying104
  a45 := Try.isAgg104
  z45 := Try.sizeOf104
  v45 := Try.zeroValue104
  t46 := Try.underlying105
  a46 := Try.isAgg105
  z46 := Try.sizeOf105
  v46 := Try.zeroValue105
  t50 := Try.underlying109
  a50 := Try.isAgg109
  z50 := Try.sizeOf109
  v50 := Try.zeroValue109
  t53 := Try.underlying112
  a53 := Try.isAgg112
  z53 := Try.sizeOf112
  v53 := Try.zeroValue112
  t55 := Try.underlying114
  a55 := Try.isAgg114
  z55 := Try.sizeOf114
  v55 := Try.zeroValue114
  t66 := Try.underlying118
  a66 := Try.isAgg118
  z66 := Try.sizeOf118
  v66 := Try.zeroValue118
  t70 := Try.underlying122
  a70 := Try.isAgg122
  z70 := Try.sizeOf122
  v70 := Try.zeroValue122
  t76 := Try.underlying130
  a76 := Try.isAgg130
  z76 := Try.sizeOf130
  v76 := Try.zeroValue130
  t77 := Try.underlying131
  a77 := Try.isAgg131
  z77 := Try.sizeOf131
  v77 := Try.zeroValue131 }
end Go.Proofs
