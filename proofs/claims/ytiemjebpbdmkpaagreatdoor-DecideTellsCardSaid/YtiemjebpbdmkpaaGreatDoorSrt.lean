/-
  DERIVED: THE SHELF's CONTRACTS AT THIS DUMP, IN PLAIN WORDS (tools/lay-plain.mjs out of 'TryzSrt0.lean', which tools/lay-shelf.mjs wrote): THE SAME DECLARATIONS UNDER THE SAME NAMES: 'import', 'namespace', 'open', 'def', 'theorem' AND NOTHING ELSE: no command of the shelf's: FOR A HAND-IN. Each laying: the table of numbers ('.._ren') and one theorem, a field a fact of the dump's own or the kernel's comparison; each contract: ONE APPLICATION.
-/
import Derived.Shelf.SlGeneric
import Derived.Shelf.SlSortCmp.NoneTotal
import Derived.Ground.SlsfProg
import Derived.Test.YtiemjebpbdmkpaaGreatDoorProg
namespace Go.Proofs
open Go.Shelf
def Tryz.sortCd_ren : Go.Shelf.Ren := ⟨fun | 6 => 131 | 15 => 169 | 14 => 168 | 28 => 211 | 29 => 212 | 20 => 203 | 21 => 204 | 22 => 205 | 23 => 206 | 24 => 207 | 25 => 208 | 26 => 209 | 27 => 210 | 46 => 254 | 47 => 255 | 48 => 256 | 49 => 257 | 50 => 258 | 57 => 285 | n => n, fun | 22 => 40 | 24 => 33 | 25 => 189 | 3 => 3 | 39 => 232 | 0 => 0 | 53 => 273 | 55 => 248 | 4 => 4 | 46 => 267 | 45 => 266 | 50 => 119 | 5 => 5 | 9 => 9 | 66 => 301 | 70 => 305 | 76 => 343 | 77 => 294 | n => n, fun | n => n⟩
theorem Tryz.sortCd : Go.Proofs.SlLaysF0.n6 Tryz.prog Tryz.sortCd_ren := {
  mixed := by kernel_rfl
  f6 := ⟨Tryz.f131.name, by decide, Tryz.func131.trans (congrArg some (by kernel_rfl))⟩
  f14 := ⟨Tryz.f168.name, by decide, Tryz.func168.trans (congrArg some (by kernel_rfl))⟩
  f15 := Tryz.func169.trans (congrArg some (by kernel_rfl))
  f20 := ⟨Tryz.f203.name, by decide, Tryz.func203.trans (congrArg some (by kernel_rfl))⟩
  f21 := ⟨Tryz.f204.name, by decide, Tryz.func204.trans (congrArg some (by kernel_rfl))⟩
  f22 := ⟨Tryz.f205.name, by decide, Tryz.func205.trans (congrArg some (by kernel_rfl))⟩
  f23 := ⟨Tryz.f206.name, by decide, Tryz.func206.trans (congrArg some (by kernel_rfl))⟩
  f24 := ⟨Tryz.f207.name, by decide, Tryz.func207.trans (congrArg some (by kernel_rfl))⟩
  f25 := ⟨Tryz.f208.name, by decide, Tryz.func208.trans (congrArg some (by kernel_rfl))⟩
  f26 := ⟨Tryz.f209.name, by decide, Tryz.func209.trans (congrArg some (by kernel_rfl))⟩
  f27 := ⟨Tryz.f210.name, by decide, Tryz.func210.trans (congrArg some (by kernel_rfl))⟩
  f28 := Tryz.func211.trans (congrArg some (by kernel_rfl))
  f29 := Tryz.func212.trans (congrArg some (by kernel_rfl))
  f46 := ⟨Tryz.f254.name, by decide, Tryz.func254.trans (congrArg some (by kernel_rfl))⟩
  f47 := Tryz.func255.trans (congrArg some (by kernel_rfl))
  f48 := Tryz.func256.trans (congrArg some (by kernel_rfl))
  f49 := ⟨Tryz.f257.name, by decide, Tryz.func257.trans (congrArg some (by kernel_rfl))⟩
  f50 := ⟨Tryz.f258.name, by decide, Tryz.func258.trans (congrArg some (by kernel_rfl))⟩
  f57 := ⟨Tryz.f285.name, by decide, Tryz.func285.trans (congrArg some (by kernel_rfl))⟩
  t0 := Tryz.underlying0
  a0 := Tryz.isAgg0
  z0 := Tryz.sizeOf0
  v0 := Tryz.zeroValue0
  t3 := Tryz.underlying3
  a3 := Tryz.isAgg3
  z3 := Tryz.sizeOf3
  v3 := Tryz.zeroValue3
  t4 := Tryz.underlying4
  a4 := Tryz.isAgg4
  z4 := Tryz.sizeOf4
  v4 := Tryz.zeroValue4
  t5 := Tryz.underlying5
  a5 := Tryz.isAgg5
  z5 := Tryz.sizeOf5
  v5 := Tryz.zeroValue5
  t9 := Tryz.underlying9
  a9 := Tryz.isAgg9
  z9 := Tryz.sizeOf9
  v9 := Tryz.zeroValue9
  t22 := Tryz.underlying40
  a22 := Tryz.isAgg40
  z22 := Tryz.sizeOf40
  v22 := Tryz.zeroValue40
  t25 := Tryz.underlying189
  a25 := Tryz.isAgg189
  z25 := Tryz.sizeOf189
  v25 := Tryz.zeroValue189
  t39 := Tryz.underlying232
  a39 := Tryz.isAgg232
  z39 := Tryz.sizeOf232
  v39 := Tryz.zeroValue232
  t45 := Tryz.underlying266
  a45 := Tryz.isAgg266
  z45 := Tryz.sizeOf266
  v45 := Tryz.zeroValue266
  t46 := Tryz.underlying267
  a46 := Tryz.isAgg267
  z46 := Tryz.sizeOf267
  v46 := Tryz.zeroValue267
  t50 := Tryz.underlying119
  a50 := Tryz.isAgg119
  z50 := Tryz.sizeOf119
  v50 := Tryz.zeroValue119
  t53 := Tryz.underlying273
  a53 := Tryz.isAgg273
  z53 := Tryz.sizeOf273
  v53 := Tryz.zeroValue273
  t55 := Tryz.underlying248
  a55 := Tryz.isAgg248
  z55 := Tryz.sizeOf248
  v55 := Tryz.zeroValue248
  t66 := Tryz.underlying301
  a66 := Tryz.isAgg301
  z66 := Tryz.sizeOf301
  v66 := Tryz.zeroValue301
  t70 := Tryz.underlying305
  a70 := Tryz.isAgg305
  z70 := Tryz.sizeOf305
  v70 := Tryz.zeroValue305
  t76 := Tryz.underlying343
  a76 := Tryz.isAgg343
  z76 := Tryz.sizeOf343
  v76 := Tryz.zeroValue343
  t77 := Tryz.underlying294
  a77 := Tryz.isAgg294
  z77 := Tryz.sizeOf294
  v77 := Tryz.zeroValue294 }
end Go.Proofs
