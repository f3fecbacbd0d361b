/-
  DERIVED: THE SHELF's CONTRACTS AT THIS DUMP, IN PLAIN WORDS (tools/lay-plain.mjs out of 'TryzSrt0.lean', which tools/lay-shelf.mjs wrote): THE SAME DECLARATIONS UNDER THE SAME NAMES: 'import', 'namespace', 'open', 'def', 'theorem' AND NOTHING ELSE: no command of the shelf's: FOR A HAND-IN. Each laying: the table of numbers ('.._ren') and one theorem, a field a fact of the dump's own or the kernel's comparison; each contract: ONE APPLICATION.
-/
import Derived.Shelf.SlGeneric
import Derived.Shelf.SlSortCmp.NoneTotal
import Derived.Ground.SlsfProg
import Derived.Test.YtlakopiopplfhaaGreatDoorProg
namespace Go.Proofs
open Go.Shelf
def Tryz.sortCd_ren : Go.Shelf.Ren := ⟨fun | 6 => 206 | 15 => 232 | 14 => 231 | 28 => 259 | 29 => 238 | 20 => 251 | 21 => 252 | 22 => 253 | 23 => 254 | 24 => 255 | 25 => 256 | 26 => 257 | 27 => 258 | 46 => 270 | 47 => 271 | 48 => 272 | 49 => 273 | 50 => 274 | 57 => 278 | n => n, fun | 22 => 171 | 24 => 50 | 25 => 273 | 3 => 3 | 39 => 219 | 0 => 0 | 53 => 309 | 55 => 218 | 4 => 4 | 46 => 314 | 45 => 313 | 50 => 202 | 5 => 5 | 9 => 9 | 66 => 338 | 70 => 342 | 76 => 351 | 77 => 256 | n => n, fun | n => n⟩
theorem Tryz.sortCd : Go.Proofs.SlLaysF0.n6 Tryz.prog Tryz.sortCd_ren := {
  mixed := by kernel_rfl
  f6 := ⟨Tryz.f206.name, by decide, Tryz.func206.trans (congrArg some (by kernel_rfl))⟩
  f14 := ⟨Tryz.f231.name, by decide, Tryz.func231.trans (congrArg some (by kernel_rfl))⟩
  f15 := Tryz.func232.trans (congrArg some (by kernel_rfl))
  f20 := ⟨Tryz.f251.name, by decide, Tryz.func251.trans (congrArg some (by kernel_rfl))⟩
  f21 := ⟨Tryz.f252.name, by decide, Tryz.func252.trans (congrArg some (by kernel_rfl))⟩
  f22 := ⟨Tryz.f253.name, by decide, Tryz.func253.trans (congrArg some (by kernel_rfl))⟩
  f23 := ⟨Tryz.f254.name, by decide, Tryz.func254.trans (congrArg some (by kernel_rfl))⟩
  f24 := ⟨Tryz.f255.name, by decide, Tryz.func255.trans (congrArg some (by kernel_rfl))⟩
  f25 := ⟨Tryz.f256.name, by decide, Tryz.func256.trans (congrArg some (by kernel_rfl))⟩
  f26 := ⟨Tryz.f257.name, by decide, Tryz.func257.trans (congrArg some (by kernel_rfl))⟩
  f27 := ⟨Tryz.f258.name, by decide, Tryz.func258.trans (congrArg some (by kernel_rfl))⟩
  f28 := Tryz.func259.trans (congrArg some (by kernel_rfl))
  f29 := Tryz.func238.trans (congrArg some (by kernel_rfl))
  f46 := ⟨Tryz.f270.name, by decide, Tryz.func270.trans (congrArg some (by kernel_rfl))⟩
  f47 := Tryz.func271.trans (congrArg some (by kernel_rfl))
  f48 := Tryz.func272.trans (congrArg some (by kernel_rfl))
  f49 := ⟨Tryz.f273.name, by decide, Tryz.func273.trans (congrArg some (by kernel_rfl))⟩
  f50 := ⟨Tryz.f274.name, by decide, Tryz.func274.trans (congrArg some (by kernel_rfl))⟩
  f57 := ⟨Tryz.f278.name, by decide, Tryz.func278.trans (congrArg some (by kernel_rfl))⟩
  t0 := Tryz.underlying0
  a0 := Tryz.isAgg0
  z0 := Tryz.sizeOf0
  v0 := Tryz.zeroValue0
  t3 := Tryz.underlying3
  a3 := Tryz.isAgg3
  z3 := Tryz.sizeOf3
  v3 := Tryz.zeroValue3
  t4 := Tryz.underlying4
  a4 := Tryz.isAgg4
  z4 := Tryz.sizeOf4
  v4 := Tryz.zeroValue4
  t5 := Tryz.underlying5
  a5 := Tryz.isAgg5
  z5 := Tryz.sizeOf5
  v5 := Tryz.zeroValue5
  t9 := Tryz.underlying9
  a9 := Tryz.isAgg9
  z9 := Tryz.sizeOf9
  v9 := Tryz.zeroValue9
  t22 := Tryz.underlying171
  a22 := Tryz.isAgg171
  z22 := Tryz.sizeOf171
  v22 := Tryz.zeroValue171
  t25 := Tryz.underlying273
  a25 := Tryz.isAgg273
  z25 := Tryz.sizeOf273
  v25 := Tryz.zeroValue273
  t39 := Tryz.underlying219
  a39 := Tryz.isAgg219
  z39 := Tryz.sizeOf219
  v39 := Tryz.zeroValue219
  t45 := Tryz.underlying313
  a45 := Tryz.isAgg313
  z45 := Tryz.sizeOf313
  v45 := Tryz.zeroValue313
  t46 := Tryz.underlying314
  a46 := Tryz.isAgg314
  z46 := Tryz.sizeOf314
  v46 := Tryz.zeroValue314
  t50 := Tryz.underlying202
  a50 := Tryz.isAgg202
  z50 := Tryz.sizeOf202
  v50 := Tryz.zeroValue202
  t53 := Tryz.underlying309
  a53 := Tryz.isAgg309
  z53 := Tryz.sizeOf309
  v53 := Tryz.zeroValue309
  t55 := Tryz.underlying218
  a55 := Tryz.isAgg218
  z55 := Tryz.sizeOf218
  v55 := Tryz.zeroValue218
  t66 := Tryz.underlying338
  a66 := Tryz.isAgg338
  z66 := Tryz.sizeOf338
  v66 := Tryz.zeroValue338
  t70 := Tryz.underlying342
  a70 := Tryz.isAgg342
  z70 := Tryz.sizeOf342
  v70 := Tryz.zeroValue342
  t76 := Tryz.underlying351
  a76 := Tryz.isAgg351
  z76 := Tryz.sizeOf351
  v76 := Tryz.zeroValue351
  t77 := Tryz.underlying256
  a77 := Tryz.isAgg256
  z77 := Tryz.sizeOf256
  v77 := Tryz.zeroValue256 }
end Go.Proofs
