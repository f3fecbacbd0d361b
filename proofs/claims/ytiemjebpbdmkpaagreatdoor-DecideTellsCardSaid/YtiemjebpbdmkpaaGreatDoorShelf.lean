/-
  DERIVED: THE SHELF's CONTRACTS AT THIS DUMP, IN PLAIN WORDS (tools/lay-plain.mjs out of 'TryzShelf.lean', which tools/lay-shelf.mjs wrote): THE SAME DECLARATIONS UNDER THE SAME NAMES: 'import', 'namespace', 'open', 'def', 'theorem' AND NOTHING ELSE: no command of the shelf's: FOR A HAND-IN. Each laying: the table of numbers ('.._ren') and one theorem, a field a fact of the dump's own or the kernel's comparison; each contract: ONE APPLICATION.
-/
import Derived.Shelf.Strings.Builder1
import Derived.Shelf.Strings.Builder2
import Derived.Shelf.Strings.OnBuilder
import Derived.Shelf.Small.Utf8
import Derived.Shelf.Small.Bits
import Derived.Shelf.Small.Strs
import Derived.Shelf.Strconv.Itoa0
import Derived.Shelf.Strconv.Itoa1
import Derived.Shelf.LaysM
import Derived.Shelf.Strconv.Itoa2
import Derived.Shelf.Strconv.Itoa3
import Derived.Shelf.Strings.Search1
import Derived.Shelf.Strings.Search2
import Derived.Shelf.Strings.Search3
import Derived.Shelf.Strings.Cut
import Derived.Shelf.Strings.Count
import Derived.Shelf.Strings.Shaped
import Derived.Shelf.Strings.Runes
import Derived.Shelf.Strings.IndexAny
import Derived.Shelf.Strings.AsciiSet
import Derived.Shelf.Strings.IndexAnyAll
import Derived.Shelf.Unicode.DecodeSlow
import Derived.Shelf.Unicode.DecodeAny
import Derived.Ground.Names2Prog
import Derived.Shelf.Slices.Clone
import Derived.Shelf.Slices.SearchI
import Derived.Ground.SlgnProg
import Derived.Shelf.SlicesE.Clone
import Derived.Test.YtiemjebpbdmkpaaGreatDoorProg
namespace Go.Proofs
open Go.Shelf
def Tryz.lays156_ren : Go.Shelf.Ren := ⟨fun | 156 => 157 | 165 => 185 | 166 => 186 | 169 => 187 | 240 => 228 | 241 => 229 | 276 => 271 | 277 => 272 | n => n, fun | 31 => 48 | 9 => 9 | 3 => 3 | 4 => 4 | 0 => 0 | 20 => 20 | 72 => 251 | 76 => 254 | 70 => 249 | 37 => 79 | 75 => 253 | 127 => 286 | 164 => 321 | 5 => 5 | 80 => 256 | n => n, fun | n => n⟩
theorem Tryz.lays156 : Go.Proofs.Lays.n156 Tryz.prog Tryz.lays156_ren := {
  mixed := by kernel_rfl
  f156 := Tryz.func157.trans (congrArg some (by kernel_rfl))
  f165 := Tryz.func185.trans (congrArg some (by kernel_rfl))
  f166 := Tryz.func186.trans (congrArg some (by kernel_rfl))
  f169 := Tryz.func187.trans (congrArg some (by kernel_rfl))
  f240 := Tryz.func228.trans (congrArg some (by kernel_rfl))
  f241 := Tryz.func229.trans (congrArg some (by kernel_rfl))
  f276 := Tryz.func271.trans (congrArg some (by kernel_rfl))
  f277 := Tryz.func272.trans (congrArg some (by kernel_rfl))
  t0 := Tryz.underlying0
  a0 := Tryz.isAgg0
  z0 := Tryz.sizeOf0
  v0 := Tryz.zeroValue0
  t3 := Tryz.underlying3
  a3 := Tryz.isAgg3
  z3 := Tryz.sizeOf3
  v3 := Tryz.zeroValue3
  t4 := Tryz.underlying4
  a4 := Tryz.isAgg4
  z4 := Tryz.sizeOf4
  v4 := Tryz.zeroValue4
  t9 := Tryz.underlying9
  a9 := Tryz.isAgg9
  z9 := Tryz.sizeOf9
  v9 := Tryz.zeroValue9
  t20 := Tryz.underlying20
  a20 := Tryz.isAgg20
  z20 := Tryz.sizeOf20
  v20 := Tryz.zeroValue20
  t31 := Tryz.underlying48
  a31 := Tryz.isAgg48
  z31 := Tryz.sizeOf48
  v31 := Tryz.zeroValue48
  t37 := Tryz.underlying79
  a37 := Tryz.isAgg79
  z37 := Tryz.sizeOf79
  v37 := Tryz.zeroValue79
  t70 := Tryz.underlying249
  a70 := Tryz.isAgg249
  z70 := Tryz.sizeOf249
  v70 := Tryz.zeroValue249
  t72 := Tryz.underlying251
  a72 := Tryz.isAgg251
  z72 := Tryz.sizeOf251
  v72 := Tryz.zeroValue251
  t75 := Tryz.underlying253
  a75 := Tryz.isAgg253
  z75 := Tryz.sizeOf253
  v75 := Tryz.zeroValue253
  t76 := Tryz.underlying254
  a76 := Tryz.isAgg254
  z76 := Tryz.sizeOf254
  v76 := Tryz.zeroValue254
  t127 := Tryz.underlying286
  a127 := Tryz.isAgg286
  z127 := Tryz.sizeOf286
  v127 := Tryz.zeroValue286
  t164 := Tryz.underlying321
  a164 := Tryz.isAgg321
  z164 := Tryz.sizeOf321
  v164 := Tryz.zeroValue321 }
theorem Tryz.Builder_Extra_156 : Builder.Extra Tryz.prog Tryz.lays156_ren := {
  sizeBuilder := by kernel_rfl
  liesBuilder := by kernel_rfl
  t5 := Tryz.underlying5
  a5 := Tryz.isAgg5
  z5 := Tryz.sizeOf5
  v5 := Tryz.zeroValue5
  infoByte := by kernel_rfl
  cellsByte := by kernel_rfl
  sizeByte := by kernel_rfl
  neB5 := by decide }
open Go.RowKit in
/-- No element: the empty string; the world is as it was. (Whatever the slice's address and capacity: a nil slice too.) (LAID: no walk: one application.) -/
theorem Tryz.strings_Join_none (a : Option Addr) (c : Nat) (sep : ByteArray) (w : World) :
    Calls Tryz.prog 157 #[.slice a 0 c, .string sep] w fun e w' => e = .returned (.string ⟨#[]⟩) ∧ w' = w := Any.strings_Join_none Tryz.lays156 Tryz.Builder_Extra_156 a c sep w
open Go.RowKit in
/-- strings.Join: "Join concatenates the elements of its first argument to create a single string. The separator string sep is placed between elements in the resulting string.": HOWEVER MANY ELEMENTS. Below the heap's end the world is as it was. (LAID: no walk: one application.) -/
theorem Tryz.strings_Join (bk o c : Nat) (xs : List ByteArray) (sep : ByteArray) (w : World) (hcells : ∀ (j : Nat) x, xs[j]? = some x → w.cell? ⟨bk, o + j, none⟩ = some (.string x)) (hbk : bk < w.heap.size) (hN : xs.length ≤ 140737488355328) (hcap : xs.length ≤ c) (hlen : (Lib.join (xs.map (·.data.toList)) sep.data.toList).length ≤ 140737488355328) :
    Calls Tryz.prog 157 #[.slice (some ⟨bk, o, none⟩) xs.length c, .string sep] w fun e w' => e = .returned (.string ⟨(Lib.join (xs.map (·.data.toList)) sep.data.toList).toArray⟩) ∧ Below w.heap.size w w' := Any.strings_Join Tryz.lays156 Tryz.Builder_Extra_156 bk o c xs sep w hcells hbk hN hcap hlen
def Tryz.laysM171_ren : Go.Shelf.Ren := ⟨fun | 171 => 156 | 243 => 184 | 246 => 227 | 283 => 267 | 284 => 268 | 285 => 269 | 286 => 270 | 129 => 212 | 317 => 295 | 318 => 296 | 319 => 297 | 320 => 298 | 337 => 316 | 338 => 317 | n => n, fun | 3 => 3 | 9 => 9 | 2 => 2 | 4 => 4 | 171 => 317 | 0 => 0 | 53 => 248 | 37 => 79 | 5 => 5 | 173 => 319 | 212 => 358 | 51 => 273 | 20 => 20 | 213 => 359 | 46 => 232 | 232 => 360 | 233 => 402 | n => n, fun | 17 => 1 | 18 => 5 | 19 => 6 | n => n⟩
theorem Tryz.laysM171 : Go.Proofs.LaysM.n171 Tryz.prog Tryz.laysM171_ren := {
  mixed := by kernel_rfl
  f129 := Tryz.func212.trans (congrArg some (by kernel_rfl))
  f171 := Tryz.func156.trans (congrArg some (by kernel_rfl))
  f243 := Tryz.func184.trans (congrArg some (by kernel_rfl))
  f246 := Tryz.func227.trans (congrArg some (by kernel_rfl))
  f283 := Tryz.func267.trans (congrArg some (by kernel_rfl))
  f284 := Tryz.func268.trans (congrArg some (by kernel_rfl))
  f285 := Tryz.func269.trans (congrArg some (by kernel_rfl))
  f286 := Tryz.func270.trans (congrArg some (by kernel_rfl))
  f317 := Tryz.func295.trans (congrArg some (by kernel_rfl))
  f318 := Tryz.func296.trans (congrArg some (by kernel_rfl))
  f319 := Tryz.func297.trans (congrArg some (by kernel_rfl))
  f320 := Tryz.func298.trans (congrArg some (by kernel_rfl))
  f337 := Tryz.func316.trans (congrArg some (by kernel_rfl))
  f338 := Tryz.func317.trans (congrArg some (by kernel_rfl))
  t0 := Tryz.underlying0
  a0 := Tryz.isAgg0
  z0 := Tryz.sizeOf0
  v0 := Tryz.zeroValue0
  t2 := Tryz.underlying2
  a2 := Tryz.isAgg2
  z2 := Tryz.sizeOf2
  v2 := Tryz.zeroValue2
  t3 := Tryz.underlying3
  a3 := Tryz.isAgg3
  z3 := Tryz.sizeOf3
  v3 := Tryz.zeroValue3
  t4 := Tryz.underlying4
  a4 := Tryz.isAgg4
  z4 := Tryz.sizeOf4
  v4 := Tryz.zeroValue4
  t5 := Tryz.underlying5
  a5 := Tryz.isAgg5
  z5 := Tryz.sizeOf5
  v5 := Tryz.zeroValue5
  t9 := Tryz.underlying9
  a9 := Tryz.isAgg9
  z9 := Tryz.sizeOf9
  v9 := Tryz.zeroValue9
  t20 := Tryz.underlying20
  a20 := Tryz.isAgg20
  z20 := Tryz.sizeOf20
  v20 := Tryz.zeroValue20
  t37 := Tryz.underlying79
  a37 := Tryz.isAgg79
  z37 := Tryz.sizeOf79
  v37 := Tryz.zeroValue79
  t46 := Tryz.underlying232
  a46 := Tryz.isAgg232
  z46 := Tryz.sizeOf232
  v46 := Tryz.zeroValue232
  t51 := Tryz.underlying273
  a51 := Tryz.isAgg273
  z51 := Tryz.sizeOf273
  v51 := Tryz.zeroValue273
  t53 := Tryz.underlying248
  a53 := Tryz.isAgg248
  z53 := Tryz.sizeOf248
  v53 := Tryz.zeroValue248
  t171 := Tryz.underlying317
  a171 := Tryz.isAgg317
  z171 := Tryz.sizeOf317
  v171 := Tryz.zeroValue317
  t173 := Tryz.underlying319
  a173 := Tryz.isAgg319
  z173 := Tryz.sizeOf319
  v173 := Tryz.zeroValue319
  t212 := Tryz.underlying358
  a212 := Tryz.isAgg358
  z212 := Tryz.sizeOf358
  v212 := Tryz.zeroValue358
  t213 := Tryz.underlying359
  a213 := Tryz.isAgg359
  z213 := Tryz.sizeOf359
  t232 := Tryz.underlying360
  a232 := Tryz.isAgg360
  z232 := Tryz.sizeOf360
  v232 := Tryz.zeroValue360
  t233 := Tryz.underlying402
  a233 := Tryz.isAgg402
  z233 := Tryz.sizeOf402
  v233 := Tryz.zeroValue402
  g17 := by kernel_rfl
  g18 := by kernel_rfl
  g19 := by kernel_rfl
  i0 := by kernel_rfl
  i2 := by kernel_rfl
  i3 := by kernel_rfl
  i4 := by kernel_rfl
  i5 := by kernel_rfl
  i9 := by kernel_rfl
  i20 := by kernel_rfl
  i37 := by kernel_rfl
  i46 := by kernel_rfl
  i51 := by kernel_rfl
  i53 := by kernel_rfl
  i171 := by kernel_rfl
  i173 := by kernel_rfl
  i212 := by kernel_rfl
  i232 := by kernel_rfl
  i233 := by kernel_rfl
  m17 := by kernel_rfl
  m18 := by kernel_rfl
  m19 := by kernel_rfl }
open Go.RowKit Go.Sort Go.Lib in
/-- strconv.Itoa: "Itoa is equivalent to FormatInt(int64(i), 10).": i's DECIMAL NUMERAL ('Lib.itoa': a '-' where i is negative, then the digits), FOR EVERY int. The world behind the call: the world before it, new blocks behind the heap (the library's 'var a [24]byte'), draws. (LAID: no walk: one application.) -/
theorem Tryz.strconv_Itoa (n : Int) (h0 : -9223372036854775808 ≤ n) (h1 : n ≤ 9223372036854775807) (w : World) (htab : Lib.TabIs Tryz.prog w "internal/strconv.uint64pow10" .u64 Lib.pow10Tab) :
    Calls Tryz.prog 156 #[.int .i64 n] w fun e w' => e = .returned (.string ⟨(Lib.itoa n).toArray⟩) ∧ ∃ k os, w' = grow (w.drewN k) os := Any.strconv_Itoa Tryz.laysM171 n h0 h1 w htab
def Tryz.lays145_ren : Go.Shelf.Ren := ⟨fun | 145 => 220 | 220 => 260 | 219 => 288 | 217 => 309 | 225 => 310 | 224 => 311 | 267 => 312 | 266 => 334 | 314 => 335 | n => n, fun | 9 => 9 | 4 => 4 | 59 => 278 | 3 => 3 | 5 => 5 | 46 => 232 | 146 => 396 | 51 => 273 | n => n, fun | 1 => 2 | n => n⟩
theorem Tryz.lays145 : Go.Proofs.Lays.n145 Tryz.prog Tryz.lays145_ren := {
  mixed := by kernel_rfl
  f145 := Tryz.func220.trans (congrArg some (by kernel_rfl))
  f217 := Tryz.func309.trans (congrArg some (by kernel_rfl))
  f219 := Tryz.func288.trans (congrArg some (by kernel_rfl))
  f220 := Tryz.func260.trans (congrArg some (by kernel_rfl))
  f224 := Tryz.func311.trans (congrArg some (by kernel_rfl))
  f225 := Tryz.func310.trans (congrArg some (by kernel_rfl))
  f266 := Tryz.func334.trans (congrArg some (by kernel_rfl))
  f267 := Tryz.func312.trans (congrArg some (by kernel_rfl))
  f314 := Tryz.func335.trans (congrArg some (by kernel_rfl))
  t3 := Tryz.underlying3
  a3 := Tryz.isAgg3
  z3 := Tryz.sizeOf3
  v3 := Tryz.zeroValue3
  t4 := Tryz.underlying4
  a4 := Tryz.isAgg4
  z4 := Tryz.sizeOf4
  v4 := Tryz.zeroValue4
  t5 := Tryz.underlying5
  a5 := Tryz.isAgg5
  z5 := Tryz.sizeOf5
  v5 := Tryz.zeroValue5
  t9 := Tryz.underlying9
  a9 := Tryz.isAgg9
  z9 := Tryz.sizeOf9
  v9 := Tryz.zeroValue9
  t46 := Tryz.underlying232
  a46 := Tryz.isAgg232
  z46 := Tryz.sizeOf232
  v46 := Tryz.zeroValue232
  t51 := Tryz.underlying273
  a51 := Tryz.isAgg273
  z51 := Tryz.sizeOf273
  v51 := Tryz.zeroValue273
  t59 := Tryz.underlying278
  a59 := Tryz.isAgg278
  z59 := Tryz.sizeOf278
  v59 := Tryz.zeroValue278
  t146 := Tryz.underlying396
  a146 := Tryz.isAgg396
  z146 := Tryz.sizeOf396
  v146 := Tryz.zeroValue396
  g1 := by kernel_rfl }
open Go.RowKit Go.Lib in
/-- strings.Cut: "Cut slices s around the first instance of sep, returning the text before and after sep. The found result reports whether sep appears in s. If sep does not appear in s, cut returns s, "", false.": IT RETURNS 'Lib.cut s sep'; the world is as it was but for the count of draws. (LAID: no walk: one application.) -/
theorem Tryz.strings_Cut (s sep : ByteArray) (m : Int) (w : World) (hs : s.size < 4294967281) (hm : w.cell? ⟨2, 0, none⟩ = some (.int .i64 m)) :
    Calls Tryz.prog 220 #[.string s, .string sep] w fun e w' => e = .returned (.tuple #[.string ⟨(Lib.cut s.data.toList sep.data.toList).1.toArray⟩, .string ⟨(Lib.cut s.data.toList sep.data.toList).2.1.toArray⟩, .bool (Lib.cut s.data.toList sep.data.toList).2.2]) ∧ ∃ n, w' = w.drewN n := Any.strings_Cut Tryz.lays145 s sep m w hs hm
end Go.Proofs
