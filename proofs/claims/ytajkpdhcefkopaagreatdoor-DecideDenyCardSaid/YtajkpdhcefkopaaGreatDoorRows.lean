/-
  NARROWER THAN 'FOR EVERY INPUT', by the rows' own cells (each row's printed sentence says how): PinsPlays: laid · PinsOrder: laid · PinsTime: laid · PinsCheck: laid · PinsApart: laid · DecideTells: laid · DecideSafe: laid · DecideDeny: laid · DecideDefault: laid · DecidePort: laid · DecideRule: laid.
  DERIVED. THE GIVEN ROWS OF THIS SEAT. 11 by the template 'for every input the law returns true; each argument reads behind the call as it read before'; 0 by the template 'total and deterministic' (their statements: YtajkpdhcefkopaaGreatDoorTotals.lean).
  GIVEN WITH THE SEED: the statements are not yours to turn. If you find one false, say at which input.
  Laid BY PROGRAM, IN A SANDBOX (cutbox-rows.mjs): the forced cells as the released guide's own fill.sh prints them over the translation c1e6f72e63558ae2… (all of the seat's roots in one cut). By AI agents, Wed Nov 11 2026. No macro, syntax, notation, axiom, sorry.
-/
import Derived.Test.YtajkpdhcefkopaaGreatDoorChecked
import GoSem.PinnedTables
import GoSem.Claim
import GoSem.ClaimJoined
import GoSem.ClaimMapViews
import Derived.JoinedTies
import Derived.KernelRfl
namespace Go.Proofs.YtajkpdhcefkopaaGreatDoor
/- THE CELL 'sum', in the pinned program and in every row, IS THE sha256 OF THE DUMP (.gsa) THAT YtajkpdhcefkopaaGreatDoorProg.lean LOADS. Nothing in Lean hashes anything: it is a label: what it is worth is what the hold of that sum in a sandbox is worth. -/
noncomputable def Tryz.pinned : Pinned := { name := "ytajkpdhcefkopaagreatdoor", sum := "c1e6f72e63558ae2f804f39eb4c1ee4e7b59ac31df1eb4be4db24c450735c828", checked := Tryz.checked }
namespace Rows
def none {H : Type} : Left H := { results := [], args := [] }

/- WHAT THE LISTED PACKAGE-LEVEL VARIABLES READ AS WHEN THE CALL BEGINS. Each datum BY PROGRAM (the guide's laid-datum.mjs) off the statement by which the dump's own 'gosem.cut.vars' lays the variable. In a bare row this is a premise. The card (YtajkpdhcefkopaaGreatDoorCards.lean) ties it to the program's text. -/
def laid_math_bits_deBruijn32tab {H : Type} : DataW H := .agg [.lit (.int .u8 0), .lit (.int .u8 1), .lit (.int .u8 28), .lit (.int .u8 2), .lit (.int .u8 29), .lit (.int .u8 14), .lit (.int .u8 24), .lit (.int .u8 3), .lit (.int .u8 30), .lit (.int .u8 22), .lit (.int .u8 20), .lit (.int .u8 15), .lit (.int .u8 25), .lit (.int .u8 17), .lit (.int .u8 4), .lit (.int .u8 8), .lit (.int .u8 31), .lit (.int .u8 27), .lit (.int .u8 13), .lit (.int .u8 23), .lit (.int .u8 21), .lit (.int .u8 19), .lit (.int .u8 16), .lit (.int .u8 7), .lit (.int .u8 26), .lit (.int .u8 12), .lit (.int .u8 18), .lit (.int .u8 6), .lit (.int .u8 11), .lit (.int .u8 5), .lit (.int .u8 10), .lit (.int .u8 9)]
def laid_math_bits_deBruijn64tab {H : Type} : DataW H := .agg [.lit (.int .u8 0), .lit (.int .u8 1), .lit (.int .u8 56), .lit (.int .u8 2), .lit (.int .u8 57), .lit (.int .u8 49), .lit (.int .u8 28), .lit (.int .u8 3), .lit (.int .u8 61), .lit (.int .u8 58), .lit (.int .u8 42), .lit (.int .u8 50), .lit (.int .u8 38), .lit (.int .u8 29), .lit (.int .u8 17), .lit (.int .u8 4), .lit (.int .u8 62), .lit (.int .u8 47), .lit (.int .u8 59), .lit (.int .u8 36), .lit (.int .u8 45), .lit (.int .u8 43), .lit (.int .u8 51), .lit (.int .u8 22), .lit (.int .u8 53), .lit (.int .u8 39), .lit (.int .u8 33), .lit (.int .u8 30), .lit (.int .u8 24), .lit (.int .u8 18), .lit (.int .u8 12), .lit (.int .u8 5), .lit (.int .u8 63), .lit (.int .u8 55), .lit (.int .u8 48), .lit (.int .u8 27), .lit (.int .u8 60), .lit (.int .u8 41), .lit (.int .u8 37), .lit (.int .u8 16), .lit (.int .u8 46), .lit (.int .u8 35), .lit (.int .u8 44), .lit (.int .u8 21), .lit (.int .u8 52), .lit (.int .u8 32), .lit (.int .u8 23), .lit (.int .u8 11), .lit (.int .u8 54), .lit (.int .u8 26), .lit (.int .u8 40), .lit (.int .u8 15), .lit (.int .u8 34), .lit (.int .u8 20), .lit (.int .u8 31), .lit (.int .u8 10), .lit (.int .u8 25), .lit (.int .u8 14), .lit (.int .u8 19), .lit (.int .u8 9), .lit (.int .u8 13), .lit (.int .u8 8), .lit (.int .u8 7), .lit (.int .u8 6)]
def laid_internal_strconv_uint64pow10 {H : Type} : DataW H := .agg [.lit (.int .u64 1), .lit (.int .u64 10), .lit (.int .u64 100), .lit (.int .u64 1000), .lit (.int .u64 10000), .lit (.int .u64 100000), .lit (.int .u64 1000000), .lit (.int .u64 10000000), .lit (.int .u64 100000000), .lit (.int .u64 1000000000), .lit (.int .u64 10000000000), .lit (.int .u64 100000000000), .lit (.int .u64 1000000000000), .lit (.int .u64 10000000000000), .lit (.int .u64 100000000000000), .lit (.int .u64 1000000000000000), .lit (.int .u64 10000000000000000), .lit (.int .u64 100000000000000000), .lit (.int .u64 1000000000000000000), .lit (.int .u64 10000000000000000000)]
def laid_unicode_utf8_acceptRanges {H : Type} : DataW H := .agg [.agg [.lit (.int .u8 128), .lit (.int .u8 191)], .agg [.lit (.int .u8 160), .lit (.int .u8 191)], .agg [.lit (.int .u8 128), .lit (.int .u8 159)], .agg [.lit (.int .u8 144), .lit (.int .u8 191)], .agg [.lit (.int .u8 128), .lit (.int .u8 143)], .agg [.lit (.int .u8 0), .lit (.int .u8 0)], .agg [.lit (.int .u8 0), .lit (.int .u8 0)], .agg [.lit (.int .u8 0), .lit (.int .u8 0)], .agg [.lit (.int .u8 0), .lit (.int .u8 0)], .agg [.lit (.int .u8 0), .lit (.int .u8 0)], .agg [.lit (.int .u8 0), .lit (.int .u8 0)], .agg [.lit (.int .u8 0), .lit (.int .u8 0)], .agg [.lit (.int .u8 0), .lit (.int .u8 0)], .agg [.lit (.int .u8 0), .lit (.int .u8 0)], .agg [.lit (.int .u8 0), .lit (.int .u8 0)], .agg [.lit (.int .u8 0), .lit (.int .u8 0)]]
def laid_strconv_ErrRange {H : Type} : DataW H := .iface "*errors.errorString" (.ptr (.agg [.lit (.string [118, 97, 108, 117, 101, 32, 111, 117, 116, 32, 111, 102, 32, 114, 97, 110, 103, 101])]))
def laid_strconv_ErrSyntax {H : Type} : DataW H := .iface "*errors.errorString" (.ptr (.agg [.lit (.string [105, 110, 118, 97, 108, 105, 100, 32, 115, 121, 110, 116, 97, 120])]))
def laid_hagioscope_addr_ahead {H : Type} : DataW H := .agg [.lit (.int .u8 0), .lit (.int .u8 0), .lit (.int .u8 0), .lit (.int .u8 0), .lit (.int .u8 0), .lit (.int .u8 0), .lit (.int .u8 0), .lit (.int .u8 0), .lit (.int .u8 0), .lit (.int .u8 0), .lit (.int .u8 255), .lit (.int .u8 255)]
/-- One of Go's own tables, pinned by name: the form's constant. -/
def laid_unicode_utf8_first : DataW Unit := Go.Pinned.utf8First

/-- 'hagioscopelaw20.PinsPlays': WHATEVER THE INPUT: true; the input reads as it did. -/
def pinsPlaysSpec : ChangeSpec := { name := "pinsPlays", fn := fun _ => fun
  | [d1, d2, d3, d4] => { results := [.lit (.bool true)], args := [d1, d2, d3, d4] }
  | _ => none }
def pinsPlaysRow : OpenClaim := { program := "ytajkpdhcefkopaagreatdoor", sum := "c1e6f72e63558ae2f804f39eb4c1ee4e7b59ac31df1eb4be4db24c450735c828", func := "hagioscope/hagioscopelaw20.PinsPlays", spec := "pinsPlays", inPlace := ["internal/bytealg.CountString", "internal/bytealg.IndexByteString", "internal/bytealg.IndexString", "internal/abi.NoEscape", "internal/bytealg.MakeNoZero"], unfollowed := true, recurses := true, named := ["hagioscope/addr.ahead", "unicode/utf8.first", "unicode/utf8.acceptRanges", "internal/bytealg.MaxLen", "strconv.ErrSyntax", "strconv.ErrRange", "internal/strconv.uint64pow10", "math/bits.deBruijn32tab", "math/bits.deBruijn64tab"], plainKeys := false, apart := false, laid := [("math/bits.deBruijn32tab", laid_math_bits_deBruijn32tab), ("math/bits.deBruijn64tab", laid_math_bits_deBruijn64tab), ("internal/strconv.uint64pow10", laid_internal_strconv_uint64pow10), ("unicode/utf8.acceptRanges", laid_unicode_utf8_acceptRanges), ("strconv.ErrRange", laid_strconv_ErrRange), ("strconv.ErrSyntax", laid_strconv_ErrSyntax), ("hagioscope/addr.ahead", laid_hagioscope_addr_ahead), ("unicode/utf8.first", laid_unicode_utf8_first)] }
def PinsPlaysSaid : Prop := pinsPlaysRow.holds Tryz.pinned (OpenSpec.ofChange pinsPlaysSpec)

/-- ITS FALSE NEIGHBOUR: 'it returns false'. Refute it at one input. -/
def pinsPlaysWrong : ChangeSpec := { name := "pinsPlays", fn := fun _ => fun
  | [d1, d2, d3, d4] => { results := [.lit (.bool false)], args := [d1, d2, d3, d4] }
  | _ => none }
def PinsPlaysWrongFalsely : Prop := pinsPlaysRow.holds Tryz.pinned (OpenSpec.ofChange pinsPlaysWrong)

/-- 'hagioscopelaw20.PinsOrder': WHATEVER THE INPUT: true; the input reads as it did. -/
def pinsOrderSpec : ChangeSpec := { name := "pinsOrder", fn := fun _ => fun
  | [d1, d2, d3, d4] => { results := [.lit (.bool true)], args := [d1, d2, d3, d4] }
  | _ => none }
def pinsOrderRow : OpenClaim := { program := "ytajkpdhcefkopaagreatdoor", sum := "c1e6f72e63558ae2f804f39eb4c1ee4e7b59ac31df1eb4be4db24c450735c828", func := "hagioscope/hagioscopelaw20.PinsOrder", spec := "pinsOrder", inPlace := ["internal/bytealg.CountString", "internal/bytealg.IndexByteString", "internal/bytealg.IndexString", "internal/abi.NoEscape", "internal/bytealg.MakeNoZero"], unfollowed := true, recurses := true, named := ["hagioscope/addr.ahead", "unicode/utf8.first", "unicode/utf8.acceptRanges", "internal/bytealg.MaxLen", "strconv.ErrSyntax", "strconv.ErrRange", "internal/strconv.uint64pow10", "math/bits.deBruijn32tab", "math/bits.deBruijn64tab"], plainKeys := false, apart := false, laid := [("math/bits.deBruijn32tab", laid_math_bits_deBruijn32tab), ("math/bits.deBruijn64tab", laid_math_bits_deBruijn64tab), ("internal/strconv.uint64pow10", laid_internal_strconv_uint64pow10), ("unicode/utf8.acceptRanges", laid_unicode_utf8_acceptRanges), ("strconv.ErrRange", laid_strconv_ErrRange), ("strconv.ErrSyntax", laid_strconv_ErrSyntax), ("hagioscope/addr.ahead", laid_hagioscope_addr_ahead), ("unicode/utf8.first", laid_unicode_utf8_first)] }
def PinsOrderSaid : Prop := pinsOrderRow.holds Tryz.pinned (OpenSpec.ofChange pinsOrderSpec)

/-- ITS FALSE NEIGHBOUR: 'it returns false'. Refute it at one input. -/
def pinsOrderWrong : ChangeSpec := { name := "pinsOrder", fn := fun _ => fun
  | [d1, d2, d3, d4] => { results := [.lit (.bool false)], args := [d1, d2, d3, d4] }
  | _ => none }
def PinsOrderWrongFalsely : Prop := pinsOrderRow.holds Tryz.pinned (OpenSpec.ofChange pinsOrderWrong)

/-- 'hagioscopelaw20.PinsTime': WHATEVER THE INPUT: true; the input reads as it did. -/
def pinsTimeSpec : ChangeSpec := { name := "pinsTime", fn := fun _ => fun
  | [d1, d2, d3, d4] => { results := [.lit (.bool true)], args := [d1, d2, d3, d4] }
  | _ => none }
def pinsTimeRow : OpenClaim := { program := "ytajkpdhcefkopaagreatdoor", sum := "c1e6f72e63558ae2f804f39eb4c1ee4e7b59ac31df1eb4be4db24c450735c828", func := "hagioscope/hagioscopelaw20.PinsTime", spec := "pinsTime", inPlace := ["internal/bytealg.CountString", "internal/bytealg.IndexByteString", "internal/bytealg.IndexString", "internal/abi.NoEscape", "internal/bytealg.MakeNoZero"], unfollowed := true, recurses := true, named := ["hagioscope/addr.ahead", "unicode/utf8.first", "unicode/utf8.acceptRanges", "internal/bytealg.MaxLen", "strconv.ErrSyntax", "strconv.ErrRange", "internal/strconv.uint64pow10", "math/bits.deBruijn32tab", "math/bits.deBruijn64tab"], plainKeys := false, apart := false, laid := [("math/bits.deBruijn32tab", laid_math_bits_deBruijn32tab), ("math/bits.deBruijn64tab", laid_math_bits_deBruijn64tab), ("internal/strconv.uint64pow10", laid_internal_strconv_uint64pow10), ("unicode/utf8.acceptRanges", laid_unicode_utf8_acceptRanges), ("strconv.ErrRange", laid_strconv_ErrRange), ("strconv.ErrSyntax", laid_strconv_ErrSyntax), ("hagioscope/addr.ahead", laid_hagioscope_addr_ahead), ("unicode/utf8.first", laid_unicode_utf8_first)] }
def PinsTimeSaid : Prop := pinsTimeRow.holds Tryz.pinned (OpenSpec.ofChange pinsTimeSpec)

/-- ITS FALSE NEIGHBOUR: 'it returns false'. Refute it at one input. -/
def pinsTimeWrong : ChangeSpec := { name := "pinsTime", fn := fun _ => fun
  | [d1, d2, d3, d4] => { results := [.lit (.bool false)], args := [d1, d2, d3, d4] }
  | _ => none }
def PinsTimeWrongFalsely : Prop := pinsTimeRow.holds Tryz.pinned (OpenSpec.ofChange pinsTimeWrong)

/-- 'hagioscopelaw20.PinsCheck': WHATEVER THE INPUT: true; the input reads as it did. -/
def pinsCheckSpec : ChangeSpec := { name := "pinsCheck", fn := fun _ => fun
  | [d1, d2, d3, d4] => { results := [.lit (.bool true)], args := [d1, d2, d3, d4] }
  | _ => none }
def pinsCheckRow : OpenClaim := { program := "ytajkpdhcefkopaagreatdoor", sum := "c1e6f72e63558ae2f804f39eb4c1ee4e7b59ac31df1eb4be4db24c450735c828", func := "hagioscope/hagioscopelaw20.PinsCheck", spec := "pinsCheck", inPlace := ["internal/bytealg.CountString", "internal/bytealg.IndexByteString", "internal/bytealg.IndexString", "internal/abi.NoEscape", "internal/bytealg.MakeNoZero"], unfollowed := true, recurses := true, named := ["hagioscope/addr.ahead", "unicode/utf8.first", "unicode/utf8.acceptRanges", "internal/bytealg.MaxLen", "strconv.ErrSyntax", "strconv.ErrRange", "internal/strconv.uint64pow10", "math/bits.deBruijn32tab", "math/bits.deBruijn64tab"], plainKeys := false, apart := false, laid := [("math/bits.deBruijn32tab", laid_math_bits_deBruijn32tab), ("math/bits.deBruijn64tab", laid_math_bits_deBruijn64tab), ("internal/strconv.uint64pow10", laid_internal_strconv_uint64pow10), ("unicode/utf8.acceptRanges", laid_unicode_utf8_acceptRanges), ("strconv.ErrRange", laid_strconv_ErrRange), ("strconv.ErrSyntax", laid_strconv_ErrSyntax), ("hagioscope/addr.ahead", laid_hagioscope_addr_ahead), ("unicode/utf8.first", laid_unicode_utf8_first)] }
def PinsCheckSaid : Prop := pinsCheckRow.holds Tryz.pinned (OpenSpec.ofChange pinsCheckSpec)

/-- ITS FALSE NEIGHBOUR: 'it returns false'. Refute it at one input. -/
def pinsCheckWrong : ChangeSpec := { name := "pinsCheck", fn := fun _ => fun
  | [d1, d2, d3, d4] => { results := [.lit (.bool false)], args := [d1, d2, d3, d4] }
  | _ => none }
def PinsCheckWrongFalsely : Prop := pinsCheckRow.holds Tryz.pinned (OpenSpec.ofChange pinsCheckWrong)

/-- 'hagioscopelaw20.PinsApart': WHATEVER THE INPUT: true; the input reads as it did. -/
def pinsApartSpec : ChangeSpec := { name := "pinsApart", fn := fun _ => fun
  | [d1, d2, d3, d4, d5] => { results := [.lit (.bool true)], args := [d1, d2, d3, d4, d5] }
  | _ => none }
def pinsApartRow : OpenClaim := { program := "ytajkpdhcefkopaagreatdoor", sum := "c1e6f72e63558ae2f804f39eb4c1ee4e7b59ac31df1eb4be4db24c450735c828", func := "hagioscope/hagioscopelaw20.PinsApart", spec := "pinsApart", inPlace := ["internal/bytealg.CountString", "internal/bytealg.IndexByteString", "internal/bytealg.IndexString", "internal/abi.NoEscape", "internal/bytealg.MakeNoZero"], unfollowed := true, recurses := true, named := ["hagioscope/addr.ahead", "unicode/utf8.first", "unicode/utf8.acceptRanges", "internal/bytealg.MaxLen", "strconv.ErrSyntax", "strconv.ErrRange", "internal/strconv.uint64pow10", "math/bits.deBruijn32tab", "math/bits.deBruijn64tab"], plainKeys := false, apart := false, laid := [("math/bits.deBruijn32tab", laid_math_bits_deBruijn32tab), ("math/bits.deBruijn64tab", laid_math_bits_deBruijn64tab), ("internal/strconv.uint64pow10", laid_internal_strconv_uint64pow10), ("unicode/utf8.acceptRanges", laid_unicode_utf8_acceptRanges), ("strconv.ErrRange", laid_strconv_ErrRange), ("strconv.ErrSyntax", laid_strconv_ErrSyntax), ("hagioscope/addr.ahead", laid_hagioscope_addr_ahead), ("unicode/utf8.first", laid_unicode_utf8_first)] }
def PinsApartSaid : Prop := pinsApartRow.holds Tryz.pinned (OpenSpec.ofChange pinsApartSpec)

/-- ITS FALSE NEIGHBOUR: 'it returns false'. Refute it at one input. -/
def pinsApartWrong : ChangeSpec := { name := "pinsApart", fn := fun _ => fun
  | [d1, d2, d3, d4, d5] => { results := [.lit (.bool false)], args := [d1, d2, d3, d4, d5] }
  | _ => none }
def PinsApartWrongFalsely : Prop := pinsApartRow.holds Tryz.pinned (OpenSpec.ofChange pinsApartWrong)

/-- 'hagioscopelaw21.DecideTells': WHATEVER THE INPUT: true; the input reads as it did. -/
def decideTellsSpec : ChangeSpec := { name := "decideTells", fn := fun _ => fun
  | [d1, d2, d3, d4] => { results := [.lit (.bool true)], args := [d1, d2, d3, d4] }
  | _ => none }
def decideTellsRow : OpenClaim := { program := "ytajkpdhcefkopaagreatdoor", sum := "c1e6f72e63558ae2f804f39eb4c1ee4e7b59ac31df1eb4be4db24c450735c828", func := "hagioscope/hagioscopelaw21.DecideTells", spec := "decideTells", inPlace := ["internal/bytealg.CountString", "internal/bytealg.IndexByteString", "internal/bytealg.IndexString", "internal/abi.NoEscape", "internal/bytealg.MakeNoZero"], unfollowed := true, recurses := true, named := ["hagioscope/addr.ahead", "unicode/utf8.first", "unicode/utf8.acceptRanges", "internal/bytealg.MaxLen", "strconv.ErrSyntax", "strconv.ErrRange", "internal/strconv.uint64pow10", "math/bits.deBruijn32tab", "math/bits.deBruijn64tab"], plainKeys := false, apart := false, laid := [("math/bits.deBruijn32tab", laid_math_bits_deBruijn32tab), ("math/bits.deBruijn64tab", laid_math_bits_deBruijn64tab), ("internal/strconv.uint64pow10", laid_internal_strconv_uint64pow10), ("unicode/utf8.acceptRanges", laid_unicode_utf8_acceptRanges), ("strconv.ErrRange", laid_strconv_ErrRange), ("strconv.ErrSyntax", laid_strconv_ErrSyntax), ("hagioscope/addr.ahead", laid_hagioscope_addr_ahead), ("unicode/utf8.first", laid_unicode_utf8_first)] }
def DecideTellsSaid : Prop := decideTellsRow.holds Tryz.pinned (OpenSpec.ofChange decideTellsSpec)

/-- ITS FALSE NEIGHBOUR: 'it returns false'. Refute it at one input. -/
def decideTellsWrong : ChangeSpec := { name := "decideTells", fn := fun _ => fun
  | [d1, d2, d3, d4] => { results := [.lit (.bool false)], args := [d1, d2, d3, d4] }
  | _ => none }
def DecideTellsWrongFalsely : Prop := decideTellsRow.holds Tryz.pinned (OpenSpec.ofChange decideTellsWrong)

/-- 'hagioscopelaw21.DecideSafe': WHATEVER THE INPUT: true; the input reads as it did. -/
def decideSafeSpec : ChangeSpec := { name := "decideSafe", fn := fun _ => fun
  | [d1, d2, d3, d4] => { results := [.lit (.bool true)], args := [d1, d2, d3, d4] }
  | _ => none }
def decideSafeRow : OpenClaim := { program := "ytajkpdhcefkopaagreatdoor", sum := "c1e6f72e63558ae2f804f39eb4c1ee4e7b59ac31df1eb4be4db24c450735c828", func := "hagioscope/hagioscopelaw21.DecideSafe", spec := "decideSafe", inPlace := ["internal/bytealg.CountString", "internal/bytealg.IndexByteString", "internal/bytealg.IndexString", "internal/abi.NoEscape", "internal/bytealg.MakeNoZero"], unfollowed := true, recurses := true, named := ["hagioscope/addr.ahead", "unicode/utf8.first", "unicode/utf8.acceptRanges", "internal/bytealg.MaxLen", "strconv.ErrSyntax", "strconv.ErrRange", "internal/strconv.uint64pow10", "math/bits.deBruijn32tab", "math/bits.deBruijn64tab"], plainKeys := false, apart := false, laid := [("math/bits.deBruijn32tab", laid_math_bits_deBruijn32tab), ("math/bits.deBruijn64tab", laid_math_bits_deBruijn64tab), ("internal/strconv.uint64pow10", laid_internal_strconv_uint64pow10), ("unicode/utf8.acceptRanges", laid_unicode_utf8_acceptRanges), ("strconv.ErrRange", laid_strconv_ErrRange), ("strconv.ErrSyntax", laid_strconv_ErrSyntax), ("hagioscope/addr.ahead", laid_hagioscope_addr_ahead), ("unicode/utf8.first", laid_unicode_utf8_first)] }
def DecideSafeSaid : Prop := decideSafeRow.holds Tryz.pinned (OpenSpec.ofChange decideSafeSpec)

/-- ITS FALSE NEIGHBOUR: 'it returns false'. Refute it at one input. -/
def decideSafeWrong : ChangeSpec := { name := "decideSafe", fn := fun _ => fun
  | [d1, d2, d3, d4] => { results := [.lit (.bool false)], args := [d1, d2, d3, d4] }
  | _ => none }
def DecideSafeWrongFalsely : Prop := decideSafeRow.holds Tryz.pinned (OpenSpec.ofChange decideSafeWrong)

/-- 'hagioscopelaw21.DecideDeny': WHATEVER THE INPUT: true; the input reads as it did. -/
def decideDenySpec : ChangeSpec := { name := "decideDeny", fn := fun _ => fun
  | [d1, d2, d3, d4, d5] => { results := [.lit (.bool true)], args := [d1, d2, d3, d4, d5] }
  | _ => none }
def decideDenyRow : OpenClaim := { program := "ytajkpdhcefkopaagreatdoor", sum := "c1e6f72e63558ae2f804f39eb4c1ee4e7b59ac31df1eb4be4db24c450735c828", func := "hagioscope/hagioscopelaw21.DecideDeny", spec := "decideDeny", inPlace := ["internal/bytealg.CountString", "internal/bytealg.IndexByteString", "internal/bytealg.IndexString", "internal/abi.NoEscape", "internal/bytealg.MakeNoZero"], unfollowed := true, recurses := true, named := ["hagioscope/addr.ahead", "unicode/utf8.first", "unicode/utf8.acceptRanges", "internal/bytealg.MaxLen", "strconv.ErrSyntax", "strconv.ErrRange", "internal/strconv.uint64pow10", "math/bits.deBruijn32tab", "math/bits.deBruijn64tab"], plainKeys := false, apart := false, laid := [("math/bits.deBruijn32tab", laid_math_bits_deBruijn32tab), ("math/bits.deBruijn64tab", laid_math_bits_deBruijn64tab), ("internal/strconv.uint64pow10", laid_internal_strconv_uint64pow10), ("unicode/utf8.acceptRanges", laid_unicode_utf8_acceptRanges), ("strconv.ErrRange", laid_strconv_ErrRange), ("strconv.ErrSyntax", laid_strconv_ErrSyntax), ("hagioscope/addr.ahead", laid_hagioscope_addr_ahead), ("unicode/utf8.first", laid_unicode_utf8_first)] }
def DecideDenySaid : Prop := decideDenyRow.holds Tryz.pinned (OpenSpec.ofChange decideDenySpec)

/-- ITS FALSE NEIGHBOUR: 'it returns false'. Refute it at one input. -/
def decideDenyWrong : ChangeSpec := { name := "decideDeny", fn := fun _ => fun
  | [d1, d2, d3, d4, d5] => { results := [.lit (.bool false)], args := [d1, d2, d3, d4, d5] }
  | _ => none }
def DecideDenyWrongFalsely : Prop := decideDenyRow.holds Tryz.pinned (OpenSpec.ofChange decideDenyWrong)

/-- 'hagioscopelaw21.DecideDefault': WHATEVER THE INPUT: true; the input reads as it did. -/
def decideDefaultSpec : ChangeSpec := { name := "decideDefault", fn := fun _ => fun
  | [d1, d2, d3, d4] => { results := [.lit (.bool true)], args := [d1, d2, d3, d4] }
  | _ => none }
def decideDefaultRow : OpenClaim := { program := "ytajkpdhcefkopaagreatdoor", sum := "c1e6f72e63558ae2f804f39eb4c1ee4e7b59ac31df1eb4be4db24c450735c828", func := "hagioscope/hagioscopelaw21.DecideDefault", spec := "decideDefault", inPlace := ["internal/bytealg.CountString", "internal/bytealg.IndexByteString", "internal/bytealg.IndexString", "internal/abi.NoEscape", "internal/bytealg.MakeNoZero"], unfollowed := true, recurses := true, named := ["hagioscope/addr.ahead", "unicode/utf8.first", "unicode/utf8.acceptRanges", "internal/bytealg.MaxLen", "strconv.ErrSyntax", "strconv.ErrRange", "internal/strconv.uint64pow10", "math/bits.deBruijn32tab", "math/bits.deBruijn64tab"], plainKeys := false, apart := false, laid := [("math/bits.deBruijn32tab", laid_math_bits_deBruijn32tab), ("math/bits.deBruijn64tab", laid_math_bits_deBruijn64tab), ("internal/strconv.uint64pow10", laid_internal_strconv_uint64pow10), ("unicode/utf8.acceptRanges", laid_unicode_utf8_acceptRanges), ("strconv.ErrRange", laid_strconv_ErrRange), ("strconv.ErrSyntax", laid_strconv_ErrSyntax), ("hagioscope/addr.ahead", laid_hagioscope_addr_ahead), ("unicode/utf8.first", laid_unicode_utf8_first)] }
def DecideDefaultSaid : Prop := decideDefaultRow.holds Tryz.pinned (OpenSpec.ofChange decideDefaultSpec)

/-- ITS FALSE NEIGHBOUR: 'it returns false'. Refute it at one input. -/
def decideDefaultWrong : ChangeSpec := { name := "decideDefault", fn := fun _ => fun
  | [d1, d2, d3, d4] => { results := [.lit (.bool false)], args := [d1, d2, d3, d4] }
  | _ => none }
def DecideDefaultWrongFalsely : Prop := decideDefaultRow.holds Tryz.pinned (OpenSpec.ofChange decideDefaultWrong)

/-- 'hagioscopelaw21.DecidePort': WHATEVER THE INPUT: true; the input reads as it did. -/
def decidePortSpec : ChangeSpec := { name := "decidePort", fn := fun _ => fun
  | [d1, d2, d3, d4] => { results := [.lit (.bool true)], args := [d1, d2, d3, d4] }
  | _ => none }
def decidePortRow : OpenClaim := { program := "ytajkpdhcefkopaagreatdoor", sum := "c1e6f72e63558ae2f804f39eb4c1ee4e7b59ac31df1eb4be4db24c450735c828", func := "hagioscope/hagioscopelaw21.DecidePort", spec := "decidePort", inPlace := ["internal/bytealg.CountString", "internal/bytealg.IndexByteString", "internal/bytealg.IndexString", "internal/abi.NoEscape", "internal/bytealg.MakeNoZero"], unfollowed := true, recurses := true, named := ["hagioscope/addr.ahead", "unicode/utf8.first", "unicode/utf8.acceptRanges", "internal/bytealg.MaxLen", "strconv.ErrSyntax", "strconv.ErrRange", "internal/strconv.uint64pow10", "math/bits.deBruijn32tab", "math/bits.deBruijn64tab"], plainKeys := false, apart := false, laid := [("math/bits.deBruijn32tab", laid_math_bits_deBruijn32tab), ("math/bits.deBruijn64tab", laid_math_bits_deBruijn64tab), ("internal/strconv.uint64pow10", laid_internal_strconv_uint64pow10), ("unicode/utf8.acceptRanges", laid_unicode_utf8_acceptRanges), ("strconv.ErrRange", laid_strconv_ErrRange), ("strconv.ErrSyntax", laid_strconv_ErrSyntax), ("hagioscope/addr.ahead", laid_hagioscope_addr_ahead), ("unicode/utf8.first", laid_unicode_utf8_first)] }
def DecidePortSaid : Prop := decidePortRow.holds Tryz.pinned (OpenSpec.ofChange decidePortSpec)

/-- ITS FALSE NEIGHBOUR: 'it returns false'. Refute it at one input. -/
def decidePortWrong : ChangeSpec := { name := "decidePort", fn := fun _ => fun
  | [d1, d2, d3, d4] => { results := [.lit (.bool false)], args := [d1, d2, d3, d4] }
  | _ => none }
def DecidePortWrongFalsely : Prop := decidePortRow.holds Tryz.pinned (OpenSpec.ofChange decidePortWrong)

/-- 'hagioscopelaw21.DecideRule': WHATEVER THE INPUT: true; the input reads as it did. -/
def decideRuleSpec : ChangeSpec := { name := "decideRule", fn := fun _ => fun
  | [d1, d2, d3, d4] => { results := [.lit (.bool true)], args := [d1, d2, d3, d4] }
  | _ => none }
def decideRuleRow : OpenClaim := { program := "ytajkpdhcefkopaagreatdoor", sum := "c1e6f72e63558ae2f804f39eb4c1ee4e7b59ac31df1eb4be4db24c450735c828", func := "hagioscope/hagioscopelaw21.DecideRule", spec := "decideRule", inPlace := ["internal/bytealg.CountString", "internal/bytealg.IndexByteString", "internal/bytealg.IndexString", "internal/abi.NoEscape", "internal/bytealg.MakeNoZero"], unfollowed := true, recurses := true, named := ["hagioscope/addr.ahead", "unicode/utf8.first", "unicode/utf8.acceptRanges", "internal/bytealg.MaxLen", "strconv.ErrSyntax", "strconv.ErrRange", "internal/strconv.uint64pow10", "math/bits.deBruijn32tab", "math/bits.deBruijn64tab"], plainKeys := false, apart := false, laid := [("math/bits.deBruijn32tab", laid_math_bits_deBruijn32tab), ("math/bits.deBruijn64tab", laid_math_bits_deBruijn64tab), ("internal/strconv.uint64pow10", laid_internal_strconv_uint64pow10), ("unicode/utf8.acceptRanges", laid_unicode_utf8_acceptRanges), ("strconv.ErrRange", laid_strconv_ErrRange), ("strconv.ErrSyntax", laid_strconv_ErrSyntax), ("hagioscope/addr.ahead", laid_hagioscope_addr_ahead), ("unicode/utf8.first", laid_unicode_utf8_first)] }
def DecideRuleSaid : Prop := decideRuleRow.holds Tryz.pinned (OpenSpec.ofChange decideRuleSpec)

/-- ITS FALSE NEIGHBOUR: 'it returns false'. Refute it at one input. -/
def decideRuleWrong : ChangeSpec := { name := "decideRule", fn := fun _ => fun
  | [d1, d2, d3, d4] => { results := [.lit (.bool false)], args := [d1, d2, d3, d4] }
  | _ => none }
def DecideRuleWrongFalsely : Prop := decideRuleRow.holds Tryz.pinned (OpenSpec.ofChange decideRuleWrong)

/- THE SECOND FORM. 'bulk': how many values and letters a reading holds, each counted each time it is reached (what is shared counts as often as it is met; a slice's spare places count too). A statement '..UptoSaid' is the law's where the arguments, and the package variables that the reading takes, are together of bulk at most 1048576: NARROWER than '..Said'. Prove '..Said' where nothing that the law and all that it calls make is longer than what came in: it says more and counts as full. Else prove '..UptoSaid'. A law counts once. -/
mutual
def uptoBulk {H : Type} : DataW H → Nat
  | .lit (.string bytes) => bytes.length + 1
  | .lit _ => 1
  | .nil => 1
  | .ptr d => uptoBulk d + 1
  | .slice elems spare => uptoBulkAll elems + uptoBulkAll spare + 1
  | .agg parts => uptoBulkAll parts + 1
  | .iface _ d => uptoBulk d + 1
  | .map entries => uptoBulkEntries entries + 1
  | .held _ => 1
def uptoBulkAll {H : Type} : List (DataW H) → Nat
  | [] => 0
  | d :: r => uptoBulk d + uptoBulkAll r
def uptoBulkEntries {H : Type} : List (Lit × DataW H) → Nat
  | [] => 0
  | x :: r => uptoBulkEntry x + uptoBulkEntries r
def uptoBulkEntry {H : Type} : Lit × DataW H → Nat
  | (.string bytes, d) => bytes.length + uptoBulk d + 1
  | (_, d) => uptoBulk d + 1
 end
def uptoSmall : (H : Type) → List (DataW H) → Bool := fun _ ds => decide (uptoBulkAll ds ≤ 1048576)
def OpenSpec.upto (s : _root_.Go.ChangeSpec) : _root_.Go.OpenSpec := { _root_.Go.OpenSpec.ofChange s with cond := some uptoSmall }

/-- 'hagioscopelaw20.PinsPlays', WHERE WHAT IT READS IS OF BULK AT MOST 1048576: true; the input reads as it did. -/
def pinsPlaysUptoRow : OpenClaim := { program := "ytajkpdhcefkopaagreatdoor", sum := "c1e6f72e63558ae2f804f39eb4c1ee4e7b59ac31df1eb4be4db24c450735c828", func := "hagioscope/hagioscopelaw20.PinsPlays", spec := "pinsPlays", inPlace := ["internal/bytealg.CountString", "internal/bytealg.IndexByteString", "internal/bytealg.IndexString", "internal/abi.NoEscape", "internal/bytealg.MakeNoZero"], unfollowed := true, recurses := true, named := ["hagioscope/addr.ahead", "unicode/utf8.first", "unicode/utf8.acceptRanges", "internal/bytealg.MaxLen", "strconv.ErrSyntax", "strconv.ErrRange", "internal/strconv.uint64pow10", "math/bits.deBruijn32tab", "math/bits.deBruijn64tab"], plainKeys := false, apart := false, laid := [("math/bits.deBruijn32tab", laid_math_bits_deBruijn32tab), ("math/bits.deBruijn64tab", laid_math_bits_deBruijn64tab), ("internal/strconv.uint64pow10", laid_internal_strconv_uint64pow10), ("unicode/utf8.acceptRanges", laid_unicode_utf8_acceptRanges), ("strconv.ErrRange", laid_strconv_ErrRange), ("strconv.ErrSyntax", laid_strconv_ErrSyntax), ("hagioscope/addr.ahead", laid_hagioscope_addr_ahead), ("unicode/utf8.first", laid_unicode_utf8_first)], narrowed := true }
def PinsPlaysUptoSaid : Prop := pinsPlaysUptoRow.holds Tryz.pinned (OpenSpec.upto pinsPlaysSpec)

/-- 'hagioscopelaw20.PinsOrder', WHERE WHAT IT READS IS OF BULK AT MOST 1048576: true; the input reads as it did. -/
def pinsOrderUptoRow : OpenClaim := { program := "ytajkpdhcefkopaagreatdoor", sum := "c1e6f72e63558ae2f804f39eb4c1ee4e7b59ac31df1eb4be4db24c450735c828", func := "hagioscope/hagioscopelaw20.PinsOrder", spec := "pinsOrder", inPlace := ["internal/bytealg.CountString", "internal/bytealg.IndexByteString", "internal/bytealg.IndexString", "internal/abi.NoEscape", "internal/bytealg.MakeNoZero"], unfollowed := true, recurses := true, named := ["hagioscope/addr.ahead", "unicode/utf8.first", "unicode/utf8.acceptRanges", "internal/bytealg.MaxLen", "strconv.ErrSyntax", "strconv.ErrRange", "internal/strconv.uint64pow10", "math/bits.deBruijn32tab", "math/bits.deBruijn64tab"], plainKeys := false, apart := false, laid := [("math/bits.deBruijn32tab", laid_math_bits_deBruijn32tab), ("math/bits.deBruijn64tab", laid_math_bits_deBruijn64tab), ("internal/strconv.uint64pow10", laid_internal_strconv_uint64pow10), ("unicode/utf8.acceptRanges", laid_unicode_utf8_acceptRanges), ("strconv.ErrRange", laid_strconv_ErrRange), ("strconv.ErrSyntax", laid_strconv_ErrSyntax), ("hagioscope/addr.ahead", laid_hagioscope_addr_ahead), ("unicode/utf8.first", laid_unicode_utf8_first)], narrowed := true }
def PinsOrderUptoSaid : Prop := pinsOrderUptoRow.holds Tryz.pinned (OpenSpec.upto pinsOrderSpec)

/-- 'hagioscopelaw20.PinsTime', WHERE WHAT IT READS IS OF BULK AT MOST 1048576: true; the input reads as it did. -/
def pinsTimeUptoRow : OpenClaim := { program := "ytajkpdhcefkopaagreatdoor", sum := "c1e6f72e63558ae2f804f39eb4c1ee4e7b59ac31df1eb4be4db24c450735c828", func := "hagioscope/hagioscopelaw20.PinsTime", spec := "pinsTime", inPlace := ["internal/bytealg.CountString", "internal/bytealg.IndexByteString", "internal/bytealg.IndexString", "internal/abi.NoEscape", "internal/bytealg.MakeNoZero"], unfollowed := true, recurses := true, named := ["hagioscope/addr.ahead", "unicode/utf8.first", "unicode/utf8.acceptRanges", "internal/bytealg.MaxLen", "strconv.ErrSyntax", "strconv.ErrRange", "internal/strconv.uint64pow10", "math/bits.deBruijn32tab", "math/bits.deBruijn64tab"], plainKeys := false, apart := false, laid := [("math/bits.deBruijn32tab", laid_math_bits_deBruijn32tab), ("math/bits.deBruijn64tab", laid_math_bits_deBruijn64tab), ("internal/strconv.uint64pow10", laid_internal_strconv_uint64pow10), ("unicode/utf8.acceptRanges", laid_unicode_utf8_acceptRanges), ("strconv.ErrRange", laid_strconv_ErrRange), ("strconv.ErrSyntax", laid_strconv_ErrSyntax), ("hagioscope/addr.ahead", laid_hagioscope_addr_ahead), ("unicode/utf8.first", laid_unicode_utf8_first)], narrowed := true }
def PinsTimeUptoSaid : Prop := pinsTimeUptoRow.holds Tryz.pinned (OpenSpec.upto pinsTimeSpec)

/-- 'hagioscopelaw20.PinsCheck', WHERE WHAT IT READS IS OF BULK AT MOST 1048576: true; the input reads as it did. -/
def pinsCheckUptoRow : OpenClaim := { program := "ytajkpdhcefkopaagreatdoor", sum := "c1e6f72e63558ae2f804f39eb4c1ee4e7b59ac31df1eb4be4db24c450735c828", func := "hagioscope/hagioscopelaw20.PinsCheck", spec := "pinsCheck", inPlace := ["internal/bytealg.CountString", "internal/bytealg.IndexByteString", "internal/bytealg.IndexString", "internal/abi.NoEscape", "internal/bytealg.MakeNoZero"], unfollowed := true, recurses := true, named := ["hagioscope/addr.ahead", "unicode/utf8.first", "unicode/utf8.acceptRanges", "internal/bytealg.MaxLen", "strconv.ErrSyntax", "strconv.ErrRange", "internal/strconv.uint64pow10", "math/bits.deBruijn32tab", "math/bits.deBruijn64tab"], plainKeys := false, apart := false, laid := [("math/bits.deBruijn32tab", laid_math_bits_deBruijn32tab), ("math/bits.deBruijn64tab", laid_math_bits_deBruijn64tab), ("internal/strconv.uint64pow10", laid_internal_strconv_uint64pow10), ("unicode/utf8.acceptRanges", laid_unicode_utf8_acceptRanges), ("strconv.ErrRange", laid_strconv_ErrRange), ("strconv.ErrSyntax", laid_strconv_ErrSyntax), ("hagioscope/addr.ahead", laid_hagioscope_addr_ahead), ("unicode/utf8.first", laid_unicode_utf8_first)], narrowed := true }
def PinsCheckUptoSaid : Prop := pinsCheckUptoRow.holds Tryz.pinned (OpenSpec.upto pinsCheckSpec)

/-- 'hagioscopelaw20.PinsApart', WHERE WHAT IT READS IS OF BULK AT MOST 1048576: true; the input reads as it did. -/
def pinsApartUptoRow : OpenClaim := { program := "ytajkpdhcefkopaagreatdoor", sum := "c1e6f72e63558ae2f804f39eb4c1ee4e7b59ac31df1eb4be4db24c450735c828", func := "hagioscope/hagioscopelaw20.PinsApart", spec := "pinsApart", inPlace := ["internal/bytealg.CountString", "internal/bytealg.IndexByteString", "internal/bytealg.IndexString", "internal/abi.NoEscape", "internal/bytealg.MakeNoZero"], unfollowed := true, recurses := true, named := ["hagioscope/addr.ahead", "unicode/utf8.first", "unicode/utf8.acceptRanges", "internal/bytealg.MaxLen", "strconv.ErrSyntax", "strconv.ErrRange", "internal/strconv.uint64pow10", "math/bits.deBruijn32tab", "math/bits.deBruijn64tab"], plainKeys := false, apart := false, laid := [("math/bits.deBruijn32tab", laid_math_bits_deBruijn32tab), ("math/bits.deBruijn64tab", laid_math_bits_deBruijn64tab), ("internal/strconv.uint64pow10", laid_internal_strconv_uint64pow10), ("unicode/utf8.acceptRanges", laid_unicode_utf8_acceptRanges), ("strconv.ErrRange", laid_strconv_ErrRange), ("strconv.ErrSyntax", laid_strconv_ErrSyntax), ("hagioscope/addr.ahead", laid_hagioscope_addr_ahead), ("unicode/utf8.first", laid_unicode_utf8_first)], narrowed := true }
def PinsApartUptoSaid : Prop := pinsApartUptoRow.holds Tryz.pinned (OpenSpec.upto pinsApartSpec)

/-- 'hagioscopelaw21.DecideTells', WHERE WHAT IT READS IS OF BULK AT MOST 1048576: true; the input reads as it did. -/
def decideTellsUptoRow : OpenClaim := { program := "ytajkpdhcefkopaagreatdoor", sum := "c1e6f72e63558ae2f804f39eb4c1ee4e7b59ac31df1eb4be4db24c450735c828", func := "hagioscope/hagioscopelaw21.DecideTells", spec := "decideTells", inPlace := ["internal/bytealg.CountString", "internal/bytealg.IndexByteString", "internal/bytealg.IndexString", "internal/abi.NoEscape", "internal/bytealg.MakeNoZero"], unfollowed := true, recurses := true, named := ["hagioscope/addr.ahead", "unicode/utf8.first", "unicode/utf8.acceptRanges", "internal/bytealg.MaxLen", "strconv.ErrSyntax", "strconv.ErrRange", "internal/strconv.uint64pow10", "math/bits.deBruijn32tab", "math/bits.deBruijn64tab"], plainKeys := false, apart := false, laid := [("math/bits.deBruijn32tab", laid_math_bits_deBruijn32tab), ("math/bits.deBruijn64tab", laid_math_bits_deBruijn64tab), ("internal/strconv.uint64pow10", laid_internal_strconv_uint64pow10), ("unicode/utf8.acceptRanges", laid_unicode_utf8_acceptRanges), ("strconv.ErrRange", laid_strconv_ErrRange), ("strconv.ErrSyntax", laid_strconv_ErrSyntax), ("hagioscope/addr.ahead", laid_hagioscope_addr_ahead), ("unicode/utf8.first", laid_unicode_utf8_first)], narrowed := true }
def DecideTellsUptoSaid : Prop := decideTellsUptoRow.holds Tryz.pinned (OpenSpec.upto decideTellsSpec)

/-- 'hagioscopelaw21.DecideSafe', WHERE WHAT IT READS IS OF BULK AT MOST 1048576: true; the input reads as it did. -/
def decideSafeUptoRow : OpenClaim := { program := "ytajkpdhcefkopaagreatdoor", sum := "c1e6f72e63558ae2f804f39eb4c1ee4e7b59ac31df1eb4be4db24c450735c828", func := "hagioscope/hagioscopelaw21.DecideSafe", spec := "decideSafe", inPlace := ["internal/bytealg.CountString", "internal/bytealg.IndexByteString", "internal/bytealg.IndexString", "internal/abi.NoEscape", "internal/bytealg.MakeNoZero"], unfollowed := true, recurses := true, named := ["hagioscope/addr.ahead", "unicode/utf8.first", "unicode/utf8.acceptRanges", "internal/bytealg.MaxLen", "strconv.ErrSyntax", "strconv.ErrRange", "internal/strconv.uint64pow10", "math/bits.deBruijn32tab", "math/bits.deBruijn64tab"], plainKeys := false, apart := false, laid := [("math/bits.deBruijn32tab", laid_math_bits_deBruijn32tab), ("math/bits.deBruijn64tab", laid_math_bits_deBruijn64tab), ("internal/strconv.uint64pow10", laid_internal_strconv_uint64pow10), ("unicode/utf8.acceptRanges", laid_unicode_utf8_acceptRanges), ("strconv.ErrRange", laid_strconv_ErrRange), ("strconv.ErrSyntax", laid_strconv_ErrSyntax), ("hagioscope/addr.ahead", laid_hagioscope_addr_ahead), ("unicode/utf8.first", laid_unicode_utf8_first)], narrowed := true }
def DecideSafeUptoSaid : Prop := decideSafeUptoRow.holds Tryz.pinned (OpenSpec.upto decideSafeSpec)

/-- 'hagioscopelaw21.DecideDeny', WHERE WHAT IT READS IS OF BULK AT MOST 1048576: true; the input reads as it did. -/
def decideDenyUptoRow : OpenClaim := { program := "ytajkpdhcefkopaagreatdoor", sum := "c1e6f72e63558ae2f804f39eb4c1ee4e7b59ac31df1eb4be4db24c450735c828", func := "hagioscope/hagioscopelaw21.DecideDeny", spec := "decideDeny", inPlace := ["internal/bytealg.CountString", "internal/bytealg.IndexByteString", "internal/bytealg.IndexString", "internal/abi.NoEscape", "internal/bytealg.MakeNoZero"], unfollowed := true, recurses := true, named := ["hagioscope/addr.ahead", "unicode/utf8.first", "unicode/utf8.acceptRanges", "internal/bytealg.MaxLen", "strconv.ErrSyntax", "strconv.ErrRange", "internal/strconv.uint64pow10", "math/bits.deBruijn32tab", "math/bits.deBruijn64tab"], plainKeys := false, apart := false, laid := [("math/bits.deBruijn32tab", laid_math_bits_deBruijn32tab), ("math/bits.deBruijn64tab", laid_math_bits_deBruijn64tab), ("internal/strconv.uint64pow10", laid_internal_strconv_uint64pow10), ("unicode/utf8.acceptRanges", laid_unicode_utf8_acceptRanges), ("strconv.ErrRange", laid_strconv_ErrRange), ("strconv.ErrSyntax", laid_strconv_ErrSyntax), ("hagioscope/addr.ahead", laid_hagioscope_addr_ahead), ("unicode/utf8.first", laid_unicode_utf8_first)], narrowed := true }
def DecideDenyUptoSaid : Prop := decideDenyUptoRow.holds Tryz.pinned (OpenSpec.upto decideDenySpec)

/-- 'hagioscopelaw21.DecideDefault', WHERE WHAT IT READS IS OF BULK AT MOST 1048576: true; the input reads as it did. -/
def decideDefaultUptoRow : OpenClaim := { program := "ytajkpdhcefkopaagreatdoor", sum := "c1e6f72e63558ae2f804f39eb4c1ee4e7b59ac31df1eb4be4db24c450735c828", func := "hagioscope/hagioscopelaw21.DecideDefault", spec := "decideDefault", inPlace := ["internal/bytealg.CountString", "internal/bytealg.IndexByteString", "internal/bytealg.IndexString", "internal/abi.NoEscape", "internal/bytealg.MakeNoZero"], unfollowed := true, recurses := true, named := ["hagioscope/addr.ahead", "unicode/utf8.first", "unicode/utf8.acceptRanges", "internal/bytealg.MaxLen", "strconv.ErrSyntax", "strconv.ErrRange", "internal/strconv.uint64pow10", "math/bits.deBruijn32tab", "math/bits.deBruijn64tab"], plainKeys := false, apart := false, laid := [("math/bits.deBruijn32tab", laid_math_bits_deBruijn32tab), ("math/bits.deBruijn64tab", laid_math_bits_deBruijn64tab), ("internal/strconv.uint64pow10", laid_internal_strconv_uint64pow10), ("unicode/utf8.acceptRanges", laid_unicode_utf8_acceptRanges), ("strconv.ErrRange", laid_strconv_ErrRange), ("strconv.ErrSyntax", laid_strconv_ErrSyntax), ("hagioscope/addr.ahead", laid_hagioscope_addr_ahead), ("unicode/utf8.first", laid_unicode_utf8_first)], narrowed := true }
def DecideDefaultUptoSaid : Prop := decideDefaultUptoRow.holds Tryz.pinned (OpenSpec.upto decideDefaultSpec)

/-- 'hagioscopelaw21.DecidePort', WHERE WHAT IT READS IS OF BULK AT MOST 1048576: true; the input reads as it did. -/
def decidePortUptoRow : OpenClaim := { program := "ytajkpdhcefkopaagreatdoor", sum := "c1e6f72e63558ae2f804f39eb4c1ee4e7b59ac31df1eb4be4db24c450735c828", func := "hagioscope/hagioscopelaw21.DecidePort", spec := "decidePort", inPlace := ["internal/bytealg.CountString", "internal/bytealg.IndexByteString", "internal/bytealg.IndexString", "internal/abi.NoEscape", "internal/bytealg.MakeNoZero"], unfollowed := true, recurses := true, named := ["hagioscope/addr.ahead", "unicode/utf8.first", "unicode/utf8.acceptRanges", "internal/bytealg.MaxLen", "strconv.ErrSyntax", "strconv.ErrRange", "internal/strconv.uint64pow10", "math/bits.deBruijn32tab", "math/bits.deBruijn64tab"], plainKeys := false, apart := false, laid := [("math/bits.deBruijn32tab", laid_math_bits_deBruijn32tab), ("math/bits.deBruijn64tab", laid_math_bits_deBruijn64tab), ("internal/strconv.uint64pow10", laid_internal_strconv_uint64pow10), ("unicode/utf8.acceptRanges", laid_unicode_utf8_acceptRanges), ("strconv.ErrRange", laid_strconv_ErrRange), ("strconv.ErrSyntax", laid_strconv_ErrSyntax), ("hagioscope/addr.ahead", laid_hagioscope_addr_ahead), ("unicode/utf8.first", laid_unicode_utf8_first)], narrowed := true }
def DecidePortUptoSaid : Prop := decidePortUptoRow.holds Tryz.pinned (OpenSpec.upto decidePortSpec)

/-- 'hagioscopelaw21.DecideRule', WHERE WHAT IT READS IS OF BULK AT MOST 1048576: true; the input reads as it did. -/
def decideRuleUptoRow : OpenClaim := { program := "ytajkpdhcefkopaagreatdoor", sum := "c1e6f72e63558ae2f804f39eb4c1ee4e7b59ac31df1eb4be4db24c450735c828", func := "hagioscope/hagioscopelaw21.DecideRule", spec := "decideRule", inPlace := ["internal/bytealg.CountString", "internal/bytealg.IndexByteString", "internal/bytealg.IndexString", "internal/abi.NoEscape", "internal/bytealg.MakeNoZero"], unfollowed := true, recurses := true, named := ["hagioscope/addr.ahead", "unicode/utf8.first", "unicode/utf8.acceptRanges", "internal/bytealg.MaxLen", "strconv.ErrSyntax", "strconv.ErrRange", "internal/strconv.uint64pow10", "math/bits.deBruijn32tab", "math/bits.deBruijn64tab"], plainKeys := false, apart := false, laid := [("math/bits.deBruijn32tab", laid_math_bits_deBruijn32tab), ("math/bits.deBruijn64tab", laid_math_bits_deBruijn64tab), ("internal/strconv.uint64pow10", laid_internal_strconv_uint64pow10), ("unicode/utf8.acceptRanges", laid_unicode_utf8_acceptRanges), ("strconv.ErrRange", laid_strconv_ErrRange), ("strconv.ErrSyntax", laid_strconv_ErrSyntax), ("hagioscope/addr.ahead", laid_hagioscope_addr_ahead), ("unicode/utf8.first", laid_unicode_utf8_first)], narrowed := true }
def DecideRuleUptoSaid : Prop := decideRuleUptoRow.holds Tryz.pinned (OpenSpec.upto decideRuleSpec)

end Rows
end Go.Proofs.YtajkpdhcefkopaaGreatDoor
