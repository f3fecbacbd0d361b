/-
  NARROWER THAN 'FOR EVERY INPUT', by the rows' own cells (each row's printed sentence says how): PolicyBack: laid · PolicyLines: laid · PolicyDefault: laid · PolicyJoin: laid · CidrTells: laid · CidrBack: laid · CidrFinds: laid · CidrNests: laid · CidrOrder: laid.
  DERIVED. THE GIVEN ROWS OF THIS SEAT. 9 by the template 'for every input the law returns true; each argument reads behind the call as it read before'; 0 by the template 'total and deterministic' (their statements: YtohblhfdgoigdaaGreatDoorTotals.lean).
  GIVEN WITH THE SEED: the statements are not yours to turn. If you find one false, say at which input.
  Laid BY PROGRAM, IN A SANDBOX (cutbox-rows.mjs): the forced cells as the released guide's own fill.sh prints them over the translation 9197aa1f6b8007bc… (all of the seat's roots in one cut). By AI agents, Wed Nov 11 2026. No macro, syntax, notation, axiom, sorry.
-/
import Derived.Test.YtohblhfdgoigdaaGreatDoorChecked
import GoSem.PinnedTables
import GoSem.Claim
import GoSem.ClaimJoined
import GoSem.ClaimMapViews
import Derived.JoinedTies
import Derived.KernelRfl
namespace Go.Proofs.YtohblhfdgoigdaaGreatDoor
/- THE CELL 'sum', in the pinned program and in every row, IS THE sha256 OF THE DUMP (.gsa) THAT YtohblhfdgoigdaaGreatDoorProg.lean LOADS. Nothing in Lean hashes anything: it is a label: what it is worth is what the hold of that sum in a sandbox is worth. -/
noncomputable def Tryz.pinned : Pinned := { name := "ytohblhfdgoigdaagreatdoor", sum := "9197aa1f6b8007bc439817e59e5e8d208b318c9ea6fef4f0097ebc77bff9082d", checked := Tryz.checked }
namespace Rows
def none {H : Type} : Left H := { results := [], args := [] }

/- WHAT THE LISTED PACKAGE-LEVEL VARIABLES READ AS WHEN THE CALL BEGINS. Each datum BY PROGRAM (the guide's laid-datum.mjs) off the statement by which the dump's own 'gosem.cut.vars' lays the variable. In a bare row this is a premise. The card (YtohblhfdgoigdaaGreatDoorCards.lean) ties it to the program's text. -/
def laid_math_bits_deBruijn32tab {H : Type} : DataW H := .agg [.lit (.int .u8 0), .lit (.int .u8 1), .lit (.int .u8 28), .lit (.int .u8 2), .lit (.int .u8 29), .lit (.int .u8 14), .lit (.int .u8 24), .lit (.int .u8 3), .lit (.int .u8 30), .lit (.int .u8 22), .lit (.int .u8 20), .lit (.int .u8 15), .lit (.int .u8 25), .lit (.int .u8 17), .lit (.int .u8 4), .lit (.int .u8 8), .lit (.int .u8 31), .lit (.int .u8 27), .lit (.int .u8 13), .lit (.int .u8 23), .lit (.int .u8 21), .lit (.int .u8 19), .lit (.int .u8 16), .lit (.int .u8 7), .lit (.int .u8 26), .lit (.int .u8 12), .lit (.int .u8 18), .lit (.int .u8 6), .lit (.int .u8 11), .lit (.int .u8 5), .lit (.int .u8 10), .lit (.int .u8 9)]
def laid_math_bits_deBruijn64tab {H : Type} : DataW H := .agg [.lit (.int .u8 0), .lit (.int .u8 1), .lit (.int .u8 56), .lit (.int .u8 2), .lit (.int .u8 57), .lit (.int .u8 49), .lit (.int .u8 28), .lit (.int .u8 3), .lit (.int .u8 61), .lit (.int .u8 58), .lit (.int .u8 42), .lit (.int .u8 50), .lit (.int .u8 38), .lit (.int .u8 29), .lit (.int .u8 17), .lit (.int .u8 4), .lit (.int .u8 62), .lit (.int .u8 47), .lit (.int .u8 59), .lit (.int .u8 36), .lit (.int .u8 45), .lit (.int .u8 43), .lit (.int .u8 51), .lit (.int .u8 22), .lit (.int .u8 53), .lit (.int .u8 39), .lit (.int .u8 33), .lit (.int .u8 30), .lit (.int .u8 24), .lit (.int .u8 18), .lit (.int .u8 12), .lit (.int .u8 5), .lit (.int .u8 63), .lit (.int .u8 55), .lit (.int .u8 48), .lit (.int .u8 27), .lit (.int .u8 60), .lit (.int .u8 41), .lit (.int .u8 37), .lit (.int .u8 16), .lit (.int .u8 46), .lit (.int .u8 35), .lit (.int .u8 44), .lit (.int .u8 21), .lit (.int .u8 52), .lit (.int .u8 32), .lit (.int .u8 23), .lit (.int .u8 11), .lit (.int .u8 54), .lit (.int .u8 26), .lit (.int .u8 40), .lit (.int .u8 15), .lit (.int .u8 34), .lit (.int .u8 20), .lit (.int .u8 31), .lit (.int .u8 10), .lit (.int .u8 25), .lit (.int .u8 14), .lit (.int .u8 19), .lit (.int .u8 9), .lit (.int .u8 13), .lit (.int .u8 8), .lit (.int .u8 7), .lit (.int .u8 6)]
def laid_internal_strconv_uint64pow10 {H : Type} : DataW H := .agg [.lit (.int .u64 1), .lit (.int .u64 10), .lit (.int .u64 100), .lit (.int .u64 1000), .lit (.int .u64 10000), .lit (.int .u64 100000), .lit (.int .u64 1000000), .lit (.int .u64 10000000), .lit (.int .u64 100000000), .lit (.int .u64 1000000000), .lit (.int .u64 10000000000), .lit (.int .u64 100000000000), .lit (.int .u64 1000000000000), .lit (.int .u64 10000000000000), .lit (.int .u64 100000000000000), .lit (.int .u64 1000000000000000), .lit (.int .u64 10000000000000000), .lit (.int .u64 100000000000000000), .lit (.int .u64 1000000000000000000), .lit (.int .u64 10000000000000000000)]
def laid_unicode_utf8_acceptRanges {H : Type} : DataW H := .agg [.agg [.lit (.int .u8 128), .lit (.int .u8 191)], .agg [.lit (.int .u8 160), .lit (.int .u8 191)], .agg [.lit (.int .u8 128), .lit (.int .u8 159)], .agg [.lit (.int .u8 144), .lit (.int .u8 191)], .agg [.lit (.int .u8 128), .lit (.int .u8 143)], .agg [.lit (.int .u8 0), .lit (.int .u8 0)], .agg [.lit (.int .u8 0), .lit (.int .u8 0)], .agg [.lit (.int .u8 0), .lit (.int .u8 0)], .agg [.lit (.int .u8 0), .lit (.int .u8 0)], .agg [.lit (.int .u8 0), .lit (.int .u8 0)], .agg [.lit (.int .u8 0), .lit (.int .u8 0)], .agg [.lit (.int .u8 0), .lit (.int .u8 0)], .agg [.lit (.int .u8 0), .lit (.int .u8 0)], .agg [.lit (.int .u8 0), .lit (.int .u8 0)], .agg [.lit (.int .u8 0), .lit (.int .u8 0)], .agg [.lit (.int .u8 0), .lit (.int .u8 0)]]
def laid_strconv_ErrRange {H : Type} : DataW H := .iface "*errors.errorString" (.ptr (.agg [.lit (.string [118, 97, 108, 117, 101, 32, 111, 117, 116, 32, 111, 102, 32, 114, 97, 110, 103, 101])]))
def laid_strconv_ErrSyntax {H : Type} : DataW H := .iface "*errors.errorString" (.ptr (.agg [.lit (.string [105, 110, 118, 97, 108, 105, 100, 32, 115, 121, 110, 116, 97, 120])]))
def laid_hagioscope_addr_ahead {H : Type} : DataW H := .agg [.lit (.int .u8 0), .lit (.int .u8 0), .lit (.int .u8 0), .lit (.int .u8 0), .lit (.int .u8 0), .lit (.int .u8 0), .lit (.int .u8 0), .lit (.int .u8 0), .lit (.int .u8 0), .lit (.int .u8 0), .lit (.int .u8 255), .lit (.int .u8 255)]
/-- One of Go's own tables, pinned by name: the form's constant. -/
def laid_unicode_utf8_first : DataW Unit := Go.Pinned.utf8First

/-- 'hagioscopelaw19.PolicyBack': WHATEVER THE INPUT: true; the input reads as it did. -/
def policyBackSpec : ChangeSpec := { name := "policyBack", fn := fun _ => fun
  | [d1, d2] => { results := [.lit (.bool true)], args := [d1, d2] }
  | _ => none }
def policyBackRow : OpenClaim := { program := "ytohblhfdgoigdaagreatdoor", sum := "9197aa1f6b8007bc439817e59e5e8d208b318c9ea6fef4f0097ebc77bff9082d", func := "hagioscope/hagioscopelaw19.PolicyBack", spec := "policyBack", inPlace := ["internal/bytealg.CountString", "internal/bytealg.IndexByteString", "internal/bytealg.IndexString", "internal/abi.NoEscape", "internal/bytealg.MakeNoZero"], unfollowed := true, recurses := true, named := ["unicode/utf8.first", "unicode/utf8.acceptRanges", "internal/bytealg.MaxLen", "strconv.ErrSyntax", "strconv.ErrRange", "internal/strconv.uint64pow10", "math/bits.deBruijn32tab", "math/bits.deBruijn64tab", "hagioscope/addr.ahead"], plainKeys := false, apart := false, laid := [("math/bits.deBruijn32tab", laid_math_bits_deBruijn32tab), ("math/bits.deBruijn64tab", laid_math_bits_deBruijn64tab), ("internal/strconv.uint64pow10", laid_internal_strconv_uint64pow10), ("unicode/utf8.acceptRanges", laid_unicode_utf8_acceptRanges), ("strconv.ErrRange", laid_strconv_ErrRange), ("strconv.ErrSyntax", laid_strconv_ErrSyntax), ("hagioscope/addr.ahead", laid_hagioscope_addr_ahead), ("unicode/utf8.first", laid_unicode_utf8_first)] }
def PolicyBackSaid : Prop := policyBackRow.holds Tryz.pinned (OpenSpec.ofChange policyBackSpec)

/-- ITS FALSE NEIGHBOUR: 'it returns false'. Refute it at one input. -/
def policyBackWrong : ChangeSpec := { name := "policyBack", fn := fun _ => fun
  | [d1, d2] => { results := [.lit (.bool false)], args := [d1, d2] }
  | _ => none }
def PolicyBackWrongFalsely : Prop := policyBackRow.holds Tryz.pinned (OpenSpec.ofChange policyBackWrong)

/-- 'hagioscopelaw19.PolicyLines': WHATEVER THE INPUT: true; the input reads as it did. -/
def policyLinesSpec : ChangeSpec := { name := "policyLines", fn := fun _ => fun
  | [d1, d2] => { results := [.lit (.bool true)], args := [d1, d2] }
  | _ => none }
def policyLinesRow : OpenClaim := { program := "ytohblhfdgoigdaagreatdoor", sum := "9197aa1f6b8007bc439817e59e5e8d208b318c9ea6fef4f0097ebc77bff9082d", func := "hagioscope/hagioscopelaw19.PolicyLines", spec := "policyLines", inPlace := ["internal/bytealg.CountString", "internal/bytealg.IndexByteString", "internal/bytealg.IndexString", "internal/abi.NoEscape", "internal/bytealg.MakeNoZero"], unfollowed := true, recurses := true, named := ["unicode/utf8.first", "unicode/utf8.acceptRanges", "internal/bytealg.MaxLen", "strconv.ErrSyntax", "strconv.ErrRange", "internal/strconv.uint64pow10", "math/bits.deBruijn32tab", "math/bits.deBruijn64tab", "hagioscope/addr.ahead"], plainKeys := false, apart := false, laid := [("math/bits.deBruijn32tab", laid_math_bits_deBruijn32tab), ("math/bits.deBruijn64tab", laid_math_bits_deBruijn64tab), ("internal/strconv.uint64pow10", laid_internal_strconv_uint64pow10), ("unicode/utf8.acceptRanges", laid_unicode_utf8_acceptRanges), ("strconv.ErrRange", laid_strconv_ErrRange), ("strconv.ErrSyntax", laid_strconv_ErrSyntax), ("hagioscope/addr.ahead", laid_hagioscope_addr_ahead), ("unicode/utf8.first", laid_unicode_utf8_first)] }
def PolicyLinesSaid : Prop := policyLinesRow.holds Tryz.pinned (OpenSpec.ofChange policyLinesSpec)

/-- ITS FALSE NEIGHBOUR: 'it returns false'. Refute it at one input. -/
def policyLinesWrong : ChangeSpec := { name := "policyLines", fn := fun _ => fun
  | [d1, d2] => { results := [.lit (.bool false)], args := [d1, d2] }
  | _ => none }
def PolicyLinesWrongFalsely : Prop := policyLinesRow.holds Tryz.pinned (OpenSpec.ofChange policyLinesWrong)

/-- 'hagioscopelaw19.PolicyDefault': WHATEVER THE INPUT: true; the input reads as it did. -/
def policyDefaultSpec : ChangeSpec := { name := "policyDefault", fn := fun _ => fun
  | [d1, d2] => { results := [.lit (.bool true)], args := [d1, d2] }
  | _ => none }
def policyDefaultRow : OpenClaim := { program := "ytohblhfdgoigdaagreatdoor", sum := "9197aa1f6b8007bc439817e59e5e8d208b318c9ea6fef4f0097ebc77bff9082d", func := "hagioscope/hagioscopelaw19.PolicyDefault", spec := "policyDefault", inPlace := ["internal/bytealg.CountString", "internal/bytealg.IndexByteString", "internal/bytealg.IndexString", "internal/abi.NoEscape", "internal/bytealg.MakeNoZero"], unfollowed := true, recurses := true, named := ["unicode/utf8.first", "unicode/utf8.acceptRanges", "internal/bytealg.MaxLen", "strconv.ErrSyntax", "strconv.ErrRange", "internal/strconv.uint64pow10", "math/bits.deBruijn32tab", "math/bits.deBruijn64tab", "hagioscope/addr.ahead"], plainKeys := false, apart := false, laid := [("math/bits.deBruijn32tab", laid_math_bits_deBruijn32tab), ("math/bits.deBruijn64tab", laid_math_bits_deBruijn64tab), ("internal/strconv.uint64pow10", laid_internal_strconv_uint64pow10), ("unicode/utf8.acceptRanges", laid_unicode_utf8_acceptRanges), ("strconv.ErrRange", laid_strconv_ErrRange), ("strconv.ErrSyntax", laid_strconv_ErrSyntax), ("hagioscope/addr.ahead", laid_hagioscope_addr_ahead), ("unicode/utf8.first", laid_unicode_utf8_first)] }
def PolicyDefaultSaid : Prop := policyDefaultRow.holds Tryz.pinned (OpenSpec.ofChange policyDefaultSpec)

/-- ITS FALSE NEIGHBOUR: 'it returns false'. Refute it at one input. -/
def policyDefaultWrong : ChangeSpec := { name := "policyDefault", fn := fun _ => fun
  | [d1, d2] => { results := [.lit (.bool false)], args := [d1, d2] }
  | _ => none }
def PolicyDefaultWrongFalsely : Prop := policyDefaultRow.holds Tryz.pinned (OpenSpec.ofChange policyDefaultWrong)

/-- 'hagioscopelaw19.PolicyJoin': WHATEVER THE INPUT: true; the input reads as it did. -/
def policyJoinSpec : ChangeSpec := { name := "policyJoin", fn := fun _ => fun
  | [d1, d2] => { results := [.lit (.bool true)], args := [d1, d2] }
  | _ => none }
def policyJoinRow : OpenClaim := { program := "ytohblhfdgoigdaagreatdoor", sum := "9197aa1f6b8007bc439817e59e5e8d208b318c9ea6fef4f0097ebc77bff9082d", func := "hagioscope/hagioscopelaw19.PolicyJoin", spec := "policyJoin", inPlace := ["internal/bytealg.CountString", "internal/bytealg.IndexByteString", "internal/bytealg.IndexString", "internal/abi.NoEscape", "internal/bytealg.MakeNoZero"], unfollowed := true, recurses := true, named := ["unicode/utf8.first", "unicode/utf8.acceptRanges", "internal/bytealg.MaxLen", "strconv.ErrSyntax", "strconv.ErrRange", "internal/strconv.uint64pow10", "math/bits.deBruijn32tab", "math/bits.deBruijn64tab", "hagioscope/addr.ahead"], plainKeys := false, apart := false, laid := [("math/bits.deBruijn32tab", laid_math_bits_deBruijn32tab), ("math/bits.deBruijn64tab", laid_math_bits_deBruijn64tab), ("internal/strconv.uint64pow10", laid_internal_strconv_uint64pow10), ("unicode/utf8.acceptRanges", laid_unicode_utf8_acceptRanges), ("strconv.ErrRange", laid_strconv_ErrRange), ("strconv.ErrSyntax", laid_strconv_ErrSyntax), ("hagioscope/addr.ahead", laid_hagioscope_addr_ahead), ("unicode/utf8.first", laid_unicode_utf8_first)] }
def PolicyJoinSaid : Prop := policyJoinRow.holds Tryz.pinned (OpenSpec.ofChange policyJoinSpec)

/-- ITS FALSE NEIGHBOUR: 'it returns false'. Refute it at one input. -/
def policyJoinWrong : ChangeSpec := { name := "policyJoin", fn := fun _ => fun
  | [d1, d2] => { results := [.lit (.bool false)], args := [d1, d2] }
  | _ => none }
def PolicyJoinWrongFalsely : Prop := policyJoinRow.holds Tryz.pinned (OpenSpec.ofChange policyJoinWrong)

/-- 'hagioscopelaw04.CidrTells': WHATEVER THE INPUT: true; the input reads as it did. -/
def cidrTellsSpec : ChangeSpec := { name := "cidrTells", fn := fun _ => fun
  | [d1, d2, d3, d4] => { results := [.lit (.bool true)], args := [d1, d2, d3, d4] }
  | _ => none }
def cidrTellsRow : OpenClaim := { program := "ytohblhfdgoigdaagreatdoor", sum := "9197aa1f6b8007bc439817e59e5e8d208b318c9ea6fef4f0097ebc77bff9082d", func := "hagioscope/hagioscopelaw04.CidrTells", spec := "cidrTells", inPlace := ["internal/bytealg.IndexByteString", "internal/bytealg.IndexString", "internal/bytealg.CountString", "internal/abi.NoEscape", "internal/bytealg.MakeNoZero"], unfollowed := true, recurses := true, named := ["internal/bytealg.MaxLen", "unicode/utf8.first", "unicode/utf8.acceptRanges", "strconv.ErrSyntax", "strconv.ErrRange", "internal/strconv.uint64pow10", "math/bits.deBruijn32tab", "math/bits.deBruijn64tab", "hagioscope/addr.ahead"], plainKeys := false, apart := false, laid := [("math/bits.deBruijn32tab", laid_math_bits_deBruijn32tab), ("math/bits.deBruijn64tab", laid_math_bits_deBruijn64tab), ("internal/strconv.uint64pow10", laid_internal_strconv_uint64pow10), ("unicode/utf8.acceptRanges", laid_unicode_utf8_acceptRanges), ("strconv.ErrRange", laid_strconv_ErrRange), ("strconv.ErrSyntax", laid_strconv_ErrSyntax), ("hagioscope/addr.ahead", laid_hagioscope_addr_ahead), ("unicode/utf8.first", laid_unicode_utf8_first)] }
def CidrTellsSaid : Prop := cidrTellsRow.holds Tryz.pinned (OpenSpec.ofChange cidrTellsSpec)

/-- ITS FALSE NEIGHBOUR: 'it returns false'. Refute it at one input. -/
def cidrTellsWrong : ChangeSpec := { name := "cidrTells", fn := fun _ => fun
  | [d1, d2, d3, d4] => { results := [.lit (.bool false)], args := [d1, d2, d3, d4] }
  | _ => none }
def CidrTellsWrongFalsely : Prop := cidrTellsRow.holds Tryz.pinned (OpenSpec.ofChange cidrTellsWrong)

/-- 'hagioscopelaw04.CidrBack': WHATEVER THE INPUT: true; the input reads as it did. -/
def cidrBackSpec : ChangeSpec := { name := "cidrBack", fn := fun _ => fun
  | [d1, d2] => { results := [.lit (.bool true)], args := [d1, d2] }
  | _ => none }
def cidrBackRow : OpenClaim := { program := "ytohblhfdgoigdaagreatdoor", sum := "9197aa1f6b8007bc439817e59e5e8d208b318c9ea6fef4f0097ebc77bff9082d", func := "hagioscope/hagioscopelaw04.CidrBack", spec := "cidrBack", inPlace := ["internal/bytealg.IndexByteString", "internal/bytealg.IndexString", "internal/bytealg.CountString", "internal/abi.NoEscape", "internal/bytealg.MakeNoZero"], unfollowed := true, recurses := true, named := ["internal/bytealg.MaxLen", "unicode/utf8.first", "unicode/utf8.acceptRanges", "strconv.ErrSyntax", "strconv.ErrRange", "internal/strconv.uint64pow10", "math/bits.deBruijn32tab", "math/bits.deBruijn64tab", "hagioscope/addr.ahead"], plainKeys := false, apart := false, laid := [("math/bits.deBruijn32tab", laid_math_bits_deBruijn32tab), ("math/bits.deBruijn64tab", laid_math_bits_deBruijn64tab), ("internal/strconv.uint64pow10", laid_internal_strconv_uint64pow10), ("unicode/utf8.acceptRanges", laid_unicode_utf8_acceptRanges), ("strconv.ErrRange", laid_strconv_ErrRange), ("strconv.ErrSyntax", laid_strconv_ErrSyntax), ("hagioscope/addr.ahead", laid_hagioscope_addr_ahead), ("unicode/utf8.first", laid_unicode_utf8_first)] }
def CidrBackSaid : Prop := cidrBackRow.holds Tryz.pinned (OpenSpec.ofChange cidrBackSpec)

/-- ITS FALSE NEIGHBOUR: 'it returns false'. Refute it at one input. -/
def cidrBackWrong : ChangeSpec := { name := "cidrBack", fn := fun _ => fun
  | [d1, d2] => { results := [.lit (.bool false)], args := [d1, d2] }
  | _ => none }
def CidrBackWrongFalsely : Prop := cidrBackRow.holds Tryz.pinned (OpenSpec.ofChange cidrBackWrong)

/-- 'hagioscopelaw04.CidrFinds': WHATEVER THE INPUT: true; the input reads as it did. -/
def cidrFindsSpec : ChangeSpec := { name := "cidrFinds", fn := fun _ => fun
  | [d1, d2] => { results := [.lit (.bool true)], args := [d1, d2] }
  | _ => none }
def cidrFindsRow : OpenClaim := { program := "ytohblhfdgoigdaagreatdoor", sum := "9197aa1f6b8007bc439817e59e5e8d208b318c9ea6fef4f0097ebc77bff9082d", func := "hagioscope/hagioscopelaw04.CidrFinds", spec := "cidrFinds", inPlace := ["internal/bytealg.IndexByteString", "internal/bytealg.IndexString", "internal/bytealg.CountString", "internal/abi.NoEscape", "internal/bytealg.MakeNoZero"], unfollowed := true, recurses := true, named := ["internal/bytealg.MaxLen", "unicode/utf8.first", "unicode/utf8.acceptRanges", "strconv.ErrSyntax", "strconv.ErrRange", "internal/strconv.uint64pow10", "math/bits.deBruijn32tab", "math/bits.deBruijn64tab", "hagioscope/addr.ahead"], plainKeys := false, apart := false, laid := [("math/bits.deBruijn32tab", laid_math_bits_deBruijn32tab), ("math/bits.deBruijn64tab", laid_math_bits_deBruijn64tab), ("internal/strconv.uint64pow10", laid_internal_strconv_uint64pow10), ("unicode/utf8.acceptRanges", laid_unicode_utf8_acceptRanges), ("strconv.ErrRange", laid_strconv_ErrRange), ("strconv.ErrSyntax", laid_strconv_ErrSyntax), ("hagioscope/addr.ahead", laid_hagioscope_addr_ahead), ("unicode/utf8.first", laid_unicode_utf8_first)] }
def CidrFindsSaid : Prop := cidrFindsRow.holds Tryz.pinned (OpenSpec.ofChange cidrFindsSpec)

/-- ITS FALSE NEIGHBOUR: 'it returns false'. Refute it at one input. -/
def cidrFindsWrong : ChangeSpec := { name := "cidrFinds", fn := fun _ => fun
  | [d1, d2] => { results := [.lit (.bool false)], args := [d1, d2] }
  | _ => none }
def CidrFindsWrongFalsely : Prop := cidrFindsRow.holds Tryz.pinned (OpenSpec.ofChange cidrFindsWrong)

/-- 'hagioscopelaw04.CidrNests': WHATEVER THE INPUT: true; the input reads as it did. -/
def cidrNestsSpec : ChangeSpec := { name := "cidrNests", fn := fun _ => fun
  | [d1, d2, d3, d4] => { results := [.lit (.bool true)], args := [d1, d2, d3, d4] }
  | _ => none }
def cidrNestsRow : OpenClaim := { program := "ytohblhfdgoigdaagreatdoor", sum := "9197aa1f6b8007bc439817e59e5e8d208b318c9ea6fef4f0097ebc77bff9082d", func := "hagioscope/hagioscopelaw04.CidrNests", spec := "cidrNests", inPlace := ["internal/bytealg.IndexByteString", "internal/bytealg.IndexString", "internal/bytealg.CountString", "internal/abi.NoEscape", "internal/bytealg.MakeNoZero"], unfollowed := true, recurses := true, named := ["internal/bytealg.MaxLen", "unicode/utf8.first", "unicode/utf8.acceptRanges", "strconv.ErrSyntax", "strconv.ErrRange", "internal/strconv.uint64pow10", "math/bits.deBruijn32tab", "math/bits.deBruijn64tab", "hagioscope/addr.ahead"], plainKeys := false, apart := false, laid := [("math/bits.deBruijn32tab", laid_math_bits_deBruijn32tab), ("math/bits.deBruijn64tab", laid_math_bits_deBruijn64tab), ("internal/strconv.uint64pow10", laid_internal_strconv_uint64pow10), ("unicode/utf8.acceptRanges", laid_unicode_utf8_acceptRanges), ("strconv.ErrRange", laid_strconv_ErrRange), ("strconv.ErrSyntax", laid_strconv_ErrSyntax), ("hagioscope/addr.ahead", laid_hagioscope_addr_ahead), ("unicode/utf8.first", laid_unicode_utf8_first)] }
def CidrNestsSaid : Prop := cidrNestsRow.holds Tryz.pinned (OpenSpec.ofChange cidrNestsSpec)

/-- ITS FALSE NEIGHBOUR: 'it returns false'. Refute it at one input. -/
def cidrNestsWrong : ChangeSpec := { name := "cidrNests", fn := fun _ => fun
  | [d1, d2, d3, d4] => { results := [.lit (.bool false)], args := [d1, d2, d3, d4] }
  | _ => none }
def CidrNestsWrongFalsely : Prop := cidrNestsRow.holds Tryz.pinned (OpenSpec.ofChange cidrNestsWrong)

/-- 'hagioscopelaw04.CidrOrder': WHATEVER THE INPUT: true; the input reads as it did. -/
def cidrOrderSpec : ChangeSpec := { name := "cidrOrder", fn := fun _ => fun
  | [d] => { results := [.lit (.bool true)], args := [d] }
  | _ => none }
def cidrOrderRow : OpenClaim := { program := "ytohblhfdgoigdaagreatdoor", sum := "9197aa1f6b8007bc439817e59e5e8d208b318c9ea6fef4f0097ebc77bff9082d", func := "hagioscope/hagioscopelaw04.CidrOrder", spec := "cidrOrder", inPlace := ["internal/bytealg.IndexByteString", "internal/bytealg.IndexString", "internal/bytealg.CountString", "internal/abi.NoEscape", "internal/bytealg.MakeNoZero"], unfollowed := true, recurses := true, named := ["internal/bytealg.MaxLen", "unicode/utf8.first", "unicode/utf8.acceptRanges", "strconv.ErrSyntax", "strconv.ErrRange", "internal/strconv.uint64pow10", "math/bits.deBruijn32tab", "math/bits.deBruijn64tab", "hagioscope/addr.ahead"], plainKeys := false, apart := false, laid := [("math/bits.deBruijn32tab", laid_math_bits_deBruijn32tab), ("math/bits.deBruijn64tab", laid_math_bits_deBruijn64tab), ("internal/strconv.uint64pow10", laid_internal_strconv_uint64pow10), ("unicode/utf8.acceptRanges", laid_unicode_utf8_acceptRanges), ("strconv.ErrRange", laid_strconv_ErrRange), ("strconv.ErrSyntax", laid_strconv_ErrSyntax), ("hagioscope/addr.ahead", laid_hagioscope_addr_ahead), ("unicode/utf8.first", laid_unicode_utf8_first)] }
def CidrOrderSaid : Prop := cidrOrderRow.holds Tryz.pinned (OpenSpec.ofChange cidrOrderSpec)

/-- ITS FALSE NEIGHBOUR: 'it returns false'. Refute it at one input. -/
def cidrOrderWrong : ChangeSpec := { name := "cidrOrder", fn := fun _ => fun
  | [d] => { results := [.lit (.bool false)], args := [d] }
  | _ => none }
def CidrOrderWrongFalsely : Prop := cidrOrderRow.holds Tryz.pinned (OpenSpec.ofChange cidrOrderWrong)

/- THE SECOND FORM. 'bulk': how many values and letters a reading holds, each counted each time it is reached (what is shared counts as often as it is met; a slice's spare places count too). A statement '..UptoSaid' is the law's where the arguments, and the package variables that the reading takes, are together of bulk at most 1048576: NARROWER than '..Said'. Prove '..Said' where nothing that the law and all that it calls make is longer than what came in: it says more and counts as full. Else prove '..UptoSaid'. A law counts once. -/
mutual
def uptoBulk {H : Type} : DataW H → Nat
  | .lit (.string bytes) => bytes.length + 1
  | .lit _ => 1
  | .nil => 1
  | .ptr d => uptoBulk d + 1
  | .slice elems spare => uptoBulkAll elems + uptoBulkAll spare + 1
  | .agg parts => uptoBulkAll parts + 1
  | .iface _ d => uptoBulk d + 1
  | .map entries => uptoBulkEntries entries + 1
  | .held _ => 1
def uptoBulkAll {H : Type} : List (DataW H) → Nat
  | [] => 0
  | d :: r => uptoBulk d + uptoBulkAll r
def uptoBulkEntries {H : Type} : List (Lit × DataW H) → Nat
  | [] => 0
  | x :: r => uptoBulkEntry x + uptoBulkEntries r
def uptoBulkEntry {H : Type} : Lit × DataW H → Nat
  | (.string bytes, d) => bytes.length + uptoBulk d + 1
  | (_, d) => uptoBulk d + 1
 end
def uptoSmall : (H : Type) → List (DataW H) → Bool := fun _ ds => decide (uptoBulkAll ds ≤ 1048576)
def OpenSpec.upto (s : _root_.Go.ChangeSpec) : _root_.Go.OpenSpec := { _root_.Go.OpenSpec.ofChange s with cond := some uptoSmall }

/-- 'hagioscopelaw19.PolicyBack', WHERE WHAT IT READS IS OF BULK AT MOST 1048576: true; the input reads as it did. -/
def policyBackUptoRow : OpenClaim := { program := "ytohblhfdgoigdaagreatdoor", sum := "9197aa1f6b8007bc439817e59e5e8d208b318c9ea6fef4f0097ebc77bff9082d", func := "hagioscope/hagioscopelaw19.PolicyBack", spec := "policyBack", inPlace := ["internal/bytealg.CountString", "internal/bytealg.IndexByteString", "internal/bytealg.IndexString", "internal/abi.NoEscape", "internal/bytealg.MakeNoZero"], unfollowed := true, recurses := true, named := ["unicode/utf8.first", "unicode/utf8.acceptRanges", "internal/bytealg.MaxLen", "strconv.ErrSyntax", "strconv.ErrRange", "internal/strconv.uint64pow10", "math/bits.deBruijn32tab", "math/bits.deBruijn64tab", "hagioscope/addr.ahead"], plainKeys := false, apart := false, laid := [("math/bits.deBruijn32tab", laid_math_bits_deBruijn32tab), ("math/bits.deBruijn64tab", laid_math_bits_deBruijn64tab), ("internal/strconv.uint64pow10", laid_internal_strconv_uint64pow10), ("unicode/utf8.acceptRanges", laid_unicode_utf8_acceptRanges), ("strconv.ErrRange", laid_strconv_ErrRange), ("strconv.ErrSyntax", laid_strconv_ErrSyntax), ("hagioscope/addr.ahead", laid_hagioscope_addr_ahead), ("unicode/utf8.first", laid_unicode_utf8_first)], narrowed := true }
def PolicyBackUptoSaid : Prop := policyBackUptoRow.holds Tryz.pinned (OpenSpec.upto policyBackSpec)

/-- 'hagioscopelaw19.PolicyLines', WHERE WHAT IT READS IS OF BULK AT MOST 1048576: true; the input reads as it did. -/
def policyLinesUptoRow : OpenClaim := { program := "ytohblhfdgoigdaagreatdoor", sum := "9197aa1f6b8007bc439817e59e5e8d208b318c9ea6fef4f0097ebc77bff9082d", func := "hagioscope/hagioscopelaw19.PolicyLines", spec := "policyLines", inPlace := ["internal/bytealg.CountString", "internal/bytealg.IndexByteString", "internal/bytealg.IndexString", "internal/abi.NoEscape", "internal/bytealg.MakeNoZero"], unfollowed := true, recurses := true, named := ["unicode/utf8.first", "unicode/utf8.acceptRanges", "internal/bytealg.MaxLen", "strconv.ErrSyntax", "strconv.ErrRange", "internal/strconv.uint64pow10", "math/bits.deBruijn32tab", "math/bits.deBruijn64tab", "hagioscope/addr.ahead"], plainKeys := false, apart := false, laid := [("math/bits.deBruijn32tab", laid_math_bits_deBruijn32tab), ("math/bits.deBruijn64tab", laid_math_bits_deBruijn64tab), ("internal/strconv.uint64pow10", laid_internal_strconv_uint64pow10), ("unicode/utf8.acceptRanges", laid_unicode_utf8_acceptRanges), ("strconv.ErrRange", laid_strconv_ErrRange), ("strconv.ErrSyntax", laid_strconv_ErrSyntax), ("hagioscope/addr.ahead", laid_hagioscope_addr_ahead), ("unicode/utf8.first", laid_unicode_utf8_first)], narrowed := true }
def PolicyLinesUptoSaid : Prop := policyLinesUptoRow.holds Tryz.pinned (OpenSpec.upto policyLinesSpec)

/-- 'hagioscopelaw19.PolicyDefault', WHERE WHAT IT READS IS OF BULK AT MOST 1048576: true; the input reads as it did. -/
def policyDefaultUptoRow : OpenClaim := { program := "ytohblhfdgoigdaagreatdoor", sum := "9197aa1f6b8007bc439817e59e5e8d208b318c9ea6fef4f0097ebc77bff9082d", func := "hagioscope/hagioscopelaw19.PolicyDefault", spec := "policyDefault", inPlace := ["internal/bytealg.CountString", "internal/bytealg.IndexByteString", "internal/bytealg.IndexString", "internal/abi.NoEscape", "internal/bytealg.MakeNoZero"], unfollowed := true, recurses := true, named := ["unicode/utf8.first", "unicode/utf8.acceptRanges", "internal/bytealg.MaxLen", "strconv.ErrSyntax", "strconv.ErrRange", "internal/strconv.uint64pow10", "math/bits.deBruijn32tab", "math/bits.deBruijn64tab", "hagioscope/addr.ahead"], plainKeys := false, apart := false, laid := [("math/bits.deBruijn32tab", laid_math_bits_deBruijn32tab), ("math/bits.deBruijn64tab", laid_math_bits_deBruijn64tab), ("internal/strconv.uint64pow10", laid_internal_strconv_uint64pow10), ("unicode/utf8.acceptRanges", laid_unicode_utf8_acceptRanges), ("strconv.ErrRange", laid_strconv_ErrRange), ("strconv.ErrSyntax", laid_strconv_ErrSyntax), ("hagioscope/addr.ahead", laid_hagioscope_addr_ahead), ("unicode/utf8.first", laid_unicode_utf8_first)], narrowed := true }
def PolicyDefaultUptoSaid : Prop := policyDefaultUptoRow.holds Tryz.pinned (OpenSpec.upto policyDefaultSpec)

/-- 'hagioscopelaw19.PolicyJoin', WHERE WHAT IT READS IS OF BULK AT MOST 1048576: true; the input reads as it did. -/
def policyJoinUptoRow : OpenClaim := { program := "ytohblhfdgoigdaagreatdoor", sum := "9197aa1f6b8007bc439817e59e5e8d208b318c9ea6fef4f0097ebc77bff9082d", func := "hagioscope/hagioscopelaw19.PolicyJoin", spec := "policyJoin", inPlace := ["internal/bytealg.CountString", "internal/bytealg.IndexByteString", "internal/bytealg.IndexString", "internal/abi.NoEscape", "internal/bytealg.MakeNoZero"], unfollowed := true, recurses := true, named := ["unicode/utf8.first", "unicode/utf8.acceptRanges", "internal/bytealg.MaxLen", "strconv.ErrSyntax", "strconv.ErrRange", "internal/strconv.uint64pow10", "math/bits.deBruijn32tab", "math/bits.deBruijn64tab", "hagioscope/addr.ahead"], plainKeys := false, apart := false, laid := [("math/bits.deBruijn32tab", laid_math_bits_deBruijn32tab), ("math/bits.deBruijn64tab", laid_math_bits_deBruijn64tab), ("internal/strconv.uint64pow10", laid_internal_strconv_uint64pow10), ("unicode/utf8.acceptRanges", laid_unicode_utf8_acceptRanges), ("strconv.ErrRange", laid_strconv_ErrRange), ("strconv.ErrSyntax", laid_strconv_ErrSyntax), ("hagioscope/addr.ahead", laid_hagioscope_addr_ahead), ("unicode/utf8.first", laid_unicode_utf8_first)], narrowed := true }
def PolicyJoinUptoSaid : Prop := policyJoinUptoRow.holds Tryz.pinned (OpenSpec.upto policyJoinSpec)

/-- 'hagioscopelaw04.CidrTells', WHERE WHAT IT READS IS OF BULK AT MOST 1048576: true; the input reads as it did. -/
def cidrTellsUptoRow : OpenClaim := { program := "ytohblhfdgoigdaagreatdoor", sum := "9197aa1f6b8007bc439817e59e5e8d208b318c9ea6fef4f0097ebc77bff9082d", func := "hagioscope/hagioscopelaw04.CidrTells", spec := "cidrTells", inPlace := ["internal/bytealg.IndexByteString", "internal/bytealg.IndexString", "internal/bytealg.CountString", "internal/abi.NoEscape", "internal/bytealg.MakeNoZero"], unfollowed := true, recurses := true, named := ["internal/bytealg.MaxLen", "unicode/utf8.first", "unicode/utf8.acceptRanges", "strconv.ErrSyntax", "strconv.ErrRange", "internal/strconv.uint64pow10", "math/bits.deBruijn32tab", "math/bits.deBruijn64tab", "hagioscope/addr.ahead"], plainKeys := false, apart := false, laid := [("math/bits.deBruijn32tab", laid_math_bits_deBruijn32tab), ("math/bits.deBruijn64tab", laid_math_bits_deBruijn64tab), ("internal/strconv.uint64pow10", laid_internal_strconv_uint64pow10), ("unicode/utf8.acceptRanges", laid_unicode_utf8_acceptRanges), ("strconv.ErrRange", laid_strconv_ErrRange), ("strconv.ErrSyntax", laid_strconv_ErrSyntax), ("hagioscope/addr.ahead", laid_hagioscope_addr_ahead), ("unicode/utf8.first", laid_unicode_utf8_first)], narrowed := true }
def CidrTellsUptoSaid : Prop := cidrTellsUptoRow.holds Tryz.pinned (OpenSpec.upto cidrTellsSpec)

/-- 'hagioscopelaw04.CidrBack', WHERE WHAT IT READS IS OF BULK AT MOST 1048576: true; the input reads as it did. -/
def cidrBackUptoRow : OpenClaim := { program := "ytohblhfdgoigdaagreatdoor", sum := "9197aa1f6b8007bc439817e59e5e8d208b318c9ea6fef4f0097ebc77bff9082d", func := "hagioscope/hagioscopelaw04.CidrBack", spec := "cidrBack", inPlace := ["internal/bytealg.IndexByteString", "internal/bytealg.IndexString", "internal/bytealg.CountString", "internal/abi.NoEscape", "internal/bytealg.MakeNoZero"], unfollowed := true, recurses := true, named := ["internal/bytealg.MaxLen", "unicode/utf8.first", "unicode/utf8.acceptRanges", "strconv.ErrSyntax", "strconv.ErrRange", "internal/strconv.uint64pow10", "math/bits.deBruijn32tab", "math/bits.deBruijn64tab", "hagioscope/addr.ahead"], plainKeys := false, apart := false, laid := [("math/bits.deBruijn32tab", laid_math_bits_deBruijn32tab), ("math/bits.deBruijn64tab", laid_math_bits_deBruijn64tab), ("internal/strconv.uint64pow10", laid_internal_strconv_uint64pow10), ("unicode/utf8.acceptRanges", laid_unicode_utf8_acceptRanges), ("strconv.ErrRange", laid_strconv_ErrRange), ("strconv.ErrSyntax", laid_strconv_ErrSyntax), ("hagioscope/addr.ahead", laid_hagioscope_addr_ahead), ("unicode/utf8.first", laid_unicode_utf8_first)], narrowed := true }
def CidrBackUptoSaid : Prop := cidrBackUptoRow.holds Tryz.pinned (OpenSpec.upto cidrBackSpec)

/-- 'hagioscopelaw04.CidrFinds', WHERE WHAT IT READS IS OF BULK AT MOST 1048576: true; the input reads as it did. -/
def cidrFindsUptoRow : OpenClaim := { program := "ytohblhfdgoigdaagreatdoor", sum := "9197aa1f6b8007bc439817e59e5e8d208b318c9ea6fef4f0097ebc77bff9082d", func := "hagioscope/hagioscopelaw04.CidrFinds", spec := "cidrFinds", inPlace := ["internal/bytealg.IndexByteString", "internal/bytealg.IndexString", "internal/bytealg.CountString", "internal/abi.NoEscape", "internal/bytealg.MakeNoZero"], unfollowed := true, recurses := true, named := ["internal/bytealg.MaxLen", "unicode/utf8.first", "unicode/utf8.acceptRanges", "strconv.ErrSyntax", "strconv.ErrRange", "internal/strconv.uint64pow10", "math/bits.deBruijn32tab", "math/bits.deBruijn64tab", "hagioscope/addr.ahead"], plainKeys := false, apart := false, laid := [("math/bits.deBruijn32tab", laid_math_bits_deBruijn32tab), ("math/bits.deBruijn64tab", laid_math_bits_deBruijn64tab), ("internal/strconv.uint64pow10", laid_internal_strconv_uint64pow10), ("unicode/utf8.acceptRanges", laid_unicode_utf8_acceptRanges), ("strconv.ErrRange", laid_strconv_ErrRange), ("strconv.ErrSyntax", laid_strconv_ErrSyntax), ("hagioscope/addr.ahead", laid_hagioscope_addr_ahead), ("unicode/utf8.first", laid_unicode_utf8_first)], narrowed := true }
def CidrFindsUptoSaid : Prop := cidrFindsUptoRow.holds Tryz.pinned (OpenSpec.upto cidrFindsSpec)

/-- 'hagioscopelaw04.CidrNests', WHERE WHAT IT READS IS OF BULK AT MOST 1048576: true; the input reads as it did. -/
def cidrNestsUptoRow : OpenClaim := { program := "ytohblhfdgoigdaagreatdoor", sum := "9197aa1f6b8007bc439817e59e5e8d208b318c9ea6fef4f0097ebc77bff9082d", func := "hagioscope/hagioscopelaw04.CidrNests", spec := "cidrNests", inPlace := ["internal/bytealg.IndexByteString", "internal/bytealg.IndexString", "internal/bytealg.CountString", "internal/abi.NoEscape", "internal/bytealg.MakeNoZero"], unfollowed := true, recurses := true, named := ["internal/bytealg.MaxLen", "unicode/utf8.first", "unicode/utf8.acceptRanges", "strconv.ErrSyntax", "strconv.ErrRange", "internal/strconv.uint64pow10", "math/bits.deBruijn32tab", "math/bits.deBruijn64tab", "hagioscope/addr.ahead"], plainKeys := false, apart := false, laid := [("math/bits.deBruijn32tab", laid_math_bits_deBruijn32tab), ("math/bits.deBruijn64tab", laid_math_bits_deBruijn64tab), ("internal/strconv.uint64pow10", laid_internal_strconv_uint64pow10), ("unicode/utf8.acceptRanges", laid_unicode_utf8_acceptRanges), ("strconv.ErrRange", laid_strconv_ErrRange), ("strconv.ErrSyntax", laid_strconv_ErrSyntax), ("hagioscope/addr.ahead", laid_hagioscope_addr_ahead), ("unicode/utf8.first", laid_unicode_utf8_first)], narrowed := true }
def CidrNestsUptoSaid : Prop := cidrNestsUptoRow.holds Tryz.pinned (OpenSpec.upto cidrNestsSpec)

/-- 'hagioscopelaw04.CidrOrder', WHERE WHAT IT READS IS OF BULK AT MOST 1048576: true; the input reads as it did. -/
def cidrOrderUptoRow : OpenClaim := { program := "ytohblhfdgoigdaagreatdoor", sum := "9197aa1f6b8007bc439817e59e5e8d208b318c9ea6fef4f0097ebc77bff9082d", func := "hagioscope/hagioscopelaw04.CidrOrder", spec := "cidrOrder", inPlace := ["internal/bytealg.IndexByteString", "internal/bytealg.IndexString", "internal/bytealg.CountString", "internal/abi.NoEscape", "internal/bytealg.MakeNoZero"], unfollowed := true, recurses := true, named := ["internal/bytealg.MaxLen", "unicode/utf8.first", "unicode/utf8.acceptRanges", "strconv.ErrSyntax", "strconv.ErrRange", "internal/strconv.uint64pow10", "math/bits.deBruijn32tab", "math/bits.deBruijn64tab", "hagioscope/addr.ahead"], plainKeys := false, apart := false, laid := [("math/bits.deBruijn32tab", laid_math_bits_deBruijn32tab), ("math/bits.deBruijn64tab", laid_math_bits_deBruijn64tab), ("internal/strconv.uint64pow10", laid_internal_strconv_uint64pow10), ("unicode/utf8.acceptRanges", laid_unicode_utf8_acceptRanges), ("strconv.ErrRange", laid_strconv_ErrRange), ("strconv.ErrSyntax", laid_strconv_ErrSyntax), ("hagioscope/addr.ahead", laid_hagioscope_addr_ahead), ("unicode/utf8.first", laid_unicode_utf8_first)], narrowed := true }
def CidrOrderUptoSaid : Prop := cidrOrderUptoRow.holds Tryz.pinned (OpenSpec.upto cidrOrderSpec)

end Rows
end Go.Proofs.YtohblhfdgoigdaaGreatDoor
