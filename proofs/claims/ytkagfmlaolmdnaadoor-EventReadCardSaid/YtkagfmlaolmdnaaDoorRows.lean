/-
  NARROWER THAN 'FOR EVERY INPUT', by the rows' own cells (each row's printed sentence says how): OwnerPrefix: laid · OwnerAddress: laid · OwnerBack: laid · OwnerNone: laid · OwnerApart: laid · OwnerLong: laid · OwnerRead: laid · EventMay: laid · EventTwo: laid · EventBytes: laid · EventRead: laid.
  DERIVED. THE GIVEN ROWS OF THIS SEAT. 11 by the template 'for every input the law returns true; each argument reads behind the call as it read before'; 0 by the template 'total and deterministic' (their statements: YtkagfmlaolmdnaaDoorTotals.lean).
  GIVEN WITH THE SEED: the statements are not yours to turn. If you find one false, say at which input.
  Laid BY PROGRAM, IN A SANDBOX (cutbox-rows.mjs): the forced cells as the released guide's own fill.sh prints them over the translation 64c975a8c2b381f5… (all of the seat's roots in one cut). By AI agents, Wed Nov 11 2026. No macro, syntax, notation, axiom, sorry.
-/
import Derived.Test.YtkagfmlaolmdnaaDoorChecked
import GoSem.Claim
import GoSem.ClaimJoined
import GoSem.ClaimMapViews
import Derived.JoinedTies
import Derived.KernelRfl
namespace Go.Proofs.YtkagfmlaolmdnaaDoor
/- THE CELL 'sum', in the pinned program and in every row, IS THE sha256 OF THE DUMP (.gsa) THAT YtkagfmlaolmdnaaDoorProg.lean LOADS. Nothing in Lean hashes anything: it is a label: what it is worth is what the hold of that sum in a sandbox is worth. -/
noncomputable def Tryd.pinned : Pinned := { name := "ytkagfmlaolmdnaadoor", sum := "64c975a8c2b381f5cdd33f2c8fa445f504fea39adad3488ab892818ff7dadd39", checked := Tryd.checked }
namespace Rows
def none {H : Type} : Left H := { results := [], args := [] }

/- WHAT THE LISTED PACKAGE-LEVEL VARIABLES READ AS WHEN THE CALL BEGINS. Each datum BY PROGRAM (the guide's laid-datum.mjs) off the statement by which the dump's own 'gosem.cut.vars' lays the variable. In a bare row this is a premise. The card (YtkagfmlaolmdnaaDoorCards.lean) ties it to the program's text. -/
def laid_math_bits_deBruijn32tab {H : Type} : DataW H := .agg [.lit (.int .u8 0), .lit (.int .u8 1), .lit (.int .u8 28), .lit (.int .u8 2), .lit (.int .u8 29), .lit (.int .u8 14), .lit (.int .u8 24), .lit (.int .u8 3), .lit (.int .u8 30), .lit (.int .u8 22), .lit (.int .u8 20), .lit (.int .u8 15), .lit (.int .u8 25), .lit (.int .u8 17), .lit (.int .u8 4), .lit (.int .u8 8), .lit (.int .u8 31), .lit (.int .u8 27), .lit (.int .u8 13), .lit (.int .u8 23), .lit (.int .u8 21), .lit (.int .u8 19), .lit (.int .u8 16), .lit (.int .u8 7), .lit (.int .u8 26), .lit (.int .u8 12), .lit (.int .u8 18), .lit (.int .u8 6), .lit (.int .u8 11), .lit (.int .u8 5), .lit (.int .u8 10), .lit (.int .u8 9)]
def laid_math_bits_deBruijn64tab {H : Type} : DataW H := .agg [.lit (.int .u8 0), .lit (.int .u8 1), .lit (.int .u8 56), .lit (.int .u8 2), .lit (.int .u8 57), .lit (.int .u8 49), .lit (.int .u8 28), .lit (.int .u8 3), .lit (.int .u8 61), .lit (.int .u8 58), .lit (.int .u8 42), .lit (.int .u8 50), .lit (.int .u8 38), .lit (.int .u8 29), .lit (.int .u8 17), .lit (.int .u8 4), .lit (.int .u8 62), .lit (.int .u8 47), .lit (.int .u8 59), .lit (.int .u8 36), .lit (.int .u8 45), .lit (.int .u8 43), .lit (.int .u8 51), .lit (.int .u8 22), .lit (.int .u8 53), .lit (.int .u8 39), .lit (.int .u8 33), .lit (.int .u8 30), .lit (.int .u8 24), .lit (.int .u8 18), .lit (.int .u8 12), .lit (.int .u8 5), .lit (.int .u8 63), .lit (.int .u8 55), .lit (.int .u8 48), .lit (.int .u8 27), .lit (.int .u8 60), .lit (.int .u8 41), .lit (.int .u8 37), .lit (.int .u8 16), .lit (.int .u8 46), .lit (.int .u8 35), .lit (.int .u8 44), .lit (.int .u8 21), .lit (.int .u8 52), .lit (.int .u8 32), .lit (.int .u8 23), .lit (.int .u8 11), .lit (.int .u8 54), .lit (.int .u8 26), .lit (.int .u8 40), .lit (.int .u8 15), .lit (.int .u8 34), .lit (.int .u8 20), .lit (.int .u8 31), .lit (.int .u8 10), .lit (.int .u8 25), .lit (.int .u8 14), .lit (.int .u8 19), .lit (.int .u8 9), .lit (.int .u8 13), .lit (.int .u8 8), .lit (.int .u8 7), .lit (.int .u8 6)]
def laid_internal_strconv_uint64pow10 {H : Type} : DataW H := .agg [.lit (.int .u64 1), .lit (.int .u64 10), .lit (.int .u64 100), .lit (.int .u64 1000), .lit (.int .u64 10000), .lit (.int .u64 100000), .lit (.int .u64 1000000), .lit (.int .u64 10000000), .lit (.int .u64 100000000), .lit (.int .u64 1000000000), .lit (.int .u64 10000000000), .lit (.int .u64 100000000000), .lit (.int .u64 1000000000000), .lit (.int .u64 10000000000000), .lit (.int .u64 100000000000000), .lit (.int .u64 1000000000000000), .lit (.int .u64 10000000000000000), .lit (.int .u64 100000000000000000), .lit (.int .u64 1000000000000000000), .lit (.int .u64 10000000000000000000)]
def laid_strconv_ErrRange {H : Type} : DataW H := .iface "*errors.errorString" (.ptr (.agg [.lit (.string [118, 97, 108, 117, 101, 32, 111, 117, 116, 32, 111, 102, 32, 114, 97, 110, 103, 101])]))
def laid_strconv_ErrSyntax {H : Type} : DataW H := .iface "*errors.errorString" (.ptr (.agg [.lit (.string [105, 110, 118, 97, 108, 105, 100, 32, 115, 121, 110, 116, 97, 120])]))

/-- 'bolterlaw13.OwnerPrefix': WHATEVER THE INPUT: true; the input reads as it did. -/
def ownerPrefixSpec : ChangeSpec := { name := "ownerPrefix", fn := fun _ => fun
  | [d1, d2, d3, d4] => { results := [.lit (.bool true)], args := [d1, d2, d3, d4] }
  | _ => none }
def ownerPrefixRow : OpenClaim := { program := "ytkagfmlaolmdnaadoor", sum := "64c975a8c2b381f5cdd33f2c8fa445f504fea39adad3488ab892818ff7dadd39", func := "bolter/bolterlaw13.OwnerPrefix", spec := "ownerPrefix", inPlace := ["internal/abi.NoEscape", "slices.overlaps[string]"], recurses := true, named := ["strconv.ErrSyntax", "strconv.ErrRange", "internal/strconv.uint64pow10", "math/bits.deBruijn32tab", "math/bits.deBruijn64tab"], apart := false, laid := [("math/bits.deBruijn32tab", laid_math_bits_deBruijn32tab), ("math/bits.deBruijn64tab", laid_math_bits_deBruijn64tab), ("internal/strconv.uint64pow10", laid_internal_strconv_uint64pow10), ("strconv.ErrRange", laid_strconv_ErrRange), ("strconv.ErrSyntax", laid_strconv_ErrSyntax)] }
def OwnerPrefixSaid : Prop := ownerPrefixRow.holds Tryd.pinned (OpenSpec.ofChange ownerPrefixSpec)

/-- ITS FALSE NEIGHBOUR: 'it returns false'. Refute it at one input. -/
def ownerPrefixWrong : ChangeSpec := { name := "ownerPrefix", fn := fun _ => fun
  | [d1, d2, d3, d4] => { results := [.lit (.bool false)], args := [d1, d2, d3, d4] }
  | _ => none }
def OwnerPrefixWrongFalsely : Prop := ownerPrefixRow.holds Tryd.pinned (OpenSpec.ofChange ownerPrefixWrong)

/-- 'bolterlaw13.OwnerAddress': WHATEVER THE INPUT: true; the input reads as it did. -/
def ownerAddressSpec : ChangeSpec := { name := "ownerAddress", fn := fun _ => fun
  | [d1, d2, d3, d4, d5, d6] => { results := [.lit (.bool true)], args := [d1, d2, d3, d4, d5, d6] }
  | _ => none }
def ownerAddressRow : OpenClaim := { program := "ytkagfmlaolmdnaadoor", sum := "64c975a8c2b381f5cdd33f2c8fa445f504fea39adad3488ab892818ff7dadd39", func := "bolter/bolterlaw13.OwnerAddress", spec := "ownerAddress", inPlace := ["internal/abi.NoEscape", "slices.overlaps[string]"], recurses := true, named := ["strconv.ErrSyntax", "strconv.ErrRange", "internal/strconv.uint64pow10", "math/bits.deBruijn32tab", "math/bits.deBruijn64tab"], apart := false, laid := [("math/bits.deBruijn32tab", laid_math_bits_deBruijn32tab), ("math/bits.deBruijn64tab", laid_math_bits_deBruijn64tab), ("internal/strconv.uint64pow10", laid_internal_strconv_uint64pow10), ("strconv.ErrRange", laid_strconv_ErrRange), ("strconv.ErrSyntax", laid_strconv_ErrSyntax)] }
def OwnerAddressSaid : Prop := ownerAddressRow.holds Tryd.pinned (OpenSpec.ofChange ownerAddressSpec)

/-- ITS FALSE NEIGHBOUR: 'it returns false'. Refute it at one input. -/
def ownerAddressWrong : ChangeSpec := { name := "ownerAddress", fn := fun _ => fun
  | [d1, d2, d3, d4, d5, d6] => { results := [.lit (.bool false)], args := [d1, d2, d3, d4, d5, d6] }
  | _ => none }
def OwnerAddressWrongFalsely : Prop := ownerAddressRow.holds Tryd.pinned (OpenSpec.ofChange ownerAddressWrong)

/-- 'bolterlaw13.OwnerBack': WHATEVER THE INPUT: true; the input reads as it did. -/
def ownerBackSpec : ChangeSpec := { name := "ownerBack", fn := fun _ => fun
  | [d1, d2, d3, d4] => { results := [.lit (.bool true)], args := [d1, d2, d3, d4] }
  | _ => none }
def ownerBackRow : OpenClaim := { program := "ytkagfmlaolmdnaadoor", sum := "64c975a8c2b381f5cdd33f2c8fa445f504fea39adad3488ab892818ff7dadd39", func := "bolter/bolterlaw13.OwnerBack", spec := "ownerBack", inPlace := ["internal/abi.NoEscape", "slices.overlaps[string]"], recurses := true, named := ["strconv.ErrSyntax", "strconv.ErrRange", "internal/strconv.uint64pow10", "math/bits.deBruijn32tab", "math/bits.deBruijn64tab"], apart := false, laid := [("math/bits.deBruijn32tab", laid_math_bits_deBruijn32tab), ("math/bits.deBruijn64tab", laid_math_bits_deBruijn64tab), ("internal/strconv.uint64pow10", laid_internal_strconv_uint64pow10), ("strconv.ErrRange", laid_strconv_ErrRange), ("strconv.ErrSyntax", laid_strconv_ErrSyntax)] }
def OwnerBackSaid : Prop := ownerBackRow.holds Tryd.pinned (OpenSpec.ofChange ownerBackSpec)

/-- ITS FALSE NEIGHBOUR: 'it returns false'. Refute it at one input. -/
def ownerBackWrong : ChangeSpec := { name := "ownerBack", fn := fun _ => fun
  | [d1, d2, d3, d4] => { results := [.lit (.bool false)], args := [d1, d2, d3, d4] }
  | _ => none }
def OwnerBackWrongFalsely : Prop := ownerBackRow.holds Tryd.pinned (OpenSpec.ofChange ownerBackWrong)

/-- 'bolterlaw13.OwnerNone': WHATEVER THE INPUT: true; the input reads as it did. -/
def ownerNoneSpec : ChangeSpec := { name := "ownerNone", fn := fun _ => fun
  | [d] => { results := [.lit (.bool true)], args := [d] }
  | _ => none }
def ownerNoneRow : OpenClaim := { program := "ytkagfmlaolmdnaadoor", sum := "64c975a8c2b381f5cdd33f2c8fa445f504fea39adad3488ab892818ff7dadd39", func := "bolter/bolterlaw13.OwnerNone", spec := "ownerNone", inPlace := ["internal/abi.NoEscape", "slices.overlaps[string]"], named := ["strconv.ErrSyntax", "strconv.ErrRange", "internal/strconv.uint64pow10", "math/bits.deBruijn32tab", "math/bits.deBruijn64tab"], apart := false, laid := [("math/bits.deBruijn32tab", laid_math_bits_deBruijn32tab), ("math/bits.deBruijn64tab", laid_math_bits_deBruijn64tab), ("internal/strconv.uint64pow10", laid_internal_strconv_uint64pow10), ("strconv.ErrRange", laid_strconv_ErrRange), ("strconv.ErrSyntax", laid_strconv_ErrSyntax)] }
def OwnerNoneSaid : Prop := ownerNoneRow.holds Tryd.pinned (OpenSpec.ofChange ownerNoneSpec)

/-- ITS FALSE NEIGHBOUR: 'it returns false'. Refute it at one input. -/
def ownerNoneWrong : ChangeSpec := { name := "ownerNone", fn := fun _ => fun
  | [d] => { results := [.lit (.bool false)], args := [d] }
  | _ => none }
def OwnerNoneWrongFalsely : Prop := ownerNoneRow.holds Tryd.pinned (OpenSpec.ofChange ownerNoneWrong)

/-- 'bolterlaw13.OwnerApart': WHATEVER THE INPUT: true; the input reads as it did. -/
def ownerApartSpec : ChangeSpec := { name := "ownerApart", fn := fun _ => fun
  | [d1, d2] => { results := [.lit (.bool true)], args := [d1, d2] }
  | _ => none }
def ownerApartRow : OpenClaim := { program := "ytkagfmlaolmdnaadoor", sum := "64c975a8c2b381f5cdd33f2c8fa445f504fea39adad3488ab892818ff7dadd39", func := "bolter/bolterlaw13.OwnerApart", spec := "ownerApart", inPlace := ["internal/abi.NoEscape", "slices.overlaps[string]"], named := ["strconv.ErrSyntax", "strconv.ErrRange", "internal/strconv.uint64pow10", "math/bits.deBruijn32tab", "math/bits.deBruijn64tab"], apart := false, laid := [("math/bits.deBruijn32tab", laid_math_bits_deBruijn32tab), ("math/bits.deBruijn64tab", laid_math_bits_deBruijn64tab), ("internal/strconv.uint64pow10", laid_internal_strconv_uint64pow10), ("strconv.ErrRange", laid_strconv_ErrRange), ("strconv.ErrSyntax", laid_strconv_ErrSyntax)] }
def OwnerApartSaid : Prop := ownerApartRow.holds Tryd.pinned (OpenSpec.ofChange ownerApartSpec)

/-- ITS FALSE NEIGHBOUR: 'it returns false'. Refute it at one input. -/
def ownerApartWrong : ChangeSpec := { name := "ownerApart", fn := fun _ => fun
  | [d1, d2] => { results := [.lit (.bool false)], args := [d1, d2] }
  | _ => none }
def OwnerApartWrongFalsely : Prop := ownerApartRow.holds Tryd.pinned (OpenSpec.ofChange ownerApartWrong)

/-- 'bolterlaw13.OwnerLong': WHATEVER THE INPUT: true; the input reads as it did. -/
def ownerLongSpec : ChangeSpec := { name := "ownerLong", fn := fun _ => fun
  | [d1, d2] => { results := [.lit (.bool true)], args := [d1, d2] }
  | _ => none }
def ownerLongRow : OpenClaim := { program := "ytkagfmlaolmdnaadoor", sum := "64c975a8c2b381f5cdd33f2c8fa445f504fea39adad3488ab892818ff7dadd39", func := "bolter/bolterlaw13.OwnerLong", spec := "ownerLong", inPlace := ["internal/abi.NoEscape", "slices.overlaps[string]"], named := ["strconv.ErrSyntax", "strconv.ErrRange", "internal/strconv.uint64pow10", "math/bits.deBruijn32tab", "math/bits.deBruijn64tab"], apart := false, laid := [("math/bits.deBruijn32tab", laid_math_bits_deBruijn32tab), ("math/bits.deBruijn64tab", laid_math_bits_deBruijn64tab), ("internal/strconv.uint64pow10", laid_internal_strconv_uint64pow10), ("strconv.ErrRange", laid_strconv_ErrRange), ("strconv.ErrSyntax", laid_strconv_ErrSyntax)] }
def OwnerLongSaid : Prop := ownerLongRow.holds Tryd.pinned (OpenSpec.ofChange ownerLongSpec)

/-- ITS FALSE NEIGHBOUR: 'it returns false'. Refute it at one input. -/
def ownerLongWrong : ChangeSpec := { name := "ownerLong", fn := fun _ => fun
  | [d1, d2] => { results := [.lit (.bool false)], args := [d1, d2] }
  | _ => none }
def OwnerLongWrongFalsely : Prop := ownerLongRow.holds Tryd.pinned (OpenSpec.ofChange ownerLongWrong)

/-- 'bolterlaw13.OwnerRead': WHATEVER THE INPUT: true; the input reads as it did. -/
def ownerReadSpec : ChangeSpec := { name := "ownerRead", fn := fun _ => fun
  | [d1, d2, d3] => { results := [.lit (.bool true)], args := [d1, d2, d3] }
  | _ => none }
def ownerReadRow : OpenClaim := { program := "ytkagfmlaolmdnaadoor", sum := "64c975a8c2b381f5cdd33f2c8fa445f504fea39adad3488ab892818ff7dadd39", func := "bolter/bolterlaw13.OwnerRead", spec := "ownerRead", inPlace := ["internal/abi.NoEscape", "slices.overlaps[string]"], named := ["strconv.ErrSyntax", "strconv.ErrRange", "internal/strconv.uint64pow10", "math/bits.deBruijn32tab", "math/bits.deBruijn64tab"], apart := false, laid := [("math/bits.deBruijn32tab", laid_math_bits_deBruijn32tab), ("math/bits.deBruijn64tab", laid_math_bits_deBruijn64tab), ("internal/strconv.uint64pow10", laid_internal_strconv_uint64pow10), ("strconv.ErrRange", laid_strconv_ErrRange), ("strconv.ErrSyntax", laid_strconv_ErrSyntax)] }
def OwnerReadSaid : Prop := ownerReadRow.holds Tryd.pinned (OpenSpec.ofChange ownerReadSpec)

/-- ITS FALSE NEIGHBOUR: 'it returns false'. Refute it at one input. -/
def ownerReadWrong : ChangeSpec := { name := "ownerRead", fn := fun _ => fun
  | [d1, d2, d3] => { results := [.lit (.bool false)], args := [d1, d2, d3] }
  | _ => none }
def OwnerReadWrongFalsely : Prop := ownerReadRow.holds Tryd.pinned (OpenSpec.ofChange ownerReadWrong)

/-- 'bolterlaw25.EventMay': WHATEVER THE INPUT: true; the input reads as it did. -/
def eventMaySpec : ChangeSpec := { name := "eventMay", fn := fun _ => fun
  | [d] => { results := [.lit (.bool true)], args := [d] }
  | _ => none }
def eventMayRow : OpenClaim := { program := "ytkagfmlaolmdnaadoor", sum := "64c975a8c2b381f5cdd33f2c8fa445f504fea39adad3488ab892818ff7dadd39", func := "bolter/bolterlaw25.EventMay", spec := "eventMay", inPlace := ["internal/abi.NoEscape", "slices.overlaps[string]"], unfollowed := true, recurses := true, named := ["internal/strconv.uint64pow10", "math/bits.deBruijn32tab", "math/bits.deBruijn64tab", "strconv.ErrSyntax", "strconv.ErrRange"], apart := false, laid := [("math/bits.deBruijn32tab", laid_math_bits_deBruijn32tab), ("math/bits.deBruijn64tab", laid_math_bits_deBruijn64tab), ("internal/strconv.uint64pow10", laid_internal_strconv_uint64pow10), ("strconv.ErrRange", laid_strconv_ErrRange), ("strconv.ErrSyntax", laid_strconv_ErrSyntax)] }
def EventMaySaid : Prop := eventMayRow.holds Tryd.pinned (OpenSpec.ofChange eventMaySpec)

/-- ITS FALSE NEIGHBOUR: 'it returns false'. Refute it at one input. -/
def eventMayWrong : ChangeSpec := { name := "eventMay", fn := fun _ => fun
  | [d] => { results := [.lit (.bool false)], args := [d] }
  | _ => none }
def EventMayWrongFalsely : Prop := eventMayRow.holds Tryd.pinned (OpenSpec.ofChange eventMayWrong)

/-- 'bolterlaw25.EventTwo': WHATEVER THE INPUT: true; the input reads as it did. -/
def eventTwoSpec : ChangeSpec := { name := "eventTwo", fn := fun _ => fun
  | [d1, d2, d3, d4] => { results := [.lit (.bool true)], args := [d1, d2, d3, d4] }
  | _ => none }
def eventTwoRow : OpenClaim := { program := "ytkagfmlaolmdnaadoor", sum := "64c975a8c2b381f5cdd33f2c8fa445f504fea39adad3488ab892818ff7dadd39", func := "bolter/bolterlaw25.EventTwo", spec := "eventTwo", inPlace := ["internal/abi.NoEscape", "slices.overlaps[string]"], named := ["internal/strconv.uint64pow10", "math/bits.deBruijn32tab", "math/bits.deBruijn64tab", "strconv.ErrSyntax", "strconv.ErrRange"], apart := false, laid := [("math/bits.deBruijn32tab", laid_math_bits_deBruijn32tab), ("math/bits.deBruijn64tab", laid_math_bits_deBruijn64tab), ("internal/strconv.uint64pow10", laid_internal_strconv_uint64pow10), ("strconv.ErrRange", laid_strconv_ErrRange), ("strconv.ErrSyntax", laid_strconv_ErrSyntax)] }
def EventTwoSaid : Prop := eventTwoRow.holds Tryd.pinned (OpenSpec.ofChange eventTwoSpec)

/-- ITS FALSE NEIGHBOUR: 'it returns false'. Refute it at one input. -/
def eventTwoWrong : ChangeSpec := { name := "eventTwo", fn := fun _ => fun
  | [d1, d2, d3, d4] => { results := [.lit (.bool false)], args := [d1, d2, d3, d4] }
  | _ => none }
def EventTwoWrongFalsely : Prop := eventTwoRow.holds Tryd.pinned (OpenSpec.ofChange eventTwoWrong)

/-- 'bolterlaw25.EventBytes': WHATEVER THE INPUT: true; the input reads as it did. -/
def eventBytesSpec : ChangeSpec := { name := "eventBytes", fn := fun _ => fun
  | [d] => { results := [.lit (.bool true)], args := [d] }
  | _ => none }
def eventBytesRow : OpenClaim := { program := "ytkagfmlaolmdnaadoor", sum := "64c975a8c2b381f5cdd33f2c8fa445f504fea39adad3488ab892818ff7dadd39", func := "bolter/bolterlaw25.EventBytes", spec := "eventBytes", inPlace := ["internal/abi.NoEscape", "slices.overlaps[string]"], unfollowed := true, recurses := true, named := ["internal/strconv.uint64pow10", "math/bits.deBruijn32tab", "math/bits.deBruijn64tab", "strconv.ErrSyntax", "strconv.ErrRange"], apart := false, laid := [("math/bits.deBruijn32tab", laid_math_bits_deBruijn32tab), ("math/bits.deBruijn64tab", laid_math_bits_deBruijn64tab), ("internal/strconv.uint64pow10", laid_internal_strconv_uint64pow10), ("strconv.ErrRange", laid_strconv_ErrRange), ("strconv.ErrSyntax", laid_strconv_ErrSyntax)] }
def EventBytesSaid : Prop := eventBytesRow.holds Tryd.pinned (OpenSpec.ofChange eventBytesSpec)

/-- ITS FALSE NEIGHBOUR: 'it returns false'. Refute it at one input. -/
def eventBytesWrong : ChangeSpec := { name := "eventBytes", fn := fun _ => fun
  | [d] => { results := [.lit (.bool false)], args := [d] }
  | _ => none }
def EventBytesWrongFalsely : Prop := eventBytesRow.holds Tryd.pinned (OpenSpec.ofChange eventBytesWrong)

/-- 'bolterlaw25.EventRead': WHATEVER THE INPUT: true; the input reads as it did. -/
def eventReadSpec : ChangeSpec := { name := "eventRead", fn := fun _ => fun
  | [d1, d2, d3, d4] => { results := [.lit (.bool true)], args := [d1, d2, d3, d4] }
  | _ => none }
def eventReadRow : OpenClaim := { program := "ytkagfmlaolmdnaadoor", sum := "64c975a8c2b381f5cdd33f2c8fa445f504fea39adad3488ab892818ff7dadd39", func := "bolter/bolterlaw25.EventRead", spec := "eventRead", inPlace := ["internal/abi.NoEscape", "slices.overlaps[string]"], unfollowed := true, recurses := true, named := ["internal/strconv.uint64pow10", "math/bits.deBruijn32tab", "math/bits.deBruijn64tab", "strconv.ErrSyntax", "strconv.ErrRange"], apart := false, laid := [("math/bits.deBruijn32tab", laid_math_bits_deBruijn32tab), ("math/bits.deBruijn64tab", laid_math_bits_deBruijn64tab), ("internal/strconv.uint64pow10", laid_internal_strconv_uint64pow10), ("strconv.ErrRange", laid_strconv_ErrRange), ("strconv.ErrSyntax", laid_strconv_ErrSyntax)] }
def EventReadSaid : Prop := eventReadRow.holds Tryd.pinned (OpenSpec.ofChange eventReadSpec)

/-- ITS FALSE NEIGHBOUR: 'it returns false'. Refute it at one input. -/
def eventReadWrong : ChangeSpec := { name := "eventRead", fn := fun _ => fun
  | [d1, d2, d3, d4] => { results := [.lit (.bool false)], args := [d1, d2, d3, d4] }
  | _ => none }
def EventReadWrongFalsely : Prop := eventReadRow.holds Tryd.pinned (OpenSpec.ofChange eventReadWrong)

/- THE SECOND FORM. 'bulk': how many values and letters a reading holds, each counted each time it is reached (what is shared counts as often as it is met; a slice's spare places count too). A statement '..UptoSaid' is the law's where the arguments, and the package variables that the reading takes, are together of bulk at most 1048576: NARROWER than '..Said'. Prove '..Said' where nothing that the law and all that it calls make is longer than what came in: it says more and counts as full. Else prove '..UptoSaid'. A law counts once. -/
mutual
def uptoBulk {H : Type} : DataW H → Nat
  | .lit (.string bytes) => bytes.length + 1
  | .lit _ => 1
  | .nil => 1
  | .ptr d => uptoBulk d + 1
  | .slice elems spare => uptoBulkAll elems + uptoBulkAll spare + 1
  | .agg parts => uptoBulkAll parts + 1
  | .iface _ d => uptoBulk d + 1
  | .map entries => uptoBulkEntries entries + 1
  | .held _ => 1
def uptoBulkAll {H : Type} : List (DataW H) → Nat
  | [] => 0
  | d :: r => uptoBulk d + uptoBulkAll r
def uptoBulkEntries {H : Type} : List (Lit × DataW H) → Nat
  | [] => 0
  | x :: r => uptoBulkEntry x + uptoBulkEntries r
def uptoBulkEntry {H : Type} : Lit × DataW H → Nat
  | (.string bytes, d) => bytes.length + uptoBulk d + 1
  | (_, d) => uptoBulk d + 1
 end
def uptoSmall : (H : Type) → List (DataW H) → Bool := fun _ ds => decide (uptoBulkAll ds ≤ 1048576)
def OpenSpec.upto (s : _root_.Go.ChangeSpec) : _root_.Go.OpenSpec := { _root_.Go.OpenSpec.ofChange s with cond := some uptoSmall }

/-- 'bolterlaw13.OwnerPrefix', WHERE WHAT IT READS IS OF BULK AT MOST 1048576: true; the input reads as it did. -/
def ownerPrefixUptoRow : OpenClaim := { program := "ytkagfmlaolmdnaadoor", sum := "64c975a8c2b381f5cdd33f2c8fa445f504fea39adad3488ab892818ff7dadd39", func := "bolter/bolterlaw13.OwnerPrefix", spec := "ownerPrefix", inPlace := ["internal/abi.NoEscape", "slices.overlaps[string]"], recurses := true, named := ["strconv.ErrSyntax", "strconv.ErrRange", "internal/strconv.uint64pow10", "math/bits.deBruijn32tab", "math/bits.deBruijn64tab"], apart := false, laid := [("math/bits.deBruijn32tab", laid_math_bits_deBruijn32tab), ("math/bits.deBruijn64tab", laid_math_bits_deBruijn64tab), ("internal/strconv.uint64pow10", laid_internal_strconv_uint64pow10), ("strconv.ErrRange", laid_strconv_ErrRange), ("strconv.ErrSyntax", laid_strconv_ErrSyntax)], narrowed := true }
def OwnerPrefixUptoSaid : Prop := ownerPrefixUptoRow.holds Tryd.pinned (OpenSpec.upto ownerPrefixSpec)

/-- 'bolterlaw13.OwnerAddress', WHERE WHAT IT READS IS OF BULK AT MOST 1048576: true; the input reads as it did. -/
def ownerAddressUptoRow : OpenClaim := { program := "ytkagfmlaolmdnaadoor", sum := "64c975a8c2b381f5cdd33f2c8fa445f504fea39adad3488ab892818ff7dadd39", func := "bolter/bolterlaw13.OwnerAddress", spec := "ownerAddress", inPlace := ["internal/abi.NoEscape", "slices.overlaps[string]"], recurses := true, named := ["strconv.ErrSyntax", "strconv.ErrRange", "internal/strconv.uint64pow10", "math/bits.deBruijn32tab", "math/bits.deBruijn64tab"], apart := false, laid := [("math/bits.deBruijn32tab", laid_math_bits_deBruijn32tab), ("math/bits.deBruijn64tab", laid_math_bits_deBruijn64tab), ("internal/strconv.uint64pow10", laid_internal_strconv_uint64pow10), ("strconv.ErrRange", laid_strconv_ErrRange), ("strconv.ErrSyntax", laid_strconv_ErrSyntax)], narrowed := true }
def OwnerAddressUptoSaid : Prop := ownerAddressUptoRow.holds Tryd.pinned (OpenSpec.upto ownerAddressSpec)

/-- 'bolterlaw13.OwnerBack', WHERE WHAT IT READS IS OF BULK AT MOST 1048576: true; the input reads as it did. -/
def ownerBackUptoRow : OpenClaim := { program := "ytkagfmlaolmdnaadoor", sum := "64c975a8c2b381f5cdd33f2c8fa445f504fea39adad3488ab892818ff7dadd39", func := "bolter/bolterlaw13.OwnerBack", spec := "ownerBack", inPlace := ["internal/abi.NoEscape", "slices.overlaps[string]"], recurses := true, named := ["strconv.ErrSyntax", "strconv.ErrRange", "internal/strconv.uint64pow10", "math/bits.deBruijn32tab", "math/bits.deBruijn64tab"], apart := false, laid := [("math/bits.deBruijn32tab", laid_math_bits_deBruijn32tab), ("math/bits.deBruijn64tab", laid_math_bits_deBruijn64tab), ("internal/strconv.uint64pow10", laid_internal_strconv_uint64pow10), ("strconv.ErrRange", laid_strconv_ErrRange), ("strconv.ErrSyntax", laid_strconv_ErrSyntax)], narrowed := true }
def OwnerBackUptoSaid : Prop := ownerBackUptoRow.holds Tryd.pinned (OpenSpec.upto ownerBackSpec)

/-- 'bolterlaw13.OwnerNone', WHERE WHAT IT READS IS OF BULK AT MOST 1048576: true; the input reads as it did. -/
def ownerNoneUptoRow : OpenClaim := { program := "ytkagfmlaolmdnaadoor", sum := "64c975a8c2b381f5cdd33f2c8fa445f504fea39adad3488ab892818ff7dadd39", func := "bolter/bolterlaw13.OwnerNone", spec := "ownerNone", inPlace := ["internal/abi.NoEscape", "slices.overlaps[string]"], named := ["strconv.ErrSyntax", "strconv.ErrRange", "internal/strconv.uint64pow10", "math/bits.deBruijn32tab", "math/bits.deBruijn64tab"], apart := false, laid := [("math/bits.deBruijn32tab", laid_math_bits_deBruijn32tab), ("math/bits.deBruijn64tab", laid_math_bits_deBruijn64tab), ("internal/strconv.uint64pow10", laid_internal_strconv_uint64pow10), ("strconv.ErrRange", laid_strconv_ErrRange), ("strconv.ErrSyntax", laid_strconv_ErrSyntax)], narrowed := true }
def OwnerNoneUptoSaid : Prop := ownerNoneUptoRow.holds Tryd.pinned (OpenSpec.upto ownerNoneSpec)

/-- 'bolterlaw13.OwnerApart', WHERE WHAT IT READS IS OF BULK AT MOST 1048576: true; the input reads as it did. -/
def ownerApartUptoRow : OpenClaim := { program := "ytkagfmlaolmdnaadoor", sum := "64c975a8c2b381f5cdd33f2c8fa445f504fea39adad3488ab892818ff7dadd39", func := "bolter/bolterlaw13.OwnerApart", spec := "ownerApart", inPlace := ["internal/abi.NoEscape", "slices.overlaps[string]"], named := ["strconv.ErrSyntax", "strconv.ErrRange", "internal/strconv.uint64pow10", "math/bits.deBruijn32tab", "math/bits.deBruijn64tab"], apart := false, laid := [("math/bits.deBruijn32tab", laid_math_bits_deBruijn32tab), ("math/bits.deBruijn64tab", laid_math_bits_deBruijn64tab), ("internal/strconv.uint64pow10", laid_internal_strconv_uint64pow10), ("strconv.ErrRange", laid_strconv_ErrRange), ("strconv.ErrSyntax", laid_strconv_ErrSyntax)], narrowed := true }
def OwnerApartUptoSaid : Prop := ownerApartUptoRow.holds Tryd.pinned (OpenSpec.upto ownerApartSpec)

/-- 'bolterlaw13.OwnerLong', WHERE WHAT IT READS IS OF BULK AT MOST 1048576: true; the input reads as it did. -/
def ownerLongUptoRow : OpenClaim := { program := "ytkagfmlaolmdnaadoor", sum := "64c975a8c2b381f5cdd33f2c8fa445f504fea39adad3488ab892818ff7dadd39", func := "bolter/bolterlaw13.OwnerLong", spec := "ownerLong", inPlace := ["internal/abi.NoEscape", "slices.overlaps[string]"], named := ["strconv.ErrSyntax", "strconv.ErrRange", "internal/strconv.uint64pow10", "math/bits.deBruijn32tab", "math/bits.deBruijn64tab"], apart := false, laid := [("math/bits.deBruijn32tab", laid_math_bits_deBruijn32tab), ("math/bits.deBruijn64tab", laid_math_bits_deBruijn64tab), ("internal/strconv.uint64pow10", laid_internal_strconv_uint64pow10), ("strconv.ErrRange", laid_strconv_ErrRange), ("strconv.ErrSyntax", laid_strconv_ErrSyntax)], narrowed := true }
def OwnerLongUptoSaid : Prop := ownerLongUptoRow.holds Tryd.pinned (OpenSpec.upto ownerLongSpec)

/-- 'bolterlaw13.OwnerRead', WHERE WHAT IT READS IS OF BULK AT MOST 1048576: true; the input reads as it did. -/
def ownerReadUptoRow : OpenClaim := { program := "ytkagfmlaolmdnaadoor", sum := "64c975a8c2b381f5cdd33f2c8fa445f504fea39adad3488ab892818ff7dadd39", func := "bolter/bolterlaw13.OwnerRead", spec := "ownerRead", inPlace := ["internal/abi.NoEscape", "slices.overlaps[string]"], named := ["strconv.ErrSyntax", "strconv.ErrRange", "internal/strconv.uint64pow10", "math/bits.deBruijn32tab", "math/bits.deBruijn64tab"], apart := false, laid := [("math/bits.deBruijn32tab", laid_math_bits_deBruijn32tab), ("math/bits.deBruijn64tab", laid_math_bits_deBruijn64tab), ("internal/strconv.uint64pow10", laid_internal_strconv_uint64pow10), ("strconv.ErrRange", laid_strconv_ErrRange), ("strconv.ErrSyntax", laid_strconv_ErrSyntax)], narrowed := true }
def OwnerReadUptoSaid : Prop := ownerReadUptoRow.holds Tryd.pinned (OpenSpec.upto ownerReadSpec)

/-- 'bolterlaw25.EventMay', WHERE WHAT IT READS IS OF BULK AT MOST 1048576: true; the input reads as it did. -/
def eventMayUptoRow : OpenClaim := { program := "ytkagfmlaolmdnaadoor", sum := "64c975a8c2b381f5cdd33f2c8fa445f504fea39adad3488ab892818ff7dadd39", func := "bolter/bolterlaw25.EventMay", spec := "eventMay", inPlace := ["internal/abi.NoEscape", "slices.overlaps[string]"], unfollowed := true, recurses := true, named := ["internal/strconv.uint64pow10", "math/bits.deBruijn32tab", "math/bits.deBruijn64tab", "strconv.ErrSyntax", "strconv.ErrRange"], apart := false, laid := [("math/bits.deBruijn32tab", laid_math_bits_deBruijn32tab), ("math/bits.deBruijn64tab", laid_math_bits_deBruijn64tab), ("internal/strconv.uint64pow10", laid_internal_strconv_uint64pow10), ("strconv.ErrRange", laid_strconv_ErrRange), ("strconv.ErrSyntax", laid_strconv_ErrSyntax)], narrowed := true }
def EventMayUptoSaid : Prop := eventMayUptoRow.holds Tryd.pinned (OpenSpec.upto eventMaySpec)

/-- 'bolterlaw25.EventTwo', WHERE WHAT IT READS IS OF BULK AT MOST 1048576: true; the input reads as it did. -/
def eventTwoUptoRow : OpenClaim := { program := "ytkagfmlaolmdnaadoor", sum := "64c975a8c2b381f5cdd33f2c8fa445f504fea39adad3488ab892818ff7dadd39", func := "bolter/bolterlaw25.EventTwo", spec := "eventTwo", inPlace := ["internal/abi.NoEscape", "slices.overlaps[string]"], named := ["internal/strconv.uint64pow10", "math/bits.deBruijn32tab", "math/bits.deBruijn64tab", "strconv.ErrSyntax", "strconv.ErrRange"], apart := false, laid := [("math/bits.deBruijn32tab", laid_math_bits_deBruijn32tab), ("math/bits.deBruijn64tab", laid_math_bits_deBruijn64tab), ("internal/strconv.uint64pow10", laid_internal_strconv_uint64pow10), ("strconv.ErrRange", laid_strconv_ErrRange), ("strconv.ErrSyntax", laid_strconv_ErrSyntax)], narrowed := true }
def EventTwoUptoSaid : Prop := eventTwoUptoRow.holds Tryd.pinned (OpenSpec.upto eventTwoSpec)

/-- 'bolterlaw25.EventBytes', WHERE WHAT IT READS IS OF BULK AT MOST 1048576: true; the input reads as it did. -/
def eventBytesUptoRow : OpenClaim := { program := "ytkagfmlaolmdnaadoor", sum := "64c975a8c2b381f5cdd33f2c8fa445f504fea39adad3488ab892818ff7dadd39", func := "bolter/bolterlaw25.EventBytes", spec := "eventBytes", inPlace := ["internal/abi.NoEscape", "slices.overlaps[string]"], unfollowed := true, recurses := true, named := ["internal/strconv.uint64pow10", "math/bits.deBruijn32tab", "math/bits.deBruijn64tab", "strconv.ErrSyntax", "strconv.ErrRange"], apart := false, laid := [("math/bits.deBruijn32tab", laid_math_bits_deBruijn32tab), ("math/bits.deBruijn64tab", laid_math_bits_deBruijn64tab), ("internal/strconv.uint64pow10", laid_internal_strconv_uint64pow10), ("strconv.ErrRange", laid_strconv_ErrRange), ("strconv.ErrSyntax", laid_strconv_ErrSyntax)], narrowed := true }
def EventBytesUptoSaid : Prop := eventBytesUptoRow.holds Tryd.pinned (OpenSpec.upto eventBytesSpec)

/-- 'bolterlaw25.EventRead', WHERE WHAT IT READS IS OF BULK AT MOST 1048576: true; the input reads as it did. -/
def eventReadUptoRow : OpenClaim := { program := "ytkagfmlaolmdnaadoor", sum := "64c975a8c2b381f5cdd33f2c8fa445f504fea39adad3488ab892818ff7dadd39", func := "bolter/bolterlaw25.EventRead", spec := "eventRead", inPlace := ["internal/abi.NoEscape", "slices.overlaps[string]"], unfollowed := true, recurses := true, named := ["internal/strconv.uint64pow10", "math/bits.deBruijn32tab", "math/bits.deBruijn64tab", "strconv.ErrSyntax", "strconv.ErrRange"], apart := false, laid := [("math/bits.deBruijn32tab", laid_math_bits_deBruijn32tab), ("math/bits.deBruijn64tab", laid_math_bits_deBruijn64tab), ("internal/strconv.uint64pow10", laid_internal_strconv_uint64pow10), ("strconv.ErrRange", laid_strconv_ErrRange), ("strconv.ErrSyntax", laid_strconv_ErrSyntax)], narrowed := true }
def EventReadUptoSaid : Prop := eventReadUptoRow.holds Tryd.pinned (OpenSpec.upto eventReadSpec)

end Rows
end Go.Proofs.YtkagfmlaolmdnaaDoor
