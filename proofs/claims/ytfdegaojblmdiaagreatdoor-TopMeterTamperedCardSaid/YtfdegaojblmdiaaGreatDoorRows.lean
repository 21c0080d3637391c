/-
  NARROWER THAN 'FOR EVERY INPUT', by the rows' own cells (each row's printed sentence says how): MeterRises: laid · MeterFound: laid · MeterTwoWays: laid · MeterMessages: laid · MeterIsLaw: laid · TopMeterOneRoad: laid · MeterCutAnyhow: laid · TopMeterTampered: laid · TopMeterIsTariff: laid.
  DERIVED. THE GIVEN ROWS OF THIS SEAT. 9 by the template 'for every input the law returns true; each argument reads behind the call as it read before'; 0 by the template 'total and deterministic' (their statements: YtfdegaojblmdiaaGreatDoorTotals.lean).
  GIVEN WITH THE SEED: the statements are not yours to turn. If you find one false, say at which input.
  Laid BY PROGRAM, IN A SANDBOX (cutbox-rows.mjs): the forced cells as the released guide's own fill.sh prints them over the translation dd0112cdc84f5ec2… (all of the seat's roots in one cut). By AI agents, Wed Nov 11 2026. No macro, syntax, notation, axiom, sorry.
-/
import Derived.Test.YtfdegaojblmdiaaGreatDoorChecked
import GoSem.PinnedTables
import GoSem.Claim
import GoSem.ClaimJoined
import GoSem.ClaimMapViews
import Derived.JoinedTies
import Derived.KernelRfl
namespace Go.Proofs.YtfdegaojblmdiaaGreatDoor
/- THE CELL 'sum', in the pinned program and in every row, IS THE sha256 OF THE DUMP (.gsa) THAT YtfdegaojblmdiaaGreatDoorProg.lean LOADS. Nothing in Lean hashes anything: it is a label: what it is worth is what the hold of that sum in a sandbox is worth. -/
noncomputable def Tryz.pinned : Pinned := { name := "ytfdegaojblmdiaagreatdoor", sum := "dd0112cdc84f5ec28b95eb64ddc0a397466ac70a55b208f52f17ad2a94864a22", checked := Tryz.checked }
namespace Rows
def none {H : Type} : Left H := { results := [], args := [] }

/- WHAT THE LISTED PACKAGE-LEVEL VARIABLES READ AS WHEN THE CALL BEGINS. Each datum BY PROGRAM (the guide's laid-datum.mjs) off the statement by which the dump's own 'gosem.cut.vars' lays the variable. In a bare row this is a premise. The card (YtfdegaojblmdiaaGreatDoorCards.lean) ties it to the program's text. -/
def laid_math_bits_deBruijn32tab {H : Type} : DataW H := .agg [.lit (.int .u8 0), .lit (.int .u8 1), .lit (.int .u8 28), .lit (.int .u8 2), .lit (.int .u8 29), .lit (.int .u8 14), .lit (.int .u8 24), .lit (.int .u8 3), .lit (.int .u8 30), .lit (.int .u8 22), .lit (.int .u8 20), .lit (.int .u8 15), .lit (.int .u8 25), .lit (.int .u8 17), .lit (.int .u8 4), .lit (.int .u8 8), .lit (.int .u8 31), .lit (.int .u8 27), .lit (.int .u8 13), .lit (.int .u8 23), .lit (.int .u8 21), .lit (.int .u8 19), .lit (.int .u8 16), .lit (.int .u8 7), .lit (.int .u8 26), .lit (.int .u8 12), .lit (.int .u8 18), .lit (.int .u8 6), .lit (.int .u8 11), .lit (.int .u8 5), .lit (.int .u8 10), .lit (.int .u8 9)]
def laid_math_bits_deBruijn64tab {H : Type} : DataW H := .agg [.lit (.int .u8 0), .lit (.int .u8 1), .lit (.int .u8 56), .lit (.int .u8 2), .lit (.int .u8 57), .lit (.int .u8 49), .lit (.int .u8 28), .lit (.int .u8 3), .lit (.int .u8 61), .lit (.int .u8 58), .lit (.int .u8 42), .lit (.int .u8 50), .lit (.int .u8 38), .lit (.int .u8 29), .lit (.int .u8 17), .lit (.int .u8 4), .lit (.int .u8 62), .lit (.int .u8 47), .lit (.int .u8 59), .lit (.int .u8 36), .lit (.int .u8 45), .lit (.int .u8 43), .lit (.int .u8 51), .lit (.int .u8 22), .lit (.int .u8 53), .lit (.int .u8 39), .lit (.int .u8 33), .lit (.int .u8 30), .lit (.int .u8 24), .lit (.int .u8 18), .lit (.int .u8 12), .lit (.int .u8 5), .lit (.int .u8 63), .lit (.int .u8 55), .lit (.int .u8 48), .lit (.int .u8 27), .lit (.int .u8 60), .lit (.int .u8 41), .lit (.int .u8 37), .lit (.int .u8 16), .lit (.int .u8 46), .lit (.int .u8 35), .lit (.int .u8 44), .lit (.int .u8 21), .lit (.int .u8 52), .lit (.int .u8 32), .lit (.int .u8 23), .lit (.int .u8 11), .lit (.int .u8 54), .lit (.int .u8 26), .lit (.int .u8 40), .lit (.int .u8 15), .lit (.int .u8 34), .lit (.int .u8 20), .lit (.int .u8 31), .lit (.int .u8 10), .lit (.int .u8 25), .lit (.int .u8 14), .lit (.int .u8 19), .lit (.int .u8 9), .lit (.int .u8 13), .lit (.int .u8 8), .lit (.int .u8 7), .lit (.int .u8 6)]
def laid_internal_strconv_uint64pow10 {H : Type} : DataW H := .agg [.lit (.int .u64 1), .lit (.int .u64 10), .lit (.int .u64 100), .lit (.int .u64 1000), .lit (.int .u64 10000), .lit (.int .u64 100000), .lit (.int .u64 1000000), .lit (.int .u64 10000000), .lit (.int .u64 100000000), .lit (.int .u64 1000000000), .lit (.int .u64 10000000000), .lit (.int .u64 100000000000), .lit (.int .u64 1000000000000), .lit (.int .u64 10000000000000), .lit (.int .u64 100000000000000), .lit (.int .u64 1000000000000000), .lit (.int .u64 10000000000000000), .lit (.int .u64 100000000000000000), .lit (.int .u64 1000000000000000000), .lit (.int .u64 10000000000000000000)]
def laid_unicode_utf8_acceptRanges {H : Type} : DataW H := .agg [.agg [.lit (.int .u8 128), .lit (.int .u8 191)], .agg [.lit (.int .u8 160), .lit (.int .u8 191)], .agg [.lit (.int .u8 128), .lit (.int .u8 159)], .agg [.lit (.int .u8 144), .lit (.int .u8 191)], .agg [.lit (.int .u8 128), .lit (.int .u8 143)], .agg [.lit (.int .u8 0), .lit (.int .u8 0)], .agg [.lit (.int .u8 0), .lit (.int .u8 0)], .agg [.lit (.int .u8 0), .lit (.int .u8 0)], .agg [.lit (.int .u8 0), .lit (.int .u8 0)], .agg [.lit (.int .u8 0), .lit (.int .u8 0)], .agg [.lit (.int .u8 0), .lit (.int .u8 0)], .agg [.lit (.int .u8 0), .lit (.int .u8 0)], .agg [.lit (.int .u8 0), .lit (.int .u8 0)], .agg [.lit (.int .u8 0), .lit (.int .u8 0)], .agg [.lit (.int .u8 0), .lit (.int .u8 0)], .agg [.lit (.int .u8 0), .lit (.int .u8 0)]]
def laid_strconv_ErrRange {H : Type} : DataW H := .iface "*errors.errorString" (.ptr (.agg [.lit (.string [118, 97, 108, 117, 101, 32, 111, 117, 116, 32, 111, 102, 32, 114, 97, 110, 103, 101])]))
def laid_strconv_ErrSyntax {H : Type} : DataW H := .iface "*errors.errorString" (.ptr (.agg [.lit (.string [105, 110, 118, 97, 108, 105, 100, 32, 115, 121, 110, 116, 97, 120])]))
def laid_fiacre_meter_next {H : Type} : DataW H := .agg [.slice [.lit (.int .i64 1)] [], .slice [.lit (.int .i64 2), .lit (.int .i64 3)] [], .slice [.lit (.int .i64 1), .lit (.int .i64 3)] [], .slice [.lit (.int .i64 1), .lit (.int .i64 0)] []]
def laid_fiacre_meter_ranges {H : Type} : DataW H := .agg [.agg [.lit (.int .i64 1), .lit (.int .i64 100000)], .agg [.lit (.int .i64 1), .lit (.int .i64 3600)], .agg [.lit (.int .i64 0), .lit (.int .i64 3)], .agg [.lit (.int .i64 0), .lit (.int .i64 1000000000)], .agg [.lit (.int .i64 0), .lit (.int .i64 1000000000)], .agg [.lit (.int .i64 0), .lit (.int .i64 1000000000)], .agg [.lit (.int .i64 0), .lit (.int .i64 998244352)]]
/-- One of Go's own tables, pinned by name: the form's constant. -/
def laid_unicode_utf8_first : DataW Unit := Go.Pinned.utf8First

/-- 'fiacrelaw02.MeterRises': WHATEVER THE INPUT: true; the input reads as it did. -/
def meterRisesSpec : ChangeSpec := { name := "meterRises", fn := fun _ => fun
  | [d1, d2, d3] => { results := [.lit (.bool true)], args := [d1, d2, d3] }
  | _ => none }
def meterRisesRow : OpenClaim := { program := "ytfdegaojblmdiaagreatdoor", sum := "dd0112cdc84f5ec28b95eb64ddc0a397466ac70a55b208f52f17ad2a94864a22", func := "fiacre/fiacrelaw02.MeterRises", spec := "meterRises", inPlace := ["internal/bytealg.CountString", "internal/bytealg.IndexByteString", "internal/bytealg.IndexString"], unfollowed := true, recurses := true, named := ["unicode/utf8.first", "unicode/utf8.acceptRanges", "internal/bytealg.MaxLen", "strconv.ErrSyntax", "strconv.ErrRange", "internal/strconv.uint64pow10", "math/bits.deBruijn32tab", "math/bits.deBruijn64tab", "fiacre/meter.ranges", "fiacre/meter.next"], apart := false, laid := [("math/bits.deBruijn32tab", laid_math_bits_deBruijn32tab), ("math/bits.deBruijn64tab", laid_math_bits_deBruijn64tab), ("internal/strconv.uint64pow10", laid_internal_strconv_uint64pow10), ("unicode/utf8.acceptRanges", laid_unicode_utf8_acceptRanges), ("strconv.ErrRange", laid_strconv_ErrRange), ("strconv.ErrSyntax", laid_strconv_ErrSyntax), ("fiacre/meter.next", laid_fiacre_meter_next), ("fiacre/meter.ranges", laid_fiacre_meter_ranges), ("unicode/utf8.first", laid_unicode_utf8_first)] }
def MeterRisesSaid : Prop := meterRisesRow.holds Tryz.pinned (OpenSpec.ofChange meterRisesSpec)

/-- ITS FALSE NEIGHBOUR: 'it returns false'. Refute it at one input. -/
def meterRisesWrong : ChangeSpec := { name := "meterRises", fn := fun _ => fun
  | [d1, d2, d3] => { results := [.lit (.bool false)], args := [d1, d2, d3] }
  | _ => none }
def MeterRisesWrongFalsely : Prop := meterRisesRow.holds Tryz.pinned (OpenSpec.ofChange meterRisesWrong)

/-- 'fiacrelaw02.MeterFound': WHATEVER THE INPUT: true; the input reads as it did. -/
def meterFoundSpec : ChangeSpec := { name := "meterFound", fn := fun _ => fun
  | [d1, d2, d3] => { results := [.lit (.bool true)], args := [d1, d2, d3] }
  | _ => none }
def meterFoundRow : OpenClaim := { program := "ytfdegaojblmdiaagreatdoor", sum := "dd0112cdc84f5ec28b95eb64ddc0a397466ac70a55b208f52f17ad2a94864a22", func := "fiacre/fiacrelaw02.MeterFound", spec := "meterFound", inPlace := ["internal/bytealg.CountString", "internal/bytealg.IndexByteString", "internal/bytealg.IndexString"], unfollowed := true, recurses := true, named := ["unicode/utf8.first", "unicode/utf8.acceptRanges", "internal/bytealg.MaxLen", "strconv.ErrSyntax", "strconv.ErrRange", "internal/strconv.uint64pow10", "math/bits.deBruijn32tab", "math/bits.deBruijn64tab", "fiacre/meter.ranges", "fiacre/meter.next"], apart := false, laid := [("math/bits.deBruijn32tab", laid_math_bits_deBruijn32tab), ("math/bits.deBruijn64tab", laid_math_bits_deBruijn64tab), ("internal/strconv.uint64pow10", laid_internal_strconv_uint64pow10), ("unicode/utf8.acceptRanges", laid_unicode_utf8_acceptRanges), ("strconv.ErrRange", laid_strconv_ErrRange), ("strconv.ErrSyntax", laid_strconv_ErrSyntax), ("fiacre/meter.next", laid_fiacre_meter_next), ("fiacre/meter.ranges", laid_fiacre_meter_ranges), ("unicode/utf8.first", laid_unicode_utf8_first)] }
def MeterFoundSaid : Prop := meterFoundRow.holds Tryz.pinned (OpenSpec.ofChange meterFoundSpec)

/-- ITS FALSE NEIGHBOUR: 'it returns false'. Refute it at one input. -/
def meterFoundWrong : ChangeSpec := { name := "meterFound", fn := fun _ => fun
  | [d1, d2, d3] => { results := [.lit (.bool false)], args := [d1, d2, d3] }
  | _ => none }
def MeterFoundWrongFalsely : Prop := meterFoundRow.holds Tryz.pinned (OpenSpec.ofChange meterFoundWrong)

/-- 'fiacrelaw02.MeterTwoWays': WHATEVER THE INPUT: true; the input reads as it did. -/
def meterTwoWaysSpec : ChangeSpec := { name := "meterTwoWays", fn := fun _ => fun
  | [d1, d2] => { results := [.lit (.bool true)], args := [d1, d2] }
  | _ => none }
def meterTwoWaysRow : OpenClaim := { program := "ytfdegaojblmdiaagreatdoor", sum := "dd0112cdc84f5ec28b95eb64ddc0a397466ac70a55b208f52f17ad2a94864a22", func := "fiacre/fiacrelaw02.MeterTwoWays", spec := "meterTwoWays", inPlace := ["internal/bytealg.CountString", "internal/bytealg.IndexByteString", "internal/bytealg.IndexString"], unfollowed := true, recurses := true, named := ["unicode/utf8.first", "unicode/utf8.acceptRanges", "internal/bytealg.MaxLen", "strconv.ErrSyntax", "strconv.ErrRange", "internal/strconv.uint64pow10", "math/bits.deBruijn32tab", "math/bits.deBruijn64tab", "fiacre/meter.ranges", "fiacre/meter.next"], apart := false, laid := [("math/bits.deBruijn32tab", laid_math_bits_deBruijn32tab), ("math/bits.deBruijn64tab", laid_math_bits_deBruijn64tab), ("internal/strconv.uint64pow10", laid_internal_strconv_uint64pow10), ("unicode/utf8.acceptRanges", laid_unicode_utf8_acceptRanges), ("strconv.ErrRange", laid_strconv_ErrRange), ("strconv.ErrSyntax", laid_strconv_ErrSyntax), ("fiacre/meter.next", laid_fiacre_meter_next), ("fiacre/meter.ranges", laid_fiacre_meter_ranges), ("unicode/utf8.first", laid_unicode_utf8_first)] }
def MeterTwoWaysSaid : Prop := meterTwoWaysRow.holds Tryz.pinned (OpenSpec.ofChange meterTwoWaysSpec)

/-- ITS FALSE NEIGHBOUR: 'it returns false'. Refute it at one input. -/
def meterTwoWaysWrong : ChangeSpec := { name := "meterTwoWays", fn := fun _ => fun
  | [d1, d2] => { results := [.lit (.bool false)], args := [d1, d2] }
  | _ => none }
def MeterTwoWaysWrongFalsely : Prop := meterTwoWaysRow.holds Tryz.pinned (OpenSpec.ofChange meterTwoWaysWrong)

/-- 'fiacrelaw02.MeterMessages': WHATEVER THE INPUT: true; the input reads as it did. -/
def meterMessagesSpec : ChangeSpec := { name := "meterMessages", fn := fun _ => fun
  | [d1, d2, d3] => { results := [.lit (.bool true)], args := [d1, d2, d3] }
  | _ => none }
def meterMessagesRow : OpenClaim := { program := "ytfdegaojblmdiaagreatdoor", sum := "dd0112cdc84f5ec28b95eb64ddc0a397466ac70a55b208f52f17ad2a94864a22", func := "fiacre/fiacrelaw02.MeterMessages", spec := "meterMessages", inPlace := ["internal/bytealg.CountString", "internal/bytealg.IndexByteString", "internal/bytealg.IndexString", "slices.overlaps[fiacre/api.MeterEvent]"], unfollowed := true, recurses := true, named := ["unicode/utf8.first", "unicode/utf8.acceptRanges", "internal/bytealg.MaxLen", "strconv.ErrSyntax", "strconv.ErrRange", "internal/strconv.uint64pow10", "math/bits.deBruijn32tab", "math/bits.deBruijn64tab", "fiacre/meter.ranges", "fiacre/meter.next"], apart := false, laid := [("math/bits.deBruijn32tab", laid_math_bits_deBruijn32tab), ("math/bits.deBruijn64tab", laid_math_bits_deBruijn64tab), ("internal/strconv.uint64pow10", laid_internal_strconv_uint64pow10), ("unicode/utf8.acceptRanges", laid_unicode_utf8_acceptRanges), ("strconv.ErrRange", laid_strconv_ErrRange), ("strconv.ErrSyntax", laid_strconv_ErrSyntax), ("fiacre/meter.next", laid_fiacre_meter_next), ("fiacre/meter.ranges", laid_fiacre_meter_ranges), ("unicode/utf8.first", laid_unicode_utf8_first)] }
def MeterMessagesSaid : Prop := meterMessagesRow.holds Tryz.pinned (OpenSpec.ofChange meterMessagesSpec)

/-- ITS FALSE NEIGHBOUR: 'it returns false'. Refute it at one input. -/
def meterMessagesWrong : ChangeSpec := { name := "meterMessages", fn := fun _ => fun
  | [d1, d2, d3] => { results := [.lit (.bool false)], args := [d1, d2, d3] }
  | _ => none }
def MeterMessagesWrongFalsely : Prop := meterMessagesRow.holds Tryz.pinned (OpenSpec.ofChange meterMessagesWrong)

/-- 'fiacrelaw02.MeterIsLaw': WHATEVER THE INPUT: true; the input reads as it did. -/
def meterIsLawSpec : ChangeSpec := { name := "meterIsLaw", fn := fun _ => fun
  | [d1, d2] => { results := [.lit (.bool true)], args := [d1, d2] }
  | _ => none }
def meterIsLawRow : OpenClaim := { program := "ytfdegaojblmdiaagreatdoor", sum := "dd0112cdc84f5ec28b95eb64ddc0a397466ac70a55b208f52f17ad2a94864a22", func := "fiacre/fiacrelaw02.MeterIsLaw", spec := "meterIsLaw", inPlace := ["internal/bytealg.CountString", "internal/bytealg.IndexByteString", "internal/bytealg.IndexString"], unfollowed := true, recurses := true, named := ["unicode/utf8.first", "unicode/utf8.acceptRanges", "internal/bytealg.MaxLen", "strconv.ErrSyntax", "strconv.ErrRange", "internal/strconv.uint64pow10", "math/bits.deBruijn32tab", "math/bits.deBruijn64tab", "fiacre/meter.ranges", "fiacre/meter.next"], apart := false, laid := [("math/bits.deBruijn32tab", laid_math_bits_deBruijn32tab), ("math/bits.deBruijn64tab", laid_math_bits_deBruijn64tab), ("internal/strconv.uint64pow10", laid_internal_strconv_uint64pow10), ("unicode/utf8.acceptRanges", laid_unicode_utf8_acceptRanges), ("strconv.ErrRange", laid_strconv_ErrRange), ("strconv.ErrSyntax", laid_strconv_ErrSyntax), ("fiacre/meter.next", laid_fiacre_meter_next), ("fiacre/meter.ranges", laid_fiacre_meter_ranges), ("unicode/utf8.first", laid_unicode_utf8_first)] }
def MeterIsLawSaid : Prop := meterIsLawRow.holds Tryz.pinned (OpenSpec.ofChange meterIsLawSpec)

/-- ITS FALSE NEIGHBOUR: 'it returns false'. Refute it at one input. -/
def meterIsLawWrong : ChangeSpec := { name := "meterIsLaw", fn := fun _ => fun
  | [d1, d2] => { results := [.lit (.bool false)], args := [d1, d2] }
  | _ => none }
def MeterIsLawWrongFalsely : Prop := meterIsLawRow.holds Tryz.pinned (OpenSpec.ofChange meterIsLawWrong)

/-- 'fiacretop.TopMeterOneRoad': WHATEVER THE INPUT: true; the input reads as it did. -/
def topMeterOneRoadSpec : ChangeSpec := { name := "topMeterOneRoad", fn := fun _ => fun
  | [d1, d2] => { results := [.lit (.bool true)], args := [d1, d2] }
  | _ => none }
def topMeterOneRoadRow : OpenClaim := { program := "ytfdegaojblmdiaagreatdoor", sum := "dd0112cdc84f5ec28b95eb64ddc0a397466ac70a55b208f52f17ad2a94864a22", func := "fiacre/fiacretop.TopMeterOneRoad", spec := "topMeterOneRoad", unfollowed := true, recurses := true, named := ["fiacre/meter.ranges", "fiacre/meter.next"], apart := false, laid := [("fiacre/meter.next", laid_fiacre_meter_next), ("fiacre/meter.ranges", laid_fiacre_meter_ranges)] }
def TopMeterOneRoadSaid : Prop := topMeterOneRoadRow.holds Tryz.pinned (OpenSpec.ofChange topMeterOneRoadSpec)

/-- ITS FALSE NEIGHBOUR: 'it returns false'. Refute it at one input. -/
def topMeterOneRoadWrong : ChangeSpec := { name := "topMeterOneRoad", fn := fun _ => fun
  | [d1, d2] => { results := [.lit (.bool false)], args := [d1, d2] }
  | _ => none }
def TopMeterOneRoadWrongFalsely : Prop := topMeterOneRoadRow.holds Tryz.pinned (OpenSpec.ofChange topMeterOneRoadWrong)

/-- 'fiacrelaw02.MeterCutAnyhow': WHATEVER THE INPUT: true; the input reads as it did. -/
def meterCutAnyhowSpec : ChangeSpec := { name := "meterCutAnyhow", fn := fun _ => fun
  | [d1, d2, d3] => { results := [.lit (.bool true)], args := [d1, d2, d3] }
  | _ => none }
def meterCutAnyhowRow : OpenClaim := { program := "ytfdegaojblmdiaagreatdoor", sum := "dd0112cdc84f5ec28b95eb64ddc0a397466ac70a55b208f52f17ad2a94864a22", func := "fiacre/fiacrelaw02.MeterCutAnyhow", spec := "meterCutAnyhow", inPlace := ["internal/bytealg.CountString", "internal/bytealg.IndexByteString", "internal/bytealg.IndexString", "slices.overlaps[fiacre/api.MeterEvent]"], unfollowed := true, recurses := true, named := ["unicode/utf8.first", "unicode/utf8.acceptRanges", "internal/bytealg.MaxLen", "strconv.ErrSyntax", "strconv.ErrRange", "internal/strconv.uint64pow10", "math/bits.deBruijn32tab", "math/bits.deBruijn64tab", "fiacre/meter.ranges", "fiacre/meter.next"], apart := false, laid := [("math/bits.deBruijn32tab", laid_math_bits_deBruijn32tab), ("math/bits.deBruijn64tab", laid_math_bits_deBruijn64tab), ("internal/strconv.uint64pow10", laid_internal_strconv_uint64pow10), ("unicode/utf8.acceptRanges", laid_unicode_utf8_acceptRanges), ("strconv.ErrRange", laid_strconv_ErrRange), ("strconv.ErrSyntax", laid_strconv_ErrSyntax), ("fiacre/meter.next", laid_fiacre_meter_next), ("fiacre/meter.ranges", laid_fiacre_meter_ranges), ("unicode/utf8.first", laid_unicode_utf8_first)] }
def MeterCutAnyhowSaid : Prop := meterCutAnyhowRow.holds Tryz.pinned (OpenSpec.ofChange meterCutAnyhowSpec)

/-- ITS FALSE NEIGHBOUR: 'it returns false'. Refute it at one input. -/
def meterCutAnyhowWrong : ChangeSpec := { name := "meterCutAnyhow", fn := fun _ => fun
  | [d1, d2, d3] => { results := [.lit (.bool false)], args := [d1, d2, d3] }
  | _ => none }
def MeterCutAnyhowWrongFalsely : Prop := meterCutAnyhowRow.holds Tryz.pinned (OpenSpec.ofChange meterCutAnyhowWrong)

/-- 'fiacretop.TopMeterTampered': WHATEVER THE INPUT: true; the input reads as it did. -/
def topMeterTamperedSpec : ChangeSpec := { name := "topMeterTampered", fn := fun _ => fun
  | [d1, d2, d3] => { results := [.lit (.bool true)], args := [d1, d2, d3] }
  | _ => none }
def topMeterTamperedRow : OpenClaim := { program := "ytfdegaojblmdiaagreatdoor", sum := "dd0112cdc84f5ec28b95eb64ddc0a397466ac70a55b208f52f17ad2a94864a22", func := "fiacre/fiacretop.TopMeterTampered", spec := "topMeterTampered", unfollowed := true, recurses := true, named := ["fiacre/meter.ranges", "fiacre/meter.next"], apart := false, laid := [("fiacre/meter.next", laid_fiacre_meter_next), ("fiacre/meter.ranges", laid_fiacre_meter_ranges)] }
def TopMeterTamperedSaid : Prop := topMeterTamperedRow.holds Tryz.pinned (OpenSpec.ofChange topMeterTamperedSpec)

/-- ITS FALSE NEIGHBOUR: 'it returns false'. Refute it at one input. -/
def topMeterTamperedWrong : ChangeSpec := { name := "topMeterTampered", fn := fun _ => fun
  | [d1, d2, d3] => { results := [.lit (.bool false)], args := [d1, d2, d3] }
  | _ => none }
def TopMeterTamperedWrongFalsely : Prop := topMeterTamperedRow.holds Tryz.pinned (OpenSpec.ofChange topMeterTamperedWrong)

/-- 'fiacretop.TopMeterIsTariff': WHATEVER THE INPUT: true; the input reads as it did. -/
def topMeterIsTariffSpec : ChangeSpec := { name := "topMeterIsTariff", fn := fun _ => fun
  | [d1, d2] => { results := [.lit (.bool true)], args := [d1, d2] }
  | _ => none }
def topMeterIsTariffRow : OpenClaim := { program := "ytfdegaojblmdiaagreatdoor", sum := "dd0112cdc84f5ec28b95eb64ddc0a397466ac70a55b208f52f17ad2a94864a22", func := "fiacre/fiacretop.TopMeterIsTariff", spec := "topMeterIsTariff", unfollowed := true, recurses := true, named := ["fiacre/meter.ranges", "fiacre/meter.next"], apart := false, laid := [("fiacre/meter.next", laid_fiacre_meter_next), ("fiacre/meter.ranges", laid_fiacre_meter_ranges)] }
def TopMeterIsTariffSaid : Prop := topMeterIsTariffRow.holds Tryz.pinned (OpenSpec.ofChange topMeterIsTariffSpec)

/-- ITS FALSE NEIGHBOUR: 'it returns false'. Refute it at one input. -/
def topMeterIsTariffWrong : ChangeSpec := { name := "topMeterIsTariff", fn := fun _ => fun
  | [d1, d2] => { results := [.lit (.bool false)], args := [d1, d2] }
  | _ => none }
def TopMeterIsTariffWrongFalsely : Prop := topMeterIsTariffRow.holds Tryz.pinned (OpenSpec.ofChange topMeterIsTariffWrong)

/- THE SECOND FORM. 'bulk': how many values and letters a reading holds, each counted each time it is reached (what is shared counts as often as it is met; a slice's spare places count too). A statement '..UptoSaid' is the law's where the arguments, and the package variables that the reading takes, are together of bulk at most 1048576: NARROWER than '..Said'. Prove '..Said' where nothing that the law and all that it calls make is longer than what came in: it says more and counts as full. Else prove '..UptoSaid'. A law counts once. -/
mutual
def uptoBulk {H : Type} : DataW H → Nat
  | .lit (.string bytes) => bytes.length + 1
  | .lit _ => 1
  | .nil => 1
  | .ptr d => uptoBulk d + 1
  | .slice elems spare => uptoBulkAll elems + uptoBulkAll spare + 1
  | .agg parts => uptoBulkAll parts + 1
  | .iface _ d => uptoBulk d + 1
  | .map entries => uptoBulkEntries entries + 1
  | .held _ => 1
def uptoBulkAll {H : Type} : List (DataW H) → Nat
  | [] => 0
  | d :: r => uptoBulk d + uptoBulkAll r
def uptoBulkEntries {H : Type} : List (Lit × DataW H) → Nat
  | [] => 0
  | x :: r => uptoBulkEntry x + uptoBulkEntries r
def uptoBulkEntry {H : Type} : Lit × DataW H → Nat
  | (.string bytes, d) => bytes.length + uptoBulk d + 1
  | (_, d) => uptoBulk d + 1
 end
def uptoSmall : (H : Type) → List (DataW H) → Bool := fun _ ds => decide (uptoBulkAll ds ≤ 1048576)
def OpenSpec.upto (s : _root_.Go.ChangeSpec) : _root_.Go.OpenSpec := { _root_.Go.OpenSpec.ofChange s with cond := some uptoSmall }

/-- 'fiacrelaw02.MeterRises', WHERE WHAT IT READS IS OF BULK AT MOST 1048576: true; the input reads as it did. -/
def meterRisesUptoRow : OpenClaim := { program := "ytfdegaojblmdiaagreatdoor", sum := "dd0112cdc84f5ec28b95eb64ddc0a397466ac70a55b208f52f17ad2a94864a22", func := "fiacre/fiacrelaw02.MeterRises", spec := "meterRises", inPlace := ["internal/bytealg.CountString", "internal/bytealg.IndexByteString", "internal/bytealg.IndexString"], unfollowed := true, recurses := true, named := ["unicode/utf8.first", "unicode/utf8.acceptRanges", "internal/bytealg.MaxLen", "strconv.ErrSyntax", "strconv.ErrRange", "internal/strconv.uint64pow10", "math/bits.deBruijn32tab", "math/bits.deBruijn64tab", "fiacre/meter.ranges", "fiacre/meter.next"], apart := false, laid := [("math/bits.deBruijn32tab", laid_math_bits_deBruijn32tab), ("math/bits.deBruijn64tab", laid_math_bits_deBruijn64tab), ("internal/strconv.uint64pow10", laid_internal_strconv_uint64pow10), ("unicode/utf8.acceptRanges", laid_unicode_utf8_acceptRanges), ("strconv.ErrRange", laid_strconv_ErrRange), ("strconv.ErrSyntax", laid_strconv_ErrSyntax), ("fiacre/meter.next", laid_fiacre_meter_next), ("fiacre/meter.ranges", laid_fiacre_meter_ranges), ("unicode/utf8.first", laid_unicode_utf8_first)], narrowed := true }
def MeterRisesUptoSaid : Prop := meterRisesUptoRow.holds Tryz.pinned (OpenSpec.upto meterRisesSpec)

/-- 'fiacrelaw02.MeterFound', WHERE WHAT IT READS IS OF BULK AT MOST 1048576: true; the input reads as it did. -/
def meterFoundUptoRow : OpenClaim := { program := "ytfdegaojblmdiaagreatdoor", sum := "dd0112cdc84f5ec28b95eb64ddc0a397466ac70a55b208f52f17ad2a94864a22", func := "fiacre/fiacrelaw02.MeterFound", spec := "meterFound", inPlace := ["internal/bytealg.CountString", "internal/bytealg.IndexByteString", "internal/bytealg.IndexString"], unfollowed := true, recurses := true, named := ["unicode/utf8.first", "unicode/utf8.acceptRanges", "internal/bytealg.MaxLen", "strconv.ErrSyntax", "strconv.ErrRange", "internal/strconv.uint64pow10", "math/bits.deBruijn32tab", "math/bits.deBruijn64tab", "fiacre/meter.ranges", "fiacre/meter.next"], apart := false, laid := [("math/bits.deBruijn32tab", laid_math_bits_deBruijn32tab), ("math/bits.deBruijn64tab", laid_math_bits_deBruijn64tab), ("internal/strconv.uint64pow10", laid_internal_strconv_uint64pow10), ("unicode/utf8.acceptRanges", laid_unicode_utf8_acceptRanges), ("strconv.ErrRange", laid_strconv_ErrRange), ("strconv.ErrSyntax", laid_strconv_ErrSyntax), ("fiacre/meter.next", laid_fiacre_meter_next), ("fiacre/meter.ranges", laid_fiacre_meter_ranges), ("unicode/utf8.first", laid_unicode_utf8_first)], narrowed := true }
def MeterFoundUptoSaid : Prop := meterFoundUptoRow.holds Tryz.pinned (OpenSpec.upto meterFoundSpec)

/-- 'fiacrelaw02.MeterTwoWays', WHERE WHAT IT READS IS OF BULK AT MOST 1048576: true; the input reads as it did. -/
def meterTwoWaysUptoRow : OpenClaim := { program := "ytfdegaojblmdiaagreatdoor", sum := "dd0112cdc84f5ec28b95eb64ddc0a397466ac70a55b208f52f17ad2a94864a22", func := "fiacre/fiacrelaw02.MeterTwoWays", spec := "meterTwoWays", inPlace := ["internal/bytealg.CountString", "internal/bytealg.IndexByteString", "internal/bytealg.IndexString"], unfollowed := true, recurses := true, named := ["unicode/utf8.first", "unicode/utf8.acceptRanges", "internal/bytealg.MaxLen", "strconv.ErrSyntax", "strconv.ErrRange", "internal/strconv.uint64pow10", "math/bits.deBruijn32tab", "math/bits.deBruijn64tab", "fiacre/meter.ranges", "fiacre/meter.next"], apart := false, laid := [("math/bits.deBruijn32tab", laid_math_bits_deBruijn32tab), ("math/bits.deBruijn64tab", laid_math_bits_deBruijn64tab), ("internal/strconv.uint64pow10", laid_internal_strconv_uint64pow10), ("unicode/utf8.acceptRanges", laid_unicode_utf8_acceptRanges), ("strconv.ErrRange", laid_strconv_ErrRange), ("strconv.ErrSyntax", laid_strconv_ErrSyntax), ("fiacre/meter.next", laid_fiacre_meter_next), ("fiacre/meter.ranges", laid_fiacre_meter_ranges), ("unicode/utf8.first", laid_unicode_utf8_first)], narrowed := true }
def MeterTwoWaysUptoSaid : Prop := meterTwoWaysUptoRow.holds Tryz.pinned (OpenSpec.upto meterTwoWaysSpec)

/-- 'fiacrelaw02.MeterMessages', WHERE WHAT IT READS IS OF BULK AT MOST 1048576: true; the input reads as it did. -/
def meterMessagesUptoRow : OpenClaim := { program := "ytfdegaojblmdiaagreatdoor", sum := "dd0112cdc84f5ec28b95eb64ddc0a397466ac70a55b208f52f17ad2a94864a22", func := "fiacre/fiacrelaw02.MeterMessages", spec := "meterMessages", inPlace := ["internal/bytealg.CountString", "internal/bytealg.IndexByteString", "internal/bytealg.IndexString", "slices.overlaps[fiacre/api.MeterEvent]"], unfollowed := true, recurses := true, named := ["unicode/utf8.first", "unicode/utf8.acceptRanges", "internal/bytealg.MaxLen", "strconv.ErrSyntax", "strconv.ErrRange", "internal/strconv.uint64pow10", "math/bits.deBruijn32tab", "math/bits.deBruijn64tab", "fiacre/meter.ranges", "fiacre/meter.next"], apart := false, laid := [("math/bits.deBruijn32tab", laid_math_bits_deBruijn32tab), ("math/bits.deBruijn64tab", laid_math_bits_deBruijn64tab), ("internal/strconv.uint64pow10", laid_internal_strconv_uint64pow10), ("unicode/utf8.acceptRanges", laid_unicode_utf8_acceptRanges), ("strconv.ErrRange", laid_strconv_ErrRange), ("strconv.ErrSyntax", laid_strconv_ErrSyntax), ("fiacre/meter.next", laid_fiacre_meter_next), ("fiacre/meter.ranges", laid_fiacre_meter_ranges), ("unicode/utf8.first", laid_unicode_utf8_first)], narrowed := true }
def MeterMessagesUptoSaid : Prop := meterMessagesUptoRow.holds Tryz.pinned (OpenSpec.upto meterMessagesSpec)

/-- 'fiacrelaw02.MeterIsLaw', WHERE WHAT IT READS IS OF BULK AT MOST 1048576: true; the input reads as it did. -/
def meterIsLawUptoRow : OpenClaim := { program := "ytfdegaojblmdiaagreatdoor", sum := "dd0112cdc84f5ec28b95eb64ddc0a397466ac70a55b208f52f17ad2a94864a22", func := "fiacre/fiacrelaw02.MeterIsLaw", spec := "meterIsLaw", inPlace := ["internal/bytealg.CountString", "internal/bytealg.IndexByteString", "internal/bytealg.IndexString"], unfollowed := true, recurses := true, named := ["unicode/utf8.first", "unicode/utf8.acceptRanges", "internal/bytealg.MaxLen", "strconv.ErrSyntax", "strconv.ErrRange", "internal/strconv.uint64pow10", "math/bits.deBruijn32tab", "math/bits.deBruijn64tab", "fiacre/meter.ranges", "fiacre/meter.next"], apart := false, laid := [("math/bits.deBruijn32tab", laid_math_bits_deBruijn32tab), ("math/bits.deBruijn64tab", laid_math_bits_deBruijn64tab), ("internal/strconv.uint64pow10", laid_internal_strconv_uint64pow10), ("unicode/utf8.acceptRanges", laid_unicode_utf8_acceptRanges), ("strconv.ErrRange", laid_strconv_ErrRange), ("strconv.ErrSyntax", laid_strconv_ErrSyntax), ("fiacre/meter.next", laid_fiacre_meter_next), ("fiacre/meter.ranges", laid_fiacre_meter_ranges), ("unicode/utf8.first", laid_unicode_utf8_first)], narrowed := true }
def MeterIsLawUptoSaid : Prop := meterIsLawUptoRow.holds Tryz.pinned (OpenSpec.upto meterIsLawSpec)

/-- 'fiacretop.TopMeterOneRoad', WHERE WHAT IT READS IS OF BULK AT MOST 1048576: true; the input reads as it did. -/
def topMeterOneRoadUptoRow : OpenClaim := { program := "ytfdegaojblmdiaagreatdoor", sum := "dd0112cdc84f5ec28b95eb64ddc0a397466ac70a55b208f52f17ad2a94864a22", func := "fiacre/fiacretop.TopMeterOneRoad", spec := "topMeterOneRoad", unfollowed := true, recurses := true, named := ["fiacre/meter.ranges", "fiacre/meter.next"], apart := false, laid := [("fiacre/meter.next", laid_fiacre_meter_next), ("fiacre/meter.ranges", laid_fiacre_meter_ranges)], narrowed := true }
def TopMeterOneRoadUptoSaid : Prop := topMeterOneRoadUptoRow.holds Tryz.pinned (OpenSpec.upto topMeterOneRoadSpec)

/-- 'fiacrelaw02.MeterCutAnyhow', WHERE WHAT IT READS IS OF BULK AT MOST 1048576: true; the input reads as it did. -/
def meterCutAnyhowUptoRow : OpenClaim := { program := "ytfdegaojblmdiaagreatdoor", sum := "dd0112cdc84f5ec28b95eb64ddc0a397466ac70a55b208f52f17ad2a94864a22", func := "fiacre/fiacrelaw02.MeterCutAnyhow", spec := "meterCutAnyhow", inPlace := ["internal/bytealg.CountString", "internal/bytealg.IndexByteString", "internal/bytealg.IndexString", "slices.overlaps[fiacre/api.MeterEvent]"], unfollowed := true, recurses := true, named := ["unicode/utf8.first", "unicode/utf8.acceptRanges", "internal/bytealg.MaxLen", "strconv.ErrSyntax", "strconv.ErrRange", "internal/strconv.uint64pow10", "math/bits.deBruijn32tab", "math/bits.deBruijn64tab", "fiacre/meter.ranges", "fiacre/meter.next"], apart := false, laid := [("math/bits.deBruijn32tab", laid_math_bits_deBruijn32tab), ("math/bits.deBruijn64tab", laid_math_bits_deBruijn64tab), ("internal/strconv.uint64pow10", laid_internal_strconv_uint64pow10), ("unicode/utf8.acceptRanges", laid_unicode_utf8_acceptRanges), ("strconv.ErrRange", laid_strconv_ErrRange), ("strconv.ErrSyntax", laid_strconv_ErrSyntax), ("fiacre/meter.next", laid_fiacre_meter_next), ("fiacre/meter.ranges", laid_fiacre_meter_ranges), ("unicode/utf8.first", laid_unicode_utf8_first)], narrowed := true }
def MeterCutAnyhowUptoSaid : Prop := meterCutAnyhowUptoRow.holds Tryz.pinned (OpenSpec.upto meterCutAnyhowSpec)

/-- 'fiacretop.TopMeterTampered', WHERE WHAT IT READS IS OF BULK AT MOST 1048576: true; the input reads as it did. -/
def topMeterTamperedUptoRow : OpenClaim := { program := "ytfdegaojblmdiaagreatdoor", sum := "dd0112cdc84f5ec28b95eb64ddc0a397466ac70a55b208f52f17ad2a94864a22", func := "fiacre/fiacretop.TopMeterTampered", spec := "topMeterTampered", unfollowed := true, recurses := true, named := ["fiacre/meter.ranges", "fiacre/meter.next"], apart := false, laid := [("fiacre/meter.next", laid_fiacre_meter_next), ("fiacre/meter.ranges", laid_fiacre_meter_ranges)], narrowed := true }
def TopMeterTamperedUptoSaid : Prop := topMeterTamperedUptoRow.holds Tryz.pinned (OpenSpec.upto topMeterTamperedSpec)

/-- 'fiacretop.TopMeterIsTariff', WHERE WHAT IT READS IS OF BULK AT MOST 1048576: true; the input reads as it did. -/
def topMeterIsTariffUptoRow : OpenClaim := { program := "ytfdegaojblmdiaagreatdoor", sum := "dd0112cdc84f5ec28b95eb64ddc0a397466ac70a55b208f52f17ad2a94864a22", func := "fiacre/fiacretop.TopMeterIsTariff", spec := "topMeterIsTariff", unfollowed := true, recurses := true, named := ["fiacre/meter.ranges", "fiacre/meter.next"], apart := false, laid := [("fiacre/meter.next", laid_fiacre_meter_next), ("fiacre/meter.ranges", laid_fiacre_meter_ranges)], narrowed := true }
def TopMeterIsTariffUptoSaid : Prop := topMeterIsTariffUptoRow.holds Tryz.pinned (OpenSpec.upto topMeterIsTariffSpec)

end Rows
end Go.Proofs.YtfdegaojblmdiaaGreatDoor
