/-
  NARROWER THAN 'FOR EVERY INPUT', by the rows' own cells (each row's printed sentence says how): WordWords: laid · WordBack: laid · WordOne: laid · WordOwn: laid · EventWords: laid · EventTables: laid · WordLines: laid · WordJoins: laid · EventOne: laid · ProgBack: laid.
  DERIVED. THE GIVEN ROWS OF THIS SEAT. 10 by the template 'for every input the law returns true; each argument reads behind the call as it read before'; 0 by the template 'total and deterministic' (their statements: YtdinjplbbmhleaaDoorTotals.lean).
  GIVEN WITH THE SEED: the statements are not yours to turn. If you find one false, say at which input.
  Laid BY PROGRAM, IN A SANDBOX (cutbox-rows.mjs): the forced cells as the released guide's own fill.sh prints them over the translation 8dd49ac66f8f9fff… (all of the seat's roots in one cut). By AI agents, Wed Nov 11 2026. No macro, syntax, notation, axiom, sorry.
-/
import Derived.Test.YtdinjplbbmhleaaDoorChecked
import GoSem.PinnedTables
import GoSem.Claim
import GoSem.ClaimJoined
import GoSem.ClaimMapViews
import Derived.JoinedTies
import Derived.KernelRfl
namespace Go.Proofs.YtdinjplbbmhleaaDoor
/- THE CELL 'sum', in the pinned program and in every row, IS THE sha256 OF THE DUMP (.gsa) THAT YtdinjplbbmhleaaDoorProg.lean LOADS. Nothing in Lean hashes anything: it is a label: what it is worth is what the hold of that sum in a sandbox is worth. -/
noncomputable def Tryd.pinned : Pinned := { name := "ytdinjplbbmhleaadoor", sum := "8dd49ac66f8f9fff1b8f810e8945f7a6c3721b7f45e783f9f1bd0e2b09de7151", checked := Tryd.checked }
namespace Rows
def none {H : Type} : Left H := { results := [], args := [] }

/- WHAT THE LISTED PACKAGE-LEVEL VARIABLES READ AS WHEN THE CALL BEGINS. Each datum BY PROGRAM (the guide's laid-datum.mjs) off the statement by which the dump's own 'gosem.cut.vars' lays the variable. In a bare row this is a premise. The card (YtdinjplbbmhleaaDoorCards.lean) ties it to the program's text. -/
def laid_math_bits_deBruijn32tab {H : Type} : DataW H := .agg [.lit (.int .u8 0), .lit (.int .u8 1), .lit (.int .u8 28), .lit (.int .u8 2), .lit (.int .u8 29), .lit (.int .u8 14), .lit (.int .u8 24), .lit (.int .u8 3), .lit (.int .u8 30), .lit (.int .u8 22), .lit (.int .u8 20), .lit (.int .u8 15), .lit (.int .u8 25), .lit (.int .u8 17), .lit (.int .u8 4), .lit (.int .u8 8), .lit (.int .u8 31), .lit (.int .u8 27), .lit (.int .u8 13), .lit (.int .u8 23), .lit (.int .u8 21), .lit (.int .u8 19), .lit (.int .u8 16), .lit (.int .u8 7), .lit (.int .u8 26), .lit (.int .u8 12), .lit (.int .u8 18), .lit (.int .u8 6), .lit (.int .u8 11), .lit (.int .u8 5), .lit (.int .u8 10), .lit (.int .u8 9)]
def laid_math_bits_deBruijn64tab {H : Type} : DataW H := .agg [.lit (.int .u8 0), .lit (.int .u8 1), .lit (.int .u8 56), .lit (.int .u8 2), .lit (.int .u8 57), .lit (.int .u8 49), .lit (.int .u8 28), .lit (.int .u8 3), .lit (.int .u8 61), .lit (.int .u8 58), .lit (.int .u8 42), .lit (.int .u8 50), .lit (.int .u8 38), .lit (.int .u8 29), .lit (.int .u8 17), .lit (.int .u8 4), .lit (.int .u8 62), .lit (.int .u8 47), .lit (.int .u8 59), .lit (.int .u8 36), .lit (.int .u8 45), .lit (.int .u8 43), .lit (.int .u8 51), .lit (.int .u8 22), .lit (.int .u8 53), .lit (.int .u8 39), .lit (.int .u8 33), .lit (.int .u8 30), .lit (.int .u8 24), .lit (.int .u8 18), .lit (.int .u8 12), .lit (.int .u8 5), .lit (.int .u8 63), .lit (.int .u8 55), .lit (.int .u8 48), .lit (.int .u8 27), .lit (.int .u8 60), .lit (.int .u8 41), .lit (.int .u8 37), .lit (.int .u8 16), .lit (.int .u8 46), .lit (.int .u8 35), .lit (.int .u8 44), .lit (.int .u8 21), .lit (.int .u8 52), .lit (.int .u8 32), .lit (.int .u8 23), .lit (.int .u8 11), .lit (.int .u8 54), .lit (.int .u8 26), .lit (.int .u8 40), .lit (.int .u8 15), .lit (.int .u8 34), .lit (.int .u8 20), .lit (.int .u8 31), .lit (.int .u8 10), .lit (.int .u8 25), .lit (.int .u8 14), .lit (.int .u8 19), .lit (.int .u8 9), .lit (.int .u8 13), .lit (.int .u8 8), .lit (.int .u8 7), .lit (.int .u8 6)]
def laid_internal_strconv_uint64pow10 {H : Type} : DataW H := .agg [.lit (.int .u64 1), .lit (.int .u64 10), .lit (.int .u64 100), .lit (.int .u64 1000), .lit (.int .u64 10000), .lit (.int .u64 100000), .lit (.int .u64 1000000), .lit (.int .u64 10000000), .lit (.int .u64 100000000), .lit (.int .u64 1000000000), .lit (.int .u64 10000000000), .lit (.int .u64 100000000000), .lit (.int .u64 1000000000000), .lit (.int .u64 10000000000000), .lit (.int .u64 100000000000000), .lit (.int .u64 1000000000000000), .lit (.int .u64 10000000000000000), .lit (.int .u64 100000000000000000), .lit (.int .u64 1000000000000000000), .lit (.int .u64 10000000000000000000)]
def laid_unicode_utf8_acceptRanges {H : Type} : DataW H := .agg [.agg [.lit (.int .u8 128), .lit (.int .u8 191)], .agg [.lit (.int .u8 160), .lit (.int .u8 191)], .agg [.lit (.int .u8 128), .lit (.int .u8 159)], .agg [.lit (.int .u8 144), .lit (.int .u8 191)], .agg [.lit (.int .u8 128), .lit (.int .u8 143)], .agg [.lit (.int .u8 0), .lit (.int .u8 0)], .agg [.lit (.int .u8 0), .lit (.int .u8 0)], .agg [.lit (.int .u8 0), .lit (.int .u8 0)], .agg [.lit (.int .u8 0), .lit (.int .u8 0)], .agg [.lit (.int .u8 0), .lit (.int .u8 0)], .agg [.lit (.int .u8 0), .lit (.int .u8 0)], .agg [.lit (.int .u8 0), .lit (.int .u8 0)], .agg [.lit (.int .u8 0), .lit (.int .u8 0)], .agg [.lit (.int .u8 0), .lit (.int .u8 0)], .agg [.lit (.int .u8 0), .lit (.int .u8 0)], .agg [.lit (.int .u8 0), .lit (.int .u8 0)]]
def laid_strconv_ErrRange {H : Type} : DataW H := .iface "*errors.errorString" (.ptr (.agg [.lit (.string [118, 97, 108, 117, 101, 32, 111, 117, 116, 32, 111, 102, 32, 114, 97, 110, 103, 101])]))
def laid_strconv_ErrSyntax {H : Type} : DataW H := .iface "*errors.errorString" (.ptr (.agg [.lit (.string [105, 110, 118, 97, 108, 105, 100, 32, 115, 121, 110, 116, 97, 120])]))
def laid_umpire_api_ErrNumber {H : Type} : DataW H := .iface "*errors.errorString" (.ptr (.agg [.lit (.string [110, 111, 32, 110, 117, 109, 98, 101, 114])]))
def laid_umpire_api_ErrLong {H : Type} : DataW H := .iface "*errors.errorString" (.ptr (.agg [.lit (.string [116, 111, 111, 32, 108, 111, 110, 103])]))
def laid_umpire_api_ErrEnd {H : Type} : DataW H := .iface "*errors.errorString" (.ptr (.agg [.lit (.string [105, 116, 32, 101, 110, 100, 115, 32, 116, 111, 111, 32, 101, 97, 114, 108, 121])]))
/-- One of Go's own tables, pinned by name: the form's constant. -/
def laid_unicode_utf8_first : DataW Unit := Go.Pinned.utf8First
def laid_umpire_api_ErrWord {H : Type} : DataW H := .iface "*errors.errorString" (.ptr (.agg [.lit (.string [110, 111, 32, 115, 117, 99, 104, 32, 119, 111, 114, 100])]))
def laid_umpire_api_ErrWords {H : Type} : DataW H := .iface "*errors.errorString" (.ptr (.agg [.lit (.string [116, 111, 111, 32, 109, 97, 110, 121, 32, 119, 111, 114, 100, 115, 44, 32, 111, 114, 32, 116, 111, 111, 32, 102, 101, 119])]))
def laid_umpire_api_ErrCode {H : Type} : DataW H := .iface "*errors.errorString" (.ptr (.agg [.lit (.string [110, 111, 32, 115, 117, 99, 104, 32, 99, 111, 100, 101])]))
def laid_umpire_api_ErrObject {H : Type} : DataW H := .iface "*errors.errorString" (.ptr (.agg [.lit (.string [110, 111, 32, 111, 98, 106, 101, 99, 116])]))
def laid_umpire_api_ErrEvent {H : Type} : DataW H := .iface "*errors.errorString" (.ptr (.agg [.lit (.string [110, 111, 32, 101, 118, 101, 110, 116])]))
def laid_umpire_event_objects {H : Type} : DataW H := .agg [.lit (.string [114, 101, 103, 105, 115, 116, 101, 114]), .lit (.string [99, 111, 117, 110, 116, 101, 114]), .lit (.string [113, 117, 101, 117, 101]), .lit (.string [109, 97, 112])]
def laid_umpire_event_events {H : Type} : DataW H := .agg [.lit (.string [98, 101, 103, 105, 110]), .lit (.string [99, 97, 108, 108]), .lit (.string [114, 101, 116, 117, 114, 110]), .lit (.string [116, 114, 121]), .lit (.string [99, 111, 109, 109, 105, 116]), .lit (.string [97, 98, 111, 114, 116]), .lit (.string [99, 97, 110, 99, 101, 108])]
def laid_umpire_event_ops {H : Type} : DataW H := .agg [.lit (.string [114, 101, 97, 100]), .lit (.string [119, 114, 105, 116, 101]), .lit (.string [97, 100, 100]), .lit (.string [103, 101, 116]), .lit (.string [101, 110, 113]), .lit (.string [100, 101, 113]), .lit (.string [112, 117, 116]), .lit (.string [108, 111, 111, 107]), .lit (.string [100, 101, 108])]
def laid_umpire_event_answers {H : Type} : DataW H := .agg [.lit (.string [111, 107]), .lit (.string [110, 111, 110, 101]), .lit (.string [118, 97, 108])]
def laid_umpire_event_states {H : Type} : DataW H := .agg [.lit (.string [108, 105, 118, 101]), .lit (.string [112, 101, 110, 100, 105, 110, 103]), .lit (.string [99, 111, 109, 109, 105, 116, 116, 101, 100]), .lit (.string [97, 98, 111, 114, 116, 101, 100])]
def laid_umpire_event_levels {H : Type} : DataW H := .agg [.lit (.string [115, 101, 114, 105, 97, 108]), .lit (.string [115, 116, 114, 105, 99, 116]), .lit (.string [102, 105, 110, 97, 108]), .lit (.string [111, 112, 97, 113, 117, 101])]
def laid_umpire_api_ErrProg {H : Type} : DataW H := .iface "*errors.errorString" (.ptr (.agg [.lit (.string [110, 111, 32, 112, 114, 111, 103, 114, 97, 109])]))
def laid_umpire_prog_acts {H : Type} : DataW H := .agg [.lit (.string [114, 101, 97, 100]), .lit (.string [119, 114, 105, 116, 101]), .lit (.string [97, 100, 100]), .lit (.string [99, 97, 110, 99, 101, 108])]

/-- 'umpirelaw1.WordWords': WHATEVER THE INPUT: true; the input reads as it did. -/
def wordWordsSpec : ChangeSpec := { name := "wordWords", fn := fun _ => fun
  | [d1, d2] => { results := [.lit (.bool true)], args := [d1, d2] }
  | _ => none }
def wordWordsRow : OpenClaim := { program := "ytdinjplbbmhleaadoor", sum := "8dd49ac66f8f9fff1b8f810e8945f7a6c3721b7f45e783f9f1bd0e2b09de7151", func := "umpire/umpirelaw1.WordWords", spec := "wordWords", inPlace := ["internal/bytealg.IndexByteString", "internal/bytealg.IndexString", "internal/abi.NoEscape", "internal/bytealg.MakeNoZero"], unfollowed := true, recurses := true, named := ["umpire/api.ErrNumber", "strconv.ErrSyntax", "strconv.ErrRange", "internal/strconv.uint64pow10", "math/bits.deBruijn32tab", "math/bits.deBruijn64tab", "umpire/api.ErrLong", "umpire/api.ErrEnd", "unicode/utf8.first", "unicode/utf8.acceptRanges", "internal/bytealg.MaxLen"], apart := false, laid := [("math/bits.deBruijn32tab", laid_math_bits_deBruijn32tab), ("math/bits.deBruijn64tab", laid_math_bits_deBruijn64tab), ("internal/strconv.uint64pow10", laid_internal_strconv_uint64pow10), ("unicode/utf8.acceptRanges", laid_unicode_utf8_acceptRanges), ("strconv.ErrRange", laid_strconv_ErrRange), ("strconv.ErrSyntax", laid_strconv_ErrSyntax), ("umpire/api.ErrNumber", laid_umpire_api_ErrNumber), ("umpire/api.ErrLong", laid_umpire_api_ErrLong), ("umpire/api.ErrEnd", laid_umpire_api_ErrEnd), ("unicode/utf8.first", laid_unicode_utf8_first)] }
def WordWordsSaid : Prop := wordWordsRow.holds Tryd.pinned (OpenSpec.ofChange wordWordsSpec)

/-- ITS FALSE NEIGHBOUR: 'it returns false'. Refute it at one input. -/
def wordWordsWrong : ChangeSpec := { name := "wordWords", fn := fun _ => fun
  | [d1, d2] => { results := [.lit (.bool false)], args := [d1, d2] }
  | _ => none }
def WordWordsWrongFalsely : Prop := wordWordsRow.holds Tryd.pinned (OpenSpec.ofChange wordWordsWrong)

/-- 'umpirelaw1.WordBack': WHATEVER THE INPUT: true; the input reads as it did. -/
def wordBackSpec : ChangeSpec := { name := "wordBack", fn := fun _ => fun
  | [d1, d2] => { results := [.lit (.bool true)], args := [d1, d2] }
  | _ => none }
def wordBackRow : OpenClaim := { program := "ytdinjplbbmhleaadoor", sum := "8dd49ac66f8f9fff1b8f810e8945f7a6c3721b7f45e783f9f1bd0e2b09de7151", func := "umpire/umpirelaw1.WordBack", spec := "wordBack", inPlace := ["internal/bytealg.IndexByteString", "internal/bytealg.IndexString", "internal/abi.NoEscape", "internal/bytealg.MakeNoZero"], unfollowed := true, recurses := true, named := ["umpire/api.ErrNumber", "strconv.ErrSyntax", "strconv.ErrRange", "internal/strconv.uint64pow10", "math/bits.deBruijn32tab", "math/bits.deBruijn64tab", "umpire/api.ErrLong", "umpire/api.ErrEnd", "unicode/utf8.first", "unicode/utf8.acceptRanges", "internal/bytealg.MaxLen"], apart := false, laid := [("math/bits.deBruijn32tab", laid_math_bits_deBruijn32tab), ("math/bits.deBruijn64tab", laid_math_bits_deBruijn64tab), ("internal/strconv.uint64pow10", laid_internal_strconv_uint64pow10), ("unicode/utf8.acceptRanges", laid_unicode_utf8_acceptRanges), ("strconv.ErrRange", laid_strconv_ErrRange), ("strconv.ErrSyntax", laid_strconv_ErrSyntax), ("umpire/api.ErrNumber", laid_umpire_api_ErrNumber), ("umpire/api.ErrLong", laid_umpire_api_ErrLong), ("umpire/api.ErrEnd", laid_umpire_api_ErrEnd), ("unicode/utf8.first", laid_unicode_utf8_first)] }
def WordBackSaid : Prop := wordBackRow.holds Tryd.pinned (OpenSpec.ofChange wordBackSpec)

/-- ITS FALSE NEIGHBOUR: 'it returns false'. Refute it at one input. -/
def wordBackWrong : ChangeSpec := { name := "wordBack", fn := fun _ => fun
  | [d1, d2] => { results := [.lit (.bool false)], args := [d1, d2] }
  | _ => none }
def WordBackWrongFalsely : Prop := wordBackRow.holds Tryd.pinned (OpenSpec.ofChange wordBackWrong)

/-- 'umpirelaw1.WordOne': WHATEVER THE INPUT: true; the input reads as it did. -/
def wordOneSpec : ChangeSpec := { name := "wordOne", fn := fun _ => fun
  | [d1, d2, d3, d4] => { results := [.lit (.bool true)], args := [d1, d2, d3, d4] }
  | _ => none }
def wordOneRow : OpenClaim := { program := "ytdinjplbbmhleaadoor", sum := "8dd49ac66f8f9fff1b8f810e8945f7a6c3721b7f45e783f9f1bd0e2b09de7151", func := "umpire/umpirelaw1.WordOne", spec := "wordOne", inPlace := ["internal/bytealg.IndexByteString", "internal/bytealg.IndexString", "internal/abi.NoEscape", "internal/bytealg.MakeNoZero"], unfollowed := true, recurses := true, named := ["umpire/api.ErrNumber", "strconv.ErrSyntax", "strconv.ErrRange", "internal/strconv.uint64pow10", "math/bits.deBruijn32tab", "math/bits.deBruijn64tab", "umpire/api.ErrLong", "umpire/api.ErrEnd", "unicode/utf8.first", "unicode/utf8.acceptRanges", "internal/bytealg.MaxLen"], apart := false, laid := [("math/bits.deBruijn32tab", laid_math_bits_deBruijn32tab), ("math/bits.deBruijn64tab", laid_math_bits_deBruijn64tab), ("internal/strconv.uint64pow10", laid_internal_strconv_uint64pow10), ("unicode/utf8.acceptRanges", laid_unicode_utf8_acceptRanges), ("strconv.ErrRange", laid_strconv_ErrRange), ("strconv.ErrSyntax", laid_strconv_ErrSyntax), ("umpire/api.ErrNumber", laid_umpire_api_ErrNumber), ("umpire/api.ErrLong", laid_umpire_api_ErrLong), ("umpire/api.ErrEnd", laid_umpire_api_ErrEnd), ("unicode/utf8.first", laid_unicode_utf8_first)] }
def WordOneSaid : Prop := wordOneRow.holds Tryd.pinned (OpenSpec.ofChange wordOneSpec)

/-- ITS FALSE NEIGHBOUR: 'it returns false'. Refute it at one input. -/
def wordOneWrong : ChangeSpec := { name := "wordOne", fn := fun _ => fun
  | [d1, d2, d3, d4] => { results := [.lit (.bool false)], args := [d1, d2, d3, d4] }
  | _ => none }
def WordOneWrongFalsely : Prop := wordOneRow.holds Tryd.pinned (OpenSpec.ofChange wordOneWrong)

/-- 'umpirelaw1.WordOwn': WHATEVER THE INPUT: true; the input reads as it did. -/
def wordOwnSpec : ChangeSpec := { name := "wordOwn", fn := fun _ => fun
  | [d1, d2] => { results := [.lit (.bool true)], args := [d1, d2] }
  | _ => none }
def wordOwnRow : OpenClaim := { program := "ytdinjplbbmhleaadoor", sum := "8dd49ac66f8f9fff1b8f810e8945f7a6c3721b7f45e783f9f1bd0e2b09de7151", func := "umpire/umpirelaw1.WordOwn", spec := "wordOwn", inPlace := ["internal/bytealg.IndexByteString", "internal/bytealg.IndexString", "internal/abi.NoEscape", "internal/bytealg.MakeNoZero"], unfollowed := true, recurses := true, named := ["umpire/api.ErrNumber", "strconv.ErrSyntax", "strconv.ErrRange", "internal/strconv.uint64pow10", "math/bits.deBruijn32tab", "math/bits.deBruijn64tab", "umpire/api.ErrLong", "umpire/api.ErrEnd", "unicode/utf8.first", "unicode/utf8.acceptRanges", "internal/bytealg.MaxLen"], apart := false, laid := [("math/bits.deBruijn32tab", laid_math_bits_deBruijn32tab), ("math/bits.deBruijn64tab", laid_math_bits_deBruijn64tab), ("internal/strconv.uint64pow10", laid_internal_strconv_uint64pow10), ("unicode/utf8.acceptRanges", laid_unicode_utf8_acceptRanges), ("strconv.ErrRange", laid_strconv_ErrRange), ("strconv.ErrSyntax", laid_strconv_ErrSyntax), ("umpire/api.ErrNumber", laid_umpire_api_ErrNumber), ("umpire/api.ErrLong", laid_umpire_api_ErrLong), ("umpire/api.ErrEnd", laid_umpire_api_ErrEnd), ("unicode/utf8.first", laid_unicode_utf8_first)] }
def WordOwnSaid : Prop := wordOwnRow.holds Tryd.pinned (OpenSpec.ofChange wordOwnSpec)

/-- ITS FALSE NEIGHBOUR: 'it returns false'. Refute it at one input. -/
def wordOwnWrong : ChangeSpec := { name := "wordOwn", fn := fun _ => fun
  | [d1, d2] => { results := [.lit (.bool false)], args := [d1, d2] }
  | _ => none }
def WordOwnWrongFalsely : Prop := wordOwnRow.holds Tryd.pinned (OpenSpec.ofChange wordOwnWrong)

/-- 'umpirelaw2.EventWords': WHATEVER THE INPUT: true; the input reads as it did. -/
def eventWordsSpec : ChangeSpec := { name := "eventWords", fn := fun _ => fun
  | [d1, d2, d3, d4, d5] => { results := [.lit (.bool true)], args := [d1, d2, d3, d4, d5] }
  | _ => none }
def eventWordsRow : OpenClaim := { program := "ytdinjplbbmhleaadoor", sum := "8dd49ac66f8f9fff1b8f810e8945f7a6c3721b7f45e783f9f1bd0e2b09de7151", func := "umpire/umpirelaw2.EventWords", spec := "eventWords", inPlace := ["internal/abi.NoEscape", "internal/bytealg.MakeNoZero"], unfollowed := true, recurses := true, named := ["umpire/api.ErrCode", "umpire/api.ErrEvent", "umpire/event.objects", "umpire/event.events", "umpire/event.ops", "umpire/event.answers", "umpire/event.states", "umpire/event.levels", "internal/strconv.uint64pow10", "math/bits.deBruijn32tab", "math/bits.deBruijn64tab", "umpire/api.ErrWords", "umpire/api.ErrWord", "umpire/api.ErrNumber", "strconv.ErrSyntax", "strconv.ErrRange", "umpire/api.ErrObject"], apart := false, laid := [("math/bits.deBruijn32tab", laid_math_bits_deBruijn32tab), ("math/bits.deBruijn64tab", laid_math_bits_deBruijn64tab), ("internal/strconv.uint64pow10", laid_internal_strconv_uint64pow10), ("strconv.ErrRange", laid_strconv_ErrRange), ("strconv.ErrSyntax", laid_strconv_ErrSyntax), ("umpire/api.ErrNumber", laid_umpire_api_ErrNumber), ("umpire/api.ErrWord", laid_umpire_api_ErrWord), ("umpire/api.ErrWords", laid_umpire_api_ErrWords), ("umpire/api.ErrCode", laid_umpire_api_ErrCode), ("umpire/api.ErrObject", laid_umpire_api_ErrObject), ("umpire/api.ErrEvent", laid_umpire_api_ErrEvent), ("umpire/event.objects", laid_umpire_event_objects), ("umpire/event.events", laid_umpire_event_events), ("umpire/event.ops", laid_umpire_event_ops), ("umpire/event.answers", laid_umpire_event_answers), ("umpire/event.states", laid_umpire_event_states), ("umpire/event.levels", laid_umpire_event_levels)] }
def EventWordsSaid : Prop := eventWordsRow.holds Tryd.pinned (OpenSpec.ofChange eventWordsSpec)

/-- ITS FALSE NEIGHBOUR: 'it returns false'. Refute it at one input. -/
def eventWordsWrong : ChangeSpec := { name := "eventWords", fn := fun _ => fun
  | [d1, d2, d3, d4, d5] => { results := [.lit (.bool false)], args := [d1, d2, d3, d4, d5] }
  | _ => none }
def EventWordsWrongFalsely : Prop := eventWordsRow.holds Tryd.pinned (OpenSpec.ofChange eventWordsWrong)

/-- 'umpirelaw2.EventTables': WHATEVER THE INPUT: true; the input reads as it did. -/
def eventTablesSpec : ChangeSpec := { name := "eventTables", fn := fun _ => fun
  | [d1, d2, d3, d4] => { results := [.lit (.bool true)], args := [d1, d2, d3, d4] }
  | _ => none }
def eventTablesRow : OpenClaim := { program := "ytdinjplbbmhleaadoor", sum := "8dd49ac66f8f9fff1b8f810e8945f7a6c3721b7f45e783f9f1bd0e2b09de7151", func := "umpire/umpirelaw2.EventTables", spec := "eventTables", inPlace := ["internal/abi.NoEscape", "internal/bytealg.MakeNoZero"], unfollowed := true, recurses := true, named := ["umpire/api.ErrCode", "umpire/api.ErrEvent", "umpire/event.objects", "umpire/event.events", "umpire/event.ops", "umpire/event.answers", "umpire/event.states", "umpire/event.levels", "internal/strconv.uint64pow10", "math/bits.deBruijn32tab", "math/bits.deBruijn64tab", "umpire/api.ErrWords", "umpire/api.ErrWord", "umpire/api.ErrNumber", "strconv.ErrSyntax", "strconv.ErrRange", "umpire/api.ErrObject"], apart := false, laid := [("math/bits.deBruijn32tab", laid_math_bits_deBruijn32tab), ("math/bits.deBruijn64tab", laid_math_bits_deBruijn64tab), ("internal/strconv.uint64pow10", laid_internal_strconv_uint64pow10), ("strconv.ErrRange", laid_strconv_ErrRange), ("strconv.ErrSyntax", laid_strconv_ErrSyntax), ("umpire/api.ErrNumber", laid_umpire_api_ErrNumber), ("umpire/api.ErrWord", laid_umpire_api_ErrWord), ("umpire/api.ErrWords", laid_umpire_api_ErrWords), ("umpire/api.ErrCode", laid_umpire_api_ErrCode), ("umpire/api.ErrObject", laid_umpire_api_ErrObject), ("umpire/api.ErrEvent", laid_umpire_api_ErrEvent), ("umpire/event.objects", laid_umpire_event_objects), ("umpire/event.events", laid_umpire_event_events), ("umpire/event.ops", laid_umpire_event_ops), ("umpire/event.answers", laid_umpire_event_answers), ("umpire/event.states", laid_umpire_event_states), ("umpire/event.levels", laid_umpire_event_levels)] }
def EventTablesSaid : Prop := eventTablesRow.holds Tryd.pinned (OpenSpec.ofChange eventTablesSpec)

/-- ITS FALSE NEIGHBOUR: 'it returns false'. Refute it at one input. -/
def eventTablesWrong : ChangeSpec := { name := "eventTables", fn := fun _ => fun
  | [d1, d2, d3, d4] => { results := [.lit (.bool false)], args := [d1, d2, d3, d4] }
  | _ => none }
def EventTablesWrongFalsely : Prop := eventTablesRow.holds Tryd.pinned (OpenSpec.ofChange eventTablesWrong)

/-- 'umpirelaw1.WordLines': WHATEVER THE INPUT: true; the input reads as it did. -/
def wordLinesSpec : ChangeSpec := { name := "wordLines", fn := fun _ => fun
  | [d1, d2] => { results := [.lit (.bool true)], args := [d1, d2] }
  | _ => none }
def wordLinesRow : OpenClaim := { program := "ytdinjplbbmhleaadoor", sum := "8dd49ac66f8f9fff1b8f810e8945f7a6c3721b7f45e783f9f1bd0e2b09de7151", func := "umpire/umpirelaw1.WordLines", spec := "wordLines", inPlace := ["internal/bytealg.IndexByteString", "internal/bytealg.IndexString", "internal/abi.NoEscape", "internal/bytealg.MakeNoZero"], unfollowed := true, recurses := true, named := ["umpire/api.ErrNumber", "strconv.ErrSyntax", "strconv.ErrRange", "internal/strconv.uint64pow10", "math/bits.deBruijn32tab", "math/bits.deBruijn64tab", "umpire/api.ErrLong", "umpire/api.ErrEnd", "unicode/utf8.first", "unicode/utf8.acceptRanges", "internal/bytealg.MaxLen"], apart := false, laid := [("math/bits.deBruijn32tab", laid_math_bits_deBruijn32tab), ("math/bits.deBruijn64tab", laid_math_bits_deBruijn64tab), ("internal/strconv.uint64pow10", laid_internal_strconv_uint64pow10), ("unicode/utf8.acceptRanges", laid_unicode_utf8_acceptRanges), ("strconv.ErrRange", laid_strconv_ErrRange), ("strconv.ErrSyntax", laid_strconv_ErrSyntax), ("umpire/api.ErrNumber", laid_umpire_api_ErrNumber), ("umpire/api.ErrLong", laid_umpire_api_ErrLong), ("umpire/api.ErrEnd", laid_umpire_api_ErrEnd), ("unicode/utf8.first", laid_unicode_utf8_first)] }
def WordLinesSaid : Prop := wordLinesRow.holds Tryd.pinned (OpenSpec.ofChange wordLinesSpec)

/-- ITS FALSE NEIGHBOUR: 'it returns false'. Refute it at one input. -/
def wordLinesWrong : ChangeSpec := { name := "wordLines", fn := fun _ => fun
  | [d1, d2] => { results := [.lit (.bool false)], args := [d1, d2] }
  | _ => none }
def WordLinesWrongFalsely : Prop := wordLinesRow.holds Tryd.pinned (OpenSpec.ofChange wordLinesWrong)

/-- 'umpirelaw1.WordJoins': WHATEVER THE INPUT: true; the input reads as it did. -/
def wordJoinsSpec : ChangeSpec := { name := "wordJoins", fn := fun _ => fun
  | [d1, d2] => { results := [.lit (.bool true)], args := [d1, d2] }
  | _ => none }
def wordJoinsRow : OpenClaim := { program := "ytdinjplbbmhleaadoor", sum := "8dd49ac66f8f9fff1b8f810e8945f7a6c3721b7f45e783f9f1bd0e2b09de7151", func := "umpire/umpirelaw1.WordJoins", spec := "wordJoins", inPlace := ["internal/bytealg.IndexByteString", "internal/bytealg.IndexString", "internal/abi.NoEscape", "internal/bytealg.MakeNoZero"], unfollowed := true, recurses := true, named := ["umpire/api.ErrNumber", "strconv.ErrSyntax", "strconv.ErrRange", "internal/strconv.uint64pow10", "math/bits.deBruijn32tab", "math/bits.deBruijn64tab", "umpire/api.ErrLong", "umpire/api.ErrEnd", "unicode/utf8.first", "unicode/utf8.acceptRanges", "internal/bytealg.MaxLen"], apart := false, laid := [("math/bits.deBruijn32tab", laid_math_bits_deBruijn32tab), ("math/bits.deBruijn64tab", laid_math_bits_deBruijn64tab), ("internal/strconv.uint64pow10", laid_internal_strconv_uint64pow10), ("unicode/utf8.acceptRanges", laid_unicode_utf8_acceptRanges), ("strconv.ErrRange", laid_strconv_ErrRange), ("strconv.ErrSyntax", laid_strconv_ErrSyntax), ("umpire/api.ErrNumber", laid_umpire_api_ErrNumber), ("umpire/api.ErrLong", laid_umpire_api_ErrLong), ("umpire/api.ErrEnd", laid_umpire_api_ErrEnd), ("unicode/utf8.first", laid_unicode_utf8_first)] }
def WordJoinsSaid : Prop := wordJoinsRow.holds Tryd.pinned (OpenSpec.ofChange wordJoinsSpec)

/-- ITS FALSE NEIGHBOUR: 'it returns false'. Refute it at one input. -/
def wordJoinsWrong : ChangeSpec := { name := "wordJoins", fn := fun _ => fun
  | [d1, d2] => { results := [.lit (.bool false)], args := [d1, d2] }
  | _ => none }
def WordJoinsWrongFalsely : Prop := wordJoinsRow.holds Tryd.pinned (OpenSpec.ofChange wordJoinsWrong)

/-- 'umpirelaw2.EventOne': WHATEVER THE INPUT: true; the input reads as it did. -/
def eventOneSpec : ChangeSpec := { name := "eventOne", fn := fun _ => fun
  | [d] => { results := [.lit (.bool true)], args := [d] }
  | _ => none }
def eventOneRow : OpenClaim := { program := "ytdinjplbbmhleaadoor", sum := "8dd49ac66f8f9fff1b8f810e8945f7a6c3721b7f45e783f9f1bd0e2b09de7151", func := "umpire/umpirelaw2.EventOne", spec := "eventOne", inPlace := ["internal/abi.NoEscape", "internal/bytealg.MakeNoZero"], unfollowed := true, recurses := true, named := ["umpire/api.ErrCode", "umpire/api.ErrEvent", "umpire/event.objects", "umpire/event.events", "umpire/event.ops", "umpire/event.answers", "umpire/event.states", "umpire/event.levels", "internal/strconv.uint64pow10", "math/bits.deBruijn32tab", "math/bits.deBruijn64tab", "umpire/api.ErrWords", "umpire/api.ErrWord", "umpire/api.ErrNumber", "strconv.ErrSyntax", "strconv.ErrRange", "umpire/api.ErrObject", "umpire/api.ErrLong", "umpire/api.ErrEnd"], apart := false, laid := [("math/bits.deBruijn32tab", laid_math_bits_deBruijn32tab), ("math/bits.deBruijn64tab", laid_math_bits_deBruijn64tab), ("internal/strconv.uint64pow10", laid_internal_strconv_uint64pow10), ("strconv.ErrRange", laid_strconv_ErrRange), ("strconv.ErrSyntax", laid_strconv_ErrSyntax), ("umpire/api.ErrNumber", laid_umpire_api_ErrNumber), ("umpire/api.ErrWord", laid_umpire_api_ErrWord), ("umpire/api.ErrWords", laid_umpire_api_ErrWords), ("umpire/api.ErrLong", laid_umpire_api_ErrLong), ("umpire/api.ErrEnd", laid_umpire_api_ErrEnd), ("umpire/api.ErrCode", laid_umpire_api_ErrCode), ("umpire/api.ErrObject", laid_umpire_api_ErrObject), ("umpire/api.ErrEvent", laid_umpire_api_ErrEvent), ("umpire/event.objects", laid_umpire_event_objects), ("umpire/event.events", laid_umpire_event_events), ("umpire/event.ops", laid_umpire_event_ops), ("umpire/event.answers", laid_umpire_event_answers), ("umpire/event.states", laid_umpire_event_states), ("umpire/event.levels", laid_umpire_event_levels)] }
def EventOneSaid : Prop := eventOneRow.holds Tryd.pinned (OpenSpec.ofChange eventOneSpec)

/-- ITS FALSE NEIGHBOUR: 'it returns false'. Refute it at one input. -/
def eventOneWrong : ChangeSpec := { name := "eventOne", fn := fun _ => fun
  | [d] => { results := [.lit (.bool false)], args := [d] }
  | _ => none }
def EventOneWrongFalsely : Prop := eventOneRow.holds Tryd.pinned (OpenSpec.ofChange eventOneWrong)

/-- 'umpirelaw18.ProgBack': WHATEVER THE INPUT: true; the input reads as it did. -/
def progBackSpec : ChangeSpec := { name := "progBack", fn := fun _ => fun
  | [d1, d2, d3, d4, d5] => { results := [.lit (.bool true)], args := [d1, d2, d3, d4, d5] }
  | _ => none }
def progBackRow : OpenClaim := { program := "ytdinjplbbmhleaadoor", sum := "8dd49ac66f8f9fff1b8f810e8945f7a6c3721b7f45e783f9f1bd0e2b09de7151", func := "umpire/umpirelaw18.ProgBack", spec := "progBack", inPlace := ["internal/abi.NoEscape", "internal/bytealg.MakeNoZero", "internal/bytealg.IndexByteString", "internal/bytealg.IndexString"], unfollowed := true, recurses := true, named := ["umpire/prog.acts", "umpire/api.ErrProg", "internal/strconv.uint64pow10", "math/bits.deBruijn32tab", "math/bits.deBruijn64tab", "umpire/api.ErrLong", "umpire/api.ErrEnd", "unicode/utf8.first", "unicode/utf8.acceptRanges", "umpire/api.ErrWord", "umpire/api.ErrWords", "umpire/api.ErrNumber", "strconv.ErrSyntax", "strconv.ErrRange", "internal/bytealg.MaxLen"], apart := false, laid := [("math/bits.deBruijn32tab", laid_math_bits_deBruijn32tab), ("math/bits.deBruijn64tab", laid_math_bits_deBruijn64tab), ("internal/strconv.uint64pow10", laid_internal_strconv_uint64pow10), ("unicode/utf8.acceptRanges", laid_unicode_utf8_acceptRanges), ("strconv.ErrRange", laid_strconv_ErrRange), ("strconv.ErrSyntax", laid_strconv_ErrSyntax), ("umpire/api.ErrNumber", laid_umpire_api_ErrNumber), ("umpire/api.ErrWord", laid_umpire_api_ErrWord), ("umpire/api.ErrWords", laid_umpire_api_ErrWords), ("umpire/api.ErrLong", laid_umpire_api_ErrLong), ("umpire/api.ErrEnd", laid_umpire_api_ErrEnd), ("umpire/api.ErrProg", laid_umpire_api_ErrProg), ("umpire/prog.acts", laid_umpire_prog_acts), ("unicode/utf8.first", laid_unicode_utf8_first)] }
def ProgBackSaid : Prop := progBackRow.holds Tryd.pinned (OpenSpec.ofChange progBackSpec)

/-- ITS FALSE NEIGHBOUR: 'it returns false'. Refute it at one input. -/
def progBackWrong : ChangeSpec := { name := "progBack", fn := fun _ => fun
  | [d1, d2, d3, d4, d5] => { results := [.lit (.bool false)], args := [d1, d2, d3, d4, d5] }
  | _ => none }
def ProgBackWrongFalsely : Prop := progBackRow.holds Tryd.pinned (OpenSpec.ofChange progBackWrong)

/- THE SECOND FORM. 'bulk': how many values and letters a reading holds, each counted each time it is reached (what is shared counts as often as it is met; a slice's spare places count too). A statement '..UptoSaid' is the law's where the arguments, and the package variables that the reading takes, are together of bulk at most 1048576: NARROWER than '..Said'. Prove '..Said' where nothing that the law and all that it calls make is longer than what came in: it says more and counts as full. Else prove '..UptoSaid'. A law counts once. -/
mutual
def uptoBulk {H : Type} : DataW H → Nat
  | .lit (.string bytes) => bytes.length + 1
  | .lit _ => 1
  | .nil => 1
  | .ptr d => uptoBulk d + 1
  | .slice elems spare => uptoBulkAll elems + uptoBulkAll spare + 1
  | .agg parts => uptoBulkAll parts + 1
  | .iface _ d => uptoBulk d + 1
  | .map entries => uptoBulkEntries entries + 1
  | .held _ => 1
def uptoBulkAll {H : Type} : List (DataW H) → Nat
  | [] => 0
  | d :: r => uptoBulk d + uptoBulkAll r
def uptoBulkEntries {H : Type} : List (Lit × DataW H) → Nat
  | [] => 0
  | x :: r => uptoBulkEntry x + uptoBulkEntries r
def uptoBulkEntry {H : Type} : Lit × DataW H → Nat
  | (.string bytes, d) => bytes.length + uptoBulk d + 1
  | (_, d) => uptoBulk d + 1
 end
def uptoSmall : (H : Type) → List (DataW H) → Bool := fun _ ds => decide (uptoBulkAll ds ≤ 1048576)
def OpenSpec.upto (s : _root_.Go.ChangeSpec) : _root_.Go.OpenSpec := { _root_.Go.OpenSpec.ofChange s with cond := some uptoSmall }

/-- 'umpirelaw1.WordWords', WHERE WHAT IT READS IS OF BULK AT MOST 1048576: true; the input reads as it did. -/
def wordWordsUptoRow : OpenClaim := { program := "ytdinjplbbmhleaadoor", sum := "8dd49ac66f8f9fff1b8f810e8945f7a6c3721b7f45e783f9f1bd0e2b09de7151", func := "umpire/umpirelaw1.WordWords", spec := "wordWords", inPlace := ["internal/bytealg.IndexByteString", "internal/bytealg.IndexString", "internal/abi.NoEscape", "internal/bytealg.MakeNoZero"], unfollowed := true, recurses := true, named := ["umpire/api.ErrNumber", "strconv.ErrSyntax", "strconv.ErrRange", "internal/strconv.uint64pow10", "math/bits.deBruijn32tab", "math/bits.deBruijn64tab", "umpire/api.ErrLong", "umpire/api.ErrEnd", "unicode/utf8.first", "unicode/utf8.acceptRanges", "internal/bytealg.MaxLen"], apart := false, laid := [("math/bits.deBruijn32tab", laid_math_bits_deBruijn32tab), ("math/bits.deBruijn64tab", laid_math_bits_deBruijn64tab), ("internal/strconv.uint64pow10", laid_internal_strconv_uint64pow10), ("unicode/utf8.acceptRanges", laid_unicode_utf8_acceptRanges), ("strconv.ErrRange", laid_strconv_ErrRange), ("strconv.ErrSyntax", laid_strconv_ErrSyntax), ("umpire/api.ErrNumber", laid_umpire_api_ErrNumber), ("umpire/api.ErrLong", laid_umpire_api_ErrLong), ("umpire/api.ErrEnd", laid_umpire_api_ErrEnd), ("unicode/utf8.first", laid_unicode_utf8_first)], narrowed := true }
def WordWordsUptoSaid : Prop := wordWordsUptoRow.holds Tryd.pinned (OpenSpec.upto wordWordsSpec)

/-- 'umpirelaw1.WordBack', WHERE WHAT IT READS IS OF BULK AT MOST 1048576: true; the input reads as it did. -/
def wordBackUptoRow : OpenClaim := { program := "ytdinjplbbmhleaadoor", sum := "8dd49ac66f8f9fff1b8f810e8945f7a6c3721b7f45e783f9f1bd0e2b09de7151", func := "umpire/umpirelaw1.WordBack", spec := "wordBack", inPlace := ["internal/bytealg.IndexByteString", "internal/bytealg.IndexString", "internal/abi.NoEscape", "internal/bytealg.MakeNoZero"], unfollowed := true, recurses := true, named := ["umpire/api.ErrNumber", "strconv.ErrSyntax", "strconv.ErrRange", "internal/strconv.uint64pow10", "math/bits.deBruijn32tab", "math/bits.deBruijn64tab", "umpire/api.ErrLong", "umpire/api.ErrEnd", "unicode/utf8.first", "unicode/utf8.acceptRanges", "internal/bytealg.MaxLen"], apart := false, laid := [("math/bits.deBruijn32tab", laid_math_bits_deBruijn32tab), ("math/bits.deBruijn64tab", laid_math_bits_deBruijn64tab), ("internal/strconv.uint64pow10", laid_internal_strconv_uint64pow10), ("unicode/utf8.acceptRanges", laid_unicode_utf8_acceptRanges), ("strconv.ErrRange", laid_strconv_ErrRange), ("strconv.ErrSyntax", laid_strconv_ErrSyntax), ("umpire/api.ErrNumber", laid_umpire_api_ErrNumber), ("umpire/api.ErrLong", laid_umpire_api_ErrLong), ("umpire/api.ErrEnd", laid_umpire_api_ErrEnd), ("unicode/utf8.first", laid_unicode_utf8_first)], narrowed := true }
def WordBackUptoSaid : Prop := wordBackUptoRow.holds Tryd.pinned (OpenSpec.upto wordBackSpec)

/-- 'umpirelaw1.WordOne', WHERE WHAT IT READS IS OF BULK AT MOST 1048576: true; the input reads as it did. -/
def wordOneUptoRow : OpenClaim := { program := "ytdinjplbbmhleaadoor", sum := "8dd49ac66f8f9fff1b8f810e8945f7a6c3721b7f45e783f9f1bd0e2b09de7151", func := "umpire/umpirelaw1.WordOne", spec := "wordOne", inPlace := ["internal/bytealg.IndexByteString", "internal/bytealg.IndexString", "internal/abi.NoEscape", "internal/bytealg.MakeNoZero"], unfollowed := true, recurses := true, named := ["umpire/api.ErrNumber", "strconv.ErrSyntax", "strconv.ErrRange", "internal/strconv.uint64pow10", "math/bits.deBruijn32tab", "math/bits.deBruijn64tab", "umpire/api.ErrLong", "umpire/api.ErrEnd", "unicode/utf8.first", "unicode/utf8.acceptRanges", "internal/bytealg.MaxLen"], apart := false, laid := [("math/bits.deBruijn32tab", laid_math_bits_deBruijn32tab), ("math/bits.deBruijn64tab", laid_math_bits_deBruijn64tab), ("internal/strconv.uint64pow10", laid_internal_strconv_uint64pow10), ("unicode/utf8.acceptRanges", laid_unicode_utf8_acceptRanges), ("strconv.ErrRange", laid_strconv_ErrRange), ("strconv.ErrSyntax", laid_strconv_ErrSyntax), ("umpire/api.ErrNumber", laid_umpire_api_ErrNumber), ("umpire/api.ErrLong", laid_umpire_api_ErrLong), ("umpire/api.ErrEnd", laid_umpire_api_ErrEnd), ("unicode/utf8.first", laid_unicode_utf8_first)], narrowed := true }
def WordOneUptoSaid : Prop := wordOneUptoRow.holds Tryd.pinned (OpenSpec.upto wordOneSpec)

/-- 'umpirelaw1.WordOwn', WHERE WHAT IT READS IS OF BULK AT MOST 1048576: true; the input reads as it did. -/
def wordOwnUptoRow : OpenClaim := { program := "ytdinjplbbmhleaadoor", sum := "8dd49ac66f8f9fff1b8f810e8945f7a6c3721b7f45e783f9f1bd0e2b09de7151", func := "umpire/umpirelaw1.WordOwn", spec := "wordOwn", inPlace := ["internal/bytealg.IndexByteString", "internal/bytealg.IndexString", "internal/abi.NoEscape", "internal/bytealg.MakeNoZero"], unfollowed := true, recurses := true, named := ["umpire/api.ErrNumber", "strconv.ErrSyntax", "strconv.ErrRange", "internal/strconv.uint64pow10", "math/bits.deBruijn32tab", "math/bits.deBruijn64tab", "umpire/api.ErrLong", "umpire/api.ErrEnd", "unicode/utf8.first", "unicode/utf8.acceptRanges", "internal/bytealg.MaxLen"], apart := false, laid := [("math/bits.deBruijn32tab", laid_math_bits_deBruijn32tab), ("math/bits.deBruijn64tab", laid_math_bits_deBruijn64tab), ("internal/strconv.uint64pow10", laid_internal_strconv_uint64pow10), ("unicode/utf8.acceptRanges", laid_unicode_utf8_acceptRanges), ("strconv.ErrRange", laid_strconv_ErrRange), ("strconv.ErrSyntax", laid_strconv_ErrSyntax), ("umpire/api.ErrNumber", laid_umpire_api_ErrNumber), ("umpire/api.ErrLong", laid_umpire_api_ErrLong), ("umpire/api.ErrEnd", laid_umpire_api_ErrEnd), ("unicode/utf8.first", laid_unicode_utf8_first)], narrowed := true }
def WordOwnUptoSaid : Prop := wordOwnUptoRow.holds Tryd.pinned (OpenSpec.upto wordOwnSpec)

/-- 'umpirelaw2.EventWords', WHERE WHAT IT READS IS OF BULK AT MOST 1048576: true; the input reads as it did. -/
def eventWordsUptoRow : OpenClaim := { program := "ytdinjplbbmhleaadoor", sum := "8dd49ac66f8f9fff1b8f810e8945f7a6c3721b7f45e783f9f1bd0e2b09de7151", func := "umpire/umpirelaw2.EventWords", spec := "eventWords", inPlace := ["internal/abi.NoEscape", "internal/bytealg.MakeNoZero"], unfollowed := true, recurses := true, named := ["umpire/api.ErrCode", "umpire/api.ErrEvent", "umpire/event.objects", "umpire/event.events", "umpire/event.ops", "umpire/event.answers", "umpire/event.states", "umpire/event.levels", "internal/strconv.uint64pow10", "math/bits.deBruijn32tab", "math/bits.deBruijn64tab", "umpire/api.ErrWords", "umpire/api.ErrWord", "umpire/api.ErrNumber", "strconv.ErrSyntax", "strconv.ErrRange", "umpire/api.ErrObject"], apart := false, laid := [("math/bits.deBruijn32tab", laid_math_bits_deBruijn32tab), ("math/bits.deBruijn64tab", laid_math_bits_deBruijn64tab), ("internal/strconv.uint64pow10", laid_internal_strconv_uint64pow10), ("strconv.ErrRange", laid_strconv_ErrRange), ("strconv.ErrSyntax", laid_strconv_ErrSyntax), ("umpire/api.ErrNumber", laid_umpire_api_ErrNumber), ("umpire/api.ErrWord", laid_umpire_api_ErrWord), ("umpire/api.ErrWords", laid_umpire_api_ErrWords), ("umpire/api.ErrCode", laid_umpire_api_ErrCode), ("umpire/api.ErrObject", laid_umpire_api_ErrObject), ("umpire/api.ErrEvent", laid_umpire_api_ErrEvent), ("umpire/event.objects", laid_umpire_event_objects), ("umpire/event.events", laid_umpire_event_events), ("umpire/event.ops", laid_umpire_event_ops), ("umpire/event.answers", laid_umpire_event_answers), ("umpire/event.states", laid_umpire_event_states), ("umpire/event.levels", laid_umpire_event_levels)], narrowed := true }
def EventWordsUptoSaid : Prop := eventWordsUptoRow.holds Tryd.pinned (OpenSpec.upto eventWordsSpec)

/-- 'umpirelaw2.EventTables', WHERE WHAT IT READS IS OF BULK AT MOST 1048576: true; the input reads as it did. -/
def eventTablesUptoRow : OpenClaim := { program := "ytdinjplbbmhleaadoor", sum := "8dd49ac66f8f9fff1b8f810e8945f7a6c3721b7f45e783f9f1bd0e2b09de7151", func := "umpire/umpirelaw2.EventTables", spec := "eventTables", inPlace := ["internal/abi.NoEscape", "internal/bytealg.MakeNoZero"], unfollowed := true, recurses := true, named := ["umpire/api.ErrCode", "umpire/api.ErrEvent", "umpire/event.objects", "umpire/event.events", "umpire/event.ops", "umpire/event.answers", "umpire/event.states", "umpire/event.levels", "internal/strconv.uint64pow10", "math/bits.deBruijn32tab", "math/bits.deBruijn64tab", "umpire/api.ErrWords", "umpire/api.ErrWord", "umpire/api.ErrNumber", "strconv.ErrSyntax", "strconv.ErrRange", "umpire/api.ErrObject"], apart := false, laid := [("math/bits.deBruijn32tab", laid_math_bits_deBruijn32tab), ("math/bits.deBruijn64tab", laid_math_bits_deBruijn64tab), ("internal/strconv.uint64pow10", laid_internal_strconv_uint64pow10), ("strconv.ErrRange", laid_strconv_ErrRange), ("strconv.ErrSyntax", laid_strconv_ErrSyntax), ("umpire/api.ErrNumber", laid_umpire_api_ErrNumber), ("umpire/api.ErrWord", laid_umpire_api_ErrWord), ("umpire/api.ErrWords", laid_umpire_api_ErrWords), ("umpire/api.ErrCode", laid_umpire_api_ErrCode), ("umpire/api.ErrObject", laid_umpire_api_ErrObject), ("umpire/api.ErrEvent", laid_umpire_api_ErrEvent), ("umpire/event.objects", laid_umpire_event_objects), ("umpire/event.events", laid_umpire_event_events), ("umpire/event.ops", laid_umpire_event_ops), ("umpire/event.answers", laid_umpire_event_answers), ("umpire/event.states", laid_umpire_event_states), ("umpire/event.levels", laid_umpire_event_levels)], narrowed := true }
def EventTablesUptoSaid : Prop := eventTablesUptoRow.holds Tryd.pinned (OpenSpec.upto eventTablesSpec)

/-- 'umpirelaw1.WordLines', WHERE WHAT IT READS IS OF BULK AT MOST 1048576: true; the input reads as it did. -/
def wordLinesUptoRow : OpenClaim := { program := "ytdinjplbbmhleaadoor", sum := "8dd49ac66f8f9fff1b8f810e8945f7a6c3721b7f45e783f9f1bd0e2b09de7151", func := "umpire/umpirelaw1.WordLines", spec := "wordLines", inPlace := ["internal/bytealg.IndexByteString", "internal/bytealg.IndexString", "internal/abi.NoEscape", "internal/bytealg.MakeNoZero"], unfollowed := true, recurses := true, named := ["umpire/api.ErrNumber", "strconv.ErrSyntax", "strconv.ErrRange", "internal/strconv.uint64pow10", "math/bits.deBruijn32tab", "math/bits.deBruijn64tab", "umpire/api.ErrLong", "umpire/api.ErrEnd", "unicode/utf8.first", "unicode/utf8.acceptRanges", "internal/bytealg.MaxLen"], apart := false, laid := [("math/bits.deBruijn32tab", laid_math_bits_deBruijn32tab), ("math/bits.deBruijn64tab", laid_math_bits_deBruijn64tab), ("internal/strconv.uint64pow10", laid_internal_strconv_uint64pow10), ("unicode/utf8.acceptRanges", laid_unicode_utf8_acceptRanges), ("strconv.ErrRange", laid_strconv_ErrRange), ("strconv.ErrSyntax", laid_strconv_ErrSyntax), ("umpire/api.ErrNumber", laid_umpire_api_ErrNumber), ("umpire/api.ErrLong", laid_umpire_api_ErrLong), ("umpire/api.ErrEnd", laid_umpire_api_ErrEnd), ("unicode/utf8.first", laid_unicode_utf8_first)], narrowed := true }
def WordLinesUptoSaid : Prop := wordLinesUptoRow.holds Tryd.pinned (OpenSpec.upto wordLinesSpec)

/-- 'umpirelaw1.WordJoins', WHERE WHAT IT READS IS OF BULK AT MOST 1048576: true; the input reads as it did. -/
def wordJoinsUptoRow : OpenClaim := { program := "ytdinjplbbmhleaadoor", sum := "8dd49ac66f8f9fff1b8f810e8945f7a6c3721b7f45e783f9f1bd0e2b09de7151", func := "umpire/umpirelaw1.WordJoins", spec := "wordJoins", inPlace := ["internal/bytealg.IndexByteString", "internal/bytealg.IndexString", "internal/abi.NoEscape", "internal/bytealg.MakeNoZero"], unfollowed := true, recurses := true, named := ["umpire/api.ErrNumber", "strconv.ErrSyntax", "strconv.ErrRange", "internal/strconv.uint64pow10", "math/bits.deBruijn32tab", "math/bits.deBruijn64tab", "umpire/api.ErrLong", "umpire/api.ErrEnd", "unicode/utf8.first", "unicode/utf8.acceptRanges", "internal/bytealg.MaxLen"], apart := false, laid := [("math/bits.deBruijn32tab", laid_math_bits_deBruijn32tab), ("math/bits.deBruijn64tab", laid_math_bits_deBruijn64tab), ("internal/strconv.uint64pow10", laid_internal_strconv_uint64pow10), ("unicode/utf8.acceptRanges", laid_unicode_utf8_acceptRanges), ("strconv.ErrRange", laid_strconv_ErrRange), ("strconv.ErrSyntax", laid_strconv_ErrSyntax), ("umpire/api.ErrNumber", laid_umpire_api_ErrNumber), ("umpire/api.ErrLong", laid_umpire_api_ErrLong), ("umpire/api.ErrEnd", laid_umpire_api_ErrEnd), ("unicode/utf8.first", laid_unicode_utf8_first)], narrowed := true }
def WordJoinsUptoSaid : Prop := wordJoinsUptoRow.holds Tryd.pinned (OpenSpec.upto wordJoinsSpec)

/-- 'umpirelaw2.EventOne', WHERE WHAT IT READS IS OF BULK AT MOST 1048576: true; the input reads as it did. -/
def eventOneUptoRow : OpenClaim := { program := "ytdinjplbbmhleaadoor", sum := "8dd49ac66f8f9fff1b8f810e8945f7a6c3721b7f45e783f9f1bd0e2b09de7151", func := "umpire/umpirelaw2.EventOne", spec := "eventOne", inPlace := ["internal/abi.NoEscape", "internal/bytealg.MakeNoZero"], unfollowed := true, recurses := true, named := ["umpire/api.ErrCode", "umpire/api.ErrEvent", "umpire/event.objects", "umpire/event.events", "umpire/event.ops", "umpire/event.answers", "umpire/event.states", "umpire/event.levels", "internal/strconv.uint64pow10", "math/bits.deBruijn32tab", "math/bits.deBruijn64tab", "umpire/api.ErrWords", "umpire/api.ErrWord", "umpire/api.ErrNumber", "strconv.ErrSyntax", "strconv.ErrRange", "umpire/api.ErrObject", "umpire/api.ErrLong", "umpire/api.ErrEnd"], apart := false, laid := [("math/bits.deBruijn32tab", laid_math_bits_deBruijn32tab), ("math/bits.deBruijn64tab", laid_math_bits_deBruijn64tab), ("internal/strconv.uint64pow10", laid_internal_strconv_uint64pow10), ("strconv.ErrRange", laid_strconv_ErrRange), ("strconv.ErrSyntax", laid_strconv_ErrSyntax), ("umpire/api.ErrNumber", laid_umpire_api_ErrNumber), ("umpire/api.ErrWord", laid_umpire_api_ErrWord), ("umpire/api.ErrWords", laid_umpire_api_ErrWords), ("umpire/api.ErrLong", laid_umpire_api_ErrLong), ("umpire/api.ErrEnd", laid_umpire_api_ErrEnd), ("umpire/api.ErrCode", laid_umpire_api_ErrCode), ("umpire/api.ErrObject", laid_umpire_api_ErrObject), ("umpire/api.ErrEvent", laid_umpire_api_ErrEvent), ("umpire/event.objects", laid_umpire_event_objects), ("umpire/event.events", laid_umpire_event_events), ("umpire/event.ops", laid_umpire_event_ops), ("umpire/event.answers", laid_umpire_event_answers), ("umpire/event.states", laid_umpire_event_states), ("umpire/event.levels", laid_umpire_event_levels)], narrowed := true }
def EventOneUptoSaid : Prop := eventOneUptoRow.holds Tryd.pinned (OpenSpec.upto eventOneSpec)

/-- 'umpirelaw18.ProgBack', WHERE WHAT IT READS IS OF BULK AT MOST 1048576: true; the input reads as it did. -/
def progBackUptoRow : OpenClaim := { program := "ytdinjplbbmhleaadoor", sum := "8dd49ac66f8f9fff1b8f810e8945f7a6c3721b7f45e783f9f1bd0e2b09de7151", func := "umpire/umpirelaw18.ProgBack", spec := "progBack", inPlace := ["internal/abi.NoEscape", "internal/bytealg.MakeNoZero", "internal/bytealg.IndexByteString", "internal/bytealg.IndexString"], unfollowed := true, recurses := true, named := ["umpire/prog.acts", "umpire/api.ErrProg", "internal/strconv.uint64pow10", "math/bits.deBruijn32tab", "math/bits.deBruijn64tab", "umpire/api.ErrLong", "umpire/api.ErrEnd", "unicode/utf8.first", "unicode/utf8.acceptRanges", "umpire/api.ErrWord", "umpire/api.ErrWords", "umpire/api.ErrNumber", "strconv.ErrSyntax", "strconv.ErrRange", "internal/bytealg.MaxLen"], apart := false, laid := [("math/bits.deBruijn32tab", laid_math_bits_deBruijn32tab), ("math/bits.deBruijn64tab", laid_math_bits_deBruijn64tab), ("internal/strconv.uint64pow10", laid_internal_strconv_uint64pow10), ("unicode/utf8.acceptRanges", laid_unicode_utf8_acceptRanges), ("strconv.ErrRange", laid_strconv_ErrRange), ("strconv.ErrSyntax", laid_strconv_ErrSyntax), ("umpire/api.ErrNumber", laid_umpire_api_ErrNumber), ("umpire/api.ErrWord", laid_umpire_api_ErrWord), ("umpire/api.ErrWords", laid_umpire_api_ErrWords), ("umpire/api.ErrLong", laid_umpire_api_ErrLong), ("umpire/api.ErrEnd", laid_umpire_api_ErrEnd), ("umpire/api.ErrProg", laid_umpire_api_ErrProg), ("umpire/prog.acts", laid_umpire_prog_acts), ("unicode/utf8.first", laid_unicode_utf8_first)], narrowed := true }
def ProgBackUptoSaid : Prop := progBackUptoRow.holds Tryd.pinned (OpenSpec.upto progBackSpec)

end Rows
end Go.Proofs.YtdinjplbbmhleaaDoor
