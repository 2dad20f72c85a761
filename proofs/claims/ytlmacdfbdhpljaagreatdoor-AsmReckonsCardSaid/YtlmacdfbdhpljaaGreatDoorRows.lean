/-
  NARROWER THAN 'FOR EVERY INPUT', by the rows' own cells (each row's printed sentence says how): AsmInfo: laid · AsmReckons: laid · AsmDisasm: laid · AsmTimed: laid · AsmNear: laid · AsmListings: laid · AsmRound: laid · AsmListed: laid · AsmSources: laid · AsmNamed: laid · AsmJoined: laid · AsmAll: laid.
  DERIVED. THE GIVEN ROWS OF THIS SEAT. 12 by the template 'for every input the law returns true; each argument reads behind the call as it read before'; 0 by the template 'total and deterministic' (their statements: YtlmacdfbdhpljaaGreatDoorTotals.lean).
  GIVEN WITH THE SEED: the statements are not yours to turn. If you find one false, say at which input.
  Laid BY PROGRAM, IN A SANDBOX (cutbox-rows.mjs): the forced cells as the released guide's own fill.sh prints them over the translation c1fc5ea08af5add3… (all of the seat's roots in one cut). By AI agents, Wed Nov 11 2026. No macro, syntax, notation, axiom, sorry.
-/
import Derived.Test.YtlmacdfbdhpljaaGreatDoorChecked
import GoSem.PinnedTables
import GoSem.Claim
import GoSem.ClaimJoined
import GoSem.ClaimMapViews
import Derived.JoinedTies
import Derived.KernelRfl
namespace Go.Proofs.YtlmacdfbdhpljaaGreatDoor
/- THE CELL 'sum', in the pinned program and in every row, IS THE sha256 OF THE DUMP (.gsa) THAT YtlmacdfbdhpljaaGreatDoorProg.lean LOADS. Nothing in Lean hashes anything: it is a label: what it is worth is what the hold of that sum in a sandbox is worth. -/
noncomputable def Tryz.pinned : Pinned := { name := "ytlmacdfbdhpljaagreatdoor", sum := "c1fc5ea08af5add31e21b45d2d9602e2c0d88c68832ab020fd9530ac2ea2529b", checked := Tryz.checked }
namespace Rows
def none {H : Type} : Left H := { results := [], args := [] }

/- WHAT THE LISTED PACKAGE-LEVEL VARIABLES READ AS WHEN THE CALL BEGINS. Each datum BY PROGRAM (the guide's laid-datum.mjs) off the statement by which the dump's own 'gosem.cut.vars' lays the variable. In a bare row this is a premise. The card (YtlmacdfbdhpljaaGreatDoorCards.lean) ties it to the program's text. -/
def laid_unicode_utf8_acceptRanges {H : Type} : DataW H := .agg [.agg [.lit (.int .u8 128), .lit (.int .u8 191)], .agg [.lit (.int .u8 160), .lit (.int .u8 191)], .agg [.lit (.int .u8 128), .lit (.int .u8 159)], .agg [.lit (.int .u8 144), .lit (.int .u8 191)], .agg [.lit (.int .u8 128), .lit (.int .u8 143)], .agg [.lit (.int .u8 0), .lit (.int .u8 0)], .agg [.lit (.int .u8 0), .lit (.int .u8 0)], .agg [.lit (.int .u8 0), .lit (.int .u8 0)], .agg [.lit (.int .u8 0), .lit (.int .u8 0)], .agg [.lit (.int .u8 0), .lit (.int .u8 0)], .agg [.lit (.int .u8 0), .lit (.int .u8 0)], .agg [.lit (.int .u8 0), .lit (.int .u8 0)], .agg [.lit (.int .u8 0), .lit (.int .u8 0)], .agg [.lit (.int .u8 0), .lit (.int .u8 0)], .agg [.lit (.int .u8 0), .lit (.int .u8 0)], .agg [.lit (.int .u8 0), .lit (.int .u8 0)]]
/-- One of Go's own tables, pinned by name: the form's constant. -/
def laid_unicode_utf8_first : DataW Unit := Go.Pinned.utf8First
def laid_math_bits_deBruijn32tab {H : Type} : DataW H := .agg [.lit (.int .u8 0), .lit (.int .u8 1), .lit (.int .u8 28), .lit (.int .u8 2), .lit (.int .u8 29), .lit (.int .u8 14), .lit (.int .u8 24), .lit (.int .u8 3), .lit (.int .u8 30), .lit (.int .u8 22), .lit (.int .u8 20), .lit (.int .u8 15), .lit (.int .u8 25), .lit (.int .u8 17), .lit (.int .u8 4), .lit (.int .u8 8), .lit (.int .u8 31), .lit (.int .u8 27), .lit (.int .u8 13), .lit (.int .u8 23), .lit (.int .u8 21), .lit (.int .u8 19), .lit (.int .u8 16), .lit (.int .u8 7), .lit (.int .u8 26), .lit (.int .u8 12), .lit (.int .u8 18), .lit (.int .u8 6), .lit (.int .u8 11), .lit (.int .u8 5), .lit (.int .u8 10), .lit (.int .u8 9)]
def laid_math_bits_deBruijn64tab {H : Type} : DataW H := .agg [.lit (.int .u8 0), .lit (.int .u8 1), .lit (.int .u8 56), .lit (.int .u8 2), .lit (.int .u8 57), .lit (.int .u8 49), .lit (.int .u8 28), .lit (.int .u8 3), .lit (.int .u8 61), .lit (.int .u8 58), .lit (.int .u8 42), .lit (.int .u8 50), .lit (.int .u8 38), .lit (.int .u8 29), .lit (.int .u8 17), .lit (.int .u8 4), .lit (.int .u8 62), .lit (.int .u8 47), .lit (.int .u8 59), .lit (.int .u8 36), .lit (.int .u8 45), .lit (.int .u8 43), .lit (.int .u8 51), .lit (.int .u8 22), .lit (.int .u8 53), .lit (.int .u8 39), .lit (.int .u8 33), .lit (.int .u8 30), .lit (.int .u8 24), .lit (.int .u8 18), .lit (.int .u8 12), .lit (.int .u8 5), .lit (.int .u8 63), .lit (.int .u8 55), .lit (.int .u8 48), .lit (.int .u8 27), .lit (.int .u8 60), .lit (.int .u8 41), .lit (.int .u8 37), .lit (.int .u8 16), .lit (.int .u8 46), .lit (.int .u8 35), .lit (.int .u8 44), .lit (.int .u8 21), .lit (.int .u8 52), .lit (.int .u8 32), .lit (.int .u8 23), .lit (.int .u8 11), .lit (.int .u8 54), .lit (.int .u8 26), .lit (.int .u8 40), .lit (.int .u8 15), .lit (.int .u8 34), .lit (.int .u8 20), .lit (.int .u8 31), .lit (.int .u8 10), .lit (.int .u8 25), .lit (.int .u8 14), .lit (.int .u8 19), .lit (.int .u8 9), .lit (.int .u8 13), .lit (.int .u8 8), .lit (.int .u8 7), .lit (.int .u8 6)]
def laid_internal_strconv_uint64pow10 {H : Type} : DataW H := .agg [.lit (.int .u64 1), .lit (.int .u64 10), .lit (.int .u64 100), .lit (.int .u64 1000), .lit (.int .u64 10000), .lit (.int .u64 100000), .lit (.int .u64 1000000), .lit (.int .u64 10000000), .lit (.int .u64 100000000), .lit (.int .u64 1000000000), .lit (.int .u64 10000000000), .lit (.int .u64 100000000000), .lit (.int .u64 1000000000000), .lit (.int .u64 10000000000000), .lit (.int .u64 100000000000000), .lit (.int .u64 1000000000000000), .lit (.int .u64 10000000000000000), .lit (.int .u64 100000000000000000), .lit (.int .u64 1000000000000000000), .lit (.int .u64 10000000000000000000)]

/-- 'arcadelaw2.AsmInfo': WHATEVER THE INPUT: true; the input reads as it did. -/
def asmInfoSpec : ChangeSpec := { name := "asmInfo", fn := fun _ => fun
  | [d1, d2] => { results := [.lit (.bool true)], args := [d1, d2] }
  | _ => none }
def asmInfoRow : OpenClaim := { program := "ytlmacdfbdhpljaagreatdoor", sum := "c1fc5ea08af5add31e21b45d2d9602e2c0d88c68832ab020fd9530ac2ea2529b", func := "arcade/arcadelaw2.AsmInfo", spec := "asmInfo", inPlace := ["internal/bytealg.CountString", "internal/bytealg.IndexByteString", "internal/bytealg.IndexString"], unfollowed := true, recurses := true, named := ["unicode/utf8.first", "unicode/utf8.acceptRanges", "internal/bytealg.MaxLen"], apart := false, laid := [("unicode/utf8.acceptRanges", laid_unicode_utf8_acceptRanges), ("unicode/utf8.first", laid_unicode_utf8_first)] }
def AsmInfoSaid : Prop := asmInfoRow.holds Tryz.pinned (OpenSpec.ofChange asmInfoSpec)

/-- ITS FALSE NEIGHBOUR: 'it returns false'. Refute it at one input. -/
def asmInfoWrong : ChangeSpec := { name := "asmInfo", fn := fun _ => fun
  | [d1, d2] => { results := [.lit (.bool false)], args := [d1, d2] }
  | _ => none }
def AsmInfoWrongFalsely : Prop := asmInfoRow.holds Tryz.pinned (OpenSpec.ofChange asmInfoWrong)

/-- 'arcadelaw2.AsmReckons': WHATEVER THE INPUT: true; the input reads as it did. -/
def asmReckonsSpec : ChangeSpec := { name := "asmReckons", fn := fun _ => fun
  | [d1, d2] => { results := [.lit (.bool true)], args := [d1, d2] }
  | _ => none }
def asmReckonsRow : OpenClaim := { program := "ytlmacdfbdhpljaagreatdoor", sum := "c1fc5ea08af5add31e21b45d2d9602e2c0d88c68832ab020fd9530ac2ea2529b", func := "arcade/arcadelaw2.AsmReckons", spec := "asmReckons", inPlace := ["internal/bytealg.CountString", "internal/bytealg.IndexByteString", "internal/bytealg.IndexString"], unfollowed := true, recurses := true, named := ["unicode/utf8.first", "unicode/utf8.acceptRanges", "internal/bytealg.MaxLen"], apart := false, laid := [("unicode/utf8.acceptRanges", laid_unicode_utf8_acceptRanges), ("unicode/utf8.first", laid_unicode_utf8_first)] }
def AsmReckonsSaid : Prop := asmReckonsRow.holds Tryz.pinned (OpenSpec.ofChange asmReckonsSpec)

/-- ITS FALSE NEIGHBOUR: 'it returns false'. Refute it at one input. -/
def asmReckonsWrong : ChangeSpec := { name := "asmReckons", fn := fun _ => fun
  | [d1, d2] => { results := [.lit (.bool false)], args := [d1, d2] }
  | _ => none }
def AsmReckonsWrongFalsely : Prop := asmReckonsRow.holds Tryz.pinned (OpenSpec.ofChange asmReckonsWrong)

/-- 'arcadelaw2.AsmDisasm': WHATEVER THE INPUT: true; the input reads as it did. -/
def asmDisasmSpec : ChangeSpec := { name := "asmDisasm", fn := fun _ => fun
  | [d1, d2, d3] => { results := [.lit (.bool true)], args := [d1, d2, d3] }
  | _ => none }
def asmDisasmRow : OpenClaim := { program := "ytlmacdfbdhpljaagreatdoor", sum := "c1fc5ea08af5add31e21b45d2d9602e2c0d88c68832ab020fd9530ac2ea2529b", func := "arcade/arcadelaw2.AsmDisasm", spec := "asmDisasm", inPlace := ["internal/bytealg.CountString", "internal/bytealg.IndexByteString", "internal/bytealg.IndexString"], unfollowed := true, recurses := true, named := ["unicode/utf8.first", "unicode/utf8.acceptRanges", "internal/bytealg.MaxLen", "internal/strconv.uint64pow10", "math/bits.deBruijn32tab", "math/bits.deBruijn64tab"], apart := false, laid := [("math/bits.deBruijn32tab", laid_math_bits_deBruijn32tab), ("math/bits.deBruijn64tab", laid_math_bits_deBruijn64tab), ("internal/strconv.uint64pow10", laid_internal_strconv_uint64pow10), ("unicode/utf8.acceptRanges", laid_unicode_utf8_acceptRanges), ("unicode/utf8.first", laid_unicode_utf8_first)] }
def AsmDisasmSaid : Prop := asmDisasmRow.holds Tryz.pinned (OpenSpec.ofChange asmDisasmSpec)

/-- ITS FALSE NEIGHBOUR: 'it returns false'. Refute it at one input. -/
def asmDisasmWrong : ChangeSpec := { name := "asmDisasm", fn := fun _ => fun
  | [d1, d2, d3] => { results := [.lit (.bool false)], args := [d1, d2, d3] }
  | _ => none }
def AsmDisasmWrongFalsely : Prop := asmDisasmRow.holds Tryz.pinned (OpenSpec.ofChange asmDisasmWrong)

/-- 'arcadelaw2.AsmTimed': WHATEVER THE INPUT: true; the input reads as it did. -/
def asmTimedSpec : ChangeSpec := { name := "asmTimed", fn := fun _ => fun
  | [d1, d2, d3, d4] => { results := [.lit (.bool true)], args := [d1, d2, d3, d4] }
  | _ => none }
def asmTimedRow : OpenClaim := { program := "ytlmacdfbdhpljaagreatdoor", sum := "c1fc5ea08af5add31e21b45d2d9602e2c0d88c68832ab020fd9530ac2ea2529b", func := "arcade/arcadelaw2.AsmTimed", spec := "asmTimed", inPlace := ["internal/bytealg.CountString", "internal/bytealg.IndexByteString", "internal/bytealg.IndexString"], unfollowed := true, recurses := true, named := ["unicode/utf8.first", "unicode/utf8.acceptRanges", "internal/bytealg.MaxLen", "internal/strconv.uint64pow10", "math/bits.deBruijn32tab", "math/bits.deBruijn64tab"], apart := false, laid := [("math/bits.deBruijn32tab", laid_math_bits_deBruijn32tab), ("math/bits.deBruijn64tab", laid_math_bits_deBruijn64tab), ("internal/strconv.uint64pow10", laid_internal_strconv_uint64pow10), ("unicode/utf8.acceptRanges", laid_unicode_utf8_acceptRanges), ("unicode/utf8.first", laid_unicode_utf8_first)] }
def AsmTimedSaid : Prop := asmTimedRow.holds Tryz.pinned (OpenSpec.ofChange asmTimedSpec)

/-- ITS FALSE NEIGHBOUR: 'it returns false'. Refute it at one input. -/
def asmTimedWrong : ChangeSpec := { name := "asmTimed", fn := fun _ => fun
  | [d1, d2, d3, d4] => { results := [.lit (.bool false)], args := [d1, d2, d3, d4] }
  | _ => none }
def AsmTimedWrongFalsely : Prop := asmTimedRow.holds Tryz.pinned (OpenSpec.ofChange asmTimedWrong)

/-- 'arcadelaw2.AsmNear': WHATEVER THE INPUT: true; the input reads as it did. -/
def asmNearSpec : ChangeSpec := { name := "asmNear", fn := fun _ => fun
  | [d1, d2] => { results := [.lit (.bool true)], args := [d1, d2] }
  | _ => none }
def asmNearRow : OpenClaim := { program := "ytlmacdfbdhpljaagreatdoor", sum := "c1fc5ea08af5add31e21b45d2d9602e2c0d88c68832ab020fd9530ac2ea2529b", func := "arcade/arcadelaw2.AsmNear", spec := "asmNear", inPlace := ["internal/bytealg.CountString", "internal/bytealg.IndexByteString", "internal/bytealg.IndexString"], unfollowed := true, recurses := true, named := ["unicode/utf8.first", "unicode/utf8.acceptRanges", "internal/bytealg.MaxLen", "internal/strconv.uint64pow10", "math/bits.deBruijn32tab", "math/bits.deBruijn64tab"], apart := false, laid := [("math/bits.deBruijn32tab", laid_math_bits_deBruijn32tab), ("math/bits.deBruijn64tab", laid_math_bits_deBruijn64tab), ("internal/strconv.uint64pow10", laid_internal_strconv_uint64pow10), ("unicode/utf8.acceptRanges", laid_unicode_utf8_acceptRanges), ("unicode/utf8.first", laid_unicode_utf8_first)] }
def AsmNearSaid : Prop := asmNearRow.holds Tryz.pinned (OpenSpec.ofChange asmNearSpec)

/-- ITS FALSE NEIGHBOUR: 'it returns false'. Refute it at one input. -/
def asmNearWrong : ChangeSpec := { name := "asmNear", fn := fun _ => fun
  | [d1, d2] => { results := [.lit (.bool false)], args := [d1, d2] }
  | _ => none }
def AsmNearWrongFalsely : Prop := asmNearRow.holds Tryz.pinned (OpenSpec.ofChange asmNearWrong)

/-- 'arcadelaw2.AsmListings': WHATEVER THE INPUT: true; the input reads as it did. -/
def asmListingsSpec : ChangeSpec := { name := "asmListings", fn := fun _ => fun
  | [d1, d2] => { results := [.lit (.bool true)], args := [d1, d2] }
  | _ => none }
def asmListingsRow : OpenClaim := { program := "ytlmacdfbdhpljaagreatdoor", sum := "c1fc5ea08af5add31e21b45d2d9602e2c0d88c68832ab020fd9530ac2ea2529b", func := "arcade/arcadelaw2.AsmListings", spec := "asmListings", inPlace := ["internal/bytealg.CountString", "internal/bytealg.IndexByteString", "internal/bytealg.IndexString", "internal/abi.NoEscape"], unfollowed := true, recurses := true, named := ["unicode/utf8.first", "unicode/utf8.acceptRanges", "internal/bytealg.MaxLen", "internal/strconv.uint64pow10", "math/bits.deBruijn32tab", "math/bits.deBruijn64tab"], apart := false, laid := [("math/bits.deBruijn32tab", laid_math_bits_deBruijn32tab), ("math/bits.deBruijn64tab", laid_math_bits_deBruijn64tab), ("internal/strconv.uint64pow10", laid_internal_strconv_uint64pow10), ("unicode/utf8.acceptRanges", laid_unicode_utf8_acceptRanges), ("unicode/utf8.first", laid_unicode_utf8_first)] }
def AsmListingsSaid : Prop := asmListingsRow.holds Tryz.pinned (OpenSpec.ofChange asmListingsSpec)

/-- ITS FALSE NEIGHBOUR: 'it returns false'. Refute it at one input. -/
def asmListingsWrong : ChangeSpec := { name := "asmListings", fn := fun _ => fun
  | [d1, d2] => { results := [.lit (.bool false)], args := [d1, d2] }
  | _ => none }
def AsmListingsWrongFalsely : Prop := asmListingsRow.holds Tryz.pinned (OpenSpec.ofChange asmListingsWrong)

/-- 'arcadelaw2.AsmRound': WHATEVER THE INPUT: true; the input reads as it did. -/
def asmRoundSpec : ChangeSpec := { name := "asmRound", fn := fun _ => fun
  | [d1, d2] => { results := [.lit (.bool true)], args := [d1, d2] }
  | _ => none }
def asmRoundRow : OpenClaim := { program := "ytlmacdfbdhpljaagreatdoor", sum := "c1fc5ea08af5add31e21b45d2d9602e2c0d88c68832ab020fd9530ac2ea2529b", func := "arcade/arcadelaw2.AsmRound", spec := "asmRound", inPlace := ["internal/bytealg.CountString", "internal/bytealg.IndexByteString", "internal/bytealg.IndexString", "internal/abi.NoEscape"], unfollowed := true, recurses := true, named := ["unicode/utf8.first", "unicode/utf8.acceptRanges", "internal/bytealg.MaxLen", "internal/strconv.uint64pow10", "math/bits.deBruijn32tab", "math/bits.deBruijn64tab"], apart := false, laid := [("math/bits.deBruijn32tab", laid_math_bits_deBruijn32tab), ("math/bits.deBruijn64tab", laid_math_bits_deBruijn64tab), ("internal/strconv.uint64pow10", laid_internal_strconv_uint64pow10), ("unicode/utf8.acceptRanges", laid_unicode_utf8_acceptRanges), ("unicode/utf8.first", laid_unicode_utf8_first)] }
def AsmRoundSaid : Prop := asmRoundRow.holds Tryz.pinned (OpenSpec.ofChange asmRoundSpec)

/-- ITS FALSE NEIGHBOUR: 'it returns false'. Refute it at one input. -/
def asmRoundWrong : ChangeSpec := { name := "asmRound", fn := fun _ => fun
  | [d1, d2] => { results := [.lit (.bool false)], args := [d1, d2] }
  | _ => none }
def AsmRoundWrongFalsely : Prop := asmRoundRow.holds Tryz.pinned (OpenSpec.ofChange asmRoundWrong)

/-- 'arcadelaw2.AsmListed': WHATEVER THE INPUT: true; the input reads as it did. -/
def asmListedSpec : ChangeSpec := { name := "asmListed", fn := fun _ => fun
  | [d] => { results := [.lit (.bool true)], args := [d] }
  | _ => none }
def asmListedRow : OpenClaim := { program := "ytlmacdfbdhpljaagreatdoor", sum := "c1fc5ea08af5add31e21b45d2d9602e2c0d88c68832ab020fd9530ac2ea2529b", func := "arcade/arcadelaw2.AsmListed", spec := "asmListed", inPlace := ["internal/bytealg.CountString", "internal/bytealg.IndexByteString", "internal/bytealg.IndexString", "internal/abi.NoEscape"], unfollowed := true, recurses := true, named := ["unicode/utf8.first", "unicode/utf8.acceptRanges", "internal/bytealg.MaxLen", "internal/strconv.uint64pow10", "math/bits.deBruijn32tab", "math/bits.deBruijn64tab"], apart := false, laid := [("math/bits.deBruijn32tab", laid_math_bits_deBruijn32tab), ("math/bits.deBruijn64tab", laid_math_bits_deBruijn64tab), ("internal/strconv.uint64pow10", laid_internal_strconv_uint64pow10), ("unicode/utf8.acceptRanges", laid_unicode_utf8_acceptRanges), ("unicode/utf8.first", laid_unicode_utf8_first)] }
def AsmListedSaid : Prop := asmListedRow.holds Tryz.pinned (OpenSpec.ofChange asmListedSpec)

/-- ITS FALSE NEIGHBOUR: 'it returns false'. Refute it at one input. -/
def asmListedWrong : ChangeSpec := { name := "asmListed", fn := fun _ => fun
  | [d] => { results := [.lit (.bool false)], args := [d] }
  | _ => none }
def AsmListedWrongFalsely : Prop := asmListedRow.holds Tryz.pinned (OpenSpec.ofChange asmListedWrong)

/-- 'arcadelaw2.AsmSources': WHATEVER THE INPUT: true; the input reads as it did. -/
def asmSourcesSpec : ChangeSpec := { name := "asmSources", fn := fun _ => fun
  | [d1, d2] => { results := [.lit (.bool true)], args := [d1, d2] }
  | _ => none }
def asmSourcesRow : OpenClaim := { program := "ytlmacdfbdhpljaagreatdoor", sum := "c1fc5ea08af5add31e21b45d2d9602e2c0d88c68832ab020fd9530ac2ea2529b", func := "arcade/arcadelaw2.AsmSources", spec := "asmSources", inPlace := ["internal/bytealg.CountString", "internal/bytealg.IndexByteString", "internal/bytealg.IndexString"], unfollowed := true, recurses := true, named := ["unicode/utf8.first", "unicode/utf8.acceptRanges", "internal/bytealg.MaxLen"], apart := false, laid := [("unicode/utf8.acceptRanges", laid_unicode_utf8_acceptRanges), ("unicode/utf8.first", laid_unicode_utf8_first)] }
def AsmSourcesSaid : Prop := asmSourcesRow.holds Tryz.pinned (OpenSpec.ofChange asmSourcesSpec)

/-- ITS FALSE NEIGHBOUR: 'it returns false'. Refute it at one input. -/
def asmSourcesWrong : ChangeSpec := { name := "asmSources", fn := fun _ => fun
  | [d1, d2] => { results := [.lit (.bool false)], args := [d1, d2] }
  | _ => none }
def AsmSourcesWrongFalsely : Prop := asmSourcesRow.holds Tryz.pinned (OpenSpec.ofChange asmSourcesWrong)

/-- 'arcadelaw2.AsmNamed': WHATEVER THE INPUT: true; the input reads as it did. -/
def asmNamedSpec : ChangeSpec := { name := "asmNamed", fn := fun _ => fun
  | [d1, d2, d3] => { results := [.lit (.bool true)], args := [d1, d2, d3] }
  | _ => none }
def asmNamedRow : OpenClaim := { program := "ytlmacdfbdhpljaagreatdoor", sum := "c1fc5ea08af5add31e21b45d2d9602e2c0d88c68832ab020fd9530ac2ea2529b", func := "arcade/arcadelaw2.AsmNamed", spec := "asmNamed", inPlace := ["internal/bytealg.CountString", "internal/bytealg.IndexByteString", "internal/bytealg.IndexString"], unfollowed := true, recurses := true, named := ["unicode/utf8.first", "unicode/utf8.acceptRanges", "internal/bytealg.MaxLen"], apart := false, laid := [("unicode/utf8.acceptRanges", laid_unicode_utf8_acceptRanges), ("unicode/utf8.first", laid_unicode_utf8_first)] }
def AsmNamedSaid : Prop := asmNamedRow.holds Tryz.pinned (OpenSpec.ofChange asmNamedSpec)

/-- ITS FALSE NEIGHBOUR: 'it returns false'. Refute it at one input. -/
def asmNamedWrong : ChangeSpec := { name := "asmNamed", fn := fun _ => fun
  | [d1, d2, d3] => { results := [.lit (.bool false)], args := [d1, d2, d3] }
  | _ => none }
def AsmNamedWrongFalsely : Prop := asmNamedRow.holds Tryz.pinned (OpenSpec.ofChange asmNamedWrong)

/-- 'arcadelaw2.AsmJoined': WHATEVER THE INPUT: true; the input reads as it did. -/
def asmJoinedSpec : ChangeSpec := { name := "asmJoined", fn := fun _ => fun
  | [d1, d2, d3] => { results := [.lit (.bool true)], args := [d1, d2, d3] }
  | _ => none }
def asmJoinedRow : OpenClaim := { program := "ytlmacdfbdhpljaagreatdoor", sum := "c1fc5ea08af5add31e21b45d2d9602e2c0d88c68832ab020fd9530ac2ea2529b", func := "arcade/arcadelaw2.AsmJoined", spec := "asmJoined", inPlace := ["internal/bytealg.CountString", "internal/bytealg.IndexByteString", "internal/bytealg.IndexString"], unfollowed := true, recurses := true, named := ["unicode/utf8.first", "unicode/utf8.acceptRanges", "internal/bytealg.MaxLen", "internal/strconv.uint64pow10", "math/bits.deBruijn32tab", "math/bits.deBruijn64tab"], apart := false, laid := [("math/bits.deBruijn32tab", laid_math_bits_deBruijn32tab), ("math/bits.deBruijn64tab", laid_math_bits_deBruijn64tab), ("internal/strconv.uint64pow10", laid_internal_strconv_uint64pow10), ("unicode/utf8.acceptRanges", laid_unicode_utf8_acceptRanges), ("unicode/utf8.first", laid_unicode_utf8_first)] }
def AsmJoinedSaid : Prop := asmJoinedRow.holds Tryz.pinned (OpenSpec.ofChange asmJoinedSpec)

/-- ITS FALSE NEIGHBOUR: 'it returns false'. Refute it at one input. -/
def asmJoinedWrong : ChangeSpec := { name := "asmJoined", fn := fun _ => fun
  | [d1, d2, d3] => { results := [.lit (.bool false)], args := [d1, d2, d3] }
  | _ => none }
def AsmJoinedWrongFalsely : Prop := asmJoinedRow.holds Tryz.pinned (OpenSpec.ofChange asmJoinedWrong)

/-- 'arcadelaw2.AsmAll': WHATEVER THE INPUT: true; the input reads as it did. -/
def asmAllSpec : ChangeSpec := { name := "asmAll", fn := fun _ => fun
  | [d1, d2, d3, d4, d5] => { results := [.lit (.bool true)], args := [d1, d2, d3, d4, d5] }
  | _ => none }
def asmAllRow : OpenClaim := { program := "ytlmacdfbdhpljaagreatdoor", sum := "c1fc5ea08af5add31e21b45d2d9602e2c0d88c68832ab020fd9530ac2ea2529b", func := "arcade/arcadelaw2.AsmAll", spec := "asmAll", inPlace := ["internal/bytealg.CountString", "internal/bytealg.IndexByteString", "internal/bytealg.IndexString", "internal/abi.NoEscape"], unfollowed := true, recurses := true, named := ["unicode/utf8.first", "unicode/utf8.acceptRanges", "internal/bytealg.MaxLen", "internal/strconv.uint64pow10", "math/bits.deBruijn32tab", "math/bits.deBruijn64tab"], apart := false, laid := [("math/bits.deBruijn32tab", laid_math_bits_deBruijn32tab), ("math/bits.deBruijn64tab", laid_math_bits_deBruijn64tab), ("internal/strconv.uint64pow10", laid_internal_strconv_uint64pow10), ("unicode/utf8.acceptRanges", laid_unicode_utf8_acceptRanges), ("unicode/utf8.first", laid_unicode_utf8_first)] }
def AsmAllSaid : Prop := asmAllRow.holds Tryz.pinned (OpenSpec.ofChange asmAllSpec)

/-- ITS FALSE NEIGHBOUR: 'it returns false'. Refute it at one input. -/
def asmAllWrong : ChangeSpec := { name := "asmAll", fn := fun _ => fun
  | [d1, d2, d3, d4, d5] => { results := [.lit (.bool false)], args := [d1, d2, d3, d4, d5] }
  | _ => none }
def AsmAllWrongFalsely : Prop := asmAllRow.holds Tryz.pinned (OpenSpec.ofChange asmAllWrong)

/- THE SECOND FORM. 'bulk': how many values and letters a reading holds, each counted each time it is reached (what is shared counts as often as it is met; a slice's spare places count too). A statement '..UptoSaid' is the law's where the arguments, and the package variables that the reading takes, are together of bulk at most 1048576: NARROWER than '..Said'. Prove '..Said' where nothing that the law and all that it calls make is longer than what came in: it says more and counts as full. Else prove '..UptoSaid'. A law counts once. -/
mutual
def uptoBulk {H : Type} : DataW H → Nat
  | .lit (.string bytes) => bytes.length + 1
  | .lit _ => 1
  | .nil => 1
  | .ptr d => uptoBulk d + 1
  | .slice elems spare => uptoBulkAll elems + uptoBulkAll spare + 1
  | .agg parts => uptoBulkAll parts + 1
  | .iface _ d => uptoBulk d + 1
  | .map entries => uptoBulkEntries entries + 1
  | .held _ => 1
def uptoBulkAll {H : Type} : List (DataW H) → Nat
  | [] => 0
  | d :: r => uptoBulk d + uptoBulkAll r
def uptoBulkEntries {H : Type} : List (Lit × DataW H) → Nat
  | [] => 0
  | x :: r => uptoBulkEntry x + uptoBulkEntries r
def uptoBulkEntry {H : Type} : Lit × DataW H → Nat
  | (.string bytes, d) => bytes.length + uptoBulk d + 1
  | (_, d) => uptoBulk d + 1
 end
def uptoSmall : (H : Type) → List (DataW H) → Bool := fun _ ds => decide (uptoBulkAll ds ≤ 1048576)
def OpenSpec.upto (s : _root_.Go.ChangeSpec) : _root_.Go.OpenSpec := { _root_.Go.OpenSpec.ofChange s with cond := some uptoSmall }

/-- 'arcadelaw2.AsmInfo', WHERE WHAT IT READS IS OF BULK AT MOST 1048576: true; the input reads as it did. -/
def asmInfoUptoRow : OpenClaim := { program := "ytlmacdfbdhpljaagreatdoor", sum := "c1fc5ea08af5add31e21b45d2d9602e2c0d88c68832ab020fd9530ac2ea2529b", func := "arcade/arcadelaw2.AsmInfo", spec := "asmInfo", inPlace := ["internal/bytealg.CountString", "internal/bytealg.IndexByteString", "internal/bytealg.IndexString"], unfollowed := true, recurses := true, named := ["unicode/utf8.first", "unicode/utf8.acceptRanges", "internal/bytealg.MaxLen"], apart := false, laid := [("unicode/utf8.acceptRanges", laid_unicode_utf8_acceptRanges), ("unicode/utf8.first", laid_unicode_utf8_first)], narrowed := true }
def AsmInfoUptoSaid : Prop := asmInfoUptoRow.holds Tryz.pinned (OpenSpec.upto asmInfoSpec)

/-- 'arcadelaw2.AsmReckons', WHERE WHAT IT READS IS OF BULK AT MOST 1048576: true; the input reads as it did. -/
def asmReckonsUptoRow : OpenClaim := { program := "ytlmacdfbdhpljaagreatdoor", sum := "c1fc5ea08af5add31e21b45d2d9602e2c0d88c68832ab020fd9530ac2ea2529b", func := "arcade/arcadelaw2.AsmReckons", spec := "asmReckons", inPlace := ["internal/bytealg.CountString", "internal/bytealg.IndexByteString", "internal/bytealg.IndexString"], unfollowed := true, recurses := true, named := ["unicode/utf8.first", "unicode/utf8.acceptRanges", "internal/bytealg.MaxLen"], apart := false, laid := [("unicode/utf8.acceptRanges", laid_unicode_utf8_acceptRanges), ("unicode/utf8.first", laid_unicode_utf8_first)], narrowed := true }
def AsmReckonsUptoSaid : Prop := asmReckonsUptoRow.holds Tryz.pinned (OpenSpec.upto asmReckonsSpec)

/-- 'arcadelaw2.AsmDisasm', WHERE WHAT IT READS IS OF BULK AT MOST 1048576: true; the input reads as it did. -/
def asmDisasmUptoRow : OpenClaim := { program := "ytlmacdfbdhpljaagreatdoor", sum := "c1fc5ea08af5add31e21b45d2d9602e2c0d88c68832ab020fd9530ac2ea2529b", func := "arcade/arcadelaw2.AsmDisasm", spec := "asmDisasm", inPlace := ["internal/bytealg.CountString", "internal/bytealg.IndexByteString", "internal/bytealg.IndexString"], unfollowed := true, recurses := true, named := ["unicode/utf8.first", "unicode/utf8.acceptRanges", "internal/bytealg.MaxLen", "internal/strconv.uint64pow10", "math/bits.deBruijn32tab", "math/bits.deBruijn64tab"], apart := false, laid := [("math/bits.deBruijn32tab", laid_math_bits_deBruijn32tab), ("math/bits.deBruijn64tab", laid_math_bits_deBruijn64tab), ("internal/strconv.uint64pow10", laid_internal_strconv_uint64pow10), ("unicode/utf8.acceptRanges", laid_unicode_utf8_acceptRanges), ("unicode/utf8.first", laid_unicode_utf8_first)], narrowed := true }
def AsmDisasmUptoSaid : Prop := asmDisasmUptoRow.holds Tryz.pinned (OpenSpec.upto asmDisasmSpec)

/-- 'arcadelaw2.AsmTimed', WHERE WHAT IT READS IS OF BULK AT MOST 1048576: true; the input reads as it did. -/
def asmTimedUptoRow : OpenClaim := { program := "ytlmacdfbdhpljaagreatdoor", sum := "c1fc5ea08af5add31e21b45d2d9602e2c0d88c68832ab020fd9530ac2ea2529b", func := "arcade/arcadelaw2.AsmTimed", spec := "asmTimed", inPlace := ["internal/bytealg.CountString", "internal/bytealg.IndexByteString", "internal/bytealg.IndexString"], unfollowed := true, recurses := true, named := ["unicode/utf8.first", "unicode/utf8.acceptRanges", "internal/bytealg.MaxLen", "internal/strconv.uint64pow10", "math/bits.deBruijn32tab", "math/bits.deBruijn64tab"], apart := false, laid := [("math/bits.deBruijn32tab", laid_math_bits_deBruijn32tab), ("math/bits.deBruijn64tab", laid_math_bits_deBruijn64tab), ("internal/strconv.uint64pow10", laid_internal_strconv_uint64pow10), ("unicode/utf8.acceptRanges", laid_unicode_utf8_acceptRanges), ("unicode/utf8.first", laid_unicode_utf8_first)], narrowed := true }
def AsmTimedUptoSaid : Prop := asmTimedUptoRow.holds Tryz.pinned (OpenSpec.upto asmTimedSpec)

/-- 'arcadelaw2.AsmNear', WHERE WHAT IT READS IS OF BULK AT MOST 1048576: true; the input reads as it did. -/
def asmNearUptoRow : OpenClaim := { program := "ytlmacdfbdhpljaagreatdoor", sum := "c1fc5ea08af5add31e21b45d2d9602e2c0d88c68832ab020fd9530ac2ea2529b", func := "arcade/arcadelaw2.AsmNear", spec := "asmNear", inPlace := ["internal/bytealg.CountString", "internal/bytealg.IndexByteString", "internal/bytealg.IndexString"], unfollowed := true, recurses := true, named := ["unicode/utf8.first", "unicode/utf8.acceptRanges", "internal/bytealg.MaxLen", "internal/strconv.uint64pow10", "math/bits.deBruijn32tab", "math/bits.deBruijn64tab"], apart := false, laid := [("math/bits.deBruijn32tab", laid_math_bits_deBruijn32tab), ("math/bits.deBruijn64tab", laid_math_bits_deBruijn64tab), ("internal/strconv.uint64pow10", laid_internal_strconv_uint64pow10), ("unicode/utf8.acceptRanges", laid_unicode_utf8_acceptRanges), ("unicode/utf8.first", laid_unicode_utf8_first)], narrowed := true }
def AsmNearUptoSaid : Prop := asmNearUptoRow.holds Tryz.pinned (OpenSpec.upto asmNearSpec)

/-- 'arcadelaw2.AsmListings', WHERE WHAT IT READS IS OF BULK AT MOST 1048576: true; the input reads as it did. -/
def asmListingsUptoRow : OpenClaim := { program := "ytlmacdfbdhpljaagreatdoor", sum := "c1fc5ea08af5add31e21b45d2d9602e2c0d88c68832ab020fd9530ac2ea2529b", func := "arcade/arcadelaw2.AsmListings", spec := "asmListings", inPlace := ["internal/bytealg.CountString", "internal/bytealg.IndexByteString", "internal/bytealg.IndexString", "internal/abi.NoEscape"], unfollowed := true, recurses := true, named := ["unicode/utf8.first", "unicode/utf8.acceptRanges", "internal/bytealg.MaxLen", "internal/strconv.uint64pow10", "math/bits.deBruijn32tab", "math/bits.deBruijn64tab"], apart := false, laid := [("math/bits.deBruijn32tab", laid_math_bits_deBruijn32tab), ("math/bits.deBruijn64tab", laid_math_bits_deBruijn64tab), ("internal/strconv.uint64pow10", laid_internal_strconv_uint64pow10), ("unicode/utf8.acceptRanges", laid_unicode_utf8_acceptRanges), ("unicode/utf8.first", laid_unicode_utf8_first)], narrowed := true }
def AsmListingsUptoSaid : Prop := asmListingsUptoRow.holds Tryz.pinned (OpenSpec.upto asmListingsSpec)

/-- 'arcadelaw2.AsmRound', WHERE WHAT IT READS IS OF BULK AT MOST 1048576: true; the input reads as it did. -/
def asmRoundUptoRow : OpenClaim := { program := "ytlmacdfbdhpljaagreatdoor", sum := "c1fc5ea08af5add31e21b45d2d9602e2c0d88c68832ab020fd9530ac2ea2529b", func := "arcade/arcadelaw2.AsmRound", spec := "asmRound", inPlace := ["internal/bytealg.CountString", "internal/bytealg.IndexByteString", "internal/bytealg.IndexString", "internal/abi.NoEscape"], unfollowed := true, recurses := true, named := ["unicode/utf8.first", "unicode/utf8.acceptRanges", "internal/bytealg.MaxLen", "internal/strconv.uint64pow10", "math/bits.deBruijn32tab", "math/bits.deBruijn64tab"], apart := false, laid := [("math/bits.deBruijn32tab", laid_math_bits_deBruijn32tab), ("math/bits.deBruijn64tab", laid_math_bits_deBruijn64tab), ("internal/strconv.uint64pow10", laid_internal_strconv_uint64pow10), ("unicode/utf8.acceptRanges", laid_unicode_utf8_acceptRanges), ("unicode/utf8.first", laid_unicode_utf8_first)], narrowed := true }
def AsmRoundUptoSaid : Prop := asmRoundUptoRow.holds Tryz.pinned (OpenSpec.upto asmRoundSpec)

/-- 'arcadelaw2.AsmListed', WHERE WHAT IT READS IS OF BULK AT MOST 1048576: true; the input reads as it did. -/
def asmListedUptoRow : OpenClaim := { program := "ytlmacdfbdhpljaagreatdoor", sum := "c1fc5ea08af5add31e21b45d2d9602e2c0d88c68832ab020fd9530ac2ea2529b", func := "arcade/arcadelaw2.AsmListed", spec := "asmListed", inPlace := ["internal/bytealg.CountString", "internal/bytealg.IndexByteString", "internal/bytealg.IndexString", "internal/abi.NoEscape"], unfollowed := true, recurses := true, named := ["unicode/utf8.first", "unicode/utf8.acceptRanges", "internal/bytealg.MaxLen", "internal/strconv.uint64pow10", "math/bits.deBruijn32tab", "math/bits.deBruijn64tab"], apart := false, laid := [("math/bits.deBruijn32tab", laid_math_bits_deBruijn32tab), ("math/bits.deBruijn64tab", laid_math_bits_deBruijn64tab), ("internal/strconv.uint64pow10", laid_internal_strconv_uint64pow10), ("unicode/utf8.acceptRanges", laid_unicode_utf8_acceptRanges), ("unicode/utf8.first", laid_unicode_utf8_first)], narrowed := true }
def AsmListedUptoSaid : Prop := asmListedUptoRow.holds Tryz.pinned (OpenSpec.upto asmListedSpec)

/-- 'arcadelaw2.AsmSources', WHERE WHAT IT READS IS OF BULK AT MOST 1048576: true; the input reads as it did. -/
def asmSourcesUptoRow : OpenClaim := { program := "ytlmacdfbdhpljaagreatdoor", sum := "c1fc5ea08af5add31e21b45d2d9602e2c0d88c68832ab020fd9530ac2ea2529b", func := "arcade/arcadelaw2.AsmSources", spec := "asmSources", inPlace := ["internal/bytealg.CountString", "internal/bytealg.IndexByteString", "internal/bytealg.IndexString"], unfollowed := true, recurses := true, named := ["unicode/utf8.first", "unicode/utf8.acceptRanges", "internal/bytealg.MaxLen"], apart := false, laid := [("unicode/utf8.acceptRanges", laid_unicode_utf8_acceptRanges), ("unicode/utf8.first", laid_unicode_utf8_first)], narrowed := true }
def AsmSourcesUptoSaid : Prop := asmSourcesUptoRow.holds Tryz.pinned (OpenSpec.upto asmSourcesSpec)

/-- 'arcadelaw2.AsmNamed', WHERE WHAT IT READS IS OF BULK AT MOST 1048576: true; the input reads as it did. -/
def asmNamedUptoRow : OpenClaim := { program := "ytlmacdfbdhpljaagreatdoor", sum := "c1fc5ea08af5add31e21b45d2d9602e2c0d88c68832ab020fd9530ac2ea2529b", func := "arcade/arcadelaw2.AsmNamed", spec := "asmNamed", inPlace := ["internal/bytealg.CountString", "internal/bytealg.IndexByteString", "internal/bytealg.IndexString"], unfollowed := true, recurses := true, named := ["unicode/utf8.first", "unicode/utf8.acceptRanges", "internal/bytealg.MaxLen"], apart := false, laid := [("unicode/utf8.acceptRanges", laid_unicode_utf8_acceptRanges), ("unicode/utf8.first", laid_unicode_utf8_first)], narrowed := true }
def AsmNamedUptoSaid : Prop := asmNamedUptoRow.holds Tryz.pinned (OpenSpec.upto asmNamedSpec)

/-- 'arcadelaw2.AsmJoined', WHERE WHAT IT READS IS OF BULK AT MOST 1048576: true; the input reads as it did. -/
def asmJoinedUptoRow : OpenClaim := { program := "ytlmacdfbdhpljaagreatdoor", sum := "c1fc5ea08af5add31e21b45d2d9602e2c0d88c68832ab020fd9530ac2ea2529b", func := "arcade/arcadelaw2.AsmJoined", spec := "asmJoined", inPlace := ["internal/bytealg.CountString", "internal/bytealg.IndexByteString", "internal/bytealg.IndexString"], unfollowed := true, recurses := true, named := ["unicode/utf8.first", "unicode/utf8.acceptRanges", "internal/bytealg.MaxLen", "internal/strconv.uint64pow10", "math/bits.deBruijn32tab", "math/bits.deBruijn64tab"], apart := false, laid := [("math/bits.deBruijn32tab", laid_math_bits_deBruijn32tab), ("math/bits.deBruijn64tab", laid_math_bits_deBruijn64tab), ("internal/strconv.uint64pow10", laid_internal_strconv_uint64pow10), ("unicode/utf8.acceptRanges", laid_unicode_utf8_acceptRanges), ("unicode/utf8.first", laid_unicode_utf8_first)], narrowed := true }
def AsmJoinedUptoSaid : Prop := asmJoinedUptoRow.holds Tryz.pinned (OpenSpec.upto asmJoinedSpec)

/-- 'arcadelaw2.AsmAll', WHERE WHAT IT READS IS OF BULK AT MOST 1048576: true; the input reads as it did. -/
def asmAllUptoRow : OpenClaim := { program := "ytlmacdfbdhpljaagreatdoor", sum := "c1fc5ea08af5add31e21b45d2d9602e2c0d88c68832ab020fd9530ac2ea2529b", func := "arcade/arcadelaw2.AsmAll", spec := "asmAll", inPlace := ["internal/bytealg.CountString", "internal/bytealg.IndexByteString", "internal/bytealg.IndexString", "internal/abi.NoEscape"], unfollowed := true, recurses := true, named := ["unicode/utf8.first", "unicode/utf8.acceptRanges", "internal/bytealg.MaxLen", "internal/strconv.uint64pow10", "math/bits.deBruijn32tab", "math/bits.deBruijn64tab"], apart := false, laid := [("math/bits.deBruijn32tab", laid_math_bits_deBruijn32tab), ("math/bits.deBruijn64tab", laid_math_bits_deBruijn64tab), ("internal/strconv.uint64pow10", laid_internal_strconv_uint64pow10), ("unicode/utf8.acceptRanges", laid_unicode_utf8_acceptRanges), ("unicode/utf8.first", laid_unicode_utf8_first)], narrowed := true }
def AsmAllUptoSaid : Prop := asmAllUptoRow.holds Tryz.pinned (OpenSpec.upto asmAllSpec)

end Rows
end Go.Proofs.YtlmacdfbdhpljaaGreatDoor
