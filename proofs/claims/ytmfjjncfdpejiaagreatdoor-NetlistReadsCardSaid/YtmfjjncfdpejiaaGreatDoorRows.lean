/-
  NARROWER THAN 'FOR EVERY INPUT', by the rows' own cells (each row's printed sentence says how): NetlistParses: laid · NetlistRenames: laid · NetlistFormats: laid · NetlistUnites: laid · NetlistPorts: laid · NetlistReturns: laid · NetlistJoins: laid · NetlistReads: laid · TopPressureRename: laid · TopCircuitsRead: laid · TopCircuitsPrune: laid · TopCircuitsRename: laid.
  DERIVED. THE GIVEN ROWS OF THIS SEAT. 12 by the template 'for every input the law returns true; each argument reads behind the call as it read before'; 0 by the template 'total and deterministic' (their statements: YtmfjjncfdpejiaaGreatDoorTotals.lean).
  GIVEN WITH THE SEED: the statements are not yours to turn. If you find one false, say at which input.
  Laid BY PROGRAM, IN A SANDBOX (cutbox-rows.mjs): the forced cells as the released guide's own fill.sh prints them over the translation b3b39d4fe85d9bc5… (all of the seat's roots in one cut). By AI agents, Wed Nov 11 2026. No macro, syntax, notation, axiom, sorry.
-/
import Derived.Test.YtmfjjncfdpejiaaGreatDoorChecked
import GoSem.PinnedTables
import GoSem.Claim
import GoSem.ClaimJoined
import GoSem.ClaimMapViews
import Derived.JoinedTies
import Derived.KernelRfl
namespace Go.Proofs.YtmfjjncfdpejiaaGreatDoor
/- THE CELL 'sum', in the pinned program and in every row, IS THE sha256 OF THE DUMP (.gsa) THAT YtmfjjncfdpejiaaGreatDoorProg.lean LOADS. Nothing in Lean hashes anything: it is a label: what it is worth is what the hold of that sum in a sandbox is worth. -/
noncomputable def Tryz.pinned : Pinned := { name := "ytmfjjncfdpejiaagreatdoor", sum := "b3b39d4fe85d9bc55e88804d6e0c8f242c4523589132b159f2706f6465838b20", checked := Tryz.checked }
namespace Rows
def none {H : Type} : Left H := { results := [], args := [] }

/- WHAT THE LISTED PACKAGE-LEVEL VARIABLES READ AS WHEN THE CALL BEGINS. Each datum BY PROGRAM (the guide's laid-datum.mjs) off the statement by which the dump's own 'gosem.cut.vars' lays the variable. In a bare row this is a premise. The card (YtmfjjncfdpejiaaGreatDoorCards.lean) ties it to the program's text. -/
def laid_math_bits_deBruijn32tab {H : Type} : DataW H := .agg [.lit (.int .u8 0), .lit (.int .u8 1), .lit (.int .u8 28), .lit (.int .u8 2), .lit (.int .u8 29), .lit (.int .u8 14), .lit (.int .u8 24), .lit (.int .u8 3), .lit (.int .u8 30), .lit (.int .u8 22), .lit (.int .u8 20), .lit (.int .u8 15), .lit (.int .u8 25), .lit (.int .u8 17), .lit (.int .u8 4), .lit (.int .u8 8), .lit (.int .u8 31), .lit (.int .u8 27), .lit (.int .u8 13), .lit (.int .u8 23), .lit (.int .u8 21), .lit (.int .u8 19), .lit (.int .u8 16), .lit (.int .u8 7), .lit (.int .u8 26), .lit (.int .u8 12), .lit (.int .u8 18), .lit (.int .u8 6), .lit (.int .u8 11), .lit (.int .u8 5), .lit (.int .u8 10), .lit (.int .u8 9)]
def laid_math_bits_deBruijn64tab {H : Type} : DataW H := .agg [.lit (.int .u8 0), .lit (.int .u8 1), .lit (.int .u8 56), .lit (.int .u8 2), .lit (.int .u8 57), .lit (.int .u8 49), .lit (.int .u8 28), .lit (.int .u8 3), .lit (.int .u8 61), .lit (.int .u8 58), .lit (.int .u8 42), .lit (.int .u8 50), .lit (.int .u8 38), .lit (.int .u8 29), .lit (.int .u8 17), .lit (.int .u8 4), .lit (.int .u8 62), .lit (.int .u8 47), .lit (.int .u8 59), .lit (.int .u8 36), .lit (.int .u8 45), .lit (.int .u8 43), .lit (.int .u8 51), .lit (.int .u8 22), .lit (.int .u8 53), .lit (.int .u8 39), .lit (.int .u8 33), .lit (.int .u8 30), .lit (.int .u8 24), .lit (.int .u8 18), .lit (.int .u8 12), .lit (.int .u8 5), .lit (.int .u8 63), .lit (.int .u8 55), .lit (.int .u8 48), .lit (.int .u8 27), .lit (.int .u8 60), .lit (.int .u8 41), .lit (.int .u8 37), .lit (.int .u8 16), .lit (.int .u8 46), .lit (.int .u8 35), .lit (.int .u8 44), .lit (.int .u8 21), .lit (.int .u8 52), .lit (.int .u8 32), .lit (.int .u8 23), .lit (.int .u8 11), .lit (.int .u8 54), .lit (.int .u8 26), .lit (.int .u8 40), .lit (.int .u8 15), .lit (.int .u8 34), .lit (.int .u8 20), .lit (.int .u8 31), .lit (.int .u8 10), .lit (.int .u8 25), .lit (.int .u8 14), .lit (.int .u8 19), .lit (.int .u8 9), .lit (.int .u8 13), .lit (.int .u8 8), .lit (.int .u8 7), .lit (.int .u8 6)]
def laid_internal_strconv_uint64pow10 {H : Type} : DataW H := .agg [.lit (.int .u64 1), .lit (.int .u64 10), .lit (.int .u64 100), .lit (.int .u64 1000), .lit (.int .u64 10000), .lit (.int .u64 100000), .lit (.int .u64 1000000), .lit (.int .u64 10000000), .lit (.int .u64 100000000), .lit (.int .u64 1000000000), .lit (.int .u64 10000000000), .lit (.int .u64 100000000000), .lit (.int .u64 1000000000000), .lit (.int .u64 10000000000000), .lit (.int .u64 100000000000000), .lit (.int .u64 1000000000000000), .lit (.int .u64 10000000000000000), .lit (.int .u64 100000000000000000), .lit (.int .u64 1000000000000000000), .lit (.int .u64 10000000000000000000)]
def laid_strconv_ErrRange {H : Type} : DataW H := .iface "*errors.errorString" (.ptr (.agg [.lit (.string [118, 97, 108, 117, 101, 32, 111, 117, 116, 32, 111, 102, 32, 114, 97, 110, 103, 101])]))
def laid_strconv_ErrSyntax {H : Type} : DataW H := .iface "*errors.errorString" (.ptr (.agg [.lit (.string [105, 110, 118, 97, 108, 105, 100, 32, 115, 121, 110, 116, 97, 120])]))
def laid_pneumatic_lexer_ranges {H : Type} : DataW H := .agg [.agg [.lit (.int .u8 65), .lit (.int .u8 90), .lit (.int .u8 1)], .agg [.lit (.int .u8 97), .lit (.int .u8 122), .lit (.int .u8 1)], .agg [.lit (.int .u8 48), .lit (.int .u8 57), .lit (.int .u8 2)], .agg [.lit (.int .u8 95), .lit (.int .u8 95), .lit (.int .u8 3)], .agg [.lit (.int .u8 32), .lit (.int .u8 32), .lit (.int .u8 5)], .agg [.lit (.int .u8 10), .lit (.int .u8 10), .lit (.int .u8 5)]]
def laid_unicode_utf8_acceptRanges {H : Type} : DataW H := .agg [.agg [.lit (.int .u8 128), .lit (.int .u8 191)], .agg [.lit (.int .u8 160), .lit (.int .u8 191)], .agg [.lit (.int .u8 128), .lit (.int .u8 159)], .agg [.lit (.int .u8 144), .lit (.int .u8 191)], .agg [.lit (.int .u8 128), .lit (.int .u8 143)], .agg [.lit (.int .u8 0), .lit (.int .u8 0)], .agg [.lit (.int .u8 0), .lit (.int .u8 0)], .agg [.lit (.int .u8 0), .lit (.int .u8 0)], .agg [.lit (.int .u8 0), .lit (.int .u8 0)], .agg [.lit (.int .u8 0), .lit (.int .u8 0)], .agg [.lit (.int .u8 0), .lit (.int .u8 0)], .agg [.lit (.int .u8 0), .lit (.int .u8 0)], .agg [.lit (.int .u8 0), .lit (.int .u8 0)], .agg [.lit (.int .u8 0), .lit (.int .u8 0)], .agg [.lit (.int .u8 0), .lit (.int .u8 0)], .agg [.lit (.int .u8 0), .lit (.int .u8 0)]]
/-- One of Go's own tables, pinned by name: the form's constant. -/
def laid_unicode_utf8_first : DataW Unit := Go.Pinned.utf8First

/-- 'pneumaticlaw23.NetlistParses': WHATEVER THE INPUT: true; the input reads as it did. -/
def netlistParsesSpec : ChangeSpec := { name := "netlistParses", fn := fun _ => fun
  | [d] => { results := [.lit (.bool true)], args := [d] }
  | _ => none }
def netlistParsesRow : OpenClaim := { program := "ytmfjjncfdpejiaagreatdoor", sum := "b3b39d4fe85d9bc55e88804d6e0c8f242c4523589132b159f2706f6465838b20", func := "pneumatic/pneumaticlaw23.NetlistParses", spec := "netlistParses", inPlace := ["internal/bytealg.IndexByteString", "internal/bytealg.abigen_runtime_cmpstring", "internal/abi.NoEscape", "internal/bytealg.IndexString"], unfollowed := true, recurses := true, named := ["pneumatic/lexer.ranges", "internal/strconv.uint64pow10", "math/bits.deBruijn32tab", "math/bits.deBruijn64tab", "strconv.ErrSyntax", "strconv.ErrRange", "internal/bytealg.MaxLen"], plainKeys := false, apart := false, laid := [("math/bits.deBruijn32tab", laid_math_bits_deBruijn32tab), ("math/bits.deBruijn64tab", laid_math_bits_deBruijn64tab), ("internal/strconv.uint64pow10", laid_internal_strconv_uint64pow10), ("strconv.ErrRange", laid_strconv_ErrRange), ("strconv.ErrSyntax", laid_strconv_ErrSyntax), ("pneumatic/lexer.ranges", laid_pneumatic_lexer_ranges)] }
def NetlistParsesSaid : Prop := netlistParsesRow.holds Tryz.pinned (OpenSpec.ofChange netlistParsesSpec)

/-- ITS FALSE NEIGHBOUR: 'it returns false'. Refute it at one input. -/
def netlistParsesWrong : ChangeSpec := { name := "netlistParses", fn := fun _ => fun
  | [d] => { results := [.lit (.bool false)], args := [d] }
  | _ => none }
def NetlistParsesWrongFalsely : Prop := netlistParsesRow.holds Tryz.pinned (OpenSpec.ofChange netlistParsesWrong)

/-- 'pneumaticlaw23.NetlistRenames': WHATEVER THE INPUT: true; the input reads as it did. -/
def netlistRenamesSpec : ChangeSpec := { name := "netlistRenames", fn := fun _ => fun
  | [d1, d2, d3] => { results := [.lit (.bool true)], args := [d1, d2, d3] }
  | _ => none }
def netlistRenamesRow : OpenClaim := { program := "ytmfjjncfdpejiaagreatdoor", sum := "b3b39d4fe85d9bc55e88804d6e0c8f242c4523589132b159f2706f6465838b20", func := "pneumatic/pneumaticlaw23.NetlistRenames", spec := "netlistRenames", inPlace := ["internal/bytealg.IndexByteString", "internal/bytealg.abigen_runtime_cmpstring", "internal/abi.NoEscape", "internal/bytealg.IndexString"], unfollowed := true, recurses := true, named := ["pneumatic/lexer.ranges", "internal/strconv.uint64pow10", "math/bits.deBruijn32tab", "math/bits.deBruijn64tab", "strconv.ErrSyntax", "strconv.ErrRange", "internal/bytealg.MaxLen"], plainKeys := false, apart := false, laid := [("math/bits.deBruijn32tab", laid_math_bits_deBruijn32tab), ("math/bits.deBruijn64tab", laid_math_bits_deBruijn64tab), ("internal/strconv.uint64pow10", laid_internal_strconv_uint64pow10), ("strconv.ErrRange", laid_strconv_ErrRange), ("strconv.ErrSyntax", laid_strconv_ErrSyntax), ("pneumatic/lexer.ranges", laid_pneumatic_lexer_ranges)] }
def NetlistRenamesSaid : Prop := netlistRenamesRow.holds Tryz.pinned (OpenSpec.ofChange netlistRenamesSpec)

/-- ITS FALSE NEIGHBOUR: 'it returns false'. Refute it at one input. -/
def netlistRenamesWrong : ChangeSpec := { name := "netlistRenames", fn := fun _ => fun
  | [d1, d2, d3] => { results := [.lit (.bool false)], args := [d1, d2, d3] }
  | _ => none }
def NetlistRenamesWrongFalsely : Prop := netlistRenamesRow.holds Tryz.pinned (OpenSpec.ofChange netlistRenamesWrong)

/-- 'pneumaticlaw23.NetlistFormats': WHATEVER THE INPUT: true; the input reads as it did. -/
def netlistFormatsSpec : ChangeSpec := { name := "netlistFormats", fn := fun _ => fun
  | [d] => { results := [.lit (.bool true)], args := [d] }
  | _ => none }
def netlistFormatsRow : OpenClaim := { program := "ytmfjjncfdpejiaagreatdoor", sum := "b3b39d4fe85d9bc55e88804d6e0c8f242c4523589132b159f2706f6465838b20", func := "pneumatic/pneumaticlaw23.NetlistFormats", spec := "netlistFormats", inPlace := ["internal/bytealg.IndexByteString", "internal/bytealg.abigen_runtime_cmpstring", "internal/abi.NoEscape", "internal/bytealg.IndexString"], unfollowed := true, recurses := true, named := ["pneumatic/lexer.ranges", "internal/strconv.uint64pow10", "math/bits.deBruijn32tab", "math/bits.deBruijn64tab", "strconv.ErrSyntax", "strconv.ErrRange", "internal/bytealg.MaxLen"], plainKeys := false, apart := false, laid := [("math/bits.deBruijn32tab", laid_math_bits_deBruijn32tab), ("math/bits.deBruijn64tab", laid_math_bits_deBruijn64tab), ("internal/strconv.uint64pow10", laid_internal_strconv_uint64pow10), ("strconv.ErrRange", laid_strconv_ErrRange), ("strconv.ErrSyntax", laid_strconv_ErrSyntax), ("pneumatic/lexer.ranges", laid_pneumatic_lexer_ranges)] }
def NetlistFormatsSaid : Prop := netlistFormatsRow.holds Tryz.pinned (OpenSpec.ofChange netlistFormatsSpec)

/-- ITS FALSE NEIGHBOUR: 'it returns false'. Refute it at one input. -/
def netlistFormatsWrong : ChangeSpec := { name := "netlistFormats", fn := fun _ => fun
  | [d] => { results := [.lit (.bool false)], args := [d] }
  | _ => none }
def NetlistFormatsWrongFalsely : Prop := netlistFormatsRow.holds Tryz.pinned (OpenSpec.ofChange netlistFormatsWrong)

/-- 'pneumaticlaw23.NetlistUnites': WHATEVER THE INPUT: true; the input reads as it did. -/
def netlistUnitesSpec : ChangeSpec := { name := "netlistUnites", fn := fun _ => fun
  | [d1, d2] => { results := [.lit (.bool true)], args := [d1, d2] }
  | _ => none }
def netlistUnitesRow : OpenClaim := { program := "ytmfjjncfdpejiaagreatdoor", sum := "b3b39d4fe85d9bc55e88804d6e0c8f242c4523589132b159f2706f6465838b20", func := "pneumatic/pneumaticlaw23.NetlistUnites", spec := "netlistUnites", inPlace := ["internal/bytealg.IndexByteString", "internal/bytealg.abigen_runtime_cmpstring", "internal/abi.NoEscape", "internal/bytealg.IndexString"], unfollowed := true, recurses := true, named := ["pneumatic/lexer.ranges", "internal/strconv.uint64pow10", "math/bits.deBruijn32tab", "math/bits.deBruijn64tab", "strconv.ErrSyntax", "strconv.ErrRange", "internal/bytealg.MaxLen"], plainKeys := false, apart := false, laid := [("math/bits.deBruijn32tab", laid_math_bits_deBruijn32tab), ("math/bits.deBruijn64tab", laid_math_bits_deBruijn64tab), ("internal/strconv.uint64pow10", laid_internal_strconv_uint64pow10), ("strconv.ErrRange", laid_strconv_ErrRange), ("strconv.ErrSyntax", laid_strconv_ErrSyntax), ("pneumatic/lexer.ranges", laid_pneumatic_lexer_ranges)] }
def NetlistUnitesSaid : Prop := netlistUnitesRow.holds Tryz.pinned (OpenSpec.ofChange netlistUnitesSpec)

/-- ITS FALSE NEIGHBOUR: 'it returns false'. Refute it at one input. -/
def netlistUnitesWrong : ChangeSpec := { name := "netlistUnites", fn := fun _ => fun
  | [d1, d2] => { results := [.lit (.bool false)], args := [d1, d2] }
  | _ => none }
def NetlistUnitesWrongFalsely : Prop := netlistUnitesRow.holds Tryz.pinned (OpenSpec.ofChange netlistUnitesWrong)

/-- 'pneumaticlaw23.NetlistPorts': WHATEVER THE INPUT: true; the input reads as it did. -/
def netlistPortsSpec : ChangeSpec := { name := "netlistPorts", fn := fun _ => fun
  | [d1, d2, d3] => { results := [.lit (.bool true)], args := [d1, d2, d3] }
  | _ => none }
def netlistPortsRow : OpenClaim := { program := "ytmfjjncfdpejiaagreatdoor", sum := "b3b39d4fe85d9bc55e88804d6e0c8f242c4523589132b159f2706f6465838b20", func := "pneumatic/pneumaticlaw23.NetlistPorts", spec := "netlistPorts", inPlace := ["internal/bytealg.IndexByteString", "internal/bytealg.abigen_runtime_cmpstring", "internal/abi.NoEscape", "internal/bytealg.IndexString"], unfollowed := true, recurses := true, named := ["pneumatic/lexer.ranges", "internal/strconv.uint64pow10", "math/bits.deBruijn32tab", "math/bits.deBruijn64tab", "strconv.ErrSyntax", "strconv.ErrRange", "internal/bytealg.MaxLen"], plainKeys := false, apart := false, laid := [("math/bits.deBruijn32tab", laid_math_bits_deBruijn32tab), ("math/bits.deBruijn64tab", laid_math_bits_deBruijn64tab), ("internal/strconv.uint64pow10", laid_internal_strconv_uint64pow10), ("strconv.ErrRange", laid_strconv_ErrRange), ("strconv.ErrSyntax", laid_strconv_ErrSyntax), ("pneumatic/lexer.ranges", laid_pneumatic_lexer_ranges)] }
def NetlistPortsSaid : Prop := netlistPortsRow.holds Tryz.pinned (OpenSpec.ofChange netlistPortsSpec)

/-- ITS FALSE NEIGHBOUR: 'it returns false'. Refute it at one input. -/
def netlistPortsWrong : ChangeSpec := { name := "netlistPorts", fn := fun _ => fun
  | [d1, d2, d3] => { results := [.lit (.bool false)], args := [d1, d2, d3] }
  | _ => none }
def NetlistPortsWrongFalsely : Prop := netlistPortsRow.holds Tryz.pinned (OpenSpec.ofChange netlistPortsWrong)

/-- 'pneumaticlaw23.NetlistReturns': WHATEVER THE INPUT: true; the input reads as it did. -/
def netlistReturnsSpec : ChangeSpec := { name := "netlistReturns", fn := fun _ => fun
  | [d1, d2, d3] => { results := [.lit (.bool true)], args := [d1, d2, d3] }
  | _ => none }
def netlistReturnsRow : OpenClaim := { program := "ytmfjjncfdpejiaagreatdoor", sum := "b3b39d4fe85d9bc55e88804d6e0c8f242c4523589132b159f2706f6465838b20", func := "pneumatic/pneumaticlaw23.NetlistReturns", spec := "netlistReturns", inPlace := ["internal/bytealg.IndexByteString", "internal/bytealg.abigen_runtime_cmpstring", "internal/abi.NoEscape", "internal/bytealg.IndexString"], unfollowed := true, recurses := true, named := ["pneumatic/lexer.ranges", "internal/strconv.uint64pow10", "math/bits.deBruijn32tab", "math/bits.deBruijn64tab", "strconv.ErrSyntax", "strconv.ErrRange", "internal/bytealg.MaxLen"], plainKeys := false, apart := false, laid := [("math/bits.deBruijn32tab", laid_math_bits_deBruijn32tab), ("math/bits.deBruijn64tab", laid_math_bits_deBruijn64tab), ("internal/strconv.uint64pow10", laid_internal_strconv_uint64pow10), ("strconv.ErrRange", laid_strconv_ErrRange), ("strconv.ErrSyntax", laid_strconv_ErrSyntax), ("pneumatic/lexer.ranges", laid_pneumatic_lexer_ranges)] }
def NetlistReturnsSaid : Prop := netlistReturnsRow.holds Tryz.pinned (OpenSpec.ofChange netlistReturnsSpec)

/-- ITS FALSE NEIGHBOUR: 'it returns false'. Refute it at one input. -/
def netlistReturnsWrong : ChangeSpec := { name := "netlistReturns", fn := fun _ => fun
  | [d1, d2, d3] => { results := [.lit (.bool false)], args := [d1, d2, d3] }
  | _ => none }
def NetlistReturnsWrongFalsely : Prop := netlistReturnsRow.holds Tryz.pinned (OpenSpec.ofChange netlistReturnsWrong)

/-- 'pneumaticlaw23.NetlistJoins': WHATEVER THE INPUT: true; the input reads as it did. -/
def netlistJoinsSpec : ChangeSpec := { name := "netlistJoins", fn := fun _ => fun
  | [d1, d2] => { results := [.lit (.bool true)], args := [d1, d2] }
  | _ => none }
def netlistJoinsRow : OpenClaim := { program := "ytmfjjncfdpejiaagreatdoor", sum := "b3b39d4fe85d9bc55e88804d6e0c8f242c4523589132b159f2706f6465838b20", func := "pneumatic/pneumaticlaw23.NetlistJoins", spec := "netlistJoins", inPlace := ["internal/bytealg.IndexByteString", "internal/bytealg.abigen_runtime_cmpstring", "internal/abi.NoEscape", "internal/bytealg.IndexString"], unfollowed := true, recurses := true, named := ["pneumatic/lexer.ranges", "internal/strconv.uint64pow10", "math/bits.deBruijn32tab", "math/bits.deBruijn64tab", "strconv.ErrSyntax", "strconv.ErrRange", "internal/bytealg.MaxLen"], plainKeys := false, apart := false, laid := [("math/bits.deBruijn32tab", laid_math_bits_deBruijn32tab), ("math/bits.deBruijn64tab", laid_math_bits_deBruijn64tab), ("internal/strconv.uint64pow10", laid_internal_strconv_uint64pow10), ("strconv.ErrRange", laid_strconv_ErrRange), ("strconv.ErrSyntax", laid_strconv_ErrSyntax), ("pneumatic/lexer.ranges", laid_pneumatic_lexer_ranges)] }
def NetlistJoinsSaid : Prop := netlistJoinsRow.holds Tryz.pinned (OpenSpec.ofChange netlistJoinsSpec)

/-- ITS FALSE NEIGHBOUR: 'it returns false'. Refute it at one input. -/
def netlistJoinsWrong : ChangeSpec := { name := "netlistJoins", fn := fun _ => fun
  | [d1, d2] => { results := [.lit (.bool false)], args := [d1, d2] }
  | _ => none }
def NetlistJoinsWrongFalsely : Prop := netlistJoinsRow.holds Tryz.pinned (OpenSpec.ofChange netlistJoinsWrong)

/-- 'pneumaticlaw23.NetlistReads': WHATEVER THE INPUT: true; the input reads as it did. -/
def netlistReadsSpec : ChangeSpec := { name := "netlistReads", fn := fun _ => fun
  | [d1, d2] => { results := [.lit (.bool true)], args := [d1, d2] }
  | _ => none }
def netlistReadsRow : OpenClaim := { program := "ytmfjjncfdpejiaagreatdoor", sum := "b3b39d4fe85d9bc55e88804d6e0c8f242c4523589132b159f2706f6465838b20", func := "pneumatic/pneumaticlaw23.NetlistReads", spec := "netlistReads", inPlace := ["internal/bytealg.IndexByteString", "internal/bytealg.abigen_runtime_cmpstring", "internal/abi.NoEscape", "internal/bytealg.IndexString", "internal/bytealg.CountString", "slices.overlaps[string]", "internal/bytealg.MakeNoZero"], unfollowed := true, recurses := true, named := ["pneumatic/lexer.ranges", "internal/strconv.uint64pow10", "math/bits.deBruijn32tab", "math/bits.deBruijn64tab", "strconv.ErrSyntax", "strconv.ErrRange", "internal/bytealg.MaxLen", "unicode/utf8.first", "unicode/utf8.acceptRanges"], plainKeys := false, apart := false, laid := [("math/bits.deBruijn32tab", laid_math_bits_deBruijn32tab), ("math/bits.deBruijn64tab", laid_math_bits_deBruijn64tab), ("internal/strconv.uint64pow10", laid_internal_strconv_uint64pow10), ("unicode/utf8.acceptRanges", laid_unicode_utf8_acceptRanges), ("strconv.ErrRange", laid_strconv_ErrRange), ("strconv.ErrSyntax", laid_strconv_ErrSyntax), ("pneumatic/lexer.ranges", laid_pneumatic_lexer_ranges), ("unicode/utf8.first", laid_unicode_utf8_first)] }
def NetlistReadsSaid : Prop := netlistReadsRow.holds Tryz.pinned (OpenSpec.ofChange netlistReadsSpec)

/-- ITS FALSE NEIGHBOUR: 'it returns false'. Refute it at one input. -/
def netlistReadsWrong : ChangeSpec := { name := "netlistReads", fn := fun _ => fun
  | [d1, d2] => { results := [.lit (.bool false)], args := [d1, d2] }
  | _ => none }
def NetlistReadsWrongFalsely : Prop := netlistReadsRow.holds Tryz.pinned (OpenSpec.ofChange netlistReadsWrong)

/-- 'pneumatictop.TopPressureRename': WHATEVER THE INPUT: true; the input reads as it did. -/
def topPressureRenameSpec : ChangeSpec := { name := "topPressureRename", fn := fun _ => fun
  | [d1, d2, d3] => { results := [.lit (.bool true)], args := [d1, d2, d3] }
  | _ => none }
def topPressureRenameRow : OpenClaim := { program := "ytmfjjncfdpejiaagreatdoor", sum := "b3b39d4fe85d9bc55e88804d6e0c8f242c4523589132b159f2706f6465838b20", func := "pneumatic/pneumatictop.TopPressureRename", spec := "topPressureRename", inPlace := ["internal/bytealg.IndexByteString", "internal/bytealg.abigen_runtime_cmpstring", "internal/bytealg.IndexString"], unfollowed := true, recurses := true, named := ["pneumatic/lexer.ranges", "internal/strconv.uint64pow10", "math/bits.deBruijn32tab", "math/bits.deBruijn64tab", "unicode/utf8.first", "unicode/utf8.acceptRanges", "internal/bytealg.MaxLen"], plainKeys := false, apart := false, laid := [("math/bits.deBruijn32tab", laid_math_bits_deBruijn32tab), ("math/bits.deBruijn64tab", laid_math_bits_deBruijn64tab), ("internal/strconv.uint64pow10", laid_internal_strconv_uint64pow10), ("unicode/utf8.acceptRanges", laid_unicode_utf8_acceptRanges), ("pneumatic/lexer.ranges", laid_pneumatic_lexer_ranges), ("unicode/utf8.first", laid_unicode_utf8_first)] }
def TopPressureRenameSaid : Prop := topPressureRenameRow.holds Tryz.pinned (OpenSpec.ofChange topPressureRenameSpec)

/-- ITS FALSE NEIGHBOUR: 'it returns false'. Refute it at one input. -/
def topPressureRenameWrong : ChangeSpec := { name := "topPressureRename", fn := fun _ => fun
  | [d1, d2, d3] => { results := [.lit (.bool false)], args := [d1, d2, d3] }
  | _ => none }
def TopPressureRenameWrongFalsely : Prop := topPressureRenameRow.holds Tryz.pinned (OpenSpec.ofChange topPressureRenameWrong)

/-- 'pneumatictop.TopCircuitsRead': WHATEVER THE INPUT: true; the input reads as it did. -/
def topCircuitsReadSpec : ChangeSpec := { name := "topCircuitsRead", fn := fun _ => fun
  | [d] => { results := [.lit (.bool true)], args := [d] }
  | _ => none }
def topCircuitsReadRow : OpenClaim := { program := "ytmfjjncfdpejiaagreatdoor", sum := "b3b39d4fe85d9bc55e88804d6e0c8f242c4523589132b159f2706f6465838b20", func := "pneumatic/pneumatictop.TopCircuitsRead", spec := "topCircuitsRead", inPlace := ["internal/bytealg.IndexByteString", "internal/bytealg.IndexString", "internal/bytealg.abigen_runtime_cmpstring", "internal/abi.NoEscape"], unfollowed := true, recurses := true, named := ["pneumatic/lexer.ranges", "strconv.ErrSyntax", "strconv.ErrRange", "internal/strconv.uint64pow10", "math/bits.deBruijn32tab", "math/bits.deBruijn64tab", "internal/bytealg.MaxLen"], plainKeys := false, apart := false, laid := [("math/bits.deBruijn32tab", laid_math_bits_deBruijn32tab), ("math/bits.deBruijn64tab", laid_math_bits_deBruijn64tab), ("internal/strconv.uint64pow10", laid_internal_strconv_uint64pow10), ("strconv.ErrRange", laid_strconv_ErrRange), ("strconv.ErrSyntax", laid_strconv_ErrSyntax), ("pneumatic/lexer.ranges", laid_pneumatic_lexer_ranges)] }
def TopCircuitsReadSaid : Prop := topCircuitsReadRow.holds Tryz.pinned (OpenSpec.ofChange topCircuitsReadSpec)

/-- ITS FALSE NEIGHBOUR: 'it returns false'. Refute it at one input. -/
def topCircuitsReadWrong : ChangeSpec := { name := "topCircuitsRead", fn := fun _ => fun
  | [d] => { results := [.lit (.bool false)], args := [d] }
  | _ => none }
def TopCircuitsReadWrongFalsely : Prop := topCircuitsReadRow.holds Tryz.pinned (OpenSpec.ofChange topCircuitsReadWrong)

/-- 'pneumatictop.TopCircuitsPrune': WHATEVER THE INPUT: true; the input reads as it did. -/
def topCircuitsPruneSpec : ChangeSpec := { name := "topCircuitsPrune", fn := fun _ => fun
  | [d1, d2] => { results := [.lit (.bool true)], args := [d1, d2] }
  | _ => none }
def topCircuitsPruneRow : OpenClaim := { program := "ytmfjjncfdpejiaagreatdoor", sum := "b3b39d4fe85d9bc55e88804d6e0c8f242c4523589132b159f2706f6465838b20", func := "pneumatic/pneumatictop.TopCircuitsPrune", spec := "topCircuitsPrune", inPlace := ["internal/bytealg.IndexByteString", "internal/bytealg.IndexString", "internal/bytealg.abigen_runtime_cmpstring"], unfollowed := true, recurses := true, named := ["pneumatic/lexer.ranges", "strconv.ErrSyntax", "strconv.ErrRange", "internal/strconv.uint64pow10", "math/bits.deBruijn32tab", "math/bits.deBruijn64tab", "internal/bytealg.MaxLen"], plainKeys := false, apart := false, laid := [("math/bits.deBruijn32tab", laid_math_bits_deBruijn32tab), ("math/bits.deBruijn64tab", laid_math_bits_deBruijn64tab), ("internal/strconv.uint64pow10", laid_internal_strconv_uint64pow10), ("strconv.ErrRange", laid_strconv_ErrRange), ("strconv.ErrSyntax", laid_strconv_ErrSyntax), ("pneumatic/lexer.ranges", laid_pneumatic_lexer_ranges)] }
def TopCircuitsPruneSaid : Prop := topCircuitsPruneRow.holds Tryz.pinned (OpenSpec.ofChange topCircuitsPruneSpec)

/-- ITS FALSE NEIGHBOUR: 'it returns false'. Refute it at one input. -/
def topCircuitsPruneWrong : ChangeSpec := { name := "topCircuitsPrune", fn := fun _ => fun
  | [d1, d2] => { results := [.lit (.bool false)], args := [d1, d2] }
  | _ => none }
def TopCircuitsPruneWrongFalsely : Prop := topCircuitsPruneRow.holds Tryz.pinned (OpenSpec.ofChange topCircuitsPruneWrong)

/-- 'pneumatictop.TopCircuitsRename': WHATEVER THE INPUT: true; the input reads as it did. -/
def topCircuitsRenameSpec : ChangeSpec := { name := "topCircuitsRename", fn := fun _ => fun
  | [d1, d2, d3] => { results := [.lit (.bool true)], args := [d1, d2, d3] }
  | _ => none }
def topCircuitsRenameRow : OpenClaim := { program := "ytmfjjncfdpejiaagreatdoor", sum := "b3b39d4fe85d9bc55e88804d6e0c8f242c4523589132b159f2706f6465838b20", func := "pneumatic/pneumatictop.TopCircuitsRename", spec := "topCircuitsRename", inPlace := ["internal/bytealg.IndexByteString", "internal/bytealg.IndexString", "internal/bytealg.abigen_runtime_cmpstring"], unfollowed := true, recurses := true, named := ["pneumatic/lexer.ranges", "strconv.ErrSyntax", "strconv.ErrRange", "internal/strconv.uint64pow10", "math/bits.deBruijn32tab", "math/bits.deBruijn64tab", "internal/bytealg.MaxLen", "unicode/utf8.first", "unicode/utf8.acceptRanges"], plainKeys := false, apart := false, laid := [("math/bits.deBruijn32tab", laid_math_bits_deBruijn32tab), ("math/bits.deBruijn64tab", laid_math_bits_deBruijn64tab), ("internal/strconv.uint64pow10", laid_internal_strconv_uint64pow10), ("unicode/utf8.acceptRanges", laid_unicode_utf8_acceptRanges), ("strconv.ErrRange", laid_strconv_ErrRange), ("strconv.ErrSyntax", laid_strconv_ErrSyntax), ("pneumatic/lexer.ranges", laid_pneumatic_lexer_ranges), ("unicode/utf8.first", laid_unicode_utf8_first)] }
def TopCircuitsRenameSaid : Prop := topCircuitsRenameRow.holds Tryz.pinned (OpenSpec.ofChange topCircuitsRenameSpec)

/-- ITS FALSE NEIGHBOUR: 'it returns false'. Refute it at one input. -/
def topCircuitsRenameWrong : ChangeSpec := { name := "topCircuitsRename", fn := fun _ => fun
  | [d1, d2, d3] => { results := [.lit (.bool false)], args := [d1, d2, d3] }
  | _ => none }
def TopCircuitsRenameWrongFalsely : Prop := topCircuitsRenameRow.holds Tryz.pinned (OpenSpec.ofChange topCircuitsRenameWrong)

/- THE SECOND FORM. 'bulk': how many values and letters a reading holds, each counted each time it is reached (what is shared counts as often as it is met; a slice's spare places count too). A statement '..UptoSaid' is the law's where the arguments, and the package variables that the reading takes, are together of bulk at most 1048576: NARROWER than '..Said'. Prove '..Said' where nothing that the law and all that it calls make is longer than what came in: it says more and counts as full. Else prove '..UptoSaid'. A law counts once. -/
mutual
def uptoBulk {H : Type} : DataW H → Nat
  | .lit (.string bytes) => bytes.length + 1
  | .lit _ => 1
  | .nil => 1
  | .ptr d => uptoBulk d + 1
  | .slice elems spare => uptoBulkAll elems + uptoBulkAll spare + 1
  | .agg parts => uptoBulkAll parts + 1
  | .iface _ d => uptoBulk d + 1
  | .map entries => uptoBulkEntries entries + 1
  | .held _ => 1
def uptoBulkAll {H : Type} : List (DataW H) → Nat
  | [] => 0
  | d :: r => uptoBulk d + uptoBulkAll r
def uptoBulkEntries {H : Type} : List (Lit × DataW H) → Nat
  | [] => 0
  | x :: r => uptoBulkEntry x + uptoBulkEntries r
def uptoBulkEntry {H : Type} : Lit × DataW H → Nat
  | (.string bytes, d) => bytes.length + uptoBulk d + 1
  | (_, d) => uptoBulk d + 1
 end
def uptoSmall : (H : Type) → List (DataW H) → Bool := fun _ ds => decide (uptoBulkAll ds ≤ 1048576)
def OpenSpec.upto (s : _root_.Go.ChangeSpec) : _root_.Go.OpenSpec := { _root_.Go.OpenSpec.ofChange s with cond := some uptoSmall }

/-- 'pneumaticlaw23.NetlistParses', WHERE WHAT IT READS IS OF BULK AT MOST 1048576: true; the input reads as it did. -/
def netlistParsesUptoRow : OpenClaim := { program := "ytmfjjncfdpejiaagreatdoor", sum := "b3b39d4fe85d9bc55e88804d6e0c8f242c4523589132b159f2706f6465838b20", func := "pneumatic/pneumaticlaw23.NetlistParses", spec := "netlistParses", inPlace := ["internal/bytealg.IndexByteString", "internal/bytealg.abigen_runtime_cmpstring", "internal/abi.NoEscape", "internal/bytealg.IndexString"], unfollowed := true, recurses := true, named := ["pneumatic/lexer.ranges", "internal/strconv.uint64pow10", "math/bits.deBruijn32tab", "math/bits.deBruijn64tab", "strconv.ErrSyntax", "strconv.ErrRange", "internal/bytealg.MaxLen"], plainKeys := false, apart := false, laid := [("math/bits.deBruijn32tab", laid_math_bits_deBruijn32tab), ("math/bits.deBruijn64tab", laid_math_bits_deBruijn64tab), ("internal/strconv.uint64pow10", laid_internal_strconv_uint64pow10), ("strconv.ErrRange", laid_strconv_ErrRange), ("strconv.ErrSyntax", laid_strconv_ErrSyntax), ("pneumatic/lexer.ranges", laid_pneumatic_lexer_ranges)], narrowed := true }
def NetlistParsesUptoSaid : Prop := netlistParsesUptoRow.holds Tryz.pinned (OpenSpec.upto netlistParsesSpec)

/-- 'pneumaticlaw23.NetlistRenames', WHERE WHAT IT READS IS OF BULK AT MOST 1048576: true; the input reads as it did. -/
def netlistRenamesUptoRow : OpenClaim := { program := "ytmfjjncfdpejiaagreatdoor", sum := "b3b39d4fe85d9bc55e88804d6e0c8f242c4523589132b159f2706f6465838b20", func := "pneumatic/pneumaticlaw23.NetlistRenames", spec := "netlistRenames", inPlace := ["internal/bytealg.IndexByteString", "internal/bytealg.abigen_runtime_cmpstring", "internal/abi.NoEscape", "internal/bytealg.IndexString"], unfollowed := true, recurses := true, named := ["pneumatic/lexer.ranges", "internal/strconv.uint64pow10", "math/bits.deBruijn32tab", "math/bits.deBruijn64tab", "strconv.ErrSyntax", "strconv.ErrRange", "internal/bytealg.MaxLen"], plainKeys := false, apart := false, laid := [("math/bits.deBruijn32tab", laid_math_bits_deBruijn32tab), ("math/bits.deBruijn64tab", laid_math_bits_deBruijn64tab), ("internal/strconv.uint64pow10", laid_internal_strconv_uint64pow10), ("strconv.ErrRange", laid_strconv_ErrRange), ("strconv.ErrSyntax", laid_strconv_ErrSyntax), ("pneumatic/lexer.ranges", laid_pneumatic_lexer_ranges)], narrowed := true }
def NetlistRenamesUptoSaid : Prop := netlistRenamesUptoRow.holds Tryz.pinned (OpenSpec.upto netlistRenamesSpec)

/-- 'pneumaticlaw23.NetlistFormats', WHERE WHAT IT READS IS OF BULK AT MOST 1048576: true; the input reads as it did. -/
def netlistFormatsUptoRow : OpenClaim := { program := "ytmfjjncfdpejiaagreatdoor", sum := "b3b39d4fe85d9bc55e88804d6e0c8f242c4523589132b159f2706f6465838b20", func := "pneumatic/pneumaticlaw23.NetlistFormats", spec := "netlistFormats", inPlace := ["internal/bytealg.IndexByteString", "internal/bytealg.abigen_runtime_cmpstring", "internal/abi.NoEscape", "internal/bytealg.IndexString"], unfollowed := true, recurses := true, named := ["pneumatic/lexer.ranges", "internal/strconv.uint64pow10", "math/bits.deBruijn32tab", "math/bits.deBruijn64tab", "strconv.ErrSyntax", "strconv.ErrRange", "internal/bytealg.MaxLen"], plainKeys := false, apart := false, laid := [("math/bits.deBruijn32tab", laid_math_bits_deBruijn32tab), ("math/bits.deBruijn64tab", laid_math_bits_deBruijn64tab), ("internal/strconv.uint64pow10", laid_internal_strconv_uint64pow10), ("strconv.ErrRange", laid_strconv_ErrRange), ("strconv.ErrSyntax", laid_strconv_ErrSyntax), ("pneumatic/lexer.ranges", laid_pneumatic_lexer_ranges)], narrowed := true }
def NetlistFormatsUptoSaid : Prop := netlistFormatsUptoRow.holds Tryz.pinned (OpenSpec.upto netlistFormatsSpec)

/-- 'pneumaticlaw23.NetlistUnites', WHERE WHAT IT READS IS OF BULK AT MOST 1048576: true; the input reads as it did. -/
def netlistUnitesUptoRow : OpenClaim := { program := "ytmfjjncfdpejiaagreatdoor", sum := "b3b39d4fe85d9bc55e88804d6e0c8f242c4523589132b159f2706f6465838b20", func := "pneumatic/pneumaticlaw23.NetlistUnites", spec := "netlistUnites", inPlace := ["internal/bytealg.IndexByteString", "internal/bytealg.abigen_runtime_cmpstring", "internal/abi.NoEscape", "internal/bytealg.IndexString"], unfollowed := true, recurses := true, named := ["pneumatic/lexer.ranges", "internal/strconv.uint64pow10", "math/bits.deBruijn32tab", "math/bits.deBruijn64tab", "strconv.ErrSyntax", "strconv.ErrRange", "internal/bytealg.MaxLen"], plainKeys := false, apart := false, laid := [("math/bits.deBruijn32tab", laid_math_bits_deBruijn32tab), ("math/bits.deBruijn64tab", laid_math_bits_deBruijn64tab), ("internal/strconv.uint64pow10", laid_internal_strconv_uint64pow10), ("strconv.ErrRange", laid_strconv_ErrRange), ("strconv.ErrSyntax", laid_strconv_ErrSyntax), ("pneumatic/lexer.ranges", laid_pneumatic_lexer_ranges)], narrowed := true }
def NetlistUnitesUptoSaid : Prop := netlistUnitesUptoRow.holds Tryz.pinned (OpenSpec.upto netlistUnitesSpec)

/-- 'pneumaticlaw23.NetlistPorts', WHERE WHAT IT READS IS OF BULK AT MOST 1048576: true; the input reads as it did. -/
def netlistPortsUptoRow : OpenClaim := { program := "ytmfjjncfdpejiaagreatdoor", sum := "b3b39d4fe85d9bc55e88804d6e0c8f242c4523589132b159f2706f6465838b20", func := "pneumatic/pneumaticlaw23.NetlistPorts", spec := "netlistPorts", inPlace := ["internal/bytealg.IndexByteString", "internal/bytealg.abigen_runtime_cmpstring", "internal/abi.NoEscape", "internal/bytealg.IndexString"], unfollowed := true, recurses := true, named := ["pneumatic/lexer.ranges", "internal/strconv.uint64pow10", "math/bits.deBruijn32tab", "math/bits.deBruijn64tab", "strconv.ErrSyntax", "strconv.ErrRange", "internal/bytealg.MaxLen"], plainKeys := false, apart := false, laid := [("math/bits.deBruijn32tab", laid_math_bits_deBruijn32tab), ("math/bits.deBruijn64tab", laid_math_bits_deBruijn64tab), ("internal/strconv.uint64pow10", laid_internal_strconv_uint64pow10), ("strconv.ErrRange", laid_strconv_ErrRange), ("strconv.ErrSyntax", laid_strconv_ErrSyntax), ("pneumatic/lexer.ranges", laid_pneumatic_lexer_ranges)], narrowed := true }
def NetlistPortsUptoSaid : Prop := netlistPortsUptoRow.holds Tryz.pinned (OpenSpec.upto netlistPortsSpec)

/-- 'pneumaticlaw23.NetlistReturns', WHERE WHAT IT READS IS OF BULK AT MOST 1048576: true; the input reads as it did. -/
def netlistReturnsUptoRow : OpenClaim := { program := "ytmfjjncfdpejiaagreatdoor", sum := "b3b39d4fe85d9bc55e88804d6e0c8f242c4523589132b159f2706f6465838b20", func := "pneumatic/pneumaticlaw23.NetlistReturns", spec := "netlistReturns", inPlace := ["internal/bytealg.IndexByteString", "internal/bytealg.abigen_runtime_cmpstring", "internal/abi.NoEscape", "internal/bytealg.IndexString"], unfollowed := true, recurses := true, named := ["pneumatic/lexer.ranges", "internal/strconv.uint64pow10", "math/bits.deBruijn32tab", "math/bits.deBruijn64tab", "strconv.ErrSyntax", "strconv.ErrRange", "internal/bytealg.MaxLen"], plainKeys := false, apart := false, laid := [("math/bits.deBruijn32tab", laid_math_bits_deBruijn32tab), ("math/bits.deBruijn64tab", laid_math_bits_deBruijn64tab), ("internal/strconv.uint64pow10", laid_internal_strconv_uint64pow10), ("strconv.ErrRange", laid_strconv_ErrRange), ("strconv.ErrSyntax", laid_strconv_ErrSyntax), ("pneumatic/lexer.ranges", laid_pneumatic_lexer_ranges)], narrowed := true }
def NetlistReturnsUptoSaid : Prop := netlistReturnsUptoRow.holds Tryz.pinned (OpenSpec.upto netlistReturnsSpec)

/-- 'pneumaticlaw23.NetlistJoins', WHERE WHAT IT READS IS OF BULK AT MOST 1048576: true; the input reads as it did. -/
def netlistJoinsUptoRow : OpenClaim := { program := "ytmfjjncfdpejiaagreatdoor", sum := "b3b39d4fe85d9bc55e88804d6e0c8f242c4523589132b159f2706f6465838b20", func := "pneumatic/pneumaticlaw23.NetlistJoins", spec := "netlistJoins", inPlace := ["internal/bytealg.IndexByteString", "internal/bytealg.abigen_runtime_cmpstring", "internal/abi.NoEscape", "internal/bytealg.IndexString"], unfollowed := true, recurses := true, named := ["pneumatic/lexer.ranges", "internal/strconv.uint64pow10", "math/bits.deBruijn32tab", "math/bits.deBruijn64tab", "strconv.ErrSyntax", "strconv.ErrRange", "internal/bytealg.MaxLen"], plainKeys := false, apart := false, laid := [("math/bits.deBruijn32tab", laid_math_bits_deBruijn32tab), ("math/bits.deBruijn64tab", laid_math_bits_deBruijn64tab), ("internal/strconv.uint64pow10", laid_internal_strconv_uint64pow10), ("strconv.ErrRange", laid_strconv_ErrRange), ("strconv.ErrSyntax", laid_strconv_ErrSyntax), ("pneumatic/lexer.ranges", laid_pneumatic_lexer_ranges)], narrowed := true }
def NetlistJoinsUptoSaid : Prop := netlistJoinsUptoRow.holds Tryz.pinned (OpenSpec.upto netlistJoinsSpec)

/-- 'pneumaticlaw23.NetlistReads', WHERE WHAT IT READS IS OF BULK AT MOST 1048576: true; the input reads as it did. -/
def netlistReadsUptoRow : OpenClaim := { program := "ytmfjjncfdpejiaagreatdoor", sum := "b3b39d4fe85d9bc55e88804d6e0c8f242c4523589132b159f2706f6465838b20", func := "pneumatic/pneumaticlaw23.NetlistReads", spec := "netlistReads", inPlace := ["internal/bytealg.IndexByteString", "internal/bytealg.abigen_runtime_cmpstring", "internal/abi.NoEscape", "internal/bytealg.IndexString", "internal/bytealg.CountString", "slices.overlaps[string]", "internal/bytealg.MakeNoZero"], unfollowed := true, recurses := true, named := ["pneumatic/lexer.ranges", "internal/strconv.uint64pow10", "math/bits.deBruijn32tab", "math/bits.deBruijn64tab", "strconv.ErrSyntax", "strconv.ErrRange", "internal/bytealg.MaxLen", "unicode/utf8.first", "unicode/utf8.acceptRanges"], plainKeys := false, apart := false, laid := [("math/bits.deBruijn32tab", laid_math_bits_deBruijn32tab), ("math/bits.deBruijn64tab", laid_math_bits_deBruijn64tab), ("internal/strconv.uint64pow10", laid_internal_strconv_uint64pow10), ("unicode/utf8.acceptRanges", laid_unicode_utf8_acceptRanges), ("strconv.ErrRange", laid_strconv_ErrRange), ("strconv.ErrSyntax", laid_strconv_ErrSyntax), ("pneumatic/lexer.ranges", laid_pneumatic_lexer_ranges), ("unicode/utf8.first", laid_unicode_utf8_first)], narrowed := true }
def NetlistReadsUptoSaid : Prop := netlistReadsUptoRow.holds Tryz.pinned (OpenSpec.upto netlistReadsSpec)

/-- 'pneumatictop.TopPressureRename', WHERE WHAT IT READS IS OF BULK AT MOST 1048576: true; the input reads as it did. -/
def topPressureRenameUptoRow : OpenClaim := { program := "ytmfjjncfdpejiaagreatdoor", sum := "b3b39d4fe85d9bc55e88804d6e0c8f242c4523589132b159f2706f6465838b20", func := "pneumatic/pneumatictop.TopPressureRename", spec := "topPressureRename", inPlace := ["internal/bytealg.IndexByteString", "internal/bytealg.abigen_runtime_cmpstring", "internal/bytealg.IndexString"], unfollowed := true, recurses := true, named := ["pneumatic/lexer.ranges", "internal/strconv.uint64pow10", "math/bits.deBruijn32tab", "math/bits.deBruijn64tab", "unicode/utf8.first", "unicode/utf8.acceptRanges", "internal/bytealg.MaxLen"], plainKeys := false, apart := false, laid := [("math/bits.deBruijn32tab", laid_math_bits_deBruijn32tab), ("math/bits.deBruijn64tab", laid_math_bits_deBruijn64tab), ("internal/strconv.uint64pow10", laid_internal_strconv_uint64pow10), ("unicode/utf8.acceptRanges", laid_unicode_utf8_acceptRanges), ("pneumatic/lexer.ranges", laid_pneumatic_lexer_ranges), ("unicode/utf8.first", laid_unicode_utf8_first)], narrowed := true }
def TopPressureRenameUptoSaid : Prop := topPressureRenameUptoRow.holds Tryz.pinned (OpenSpec.upto topPressureRenameSpec)

/-- 'pneumatictop.TopCircuitsRead', WHERE WHAT IT READS IS OF BULK AT MOST 1048576: true; the input reads as it did. -/
def topCircuitsReadUptoRow : OpenClaim := { program := "ytmfjjncfdpejiaagreatdoor", sum := "b3b39d4fe85d9bc55e88804d6e0c8f242c4523589132b159f2706f6465838b20", func := "pneumatic/pneumatictop.TopCircuitsRead", spec := "topCircuitsRead", inPlace := ["internal/bytealg.IndexByteString", "internal/bytealg.IndexString", "internal/bytealg.abigen_runtime_cmpstring", "internal/abi.NoEscape"], unfollowed := true, recurses := true, named := ["pneumatic/lexer.ranges", "strconv.ErrSyntax", "strconv.ErrRange", "internal/strconv.uint64pow10", "math/bits.deBruijn32tab", "math/bits.deBruijn64tab", "internal/bytealg.MaxLen"], plainKeys := false, apart := false, laid := [("math/bits.deBruijn32tab", laid_math_bits_deBruijn32tab), ("math/bits.deBruijn64tab", laid_math_bits_deBruijn64tab), ("internal/strconv.uint64pow10", laid_internal_strconv_uint64pow10), ("strconv.ErrRange", laid_strconv_ErrRange), ("strconv.ErrSyntax", laid_strconv_ErrSyntax), ("pneumatic/lexer.ranges", laid_pneumatic_lexer_ranges)], narrowed := true }
def TopCircuitsReadUptoSaid : Prop := topCircuitsReadUptoRow.holds Tryz.pinned (OpenSpec.upto topCircuitsReadSpec)

/-- 'pneumatictop.TopCircuitsPrune', WHERE WHAT IT READS IS OF BULK AT MOST 1048576: true; the input reads as it did. -/
def topCircuitsPruneUptoRow : OpenClaim := { program := "ytmfjjncfdpejiaagreatdoor", sum := "b3b39d4fe85d9bc55e88804d6e0c8f242c4523589132b159f2706f6465838b20", func := "pneumatic/pneumatictop.TopCircuitsPrune", spec := "topCircuitsPrune", inPlace := ["internal/bytealg.IndexByteString", "internal/bytealg.IndexString", "internal/bytealg.abigen_runtime_cmpstring"], unfollowed := true, recurses := true, named := ["pneumatic/lexer.ranges", "strconv.ErrSyntax", "strconv.ErrRange", "internal/strconv.uint64pow10", "math/bits.deBruijn32tab", "math/bits.deBruijn64tab", "internal/bytealg.MaxLen"], plainKeys := false, apart := false, laid := [("math/bits.deBruijn32tab", laid_math_bits_deBruijn32tab), ("math/bits.deBruijn64tab", laid_math_bits_deBruijn64tab), ("internal/strconv.uint64pow10", laid_internal_strconv_uint64pow10), ("strconv.ErrRange", laid_strconv_ErrRange), ("strconv.ErrSyntax", laid_strconv_ErrSyntax), ("pneumatic/lexer.ranges", laid_pneumatic_lexer_ranges)], narrowed := true }
def TopCircuitsPruneUptoSaid : Prop := topCircuitsPruneUptoRow.holds Tryz.pinned (OpenSpec.upto topCircuitsPruneSpec)

/-- 'pneumatictop.TopCircuitsRename', WHERE WHAT IT READS IS OF BULK AT MOST 1048576: true; the input reads as it did. -/
def topCircuitsRenameUptoRow : OpenClaim := { program := "ytmfjjncfdpejiaagreatdoor", sum := "b3b39d4fe85d9bc55e88804d6e0c8f242c4523589132b159f2706f6465838b20", func := "pneumatic/pneumatictop.TopCircuitsRename", spec := "topCircuitsRename", inPlace := ["internal/bytealg.IndexByteString", "internal/bytealg.IndexString", "internal/bytealg.abigen_runtime_cmpstring"], unfollowed := true, recurses := true, named := ["pneumatic/lexer.ranges", "strconv.ErrSyntax", "strconv.ErrRange", "internal/strconv.uint64pow10", "math/bits.deBruijn32tab", "math/bits.deBruijn64tab", "internal/bytealg.MaxLen", "unicode/utf8.first", "unicode/utf8.acceptRanges"], plainKeys := false, apart := false, laid := [("math/bits.deBruijn32tab", laid_math_bits_deBruijn32tab), ("math/bits.deBruijn64tab", laid_math_bits_deBruijn64tab), ("internal/strconv.uint64pow10", laid_internal_strconv_uint64pow10), ("unicode/utf8.acceptRanges", laid_unicode_utf8_acceptRanges), ("strconv.ErrRange", laid_strconv_ErrRange), ("strconv.ErrSyntax", laid_strconv_ErrSyntax), ("pneumatic/lexer.ranges", laid_pneumatic_lexer_ranges), ("unicode/utf8.first", laid_unicode_utf8_first)], narrowed := true }
def TopCircuitsRenameUptoSaid : Prop := topCircuitsRenameUptoRow.holds Tryz.pinned (OpenSpec.upto topCircuitsRenameSpec)

end Rows
end Go.Proofs.YtmfjjncfdpejiaaGreatDoor
